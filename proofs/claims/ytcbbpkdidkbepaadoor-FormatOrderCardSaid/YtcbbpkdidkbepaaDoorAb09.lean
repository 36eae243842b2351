/- Arguments as a row reads them, as abstract values. No condition. -/
import Derived.Test.YtcbbpkdidkbepaaDoorAb06
import GoSem.ClaimChange
set_option linter.all false
namespace Ab
open Go Go.RowKit

def consec (P : Program) : Nat → List Field → Option Nat
  | n, [] => some n
  | n, f :: r => if f.offset = n then consec P (n + P.cellsOf f.type) r else none

/- a set of types that is closed, of those that are read here -/
def closedT (P : Program) (S : List TypeId) : Bool := S.all fun t => match P.underlying t with
  | some .bool | some (.int _) | some .string => true
  | some (.slice e) => S.contains e && decide (0 < P.cellsOf e)
  | some (.struct fs) => fs.toList.all (fun f => S.contains f.type) && consec P 0 fs.toList == some (P.cellsOf t)
  | _ => false

def elemAV (agg : Bool) (ys : List AV) : AV := if agg then .agg ys else ys.headD .junk

inductive Of (P : Program) : TypeId → List AV → Prop
  | bool {t : TypeId} (h : P.underlying t = some .bool) (b : Bool) : Of P t [.bool b]
  | int {t : TypeId} {k : IntKind} (h : P.underlying t = some (.int k)) (n : Int) (hw : (Lit.int k n).wf = true) : Of P t [.int k n]
  | str {t : TypeId} (h : P.underlying t = some .string) (s : List UInt8) (hl : s.length ≤ maxLen) : Of P t [.str s]
  | nil {t e : TypeId} (h : P.underlying t = some (.slice e)) : Of P t [.sl .nil (P.cellsOf e) []]
  | slice {t e : TypeId} (h : P.underlying t = some (.slice e)) (yss : List (List AV)) (hy : ∀ ys ∈ yss, Of P e ys) (hl : yss.length ≤ maxLen) : Of P t [.sl .any (P.cellsOf e) (yss.map (elemAV ((isAggP P e).getD false)))]
  | struct {t : TypeId} {fs : Array Field} (h : P.underlying t = some (.struct fs)) (xss : List (List AV)) (hlen : xss.length = fs.size) (hx : ∀ (i : Nat) (f : Field) (xs : List AV), fs[i]? = some f → xss[i]? = some xs → Of P f.type xs) : Of P t xss.flatten

theorem exists_list {α : Type} {Q : Nat → α → Prop} : ∀ {n : Nat}, (∀ i, i < n → ∃ x, Q i x) → ∃ l : List α, l.length = n ∧ ∀ (i : Nat) (x : α), l[i]? = some x → Q i x
  | 0, _ => ⟨[], rfl, by simp⟩
  | n + 1, h => by
    obtain ⟨l, hl, hq⟩ := exists_list (n := n) fun i hi => h i (by omega)
    obtain ⟨x, hx⟩ := h n (by omega)
    refine ⟨l ++ [x], by simp [hl], fun i y hy => ?_⟩
    by_cases hi : i < n
    · rw [List.getElem?_append_left (by omega)] at hy
      exact hq i y hy
    · have : i < (l ++ [x]).length := (List.getElem?_eq_some_iff.1 hy).1
      simp [hl] at this
      have : i = n := by omega
      subst this
      rw [List.getElem?_append_right (by omega)] at hy
      simp [hl] at hy
      subst hy; exact hx

theorem mapM_len {α β : Type} {f : α → Option β} : ∀ {l : List α} {r : List β}, l.mapM f = some r → r.length = l.length
  | [], r, h => by simp at h; subst h; rfl
  | x :: l, r, h => by
    simp only [List.mapM_cons, Option.bind_eq_bind, Option.bind_eq_some_iff, Option.pure_def, Option.some.injEq] at h
    obtain ⟨b, _, r', hr', rfl⟩ := h
    simp [mapM_len hr']

theorem mapM_get {α β : Type} {f : α → Option β} : ∀ {l : List α} {r : List β}, l.mapM f = some r → ∀ (i : Nat) (a : α), l[i]? = some a → ∃ b, r[i]? = some b ∧ f a = some b
  | [], r, h, i, a, ha => by simp at ha
  | x :: l, r, h, i, a, ha => by
    simp only [List.mapM_cons, Option.bind_eq_bind, Option.bind_eq_some_iff, Option.pure_def, Option.some.injEq] at h
    obtain ⟨b, hb, r', hr', rfl⟩ := h
    cases i with
    | zero => simp at ha; subst ha; exact ⟨b, rfl, hb⟩
    | succ i => simp at ha; simpa using mapM_get hr' i a ha

theorem cell_spot {w : World} {a : Addr} {v : Value} (h : w.cell? a = some v) : a.spot = none ∧ a.block < w.heap.size := by
  unfold World.cell? at h
  split at h
  · rename_i c e fz hc
    split at h
    · cases h
    · rename_i hs
      exact ⟨by simpa using hs, (Array.getElem?_eq_some_iff.1 hc).1⟩
  · cases h

theorem cell_add {w : World} {a : Addr} {n : Nat} {v : Value} (h : w.cell? (a.add n) = some v) : w.cell? ⟨a.block, a.off + n, none⟩ = some v ∧ a.block < w.heap.size := by
  have hs := cell_spot h
  have e : a.add n = ⟨a.block, a.off + n, none⟩ := by
    unfold Addr.add at hs ⊢
    split at hs
    · rename_i h0; subst h0; obtain ⟨b, o, s⟩ := a; simp only at hs; simp [hs.1]
    · rename_i h0; rw [if_neg h0]
  rw [e] at h
  refine ⟨h, ?_⟩
  have := hs.2
  rw [e] at this; exact this

theorem cells_spec {w : World} {a : Addr} {n : Nat} {cs : List Value} (h : w.cells? 0 a n = some cs) : cs.length = n ∧ ∀ (j : Nat) (c : Value), cs[j]? = some c → w.cell? (a.add j) = some c := by
  unfold World.cells? at h
  simp only [Nat.zero_le, if_true] at h
  have hl := mapM_len h
  simp at hl
  refine ⟨hl, fun j c hj => ?_⟩
  have hjn : j < n := by have := (List.getElem?_eq_some_iff.1 hj).1; omega
  obtain ⟨b, hb, hc⟩ := mapM_get h j j (by simp [hjn])
  rw [hj] at hb; cases hb; exact hc

theorem lies_append {g : Gh} {w : World} {b o : Nat} {xs ys : List Value} (h1 : Lies g w b o xs) (h2 : Lies g w b (o + xs.length) ys) : Lies g w b o (xs ++ ys) := by
  intro j c hj
  by_cases hl : j < xs.length
  · rw [List.getElem?_append_left hl] at hj; exact h1 j c hj
  · rw [List.getElem?_append_right (by omega)] at hj
    have := h2 (j - xs.length) c hj
    rwa [show o + xs.length + (j - xs.length) = o + j by omega] at this

theorem lies_flat {g : Gh} {w : World} {b n : Nat} : ∀ {vs : List Value} {o : Nat}, (∀ u ∈ vs, u.cells.size = n) → (∀ (i : Nat) (u : Value), vs[i]? = some u → Lies g w b (o + i * n) u.cells.toList) → Lies g w b o (flat vs)
  | [], o, _, _ => by intro j c hj; simp [flat] at hj
  | u :: vs, o, hs, h => by
    have h0 := h 0 u rfl
    simp only [Nat.zero_mul, Nat.add_zero] at h0
    have : flat (u :: vs) = u.cells.toList ++ flat vs := by simp [flat]
    rw [this]
    refine lies_append h0 (lies_flat (fun x hx => hs x (List.mem_cons_of_mem _ hx)) fun i x hi => ?_)
    have h1 := h (i + 1) x (by simpa using hi)
    have hsz := hs u (List.mem_cons_self ..)
    rw [show o + (i + 1) * n = o + u.cells.toList.length + i * n by simp [hsz, Nat.add_mul]; omega] at h1
    exact h1

/- what a type's cells are, told once -/
theorem isAgg_of {P : Program} {e : TypeId} {d : TypeDesc} (h : P.underlying e = some d) : isAggP P e = some (aggOf d) := by simp [isAggP, h]

theorem of_one {P : Program} {e : TypeId} {d : TypeDesc} (h : P.underlying e = some d) (hd : aggOf d = false) {ys : List AV} (ho : Of P e ys) : ∃ y, ys = [y] := by
  cases ho with
  | bool _ b => exact ⟨_, rfl⟩
  | int _ n _ => exact ⟨_, rfl⟩
  | str _ s _ => exact ⟨_, rfl⟩
  | nil _ => exact ⟨_, rfl⟩
  | slice _ yss _ _ => exact ⟨_, rfl⟩
  | struct h' xss _ _ => rw [h] at h'; cases h'; cases hd

theorem open_trod {H : Type} {enc : TypeId × Value → H} {P : Program} {S : List TypeId} (hS : closedT P S = true) {L : Lk} {W : World} : ∀ (fuel : Nat) (t : TypeId) (cs : List Value) (d : DataW H) (ps : List MemPlace), t ∈ S →
    DataW.trod enc P W 0 (fun _ => true) true fuel t cs = some (d, ps) → ∃ xs, RepL L (g0 W) W xs cs ∧ AV.untokL xs = xs ∧ (∀ u ∈ cs, oneCell u) ∧ Of P t xs
  | 0, t, cs, d, ps, _, h => by simp [DataW.trod] at h
  | fuel + 1, t, cs, d, ps, ht, h => by
    have hc := List.all_eq_true.1 hS t ht
    unfold DataW.trod at h
    cases hu : P.underlying t with
    | none => rw [hu] at hc; cases hc
    | some dd0 =>
      rw [hu] at hc h
      cases dd0 with
      | bool =>
        simp only at h
        split at h <;> first | (cases h; done) | (rename_i he; cases he; done) | skip
        rename_i b he
        refine ⟨[.bool b], RepL.singleton (by simp [Rep]), rfl, by simp [oneCell], .bool hu b⟩
      | int k =>
        simp only at h
        split at h <;> first | (cases h; done) | (rename_i he; cases he; done) | skip
        rename_i k0 k' n he
        cases he
        split at h
        · rename_i hk
          obtain ⟨rfl, hw⟩ := hk
          refine ⟨[.int k' n], RepL.singleton (by simp [Rep]), rfl, by simp [oneCell], .int hu n hw⟩
        · cases h
      | string =>
        simp only at h
        split at h <;> first | (cases h; done) | (rename_i he; cases he; done) | skip
        rename_i b he
        split at h
        · rename_i hl
          refine ⟨[.str b.data.toList], RepL.singleton (by simp [Rep]), rfl, by simp [oneCell], .str hu _ (by simpa using hl)⟩
        · cases h
      | slice e =>
        simp only at h
        split at h <;> first | (cases h; done) | (rename_i he; cases he; done) | skip
        · rename_i e0 he
          cases he
          refine ⟨[.sl .nil (P.cellsOf e) []], RepL.singleton ?_, rfl, by simp [oneCell], .nil hu⟩
          simp only [Rep]
          exact ⟨none, 0, [], rfl, Nat.le_refl _, rfl, by simp [RepL], by simp, by simp, by simp [OwnOk]⟩
        · rename_i e0 a len cap he
          cases he
          simp only [Bool.and_eq_true, List.contains_iff_mem, decide_eq_true_eq] at hc
          split at h
          · rename_i hb
            simp only [Option.bind_eq_some_iff, Option.map_eq_some_iff] at h
            obtain ⟨elems, helems, _⟩ := h
            -- each element
            have each : ∀ i, i < len → ∃ q : List Value × List AV, W.cells? 0 (a.add (i * P.cellsOf e)) (P.cellsOf e) = some q.1 ∧ RepL L (g0 W) W q.2 q.1 ∧ AV.untokL q.2 = q.2 ∧ (∀ u ∈ q.1, oneCell u) ∧ Of P e q.2 := by
              intro i hi
              obtain ⟨y, _, hy⟩ := mapM_get helems i i (by simp [hi])
              simp only [Option.bind_eq_some_iff] at hy
              obtain ⟨ci, hci, hti⟩ := hy
              obtain ⟨xs, h1, h2, h3, h4⟩ := open_trod hS fuel e ci y.1 y.2 hc.1 hti
              exact ⟨(ci, xs), hci, h1, h2, h3, h4⟩
            obtain ⟨qs, hqs, hq⟩ := exists_list each
            obtain ⟨dd, hdd⟩ : ∃ dd, P.underlying e = some dd := by
              have := List.all_eq_true.1 hS e hc.1
              cases he : P.underlying e with
              | none => rw [he] at this; cases this
              | some dd => exact ⟨dd, rfl⟩
            have hagg := isAgg_of hdd
            let tov : List Value × List AV → Value := fun q => if aggOf dd then .agg q.1.toArray else q.1.headD undef
            -- one element
            have elemRep : ∀ q ∈ qs, Rep L (g0 W) W (elemAV (aggOf dd) q.2) (tov q) ∧ (tov q).cells.toList = q.1 ∧ AV.untok (elemAV (aggOf dd) q.2) = elemAV (aggOf dd) q.2 := by
              intro q hqm
              obtain ⟨i, hi⟩ := List.mem_iff_getElem?.1 hqm
              obtain ⟨h1, h2, h3, h4, h5⟩ := hq i q hi
              cases hda : aggOf dd with
              | true =>
                simp only [elemAV, tov, hda, if_true]
                refine ⟨by simp only [Rep]; exact ⟨q.1, rfl, h2, h4⟩, by simp [Value.cells], by simp only [AV.untok, h3]⟩
              | false =>
                obtain ⟨y, hy⟩ := of_one hdd hda h5
                simp only [elemAV, tov, hda, hy, List.headD_cons]
                rw [hy] at h2 h3
                simp only [RepL] at h2
                obtain ⟨v, r, hv, h6, rfl⟩ := h2
                rw [hv]
                simp only [List.headD_cons]
                refine ⟨h6, ?_, by simpa [AV.untokL] using h3⟩
                have := h4 v (by rw [hv]; simp)
                rw [if_neg (by simp), one_cells this]
            have hvs : RepL L (g0 W) W (qs.map fun q => elemAV (aggOf dd) q.2) (qs.map tov) := RepL.map _ _ qs fun q hqm => (elemRep q hqm).1
            have hcellsz : ∀ q ∈ qs, q.1.length = P.cellsOf e := by
              intro q hqm
              obtain ⟨i, hi⟩ := List.mem_iff_getElem?.1 hqm
              exact (cells_spec (hq i q hi).1).1
            refine ⟨[.sl .any (P.cellsOf e) (qs.map fun q => elemAV (aggOf dd) q.2)], RepL.singleton ?_, rfl, by simp [oneCell], ?_⟩
            · simp only [Rep]
              refine ⟨some a, cap, qs.map tov, by simp [hqs], by simp [hqs]; omega, ?_, hvs, ?_, ⟨?_, ?_⟩, rfl⟩
              · rw [AV.untokL_eq, List.map_map]
                exact List.map_congr_left fun q hqm => (elemRep q hqm).2.2
              · intro u hu'
                obtain ⟨q, hqm, rfl⟩ := List.mem_map.1 hu'
                have h1 := (elemRep q hqm).2.1
                refine ⟨?_, ?_⟩
                · rw [← Array.length_toList, h1]; exact hcellsz q hqm
                · obtain ⟨i, hi⟩ := List.mem_iff_getElem?.1 hqm
                  rw [h1]; exact (hq i q hi).2.2.2.1
              · intro hne
                cases qs with
                | nil => simp at hne
                | cons q r =>
                  obtain ⟨h1, _⟩ := hq 0 q rfl
                  have h2 := cells_spec h1
                  have h3 : 0 < q.1.length := by rw [h2.1]; exact hc.2
                  have h4 := cell_spot (h2.2 0 q.1[0] (List.getElem?_eq_getElem h3))
                  have : (a.add (0 * P.cellsOf e)).add 0 = a := by simp [Addr.add]
                  rw [this] at h4
                  exact h4.1
              · refine lies_flat (n := P.cellsOf e) (fun u hu' => ?_) fun i u hi => ?_
                · obtain ⟨q, hqm, rfl⟩ := List.mem_map.1 hu'
                  rw [← Array.length_toList, (elemRep q hqm).2.1]; exact hcellsz q hqm
                · rw [List.getElem?_map] at hi
                  cases hqi : qs[i]? with
                  | none => rw [hqi] at hi; cases hi
                  | some q =>
                    rw [hqi] at hi
                    simp only [Option.map_some, Option.some.injEq] at hi
                    subst hi
                    rw [(elemRep q (List.mem_of_getElem? hqi)).2.1]
                    intro j c hj
                    have h2 := (cells_spec (hq i q hqi).1).2 j c hj
                    have h3 := cell_add h2
                    have h4 : (a.add (i * P.cellsOf e)).block = a.block ∧ (a.add (i * P.cellsOf e)).off = a.off + i * P.cellsOf e := by
                      unfold Addr.add; split
                      · rename_i h0; exact ⟨rfl, by omega⟩
                      · exact ⟨rfl, rfl⟩
                    rw [h4.1, h4.2] at h3
                    exact ⟨h3.2, h3.1⟩
            · have : (qs.map fun q => elemAV (aggOf dd) q.2) = (qs.map (·.2)).map (elemAV ((isAggP P e).getD false)) := by
                rw [hagg, List.map_map]; rfl
              rw [this]
              refine .slice hu _ (fun ys hys => ?_) (by simp [hqs]; omega)
              obtain ⟨q, hqm, rfl⟩ := List.mem_map.1 hys
              obtain ⟨i, hi⟩ := List.mem_iff_getElem?.1 hqm
              exact (hq i q hi).2.2.2.2
          · cases h
      | struct fs =>
        simp only at h
        simp only [Bool.and_eq_true, beq_iff_eq] at hc
        split at h
        · rename_i hlen
          simp only [Option.map_eq_some_iff] at h
          obtain ⟨xs, hxs, _⟩ := h
          have each : ∀ i, i < fs.toList.length → ∃ q : List AV, ∀ f, fs.toList[i]? = some f → RepL L (g0 W) W q ((cs.drop f.offset).take (P.cellsOf f.type)) ∧ AV.untokL q = q ∧ (∀ u ∈ (cs.drop f.offset).take (P.cellsOf f.type), oneCell u) ∧ Of P f.type q := by
            intro i hi
            obtain ⟨y, _, hy⟩ := mapM_get hxs i fs.toList[i] (List.getElem?_eq_getElem hi)
            have hmem : fs.toList[i].type ∈ S := by
              have := List.all_eq_true.1 hc.1 fs.toList[i] (List.getElem_mem hi)
              simpa using this
            obtain ⟨q, h1, h2, h3, h4⟩ := open_trod hS fuel _ _ y.1 y.2 hmem hy
            refine ⟨q, fun f hf => ?_⟩
            rw [List.getElem?_eq_getElem hi] at hf
            cases hf
            exact ⟨h1, h2, h3, h4⟩
          obtain ⟨qs, hqs, hq⟩ := exists_list each
          -- the parts lie one behind the other
          have glue : ∀ (l : List Field) (ys : List (List AV)) (n m : Nat), consec P n l = some m → ys.length = l.length → n ≤ cs.length → m ≤ cs.length → (∀ (i : Nat) (f : Field) (q : List AV), l[i]? = some f → ys[i]? = some q → RepL L (g0 W) W q ((cs.drop f.offset).take (P.cellsOf f.type)) ∧ AV.untokL q = q ∧ (∀ u ∈ (cs.drop f.offset).take (P.cellsOf f.type), oneCell u)) →
              n ≤ m ∧ RepL L (g0 W) W ys.flatten ((cs.drop n).take (m - n)) ∧ AV.untokL ys.flatten = ys.flatten ∧ ∀ u ∈ (cs.drop n).take (m - n), oneCell u := by
            intro l
            induction l with
            | nil =>
              intro ys n m hcon hyl _ _ _
              simp only [consec, Option.some.injEq] at hcon
              subst hcon
              have : ys = [] := List.eq_nil_of_length_eq_zero (by simpa using hyl)
              subst this
              simp [RepL, AV.untokL]
            | cons f l ih =>
              intro ys n m hcon hyl hn hm hall
              simp only [consec] at hcon
              split at hcon
              · rename_i hoff
                cases ys with
                | nil => simp at hyl
                | cons y ys =>
                  have h0 := hall 0 f y rfl rfl
                  rw [hoff] at h0
                  have hle : n + P.cellsOf f.type ≤ m := by
                    have : ∀ (l : List Field) (n m : Nat), consec P n l = some m → n ≤ m := by
                      intro l
                      induction l with
                      | nil => intro n m h; simp only [consec, Option.some.injEq] at h; omega
                      | cons g l ih =>
                        intro n m h
                        simp only [consec] at h
                        split at h
                        · have := ih _ _ h; omega
                        · cases h
                    exact this _ _ _ hcon
                  obtain ⟨_, i2, i3, i4⟩ := ih ys (n + P.cellsOf f.type) m hcon (by simpa using hyl) (by omega) hm (fun i g q hg hq' => hall (i + 1) g q (by simpa using hg) (by simpa using hq'))
                  have e1 : (cs.drop n).take (m - n) = (cs.drop n).take (P.cellsOf f.type) ++ (cs.drop (n + P.cellsOf f.type)).take (m - (n + P.cellsOf f.type)) := by
                    rw [show m - n = P.cellsOf f.type + (m - (n + P.cellsOf f.type)) by omega, List.take_add, List.drop_drop]
                  refine ⟨by omega, ?_, ?_, ?_⟩
                  · rw [e1, List.flatten_cons]; exact h0.1.append i2
                  · rw [List.flatten_cons, AV.untokL_append, h0.2.1, i3]
                  · intro u hu'
                    rw [e1] at hu'
                    rcases List.mem_append.1 hu' with hu' | hu'
                    · exact h0.2.2 u hu'
                    · exact i4 u hu'
              · cases hcon
          obtain ⟨_, g2, g3, g4⟩ := glue fs.toList qs 0 (P.cellsOf t) hc.2 hqs (Nat.zero_le _) (by omega) (fun i f q hf hq' => ⟨(hq i q hq' f hf).1, (hq i q hq' f hf).2.1, (hq i q hq' f hf).2.2.1⟩)
          have hwhole : (cs.drop 0).take (P.cellsOf t - 0) = cs := by simp [← hlen]
          rw [hwhole] at g2 g4
          refine ⟨qs.flatten, g2, g3, g4, .struct hu qs (by simpa using hqs) fun i f xs' hf hx' => (hq i xs' hx' f (by rw [Array.getElem?_toList]; exact hf)).2.2.2⟩
        · cases h
      | _ => cases hc
end Ab
