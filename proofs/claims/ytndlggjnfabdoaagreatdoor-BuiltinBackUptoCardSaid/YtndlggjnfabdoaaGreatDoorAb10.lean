/- Arguments as a row reads them, as abstract values. No condition. -/
import Derived.Test.YtndlggjnfabdoaaGreatDoorAb09
import GoSem.ClaimChange
import Derived.Test.YtndlggjnfabdoaaGreatDoorAb06
import Derived.IntWalk
set_option linter.all false
namespace Ab
open Go Go.RowKit

def consec (P : Program) : Nat → List Field → Option Nat
  | n, [] => some n
  | n, f :: r => if f.offset = n then consec P (n + P.cellsOf f.type) r else none

/- a set of types that is closed, of those that are read here -/
def closedT (P : Program) (S : List TypeId) : Bool := S.all fun t => match P.underlying t with
  | some .bool | some (.int _) | some .string => true
  | some (.slice e) => S.contains e && decide (0 < P.cellsOf e)
  | some (.struct fs) => fs.toList.all (fun f => S.contains f.type) && consec P 0 fs.toList == some (P.cellsOf t)
  | _ => false

def elemAV (agg : Bool) (ys : List AV) : AV := if agg then .agg ys else ys.headD .junk

inductive Of (P : Program) : TypeId → List AV → Prop
  | bool {t : TypeId} (h : P.underlying t = some .bool) (b : Bool) : Of P t [.bool b]
  | int {t : TypeId} {k : IntKind} (h : P.underlying t = some (.int k)) (n : Int) (hw : (Lit.int k n).wf = true) : Of P t [.int k n]
  | str {t : TypeId} (h : P.underlying t = some .string) (s : List UInt8) (hl : s.length ≤ maxLen) : Of P t [.str s]
  | nil {t e : TypeId} (h : P.underlying t = some (.slice e)) : Of P t [.sl .nil (P.cellsOf e) []]
  | slice {t e : TypeId} (h : P.underlying t = some (.slice e)) (yss : List (List AV)) (hy : ∀ ys ∈ yss, Of P e ys) (hl : yss.length ≤ maxLen) : Of P t [.sl .any (P.cellsOf e) (yss.map (elemAV ((isAggP P e).getD false)))]
  | struct {t : TypeId} {fs : Array Field} (h : P.underlying t = some (.struct fs)) (xss : List (List AV)) (hlen : xss.length = fs.size) (hx : ∀ (i : Nat) (f : Field) (xs : List AV), fs[i]? = some f → xss[i]? = some xs → Of P f.type xs) : Of P t xss.flatten

theorem exists_list {α : Type} {Q : Nat → α → Prop} : ∀ {n : Nat}, (∀ i, i < n → ∃ x, Q i x) → ∃ l : List α, l.length = n ∧ ∀ (i : Nat) (x : α), l[i]? = some x → Q i x
  | 0, _ => ⟨[], rfl, by simp⟩
  | n + 1, h => by
    obtain ⟨l, hl, hq⟩ := exists_list (n := n) fun i hi => h i (by omega)
    obtain ⟨x, hx⟩ := h n (by omega)
    refine ⟨l ++ [x], by simp [hl], fun i y hy => ?_⟩
    by_cases hi : i < n
    · rw [List.getElem?_append_left (by omega)] at hy
      exact hq i y hy
    · have : i < (l ++ [x]).length := (List.getElem?_eq_some_iff.1 hy).1
      simp [hl] at this
      have : i = n := by omega
      subst this
      rw [List.getElem?_append_right (by omega)] at hy
      simp [hl] at hy
      subst hy; exact hx

theorem mapM_len {α β : Type} {f : α → Option β} : ∀ {l : List α} {r : List β}, l.mapM f = some r → r.length = l.length
  | [], r, h => by simp at h; subst h; rfl
  | x :: l, r, h => by
    simp only [List.mapM_cons, Option.bind_eq_bind, Option.bind_eq_some_iff, Option.pure_def, Option.some.injEq] at h
    obtain ⟨b, _, r', hr', rfl⟩ := h
    simp [mapM_len hr']

theorem mapM_get {α β : Type} {f : α → Option β} : ∀ {l : List α} {r : List β}, l.mapM f = some r → ∀ (i : Nat) (a : α), l[i]? = some a → ∃ b, r[i]? = some b ∧ f a = some b
  | [], r, h, i, a, ha => by simp at ha
  | x :: l, r, h, i, a, ha => by
    simp only [List.mapM_cons, Option.bind_eq_bind, Option.bind_eq_some_iff, Option.pure_def, Option.some.injEq] at h
    obtain ⟨b, hb, r', hr', rfl⟩ := h
    cases i with
    | zero => simp at ha; subst ha; exact ⟨b, rfl, hb⟩
    | succ i => simp at ha; simpa using mapM_get hr' i a ha

theorem cell_spot {w : World} {a : Addr} {v : Value} (h : w.cell? a = some v) : a.spot = none ∧ a.block < w.heap.size := by
  unfold World.cell? at h
  split at h
  · rename_i c e fz hc
    split at h
    · cases h
    · rename_i hs
      exact ⟨by simpa using hs, (Array.getElem?_eq_some_iff.1 hc).1⟩
  · cases h

theorem cell_add {w : World} {a : Addr} {n : Nat} {v : Value} (h : w.cell? (a.add n) = some v) : w.cell? ⟨a.block, a.off + n, none⟩ = some v ∧ a.block < w.heap.size := by
  have hs := cell_spot h
  have e : a.add n = ⟨a.block, a.off + n, none⟩ := by
    unfold Addr.add at hs ⊢
    split at hs
    · rename_i h0; subst h0; obtain ⟨b, o, s⟩ := a; simp only at hs; simp [hs.1]
    · rename_i h0; rw [if_neg h0]
  rw [e] at h
  refine ⟨h, ?_⟩
  have := hs.2
  rw [e] at this; exact this

theorem cells_spec {w : World} {a : Addr} {n : Nat} {cs : List Value} (h : w.cells? 0 a n = some cs) : cs.length = n ∧ ∀ (j : Nat) (c : Value), cs[j]? = some c → w.cell? (a.add j) = some c := by
  unfold World.cells? at h
  simp only [Nat.zero_le, if_true] at h
  have hl := mapM_len h
  simp at hl
  refine ⟨hl, fun j c hj => ?_⟩
  have hjn : j < n := by have := (List.getElem?_eq_some_iff.1 hj).1; omega
  obtain ⟨b, hb, hc⟩ := mapM_get h j j (by simp [hjn])
  rw [hj] at hb; cases hb; exact hc

theorem lies_append {g : Gh} {w : World} {b o : Nat} {xs ys : List Value} (h1 : Lies g w b o xs) (h2 : Lies g w b (o + xs.length) ys) : Lies g w b o (xs ++ ys) := by
  intro j c hj
  by_cases hl : j < xs.length
  · rw [List.getElem?_append_left hl] at hj; exact h1 j c hj
  · rw [List.getElem?_append_right (by omega)] at hj
    have := h2 (j - xs.length) c hj
    rwa [show o + xs.length + (j - xs.length) = o + j by omega] at this

theorem lies_flat {g : Gh} {w : World} {b n : Nat} : ∀ {vs : List Value} {o : Nat}, (∀ u ∈ vs, u.cells.size = n) → (∀ (i : Nat) (u : Value), vs[i]? = some u → Lies g w b (o + i * n) u.cells.toList) → Lies g w b o (flat vs)
  | [], o, _, _ => by intro j c hj; simp [flat] at hj
  | u :: vs, o, hs, h => by
    have h0 := h 0 u rfl
    simp only [Nat.zero_mul, Nat.add_zero] at h0
    have : flat (u :: vs) = u.cells.toList ++ flat vs := by simp [flat]
    rw [this]
    refine lies_append h0 (lies_flat (fun x hx => hs x (List.mem_cons_of_mem _ hx)) fun i x hi => ?_)
    have h1 := h (i + 1) x (by simpa using hi)
    have hsz := hs u (List.mem_cons_self ..)
    rw [show o + (i + 1) * n = o + u.cells.toList.length + i * n by simp [hsz, Nat.add_mul]; omega] at h1
    exact h1

/- what a type's cells are, told once -/
theorem isAgg_of {P : Program} {e : TypeId} {d : TypeDesc} (h : P.underlying e = some d) : isAggP P e = some (aggOf d) := by simp [isAggP, h]

theorem of_one {P : Program} {e : TypeId} {d : TypeDesc} (h : P.underlying e = some d) (hd : aggOf d = false) {ys : List AV} (ho : Of P e ys) : ∃ y, ys = [y] := by
  cases ho with
  | bool _ b => exact ⟨_, rfl⟩
  | int _ n _ => exact ⟨_, rfl⟩
  | str _ s _ => exact ⟨_, rfl⟩
  | nil _ => exact ⟨_, rfl⟩
  | slice _ yss _ _ => exact ⟨_, rfl⟩
  | struct h' xss _ _ => rw [h] at h'; cases h'; cases hd

/- how much there is: values and letters, of what is read and of what it becomes -/
mutual
def bulkD {H : Type} : DataW H → Nat
  | .lit (.string bytes) => bytes.length + 1
  | .lit _ => 1
  | .nil => 1
  | .ptr d => bulkD d + 1
  | .slice elems spare => bulkL elems + bulkL spare + 1
  | .agg parts => bulkL parts + 1
  | .iface _ d => bulkD d + 1
  | .map entries => bulkE entries + 1
  | .held _ => 1
def bulkL {H : Type} : List (DataW H) → Nat
  | [] => 0
  | d :: r => bulkD d + bulkL r
def bulkE {H : Type} : List (Lit × DataW H) → Nat
  | [] => 0
  | x :: r => bulkF x + bulkE r
def bulkF {H : Type} : Lit × DataW H → Nat
  | (.string bytes, d) => bytes.length + bulkD d + 1
  | (_, d) => bulkD d + 1
end
mutual
def AV.sz : AV → Nat
  | .str s => s.length + 1
  | .sl _ _ xs => AV.szL xs + 1
  | .agg xs => AV.szL xs + 1
  | _ => 1
def AV.szL : List AV → Nat
  | [] => 0
  | x :: xs => AV.sz x + AV.szL xs
end
theorem AV.szL_append : ∀ a b : List AV, AV.szL (a ++ b) = AV.szL a + AV.szL b
  | [], b => by simp [AV.szL]
  | x :: a, b => by simp only [List.cons_append, AV.szL, AV.szL_append a b]; omega
def anP (P : Program) (t : TypeId) : Nat := if (isAggP P t).getD false then 1 else 0
theorem szL_bulk {H : Type} {γ : Type} : ∀ {qs : List γ} {g : γ → AV} {es : List (DataW H × List MemPlace)}, qs.length = es.length → (∀ (i : Nat) q y, qs[i]? = some q → es[i]? = some y → AV.sz (g q) ≤ bulkD y.1) → AV.szL (qs.map g) ≤ bulkL (es.map (·.1))
  | [], _, [], _, _ => by simp [AV.szL, bulkL]
  | q :: qs, g, y :: es, hl, h => by
    have h0 := h 0 q y rfl rfl
    have h1 := szL_bulk (qs := qs) (g := g) (es := es) (by simpa using hl) fun i a b ha hb => h (i + 1) a b (by simpa using ha) (by simpa using hb)
    simp only [List.map_cons, AV.szL, bulkL]; omega
theorem szF_bulk {H : Type} : ∀ {qs : List (List AV)} {es : List (DataW H × List MemPlace)}, qs.length = es.length → (∀ (i : Nat) q y, qs[i]? = some q → es[i]? = some y → AV.szL q ≤ bulkD y.1) → AV.szL qs.flatten ≤ bulkL (es.map (·.1))
  | [], [], _, _ => by simp [AV.szL, bulkL]
  | q :: qs, y :: es, hl, h => by
    have h0 := h 0 q y rfl rfl
    have h1 := szF_bulk (qs := qs) (es := es) (by simpa using hl) fun i a b ha hb => h (i + 1) a b (by simpa using ha) (by simpa using hb)
    simp only [List.flatten_cons, AV.szL_append, List.map_cons, bulkL]; omega
theorem open_trod {H : Type} {enc : TypeId × Value → H} {P : Program} {S : List TypeId} (hS : closedT P S = true) {L : Lk} {W : World} : ∀ (fuel : Nat) (t : TypeId) (cs : List Value) (d : DataW H) (ps : List MemPlace), t ∈ S →
    DataW.trod enc P W 0 (fun _ => true) true fuel t cs = some (d, ps) → ∃ xs, RepL L (g0 W) W xs cs ∧ AV.untokL xs = xs ∧ (∀ u ∈ cs, oneCell u) ∧ Of P t xs ∧ AV.szL xs + anP P t ≤ bulkD d
  | 0, t, cs, d, ps, _, h => by simp [DataW.trod] at h
  | fuel + 1, t, cs, d, ps, ht, h => by
    have hc := List.all_eq_true.1 hS t ht
    unfold DataW.trod at h
    cases hu : P.underlying t with
    | none => rw [hu] at hc; cases hc
    | some dd0 =>
      rw [hu] at hc h
      cases dd0 with
      | bool =>
        simp only at h
        split at h <;> first | (cases h; done) | (rename_i he; cases he; done) | skip
        rename_i b he
        refine ⟨[.bool b], RepL.singleton (by simp [Rep]), rfl, by simp [oneCell], .bool hu b, by cases h; simp [AV.szL, AV.sz, anP, isAggP, hu, aggOf, bulkD]⟩
      | int k =>
        simp only at h
        split at h <;> first | (cases h; done) | (rename_i he; cases he; done) | skip
        rename_i k0 k' n he
        cases he
        split at h
        · rename_i hk
          obtain ⟨rfl, hw⟩ := hk
          refine ⟨[.int k' n], RepL.singleton (by simp [Rep]), rfl, by simp [oneCell], .int hu n hw, by cases h; simp [AV.szL, AV.sz, anP, isAggP, hu, aggOf, bulkD]⟩
        · cases h
      | string =>
        simp only at h
        split at h <;> first | (cases h; done) | (rename_i he; cases he; done) | skip
        rename_i b he
        split at h
        · rename_i hl
          refine ⟨[.str b.data.toList], RepL.singleton (by simp [Rep]), rfl, by simp [oneCell], .str hu _ (by simpa using hl), by cases h; simp [AV.szL, AV.sz, anP, isAggP, hu, aggOf, bulkD]⟩
        · cases h
      | slice e =>
        simp only at h
        split at h <;> first | (cases h; done) | (rename_i he; cases he; done) | skip
        · rename_i e0 he
          cases he
          refine ⟨[.sl .nil (P.cellsOf e) []], RepL.singleton ?_, rfl, by simp [oneCell], .nil hu, by cases h; simp [AV.szL, AV.sz, anP, isAggP, hu, aggOf, bulkD]⟩
          simp only [Rep]
          exact ⟨none, 0, [], rfl, Nat.le_refl _, rfl, by simp [RepL], by simp, by simp, by simp [OwnOk]⟩
        · rename_i e0 a len cap he
          cases he
          simp only [Bool.and_eq_true, List.contains_iff_mem, decide_eq_true_eq] at hc
          split at h
          · rename_i hb
            simp only [Option.bind_eq_some_iff, Option.map_eq_some_iff] at h
            obtain ⟨elems, helems, rest, _, hd⟩ := h
            cases hd
            -- each element
            have each : ∀ i, i < len → ∃ q : List Value × List AV, W.cells? 0 (a.add (i * P.cellsOf e)) (P.cellsOf e) = some q.1 ∧ RepL L (g0 W) W q.2 q.1 ∧ AV.untokL q.2 = q.2 ∧ (∀ u ∈ q.1, oneCell u) ∧ Of P e q.2 ∧ ∀ y, elems[i]? = some y → AV.szL q.2 + anP P e ≤ bulkD y.1 := by
              intro i hi
              obtain ⟨y, hyi, hy⟩ := mapM_get helems i i (by simp [hi])
              simp only [Option.bind_eq_some_iff] at hy
              obtain ⟨ci, hci, hti⟩ := hy
              obtain ⟨xs, h1, h2, h3, h4, h5⟩ := open_trod hS fuel e ci y.1 y.2 hc.1 hti
              exact ⟨(ci, xs), hci, h1, h2, h3, h4, fun y' hy' => by rw [hyi] at hy'; cases hy'; exact h5⟩
            obtain ⟨qs, hqs, hq⟩ := exists_list each
            obtain ⟨dd, hdd⟩ : ∃ dd, P.underlying e = some dd := by
              have := List.all_eq_true.1 hS e hc.1
              cases he : P.underlying e with
              | none => rw [he] at this; cases this
              | some dd => exact ⟨dd, rfl⟩
            have hagg := isAgg_of hdd
            let tov : List Value × List AV → Value := fun q => if aggOf dd then .agg q.1.toArray else q.1.headD undef
            -- one element
            have elemRep : ∀ q ∈ qs, Rep L (g0 W) W (elemAV (aggOf dd) q.2) (tov q) ∧ (tov q).cells.toList = q.1 ∧ AV.untok (elemAV (aggOf dd) q.2) = elemAV (aggOf dd) q.2 := by
              intro q hqm
              obtain ⟨i, hi⟩ := List.mem_iff_getElem?.1 hqm
              obtain ⟨h1, h2, h3, h4, h5, _⟩ := hq i q hi
              cases hda : aggOf dd with
              | true =>
                simp only [elemAV, tov, hda, if_true]
                refine ⟨by simp only [Rep]; exact ⟨q.1, rfl, h2, h4⟩, by simp [Value.cells], by simp only [AV.untok, h3]⟩
              | false =>
                obtain ⟨y, hy⟩ := of_one hdd hda h5
                simp only [elemAV, tov, hda, hy, List.headD_cons]
                rw [hy] at h2 h3
                simp only [RepL] at h2
                obtain ⟨v, r, hv, h6, rfl⟩ := h2
                rw [hv]
                simp only [List.headD_cons]
                refine ⟨h6, ?_, by simpa [AV.untokL] using h3⟩
                have := h4 v (by rw [hv]; simp)
                rw [if_neg (by simp), one_cells this]
            have hvs : RepL L (g0 W) W (qs.map fun q => elemAV (aggOf dd) q.2) (qs.map tov) := RepL.map _ _ qs fun q hqm => (elemRep q hqm).1
            have hcellsz : ∀ q ∈ qs, q.1.length = P.cellsOf e := by
              intro q hqm
              obtain ⟨i, hi⟩ := List.mem_iff_getElem?.1 hqm
              exact (cells_spec (hq i q hi).1).1
            refine ⟨[.sl .any (P.cellsOf e) (qs.map fun q => elemAV (aggOf dd) q.2)], RepL.singleton ?_, rfl, by simp [oneCell], ?_, ?_⟩
            · simp only [Rep]
              refine ⟨some a, cap, qs.map tov, by simp [hqs], by simp [hqs]; omega, ?_, hvs, ?_, ⟨?_, ?_⟩, rfl⟩
              · rw [AV.untokL_eq, List.map_map]
                exact List.map_congr_left fun q hqm => (elemRep q hqm).2.2
              · intro u hu'
                obtain ⟨q, hqm, rfl⟩ := List.mem_map.1 hu'
                have h1 := (elemRep q hqm).2.1
                refine ⟨?_, ?_⟩
                · rw [← Array.length_toList, h1]; exact hcellsz q hqm
                · obtain ⟨i, hi⟩ := List.mem_iff_getElem?.1 hqm
                  rw [h1]; exact (hq i q hi).2.2.2.1
              · intro hne
                cases qs with
                | nil => simp at hne
                | cons q r =>
                  obtain ⟨h1, _⟩ := hq 0 q rfl
                  have h2 := cells_spec h1
                  have h3 : 0 < q.1.length := by rw [h2.1]; exact hc.2
                  have h4 := cell_spot (h2.2 0 q.1[0] (List.getElem?_eq_getElem h3))
                  have : (a.add (0 * P.cellsOf e)).add 0 = a := by simp [Addr.add]
                  rw [this] at h4
                  exact h4.1
              · refine lies_flat (n := P.cellsOf e) (fun u hu' => ?_) fun i u hi => ?_
                · obtain ⟨q, hqm, rfl⟩ := List.mem_map.1 hu'
                  rw [← Array.length_toList, (elemRep q hqm).2.1]; exact hcellsz q hqm
                · rw [List.getElem?_map] at hi
                  cases hqi : qs[i]? with
                  | none => rw [hqi] at hi; cases hi
                  | some q =>
                    rw [hqi] at hi
                    simp only [Option.map_some, Option.some.injEq] at hi
                    subst hi
                    rw [(elemRep q (List.mem_of_getElem? hqi)).2.1]
                    intro j c hj
                    have h2 := (cells_spec (hq i q hqi).1).2 j c hj
                    have h3 := cell_add h2
                    have h4 : (a.add (i * P.cellsOf e)).block = a.block ∧ (a.add (i * P.cellsOf e)).off = a.off + i * P.cellsOf e := by
                      unfold Addr.add; split
                      · rename_i h0; exact ⟨rfl, by omega⟩
                      · exact ⟨rfl, rfl⟩
                    rw [h4.1, h4.2] at h3
                    exact ⟨h3.2, h3.1⟩
            · have : (qs.map fun q => elemAV (aggOf dd) q.2) = (qs.map (·.2)).map (elemAV ((isAggP P e).getD false)) := by
                rw [hagg, List.map_map]; rfl
              rw [this]
              refine .slice hu _ (fun ys hys => ?_) (by simp [hqs]; omega)
              obtain ⟨q, hqm, rfl⟩ := List.mem_map.1 hys
              obtain ⟨i, hi⟩ := List.mem_iff_getElem?.1 hqm
              exact (hq i q hi).2.2.2.2.1
            · have hle : elems.length = len := by have := mapM_len helems; simpa using this
              have hsum := szL_bulk (qs := qs) (g := fun q => elemAV (aggOf dd) q.2) (es := elems) (by rw [hqs, hle]) fun i q y hqi hyi => by
                have h6 := (hq i q hqi).2.2.2.2.2 y hyi
                cases hda : aggOf dd with
                | true =>
                  simp only [elemAV, hda, if_true, AV.sz]
                  simp only [anP, hagg, Option.getD_some, hda, if_true] at h6
                  exact h6
                | false =>
                  obtain ⟨y2, hy2⟩ := of_one hdd hda (hq i q hqi).2.2.2.2.1
                  simp only [elemAV, hda, hy2, List.headD_cons]
                  simp only [hy2, AV.szL] at h6
                  simp only [Bool.false_eq_true, if_false]
                  omega
              have ha : anP P t = 0 := by simp [anP, isAggP, hu, aggOf]
              simp only [AV.szL, AV.sz, ha, bulkD]
              omega
          · cases h
      | struct fs =>
        simp only at h
        simp only [Bool.and_eq_true, beq_iff_eq] at hc
        split at h
        · rename_i hlen
          simp only [Option.map_eq_some_iff] at h
          obtain ⟨xs, hxs, hd⟩ := h
          cases hd
          have each : ∀ i, i < fs.toList.length → ∃ q : List AV, ∀ f, fs.toList[i]? = some f → RepL L (g0 W) W q ((cs.drop f.offset).take (P.cellsOf f.type)) ∧ AV.untokL q = q ∧ (∀ u ∈ (cs.drop f.offset).take (P.cellsOf f.type), oneCell u) ∧ Of P f.type q ∧ ∀ y, xs[i]? = some y → AV.szL q ≤ bulkD y.1 := by
            intro i hi
            obtain ⟨y, hyi, hy⟩ := mapM_get hxs i fs.toList[i] (List.getElem?_eq_getElem hi)
            have hmem : fs.toList[i].type ∈ S := by
              have := List.all_eq_true.1 hc.1 fs.toList[i] (List.getElem_mem hi)
              simpa using this
            obtain ⟨q, h1, h2, h3, h4, h5⟩ := open_trod hS fuel _ _ y.1 y.2 hmem hy
            refine ⟨q, fun f hf => ?_⟩
            rw [List.getElem?_eq_getElem hi] at hf
            cases hf
            exact ⟨h1, h2, h3, h4, fun y' hy' => by rw [hyi] at hy'; cases hy'; omega⟩
          obtain ⟨qs, hqs, hq⟩ := exists_list each
          -- the parts lie one behind the other
          have glue : ∀ (l : List Field) (ys : List (List AV)) (n m : Nat), consec P n l = some m → ys.length = l.length → n ≤ cs.length → m ≤ cs.length → (∀ (i : Nat) (f : Field) (q : List AV), l[i]? = some f → ys[i]? = some q → RepL L (g0 W) W q ((cs.drop f.offset).take (P.cellsOf f.type)) ∧ AV.untokL q = q ∧ (∀ u ∈ (cs.drop f.offset).take (P.cellsOf f.type), oneCell u)) →
              n ≤ m ∧ RepL L (g0 W) W ys.flatten ((cs.drop n).take (m - n)) ∧ AV.untokL ys.flatten = ys.flatten ∧ ∀ u ∈ (cs.drop n).take (m - n), oneCell u := by
            intro l
            induction l with
            | nil =>
              intro ys n m hcon hyl _ _ _
              simp only [consec, Option.some.injEq] at hcon
              subst hcon
              have : ys = [] := List.eq_nil_of_length_eq_zero (by simpa using hyl)
              subst this
              simp [RepL, AV.untokL]
            | cons f l ih =>
              intro ys n m hcon hyl hn hm hall
              simp only [consec] at hcon
              split at hcon
              · rename_i hoff
                cases ys with
                | nil => simp at hyl
                | cons y ys =>
                  have h0 := hall 0 f y rfl rfl
                  rw [hoff] at h0
                  have hle : n + P.cellsOf f.type ≤ m := by
                    have : ∀ (l : List Field) (n m : Nat), consec P n l = some m → n ≤ m := by
                      intro l
                      induction l with
                      | nil => intro n m h; simp only [consec, Option.some.injEq] at h; omega
                      | cons g l ih =>
                        intro n m h
                        simp only [consec] at h
                        split at h
                        · have := ih _ _ h; omega
                        · cases h
                    exact this _ _ _ hcon
                  obtain ⟨_, i2, i3, i4⟩ := ih ys (n + P.cellsOf f.type) m hcon (by simpa using hyl) (by omega) hm (fun i g q hg hq' => hall (i + 1) g q (by simpa using hg) (by simpa using hq'))
                  have e1 : (cs.drop n).take (m - n) = (cs.drop n).take (P.cellsOf f.type) ++ (cs.drop (n + P.cellsOf f.type)).take (m - (n + P.cellsOf f.type)) := by
                    rw [show m - n = P.cellsOf f.type + (m - (n + P.cellsOf f.type)) by omega, List.take_add, List.drop_drop]
                  refine ⟨by omega, ?_, ?_, ?_⟩
                  · rw [e1, List.flatten_cons]; exact h0.1.append i2
                  · rw [List.flatten_cons, AV.untokL_append, h0.2.1, i3]
                  · intro u hu'
                    rw [e1] at hu'
                    rcases List.mem_append.1 hu' with hu' | hu'
                    · exact h0.2.2 u hu'
                    · exact i4 u hu'
              · cases hcon
          obtain ⟨_, g2, g3, g4⟩ := glue fs.toList qs 0 (P.cellsOf t) hc.2 hqs (Nat.zero_le _) (by omega) (fun i f q hf hq' => ⟨(hq i q hq' f hf).1, (hq i q hq' f hf).2.1, (hq i q hq' f hf).2.2.1⟩)
          have hwhole : (cs.drop 0).take (P.cellsOf t - 0) = cs := by simp [← hlen]
          rw [hwhole] at g2 g4
          refine ⟨qs.flatten, g2, g3, g4, .struct hu qs (by simpa using hqs) fun i f xs' hf hx' => (hq i xs' hx' f (by rw [Array.getElem?_toList]; exact hf)).2.2.2.1, ?_⟩
          have hsum := szF_bulk (qs := qs) (es := xs) (by rw [hqs, mapM_len hxs]) fun i q y hqi hyi => by
            have hi : i < fs.toList.length := by rw [← hqs]; exact (List.getElem?_eq_some_iff.1 hqi).1
            exact (hq i q hqi _ (List.getElem?_eq_getElem hi)).2.2.2.2 y hyi
          simp only [bulkD, anP]
          split <;> omega
        · cases h
      | _ => cases hc
end Ab

/- Terms of the language as plain data; when an abstract value is one. No condition. -/
namespace Ab
open Go Go.RowKit

inductive Tm where
  | mk (k : Int) (s : List UInt8) (kids : List Tm)

def Tm.kind : Tm → Int | .mk k _ _ => k
def Tm.text : Tm → List UInt8 | .mk _ s _ => s
def Tm.kids : Tm → List Tm | .mk _ _ l => l

mutual
def Rt : Tm → AV → Prop
  | .mk k s kids, x => ∃ o ys, x = .agg [.int .i64 k, .str s, .sl o 3 ys] ∧ (ys.length ≤ maxLen ∧ (o = .nil → ys = [])) ∧ Rts kids ys
def Rts : List Tm → List AV → Prop
  | [], ys => ys = []
  | t :: ts, ys => ∃ y r, ys = y :: r ∧ Rt t y ∧ Rts ts r
end

theorem Rts.length : ∀ {ts : List Tm} {ys : List AV}, Rts ts ys → ys.length = ts.length
  | [], _, h => by simp only [Rts] at h; subst h; rfl
  | t :: ts, _, h => by
    simp only [Rts] at h
    obtain ⟨y, r, rfl, _, h2⟩ := h
    simp [Rts.length h2]

theorem Rts.get : ∀ {ts : List Tm} {ys : List AV} {i : Nat} {t : Tm}, Rts ts ys → ts[i]? = some t → ∃ y, ys[i]? = some y ∧ Rt t y
  | [], _, _, _, _, h => by simp at h
  | t :: ts, _, i, u, h, hi => by
    simp only [Rts] at h
    obtain ⟨y, r, rfl, h1, h2⟩ := h
    cases i with
    | zero => simp at hi; subst hi; exact ⟨y, rfl, h1⟩
    | succ i => simp at hi; simpa using Rts.get h2 hi

theorem Rts.append : ∀ {ts : List Tm} {ys : List AV} {us : List Tm} {zs : List AV}, Rts ts ys → Rts us zs → Rts (ts ++ us) (ys ++ zs)
  | [], _, _, _, h, h' => by simp only [Rts] at h; subst h; simpa using h'
  | t :: ts, _, _, _, h, h' => by
    simp only [Rts] at h
    obtain ⟨y, r, rfl, h1, h2⟩ := h
    simp only [List.cons_append, Rts]
    exact ⟨y, _, rfl, h1, Rts.append h2 h'⟩

theorem Rts.take : ∀ {ts : List Tm} {ys : List AV} (n : Nat), Rts ts ys → Rts (ts.take n) (ys.take n)
  | _, _, 0, _ => by simp [Rts]
  | [], _, n + 1, h => by simp only [Rts] at h; subst h; simp [Rts]
  | t :: ts, _, n + 1, h => by
    simp only [Rts] at h
    obtain ⟨y, r, rfl, h1, h2⟩ := h
    simp only [List.take_succ_cons, Rts]
    exact ⟨y, _, rfl, h1, Rts.take n h2⟩

theorem Rts.drop : ∀ {ts : List Tm} {ys : List AV} (n : Nat), Rts ts ys → Rts (ts.drop n) (ys.drop n)
  | _, _, 0, h => by simpa using h
  | [], _, n + 1, h => by simp only [Rts] at h; subst h; simp [Rts]
  | t :: ts, _, n + 1, h => by
    simp only [Rts] at h
    obtain ⟨y, r, rfl, h1, h2⟩ := h
    simpa using Rts.drop n h2

mutual
theorem Rt.data : ∀ {t : Tm} {x : AV}, Rt t x → x.data = true
  | .mk k s kids, x, h => by
    simp only [Rt] at h
    obtain ⟨o, ys, rfl, _, h2⟩ := h
    simp only [AV.data, AV.dataL, Rts.data h2, Bool.and_self]
theorem Rts.data : ∀ {ts : List Tm} {ys : List AV}, Rts ts ys → AV.dataL ys = true
  | [], _, h => by simp only [Rts] at h; subst h; rfl
  | t :: ts, _, h => by
    simp only [Rts] at h
    obtain ⟨y, r, rfl, h1, h2⟩ := h
    simp only [AV.dataL, Rt.data h1, Rts.data h2, Bool.and_self]
end

theorem Rt.untok {t : Tm} {x : AV} (h : Rt t x) : Rt t x.untok := by
  cases t with
  | mk k s kids =>
    simp only [Rt] at h ⊢
    obtain ⟨o, ys, rfl, hl, h2⟩ := h
    obtain ⟨h1, h3⟩ := hl
    cases o <;> simp only [AV.untok, AV.untokL] <;> exact ⟨_, ys, rfl, ⟨h1, fun e => h3 (by first | exact e | cases e)⟩, h2⟩

theorem Rt.shape {t : Tm} {x : AV} (h : Rt t x) : ∃ o ys, x = .agg [.int .i64 t.kind, .str t.text, .sl o 3 ys] ∧ (ys.length ≤ maxLen ∧ (o = .nil → ys = [])) ∧ Rts t.kids ys := by
  cases t with
  | mk k s kids => simpa only [Rt, Tm.kind, Tm.text, Tm.kids] using h

/- a slice that stands for a list of terms -/
def Sl (ts : List Tm) (v : AV) : Prop := ∃ o ys, v = .sl o 3 ys ∧ (ys.length ≤ maxLen ∧ (o = .nil → ys = [])) ∧ Rts ts ys
theorem Sl.nil : Sl [] (.sl .nil 3 []) := ⟨_, _, rfl, ⟨Nat.zero_le _, fun _ => rfl⟩, by simp [Rts]⟩
theorem Sl.untok {ts : List Tm} {v : AV} (h : Sl ts v) : Sl ts v.untok := by
  obtain ⟨o, ys, rfl, ⟨h1, h2⟩, h3⟩ := h
  cases o <;> exact ⟨_, ys, rfl, ⟨h1, fun e => h2 (by first | exact e | cases e)⟩, h3⟩
theorem Sl.data {ts : List Tm} {v : AV} (h : Sl ts v) : v.data = true := by
  obtain ⟨o, ys, rfl, _, h3⟩ := h
  simpa only [AV.data] using h3.data
theorem Rt.open {t : Tm} {x : AV} (h : Rt t x) : ∃ v, x = .agg [.int .i64 t.kind, .str t.text, v] ∧ Sl t.kids v := by
  obtain ⟨o, ys, rfl, h1, h2⟩ := h.shape
  exact ⟨_, rfl, o, ys, rfl, h1, h2⟩
theorem Rt.mk {k : Int} {s : List UInt8} {kids : List Tm} {v : AV} (h : Sl kids v) : Rt (.mk k s kids) (.agg [.int .i64 k, .str s, v]) := by
  obtain ⟨o, ys, rfl, h1, h2⟩ := h
  simp only [Rt]
  exact ⟨o, ys, rfl, h1, h2⟩

/- lists of terms, of the types that a row reads -/
theorem terms_of {P : Program} {tl te tk ts : TypeId} {fs : Array Field} (hl : P.underlying tl = some (.slice te)) (he : P.underlying te = some (.struct fs)) (hf : fs.toList.map (·.type) = [tk, ts, tl]) (hk : P.underlying tk = some (.int .i64)) (hs : P.underlying ts = some .string) (hc : P.cellsOf te = 3) :
    ∀ {t : TypeId} {xs : List AV}, Of P t xs → (t = tl → ∃ us o ys, xs = [.sl o 3 ys] ∧ (ys.length ≤ maxLen ∧ (o = .nil → ys = [])) ∧ Rts us ys) ∧ (t = te → ∃ u, Rt u (.agg xs)) ∧ (t = tk → ∃ n, xs = [.int .i64 n]) ∧ (t = ts → ∃ s, xs = [.str s]) := by
  intro t xs h
  induction h with
  | bool h b => refine ⟨?_, ?_, ?_, ?_⟩ <;> rintro rfl <;> simp_all
  | int h n hw =>
    refine ⟨?_, ?_, ?_, ?_⟩ <;> rintro rfl <;> first | (simp_all; done) | skip
    all_goals (rw [hk] at h; cases h; exact ⟨n, rfl⟩)
  | str h s hl' =>
    refine ⟨?_, ?_, ?_, ?_⟩ <;> rintro rfl <;> first | (simp_all; done) | skip
    all_goals exact ⟨s, rfl⟩
  | nil h =>
    refine ⟨?_, ?_, ?_, ?_⟩ <;> rintro rfl <;> first | (simp_all; done) | skip
    rw [hl] at h; cases h
    exact ⟨[], .nil, [], by rw [hc], ⟨Nat.zero_le _, fun _ => rfl⟩, by simp [Rts]⟩
  | slice h yss hy hlen ih =>
    refine ⟨?_, ?_, ?_, ?_⟩ <;> rintro rfl <;> first | (simp_all; done) | skip
    rw [hl] at h; cases h
    have hagg : (isAggP P te).getD false = true := by simp [isAggP, he, aggOf]
    have key : ∀ (l : List (List AV)), (∀ ys ∈ l, ∃ u, Rt u (.agg ys)) → ∃ us, Rts us (l.map (elemAV true)) := by
      intro l
      induction l with
      | nil => intro _; exact ⟨[], by simp [Rts]⟩
      | cons y l ihl =>
        intro hh
        obtain ⟨u, hu⟩ := hh y (List.mem_cons_self ..)
        obtain ⟨us, hus⟩ := ihl fun z hz => hh z (List.mem_cons_of_mem _ hz)
        refine ⟨u :: us, ?_⟩
        simp only [List.map_cons, Rts]
        exact ⟨_, _, rfl, by simpa [elemAV] using hu, hus⟩
    obtain ⟨us, hus⟩ := key yss fun ys hys => (ih ys hys).2.1 rfl
    exact ⟨us, .any, _, by rw [hc], ⟨by simpa using hlen, fun e => by cases e⟩, by rw [hagg]; exact hus⟩
  | struct h xss hlen hx ih =>
    refine ⟨?_, ?_, ?_, ?_⟩ <;> rintro rfl <;> first | (simp_all; done) | skip
    rw [he] at h; cases h
    obtain ⟨l⟩ := fs
    simp only at hf
    match l, hf with
    | [f0, f1, f2], hf =>
      simp only [List.map_cons, List.map_nil, List.cons.injEq, and_true] at hf
      match xss, hlen with
      | [x0, x1, x2], _ =>
        obtain ⟨n, rfl⟩ := (ih 0 f0 x0 rfl rfl).2.2.1 hf.1
        obtain ⟨s, rfl⟩ := (ih 1 f1 x1 rfl rfl).2.2.2 hf.2.1
        obtain ⟨us, o, ys, rfl, h1, h2⟩ := (ih 2 f2 x2 rfl rfl).1 hf.2.2
        refine ⟨.mk n s us, ?_⟩
        simp only [Rt]
        exact ⟨o, ys, rfl, h1, h2⟩
end Ab

/- Texts of terms as plain data. No condition. -/
namespace Ab
open Go

def classN (n : Nat) : Int := if (97 ≤ n ∧ n ≤ 122) ∨ (65 ≤ n ∧ n ≤ 90) then 5 else if 48 ≤ n ∧ n ≤ 57 then 6 else if n = 45 ∨ n = 95 then 4 else if n = 32 ∨ n = 9 ∨ n = 10 ∨ n = 13 then 8 else 0
def isC (n : Nat) (c : Int) : Bool := (IntKind.wrap .u8 ((BitVec.ofInt 8 (classN n) &&& BitVec.ofInt 8 c).toNat : Nat)) != 0
def everyC (s : List UInt8) (c : Int) : Bool := s.all fun b => isC b.toNat c
def identT (s : List UInt8) (most : Int) : Bool := s != [] && decide ((s.length : Int) ≤ most) && isC (s.getD 0 0).toNat 1 && everyC s 4
def cutMinus (s : List UInt8) : List UInt8 × Bool := match s with
  | 45 :: r => (r, true)
  | s => (s, false)
def numT (s : List UInt8) : Bool :=
  let d := (cutMinus s).1
  !(d == [] || decide (500 < d.length) || !everyC d 2) && ((d.getD 0 0).toNat != 48 || (d.length == 1 && !(cutMinus s).2))
def runeIx (s : List UInt8) (p : Int → Bool) (want : Bool) : Nat → Nat → Int
  | 0, _ => -1
  | n + 1, pos => if pos < s.length then (if p (Go.Utf8.decode ⟨s.toArray⟩ pos).1 == want then (pos : Int) else runeIx s p want n (pos + (Go.Utf8.decode ⟨s.toArray⟩ pos).2)) else -1
def oddRune (c : Int) : Bool := decide (c < 32) || decide (126 < c)
def wordT (s : List UInt8) : Bool := s != [] && decide (s.length ≤ 60) && !decide (0 ≤ runeIx s oddRune true (s.length + 1) 0)
def rightT (t : Tm) : Bool :=
  if t.kind = 4 then t.text == [] else if t.kind = 8 then identT t.text 40 else if 0 < t.kids.length then false
  else if t.kind = 1 then t.text.length == 1 else if t.kind = 2 then wordT t.text else if t.kind = 3 then numT t.text
  else if t.kind = 5 ∨ t.kind = 6 ∨ t.kind = 7 then t.text != [] && decide (t.text.length ≤ 40) && everyC t.text 3 else false
theorem decode_pos (s : ByteArray) (i : Nat) : 1 ≤ (Go.Utf8.decode s i).2 := by
  unfold Go.Utf8.decode
  dsimp only
  repeat' split
  all_goals simp
end Ab

/- Runs with enough fuel. No condition. -/
namespace Ab
@[simp] theorem ysS_sl (s : St) (sz : Nat) (o : Own) (z : Nat) (xs : List AV) : ysS s sz (.sl o z xs) = ysOf sz (.sl o z xs) := rfl
@[simp] theorem ysS_str (s : St) (sz : Nat) (b : List UInt8) : ysS s sz (.str b) = ysOf sz (.str b) := rfl
open Go

/- a function value that leaves the state as it is, and what it answers -/
def Fn (E : IEnv) (tgt : AV) (args : List AV) (v : AV) : Prop := ∃ K, ∀ k, K ≤ k → ∀ s, callA E k none tgt args s = some (.ret v, false, s)

def FnK (K : Nat) (E : IEnv) (tgt : AV) (args : List AV) (v : AV) : Prop := ∀ k, K ≤ k → ∀ s, callA E k none tgt args s = some (.ret v, false, s)

theorem append_get {α : Type} (l r : List α) (i : Nat) : (l ++ r)[l.length + i]? = r[i]? := by
  rw [List.getElem?_append_right (by omega), Nat.add_sub_cancel_left]
theorem append_get0 {α : Type} (l r : List α) : (l ++ r)[l.length]? = r[0]? := by simp [List.getElem?_append_right]
theorem append_set {α : Type} (l r : List α) (i : Nat) (x : α) : (l ++ r).set (l.length + i) x = l ++ r.set i x := by
  rw [List.set_append_right _ _ (by omega)]; simp
theorem append_set0 {α : Type} (l r : List α) (x : α) : (l ++ r).set l.length x = l ++ r.set 0 x := by
  rw [List.set_append_right _ _ (by omega)]; simp

section
variable {E : IEnv} {call : Caller} {n : Nat} {f : Fr} {s : St}
@[simp] theorem codeA_skip : codeA E call n .skip f s = some (.normal, f, s) := by simp only [codeA]
@[simp] theorem codeA_region (ops : List IOper) (keep : List Nat) (draw : Bool) : codeA E call n (.region ops keep draw) f s = (match opsA E call draw ops f f.env s with
    | some (none, f', loc, s') => some (.normal, { f' with env := keepA loc keep f.env }, s')
    | some (some v, f', loc, s') => some (.pan v, { f' with env := keepA loc keep f.env }, s')
    | none => none) := by simp only [codeA]; rfl
@[simp] theorem codeA_seq (a b : ICode) : codeA E call n (.seq a b) f s = (match codeA E call n a f s with
    | some (.normal, f', s') => codeA E call n b f' s'
    | r => r) := by simp only [codeA]; rfl
@[simp] theorem codeA_cond (c : Opd) (a b : ICode) : codeA E call n (.cond c a b) f s = (match c.ev E f.env with
    | .bool true => codeA E call n a f s
    | .bool false => codeA E call n b f s
    | _ => none) := by simp only [codeA]; rfl
@[simp] theorem codeA_block (id : Nat) (b : ICode) : codeA E call n (.block id b) f s = (match codeA E call n b f s with
    | some (.exit j, f', s') => if j = id then some (.normal, f', s') else some (.exit j, f', s')
    | r => r) := by simp only [codeA]; rfl
@[simp] theorem codeA_exit (id : Nat) : codeA E call n (.exit id) f s = some (.exit id, f, s) := by simp only [codeA]
@[simp] theorem codeA_ret : codeA E call n .ret f s = some (.ret, f, s) := by simp only [codeA]
theorem codeA_loop (ks : List Nat) (b : ICode) : codeA E call n (.loop ks b) f s = iterA (codeA E call n b) ks n f s := by simp only [codeA]
end
attribute [simp] chkOk loadC pinC chkSt keepSt IOper.pl IChk.addr pinOk goA fillA elemOfCells opsA stepA guardA runO finO opA Opd.ev envOf Env.get Env.put Env.kill keepA AV.cells? St.push St.setb St.cell? loadA storeA partOf valStep binA unA resA resOne AV.data AV.dataL AV.untok AV.untokL outPan

/- what a body comes to -/
def finR (r : R) (res : List IRes) : Option AV :=
  match r with
  | some (o, fr, s) => match outPan o with
    | some none => if fr.defers.isEmpty && !fr.recd then (match resA fr.env s res with
      | some vs => if (resOne vs).data then some (resOne vs).untok else none
      | none => none) else none
    | _ => none
  | none => none

def fr0 (args : List AV) : Fr := { env := envOf 0 args, defers := [], rcv := none, recd := false, rnd := false }

theorem FnK.of {E : IEnv} {f : Nat} {first caps : List AV} {F : IFn} (hF : E.fns f = some F) (hm : F.mode = .pure) {args : List AV} (hn : (first ++ args ++ caps).length = F.np) {v : AV}
    {K : Nat}
    (h : ∀ k, K ≤ k → ∀ bl tk, finR (codeA E (callA E k) k F.body (fr0 (first ++ args ++ caps)) { bl, tk, ro := bl.length, rt := tk.length }) F.res = some v) : FnK (K + 1) E (.fn f first caps) args v := by
  refine fun k hk s => ?_
  obtain ⟨j, rfl⟩ : ∃ j, k = j + 1 := ⟨k - 1, by omega⟩
  obtain ⟨bl, tk, hst, hlo⟩ : ∃ bl tk, startA F.mode none (first ++ args ++ caps) s = { bl, tk, ro := bl.length, rt := tk.length } ∧ True := by
    unfold startA
    split
    · exact ⟨[], [], rfl, trivial⟩
    · exact ⟨s.bl, s.tk, by rw [hm]; rfl, trivial⟩
  have h1 := h j (by omega) bl tk
  unfold finR at h1
  split at h1
  · rename_i o fr s1 hc
    split at h1
    · rename_i ho
      split at h1
      · rename_i hd
        simp only [Bool.and_eq_true, List.isEmpty_iff, Bool.not_eq_true'] at hd
        split at h1
        · rename_i vs hvs
          split at h1
          · rename_i hdata
            simp only [Option.some.injEq] at h1
            unfold fr0 at hc
            simp only [callA, hF, runA, hn, ne_eq, not_true_eq_false, if_false, hst]
            simp only [hm, hc, ho, hd.1, unwindA, hvs, finA, hdata, if_true, h1, hd.2]
          · cases h1
        · cases h1
      · cases h1
    · cases h1
  · cases h1
theorem Fn.of {E : IEnv} {f : Nat} {first caps : List AV} {F : IFn} (hF : E.fns f = some F) (hm : F.mode = .pure) {args : List AV} (hn : (first ++ args ++ caps).length = F.np) {v : AV}
    (h : ∃ K, ∀ k, K ≤ k → ∀ bl tk, finR (codeA E (callA E k) k F.body (fr0 (first ++ args ++ caps)) { bl, tk, ro := bl.length, rt := tk.length }) F.res = some v) : Fn E (.fn f first caps) args v := by
  obtain ⟨K, h⟩ := h
  exact ⟨K + 1, FnK.of hF hm hn h⟩
theorem Fn.all {E : IEnv} {α : Type} {tgt : AV} {args : α → List AV} {v : α → AV} : ∀ {xs : List α}, (∀ x ∈ xs, Fn E tgt (args x) (v x)) → ∃ K, ∀ k, K ≤ k → ∀ x ∈ xs, ∀ s, callA E k none tgt (args x) s = some (.ret (v x), false, s)
  | [], _ => ⟨0, fun _ _ x hx => by cases hx⟩
  | x :: xs, h => by
    obtain ⟨K1, h1⟩ := h x (List.mem_cons_self ..)
    obtain ⟨K2, h2⟩ := Fn.all fun y hy => h y (List.mem_cons_of_mem _ hy)
    refine ⟨K1 + K2, fun k hk y hy s => ?_⟩
    rcases List.mem_cons.1 hy with rfl | hy
    · exact h1 k (by omega) s
    · exact h2 k (by omega) y hy s

theorem wrapIn {n : Int} (h0 : -9223372036854775808 ≤ n) (h1 : n ≤ 9223372036854775807) : IntKind.wrap .i64 n = n := IntWalk.i64_in n ⟨h0, h1⟩

theorem slice_ok (o : Own) (z : Nat) (hz : z ≠ 0) (xs : List AV) (lo hi : Option AV) {l h : Nat} (hb : bound hi xs.length xs.length = some h) (hl : bound lo 0 h = some l) : ∃ o', (o' = .nil → o = .nil) ∧ ∀ tk, sliceA tk z (.sl o z xs) lo hi none = some (.sl o' z ((xs.take h).drop l)) := by
  refine ⟨if l = 0 ∧ h = xs.length then o else if o = .full ∧ h = xs.length then .full else if o = .nil then .nil else .any, ?_, fun tk => ?_⟩
  · split
    · exact id
    · split
      · exact fun h => by cases h
      · split
        · exact fun _ => by assumption
        · exact fun h => by cases h
  · simp only [sliceA]
    rw [show bound none xs.length xs.length = some xs.length from rfl]
    simp only [ne_eq, not_true_eq_false, hz, or_self, if_false, hb, hl, Option.isSome_none, Bool.false_eq_true]
theorem untok_sl (o : Own) (z : Nat) (xs : List AV) : ∃ o', (o' = .nil → o = .nil) ∧ (AV.sl o z xs).untok = .sl o' z xs := by cases o <;> exact ⟨_, fun h => (by first | exact h | cases h), rfl⟩

theorem idx_nat {n : Nat} {i : Nat} (h : i < n) : idx (.int .i64 i) n = some i := by simp [idx, h]
end Ab

/- What a code leads to: stepping through a body, goal by goal. No condition. -/
namespace Ab
open Go

abbrev frW (r : Bool) (e : Env) : Fr := { env := e, defers := [], rcv := none, recd := false, rnd := r }
abbrev Pst := Out → Env → St → Prop

def thenW (N : Env → St → Prop) (Q : Pst) : Pst
  | .normal, e, s => N e s
  | o, e, s => Q o e s
def blockW (id : Nat) (Q : Pst) : Pst
  | .exit j, e, s => if j = id then Q .normal e s else Q (.exit j) e s
  | o, e, s => Q o e s
def outsW (r : Bool) (keep : List Nat) (Q : Pst) (e : Env) : Option (Option AV × Fr × Env × St) → Prop
  | some (none, f, loc, s) => f = frW r e ∧ Q .normal (keepA loc keep e) s
  | some (some v, f, loc, s) => f = frW r e ∧ Q (.pan v) (keepA loc keep e) s
  | none => False

def wp (E : IEnv) (call : Caller) (n : Nat) (r : Bool) : ICode → Pst → Env → St → Prop
  | .skip, Q, e, s => Q .normal e s
  | .region ops keep draw, Q, e, s => outsW r keep Q e (opsA E call draw ops (frW r e) e s)
  | .seq a b, Q, e, s => wp E call n r a (thenW (wp E call n r b Q) Q) e s
  | .cond c a b, Q, e, s => ∃ t, c.ev E e = .bool t ∧ (if t then wp E call n r a Q e s else wp E call n r b Q e s)
  | .block id b, Q, e, s => wp E call n r b (blockW id Q) e s
  | .loop ks b, Q, e, s => ∃ o e' s', iterA (codeA E call n b) ks n (frW r e) s = some (o, frW r e', s') ∧ Q o e' s'
  | .rangeFn g ps a b, Q, e, s => ∃ o s', codeA E call n (.rangeFn g ps a b) (frW r e) s = some (o, frW r e, s') ∧ Q o e s'
  | .exit id, Q, e, s => Q (.exit id) e s
  | .ret, Q, e, s => Q .ret e s
  | .alt ord p q bu ops keep rest ks, Q, e, s => ∃ o e' s', codeA E call n (.alt ord p q bu ops keep rest ks) (frW r e) s = some (o, frW r e', s') ∧ Q o e' s'

section
variable {E : IEnv} {call : Caller} {n : Nat} {r : Bool} {Q : Pst} {e : Env} {s : St} {N : Env → St → Prop}
@[simp] theorem thenW_normal : thenW N Q .normal e s = N e s := rfl
@[simp] theorem thenW_exit (i : Nat) : thenW N Q (.exit i) e s = Q (.exit i) e s := rfl
@[simp] theorem thenW_ret : thenW N Q .ret e s = Q .ret e s := rfl
@[simp] theorem thenW_pan (v : AV) : thenW N Q (.pan v) e s = Q (.pan v) e s := rfl
@[simp] theorem blockW_normal (id : Nat) : blockW id Q .normal e s = Q .normal e s := rfl
@[simp] theorem blockW_ret (id : Nat) : blockW id Q .ret e s = Q .ret e s := rfl
@[simp] theorem blockW_pan (id : Nat) (v : AV) : blockW id Q (.pan v) e s = Q (.pan v) e s := rfl
@[simp] theorem blockW_exit (id j : Nat) : blockW id Q (.exit j) e s = if j = id then Q .normal e s else Q (.exit j) e s := rfl
@[simp] theorem outsW_some (keep : List Nat) (f : Fr) (loc : Env) : outsW r keep Q e (some (none, f, loc, s)) = (f = frW r e ∧ Q .normal (keepA loc keep e) s) := rfl
@[simp] theorem outsW_pan (keep : List Nat) (f : Fr) (loc : Env) (v : AV) : outsW r keep Q e (some (some v, f, loc, s)) = (f = frW r e ∧ Q (.pan v) (keepA loc keep e) s) := rfl
@[simp] theorem wp_skip : wp E call n r .skip Q e s = Q .normal e s := rfl
@[simp] theorem wp_region (ops : List IOper) (keep : List Nat) (draw : Bool) : wp E call n r (.region ops keep draw) Q e s = outsW r keep Q e (opsA E call draw ops (frW r e) e s) := rfl
@[simp] theorem wp_seq (a b : ICode) : wp E call n r (.seq a b) Q e s = wp E call n r a (thenW (wp E call n r b Q) Q) e s := rfl
@[simp] theorem wp_cond (c : Opd) (a b : ICode) : wp E call n r (.cond c a b) Q e s = ∃ t, c.ev E e = .bool t ∧ (if t then wp E call n r a Q e s else wp E call n r b Q e s) := rfl
@[simp] theorem wp_block (id : Nat) (b : ICode) : wp E call n r (.block id b) Q e s = wp E call n r b (blockW id Q) e s := rfl
@[simp] theorem wp_exit (id : Nat) : wp E call n r (.exit id) Q e s = Q (.exit id) e s := rfl
@[simp] theorem wp_ret : wp E call n r .ret Q e s = Q .ret e s := rfl

theorem wp_run : ∀ {c : ICode} {Q : Pst} {e : Env} {s : St}, wp E call n r c Q e s → ∃ o e' s', codeA E call n c (frW r e) s = some (o, frW r e', s') ∧ Q o e' s'
  | .skip, Q, e, s, h => ⟨_, e, s, by simp only [codeA], h⟩
  | .exit _, Q, e, s, h => ⟨_, e, s, by simp only [codeA], h⟩
  | .ret, Q, e, s, h => ⟨_, e, s, by simp only [codeA], h⟩
  | .region ops keep draw, Q, e, s, h => by
    simp only [wp] at h
    simp only [codeA]
    cases hq : opsA E call draw ops (frW r e) e s with
    | none => rw [hq] at h; exact h.elim
    | some x =>
      obtain ⟨p, f', loc, s'⟩ := x
      rw [hq] at h
      cases p with
      | none =>
        simp only [outsW] at h
        obtain ⟨rfl, q⟩ := h
        exact ⟨_, _, _, rfl, q⟩
      | some v =>
        simp only [outsW] at h
        obtain ⟨rfl, q⟩ := h
        exact ⟨_, _, _, rfl, q⟩
  | .seq a b, Q, e, s, h => by
    obtain ⟨o, e1, s1, h1, q⟩ := wp_run (c := a) h
    simp only [codeA, h1]
    cases o with
    | normal => exact wp_run (c := b) q
    | _ => exact ⟨_, _, _, rfl, q⟩
  | .cond c a b, Q, e, s, h => by
    obtain ⟨t, h1, q⟩ := h
    simp only [codeA, h1]
    cases t
    · exact wp_run (c := b) q
    · exact wp_run (c := a) q
  | .block id b, Q, e, s, h => by
    obtain ⟨o, e1, s1, h1, q⟩ := wp_run (c := b) h
    simp only [codeA, h1]
    cases o with
    | exit j =>
      simp only [blockW] at q
      by_cases hj : j = id
      · simp only [hj, if_true] at q ⊢; exact ⟨_, _, _, rfl, q⟩
      · simp only [hj, if_false] at q ⊢; exact ⟨_, _, _, rfl, q⟩
    | _ => exact ⟨_, _, _, rfl, q⟩
  | .loop ks b, Q, e, s, h => by
    obtain ⟨o, e1, s1, h1, q⟩ := h
    exact ⟨o, e1, s1, by simp only [codeA]; exact h1, q⟩
  | .rangeFn g ps a b, Q, e, s, h => by
    obtain ⟨o, s1, h1, q⟩ := h
    exact ⟨o, e, s1, h1, q⟩
  | .alt _ _ _ _ _ _ _ _, Q, e, s, h => h

theorem iter_wp {ks : List Nat} {b : ICode} (m : Nat) (Inv : Nat → Env → St → Prop)
    (step : ∀ i e s, i < m → Inv i e s → wp E call n r b (thenW (fun e s => Inv (i + 1) (e.kill ks) s) Q) e s)
    (last : ∀ e s, Inv m e s → wp E call n r b (thenW (fun _ _ => False) Q) e s) :
    ∀ (j i : Nat) (e : Env) (s : St) (k : Nat), i + j = m → j < k → Inv i (e.kill ks) s → ∃ o e' s', iterA (codeA E call n b) ks k (frW r e) s = some (o, frW r e', s') ∧ Q o e' s'
  | 0, i, e, s, k + 1, hi, hk, h => by
    obtain ⟨o, e1, s1, h1, q⟩ := wp_run (last _ _ (by rw [show m = i by omega]; exact h))
    cases o with
    | normal => exact q.elim
    | _ => exact ⟨_, e1, s1, by simp only [iterA, h1], q⟩
  | j + 1, i, e, s, k + 1, hi, hk, h => by
    obtain ⟨o, e1, s1, h1, q⟩ := wp_run (step i _ _ (by omega) h)
    cases o with
    | normal =>
      obtain ⟨o2, e2, s2, h2, q2⟩ := iter_wp m Inv step last j (i + 1) e1 s1 k (by omega) (by omega) q
      exact ⟨o2, e2, s2, by simp only [iterA, h1]; exact h2, q2⟩
    | _ => exact ⟨_, e1, s1, by simp only [iterA, h1], q⟩

/- a loop that goes round at most m times -/
theorem wp_loop {ks : List Nat} {b : ICode} (m : Nat) (Inv : Nat → Env → St → Prop) (hm : m < n) (h0 : Inv 0 (e.kill ks) s)
    (step : ∀ i e s, i < m → Inv i e s → wp E call n r b (thenW (fun e s => Inv (i + 1) (e.kill ks) s) Q) e s)
    (last : ∀ e s, Inv m e s → wp E call n r b (thenW (fun _ _ => False) Q) e s) : wp E call n r (.loop ks b) Q e s :=
  iter_wp m Inv step last m 0 e s n (by omega) hm h0
end

section
variable {E : IEnv} {call : Caller} {n : Nat} {r : Bool} {Q : Pst} {e : Env} {s : St}
theorem thenR_eq (a b : ICode) (f : Fr) : codeA E call n (.seq a b) f s = thenR (codeA E call n b) (codeA E call n a f s) := by
  simp only [codeA]; unfold thenR; split <;> rfl
theorem regR_eq (ops : List IOper) (keep : List Nat) (draw : Bool) (f : Fr) : codeA E call n (.region ops keep draw) f s = regR keep f.env (opsA E call draw ops f f.env s) := by
  simp only [codeA]; unfold regR; split <;> rfl
theorem sameL_self : ∀ {l : List AB}, l.all AB.isCells = true → AB.sameL l l = true
  | [], _ => rfl
  | x :: l, h => by
    simp only [List.all_cons, Bool.and_eq_true] at h
    simp only [AB.sameL, sameL_self h.2, Bool.and_true]
    have := h.1
    cases x <;> simp [AB.isCells, AB.same] at this ⊢
/- a region in two orders: what both come to -/
def altP (ks : List Nat) (s : St) (o0 : Out) (e0 : Env) (tk0 : List Nat) (C : List AB → Prop) : Pst := fun o e s' => o = o0 ∧ e.kill ks = e0 ∧ s'.tk = tk0 ∧ ∃ cs, s'.bl = s.bl ++ cs ∧ C cs
@[simp] theorem altP_eq (ks : List Nat) (s : St) (o0 : Out) (e0 : Env) (tk0 : List Nat) (C : List AB → Prop) (o : Out) (e : Env) (s' : St) : altP ks s o0 e0 tk0 C o e s' = (o = o0 ∧ e.kill ks = e0 ∧ s'.tk = tk0 ∧ ∃ cs, s'.bl = s.bl ++ cs ∧ C cs) := rfl
theorem wp_alt {ord : List Nat} {p q : Nat} {bu : Bool} {ops : List IOper} {keep : List Nat} {rest : ICode} {ks : List Nat} (o0 : Out) (e0 : Env) (tk0 : List Nat) (news : List AB) (C : List AB → Prop)
    (hC : ∀ c d, C c → C d → c.length = d.length ∧ (if bu then c.all AB.isCells && d.all AB.isCells else AB.sameL c d) = true ∧ (if bu then c.map (fun _ => AB.dead) else c) = news)
    (hA : wp E call n r (.seq (.region ops keep true) rest) (altP ks s o0 e0 tk0 C) e { s with ro := s.bl.length })
    (hB : wp E call n r (.seq (.region (inOrd ord ops) keep true) rest) (altP ks s o0 e0 tk0 C) e { s with ro := s.bl.length })
    (hQ : Q o0 e0 { s with bl := s.bl ++ news, tk := tk0 }) : wp E call n r (.alt ord p q bu ops keep rest ks) Q e s := by
  obtain ⟨o1, e1, s1, h1, rfl, q1, r1, c, b1, hc⟩ := wp_run hA
  obtain ⟨o2, e2, s2, h2, rfl, q2, r2, d, b2, hd⟩ := wp_run hB
  refine ⟨_, e0, _, ?_, hQ⟩
  rw [thenR_eq, regR_eq] at h1 h2
  obtain ⟨k1, k2, k3⟩ := hC c d hc hd
  simp only [codeA]
  simp only at h1 h2
  rw [h1, h2]
  have d1 : s1.bl.drop s.bl.length = c := by rw [b1]; simp
  have d2 : s2.bl.drop s.bl.length = d := by rw [b2]; simp
  simp only [joinR, d1, d2, q1, q2, r1, r2]
  rw [if_pos ⟨by simp, ⟨by rw [b1, b2]; simp [k1], trivial⟩, k2⟩, k3]
theorem wp_altS {ord : List Nat} {p q : Nat} {ops : List IOper} {keep : List Nat} {rest : ICode} {ks : List Nat} (o0 : Out) (e0 : Env) (tk0 : List Nat) (news : List AB) (hn : news.all AB.isCells = true)
    (hA : wp E call n r (.seq (.region ops keep true) rest) (altP ks s o0 e0 tk0 (· = news)) e { s with ro := s.bl.length })
    (hB : wp E call n r (.seq (.region (inOrd ord ops) keep true) rest) (altP ks s o0 e0 tk0 (· = news)) e { s with ro := s.bl.length })
    (hQ : Q o0 e0 { s with bl := s.bl ++ news, tk := tk0 }) : wp E call n r (.alt ord p q false ops keep rest ks) Q e s :=
  wp_alt o0 e0 tk0 news (· = news) (fun c d h1 h2 => by subst h1; subst h2; exact ⟨rfl, by simpa using sameL_self hn, rfl⟩) hA hB hQ
theorem wp_altB {ord : List Nat} {p q : Nat} {ops : List IOper} {keep : List Nat} {rest : ICode} {ks : List Nat} (o0 : Out) (e0 : Env) (tk0 : List Nat) (m : Nat)
    (hA : wp E call n r (.seq (.region ops keep true) rest) (altP ks s o0 e0 tk0 fun c => c.all AB.isCells = true ∧ c.length = m) e { s with ro := s.bl.length })
    (hB : wp E call n r (.seq (.region (inOrd ord ops) keep true) rest) (altP ks s o0 e0 tk0 fun c => c.all AB.isCells = true ∧ c.length = m) e { s with ro := s.bl.length })
    (hQ : Q o0 e0 { s with bl := s.bl ++ List.replicate m .dead, tk := tk0 }) : wp E call n r (.alt ord p q true ops keep rest ks) Q e s :=
  wp_alt o0 e0 tk0 (List.replicate m .dead) (fun c => c.all AB.isCells = true ∧ c.length = m) (fun c d h1 h2 => ⟨by rw [h1.2, h2.2], by simp [h1.1, h2.1], by rw [if_pos rfl, ← h1.2]; exact List.map_const' ..⟩) hA hB hQ
end

/- at the end of a body: the results -/
def finW (res : List IRes) (v : AV) : Pst := fun o e s => (o = .normal ∨ o = .ret) ∧ ∃ vs, resA e s res = some vs ∧ (resOne vs).data = true ∧ (resOne vs).untok = v
@[simp] theorem finW_normal (res : List IRes) (v : AV) (e : Env) (s : St) : finW res v .normal e s = ∃ vs, resA e s res = some vs ∧ (resOne vs).data = true ∧ (resOne vs).untok = v := by simp [finW]
@[simp] theorem finW_ret (res : List IRes) (v : AV) (e : Env) (s : St) : finW res v .ret e s = ∃ vs, resA e s res = some vs ∧ (resOne vs).data = true ∧ (resOne vs).untok = v := by simp [finW]

theorem FnK.byW {E : IEnv} {f : Nat} {first caps : List AV} {F : IFn} (hF : E.fns f = some F) (hm : F.mode = .pure) {args : List AV} (hn : (first ++ args ++ caps).length = F.np) {v : AV} {K : Nat}
    (h : ∀ k, K ≤ k → ∀ bl tk, wp E (callA E k) k false F.body (finW F.res v) (envOf 0 (first ++ args ++ caps)) { bl, tk, ro := bl.length, rt := tk.length }) : FnK (K + 1) E (.fn f first caps) args v := by
  refine FnK.of hF hm hn fun k hk bl tk => ?_
  obtain ⟨o, e', s', h1, ho, vs, h2, h3, h4⟩ := wp_run (h k hk bl tk)
  simp only [fr0, finR]
  rw [h1]
  rcases ho with rfl | rfl <;> simp [-resOne, outPan, h2, h3, h4]
theorem Fn.byW {E : IEnv} {f : Nat} {first caps : List AV} {F : IFn} (hF : E.fns f = some F) (hm : F.mode = .pure) {args : List AV} (hn : (first ++ args ++ caps).length = F.np) {v : AV}
    (h : ∃ K, ∀ k, K ≤ k → ∀ bl tk, wp E (callA E k) k false F.body (finW F.res v) (envOf 0 (first ++ args ++ caps)) { bl, tk, ro := bl.length, rt := tk.length }) : Fn E (.fn f first caps) args v := by
  obtain ⟨K, h⟩ := h
  exact ⟨K + 1, FnK.byW hF hm hn h⟩

/- at the end of a body of any mode -/
def finP (s0 : St) (Post : AV → St → Prop) : Option (AV × St) → Prop
  | some (v, s) => Post v { s with ro := s0.ro, rt := s0.rt }
  | none => False
@[simp] theorem finP_some (s0 : St) (Post : AV → St → Prop) (v : AV) (s : St) : finP s0 Post (some (v, s)) = Post v { s with ro := s0.ro, rt := s0.rt } := rfl
def endW (res : List IRes) (m : Mode) (s0 : St) (Post : AV → St → Prop) : Pst := fun o e s' => (o = .normal ∨ o = .ret) ∧ ∃ vs, resA e s' res = some vs ∧ finP s0 Post (finA m s0.bl.length s0 s' (resOne vs))
@[simp] theorem endW_normal (res : List IRes) (m : Mode) (s0 : St) (Post : AV → St → Prop) (e : Env) (s : St) : endW res m s0 Post .normal e s = ∃ vs, resA e s res = some vs ∧ finP s0 Post (finA m s0.bl.length s0 s (resOne vs)) := by simp [endW]
@[simp] theorem endW_ret (res : List IRes) (m : Mode) (s0 : St) (Post : AV → St → Prop) (e : Env) (s : St) : endW res m s0 Post .ret e s = ∃ vs, resA e s res = some vs ∧ finP s0 Post (finA m s0.bl.length s0 s (resOne vs)) := by simp [endW]
theorem call_byW {E : IEnv} {f : Nat} {first caps : List AV} {F : IFn} (hF : E.fns f = some F) {args : List AV} (hn : (first ++ args ++ caps).length = F.np) {k : Nat} {s : St} {Post : AV → St → Prop}
    (h : wp E (callA E k) k false F.body (endW F.res F.mode s Post) (envOf 0 (first ++ args ++ caps)) (s0Of F.mode s)) (hm : isPure F.mode = false := by rfl) : ∃ v s', callA E (k + 1) none (.fn f first caps) args s = some (.ret v, false, s') ∧ Post v s' := by
  obtain ⟨o, e', s1, h1, ho, vs, h2, h3⟩ := wp_run h
  have hst : startA F.mode none (first ++ args ++ caps) s = s0Of F.mode s := by unfold startA; rw [hm]; rfl
  have hlo : (s0Of F.mode s).bl.length = s.bl.length := by cases F.mode <;> rfl
  cases hf : finA F.mode s.bl.length s s1 (resOne vs) with
  | none => rw [hf] at h3; exact h3.elim
  | some x =>
    obtain ⟨v', s2⟩ := x
    rw [hf] at h3
    refine ⟨v', { s2 with ro := s.ro, rt := s.rt }, ?_, h3⟩
    rcases ho with rfl | rfl <;> simp only [callA, hF, runA, hn, ne_eq, not_true_eq_false, if_false, hst, hlo, h1, outPan, unwindA, h2, hf]

/- a pure function whose result was written into -/
def finV (lo : Nat) (s : St) (v : AV) (r : AV) : Prop := if v.data then v.untok = r else (frz s lo 8 v).data = true ∧ (frz s lo 8 v).untok = r
def endP (res : List IRes) (lo : Nat) (r : AV) : Pst := fun o e s => (o = .normal ∨ o = .ret) ∧ ∃ vs, resA e s res = some vs ∧ finV lo s (resOne vs) r
@[simp] theorem endP_normal (res : List IRes) (lo : Nat) (r : AV) (e : Env) (s : St) : endP res lo r .normal e s = ∃ vs, resA e s res = some vs ∧ finV lo s (resOne vs) r := by simp [endP]
@[simp] theorem endP_ret (res : List IRes) (lo : Nat) (r : AV) (e : Env) (s : St) : endP res lo r .ret e s = ∃ vs, resA e s res = some vs ∧ finV lo s (resOne vs) r := by simp [endP]
theorem call_byP {E : IEnv} {f : Nat} {first caps : List AV} {F : IFn} (hF : E.fns f = some F) {args : List AV} (hn : (first ++ args ++ caps).length = F.np) {k : Nat} {r : AV}
    (h : ∀ bl tk, wp E (callA E k) k false F.body (endP F.res bl.length r) (envOf 0 (first ++ args ++ caps)) { bl, tk, ro := bl.length, rt := tk.length }) (s : St) (hm : F.mode = .pure := by rfl) : callA E (k + 1) none (.fn f first caps) args s = some (.ret r, false, s) := by
  obtain ⟨bl, tk, hst⟩ : ∃ bl tk, startA F.mode none (first ++ args ++ caps) s = { bl, tk, ro := bl.length, rt := tk.length } := by
    unfold startA
    split
    · exact ⟨[], [], rfl⟩
    · exact ⟨s.bl, s.tk, by rw [hm]; rfl⟩
  obtain ⟨o, e', s1, h1, ho, vs, h2, h3⟩ := wp_run (h bl tk)
  have hfin : finA .pure bl.length s s1 (resOne vs) = some (r, s) := by
    unfold finV at h3
    simp only [finA]
    split at h3
    · rename_i hd; rw [if_pos hd, h3]
    · rename_i hd; rw [if_neg hd, if_pos h3.1, h3.2]
  rw [hm] at hst
  rcases ho with rfl | rfl <;> simp only [callA, hF, runA, hn, ne_eq, not_true_eq_false, if_false, hm, hst, h1, outPan, unwindA, h2, hfin]

/- the same, where what is answered is told by a relation -/
def endE (res : List IRes) (lo : Nat) (Q : AV → Prop) : Pst := fun o e s => (o = .normal ∨ o = .ret) ∧ ∃ vs, resA e s res = some vs ∧ ∃ r, finV lo s (resOne vs) r ∧ Q r
@[simp] theorem endE_normal (res : List IRes) (lo : Nat) (Q : AV → Prop) (e : Env) (s : St) : endE res lo Q .normal e s = ∃ vs, resA e s res = some vs ∧ ∃ r, finV lo s (resOne vs) r ∧ Q r := by simp [endE]
@[simp] theorem endE_ret (res : List IRes) (lo : Nat) (Q : AV → Prop) (e : Env) (s : St) : endE res lo Q .ret e s = ∃ vs, resA e s res = some vs ∧ ∃ r, finV lo s (resOne vs) r ∧ Q r := by simp [endE]
theorem finV_data {lo : Nat} {s : St} {v : AV} (h : v.data = true) : finV lo s v v.untok := by simp [finV, h]
theorem call_byE {E : IEnv} {f : Nat} {first caps : List AV} {F : IFn} (hF : E.fns f = some F) {args : List AV} (hn : (first ++ args ++ caps).length = F.np) {k : Nat} {Q : AV → Prop}
    (h : ∀ bl tk, wp E (callA E k) k false F.body (endE F.res bl.length Q) (envOf 0 (first ++ args ++ caps)) { bl, tk, ro := bl.length, rt := tk.length }) (s : St) (hm : F.mode = .pure := by rfl) : ∃ r, Q r ∧ callA E (k + 1) none (.fn f first caps) args s = some (.ret r, false, s) := by
  obtain ⟨bl, tk, hst⟩ : ∃ bl tk, startA F.mode none (first ++ args ++ caps) s = { bl, tk, ro := bl.length, rt := tk.length } := by
    unfold startA
    split
    · exact ⟨[], [], rfl⟩
    · exact ⟨s.bl, s.tk, by rw [hm]; rfl⟩
  obtain ⟨o, e', s1, h1, ho, vs, h2, r, h3, hq⟩ := wp_run (h bl tk)
  have hfin : finA .pure bl.length s s1 (resOne vs) = some (r, s) := by
    unfold finV at h3
    simp only [finA]
    split at h3
    · rename_i hd; rw [if_pos hd, h3]
    · rename_i hd; rw [if_neg hd, if_pos h3.1, h3.2]
  rw [hm] at hst
  refine ⟨r, hq, ?_⟩
  rcases ho with rfl | rfl <;> simp only [callA, hF, runA, hn, ne_eq, not_true_eq_false, if_false, hm, hst, h1, outPan, unwindA, h2, hfin]
/- what a function answers, for all arguments of a kind -/
def Rl (K : Nat) (E : IEnv) (f : AV) (A : List AV → Prop) (Q : AV → Prop) : Prop := ∀ k, K ≤ k → ∀ args, A args → ∀ s, ∃ v, Q v ∧ callA E k none f args s = some (.ret v, false, s)

mutual
@[simp] theorem AV.untok_untok : ∀ x : AV, x.untok.untok = x.untok
  | .sl (.tok _) _ _ | .sl .any _ _ | .sl .nil _ _ | .sl .full _ _ | .raw _ _ _ | .bool _ | .int _ _ | .str _ | .nilp | .ptr _ _ | .rptr _ _ | .msl _ _ _ _ | .map _ | .yield _ | .nilf | .nilif | .junk => by simp [AV.untok]
  | .agg cs | .tup cs => by simp [AV.untok, AV.untokL_untokL cs]
  | .iface _ v => by simp [AV.untok, AV.untok_untok v]
  | .fn _ a c => by simp [AV.untok, AV.untokL_untokL a, AV.untokL_untokL c]
@[simp] theorem AV.untokL_untokL : ∀ xs : List AV, AV.untokL (AV.untokL xs) = AV.untokL xs
  | [] => rfl
  | x :: xs => by simp [AV.untokL, AV.untok_untok x, AV.untokL_untokL xs]
end
@[simp] theorem untokL_length : ∀ l : List AV, (AV.untokL l).length = l.length
  | [] => rfl
  | _ :: l => by simp [AV.untokL, untokL_length l]

/- a slice that is made by append, from nil on -/
def outV (z T : Nat) (ys : List AV) : AV := if ys = [] then .sl .nil z [] else .sl (.tok T) z ys
def outT (tk : List Nat) (ys : List AV) : List Nat := if ys = [] then tk else tk ++ [ys.length]
def endV (z : Nat) (ys : List AV) : AV := if ys = [] then .sl .nil z [] else .sl .any z ys
@[simp] theorem outV_nil (z T : Nat) : outV z T [] = .sl .nil z [] := rfl
@[simp] theorem outT_nil (tk : List Nat) : outT tk [] = tk := rfl
theorem outV_untok (z T : Nat) (ys : List AV) : (outV z T ys).untok = endV z ys := by
  unfold outV endV; split <;> rfl
theorem outV_data (z T : Nat) (ys : List AV) : (outV z T ys).data = AV.dataL ys := by
  unfold outV; split
  · rename_i h; subst h; rfl
  · rfl
theorem endV_sl (z : Nat) (ys : List AV) : ∃ o, endV z ys = .sl o z ys ∧ (o = .nil → ys = []) := by
  unfold endV; split
  · rename_i h; subst h; exact ⟨_, rfl, fun _ => rfl⟩
  · exact ⟨_, rfl, fun h => by cases h⟩
theorem outV_sl (z T : Nat) (ys : List AV) : ∃ o, outV z T ys = .sl o z ys ∧ (o = .nil → ys = []) ∧ (AV.sl o z ys).untok = endV z ys := by
  unfold outV endV; split
  · rename_i h; subst h; exact ⟨_, rfl, (fun _ => rfl), rfl⟩
  · exact ⟨_, rfl, (fun h => by cases h), rfl⟩
theorem app_outs {bl : List AB} {tk : List Nat} {ro rt z : Nat} {ys zs : List AV} {o : Own} (hl : ys.length + zs.length ≤ most) (hr : rt ≤ tk.length) :
    appA { bl, tk := outT tk ys, ro, rt } z (outV z tk.length ys) (.sl o z zs) = some (outV z tk.length (ys ++ AV.untokL zs), { bl, tk := outT tk (ys ++ AV.untokL zs), ro, rt }) := by
  cases zs with
  | nil => by_cases hy : ys = [] <;> simp [outV, outT, appA, ysOf, AV.untokL, hy] <;> simpa using hl
  | cons a zs =>
    simp only [List.length_cons] at hl
    by_cases hy : ys = []
    · subst hy
      simp only [List.length_nil, Nat.zero_add] at hl
      simp [outV, outT, appA, ysOf, AV.untokL, hl]
    · simp [outV, outT, appA, ysOf, AV.untokL, hy, hl, hr]
theorem app_one {bl : List AB} {tk : List Nat} {ro rt z : Nat} {ys : List AV} {y : AV} {o : Own} (hl : ys.length < most) (hr : rt ≤ tk.length) :
    appA { bl, tk := outT tk ys, ro, rt } z (outV z tk.length ys) (.sl o z [y]) = some (outV z tk.length (ys ++ [y.untok]), { bl, tk := outT tk (ys ++ [y.untok]), ro, rt }) :=
  app_outs (zs := [y]) hl hr
theorem Rts.untokL : ∀ {ts : List Tm} {ys : List AV}, Rts ts ys → Rts ts (AV.untokL ys)
  | [], _, h => by simp only [Rts] at h; subst h; simp [Rts, AV.untokL]
  | t :: ts, _, h => by
    simp only [Rts] at h
    obtain ⟨y, r, rfl, h1, h2⟩ := h
    simp only [AV.untokL, Rts]
    exact ⟨_, _, rfl, h1.untok, Rts.untokL h2⟩
theorem Sl.end {ts : List Tm} {ys : List AV} (h : Rts ts ys) (hm : ys.length ≤ maxLen) : Sl ts (endV 3 ys) := by
  obtain ⟨o, h1, h2⟩ := endV_sl 3 ys
  exact ⟨o, ys, h1, ⟨hm, h2⟩, h⟩
end Ab

/- What the functions of texts answer. No condition but the table. -/
namespace Ab.U
open Go Ab Go.RowKit
set_option maxRecDepth 10000
set_option linter.unusedSimpArgs false
set_option linter.unusedVariables false
section
variable {E : IEnv} (hE : E.fns = Table.fn table)
include hE
theorem fn_classOf (n : Nat) : FnK 1 E (.fn n_term_classOf [] []) [.int .u8 n] (.int .u8 (classN n)) :=
  FnK.byW (h_term_classOf hE) rfl rfl (K := 0) fun k hk bl tk => by
    unfold classN
    by_cases a1 : 97 ≤ n
    · by_cases a2 : n ≤ 122
      · have b1 : (97 : Int) ≤ n := by omega
        have b2 : (n : Int) ≤ 122 := by omega
        simp [F_term_classOf, b_term_classOf, a1, a2, b1, b2]
      · have b1 : (97 : Int) ≤ n := by omega
        have b2 : ¬ (n : Int) ≤ 122 := by omega
        have b3 : (65 : Int) ≤ n := by omega
        have b4 : ¬ (n : Int) ≤ 90 := by omega
        have b5 : (48 : Int) ≤ n := by omega
        have b6 : ¬ (n : Int) ≤ 57 := by omega
        have b7 : ((n : Int) == 45) = false := by simp; omega
        have b8 : ((n : Int) == 95) = false := by simp; omega
        have b9 : ((n : Int) == 32) = false := by simp; omega
        have b10 : ((n : Int) == 9) = false := by simp; omega
        have b11 : ((n : Int) == 10) = false := by simp; omega
        have b12 : ((n : Int) == 13) = false := by simp; omega
        rw [if_neg (by omega), if_neg (by omega), if_neg (by omega), if_neg (by omega)]
        simp [F_term_classOf, b_term_classOf, b1, b2, b3, b4, b5, b6, b7, b8, b9, b10, b11, b12]
    have b1 : ¬ (97 : Int) ≤ n := by omega
    by_cases a3 : 65 ≤ n
    · have b3 : (65 : Int) ≤ n := by omega
      by_cases a4 : n ≤ 90
      · have b4 : (n : Int) ≤ 90 := by omega
        simp [F_term_classOf, b_term_classOf, a1, a3, a4, b1, b3, b4]
      · have b4 : ¬ (n : Int) ≤ 90 := by omega
        have b5 : (48 : Int) ≤ n := by omega
        have b6 : ¬ (n : Int) ≤ 57 := by omega
        have b7 : ((n : Int) == 45) = false := by simp; omega
        have b9 : ((n : Int) == 32) = false := by simp; omega
        have b10 : ((n : Int) == 9) = false := by simp; omega
        have b11 : ((n : Int) == 10) = false := by simp; omega
        have b12 : ((n : Int) == 13) = false := by simp; omega
        rw [if_neg (by omega), if_neg (by omega)]
        by_cases a8 : n = 95
        · have b8 : ((n : Int) == 95) = true := by simp; omega
          rw [if_pos (by omega)]
          simp [F_term_classOf, b_term_classOf, b1, b3, b4, b5, b6, b7, b8]
        · have b8 : ((n : Int) == 95) = false := by simp; omega
          rw [if_neg (by omega), if_neg (by omega)]
          simp [F_term_classOf, b_term_classOf, b1, b3, b4, b5, b6, b7, b8, b9, b10, b11, b12]
    have b3 : ¬ (65 : Int) ≤ n := by omega
    rw [if_neg (by omega)]
    by_cases a5 : 48 ≤ n
    · have b5 : (48 : Int) ≤ n := by omega
      by_cases a6 : n ≤ 57
      · have b6 : (n : Int) ≤ 57 := by omega
        simp [F_term_classOf, b_term_classOf, a5, a6, b1, b3, b5, b6]
      · have b6 : ¬ (n : Int) ≤ 57 := by omega
        have b7 : ((n : Int) == 45) = false := by simp; omega
        have b8 : ((n : Int) == 95) = false := by simp; omega
        have b9 : ((n : Int) == 32) = false := by simp; omega
        have b10 : ((n : Int) == 9) = false := by simp; omega
        have b11 : ((n : Int) == 10) = false := by simp; omega
        have b12 : ((n : Int) == 13) = false := by simp; omega
        rw [if_neg (by omega), if_neg (by omega), if_neg (by omega)]
        simp [F_term_classOf, b_term_classOf, b1, b3, b5, b6, b7, b8, b9, b10, b11, b12]
    have b5 : ¬ (48 : Int) ≤ n := by omega
    have b8 : ((n : Int) == 95) = false := by simp; omega
    rw [if_neg (by omega)]
    by_cases a7 : n = 45
    · subst a7
      simp [F_term_classOf, b_term_classOf, b1, b3, b5]
    have b7 : ((n : Int) == 45) = false := by simp; omega
    rw [if_neg (by omega)]
    by_cases a9 : n = 32
    · subst a9
      simp [F_term_classOf, b_term_classOf, b1, b3, b5, b8, b7]
    have b9 : ((n : Int) == 32) = false := by simp; omega
    by_cases a10 : n = 9
    · subst a10
      simp [F_term_classOf, b_term_classOf, b1, b3, b5, b8, b7, b9]
    have b10 : ((n : Int) == 9) = false := by simp; omega
    by_cases a11 : n = 10
    · subst a11
      simp [F_term_classOf, b_term_classOf, b1, b3, b5, b8, b7, b9, b10]
    have b11 : ((n : Int) == 10) = false := by simp; omega
    by_cases a12 : n = 13
    · subst a12
      simp [F_term_classOf, b_term_classOf, b1, b3, b5, b8, b7, b9, b10, b11]
    have b12 : ((n : Int) == 13) = false := by simp; omega
    rw [if_neg (by omega)]
    simp [F_term_classOf, b_term_classOf, b1, b3, b5, b8, b7, b9, b10, b11, b12]

theorem fn_is (n : Nat) (c : Int) : FnK 2 E (.fn n_term_is [] []) [.int .u8 n, .int .u8 c] (.bool (isC n c)) :=
  FnK.byW (h_term_is hE) rfl rfl (K := 1) fun k hk bl tk => by
    simp [F_term_is, b_term_is, fn_classOf hE n k (by omega), isC]
    rfl

theorem fn_every (s : List UInt8) (hs : s.length ≤ maxLen) (c : Int) : FnK (s.length + 4) E (.fn n_term_every [] []) [.str s, .int .u8 c] (.bool (everyC s c)) :=
  FnK.byW (h_term_every hE) rfl rfl (K := s.length + 3) fun k hk bl tk => by
    have hmx : maxLen = 9223372036854775807 := rfl
    simp [F_term_every, b_term_every]
    refine wp_loop s.length (fun i e st => everyC s c = everyC (s.drop i) c ∧ e = [(0, .str s), (1, .int .u8 c), (7, .int .i64 s.length), (8, .int .i64 i)] ∧ st = { bl, tk, ro := bl.length, rt := tk.length }) (by omega) (by simp) ?_ ?_
    · rintro i e st hi ⟨hq, rfl, rfl⟩
      have e1 : idx (.int .i64 i) s.length = some i := idx_nat hi
      have hwr : IntKind.wrap .i64 ((i : Int) + 1) = i + 1 := wrapIn (by omega) (by omega)
      rw [List.drop_eq_getElem_cons hi] at hq
      have h1 := fn_is hE s[i].toNat c k (by omega)
      unfold everyC at hq ⊢
      rw [List.all_cons] at hq
      cases hp : isC s[i].toNat c with
      | true =>
        rw [hp, Bool.true_and] at hq
        rw [hp] at h1
        simp [l0_term_every, hi, e1, hwr, h1]
        simpa using hq
      | false =>
        rw [hp, Bool.false_and] at hq
        rw [hp] at h1
        simp [l0_term_every, hi, e1, hwr, h1]
        simpa using hq
    · rintro e st ⟨hq, rfl, rfl⟩
      rw [List.drop_length] at hq
      have hq' : everyC s c = true := hq
      simp [l0_term_every, hq']

theorem fn_identifier (s : List UInt8) (hs : s.length ≤ maxLen) (m : Int) : FnK (s.length + 5) E (.fn n_term_identifier [] []) [.str s, .int .i64 m] (.bool (identT s m)) :=
  FnK.byW (h_term_identifier hE) rfl rfl (K := s.length + 4) fun k hk bl tk => by
    have h1 := fn_every hE s hs 4 k (by omega)
    cases s with
    | nil => simp [F_term_identifier, b_term_identifier, identT]
    | cons b r =>
      have h2 := fn_is hE b.toNat 1 k (by omega)
      unfold identT
      by_cases c1 : (((b :: r).length : Nat) : Int) ≤ m
      · simp only [List.length_cons, Int.natCast_add, Int.cast_ofNat_Int] at c1
        cases c2 : isC b.toNat 1 with
        | true =>
          rw [c2] at h2
          simp [F_term_identifier, b_term_identifier, c1, h1, h2, c2, idx]
        | false =>
          rw [c2] at h2
          simp [F_term_identifier, b_term_identifier, c1, h1, h2, c2, idx]
      · simp only [List.length_cons, Int.natCast_add, Int.cast_ofNat_Int] at c1
        simp [F_term_identifier, b_term_identifier, c1, h1, h2, idx]

theorem fn_CutMinus (s : List UInt8) : FnK 4 E (.fn n_strings_CutPrefix [] []) [.str s, .str [45]] (.tup [.str (cutMinus s).1, .bool (cutMinus s).2]) := by
  have hh : FnK 1 E (.fn n_internal_stringslite_HasPrefix [] []) [.str s, .str [45]] (.bool (cutMinus s).2) :=
    FnK.byW (h_internal_stringslite_HasPrefix hE) rfl rfl (K := 0) fun k hk bl tk => by
      cases s with
      | nil => simp [F_internal_stringslite_HasPrefix, b_internal_stringslite_HasPrefix, cutMinus]
      | cons b r =>
        have c1 : (1 : Int) ≤ (r.length : Int) + 1 := by omega
        by_cases hb : b = 45
        · subst hb
          simp [F_internal_stringslite_HasPrefix, b_internal_stringslite_HasPrefix, cutMinus, c1, sliceA, bound]
        · have : cutMinus (b :: r) = (b :: r, false) := by unfold cutMinus; split; rename_i h; cases h; exact absurd rfl hb; rfl
          simp [F_internal_stringslite_HasPrefix, b_internal_stringslite_HasPrefix, this, c1, sliceA, bound, hb]
  have hc : FnK 3 E (.fn n_internal_stringslite_CutPrefix [] []) [.str s, .str [45]] (.tup [.str (cutMinus s).1, .bool (cutMinus s).2]) :=
    FnK.byW (h_internal_stringslite_CutPrefix hE) rfl rfl (K := 2) fun k hk bl tk => by
      have h1 := hh k (by omega)
      cases s with
      | nil => simp [F_internal_stringslite_CutPrefix, b_internal_stringslite_CutPrefix, h1, cutMinus]
      | cons b r =>
        by_cases hb : b = 45
        · subst hb
          have c1 : (1 : Int) ≤ (r.length : Int) + 1 := by omega
          simp [F_internal_stringslite_CutPrefix, b_internal_stringslite_CutPrefix, h1, cutMinus, sliceA, bound, c1]
        · have : cutMinus (b :: r) = (b :: r, false) := by unfold cutMinus; split; rename_i h; cases h; exact absurd rfl hb; rfl
          rw [this] at h1 ⊢
          simp [F_internal_stringslite_CutPrefix, b_internal_stringslite_CutPrefix, h1]
  exact FnK.byW (h_strings_CutPrefix hE) rfl rfl (K := 3) fun k hk bl tk => by simp [F_strings_CutPrefix, b_strings_CutPrefix, hc k (by omega)]

theorem fn_isNumber (s : List UInt8) (hs : s.length ≤ maxLen) : FnK (s.length + 8) E (.fn n_term_isNumber [] []) [.str s] (.bool (numT s)) :=
  FnK.byW (h_term_isNumber hE) rfl rfl (K := s.length + 7) fun k hk bl tk => by
    have h1 := fn_CutMinus hE s k (by omega)
    have hle : (cutMinus s).1.length ≤ s.length := by unfold cutMinus; split <;> simp
    have h2 := fn_every hE (cutMinus s).1 (by omega) 2 k (by omega)
    unfold numT
    generalize cutMinus s = q at *
    obtain ⟨d, neg⟩ := q
    simp only at *
    cases d with
    | nil => simp [F_term_isNumber, b_term_isNumber, h1]
    | cons b r =>
      by_cases c1 : 500 < (b :: r).length
      · have c1' : (500 : Int) < (r.length : Int) + 1 := by simp at c1; omega
        simp only [List.length_cons] at c1
        simp [F_term_isNumber, b_term_isNumber, h1, c1, c1']
      · have c1' : ¬ (500 : Int) < (r.length : Int) + 1 := by simp at c1; omega
        simp only [List.length_cons] at c1
        cases c2 : everyC (b :: r) 2 with
        | false => rw [c2] at h2; simp [F_term_isNumber, b_term_isNumber, h1, h2, c1, c1']
        | true =>
          rw [c2] at h2
          by_cases c3 : b.toNat = 48
          · by_cases c4 : r = []
            · subst c4
              simp [F_term_isNumber, b_term_isNumber, h1, h2, c3, idx]
            · have c4' : ¬ r.length = 0 := by simpa using c4
              have c5 : (((r.length : Int) + 1) == 1) = false := by simp; omega
              simp [F_term_isNumber, b_term_isNumber, h1, h2, c1, c1', c3, c4, c5, idx]
          · have c3' : (((b.toNat : Nat) : Int) != 48) = true := by simp; omega
            simp [F_term_isNumber, b_term_isNumber, h1, h2, c1, c1', c3, c3', idx]
end
end Ab.U

/- How many terms: sizes of terms. No condition. -/
namespace Ab
mutual
def nT : Tm → Nat
  | .mk _ _ kids => 1 + nTs kids
def nTs : List Tm → Nat
  | [] => 0
  | t :: ts => nT t + nTs ts
end
theorem nT_eq (t : Tm) : nT t = 1 + nTs t.kids := by cases t; simp only [nT, Tm.kids]
theorem nT_pos (t : Tm) : 0 < nT t := by rw [nT_eq]; omega
theorem nT_mem : ∀ {ts : List Tm} {t : Tm}, t ∈ ts → nT t ≤ nTs ts
  | _ :: ts, t, h => by
    rcases List.mem_cons.1 h with rfl | h
    · simp only [nTs]; omega
    · have := nT_mem h; simp only [nTs]; omega
theorem nTs_append : ∀ a b : List Tm, nTs (a ++ b) = nTs a + nTs b
  | [], b => by simp [nTs]
  | t :: a, b => by simp only [List.cons_append, nTs, nTs_append a b]; omega
theorem length_le_nTs : ∀ ts : List Tm, ts.length ≤ nTs ts
  | [] => by simp
  | t :: ts => by have := length_le_nTs ts; have := nT_pos t; simp only [nTs, List.length_cons]; omega
theorem Sl.len {ts : List Tm} {v : AV} (h : Sl ts v) : ∃ o xs, v = .sl o 3 xs ∧ xs.length = ts.length := by
  obtain ⟨o, xs, rfl, _, h3⟩ := h
  exact ⟨o, xs, rfl, h3.length⟩

end Ab

/- What 'strings.ContainsFunc', 'term.right' and 'term.depth' answer. No condition but the table. -/
namespace Ab.U
open Go Ab Go.RowKit
set_option maxRecDepth 10000
set_option linter.unusedSimpArgs false
set_option linter.unusedVariables false
section
variable {E : IEnv} (hE : E.fns = Table.fn table)
include hE
theorem fn_right_1 (c : Int) : FnK 1 E (.fn n_term_right_1 [] []) [.int .i32 c] (.bool (oddRune c)) :=
  FnK.byW (h_term_right_1 hE) rfl rfl (K := 0) fun k hk bl tk => by
    unfold oddRune
    by_cases c1 : c < 32
    · simp [F_term_right_1, b_term_right_1, c1]
    · simp [F_term_right_1, b_term_right_1, c1]

theorem fn_indexFunc (s : List UInt8) (f : AV) (p : Int → Bool) (want : Bool) {Kf : Nat} (hf : ∀ c, FnK Kf E f [.int .i32 c] (.bool (p c))) :
    FnK (Kf + s.length + 3) E (.fn n_strings_indexFunc [] []) [.str s, f, .bool want] (.int .i64 (runeIx s p want (s.length + 1) 0)) :=
  FnK.byW (h_strings_indexFunc hE) rfl rfl (K := Kf + s.length + 2) fun k hk bl tk => by
    obtain ⟨Q, hQ⟩ : ∃ Q, Q = runeIx s p want (s.length + 1) 0 := ⟨_, rfl⟩
    rw [← hQ]
    simp [F_strings_indexFunc, b_strings_indexFunc]
    refine wp_loop s.length (fun i e st => ∃ pos, i ≤ pos ∧ Q = runeIx s p want (s.length + 1 - i) pos ∧ e = [(1, f), (2, .bool want), (10, .ptr bl.length 0)] ∧ st = { bl := bl ++ [.siter s pos], tk, ro := bl.length, rt := tk.length }) (by omega) ⟨0, by simp [hQ]⟩ ?_ ?_
    · rintro i e st hi ⟨pos, hp, hq, rfl, rfl⟩
      rw [show s.length + 1 - i = s.length - i + 1 by omega] at hq
      unfold runeIx at hq
      by_cases c1 : pos < s.length
      · rw [if_pos c1] at hq
        have h1 := hf ((Go.Utf8.decode ⟨s.toArray⟩ pos).1 : Nat) k (by omega)
        have hw := decode_pos ⟨s.toArray⟩ pos
        cases c2 : p ((Go.Utf8.decode ⟨s.toArray⟩ pos).1 : Nat) == want with
        | true =>
          rw [c2] at hq
          simp only [if_true] at hq
          simp [l0_strings_indexFunc, aeq, c1, h1, c2, hq]
        | false =>
          rw [c2] at hq
          simp only [Bool.false_eq_true, if_false] at hq
          simp [l0_strings_indexFunc, aeq, c1, h1, c2]
          exact ⟨by omega, hq⟩
      · rw [if_neg c1] at hq
        simp [l0_strings_indexFunc, aeq, c1, hq]
    · rintro e st ⟨pos, hp, hq, rfl, rfl⟩
      rw [show s.length + 1 - s.length = 0 + 1 by omega] at hq
      unfold runeIx at hq
      have c1 : ¬ pos < s.length := by omega
      rw [if_neg c1] at hq
      simp [l0_strings_indexFunc, aeq, c1, hq]

theorem fn_ContainsOdd (s : List UInt8) : FnK (s.length + 6) E (.fn n_strings_ContainsFunc [] []) [.str s, .fn n_term_right_1 [] []] (.bool (decide (0 ≤ runeIx s oddRune true (s.length + 1) 0))) := by
  have h1 := fn_indexFunc hE s (.fn n_term_right_1 [] []) oddRune true (fn_right_1 hE)
  have h2 : FnK (s.length + 5) E (.fn n_strings_IndexFunc [] []) [.str s, .fn n_term_right_1 [] []] (.int .i64 (runeIx s oddRune true (s.length + 1) 0)) :=
    FnK.byW (h_strings_IndexFunc hE) rfl rfl (K := s.length + 4) fun k hk bl tk => by simp [F_strings_IndexFunc, b_strings_IndexFunc, h1 k (by omega)]
  exact FnK.byW (h_strings_ContainsFunc hE) rfl rfl (K := s.length + 5) fun k hk bl tk => by simp [F_strings_ContainsFunc, b_strings_ContainsFunc, h2 k (by omega)]

set_option maxHeartbeats 1600000 in
theorem fn_right {t : Tm} {x : AV} (h : Rt t x) (hs : t.text.length ≤ maxLen) : FnK (t.text.length + 9) E (.fn n_term_right [] []) [x] (.bool (rightT t)) := by
  obtain ⟨v, rfl, hv⟩ := h.open
  obtain ⟨o, ks, rfl, hlk⟩ := hv.len
  refine FnK.byW (h_term_right hE) rfl rfl (K := t.text.length + 8) fun k hk bl tk => ?_
  unfold rightT
  by_cases c4 : t.kind = 4
  · simp [F_term_right, b_term_right, c4]
  have b4 : (t.kind == 4) = false := by simpa using c4
  by_cases c8 : t.kind = 8
  · have h1 := fn_identifier hE t.text hs 40 k (by omega)
    simp [F_term_right, b_term_right, c8, h1]
  have b8 : (t.kind == 8) = false := by simpa using c8
  by_cases ck : 0 < t.kids.length
  · have ck' : ¬ ks = [] := by rintro rfl; simp at hlk; omega
    have ck2 : (0 : Int) < (ks.length : Int) := by omega
    simp [F_term_right, b_term_right, c4, c8, b4, b8, ck, ck', ck2, hlk]
  have ck' : ks = [] := by cases ks with | nil => rfl | cons a l => simp at hlk; omega
  subst ck'
  rw [if_neg c4, if_neg c8, if_neg ck]
  by_cases c1 : t.kind = 1
  · have : (((t.text.length : Nat) : Int) == 1) = (t.text.length == 1) := by rw [Bool.eq_iff_iff]; simp; omega
    simp [F_term_right, b_term_right, c1, this]
  have b1 : (t.kind == 1) = false := by simpa using c1
  by_cases c2 : t.kind = 2
  · have h1 := fn_ContainsOdd hE t.text k (by omega)
    unfold wordT
    by_cases e1 : t.text = []
    · simp [F_term_right, b_term_right, c2, e1]
    · have e1' : t.text.isEmpty = false := by simpa using e1
      by_cases e2 : t.text.length ≤ 60
      · have e2' : (t.text.length : Int) ≤ 60 := by omega
        simp [F_term_right, b_term_right, c2, e1, e1', e2, e2', h1]
      · have e2' : ¬ (t.text.length : Int) ≤ 60 := by omega
        simp [F_term_right, b_term_right, c2, e1, e1', e2, e2']
  have b2 : (t.kind == 2) = false := by simpa using c2
  by_cases c3 : t.kind = 3
  · have h1 := fn_isNumber hE t.text hs k (by omega)
    simp [F_term_right, b_term_right, c3, h1]
  have b3 : (t.kind == 3) = false := by simpa using c3
  rw [if_neg c1, if_neg c2, if_neg c3]
  have h1 := fn_every hE t.text hs 3 k (by omega)
  by_cases e1 : t.text = []
  · rcases Decidable.em (t.kind = 5 ∨ t.kind = 6 ∨ t.kind = 7) with hk5 | hk5
    · rcases hk5 with c5 | c5 | c5 <;> simp [F_term_right, b_term_right, c5, e1]
    · have b5 : (t.kind == 5) = false := by simp; omega
      have b6 : (t.kind == 6) = false := by simp; omega
      have b7 : (t.kind == 7) = false := by simp; omega
      simp [F_term_right, b_term_right, b4, b8, b1, b2, b3, b5, b6, b7, hk5]
  · have e1' : t.text.isEmpty = false := by simpa using e1
    rcases Decidable.em (t.kind = 5 ∨ t.kind = 6 ∨ t.kind = 7) with hk5 | hk5
    · by_cases e2 : t.text.length ≤ 40
      · have e2' : (t.text.length : Int) ≤ 40 := by omega
        rcases hk5 with c5 | c5 | c5 <;> simp [F_term_right, b_term_right, c5, e1, e1', e2, e2', h1]
      · have e2' : ¬ (t.text.length : Int) ≤ 40 := by omega
        rcases hk5 with c5 | c5 | c5 <;> simp [F_term_right, b_term_right, c5, e1, e1', e2, e2']
    · have b5 : (t.kind == 5) = false := by simp; omega
      have b6 : (t.kind == 6) = false := by simp; omega
      have b7 : (t.kind == 7) = false := by simp; omega
      simp [F_term_right, b_term_right, b4, b8, b1, b2, b3, b5, b6, b7, hk5]
end
end Ab.U

/- Depths of terms; a function of the Kids of all terms of a list. No condition. -/
namespace Ab
open Go Go.RowKit
mutual
def dpE : Tm → Nat
  | .mk k _ kids => if k = 4 ∨ k = 8 ∨ 0 < kids.length then 1 + dpS kids else 0
def dpS : List Tm → Nat
  | [] => 0
  | t :: ts => max (dpE t) (dpS ts)
end
theorem dpE_eq (t : Tm) : dpE t = if t.kind = 4 ∨ t.kind = 8 ∨ 0 < t.kids.length then 1 + dpS t.kids else 0 := by cases t; simp only [dpE, Tm.kind, Tm.kids]; congr
theorem dpS_append : ∀ a b : List Tm, dpS (a ++ b) = max (dpS a) (dpS b)
  | [], b => by simp [dpS]
  | t :: a, b => by simp only [List.cons_append, dpS, dpS_append a b]; omega
mutual
theorem dpE_le : ∀ t : Tm, dpE t ≤ nT t
  | .mk k s kids => by have := dpS_le kids; simp only [dpE, nT]; split <;> omega
theorem dpS_le : ∀ ts : List Tm, dpS ts ≤ nTs ts
  | [] => by simp [dpS]
  | t :: ts => by have := dpE_le t; have := dpS_le ts; simp only [dpS, nTs]; omega
end

/- a function of one slice, at the Kids of all terms of a list -/
theorem kid_all {E : IEnv} {f : AV} {more : List AV} {c : Tm → AV} {ts : List Tm} {xs : List AV} (h1 : Rts ts xs)
    (hf : ∀ t v, t ∈ ts → Sl t.kids v → Fn E f (v :: more) (c t)) :
    ∃ K, ∀ k, K ≤ k → ∀ (i : Nat) t, ts[i]? = some t → ∃ v, xs[i]? = some (.agg [.int .i64 t.kind, .str t.text, v]) ∧ Sl t.kids v ∧ ∀ s, callA E k none f (v :: more) s = some (.ret (c t), false, s) := by
  let kid : AV → AV := fun x => match x with | .agg [_, _, v] => v | _ => .junk
  obtain ⟨K, hK⟩ := Fn.all (E := E) (tgt := f) (α := Tm × AV) (args := fun q => kid q.2 :: more) (v := fun q => c q.1) (xs := ts.zip xs) (by
    intro q hq
    obtain ⟨i, hi⟩ := List.mem_iff_getElem?.1 hq
    obtain ⟨a1, a2⟩ := List.getElem?_zip_eq_some.1 hi
    obtain ⟨x, a3, a4⟩ := h1.get a1
    rw [a3] at a2; cases a2
    obtain ⟨v, e1, hv⟩ := a4.open
    have k1 : kid q.2 = v := by rw [e1]
    rw [k1]
    exact hf _ _ (List.mem_of_getElem? a1) hv)
  refine ⟨K, fun k hk i t ht => ?_⟩
  obtain ⟨x, a3, a4⟩ := h1.get ht
  obtain ⟨v, e1, hv⟩ := a4.open
  subst e1
  exact ⟨v, a3, hv, hK k hk (t, _) (List.mem_iff_getElem?.2 ⟨i, List.getElem?_zip_eq_some.2 ⟨ht, a3⟩⟩)⟩
end Ab

/- What 'term.depth' answers. No condition but the table. -/
namespace Ab.U
open Go Ab Go.RowKit
set_option maxRecDepth 10000
set_option linter.unusedSimpArgs false
set_option linter.unusedVariables false
theorem max_nat (a b : Nat) : (if a < b then (b : Int) else (a : Int)) = ((max a b : Nat) : Int) := by split <;> omega
section
variable {E : IEnv} (hE : E.fns = Table.fn table)
include hE
theorem fn_depth : ∀ (n : Nat) {ts : List Tm} {v : AV}, nTs ts < n → nTs ts ≤ most → Sl ts v → Fn E (.fn n_term_depth [] []) [v] (.int .i64 (dpS ts))
  | 0, _, _, h, _, _ => by omega
  | n + 1, ts, v, hn, hm, hv => by
    obtain ⟨o1, xs, rfl, ⟨hm1, _⟩, h1⟩ := hv
    have hl1 := h1.length
    have hmx : maxLen = 9223372036854775807 := rfl
    have hmm : most = 1073741824 := rfl
    obtain ⟨K, hK⟩ := kid_all (E := E) (f := .fn n_term_depth [] []) (more := []) (c := fun t => .int .i64 (dpS t.kids)) h1 fun t v ht hv => fn_depth n (by have := nT_mem ht; rw [nT_eq] at this; omega) (by have := nT_mem ht; rw [nT_eq] at this; omega) hv
    refine Fn.byW (h_term_depth hE) rfl rfl ⟨K + ts.length + 10, fun k hk bl tk => ?_⟩
    simp [F_term_depth, b_term_depth]
    refine wp_loop xs.length (fun i e s => ∃ b, bl.length ≤ b.length ∧ e = [(3, .int .i64 (dpS (ts.take i))), (6, .sl o1 3 xs), (7, .int .i64 xs.length), (8, .int .i64 i)] ∧ s = { bl := b, tk, ro := bl.length, rt := tk.length }) (by omega) (by simp [dpS]) ?_ ?_
    · rintro i e s hi ⟨b, hb, rfl, rfl⟩
      obtain ⟨t, ht⟩ : ∃ t, ts[i]? = some t := ⟨_, List.getElem?_eq_getElem (by omega)⟩
      obtain ⟨vx, hx, hvx, hc⟩ := hK k (by omega) i t ht
      obtain ⟨o2, ks, rfl, hlk⟩ := hvx.len
      obtain ⟨hi1, hx1⟩ := List.getElem?_eq_some_iff.1 hx
      have e1 : idx (.int .i64 i) xs.length = some i := idx_nat hi1
      have hwr : IntKind.wrap .i64 ((i : Int) + 1) = i + 1 := wrapIn (by omega) (by omega)
      have htk : dpS (ts.take (i + 1)) = max (dpS (ts.take i)) (dpE t) := by rw [List.take_add_one, ht, dpS_append]; simp [dpS]
      have hle := nT_mem (List.mem_of_getElem? ht)
      have hle2 := dpS_le t.kids
      rw [nT_eq] at hle
      have hw2 : IntKind.wrap .i64 (1 + (dpS t.kids : Int)) = 1 + dpS t.kids := wrapIn (by omega) (by omega)
      have hmaxn : (if (dpS (ts.take i) : Int) < 1 + (dpS t.kids : Int) then (1 + (dpS t.kids : Int)) else (dpS (ts.take i) : Int)) = ((max (dpS (ts.take i)) (1 + dpS t.kids) : Nat) : Int) := by split <;> omega
      have hb1 : bl.length ≤ b.length + 1 := by omega
      rw [htk, dpE_eq]
      by_cases c4 : t.kind = 4
      · rw [if_pos (.inl c4)]
        simp [l0_term_depth, hi, e1, hx1, hwr, hb, hb1, c4, hc, hw2, mmAll, mmA, hmaxn]
      have b4 : (t.kind == 4) = false := by simpa using c4
      by_cases c8 : t.kind = 8
      · rw [if_pos (.inr (.inl c8))]
        simp [l0_term_depth, hi, e1, hx1, hwr, hb, hb1, c8, hc, hw2, mmAll, mmA, hmaxn]
      have b8 : (t.kind == 8) = false := by simpa using c8
      by_cases ck : 0 < t.kids.length
      · rw [if_pos (.inr (.inr ck))]
        have ck' : ¬ ks = [] := by rintro rfl; simp at hlk; omega
        simp [l0_term_depth, hi, e1, hx1, hwr, hb, hb1, b4, b8, ck', hc, hw2, mmAll, mmA, hmaxn]
      · rw [if_neg (by rintro (h | h | h) <;> omega)]
        have ck' : ks = [] := by cases ks with | nil => rfl | cons a l => simp at hlk; omega
        simp [l0_term_depth, hi, e1, hx1, hwr, hb, hb1, b4, b8, ck', hc]
    · rintro e s ⟨b, hb, rfl, rfl⟩
      rw [List.take_of_length_le (by omega)]
      simp [l0_term_depth]
end
end Ab.U
