/- Loops over functions: rounds of a body, goal by goal. No condition. -/
import Derived.Test.YtndlggjnfabdoaaGreatDoorAb10
import Derived.Test.YtndlggjnfabdoaaGreatDoorAb09
set_option linter.all false
namespace Ab
open Go

/- at the end of a round: what becomes of the loop -/
def roundW (i : Nat) (L : ALoop) (Post : Bool → St → Prop) : Pst := fun o _ s => s.bl[i]? = some (.loop { L with st := .busy }) ∧ (match o with
  | .normal => Post true (s.setb i (.loop { L with st := .ready, pend := none }))
  | .exit id => Post false (s.setb i (.loop { L with st := .done, pend := some (.exit id) }))
  | .ret => Post false (s.setb i (.loop { L with st := .done, pend := some .ret }))
  | .pan _ => False)
section
variable {i : Nat} {L : ALoop} {Post : Bool → St → Prop} {e : Env} {s : St}
@[simp] theorem roundW_normal : roundW i L Post .normal e s = (s.bl[i]? = some (.loop { L with st := .busy }) ∧ Post true (s.setb i (.loop { L with st := .ready, pend := none }))) := rfl
@[simp] theorem roundW_exit (id : Nat) : roundW i L Post (.exit id) e s = (s.bl[i]? = some (.loop { L with st := .busy }) ∧ Post false (s.setb i (.loop { L with st := .done, pend := some (.exit id) }))) := rfl
@[simp] theorem roundW_ret : roundW i L Post .ret e s = (s.bl[i]? = some (.loop { L with st := .busy }) ∧ Post false (s.setb i (.loop { L with st := .done, pend := some .ret }))) := rfl
end
/- ahead of a round: what the variables of the loop get -/
def startW (E : IEnv) (call : Caller) (n : Nat) (i : Nat) (L : ALoop) (Post : Bool → St → Prop) : Pst := fun o e s => o = .normal ∧ s.bl[i]? = some (.loop L) ∧ wp E call n true L.body (roundW i L Post) e (s.setb i (.loop { L with st := .busy }))
@[simp] theorem startW_normal (E : IEnv) (call : Caller) (n : Nat) (i : Nat) (L : ALoop) (Post : Bool → St → Prop) (e : Env) (s : St) : startW E call n i L Post .normal e s = (s.bl[i]? = some (.loop L) ∧ wp E call n true L.body (roundW i L Post) e (s.setb i (.loop { L with st := .busy }))) := by simp [startW]

theorem call_round {E : IEnv} {k i : Nat} {args : List AV} {s : St} {L : ALoop} {Post : Bool → St → Prop} (hL : s.bl[i]? = some (.loop L)) (hst : L.st = .ready) (hn : args.length = L.ps.length) (hro : s.ro ≤ i)
    (h : wp E (callA E k) k true L.assign (startW E (callA E k) k i L Post) (putAll L.ps args L.env) s) : ∃ b s', callA E (k + 1) none (.yield i) args s = some (.ret (.bool b), false, s') ∧ Post b s' := by
  obtain ⟨o, e1, s1, h1, rfl, h2, h3⟩ := wp_run h
  obtain ⟨o2, e2, s2, h4, h5, h6⟩ := wp_run h3
  have hc : codeA E (callA E k) k L.assign { env := putAll L.ps args L.env, defers := [], rcv := none, recd := false, rnd := true } s = some (.normal, frW true e1, s1) := h1
  have hb : codeA E (callA E k) k L.body (frW true e1) (s1.setb i (.loop { L with st := .busy })) = some (o2, frW true e2, s2) := h4
  cases o2 with
  | normal => exact ⟨true, _, by simp only [callA, Option.isSome_none, Bool.false_eq_true, if_false, roundA, hL, hn, hro, and_self, if_true, hc, h2, hst, hb, h5], h6⟩
  | exit id => exact ⟨false, _, by simp only [callA, Option.isSome_none, Bool.false_eq_true, if_false, roundA, hL, hn, hro, and_self, if_true, hc, h2, hst, hb, h5], h6⟩
  | ret => exact ⟨false, _, by simp only [callA, Option.isSome_none, Bool.false_eq_true, if_false, roundA, hL, hn, hro, and_self, if_true, hc, h2, hst, hb, h5], h6⟩
  | pan v => exact h6.elim

/- behind the call of the iterator -/
def overW (i : Nat) (e : Env) (Q : Pst) (s : St) : Prop := ∃ L, s.bl[i]? = some (.loop L) ∧ ((L.st = .ready ∧ L.pend = none ∧ Q .normal e (s.setb i (.loop { L with st := .exhausted }))) ∨ (∃ id, L.st = .done ∧ L.pend = some (.exit id) ∧ Q (.exit id) e (s.setb i (.loop { L with st := .exhausted }))) ∨ (L.st = .done ∧ L.pend = some .ret ∧ Q .ret e (s.setb i (.loop { L with st := .exhausted }))))
theorem wp_range {E : IEnv} {call : Caller} {n : Nat} {r : Bool} {g : Opd} {ps : List Nat} {a b : ICode} {Q : Pst} {e : Env} {s : St}
    (h : ∃ v rd s', call none (g.ev E e) [.yield s.bl.length] (s.push (.loop { st := .ready, pend := none, env := e, ps, assign := a, body := b })) = some (.ret v, rd, s') ∧ overW s.bl.length e Q s') : wp E call n r (.rangeFn g ps a b) Q e s := by
  obtain ⟨v, rd, s', h1, L, h2, h3⟩ := h
  simp only [wp, codeA, h1, h2]
  rcases h3 with ⟨h4, h5, q⟩ | ⟨id, h4, h5, q⟩ | ⟨h4, h5, q⟩
  · rw [if_neg (by rw [h4]; exact fun h => by cases h)]; simp only [h5]; exact ⟨_, _, rfl, by simpa only [h5] using q⟩
  · rw [if_neg (by rw [h4]; exact fun h => by cases h)]; simp only [h5]; exact ⟨_, _, rfl, by simpa only [h5] using q⟩
  · rw [if_neg (by rw [h4]; exact fun h => by cases h)]; simp only [h5]; exact ⟨_, _, rfl, by simpa only [h5] using q⟩
theorem wp_range_none {E : IEnv} {call : Caller} {n : Nat} {r : Bool} {g : Opd} {ps : List Nat} {a b : ICode} {Q : Pst} {e : Env} {s : St}
    (h : ∃ v, call none (g.ev E e) [.yield s.bl.length] (s.push (.loop { st := .ready, pend := none, env := e, ps, assign := a, body := b })) = some (.ret v, false, s.push (.loop { st := .ready, pend := none, env := e, ps, assign := a, body := b })))
    (hq : ∀ L, Q .normal e (s.push (.loop L))) : wp E call n r (.rangeFn g ps a b) Q e s := by
  obtain ⟨v, h⟩ := h
  refine wp_range ⟨v, false, _, h, { st := .ready, pend := none, env := e, ps, assign := a, body := b }, by simp [St.push], .inl ⟨rfl, rfl, ?_⟩⟩
  have := hq { st := .exhausted, pend := none, env := e, ps, assign := a, body := b }
  simpa [St.push, St.setb] using this
end Ab

/- All terms of an expression, each ahead of its Kids; a step from term to term. No condition. -/
namespace Ab
open Go Go.RowKit
mutual
def preT : Tm → List Tm
  | .mk k s kids => .mk k s kids :: preS kids
def preS : List Tm → List Tm
  | [] => []
  | t :: ts => preT t ++ preS ts
end
theorem preT_eq (t : Tm) : preT t = t :: preS t.kids := by cases t; simp only [preT, Tm.kids]
theorem preS_cons (t : Tm) (ts : List Tm) : preS (t :: ts) = t :: (preS t.kids ++ preS ts) := by simp only [preS, preT_eq, List.cons_append]
theorem preS_append : ∀ a b : List Tm, preS (a ++ b) = preS a ++ preS b
  | [], b => by simp [preS]
  | t :: a, b => by simp [preS, preS_append a b]
mutual
theorem preT_length : ∀ t : Tm, (preT t).length = nT t
  | .mk k s kids => by simp only [preT, nT, List.length_cons, preS_length kids]; omega
theorem preS_length : ∀ ts : List Tm, (preS ts).length = nTs ts
  | [] => rfl
  | t :: ts => by simp only [preS, nTs, List.length_append, preT_length t, preS_length ts]
end
def foldO {α : Type} (y : α → Tm → Option α) : α → List Tm → Option α
  | a, [] => some a
  | a, t :: ts => match y a t with
    | some b => foldO y b ts
    | none => none
theorem foldO_append {α : Type} (y : α → Tm → Option α) : ∀ (a : α) (l r : List Tm), foldO y a (l ++ r) = match foldO y a l with | some b => foldO y b r | none => none
  | a, [], r => rfl
  | a, t :: l, r => by
    simp only [List.cons_append, foldO]
    cases y a t with
    | none => rfl
    | some b => exact foldO_append y b l r
end Ab

/- What the iterator of 'term.all' does. No condition but the table. -/
namespace Ab.U
open Go Ab Go.RowKit
set_option maxRecDepth 10000
set_option linter.unusedSimpArgs false
set_option linter.unusedVariables false
section
variable {E : IEnv} (hE : E.fns = Table.fn table)
include hE
theorem call_all {v : AV} (hv : ∃ o xs, v = .sl o 3 xs) : ∀ k, 1 ≤ k → ∀ s, callA E k none (.fn n_term_all [] []) [v] s = some (.ret (.fn n_term_all_1 [] [.ptr s.bl.length 0]), false, { s with bl := s.bl ++ [.cells [v]] }) := by
  intro k hk s
  obtain ⟨o, xs, rfl⟩ := hv
  obtain ⟨j, rfl⟩ : ∃ j, k = j + 1 := ⟨k - 1, by omega⟩
  have key := call_byW (h_term_all hE) (first := []) (caps := []) (args := [.sl o 3 xs]) rfl (k := j) (s := s) (Post := fun v s' => v = .fn n_term_all_1 [] [.ptr s.bl.length 0] ∧ s' = { s with bl := s.bl ++ [.cells [.sl o 3 xs]] }) (by
    simp [F_term_all, b_term_all, s0Of, finA])
  obtain ⟨v, s', h, rfl, rfl⟩ := key
  exact h

abbrev goFn (c : Nat) : AV := .fn n_term_all_1_1 [] [.ptr (c + 1) 0, .ptr (c + 2) 0]

section
variable {α : Type} (B : α → List AB) (c : Nat) (hB : ∀ a, (B a).length = c) (tk : List Nat) (ro rt : Nat) (hro : ro ≤ c) (L : AB) (y : α → Tm → Option α) (D : St → Prop) (k0 : Nat) (W : Tm → Prop)
  (hD : ∀ s, D s → s.ro = ro ∧ s.rt = rt)
  (hy : ∀ a g t x k, W t → Rt t x → k0 ≤ k → ∃ b s', callA E k none (.yield c) [x] ⟨B a ++ L :: g, tk, ro, rt⟩ = some (.ret (.bool b), false, s') ∧
    (match y a t with | some a' => b = true ∧ ∃ g', s' = ⟨B a' ++ L :: (g ++ g'), tk, ro, rt⟩ | none => b = false ∧ D s'))
include hB hro hD hy

theorem call_go : ∀ (n : Nat) {ts : List Tm} {v : AV} (a : α) (g : List AB) (k : Nat), nTs ts < n → nTs ts < most → (∀ t ∈ preS ts, W t) → Sl ts v → 2 * nTs ts + k0 + 3 ≤ k →
    ∃ b s', callA E k none (goFn c) [v] ⟨B a ++ L :: .cells [.yield c] :: .cells [goFn c] :: g, tk, ro, rt⟩ = some (.ret (.bool b), false, s') ∧
      (match foldO y a (preS ts) with | some a' => b = true ∧ ∃ g', s' = ⟨B a' ++ L :: .cells [.yield c] :: .cells [goFn c] :: g', tk, ro, rt⟩ | none => b = false ∧ D s')
  | 0, _, _, _, _, _, h, _, _, _, _ => by omega
  | n + 1, ts, v, a, g, k, hn, hm, hW, hv, hk => by
    obtain ⟨o, xs, rfl, _, hR⟩ := hv
    have hmx : maxLen = 9223372036854775807 := rfl
    have hmm : most = 1073741824 := rfl
    have hl := hR.length
    have hlt := length_le_nTs ts
    have gj : ∀ a r j, (B a ++ r)[c + j]? = r[j]? := fun a r j => by rw [← hB a]; exact append_get _ _ _
    have g0 : ∀ a r, (B a ++ r)[c]? = r[0]? := fun a r => by rw [← hB a]; exact append_get0 _ _
    have sj : ∀ a r j x, (B a ++ r).set (c + j) x = B a ++ r.set j x := fun a r j x => by rw [← hB a]; exact append_set _ _ _ _
    have hro' : ∀ j, ro ≤ c + j := fun j => by omega
    obtain ⟨k, rfl⟩ : ∃ j, k = j + 1 := ⟨k - 1, by omega⟩
    have key := call_byW (h_term_all_1_1 hE) (first := []) (caps := [.ptr (c + 1) 0, .ptr (c + 2) 0]) (args := [.sl o 3 xs]) rfl (k := k) (s := ⟨B a ++ L :: .cells [.yield c] :: .cells [goFn c] :: g, tk, ro, rt⟩)
      (Post := fun v s' => ∃ b, v = .bool b ∧ (match foldO y a (preS ts) with | some a' => b = true ∧ ∃ g', s' = ⟨B a' ++ L :: .cells [.yield c] :: .cells [goFn c] :: g', tk, ro, rt⟩ | none => b = false ∧ D s')) (by
      simp only [F_term_all_1_1, b_term_all_1_1, s0Of]
      simp
      refine wp_loop xs.length (fun i e s => ∃ a' g', foldO y a (preS ts) = foldO y a' (preS (ts.drop i)) ∧ e = [(1, .ptr (c + 1) 0), (2, .ptr (c + 2) 0), (7, .sl o 3 xs), (8, .int .i64 xs.length), (9, .int .i64 i)] ∧
        s = ⟨B a' ++ L :: .cells [.yield c] :: .cells [goFn c] :: g', tk, ro, rt⟩) (by omega) ⟨a, g, by simp⟩ ?_ ?_
      · rintro i e s hi ⟨a', g', hq, rfl, rfl⟩
        obtain ⟨t, ht⟩ : ∃ t, ts[i]? = some t := ⟨_, List.getElem?_eq_getElem (by omega)⟩
        obtain ⟨x, hx, hrx⟩ := hR.get ht
        obtain ⟨kx, rfl, hkx⟩ := hrx.open
        obtain ⟨hi1, hx1⟩ := List.getElem?_eq_some_iff.1 hx
        have e1 : idx (.int .i64 i) xs.length = some i := idx_nat hi
        have hwr : IntKind.wrap .i64 ((i : Int) + 1) = i + 1 := wrapIn (by omega) (by omega)
        have hmt := List.mem_of_getElem? ht
        have hle := nT_mem hmt
        rw [nT_eq] at hle
        have hpre : ∀ u ∈ t :: preS t.kids, u ∈ preS ts := by
          intro u hu
          obtain ⟨l, r, rfl⟩ := List.append_of_mem hmt
          rw [preS_append, preS_cons]
          simp only [List.mem_append, List.mem_cons]
          rcases List.mem_cons.1 hu with rfl | hu
          · exact .inr (.inl rfl)
          · exact .inr (.inr (.inl hu))
        obtain ⟨hti, ht1⟩ := List.getElem?_eq_some_iff.1 ht
        rw [List.drop_eq_getElem_cons hti, ht1, preS_cons, foldO] at hq
        obtain ⟨b, s', hcall, hpost⟩ := hy a' (.cells [.yield c] :: .cells [goFn c] :: (g' ++ [.cells [.int .i64 t.kind, .str t.text, kx]])) t _ k (hW t (hpre t (List.mem_cons_self ..))) hrx (by omega)
        cases hyt : y a' t with
        | none =>
          rw [hyt] at hpost hq
          obtain ⟨rfl, hd⟩ := hpost
          simp only at hq
          rw [hq]
          obtain ⟨r1, r2⟩ := hD s' hd
          have hbk : ({ s' with ro := ro, rt := rt } : St) = s' := by rw [← r1, ← r2]
          simp [l0_term_all_1_1, hB, hi, e1, hi1, hx1, hwr, gj, g0, sj, hro', hcall, finA, hbk, hd]
        | some a2 =>
          rw [hyt] at hpost hq
          obtain ⟨rfl, g2, rfl⟩ := hpost
          simp only [foldO_append] at hq
          obtain ⟨b3, s3, hcall3, hpost3⟩ := call_go n a2 ((g' ++ [.cells [.int .i64 t.kind, .str t.text, kx]]) ++ g2) k (by omega) (by omega) (fun u hu => hW u (hpre u (List.mem_cons_of_mem _ hu))) hkx (by omega)
          simp only [List.cons_append, List.append_assoc, List.nil_append] at hcall hcall3
          cases hf : foldO y a2 (preS t.kids) with
          | none =>
            rw [hf] at hpost3 hq
            obtain ⟨rfl, hd⟩ := hpost3
            simp only at hq
            rw [hq]
            obtain ⟨r1, r2⟩ := hD s3 hd
            have hbk : ({ s3 with ro := ro, rt := rt } : St) = s3 := by rw [← r1, ← r2]
            simp [l0_term_all_1_1, hB, hi, e1, hi1, hx1, hwr, gj, g0, sj, hro', hcall, hcall3, finA, hbk, hd]
          | some a4 =>
            rw [hf] at hpost3 hq
            obtain ⟨rfl, g3, rfl⟩ := hpost3
            simp only at hq
            simp [l0_term_all_1_1, hB, hi, e1, hi1, hx1, hwr, gj, g0, sj, hro', hcall, hcall3]
            exact ⟨a4, hq, g3, rfl⟩
      · rintro e s ⟨a', g', hq, rfl, rfl⟩
        rw [List.drop_of_length_le (by omega)] at hq
        simp only [preS, foldO] at hq
        rw [hq]
        simp [l0_term_all_1_1, finA])
    obtain ⟨v, s', hc, b, rfl, hpost⟩ := key
    exact ⟨b, s', hc, hpost⟩

theorem call_all_1 {ts : List Tm} {v : AV} (a : α) (k cl : Nat) (hcl : ∀ a r, (B a ++ r)[cl]? = some (.cells [v])) (hm : nTs ts < most) (hW : ∀ t ∈ preS ts, W t) (hv : Sl ts v) (hk : 2 * nTs ts + k0 + 4 ≤ k) :
    ∃ v s', callA E k none (.fn n_term_all_1 [] [.ptr cl 0]) [.yield c] ⟨B a ++ [L], tk, ro, rt⟩ = some (.ret v, false, s') ∧
      (match foldO y a (preS ts) with | some a' => ∃ g', s' = ⟨B a' ++ L :: g', tk, ro, rt⟩ | none => D s') := by
  obtain ⟨k, rfl⟩ : ∃ j, k = j + 1 := ⟨k - 1, by omega⟩
  have gj : ∀ a r j, (B a ++ r)[c + j]? = r[j]? := fun a r j => by rw [← hB a]; exact append_get _ _ _
  have g0 : ∀ a r, (B a ++ r)[c]? = r[0]? := fun a r => by rw [← hB a]; exact append_get0 _ _
  have sj : ∀ a r j x, (B a ++ r).set (c + j) x = B a ++ r.set j x := fun a r j x => by rw [← hB a]; exact append_set _ _ _ _
  have hro' : ∀ j, ro ≤ c + j := fun j => by omega
  obtain ⟨b, s', hcall, hpost⟩ := call_go hE B c hB tk ro rt hro L y D k0 W hD hy (nTs ts + 1) a [] k (by omega) hm hW hv (by omega)
  have key := call_byW (h_term_all_1 hE) (first := []) (caps := [.ptr cl 0]) (args := [.yield c]) rfl (k := k) (s := ⟨B a ++ [L], tk, ro, rt⟩)
    (Post := fun v s' => match foldO y a (preS ts) with | some a' => ∃ g', s' = ⟨B a' ++ L :: g', tk, ro, rt⟩ | none => D s') (by
      simp only [F_term_all_1, b_term_all_1, s0Of]
      cases hf : foldO y a (preS ts) with
      | none =>
        rw [hf] at hpost
        obtain ⟨rfl, hd⟩ := hpost
        obtain ⟨r1, r2⟩ := hD s' hd
        have hbk : ({ s' with ro := ro, rt := rt } : St) = s' := by rw [← r1, ← r2]
        simp [hB, gj, g0, sj, hro', hcl, hcall, finA, hbk, hd]
      | some a' =>
        rw [hf] at hpost
        obtain ⟨rfl, g', rfl⟩ := hpost
        simp [hB, gj, g0, sj, hro', hcl, hcall, finA])
  exact key
end
end
end Ab.U

/- What 'term.check' answers. No condition but the table. -/
namespace Ab.U
open Go Ab Go.RowKit
set_option maxRecDepth 10000
set_option linter.unusedSimpArgs false
set_option linter.unusedVariables false

abbrev Cnt := { a : Nat // a ≤ 4000 }
def countY (a : Cnt) (_ : Tm) : Option Cnt := if h : a.1 + 1 ≤ 4000 then some ⟨a.1 + 1, h⟩ else none
theorem countY_none : ∀ (l : List Tm) (a : Cnt), 4000 < a.1 + l.length → foldO countY a l = none
  | [], a, h => by have := a.2; simp at h; omega
  | t :: l, a, h => by
    simp only [foldO, countY]
    by_cases h1 : a.1 + 1 ≤ 4000
    · simp only [h1, dif_pos]; exact countY_none l _ (by simp at h ⊢; omega)
    · simp only [h1, dif_neg, not_false_eq_true]
theorem countY_some : ∀ (l : List Tm) (a : Cnt) (h : a.1 + l.length ≤ 4000), foldO countY a l = some ⟨a.1 + l.length, h⟩
  | [], a, h => rfl
  | t :: l, a, h => by
    have h1 : a.1 + 1 ≤ 4000 := by simp at h; omega
    simp only [foldO, countY, h1, dif_pos]
    rw [countY_some l ⟨a.1 + 1, h1⟩ (by simp at h ⊢; omega)]
    simp only [List.length_cons]; congr 2; omega
def rightY (kind : Int) (_ : Unit) (t : Tm) : Option Unit := if decide (t.kind ≤ kind) && rightT t then some () else none
theorem rightY_some (kind : Int) : ∀ l : List Tm, l.all (fun t => decide (t.kind ≤ kind) && rightT t) = true → foldO (rightY kind) () l = some ()
  | [], _ => rfl
  | t :: l, h => by
    rw [List.all_cons, Bool.and_eq_true] at h
    simp only [foldO, rightY, h.1, if_true]
    exact rightY_some kind l h.2
theorem rightY_none (kind : Int) : ∀ l : List Tm, l.all (fun t => decide (t.kind ≤ kind) && rightT t) = false → foldO (rightY kind) () l = none
  | [], h => by cases h
  | t :: l, h => by
    rw [List.all_cons, Bool.and_eq_false_iff] at h
    by_cases h1 : (decide (t.kind ≤ kind) && rightT t) = true
    · simp only [foldO, rightY, h1, if_true]
      rcases h with h | h
      · rw [h] at h1; cases h1
      · exact rightY_none kind l h
    · simp only [foldO, rightY]; rw [if_neg h1]
def checkT (kind : Int) (ts : List Tm) : Int := if 4000 < nTs ts then 5 else if 100 < dpS ts then 6 else if (preS ts).all (fun t => decide (t.kind ≤ kind) && rightT t) then 0 else 2

section
variable {E : IEnv} (hE : E.fns = Table.fn table)
include hE
theorem check_count {ts : List Tm} {v : AV} (hv : Sl ts v) (hm : nTs ts < most) {k : Nat} (hk : 2 * nTs ts + 10 ≤ k) {bl : List AB} {tk : List Nat} {C3 : AB} {Q : Pst} {e : Env} (e4 : e.get 4 = .ptr (bl.length + 1) 0) (e5 : e.get 5 = .ptr (bl.length + 2) 0)
    (e8 : e.get 8 = .fn n_term_all_1 [] [.ptr (bl.length + 3) 0])
    (q1 : nTs ts ≤ 4000 → ∀ L r, Q .normal e { bl := bl ++ (C3 :: .cells [.int .i64 0] :: .cells [.int .i64 (nTs ts)] :: .cells [v] :: L :: r), tk, ro := bl.length, rt := tk.length })
    (q2 : 4000 < nTs ts → ∀ C L r, Q .ret e { bl := bl ++ (C3 :: .cells [.int .i64 5] :: C :: .cells [v] :: L :: r), tk, ro := bl.length, rt := tk.length }) :
    wp E (callA E k) k false (.rangeFn (.t 8) [9] .skip l0_term_check) Q e { bl := bl ++ [C3, .cells [.int .i64 0], .cells [.int .i64 0], .cells [v]], tk, ro := bl.length, rt := tk.length } := by
  have hmx : maxLen = 9223372036854775807 := rfl
  have hmm : most = 1073741824 := rfl
  let L0 : ALoop := { st := .ready, pend := none, env := e, ps := [9], assign := .skip, body := l0_term_check }
  let B : Cnt → List AB := fun a => bl ++ [C3, .cells [.int .i64 0], .cells [.int .i64 a.1], .cells [v]]
  refine wp_range ?_
  have key := call_all_1 hE B (bl.length + 4) (fun a => by simp [B]) tk bl.length tk.length (by omega) (.loop L0) countY
    (fun s => ∃ C r, s = { bl := bl ++ (C3 :: .cells [.int .i64 5] :: C :: .cells [v] :: .loop { L0 with st := .done, pend := some .ret } :: r), tk, ro := bl.length, rt := tk.length }) 2 (fun _ => True)
    (by rintro s ⟨C, r, rfl⟩; exact ⟨rfl, rfl⟩)
    (by
      intro a g t x k _ hx hk
      obtain ⟨k, rfl⟩ : ∃ j, k = j + 1 := ⟨k - 1, by omega⟩
      refine call_round (L := L0) (by simp [B, append_get]) rfl rfl (by simp) ?_
      obtain ⟨a, ha⟩ := a
      have hw : IntKind.wrap .i64 ((a : Int) + 1) = a + 1 := wrapIn (by omega) (by omega)
      by_cases h : a + 1 ≤ 4000
      · have h3 : ¬ (4000 : Int) < (a : Int) + 1 := by omega
        simp [L0, B, countY, h, l0_term_check, putAll, Env.get_put, e4, e5, append_get, append_get0, append_set, append_set0, hw, h3]
      · have h3 : (4000 : Int) < (a : Int) + 1 := by omega
        simp [L0, B, countY, h, l0_term_check, putAll, Env.get_put, e4, e5, append_get, append_get0, append_set, append_set0, hw, h3])
    ⟨0, by omega⟩ k (bl.length + 3) (fun a r => by simp [B, append_get]) hm (fun _ _ => trivial) hv (by omega)
  obtain ⟨v', s', hcl, hor⟩ := key
  refine ⟨v', false, s', ?_, ?_⟩
  · simp only [Opd.ev, e8]
    rw [← hcl]
    simp [B, L0, St.push]
  · by_cases h : 4000 < nTs ts
    · rw [countY_none _ _ (by rw [preS_length]; simpa using h)] at hor
      obtain ⟨C, r, rfl⟩ := hor
      refine ⟨{ L0 with st := .done, pend := some .ret }, by simp [append_get], .inr (.inr ⟨rfl, rfl, ?_⟩)⟩
      simpa [append_set, append_set0] using q2 h _ _ r
    · rw [countY_some _ _ (by rw [preS_length]; simp; omega)] at hor
      obtain ⟨r, rfl⟩ := hor
      refine ⟨L0, by simp [B, append_get], .inl ⟨rfl, rfl, ?_⟩⟩
      simpa [B, append_set, append_set0, preS_length] using q1 (by omega) _ r

theorem check_right {ts : List Tm} {v : AV} (hv : Sl ts v) (hm : nTs ts < most) {M : Nat} (hM : M ≤ maxLen) (hW : ∀ t ∈ preS ts, t.text.length ≤ M) (kind : Int) {k : Nat} (hk : 2 * nTs ts + M + 20 ≤ k) {bl r : List AB} {tk : List Nat} {C5 CB Lx : AB} {Q : Pst} {e : Env}
    (e3 : e.get 3 = .ptr bl.length 0) (e4 : e.get 4 = .ptr (bl.length + 1) 0) (e18 : e.get 18 = .fn n_term_all_1 [] [.ptr (bl.length + (r.length + 5)) 0])
    (q1 : (preS ts).all (fun t => decide (t.kind ≤ kind) && rightT t) = true → ∀ g, Q .normal e { bl := bl ++ (.cells [.int .i64 kind] :: .cells [.int .i64 0] :: g), tk, ro := bl.length, rt := tk.length })
    (q2 : (preS ts).all (fun t => decide (t.kind ≤ kind) && rightT t) = false → ∀ g, Q .ret e { bl := bl ++ (.cells [.int .i64 kind] :: .cells [.int .i64 2] :: g), tk, ro := bl.length, rt := tk.length }) :
    wp E (callA E k) k false (.rangeFn (.t 18) [19] (.region [⟨(some 6), .alloc [.int .i64 0, .str [], .sl .nil 3 []], none, [], false⟩, ⟨none, .store 3 (.t 6) (.t 19), none, [], false⟩] [6] false) l1_term_check) Q e
      { bl := bl ++ (.cells [.int .i64 kind] :: .cells [.int .i64 0] :: C5 :: CB :: Lx :: (r ++ [.cells [v]])), tk, ro := bl.length, rt := tk.length } := by
  have hmx : maxLen = 9223372036854775807 := rfl
  have hmm : most = 1073741824 := rfl
  let L0 : ALoop := { st := .ready, pend := none, env := e, ps := [19], assign := (.region [⟨(some 6), .alloc [.int .i64 0, .str [], .sl .nil 3 []], none, [], false⟩, ⟨none, .store 3 (.t 6) (.t 19), none, [], false⟩] [6] false), body := l1_term_check }
  let B : Unit → List AB := fun _ => bl ++ (.cells [.int .i64 kind] :: .cells [.int .i64 0] :: C5 :: CB :: Lx :: (r ++ [.cells [v]]))
  have hlen : (bl ++ (.cells [.int .i64 kind] :: .cells [.int .i64 0] :: C5 :: CB :: Lx :: (r ++ [.cells [v]]))).length = bl.length + (r.length + 6) := by simp
  refine wp_range ?_
  have key := call_all_1 hE B (bl.length + (r.length + 6)) (fun a => hlen) tk bl.length tk.length (by omega) (.loop L0) (rightY kind)
    (fun s => ∃ g, s = { bl := bl ++ (.cells [.int .i64 kind] :: .cells [.int .i64 2] :: C5 :: CB :: Lx :: (r ++ (.cells [v] :: .loop { L0 with st := .done, pend := some .ret } :: g))), tk, ro := bl.length, rt := tk.length }) (M + 12) (fun t => t.text.length ≤ M)
    (by rintro s ⟨g, rfl⟩; exact ⟨rfl, rfl⟩)
    (by
      intro a g t x k ht hx hk
      obtain ⟨k, rfl⟩ : ∃ j, k = j + 1 := ⟨k - 1, by omega⟩
      have hr := fn_right hE hx (by omega) k (by omega)
      obtain ⟨kx, rfl, hkx⟩ := hx.open
      refine call_round (L := L0) (by simp [B, append_get, append_get0]) rfl rfl (by simp) ?_
      by_cases h : t.kind ≤ kind
      · have h3 : ¬ kind < t.kind := by omega
        cases h4 : rightT t with
        | true =>
          rw [h4] at hr
          simp [L0, B, rightY, h, h4, l1_term_check, putAll, Env.get_put, e3, e4, append_get, append_get0, append_set, append_set0, h3, hr]
        | false =>
          rw [h4] at hr
          simp [L0, B, rightY, h, h4, l1_term_check, putAll, Env.get_put, e3, e4, append_get, append_get0, append_set, append_set0, h3, hr]
      · have h3 : kind < t.kind := by omega
        simp [L0, B, rightY, h, l1_term_check, putAll, Env.get_put, e3, e4, append_get, append_get0, append_set, append_set0, h3])
    () k (bl.length + (r.length + 5)) (fun a g => by simp [B, append_get, append_get0]) hm hW hv (by omega)
  obtain ⟨v', s', hcl, hor⟩ := key
  refine ⟨v', false, s', ?_, ?_⟩
  · simp only [Opd.ev, e18, hlen]
    rw [← hcl]
    simp [B, L0, St.push]
  · rw [hlen]
    cases h : (preS ts).all (fun t => decide (t.kind ≤ kind) && rightT t) with
    | false =>
      rw [rightY_none _ _ h] at hor
      obtain ⟨g, rfl⟩ := hor
      refine ⟨{ L0 with st := .done, pend := some .ret }, by simp [append_get, append_get0], .inr (.inr ⟨rfl, rfl, ?_⟩)⟩
      simpa [append_set, append_set0] using q2 h _
    | true =>
      rw [rightY_some _ _ h] at hor
      obtain ⟨g, rfl⟩ := hor
      refine ⟨L0, by simp [B, append_get, append_get0], .inl ⟨rfl, rfl, ?_⟩⟩
      simpa [B, append_set, append_set0] using q1 h _

theorem fn_check {ts : List Tm} {v : AV} (hv : Sl ts v) (hm : nTs ts < most) {M : Nat} (hM : M ≤ maxLen) (hW : ∀ t ∈ preS ts, t.text.length ≤ M) (kind : Int) : Fn E (.fn n_term_check [] []) [v, .int .i64 kind] (.int .i64 (checkT kind ts)) := by
  have hmm : most = 1073741824 := rfl
  obtain ⟨K, hK⟩ := fn_depth hE _ (Nat.lt_succ_self _) (by omega) hv
  have hsl : ∃ o xs, v = .sl o 3 xs := by obtain ⟨o, xs, h, _⟩ := hv.len; exact ⟨o, xs, h⟩
  refine Fn.byW (h_term_check hE) rfl rfl ⟨K + 2 * nTs ts + M + 30, fun k hk bl tk => ?_⟩
  have hal := call_all hE hsl k (by omega)
  have hd := hK k (by omega)
  simp [F_term_check, b_term_check, hal]
  refine check_count hE hv hm (by omega) (by simp) (by simp) (by simp) (fun h L r => ?_) (fun h C L r => ?_)
  · by_cases hdp : 100 < dpS ts
    · have hc : checkT kind ts = 6 := by unfold checkT; rw [if_neg (by omega), if_pos hdp]
      have hdi : (100 : Int) < (dpS ts : Int) := by omega
      simp [hd, hdi, hc, append_get, append_get0, append_set, append_set0]
    · have hdi : ¬ (100 : Int) < (dpS ts : Int) := by omega
      simp [hd, hdi, hal, append_get, append_get0, append_set, append_set0]
      refine check_right hE hv hm hM hW kind (by omega) (by simp) (by simp) (by simp) (fun hr g => ?_) (fun hr g => ?_)
      · have hc : checkT kind ts = 0 := by unfold checkT; rw [if_neg (by omega), if_neg hdp, if_pos hr]
        simp [hc, append_get, append_get0, append_set, append_set0]
      · have hc : checkT kind ts = 2 := by unfold checkT; rw [if_neg (by omega), if_neg hdp, if_neg (by rw [hr]; simp)]
        simp [hc, append_get, append_get0, append_set, append_set0]
  · have hc : checkT kind ts = 5 := by unfold checkT; rw [if_pos h]
    simp [hc, append_get, append_get0, append_set, append_set0]
end
end Ab.U

/- What 'term.Value' answers. No condition but the table. -/
namespace Ab.U
open Go Ab Go.RowKit
set_option maxRecDepth 10000
set_option linter.all false
section
variable {E : IEnv} (hE : E.fns = Table.fn table)
include hE
theorem fn_Value {ts : List Tm} {v : AV} (hv : Sl ts v) (hm : nTs ts < most) {M : Nat} (hM : M ≤ maxLen) (hW : ∀ t ∈ preS ts, t.text.length ≤ M) : Fn E (.fn n_term_Value [] []) [v] (.int .i64 (checkT 4 ts)) := by
  obtain ⟨K, h⟩ := fn_check hE hv hm hM hW 4
  exact Fn.byW (h_term_Value hE) rfl rfl ⟨K, fun k hk bl tk => by simp [F_term_Value, b_term_Value, h k hk]⟩
end
end Ab.U
