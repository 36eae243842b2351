/- What the comparisons answer. No condition but the table. -/
import Derived.Test.YtengohlmonphiaaGreatDoorAb09
import Derived.Test.YtengohlmonphiaaGreatDoorAb11
import Derived.Test.YtengohlmonphiaaGreatDoorAb10
set_option linter.all false
namespace Ab.D
open Go Ab Go.RowKit
set_option maxRecDepth 10000
set_option linter.unusedSimpArgs false
set_option linter.unusedVariables false
section
variable {E : IEnv} (hE : E.fns = Table.fn table)
include hE
theorem fn_isNaN_int (a : Int) : FnK 1 E (.fn n_cmp_isNaN_int_ [] []) [.int .i64 a] (.bool false) :=
  FnK.byW (h_cmp_isNaN_int_ hE) rfl rfl (K := 0) fun k hk bl tk => by simp [F_cmp_isNaN_int_, b_cmp_isNaN_int_]
theorem fn_isNaN_string (a : List UInt8) : FnK 1 E (.fn n_cmp_isNaN_string_ [] []) [.str a] (.bool false) :=
  FnK.byW (h_cmp_isNaN_string_ hE) rfl rfl (K := 0) fun k hk bl tk => by simp [F_cmp_isNaN_string_, b_cmp_isNaN_string_]
theorem fn_cmp_int (a b : Int) : FnK 2 E (.fn n_cmp_Compare_int_ [] []) [.int .i64 a, .int .i64 b] (.int .i64 (cmpI a b)) :=
  FnK.byW (h_cmp_Compare_int_ hE) rfl rfl (K := 1) fun k hk bl tk => by
    have h1 := fn_isNaN_int hE a k hk
    have h2 := fn_isNaN_int hE b k hk
    unfold cmpI
    by_cases c1 : a < b
    · simp [F_cmp_Compare_int_, b_cmp_Compare_int_, h1, h2, c1]
    · by_cases c2 : a > b
      · simp [F_cmp_Compare_int_, b_cmp_Compare_int_, h1, h2, c1, c2]
      · simp [F_cmp_Compare_int_, b_cmp_Compare_int_, h1, h2, c1, c2]
theorem fn_cmp_string (a b : List UInt8) : FnK 2 E (.fn n_cmp_Compare_string_ [] []) [.str a, .str b] (.int .i64 (cmpS a b)) :=
  FnK.byW (h_cmp_Compare_string_ hE) rfl rfl (K := 1) fun k hk bl tk => by
    have h1 := fn_isNaN_string hE a k hk
    have h2 := fn_isNaN_string hE b k hk
    unfold cmpS
    by_cases c1 : Go.Op.bytesLess a b = true
    · simp [F_cmp_Compare_string_, b_cmp_Compare_string_, h1, h2, c1]
    · have c1' : Go.Op.bytesLess a b = false := by simpa using c1
      by_cases c2 : a = b
      · subst c2
        simp [F_cmp_Compare_string_, b_cmp_Compare_string_, h1, c1']
      · have c2' : (a == b) = false := by simpa using c2
        simp [F_cmp_Compare_string_, b_cmp_Compare_string_, h1, h2, c1', c2, c2']
theorem fn_Sign (a b : List UInt8) : FnK 1 E (.fn n_chiasmusref01_Sign [] []) [.str a, .str b] (.int .i64 (cmpS a b)) :=
  FnK.byW (h_chiasmusref01_Sign hE) rfl rfl (K := 0) fun k hk bl tk => by
    unfold cmpS
    by_cases c1 : Go.Op.bytesLess a b = true
    · simp [F_chiasmusref01_Sign, b_chiasmusref01_Sign, c1]
    · have c1' : Go.Op.bytesLess a b = false := by simpa using c1
      by_cases c2 : a = b
      · subst c2
        simp [F_chiasmusref01_Sign, b_chiasmusref01_Sign, c1']
      · have c2' : (a == b) = false := by simpa using c2
        simp [F_chiasmusref01_Sign, b_chiasmusref01_Sign, c1', c2, c2']

theorem fn_term_Compare : ∀ (n : Nat) {ts us : List Tm} {v w : AV}, nTs ts < n → Sl ts v → Sl us w → Fn E (.fn n_term_Compare [] []) [v, w] (.int .i64 (cmpTs ts us))
  | 0, _, _, _, _, h, _, _ => by omega
  | n + 1, ts, us, v, w, hn, hv, hw => by
    obtain ⟨o1, xs, rfl, ⟨hm1, _⟩, h1⟩ := hv
    obtain ⟨o2, ys, rfl, ⟨hm2, _⟩, h2⟩ := hw
    have hl1 := h1.length
    have hl2 := h2.length
    have hmx : maxLen = 9223372036854775807 := rfl
    obtain ⟨K, hK⟩ := kids_all (E := E) (f := .fn n_term_Compare [] []) (c := fun t u => cmpTs t.kids u.kids) h1 h2 fun t u v w ht hu hv hw => fn_term_Compare n (by have := nT_mem ht; rw [nT_eq] at this; omega) hv hw
    have ci := fn_cmp_int hE
    have cs := fn_cmp_string hE
    have c1 := c_cmp_Compare_int_ hE [] []
    have c2 := c_cmp_Compare_string_ hE [] []
    have c3 := c_term_Compare hE [] []
    have hmin : (if ys.length < xs.length then (ys.length : Int) else (xs.length : Int)) = ((min ts.length us.length : Nat) : Int) := by split <;> omega
    refine Fn.byW (h_term_Compare hE) rfl rfl ⟨K + ts.length + 10, fun k hk bl tk => ?_⟩
    simp [F_term_Compare, b_term_Compare, mmAll, mmA]
    rw [hmin]
    refine wp_loop (min ts.length us.length) (fun i e s => cmpTs ts us = cmpTs (ts.drop i) (us.drop i) ∧ e = [(0, .sl o1 3 xs), (1, .sl o2 3 ys), (11, .int .i64 ((min ts.length us.length : Nat) : Int)), (12, .int .i64 i)] ∧ s = { bl := bl, tk, ro := bl.length, rt := tk.length }) (by omega) (by simp) ?_ ?_
    · rintro i e s hi ⟨hq, rfl, rfl⟩
      obtain ⟨t, ht⟩ : ∃ t, ts[i]? = some t := ⟨_, List.getElem?_eq_getElem (by omega)⟩
      obtain ⟨u, hu⟩ : ∃ u, us[i]? = some u := ⟨_, List.getElem?_eq_getElem (by omega)⟩
      obtain ⟨vx, vy, hx, hy, hc⟩ := hK k (by omega) i t u ht hu
      obtain ⟨hi1, hx1⟩ := List.getElem?_eq_some_iff.1 hx
      obtain ⟨hi2, hy1⟩ := List.getElem?_eq_some_iff.1 hy
      have e1 : idx (.int .i64 i) xs.length = some i := idx_nat hi1
      have e2 : idx (.int .i64 i) ys.length = some i := idx_nat hi2
      have hwr : IntKind.wrap .i64 ((i : Int) + 1) = i + 1 := wrapIn (by omega) (by omega)
      have hst := cmpTs_step ht hu
      have hlt : (i : Int) < ((min ts.length us.length : Nat) : Int) := by omega
      obtain ⟨mn, hmn⟩ : ∃ mn : Int, mn = ((min ts.length us.length : Nat) : Int) := ⟨_, rfl⟩
      rw [← hmn] at hlt ⊢
      have ci' := fun a b => ci a b k (by omega)
      have cs' := fun a b => cs a b k (by omega)
      rw [cmpT_eq] at hst
      by_cases k1 : t.kind = u.kind
      · by_cases k2 : t.text = u.text
        · simp only [k1, k2, ne_eq, not_true_eq_false, if_false] at hst
          by_cases k3 : cmpTs t.kids u.kids = 0
          · simp only [k3, not_true_eq_false, if_false] at hst
            rw [k3] at hc
            simp [l0_term_Compare, hlt, e1, e2, hi1, hi2, hx1, hy1, hx, hy, k1, k2, hc, c1, c2, c3, hwr]
            rw [hq, hst]
          · simp only [k3, not_false_eq_true, if_true] at hst
            have k3' : (cmpTs t.kids u.kids != 0) = true := by simpa using k3
            simp [l0_term_Compare, hlt, e1, e2, hi1, hi2, hx1, hy1, hx, hy, k1, k2, hc, c1, c2, c3, hwr, k3, k3']
            rw [hq, hst]
        · have k2' : (t.text != u.text) = true := by simpa using k2
          have := cmpS_ne k2
          simp only [k1, k2, ne_eq, not_true_eq_false, if_false, not_false_eq_true, if_true, this] at hst
          have k2'' : (t.text == u.text) = false := by simpa using k2
          simp [l0_term_Compare, hlt, e1, e2, hi1, hi2, hx1, hy1, hx, hy, k1, k2, k2', k2'', cs', c1, c2, c3, hwr]
          rw [hq, hst]
      · have k1' : (t.kind != u.kind) = true := by simpa using k1
        have := cmpI_ne k1
        simp only [k1, ne_eq, not_false_eq_true, if_true, this] at hst
        simp [l0_term_Compare, hlt, e1, e2, hi1, hi2, hx1, hy1, hx, hy, k1, k1', ci', c1, c2, c3, hwr]
        rw [hq, hst]
    · rintro e s ⟨hq, rfl, rfl⟩
      rw [cmpTs_end] at hq
      simp [l0_term_Compare, ci _ _ k (by omega), hq, hl1, hl2]
end
end Ab.D

/- What the comparison of the reference, and both 'Equal', answer. No condition but the table. -/
namespace Ab.D
open Go Ab Go.RowKit
set_option maxRecDepth 10000
set_option linter.unusedSimpArgs false
set_option linter.unusedVariables false
section
variable {E : IEnv} (hE : E.fns = Table.fn table)
include hE
theorem fn_ref_Compare : ∀ (n : Nat) {ts us : List Tm} {v w : AV}, nTs ts < n → Sl ts v → Sl us w → Fn E (.fn n_chiasmusref01_Compare [] []) [v, w] (.int .i64 (cmpTs ts us))
  | 0, _, _, _, _, h, _, _ => by omega
  | n + 1, ts, us, v, w, hn, hv, hw => by
    obtain ⟨o1, xs, rfl, ⟨hm1, _⟩, h1⟩ := hv
    obtain ⟨o2, ys, rfl, ⟨hm2, _⟩, h2⟩ := hw
    have hl1 := h1.length
    have hl2 := h2.length
    have hmx : maxLen = 9223372036854775807 := rfl
    obtain ⟨K, hK⟩ := kids_all (E := E) (f := .fn n_chiasmusref01_Compare [] []) (c := fun t u => cmpTs t.kids u.kids) h1 h2 fun t u v w ht hu hv hw => fn_ref_Compare n (by have := nT_mem ht; rw [nT_eq] at this; omega) hv hw
    have cs := fn_Sign hE
    have c2 := c_chiasmusref01_Sign hE [] []
    have c3 := c_chiasmusref01_Compare hE [] []
    refine Fn.byW (h_chiasmusref01_Compare hE) rfl rfl ⟨K + ts.length + 10, fun k hk bl tk => ?_⟩
    simp [F_chiasmusref01_Compare, b_chiasmusref01_Compare]
    refine wp_loop (min ts.length us.length) (fun i e s => cmpTs ts us = cmpTs (ts.drop i) (us.drop i) ∧ e = [(0, .sl o1 3 xs), (1, .sl o2 3 ys), (5, .int .i64 i)] ∧ s = { bl := bl, tk, ro := bl.length, rt := tk.length }) (by omega) (by simp) ?_ ?_
    · rintro i e s hi ⟨hq, rfl, rfl⟩
      obtain ⟨t, ht⟩ : ∃ t, ts[i]? = some t := ⟨_, List.getElem?_eq_getElem (by omega)⟩
      obtain ⟨u, hu⟩ : ∃ u, us[i]? = some u := ⟨_, List.getElem?_eq_getElem (by omega)⟩
      obtain ⟨vx, vy, hx, hy, hc⟩ := hK k (by omega) i t u ht hu
      obtain ⟨hi1, hx1⟩ := List.getElem?_eq_some_iff.1 hx
      obtain ⟨hi2, hy1⟩ := List.getElem?_eq_some_iff.1 hy
      have e1 : idx (.int .i64 i) xs.length = some i := idx_nat hi1
      have e2 : idx (.int .i64 i) ys.length = some i := idx_nat hi2
      have hwr : IntKind.wrap .i64 ((i : Int) + 1) = i + 1 := wrapIn (by omega) (by omega)
      have hst := cmpTs_step ht hu
      have cs' := fun a b => cs a b k (by omega)
      rw [cmpT_eq] at hst
      by_cases k1 : t.kind = u.kind
      · by_cases k2 : t.text = u.text
        · simp only [k1, k2, ne_eq, not_true_eq_false, if_false] at hst
          have k2c : cmpS u.text u.text = 0 := by unfold cmpS; simp [bytesLess_self]
          by_cases k3 : cmpTs t.kids u.kids = 0
          · simp only [k3, not_true_eq_false, if_false] at hst
            rw [k3] at hc
            simp [l0_chiasmusref01_Compare, e1, e2, hi1, hi2, hx1, hy1, hx, hy, k1, k2, k2c, hc, cs', c2, c3, hwr]
            rw [hq, hst]
          · simp only [k3, not_false_eq_true, if_true] at hst
            have k3' : (cmpTs t.kids u.kids != 0) = true := by simpa using k3
            simp [l0_chiasmusref01_Compare, e1, e2, hi1, hi2, hx1, hy1, hx, hy, k1, k2, k2c, hc, cs', c2, c3, hwr, k3, k3']
            rw [hq, hst]
        · have := cmpS_ne k2
          simp only [k1, k2, ne_eq, not_true_eq_false, if_false, not_false_eq_true, if_true, this] at hst
          have k2' : (cmpS t.text u.text != 0) = true := by simpa using this
          simp [l0_chiasmusref01_Compare, e1, e2, hi1, hi2, hx1, hy1, hx, hy, k1, k2', this, cs', c2, c3, hwr]
          rw [hq, hst]
      · have k1' : (t.kind != u.kind) = true := by simpa using k1
        have := cmpI_ne k1
        simp only [k1, ne_eq, not_false_eq_true, if_true, this] at hst
        unfold cmpI at hst
        by_cases k4 : t.kind < u.kind
        · rw [if_pos k4] at hst
          simp [l0_chiasmusref01_Compare, e1, e2, hi1, hi2, hx1, hy1, hx, hy, k1, k1', k4, c2, c3, hwr]
          rw [hq, hst]
        · rw [if_neg k4, if_pos (by omega)] at hst
          simp [l0_chiasmusref01_Compare, e1, e2, hi1, hi2, hx1, hy1, hx, hy, k1, k1', k4, c2, c3, hwr]
          rw [hq, hst]
    · rintro e s ⟨hq, rfl, rfl⟩
      rw [cmpTs_end] at hq
      unfold cmpI at hq
      rw [hq]
      by_cases l1 : ts.length < us.length
      · have m1 : min xs.length ys.length = xs.length := by omega
        have l2 : xs.length < ys.length := by omega
        simp [l0_chiasmusref01_Compare, m1, ← hl1, ← hl2, l2]
      · have m1 : min xs.length ys.length = ys.length := by omega
        by_cases l2 : us.length < ts.length
        · have l3 : ys.length < xs.length := by omega
          have l4 : ¬ xs.length < ys.length := by omega
          simp [l0_chiasmusref01_Compare, m1, ← hl1, ← hl2, l3, l4]
        · have l3 : ¬ ys.length < xs.length := by omega
          have l4 : ¬ xs.length < ys.length := by omega
          simp [l0_chiasmusref01_Compare, m1, ← hl1, ← hl2, l3, l4]

theorem fn_ref_Equal {ts us : List Tm} {v w : AV} (hv : Sl ts v) (hw : Sl us w) : Fn E (.fn n_chiasmusref01_Equal [] []) [v, w] (.bool (cmpTs ts us == 0)) := by
  obtain ⟨K, hK⟩ := fn_ref_Compare hE _ (Nat.lt_succ_self _) hv hw
  exact Fn.byW (h_chiasmusref01_Equal hE) rfl rfl ⟨K, fun k hk bl tk => by simp [F_chiasmusref01_Equal, b_chiasmusref01_Equal, hK k hk]⟩
theorem fn_term_Equal {ts us : List Tm} {v w : AV} (hv : Sl ts v) (hw : Sl us w) : Fn E (.fn n_term_Equal [] []) [v, w] (.bool (cmpTs ts us == 0)) := by
  obtain ⟨K, hK⟩ := fn_term_Compare hE _ (Nat.lt_succ_self _) hv hw
  exact Fn.byW (h_term_Equal hE) rfl rfl ⟨K, fun k hk bl tk => by simp [F_term_Equal, b_term_Equal, hK k hk]⟩
end
end Ab.D

/- What 'Check' and 'Get' answer, of the program and of the reference. No condition but the table. -/
namespace Ab.D
open Go Ab Go.RowKit
set_option maxRecDepth 10000
set_option linter.all false
def Shorts (M : Nat) (ts : List Tm) : Prop := ∀ t ∈ preS ts, t.text.length ≤ M
def ShortS (M : Nat) (ps : List Bur) : Prop := ∀ p ∈ ps, Shorts M p.1 ∧ Shorts M p.2
def errB : List Bur → Int
  | [] => 0
  | p :: ps => if checkT 4 p.1 ≠ 0 then checkT 4 p.1 else if checkT 4 p.2 ≠ 0 then checkT 4 p.2 else errB ps
def checkB (ps : List Bur) (os : List (List UInt8)) : Int := if 200 < ps.length ∨ 200 < os.length then 5 else errB ps
def keyIs (key : List Tm) (p : Bur) : Bool := cmpTs p.1 key == 0
def getB (ps : List Bur) (key : List Tm) : List (List Tm) := (ps.filter (keyIs key)).map (·.2)
def fst2 : AV → AV | .agg [a, _] => a | _ => .junk
def snd2 : AV → AV | .agg [_, b] => b | _ => .junk
section
variable {E : IEnv} (hE : E.fns = Table.fn table)
include hE
omit hE in
theorem errB_drop {ps : List Bur} {i : Nat} {p : Bur} (h : ps[i]? = some p) : errB (ps.drop i) = if checkT 4 p.1 ≠ 0 then checkT 4 p.1 else if checkT 4 p.2 ≠ 0 then checkT 4 p.2 else errB (ps.drop (i + 1)) := by
  obtain ⟨hi, h1⟩ := List.getElem?_eq_some_iff.1 h
  rw [List.drop_eq_getElem_cons hi, h1]; rfl
theorem fn_Check {ps : List Bur} {os : List (List UInt8)} {v : AV} (hm : szS ps os) {M : Nat} (hM : M ≤ maxLen) (hn : ∀ p ∈ ps, nTs p.1 < most ∧ nTs p.2 < most) (hS : ShortS M ps) (hv : Sto ps os v) : Fn E (.fn n_builtin_Check [] []) [v] (.int .i64 (checkB ps os)) := by
  obtain ⟨ob, xs, oo, ys, rfl, hx, hy, hb, ho⟩ := hv
  have hlx := hx.length
  have hly := hy.length
  have hmm : most = 1073741824 := rfl
  obtain ⟨hm1, hm2, hm3⟩ := hm
  obtain ⟨K1, hK1⟩ := all_ev (E := E) (f := .fn n_term_Value [] []) (g := fun x => [(fst2 x).untok]) (c := fun p => .int .i64 (checkT 4 p.1)) hx (by
    rintro p x hp ⟨a, b, rfl, ha, hb⟩
    exact fn_Value hE ha.untok (hn p hp).1 hM (hS p hp).1)
  obtain ⟨K2, hK2⟩ := all_ev (E := E) (f := .fn n_term_Value [] []) (g := fun x => [(snd2 x).untok]) (c := fun p => .int .i64 (checkT 4 p.2)) hx (by
    rintro p x hp ⟨a, b, rfl, ha, hb⟩
    exact fn_Value hE hb.untok (hn p hp).2 hM (hS p hp).2)
  refine Fn.byW (h_builtin_Check hE) rfl rfl ⟨K1 + K2 + ps.length + 10, fun k hk bl tk => ?_⟩
  unfold checkB
  by_cases c1 : 200 < ps.length
  · have c1' : (200 : Int) < xs.length := by omega
    rw [if_pos (.inl c1)]
    simp [F_builtin_Check, b_builtin_Check, c1']
  have c1' : ¬ (200 : Int) < xs.length := by omega
  by_cases c2 : 200 < os.length
  · have c2' : (200 : Int) < ys.length := by omega
    rw [if_pos (.inr c2)]
    simp [F_builtin_Check, b_builtin_Check, c1', c2']
  have c2' : ¬ (200 : Int) < ys.length := by omega
  rw [if_neg (by omega)]
  obtain ⟨R, hR⟩ : ∃ R, R = errB ps := ⟨_, rfl⟩
  rw [← hR]
  simp [F_builtin_Check, b_builtin_Check, c1', c2']
  refine wp_loop xs.length (fun i e s => R = errB (ps.drop i) ∧ ∃ b, bl.length ≤ b.length ∧ e = [(19, .sl ob 2 xs), (20, .int .i64 xs.length), (21, .int .i64 i)] ∧ s = { bl := b, tk, ro := bl.length, rt := tk.length }) (by omega) ⟨by simp [hR], _, by simp, rfl, rfl⟩ ?_ ?_
  · rintro i e s hi ⟨hq, b, hbl, rfl, rfl⟩
    obtain ⟨p, hp⟩ : ∃ p, ps[i]? = some p := ⟨_, List.getElem?_eq_getElem (by omega)⟩
    obtain ⟨x, hxi, u, w, rfl, hu, hw⟩ := hx.get hp
    have g1 := hK1 k (by omega) i _ p hxi hp
    have g2 := hK2 k (by omega) i _ p hxi hp
    simp only [fst2, snd2] at g1 g2
    obtain ⟨o3, x3, rfl⟩ : ∃ o xs, u = .sl o 3 xs := by obtain ⟨o, xs, h, _⟩ := hu; exact ⟨o, xs, h⟩
    obtain ⟨o4, x4, rfl⟩ : ∃ o xs, w = .sl o 3 xs := by obtain ⟨o, xs, h, _⟩ := hw; exact ⟨o, xs, h⟩
    obtain ⟨p3, _, hu3⟩ := untok_sl o3 3 x3
    obtain ⟨p4, _, hw4⟩ := untok_sl o4 3 x4
    rw [hu3] at g1
    rw [hw4] at g2
    obtain ⟨hi1, hx1⟩ := List.getElem?_eq_some_iff.1 hxi
    have e1 : idx (.int .i64 i) xs.length = some i := idx_nat hi
    have hwr : IntKind.wrap .i64 ((i : Int) + 1) = i + 1 := wrapIn (by omega) (by omega)
    rw [errB_drop hp] at hq
    simp [l1_builtin_Check, hi, e1, hx1, append_get, append_get0, append_set, append_set0, hbl, setElems, repl, hasSize, hu3, hw4]
    refine wp_loop 2 (fun j e s => (∃ b2, bl.length ≤ b2.length ∧ (j = 0 ∨ j = 1 ∧ checkT 4 p.1 = 0 ∨ j = 2 ∧ checkT 4 p.1 = 0 ∧ checkT 4 p.2 = 0) ∧ e = [(19, .sl ob 2 xs), (20, .int .i64 xs.length), (21, .int .i64 i), (29, .sl .full 1 [.sl p3 3 x3, .sl p4 3 x4]), (30, .int .i64 2), (31, .int .i64 j)] ∧ s = { bl := b2, tk, ro := bl.length, rt := tk.length })) (by omega) (by refine ⟨_, ?_, .inl rfl, rfl, rfl⟩; simp; omega) ?_ ?_
    · rintro j e s hj ⟨b2, hb2, hj2, rfl, rfl⟩
      have hjw : IntKind.wrap .i64 ((j : Int) + 1) = j + 1 := wrapIn (by omega) (by omega)
      rcases hj2 with rfl | ⟨rfl, hj0⟩ | ⟨rfl, _⟩
      · have e2 : idx (.int .i64 ((0 : Nat) : Int)) 2 = some 0 := idx_nat (by omega)
        by_cases z : checkT 4 p.1 = 0
        · rw [z] at g1
          simp [l0_builtin_Check, g1, idx, hb2, z, show IntKind.wrap .i64 1 = 1 from by decide]
        · have z' : (checkT 4 p.1 != 0) = true := by simpa using z
          rw [if_pos z] at hq
          simp [l0_builtin_Check, g1, idx, hb2, z', hq]
      · by_cases z : checkT 4 p.2 = 0
        · rw [z] at g2
          simp [l0_builtin_Check, g2, idx, hb2, z, hj0, show IntKind.wrap .i64 2 = 2 from by decide]
        · have z' : (checkT 4 p.2 != 0) = true := by simpa using z
          rw [if_neg (by simpa using hj0), if_pos z] at hq
          simp [l0_builtin_Check, g2, idx, hb2, z', hq]
      · omega
    · rintro e s ⟨b2, hb2, hj2, rfl, rfl⟩
      have hz : checkT 4 p.1 = 0 ∧ checkT 4 p.2 = 0 := by
        rcases hj2 with h | ⟨h, _⟩ | ⟨_, h1, h2⟩
        · cases h
        · cases h
        · exact ⟨h1, h2⟩
      rw [if_neg (by simpa using hz.1), if_neg (by simpa using hz.2)] at hq
      simp [l0_builtin_Check, hb2, hwr]
      exact hq
  · rintro e s ⟨hq, b, hbl, rfl, rfl⟩
    rw [List.drop_of_length_le (by omega)] at hq
    simp [l1_builtin_Check, hq, errB]
def Sls (l : List (List Tm)) (xs : List AV) : Prop := All2 Sl l xs
omit hE in
theorem getB_take {ps : List Bur} {key : List Tm} {i : Nat} {p : Bur} (h : ps[i]? = some p) : getB (ps.take (i + 1)) key = getB (ps.take i) key ++ if keyIs key p then [p.2] else [] := by
  unfold getB
  rw [List.take_add_one, h, Option.toList_some, List.filter_append, List.map_append]
  congr 1
  cases hk : keyIs key p <;> simp [hk]
omit hE in
theorem Sls.snoc : ∀ {l : List (List Tm)} {xs : List AV} {t : List Tm} {r : AV}, Sls l xs → Sl t r → Sls (l ++ [t]) (xs ++ [r])
  | [], _, _, _, h, hr => by simp only [Sls, All2] at h; subst h; simp only [Sls, List.nil_append, All2]; exact ⟨_, _, rfl, hr, rfl⟩
  | a :: l, _, _, _, h, hr => by
    simp only [Sls, All2] at h
    obtain ⟨y, r', rfl, h1, h2⟩ := h
    simp only [Sls, List.cons_append, All2]
    exact ⟨_, _, rfl, h1, Sls.snoc h2 hr⟩
omit hE in
theorem Sls.untokL : ∀ {l : List (List Tm)} {xs : List AV}, Sls l xs → Sls l (AV.untokL xs)
  | [], _, h => by simp only [Sls, All2] at h; subst h; simp [Sls, All2, AV.untokL]
  | a :: l, _, h => by
    simp only [Sls, All2] at h
    obtain ⟨y, r', rfl, h1, h2⟩ := h
    simp only [Sls, AV.untokL, All2]
    exact ⟨_, _, rfl, h1.untok, Sls.untokL h2⟩
omit hE in
theorem Sls.data : ∀ {l : List (List Tm)} {xs : List AV}, Sls l xs → AV.dataL xs = true
  | [], _, h => by simp only [Sls, All2] at h; subst h; rfl
  | a :: l, _, h => by
    simp only [Sls, All2] at h
    obtain ⟨y, r', rfl, h1, h2⟩ := h
    simp only [AV.dataL, h1.data, Sls.data h2, Bool.and_self]
theorem fn_Get {ps : List Bur} {os : List (List UInt8)} {key : List Tm} {v w : AV} (hm : szS ps os) {M : Nat} (hM : M ≤ maxLen) (hn : ∀ p ∈ ps, nTs p.1 < most ∧ nTs p.2 < most) (hS : ShortS M ps) (hv : Sto ps os v)
    (hw : Sl key w) (hkn : nTs key < most) (hkS : Shorts M key) :
    if checkB ps os ≠ 0 then Fn E (.fn n_builtin_Get [] []) [v, w] (.tup [.sl .nil 1 [], .int .i64 (checkB ps os)]) else if checkT 4 key ≠ 0 then Fn E (.fn n_builtin_Get [] []) [v, w] (.tup [.sl .nil 1 [], .int .i64 (checkT 4 key)])
    else ∃ rs, Sls (getB ps key) rs ∧ Fn E (.fn n_builtin_Get [] []) [v, w] (.tup [endV 1 rs, .int .i64 0]) := by
  obtain ⟨K1, h1⟩ := fn_Check hE hm hM hn hS hv
  obtain ⟨K2, h2⟩ := fn_Value hE hw hkn hM hkS
  obtain ⟨ob, xs, oo, ys, rfl, hx, hy, hb, ho⟩ := hv
  have hlx := hx.length
  have hmm : most = 1073741824 := rfl
  obtain ⟨hm1, hm2, hm3⟩ := hm
  obtain ⟨ow, xw, rfl⟩ : ∃ o xs, w = .sl o 3 xs := by obtain ⟨o, xs, h, _⟩ := hw; exact ⟨o, xs, h⟩
  split
  · rename_i z
    have z' : (checkB ps os != 0) = true := by simpa using z
    refine Fn.byW (h_builtin_Get hE) rfl rfl ⟨K1, fun k hk bl tk => ?_⟩
    simp [F_builtin_Get, b_builtin_Get, append_get, append_get0, h1 k hk, z']
  rename_i z
  have z0 : checkB ps os = 0 := by simpa using z
  rw [z0] at h1
  split
  · rename_i zk
    have zk' : (checkT 4 key != 0) = true := by simpa using zk
    refine Fn.byW (h_builtin_Get hE) rfl rfl ⟨K1 + K2, fun k hk bl tk => ?_⟩
    simp [F_builtin_Get, b_builtin_Get, append_get, append_get0, h1 k (by omega), h2 k (by omega), zk']
  rename_i zk
  have zk0 : checkT 4 key = 0 := by simpa using zk
  rw [zk0] at h2
  obtain ⟨K3, h3⟩ := all_ev (E := E) (f := .fn n_term_Equal [] []) (g := fun x => [fst2 x, .sl ow 3 xw]) (c := fun p => .bool (keyIs key p)) hx (by
    rintro p x hp ⟨a, b, rfl, ha, hb⟩
    exact fn_term_Equal hE ha hw)
  obtain ⟨rs, K4, h4, h5⟩ := all_mk (E := E) (f := .fn n_term_Copy [] []) (g := fun x => [snd2 x]) (P := fun p r => Sl p.2 r ∧ r.untok = r) hx (by
    rintro p x hp ⟨a, b, rfl, ha, hb⟩
    obtain ⟨r, q1, q2, q3⟩ := fn_Copy hE _ (Nat.lt_succ_self _) (by have := (hn p hp).2; omega) hb
    exact ⟨r, q1, q2, q3⟩)
  -- the copies of those that are taken
  let pick : Nat → List AV := fun i => ((ps.zip rs).take i).filterMap fun q => if keyIs key q.1 then some q.2 else none
  have hlr := h4.length
  have hpick : ∀ i p r, ps[i]? = some p → rs[i]? = some r → pick (i + 1) = pick i ++ if keyIs key p then [r] else [] := by
    intro i p r hp hr
    simp only [pick]
    rw [List.take_add_one, (List.getElem?_zip_eq_some (z := (p, r))).2 ⟨hp, hr⟩, Option.toList_some, List.filterMap_append]
    congr 1
    cases hk : keyIs key p <;> simp [hk]
  have hsl : ∀ i, i ≤ ps.length → Sls (getB (ps.take i) key) (pick i) ∧ AV.untokL (pick i) = pick i ∧ (pick i).length ≤ i := by
    intro i
    induction i with
    | zero => intro _; simp [pick, getB, Sls, All2, AV.untokL]
    | succ i ih =>
      intro hi
      obtain ⟨q1, q2, q3⟩ := ih (by omega)
      obtain ⟨p, hp⟩ : ∃ p, ps[i]? = some p := ⟨_, List.getElem?_eq_getElem (by omega)⟩
      obtain ⟨r, hr, hrs, hru⟩ := h4.get hp
      rw [hpick i p r hp hr, getB_take hp]
      cases hk : keyIs key p with
      | true =>
        refine ⟨Sls.snoc q1 hrs, ?_, by simp; omega⟩
        have : ∀ l : List AV, AV.untokL (l ++ [r]) = AV.untokL l ++ [r.untok] := by
          intro l; induction l with
          | nil => rfl
          | cons a l ih => simp only [List.cons_append, AV.untokL, ih]
        rw [if_pos rfl, this, q2, hru]
      | false => simp; exact ⟨q1, q2, by omega⟩
  obtain ⟨e1, e2, e3⟩ := hsl ps.length (Nat.le_refl _)
  rw [List.take_length] at e1
  refine ⟨pick ps.length, e1, Fn.byW (h_builtin_Get hE) rfl rfl ⟨K1 + K2 + K3 + K4 + ps.length + 3, fun k hk bl tk => ?_⟩⟩
  simp [F_builtin_Get, b_builtin_Get, append_get, append_get0, h1 k (by omega), h2 k (by omega)]
  refine wp_loop xs.length (fun i e s => ∃ b, bl.length ≤ b.length ∧ e = [(1, .sl ow 3 xw), (8, outV 1 tk.length (pick i)), (22, .sl ob 2 xs), (23, .int .i64 xs.length), (24, .int .i64 i)] ∧ s = { bl := b, tk := outT tk (pick i), ro := bl.length, rt := tk.length }) (by omega) (by refine ⟨_, ?_, rfl, rfl⟩; simp) ?_ ?_
  · rintro i e s hi ⟨b, hbl, rfl, rfl⟩
    obtain ⟨p, hp⟩ : ∃ p, ps[i]? = some p := ⟨_, List.getElem?_eq_getElem (by omega)⟩
    obtain ⟨x, hxi, u, t, rfl, hu, ht⟩ := hx.get hp
    obtain ⟨r, hr, hrs, hru⟩ := h4.get hp
    have g1 := h3 k (by omega) i _ p hxi hp
    obtain ⟨r2, hr2, _, g2⟩ := h5 k (by omega) i _ p hxi hp
    rw [hr] at hr2; cases hr2
    simp only [fst2, snd2] at g1 g2
    obtain ⟨hi1, hx1⟩ := List.getElem?_eq_some_iff.1 hxi
    have e1 : idx (.int .i64 i) xs.length = some i := idx_nat hi
    have hwr : IntKind.wrap .i64 ((i : Int) + 1) = i + 1 := wrapIn (by omega) (by omega)
    obtain ⟨q1, q2, q3⟩ := hsl i (by omega)
    obtain ⟨o3, x3, rfl⟩ : ∃ o xs, u = .sl o 3 xs := by obtain ⟨o, xs, h, _⟩ := hu; exact ⟨o, xs, h⟩
    obtain ⟨o4, x4, rfl⟩ : ∃ o xs, t = .sl o 3 xs := by obtain ⟨o, xs, h, _⟩ := ht; exact ⟨o, xs, h⟩
    obtain ⟨o5, x5, rfl⟩ : ∃ o xs, r = .sl o 3 xs := by obtain ⟨o, xs, h, _⟩ := hrs; exact ⟨o, xs, h⟩
    rw [hpick i p _ hp hr]
    have hb1 : bl.length ≤ b.length + 1 := by omega
    cases hk : keyIs key p with
    | false =>
      rw [hk] at g1
      simp [l0_builtin_Get, hi, e1, hx1, append_get, append_get0, append_set, append_set0, hbl, hb1, g1, hwr]
    | true =>
      rw [hk] at g1
      have ha : ∀ b', appA { bl := b', tk := outT tk (pick i), ro := bl.length, rt := tk.length } 1 (outV 1 tk.length (pick i)) (.sl .full 1 [.sl o5 3 x5]) = some (outV 1 tk.length (pick i ++ [.sl o5 3 x5]), { bl := b', tk := outT tk (pick i ++ [.sl o5 3 x5]), ro := bl.length, rt := tk.length }) := by
        intro b'
        have := app_one (bl := b') (tk := tk) (ro := bl.length) (rt := tk.length) (z := 1) (ys := pick i) (y := .sl o5 3 x5) (o := .full) (by omega) (Nat.le_refl _)
        rw [hru] at this; exact this
      simp [l0_builtin_Get, hi, e1, hx1, append_get, append_get0, append_set, append_set0, hbl, hb1, g1, g2, hwr, setElems, repl, hasSize, hru, ha]
  · rintro e s ⟨b, hbl, rfl, rfl⟩
    rw [hlx]
    have hd := e1.data
    obtain ⟨oq, hq1, _, hq2⟩ := outV_sl 1 tk.length (pick ps.length)
    simp [l0_builtin_Get, hlx, outV_data, hd, outV_untok]
end
end Ab.D

/- A pure call whose arguments lead into the caller's blocks. No condition. -/
namespace Ab
open Go
set_option linter.all false
theorem call_byS {E : IEnv} {f : Nat} {first caps : List AV} {F : IFn} (hF : E.fns f = some F) {args : List AV} (hn : (first ++ args ++ caps).length = F.np) {k : Nat} {s : St} {Q : AV → Prop}
    (h : ∀ bl tk, (bl = s.bl ∧ tk = s.tk ∨ AV.plainL (first ++ args ++ caps) = true) → wp E (callA E k) k false F.body (endE F.res bl.length Q) (envOf 0 (first ++ args ++ caps)) { bl, tk, ro := bl.length, rt := tk.length }) (hm : F.mode = .pure := by rfl) : ∃ r, Q r ∧ callA E (k + 1) none (.fn f first caps) args s = some (.ret r, false, s) := by
  obtain ⟨bl, tk, hst, hb⟩ : ∃ bl tk, startA F.mode none (first ++ args ++ caps) s = { bl, tk, ro := bl.length, rt := tk.length } ∧ (bl = s.bl ∧ tk = s.tk ∨ AV.plainL (first ++ args ++ caps) = true) := by
    unfold startA
    split
    · rename_i h; exact ⟨[], [], rfl, .inr (by revert h; cases AV.plainL (first ++ args ++ caps) <;> simp)⟩
    · exact ⟨s.bl, s.tk, by rw [hm]; rfl, .inl ⟨rfl, rfl⟩⟩
  obtain ⟨o, e', s1, h1, ho, vs, h2, r, h3, hq⟩ := wp_run (h bl tk hb)
  have hfin : finA .pure bl.length s s1 (resOne vs) = some (r, s) := by
    unfold finV at h3
    simp only [finA]
    split at h3
    · rename_i hd; rw [if_pos hd, h3]
    · rename_i hd; rw [if_neg hd, if_pos h3.1, h3.2]
  rw [hm] at hst
  refine ⟨r, hq, ?_⟩
  rcases ho with rfl | rfl <;> simp only [callA, hF, runA, hn, ne_eq, not_true_eq_false, if_false, hm, hst, h1, outPan, unwindA, h2, hfin]
/-- The same for one answer that is data. -/
theorem call_byR {E : IEnv} {f : Nat} {first caps : List AV} {F : IFn} (hF : E.fns f = some F) {args : List AV} (hn : (first ++ args ++ caps).length = F.np) {k : Nat} {s : St} {v : AV}
    (h : ∀ bl tk, (bl = s.bl ∧ tk = s.tk ∨ AV.plainL (first ++ args ++ caps) = true) → wp E (callA E k) k false F.body (finW F.res v) (envOf 0 (first ++ args ++ caps)) { bl, tk, ro := bl.length, rt := tk.length }) (hm : F.mode = .pure := by rfl) : callA E (k + 1) none (.fn f first caps) args s = some (.ret v, false, s) := by
  obtain ⟨bl, tk, hst, hb⟩ : ∃ bl tk, startA F.mode none (first ++ args ++ caps) s = { bl, tk, ro := bl.length, rt := tk.length } ∧ (bl = s.bl ∧ tk = s.tk ∨ AV.plainL (first ++ args ++ caps) = true) := by
    unfold startA
    split
    · rename_i h; exact ⟨[], [], rfl, .inr (by revert h; cases AV.plainL (first ++ args ++ caps) <;> simp)⟩
    · exact ⟨s.bl, s.tk, by rw [hm]; rfl, .inl ⟨rfl, rfl⟩⟩
  obtain ⟨o, e', s1, h1, ho, vs, h2, h3, h4⟩ := wp_run (h bl tk hb)
  have hfin : finA .pure bl.length s s1 (resOne vs) = some (v, s) := by
    simp only [finA]
    rw [if_pos h3, h4]
  rw [hm] at hst
  rcases ho with rfl | rfl <;> simp only [callA, hF, runA, hn, ne_eq, not_true_eq_false, if_false, hm, hst, h1, outPan, unwindA, h2, hfin]
end Ab

/- A store that is copied: its rows can be written into. No condition but the table. -/
namespace Ab.D
open Go Ab Go.RowKit
set_option maxRecDepth 10000
set_option linter.all false
def strs (l : List (List UInt8)) : List AV := l.map .str
theorem strs_data : ∀ l : List (List UInt8), AV.dataL (strs l) = true ∧ AV.untokL (strs l) = strs l
  | [] => ⟨rfl, rfl⟩
  | x :: l => by have := strs_data l; simp only [strs] at this; simp [strs, AV.dataL, AV.data, AV.untokL, AV.untok, this]
theorem isS_strs : ∀ {l : List (List UInt8)} {ys : List AV}, All2 IsS l ys → ys = strs l
  | [], ys, h => h
  | x :: l, ys, h => by
    simp only [All2] at h
    obtain ⟨y, r, rfl, h1, h2⟩ := h
    rw [isS_strs h2, show y = .str x from h1]; rfl
/- elements of two cells -/
def cB (l : List AV) : List AV := l.flatMap fun x => [fst2 x, snd2 x]
theorem cB_length : ∀ l : List AV, (cB l).length = l.length * 2
  | [] => rfl
  | p :: l => by have := cB_length l; simp only [cB] at this; simp only [cB, List.flatMap_cons, List.length_append, List.length_cons, List.length_nil, this]; omega
theorem cB_append (a b : List AV) : cB (a ++ b) = cB a ++ cB b := by simp [cB]
theorem bu_untok {p : Bur} {x : AV} (h : Bu p x) : ∃ a b, x = .agg [a, b] ∧ Sl p.1 a ∧ Sl p.2 b := h
section
variable {E : IEnv} (hE : E.fns = Table.fn table)
include hE
theorem fn_CloneS (o : Own) (l : List (List UInt8)) (hl : l.length ≤ most) (hn : o = .nil → l = []) : ∃ o', (o' = .nil → l = []) ∧ (AV.sl o' 1 (strs l)).untok = .sl o' 1 (strs l) ∧ FnK 3 E (.fn n_slices_Clone___string_string_ [] []) [.sl o 1 (strs l)] (.sl o' 1 (strs l)) := by
  by_cases hon : o = .nil
  · subst hon
    have := hn rfl
    subst this
    exact ⟨.nil, fun _ => rfl, rfl, FnK.byW (h_slices_Clone___string_string_ hE) rfl rfl (K := 2) fun k hk bl tk => by simp [F_slices_Clone___string_string_, b_slices_Clone___string_string_, strs, aeq]⟩
  · have ha : ∀ z, aeq .slice (.sl o 1 (strs l)) (.sl .nil z []) = some false := by
      intro z; cases o <;> first | rfl | exact absurd rfl hon
    cases l with
    | nil =>
      have ha := ha 1
      simp only [strs, List.map_nil] at ha
      refine ⟨.full, fun _ => rfl, rfl, FnK.byW (h_slices_Clone___string_string_ hE) rfl rfl (K := 2) fun k hk bl tk => ?_⟩
      simp [F_slices_Clone___string_string_, b_slices_Clone___string_string_, strs, ha, setElems, repl, appA, ysOf, AV.untokL]
    | cons x l =>
      refine ⟨.any, fun h => (by cases h), rfl, FnK.byW (h_slices_Clone___string_string_ hE) rfl rfl (K := 2) fun k hk bl tk => ?_⟩
      have hd := (strs_data (x :: l)).2
      have hd1 := (strs_data (x :: l)).1
      have hl1 : (strs (x :: l)).length ≤ most := by simpa [strs] using hl
      obtain ⟨y, r, hyr⟩ : ∃ y r, strs (x :: l) = y :: r := ⟨_, _, rfl⟩
      rw [hyr] at hd hd1 hl1 ⊢
      have ha := ha 1
      rw [hyr] at ha
      simp only [List.length_cons] at hl1
      simp [F_slices_Clone___string_string_, b_slices_Clone___string_string_, ha, setElems, repl, appA, ysOf, hd, hl1, hd1]
      simp only [AV.untokL, List.cons.injEq] at hd
      simp only [AV.dataL, Bool.and_eq_true] at hd1
      exact ⟨⟨by rw [hd.1]; exact hd1.1, by rw [hd.2]; exact hd1.2⟩, hd.1, hd.2⟩
/- a row of elements of two cells, in a block behind some others -/
def RowG (lo : Nat) (g : List AB) (l : List AV) (v : AV) : Prop := (l = [] ∧ v = .sl .nil 2 []) ∨ (l ≠ [] ∧ ∃ q, v = .msl (lo + q) 0 2 l.length ∧ g[q]? = some (.cells (cB l)))
theorem all_set {g : List AB} (h : g.all AB.isCells = true) (q : Nat) : (g.set q .dead).all AB.isCells = true := by
  rw [List.all_eq_true] at h ⊢
  intro x hx
  rcases List.mem_or_eq_of_mem_set hx with hx | rfl
  · exact h x hx
  · rfl
theorem appm_pair {B : List AB} {tk : List Nat} {ro rt lo : Nat} {g : List AB} {l : List AV} {v a b : AV} (hr : RowG lo g l v) (hlo : lo = B.length) (hro : ro ≤ lo) (hl : l.length + 1 ≤ most) (ha : a.untok = a) (hb : b.untok = b) (oa : a.cells? = some [a]) (ob : b.cells? = some [b]) (hall : g.all AB.isCells = true) :
    ∃ g', g'.all AB.isCells = true ∧ appmA { bl := B ++ g, tk, ro, rt } 2 v (.sl .full 2 [.agg [a, b]]) = some (.msl (lo + g'.length) 0 2 (l.length + 1), { bl := B ++ (g' ++ [.cells (cB (l ++ [.agg [a, b]]))]), tk, ro, rt }) := by
  subst hlo
  have hcl : cellsL [AV.agg [a, b]] = some [a, b] := by simp [cellsL, AV.cells?]
  rcases hr with ⟨rfl, rfl⟩ | ⟨hne, q, rfl, hq⟩
  · refine ⟨g, hall, ?_⟩
    simp [-getElem?_pos, appmA, ysS, ysOf, AV.untokL, AV.untok, ha, hb, hcl, St.push, cB, fst2, snd2]
    omega
  · obtain ⟨hq1, _⟩ := List.getElem?_eq_some_iff.1 hq
    have h1 : (B ++ g)[B.length + q]? = some (.cells (cB l)) := by rw [append_get]; exact hq
    have h2 : (B ++ g).set (B.length + q) .dead = B ++ g.set q .dead := by rw [append_set]
    refine ⟨g.set q .dead, all_set hE hall q, ?_⟩
    have hlen := cB_length l
    have hro2 : ro ≤ B.length + q := by omega
    simp [-getElem?_pos, appmA, ysS, ysOf, AV.untokL, AV.untok, ha, hb, hcl, St.push, St.setb, St.cell?, h1, h2, hlen, hro2, hl, cB_append]
    simp [cB, fst2, snd2]
end
end Ab.D

/- What 'copied' answers: a store whose row can be written into. No condition but the table. -/
namespace Ab.D
open Go Ab Go.RowKit
set_option maxRecDepth 10000
set_option linter.all false
theorem RowG.more {lo : Nat} {g : List AB} {l : List AV} {v : AV} (h : RowG lo g l v) (g' : List AB) : RowG lo (g ++ g') l v := by
  rcases h with h | ⟨h1, q, h2, h3⟩
  · exact .inl h
  · exact .inr ⟨h1, q, h2, by rw [List.getElem?_append_left (List.getElem?_eq_some_iff.1 h3).1]; exact h3⟩
theorem RowG.shift {lo : Nat} {p g : List AB} {l : List AV} {v : AV} (h : RowG (lo + p.length) g l v) : RowG lo (p ++ g) l v := by
  rcases h with h | ⟨h1, q, h2, h3⟩
  · exact .inl h
  · exact .inr ⟨h1, p.length + q, by rw [h2, Nat.add_assoc], by rw [append_get]; exact h3⟩
theorem all2_snoc {α : Type} {R : α → AV → Prop} : ∀ {a : List α} {b : List AV} {x : α} {y : AV}, All2 R a b → R x y → All2 R (a ++ [x]) (b ++ [y])
  | [], b, x, y, h, hr => by simp only [All2] at h; subst h; simp only [List.nil_append, All2]; exact ⟨_, _, rfl, hr, rfl⟩
  | z :: a, b, x, y, h, hr => by
    simp only [All2] at h
    obtain ⟨w, r, rfl, h1, h2⟩ := h
    simp only [List.cons_append, All2]
    exact ⟨_, _, rfl, h1, all2_snoc h2 hr⟩
theorem all2_len {α : Type} {R : α → AV → Prop} : ∀ {a : List α} {b : List AV}, All2 R a b → b.length = a.length
  | [], b, h => by simp only [All2] at h; subst h; rfl
  | _ :: a, b, h => by simp only [All2] at h; obtain ⟨y, r, rfl, _, h2⟩ := h; simp [all2_len h2]
theorem all2_get {α : Type} {R : α → AV → Prop} : ∀ {a : List α} {b : List AV} {i : Nat} {x : α}, All2 R a b → a[i]? = some x → ∃ y, b[i]? = some y ∧ R x y
  | [], _, _, _, _, h => by simp at h
  | z :: a, b, i, x, h, hi => by
    simp only [All2] at h
    obtain ⟨y, r, rfl, h1, h2⟩ := h
    cases i with
    | zero => simp at hi; subst hi; exact ⟨y, rfl, h1⟩
    | succ i => simp at hi; simpa using all2_get h2 hi
section
variable {E : IEnv} (hE : E.fns = Table.fn table)
include hE
theorem copies {N : Nat} (hN : N ≤ most) : ∀ {ps : List Bur} {xs : List AV}, All2 Bu ps xs → (∀ p ∈ ps, nTs p.1 ≤ N ∧ nTs p.2 ≤ N) → ∃ l, All2 Bu ps l ∧ AV.untokL l = l ∧ ∀ (i : Nat) (p : Bur), ps[i]? = some p →
    ∃ a b o3 y3 o4 y4, xs[i]? = some (.agg [a, b]) ∧ l[i]? = some (.agg [.sl o3 3 y3, .sl o4 3 y4]) ∧ FnK (4 * N + 7) E (.fn n_term_Copy [] []) [a] (.sl o3 3 y3) ∧ FnK (4 * N + 7) E (.fn n_term_Copy [] []) [b] (.sl o4 3 y4) ∧ (AV.sl o3 3 y3).untok = .sl o3 3 y3 ∧ (AV.sl o4 3 y4).untok = .sl o4 3 y4
  | [], xs, h, _ => by
    simp only [All2] at h; subst h
    exact ⟨[], by simp only [All2], rfl, fun i p h => by simp at h⟩
  | p :: ps, xs, h, hn => by
    simp only [All2] at h
    obtain ⟨x, r, rfl, ⟨a, b, rfl, ha, hb⟩, hr⟩ := h
    obtain ⟨l, l1, l2, l3⟩ := copies hN hr fun q hq => hn q (List.mem_cons_of_mem _ hq)
    obtain ⟨n1, n2⟩ := hn p (List.mem_cons_self ..)
    obtain ⟨ra, ca, ha2, hau⟩ := fn_CopyK hE _ (Nat.lt_succ_self _) (by omega) ha
    obtain ⟨rb, cb, hb2, hbu⟩ := fn_CopyK hE _ (Nat.lt_succ_self _) (by omega) hb
    have ha3 := ha2
    have hb3 := hb2
    obtain ⟨o3, y3, rfl, _⟩ := ha2
    obtain ⟨o4, y4, rfl, _⟩ := hb2
    refine ⟨.agg [.sl o3 3 y3, .sl o4 3 y4] :: l, ?_, ?_, fun i q hq => ?_⟩
    · simp only [All2]; exact ⟨_, _, rfl, ⟨_, _, rfl, ha3, hb3⟩, l1⟩
    · simp only [AV.untokL, AV.untok, hau, hbu, l2]
    · cases i with
      | zero =>
        simp only [List.getElem?_cons_zero, Option.some.injEq] at hq
        subst hq
        exact ⟨a, b, o3, y3, o4, y4, rfl, rfl, ca.mono (by omega), cb.mono (by omega), hau, hbu⟩
      | succ i => exact l3 i q (by simpa using hq)
set_option maxHeartbeats 4000000 in
theorem fn_copied {ps : List Bur} {os : List (List UInt8)} {v : AV} (hv : Sto ps os v) (hp : ps.length ≤ 1000) (ho : os.length ≤ most) {N : Nat} (hN : N ≤ most) (hn : ∀ p ∈ ps, nTs p.1 ≤ N ∧ nTs p.2 ≤ N) :
    ∃ l o', All2 Bu ps l ∧ AV.untokL l = l ∧ (o' = .nil → os = []) ∧ (AV.sl o' 1 (strs os)).untok = .sl o' 1 (strs os) ∧ ∀ k, 4 * N + 1020 ≤ k → ∀ s : St, s.ro ≤ s.bl.length → ∃ bv g, RowG s.bl.length g l bv ∧ g.all AB.isCells = true ∧
      callA E k none (.fn n_builtin_copied [] []) [v] s = some (.ret (.agg [bv, .sl o' 1 (strs os)]), false, { s with bl := s.bl ++ g }) := by
  obtain ⟨ob, xs, oo, ys, rfl, hx, hy, hbn, hon⟩ := hv
  have hys := isS_strs hy
  subst hys
  obtain ⟨o', h1, h2, h3⟩ := fn_CloneS hE oo os ho (fun e => by simpa [strs] using hon e)
  obtain ⟨l, l1, l2, l3⟩ := copies hE hN hx hn
  refine ⟨l, o', l1, l2, h1, h2, fun k hk s hro => ?_⟩
  obtain ⟨k, rfl⟩ : ∃ j, k = j + 1 := ⟨k - 1, by omega⟩
  have h3 := h3 k (by omega)
  have hll := all2_len l1
  have hmm : most = 1073741824 := rfl
  have hlx := all2_len hx
  have cc := c_term_Copy hE [] []
  obtain ⟨bl, tk, ro, rt⟩ := s
  have q0 : ∀ (c : AB) (r : List AB), (bl ++ c :: r)[bl.length]? = some c := fun c r => by rw [append_get0]; rfl
  have q1 : ∀ (c d : AB) (r : List AB), (bl ++ c :: d :: r)[bl.length + 1]? = some d := fun c d r => by rw [append_get]; rfl
  have q2 : ∀ (c d e : AB) (r : List AB), (bl ++ c :: d :: e :: r)[bl.length + 2]? = some e := fun c d e r => by rw [append_get]; rfl
  have s1 : ∀ (c d f : AB) (r : List AB), (bl ++ c :: d :: r).set (bl.length + 1) f = bl ++ c :: f :: r := fun c d f r => by rw [append_set]; rfl
  have s2 : ∀ (c d e f : AB) (r : List AB), (bl ++ c :: d :: e :: r).set (bl.length + 2) f = bl ++ c :: d :: f :: r := fun c d e f r => by rw [append_set]; rfl
  simp only at hro
  have r1 : ro ≤ bl.length + 1 := by omega
  have r2 : ro ≤ bl.length + 2 := by omega
  obtain ⟨v, s', hc, hpost⟩ := call_byW (h_builtin_copied hE) (first := []) (caps := []) (args := [.agg [.sl ob 2 xs, .sl oo 1 (strs os)]]) rfl (k := k) (s := { bl, tk, ro, rt })
    (Post := fun v s' => ∃ bv g, RowG bl.length g l bv ∧ g.all AB.isCells = true ∧ v = .agg [bv, .sl o' 1 (strs os)] ∧ s' = { bl := bl ++ g, tk, ro, rt }) (by
    simp [-getElem?_pos, List.getElem?_cons_zero, List.getElem?_cons_succ, F_builtin_copied, b_builtin_copied, s0Of, q0, q1, q2, s1, s2, h3, r1, r2]
    refine wp_loop xs.length (fun i e' st => ∃ w g, RowG (bl.length + 3) g (l.take i) w ∧ g.all AB.isCells = true ∧ e' = [(2, .ptr (bl.length + 1) 0), (3, .ptr (bl.length + 2) 0), (11, .sl ob 2 xs), (12, .int .i64 xs.length), (13, .int .i64 i)] ∧
      st = { bl := bl ++ .cells [.sl ob 2 xs, .sl oo 1 (strs os)] :: .cells [.sl .nil 2 [], .sl .nil 1 []] :: .cells [w, .sl o' 1 (strs os)] :: g, tk, ro, rt }) (by omega) ⟨.sl .nil 2 [], [], .inl ⟨rfl, rfl⟩, rfl, rfl, rfl⟩ ?_ ?_
    · rintro i e' st hi ⟨w, g, hrow, hall, rfl, rfl⟩
      obtain ⟨p, hp'⟩ : ∃ p, ps[i]? = some p := ⟨_, List.getElem?_eq_getElem (by omega)⟩
      obtain ⟨a, b, o3, y3, o4, y4, hxx, hlx', ca, cb, hau, hbu⟩ := l3 i p hp'
      obtain ⟨hi1, hx1⟩ := List.getElem?_eq_some_iff.1 hxx
      have e1 : idx (.int .i64 i) xs.length = some i := idx_nat hi
      have hwr : IntKind.wrap .i64 ((i : Int) + 1) = i + 1 := wrapIn (by omega) (by omega)
      have ca := ca k (by omega)
      have cb := cb k (by omega)
      have qn : ∀ (c d e f : AB), (bl ++ c :: d :: e :: (g ++ [f]))[bl.length + (g.length + 1 + 1 + 1)]? = some f := fun c d e f => by rw [append_get]; simp
      have sn : ∀ (c d e f f' : AB), (bl ++ c :: d :: e :: (g ++ [f])).set (bl.length + (g.length + 1 + 1 + 1)) f' = bl ++ c :: d :: e :: (g ++ [f']) := fun c d e f f' => by rw [append_set]; simp
      have rn : ro ≤ bl.length + (g.length + 1 + 1 + 1) := by omega
      obtain ⟨g', hall', hap⟩ := appm_pair hE (B := bl ++ [.cells [.sl ob 2 xs, .sl oo 1 (strs os)], .cells [.sl .nil 2 [], .sl .nil 1 []], .cells [w, .sl o' 1 (strs os)]]) (tk := tk) (ro := ro) (rt := rt) (hrow.more [.cells [a, b]]) (a := .sl o3 3 y3) (b := .sl o4 3 y4) (by simp) (by omega) (by rw [List.length_take]; omega) hau hbu rfl rfl (by rw [List.all_append, hall]; rfl)
      have htk : (l.take i).length = i := by rw [List.length_take]; omega
      simp only [List.append_assoc, List.cons_append, List.nil_append] at hap
      simp [-getElem?_pos, List.getElem?_cons_zero, List.getElem?_cons_succ, l0_builtin_copied, hi, e1, hxx, hx1, hwr, q0, q1, q2, s1, s2, r1, r2, qn, sn, rn, ca, cb, cc, hau, hbu, setElems, repl, elemOfCells, hasSize, hap]
      rw [List.take_succ, hlx', Option.toList_some]
      refine ⟨_, _, .inr ⟨by simp, g'.length, ?_, by rw [List.getElem?_append_right (Nat.le_refl _), Nat.sub_self]; rfl⟩, ?_, rfl, rfl⟩
      · simp
      · intro x hx
        rcases List.mem_append.1 hx with hx | hx
        · exact List.all_eq_true.1 hall' x hx
        · simp only [List.mem_cons, List.mem_nil_iff, or_false] at hx; subst hx; rfl
    · rintro e' st ⟨w, g, hrow, hall, rfl, rfl⟩
      rw [List.take_of_length_le (by omega)] at hrow
      simp [-getElem?_pos, List.getElem?_cons_zero, List.getElem?_cons_succ, l0_builtin_copied, q0, q1, q2, s1, s2, r1, r2, finA]
      refine ⟨_, _, RowG.shift (p := [_, _, _]) hrow, ?_, rfl, rfl⟩
      intro x hx
      simp only [List.cons_append, List.nil_append, List.mem_cons] at hx
      rcases hx with rfl | rfl | rfl | hx
      · rfl
      · rfl
      · rfl
      · exact List.all_eq_true.1 hall x hx)
  obtain ⟨bv, g, a3, a4, rfl, rfl⟩ := hpost
  exact ⟨bv, g, a3, a4, hc⟩
end
end Ab.D

/- The store of a call under way: where its row is searched. No condition but the table. -/
namespace Ab.D
open Go Ab Go.RowKit
set_option maxRecDepth 10000
set_option linter.all false
/- a row of elements of two cells in a state -/
def RowS (s : St) (l : List AV) (v : AV) : Prop := (l = [] ∧ v = .sl .nil 2 []) ∨ (l ≠ [] ∧ ∃ j, v = .msl j 0 2 l.length ∧ s.bl[j]? = some (.cells (cB l)))
theorem cB_at : ∀ {l : List AV} {i : Nat} {x : AV}, l[i]? = some x → ((cB l).drop (i * 2)).take 2 = [fst2 x, snd2 x] ∧ i * 2 + 2 ≤ (cB l).length
  | [], _, _, h => by simp at h
  | y :: l, 0, x, h => by simp at h; subst h; simp [cB]
  | y :: l, i + 1, x, h => by
    simp only [List.getElem?_cons_succ] at h
    obtain ⟨h1, h2⟩ := cB_at h
    have e : cB (y :: l) = fst2 y :: snd2 y :: cB l := rfl
    rw [e, show (i + 1) * 2 = i * 2 + 2 by omega]
    simp only [List.drop_succ_cons, List.length_cons]
    exact ⟨h1, by omega⟩
section
variable {E : IEnv} (hE : E.fns = Table.fn table)
include hE
set_option maxHeartbeats 1000000 in
theorem fn_IndexM {l : List AV} {v : AV} {rs : List Bool} {f : AV} {s : St} (hrow : RowS s l v) (hl : rs.length = l.length) (hm : l.length ≤ most) (hsh : ∀ x ∈ l, ∃ a b, x = .agg [a, b]) {K : Nat}
    (hf : ∀ k, K ≤ k → ∀ (i : Nat) x b, l[i]? = some x → rs[i]? = some b → ∀ st : St, st.bl = s.bl → callA E k none f [x] st = some (.ret (.bool b), false, st)) {k : Nat} (hk : K + l.length + 4 ≤ k) :
    callA E k none (.fn n_slices_IndexFunc___api_Buried_api_Buried_ [] []) [v, f] s = some (.ret (.int .i64 (idxF rs 0)), false, s) := by
  rcases hrow with ⟨rfl, rfl⟩ | ⟨hne, j, rfl, hj⟩
  · exact fn_Index_api_Buried_api_Buried hE (o := .nil) (xs := []) (rs := rs) (f := f) (K := K) hl (by simp) (fun x h => by cases h) (fun k hk i x b h => by simp at h) k (by simp only [List.length_nil] at hk ⊢; omega) s
  · obtain ⟨k, rfl⟩ : ∃ j, k = j + 1 := ⟨k - 1, by omega⟩
    refine call_byR (h_slices_IndexFunc___api_Buried_api_Buried_ hE) rfl fun bl tk hb' => ?_
    have hb' : bl = s.bl ∧ tk = s.tk := by
      rcases hb' with h | h
      · exact h
      · simp [AV.plainL, AV.plain] at h
    obtain ⟨rfl, rfl⟩ := hb'
    have hmm : most = 1073741824 := rfl
    simp [F_slices_IndexFunc___api_Buried_api_Buried_, b_slices_IndexFunc___api_Buried_api_Buried_]
    refine wp_loop l.length (fun i e st => idxF rs 0 = idxF (rs.drop i) i ∧ e = [(0, .msl j 0 2 l.length), (1, f), (7, .int .i64 l.length), (8, .int .i64 i)] ∧ st = { bl := s.bl, tk := s.tk, ro := s.bl.length, rt := s.tk.length }) (by omega) (by simp) ?_ ?_
    · rintro i e st hi ⟨hq, rfl, rfl⟩
      obtain ⟨x, hx⟩ : ∃ x, l[i]? = some x := ⟨_, List.getElem?_eq_getElem hi⟩
      obtain ⟨q, hq2⟩ : ∃ q, rs[i]? = some q := ⟨_, List.getElem?_eq_getElem (by omega)⟩
      obtain ⟨hqi, hq3⟩ := List.getElem?_eq_some_iff.1 hq2
      have hc := hf k (by omega) i x q hx hq2 { bl := s.bl, tk := s.tk, ro := s.bl.length, rt := s.tk.length } rfl
      obtain ⟨a, b, rfl⟩ := hsh _ (List.mem_of_getElem? hx)
      obtain ⟨h1, h2⟩ := cB_at hx
      simp only [fst2, snd2] at h1
      have e1 : idx (.int .i64 i) l.length = some i := idx_nat hi
      have hwr : IntKind.wrap .i64 ((i : Int) + 1) = i + 1 := wrapIn (by omega) (by omega)
      rw [List.drop_eq_getElem_cons hqi, hq3, idxF] at hq
      cases q with
      | true => simp [-getElem?_pos, l0_slices_IndexFunc___api_Buried_api_Buried_, hi, e1, hj, h1, h2, hwr, hc, hq]
      | false =>
        simp only [Bool.false_eq_true, if_false] at hq
        simp [-getElem?_pos, l0_slices_IndexFunc___api_Buried_api_Buried_, hi, e1, hj, h1, h2, hwr, hc, hq]
    · rintro e st ⟨hq, rfl, rfl⟩
      rw [List.drop_of_length_le (by omega), idxF] at hq
      simp [l0_slices_IndexFunc___api_Buried_api_Buried_, hq]
end
end Ab.D

/- What the comparisons answer. No condition but the table. -/
namespace Ab.D.K
open Go Ab Go.RowKit
set_option maxRecDepth 10000
set_option linter.unusedSimpArgs false
set_option linter.unusedVariables false
section
variable {E : IEnv} (hE : E.fns = Table.fn table)
include hE
theorem fn_isNaN_int (a : Int) : FnK 1 E (.fn n_cmp_isNaN_int_ [] []) [.int .i64 a] (.bool false) :=
  FnK.byW (h_cmp_isNaN_int_ hE) rfl rfl (K := 0) fun k hk bl tk => by simp [F_cmp_isNaN_int_, b_cmp_isNaN_int_]
theorem fn_isNaN_string (a : List UInt8) : FnK 1 E (.fn n_cmp_isNaN_string_ [] []) [.str a] (.bool false) :=
  FnK.byW (h_cmp_isNaN_string_ hE) rfl rfl (K := 0) fun k hk bl tk => by simp [F_cmp_isNaN_string_, b_cmp_isNaN_string_]
theorem fn_cmp_int (a b : Int) : FnK 2 E (.fn n_cmp_Compare_int_ [] []) [.int .i64 a, .int .i64 b] (.int .i64 (cmpI a b)) :=
  FnK.byW (h_cmp_Compare_int_ hE) rfl rfl (K := 1) fun k hk bl tk => by
    have h1 := fn_isNaN_int hE a k hk
    have h2 := fn_isNaN_int hE b k hk
    unfold cmpI
    by_cases c1 : a < b
    · simp [F_cmp_Compare_int_, b_cmp_Compare_int_, h1, h2, c1]
    · by_cases c2 : a > b
      · simp [F_cmp_Compare_int_, b_cmp_Compare_int_, h1, h2, c1, c2]
      · simp [F_cmp_Compare_int_, b_cmp_Compare_int_, h1, h2, c1, c2]
theorem fn_cmp_string (a b : List UInt8) : FnK 2 E (.fn n_cmp_Compare_string_ [] []) [.str a, .str b] (.int .i64 (cmpS a b)) :=
  FnK.byW (h_cmp_Compare_string_ hE) rfl rfl (K := 1) fun k hk bl tk => by
    have h1 := fn_isNaN_string hE a k hk
    have h2 := fn_isNaN_string hE b k hk
    unfold cmpS
    by_cases c1 : Go.Op.bytesLess a b = true
    · simp [F_cmp_Compare_string_, b_cmp_Compare_string_, h1, h2, c1]
    · have c1' : Go.Op.bytesLess a b = false := by simpa using c1
      by_cases c2 : a = b
      · subst c2
        simp [F_cmp_Compare_string_, b_cmp_Compare_string_, h1, c1']
      · have c2' : (a == b) = false := by simpa using c2
        simp [F_cmp_Compare_string_, b_cmp_Compare_string_, h1, h2, c1', c2, c2']
theorem fn_Sign (a b : List UInt8) : FnK 1 E (.fn n_chiasmusref01_Sign [] []) [.str a, .str b] (.int .i64 (cmpS a b)) :=
  FnK.byW (h_chiasmusref01_Sign hE) rfl rfl (K := 0) fun k hk bl tk => by
    unfold cmpS
    by_cases c1 : Go.Op.bytesLess a b = true
    · simp [F_chiasmusref01_Sign, b_chiasmusref01_Sign, c1]
    · have c1' : Go.Op.bytesLess a b = false := by simpa using c1
      by_cases c2 : a = b
      · subst c2
        simp [F_chiasmusref01_Sign, b_chiasmusref01_Sign, c1']
      · have c2' : (a == b) = false := by simpa using c2
        simp [F_chiasmusref01_Sign, b_chiasmusref01_Sign, c1', c2, c2']

theorem fn_term_Compare : ∀ (n : Nat) {ts us : List Tm} {v w : AV}, nTs ts < n → Sl ts v → Sl us w → FnK (2 * nTs ts + 12) E (.fn n_term_Compare [] []) [v, w] (.int .i64 (cmpTs ts us))
  | 0, _, _, _, _, h, _, _ => by omega
  | n + 1, ts, us, v, w, hn, hv, hw => by
    obtain ⟨o1, xs, rfl, ⟨hm1, _⟩, h1⟩ := hv
    obtain ⟨o2, ys, rfl, ⟨hm2, _⟩, h2⟩ := hw
    have hl1 := h1.length
    have hl2 := h2.length
    have hmx : maxLen = 9223372036854775807 := rfl
    have hlt := length_le_nTs ts
    have hK := kids_allK (K := 2 * nTs ts + 10) (E := E) (f := .fn n_term_Compare [] []) (c := fun t u => cmpTs t.kids u.kids) h1 h2 fun t u v w ht hu hv hw => (fn_term_Compare n (by have := nT_mem ht; rw [nT_eq] at this; omega) hv hw).mono (by have := nT_mem ht; rw [nT_eq] at this; omega)
    have ci := fn_cmp_int hE
    have cs := fn_cmp_string hE
    have c1 := c_cmp_Compare_int_ hE [] []
    have c2 := c_cmp_Compare_string_ hE [] []
    have c3 := c_term_Compare hE [] []
    have hmin : (if ys.length < xs.length then (ys.length : Int) else (xs.length : Int)) = ((min ts.length us.length : Nat) : Int) := by split <;> omega
    refine FnK.byW (h_term_Compare hE) rfl rfl (K := 2 * nTs ts + 11) fun k hk bl tk => ?_
    simp [F_term_Compare, b_term_Compare, mmAll, mmA]
    rw [hmin]
    refine wp_loop (min ts.length us.length) (fun i e s => cmpTs ts us = cmpTs (ts.drop i) (us.drop i) ∧ e = [(0, .sl o1 3 xs), (1, .sl o2 3 ys), (11, .int .i64 ((min ts.length us.length : Nat) : Int)), (12, .int .i64 i)] ∧ s = { bl := bl, tk, ro := bl.length, rt := tk.length }) (by omega) (by simp) ?_ ?_
    · rintro i e s hi ⟨hq, rfl, rfl⟩
      obtain ⟨t, ht⟩ : ∃ t, ts[i]? = some t := ⟨_, List.getElem?_eq_getElem (by omega)⟩
      obtain ⟨u, hu⟩ : ∃ u, us[i]? = some u := ⟨_, List.getElem?_eq_getElem (by omega)⟩
      obtain ⟨vx, vy, hx, hy, hc⟩ := hK k (by omega) i t u ht hu
      obtain ⟨hi1, hx1⟩ := List.getElem?_eq_some_iff.1 hx
      obtain ⟨hi2, hy1⟩ := List.getElem?_eq_some_iff.1 hy
      have e1 : idx (.int .i64 i) xs.length = some i := idx_nat hi1
      have e2 : idx (.int .i64 i) ys.length = some i := idx_nat hi2
      have hwr : IntKind.wrap .i64 ((i : Int) + 1) = i + 1 := wrapIn (by omega) (by omega)
      have hst := cmpTs_step ht hu
      have hlt : (i : Int) < ((min ts.length us.length : Nat) : Int) := by omega
      obtain ⟨mn, hmn⟩ : ∃ mn : Int, mn = ((min ts.length us.length : Nat) : Int) := ⟨_, rfl⟩
      rw [← hmn] at hlt ⊢
      have ci' := fun a b => ci a b k (by omega)
      have cs' := fun a b => cs a b k (by omega)
      rw [cmpT_eq] at hst
      by_cases k1 : t.kind = u.kind
      · by_cases k2 : t.text = u.text
        · simp only [k1, k2, ne_eq, not_true_eq_false, if_false] at hst
          by_cases k3 : cmpTs t.kids u.kids = 0
          · simp only [k3, not_true_eq_false, if_false] at hst
            rw [k3] at hc
            simp [l0_term_Compare, hlt, e1, e2, hi1, hi2, hx1, hy1, hx, hy, k1, k2, hc, c1, c2, c3, hwr]
            rw [hq, hst]
          · simp only [k3, not_false_eq_true, if_true] at hst
            have k3' : (cmpTs t.kids u.kids != 0) = true := by simpa using k3
            simp [l0_term_Compare, hlt, e1, e2, hi1, hi2, hx1, hy1, hx, hy, k1, k2, hc, c1, c2, c3, hwr, k3, k3']
            rw [hq, hst]
        · have k2' : (t.text != u.text) = true := by simpa using k2
          have := cmpS_ne k2
          simp only [k1, k2, ne_eq, not_true_eq_false, if_false, not_false_eq_true, if_true, this] at hst
          have k2'' : (t.text == u.text) = false := by simpa using k2
          simp [l0_term_Compare, hlt, e1, e2, hi1, hi2, hx1, hy1, hx, hy, k1, k2, k2', k2'', cs', c1, c2, c3, hwr]
          rw [hq, hst]
      · have k1' : (t.kind != u.kind) = true := by simpa using k1
        have := cmpI_ne k1
        simp only [k1, ne_eq, not_false_eq_true, if_true, this] at hst
        simp [l0_term_Compare, hlt, e1, e2, hi1, hi2, hx1, hy1, hx, hy, k1, k1', ci', c1, c2, c3, hwr]
        rw [hq, hst]
    · rintro e s ⟨hq, rfl, rfl⟩
      rw [cmpTs_end] at hq
      simp [l0_term_Compare, ci _ _ k (by omega), hq, hl1, hl2]
end
end Ab.D.K

/- What the comparison of the reference, and both 'Equal', answer. No condition but the table. -/
namespace Ab.D.K
open Go Ab Go.RowKit
set_option maxRecDepth 10000
set_option linter.unusedSimpArgs false
set_option linter.unusedVariables false
section
variable {E : IEnv} (hE : E.fns = Table.fn table)
include hE
theorem fn_ref_Compare : ∀ (n : Nat) {ts us : List Tm} {v w : AV}, nTs ts < n → Sl ts v → Sl us w → FnK (2 * nTs ts + 12) E (.fn n_chiasmusref01_Compare [] []) [v, w] (.int .i64 (cmpTs ts us))
  | 0, _, _, _, _, h, _, _ => by omega
  | n + 1, ts, us, v, w, hn, hv, hw => by
    obtain ⟨o1, xs, rfl, ⟨hm1, _⟩, h1⟩ := hv
    obtain ⟨o2, ys, rfl, ⟨hm2, _⟩, h2⟩ := hw
    have hl1 := h1.length
    have hl2 := h2.length
    have hmx : maxLen = 9223372036854775807 := rfl
    have hlt := length_le_nTs ts
    have hK := kids_allK (K := 2 * nTs ts + 10) (E := E) (f := .fn n_chiasmusref01_Compare [] []) (c := fun t u => cmpTs t.kids u.kids) h1 h2 fun t u v w ht hu hv hw => (fn_ref_Compare n (by have := nT_mem ht; rw [nT_eq] at this; omega) hv hw).mono (by have := nT_mem ht; rw [nT_eq] at this; omega)
    have cs := fn_Sign hE
    have c2 := c_chiasmusref01_Sign hE [] []
    have c3 := c_chiasmusref01_Compare hE [] []
    refine FnK.byW (h_chiasmusref01_Compare hE) rfl rfl (K := 2 * nTs ts + 11) fun k hk bl tk => ?_
    simp [F_chiasmusref01_Compare, b_chiasmusref01_Compare]
    refine wp_loop (min ts.length us.length) (fun i e s => cmpTs ts us = cmpTs (ts.drop i) (us.drop i) ∧ e = [(0, .sl o1 3 xs), (1, .sl o2 3 ys), (5, .int .i64 i)] ∧ s = { bl := bl, tk, ro := bl.length, rt := tk.length }) (by omega) (by simp) ?_ ?_
    · rintro i e s hi ⟨hq, rfl, rfl⟩
      obtain ⟨t, ht⟩ : ∃ t, ts[i]? = some t := ⟨_, List.getElem?_eq_getElem (by omega)⟩
      obtain ⟨u, hu⟩ : ∃ u, us[i]? = some u := ⟨_, List.getElem?_eq_getElem (by omega)⟩
      obtain ⟨vx, vy, hx, hy, hc⟩ := hK k (by omega) i t u ht hu
      obtain ⟨hi1, hx1⟩ := List.getElem?_eq_some_iff.1 hx
      obtain ⟨hi2, hy1⟩ := List.getElem?_eq_some_iff.1 hy
      have e1 : idx (.int .i64 i) xs.length = some i := idx_nat hi1
      have e2 : idx (.int .i64 i) ys.length = some i := idx_nat hi2
      have hwr : IntKind.wrap .i64 ((i : Int) + 1) = i + 1 := wrapIn (by omega) (by omega)
      have hst := cmpTs_step ht hu
      have cs' := fun a b => cs a b k (by omega)
      rw [cmpT_eq] at hst
      by_cases k1 : t.kind = u.kind
      · by_cases k2 : t.text = u.text
        · simp only [k1, k2, ne_eq, not_true_eq_false, if_false] at hst
          have k2c : cmpS u.text u.text = 0 := by unfold cmpS; simp [bytesLess_self]
          by_cases k3 : cmpTs t.kids u.kids = 0
          · simp only [k3, not_true_eq_false, if_false] at hst
            rw [k3] at hc
            simp [l0_chiasmusref01_Compare, e1, e2, hi1, hi2, hx1, hy1, hx, hy, k1, k2, k2c, hc, cs', c2, c3, hwr]
            rw [hq, hst]
          · simp only [k3, not_false_eq_true, if_true] at hst
            have k3' : (cmpTs t.kids u.kids != 0) = true := by simpa using k3
            simp [l0_chiasmusref01_Compare, e1, e2, hi1, hi2, hx1, hy1, hx, hy, k1, k2, k2c, hc, cs', c2, c3, hwr, k3, k3']
            rw [hq, hst]
        · have := cmpS_ne k2
          simp only [k1, k2, ne_eq, not_true_eq_false, if_false, not_false_eq_true, if_true, this] at hst
          have k2' : (cmpS t.text u.text != 0) = true := by simpa using this
          simp [l0_chiasmusref01_Compare, e1, e2, hi1, hi2, hx1, hy1, hx, hy, k1, k2', this, cs', c2, c3, hwr]
          rw [hq, hst]
      · have k1' : (t.kind != u.kind) = true := by simpa using k1
        have := cmpI_ne k1
        simp only [k1, ne_eq, not_false_eq_true, if_true, this] at hst
        unfold cmpI at hst
        by_cases k4 : t.kind < u.kind
        · rw [if_pos k4] at hst
          simp [l0_chiasmusref01_Compare, e1, e2, hi1, hi2, hx1, hy1, hx, hy, k1, k1', k4, c2, c3, hwr]
          rw [hq, hst]
        · rw [if_neg k4, if_pos (by omega)] at hst
          simp [l0_chiasmusref01_Compare, e1, e2, hi1, hi2, hx1, hy1, hx, hy, k1, k1', k4, c2, c3, hwr]
          rw [hq, hst]
    · rintro e s ⟨hq, rfl, rfl⟩
      rw [cmpTs_end] at hq
      unfold cmpI at hq
      rw [hq]
      by_cases l1 : ts.length < us.length
      · have m1 : min xs.length ys.length = xs.length := by omega
        have l2 : xs.length < ys.length := by omega
        simp [l0_chiasmusref01_Compare, m1, ← hl1, ← hl2, l2]
      · have m1 : min xs.length ys.length = ys.length := by omega
        by_cases l2 : us.length < ts.length
        · have l3 : ys.length < xs.length := by omega
          have l4 : ¬ xs.length < ys.length := by omega
          simp [l0_chiasmusref01_Compare, m1, ← hl1, ← hl2, l3, l4]
        · have l3 : ¬ ys.length < xs.length := by omega
          have l4 : ¬ xs.length < ys.length := by omega
          simp [l0_chiasmusref01_Compare, m1, ← hl1, ← hl2, l3, l4]

theorem fn_ref_Equal {ts us : List Tm} {v w : AV} (hv : Sl ts v) (hw : Sl us w) : FnK (2 * nTs ts + 13) E (.fn n_chiasmusref01_Equal [] []) [v, w] (.bool (cmpTs ts us == 0)) := by
  have hK := fn_ref_Compare hE _ (Nat.lt_succ_self _) hv hw
  exact FnK.byW (h_chiasmusref01_Equal hE) rfl rfl (K := 2 * nTs ts + 12) fun k hk bl tk => by simp [F_chiasmusref01_Equal, b_chiasmusref01_Equal, hK k hk]
theorem fn_term_Equal {ts us : List Tm} {v w : AV} (hv : Sl ts v) (hw : Sl us w) : FnK (2 * nTs ts + 13) E (.fn n_term_Equal [] []) [v, w] (.bool (cmpTs ts us == 0)) := by
  have hK := fn_term_Compare hE _ (Nat.lt_succ_self _) hv hw
  exact FnK.byW (h_term_Equal hE) rfl rfl (K := 2 * nTs ts + 12) fun k hk bl tk => by simp [F_term_Equal, b_term_Equal, hK k hk]
end
end Ab.D.K

/- The functions that search the store of a call under way. No condition but the table. -/
namespace Ab.D
open Go Ab Go.RowKit
set_option maxRecDepth 10000
set_option linter.all false
theorem RowS.more {s : St} {l : List AV} {v : AV} (h : RowS s l v) {st : St} {r : List AB} (hb : st.bl = s.bl ++ r) : RowS st l v := by
  rcases h with h | ⟨h1, j, h2, h3⟩
  · exact .inl h
  · exact .inr ⟨h1, j, h2, by rw [hb, List.getElem?_append_left (List.getElem?_eq_some_iff.1 h3).1]; exact h3⟩
def topI (ps : List Bur) (key : List Tm) : Int := idxF (ps.map (keyIs key)) 0
section
variable {E : IEnv} (hE : E.fns = Table.fn table)
include hE
theorem fn_top_1 {p : Bur} {key : List Tm} {x kv : AV} (hx : Bu p x) (hk' : Sl key kv) {q : Nat} {s : St} (hq : s.bl[q]? = some (.cells [kv])) {k : Nat} (hk : 2 * nTs p.1 + 15 ≤ k) :
    callA E k none (.fn n___builtin_call__top_1 [] [.ptr q 0]) [x] s = some (.ret (.bool (keyIs key p)), false, s) := by
  obtain ⟨k, rfl⟩ : ∃ j, k = j + 1 := ⟨k - 1, by omega⟩
  obtain ⟨a, b, rfl, ha, hb⟩ := hx
  have he := K.fn_term_Equal hE ha hk' k (by omega)
  refine call_byR (h___builtin_call__top_1 hE) rfl fun bl tk hb' => ?_
  have hb' : bl = s.bl ∧ tk = s.tk := by
    rcases hb' with h | h
    · exact h
    · simp [AV.plainL, AV.plain] at h
  obtain ⟨rfl, rfl⟩ := hb'
  have hi' : ∀ r, (s.bl ++ r)[q]? = s.bl[q]? := fun r => List.getElem?_append_left (List.getElem?_eq_some_iff.1 hq).1
  have q0 : ∀ (c : AB) (r : List AB), (s.bl ++ c :: r)[s.bl.length]? = some c := fun c r => by rw [append_get0]; rfl
  obtain ⟨o3, y3, rfl, _⟩ := hk'
  obtain ⟨o4, y4, rfl, _⟩ := ha
  obtain ⟨o5, y5, rfl, _⟩ := hb
  simp [-getElem?_pos, List.getElem?_cons_zero, List.getElem?_cons_succ, F___builtin_call__top_1, b___builtin_call__top_1, hi', hq, q0, he, keyIs]
theorem fn_top {ps : List Bur} {l : List AV} (hl : All2 Bu ps l) (hm : ps.length ≤ 1000) {N : Nat} (hn : ∀ p ∈ ps, nTs p.1 ≤ N) {key : List Tm} {kv : AV} (hkv : Sl key kv) {i0 : Nat} {av bv ov : AV} {s : St} (hi0 : s.bl[i0]? = some (.cells [av, bv, ov])) (hrow : RowS s l bv) {k : Nat} (hk : 2 * N + 1040 ≤ k) :
    callA E k none (.fn n___builtin_call__top [] []) [.ptr i0 0, kv] s = some (.ret (.int .i64 (topI ps key)), false, s) := by
  obtain ⟨k, rfl⟩ : ∃ j, k = j + 1 := ⟨k - 1, by omega⟩
  have hmm : most = 1073741824 := rfl
  have hll := all2_len hl
  refine call_byR (h___builtin_call__top hE) rfl fun bl tk hb' => ?_
  have hb' : bl = s.bl ∧ tk = s.tk := by
    rcases hb' with h | h
    · exact h
    · simp [AV.plainL, AV.plain] at h
  obtain ⟨rfl, rfl⟩ := hb'
  have hi' : ∀ r, (s.bl ++ r)[i0]? = s.bl[i0]? := fun r => List.getElem?_append_left (List.getElem?_eq_some_iff.1 hi0).1
  have q0 : ∀ (c : AB) (r : List AB), (s.bl ++ c :: r)[s.bl.length]? = some c := fun c r => by rw [append_get0]; rfl
  have hc := fn_IndexM hE (s := { bl := s.bl ++ [.cells [kv]], tk := s.tk, ro := s.bl.length, rt := s.tk.length }) (hrow.more rfl) (rs := ps.map (keyIs key)) (f := .fn n___builtin_call__top_1 [] [.ptr s.bl.length 0]) (by simp [hll]) (by omega) (fun x hx => by
      obtain ⟨p, _, h⟩ := hl.mem hx
      obtain ⟨a, b, rfl, _⟩ := h
      exact ⟨a, b, rfl⟩) (K := 2 * N + 15) (fun k hk i x b hx hb st hst => by
      rw [List.getElem?_map] at hb
      cases hp : ps[i]? with
      | none => rw [hp] at hb; cases hb
      | some p =>
        rw [hp] at hb
        cases hb
        obtain ⟨y, hy, hbu⟩ := hl.get hp
        rw [hx] at hy; cases hy
        have := hn p (List.mem_of_getElem? hp)
        exact fn_top_1 hE hbu hkv (q := s.bl.length) (by rw [hst]; exact q0 _ _) (by omega)) (k := k) (by omega)
  obtain ⟨o3, y3, rfl, _⟩ := hkv
  simp [-getElem?_pos, List.getElem?_cons_zero, List.getElem?_cons_succ, F___builtin_call__top, b___builtin_call__top, hi', hi0, q0, hc, topI]
end
end Ab.D

/- How an argument is cut, what is copied out of the store. No condition but the table. -/
namespace Ab.D
open Go Ab Go.RowKit
set_option maxRecDepth 10000
set_option linter.all false
def isCut (t : Tm) : Bool := t.kind == 1 && t.text == [61]
def eqT : Tm := .mk 1 [61] []
theorem idx_cut : ∀ (key : List Tm) (r : List Bool) (j : Nat), (∀ t ∈ key, isCut t = false) → idxF (key.map isCut ++ true :: r) j = ((j + key.length : Nat) : Int)
  | [], r, j, _ => by simp [idxF]
  | t :: key, r, j, h => by
    simp only [List.map_cons, List.cons_append, idxF, h t (List.mem_cons_self ..), Bool.false_eq_true, if_false]
    rw [idx_cut key r (j + 1) fun u hu => h u (List.mem_cons_of_mem _ hu)]
    simp only [List.length_cons]; congr 1; omega
theorem dataL_take : ∀ {xs : List AV} (n : Nat), AV.dataL xs = true → AV.dataL (xs.take n) = true
  | [], n, h => by simp [AV.dataL]
  | x :: xs, 0, h => rfl
  | x :: xs, n + 1, h => by
    simp only [AV.dataL, Bool.and_eq_true] at h
    simp only [List.take_succ_cons, AV.dataL, h.1, dataL_take n h.2, Bool.and_self]
theorem dataL_drop : ∀ {xs : List AV} (n : Nat), AV.dataL xs = true → AV.dataL (xs.drop n) = true
  | [], n, h => by simp [AV.dataL]
  | x :: xs, 0, h => h
  | x :: xs, n + 1, h => by
    simp only [AV.dataL, Bool.and_eq_true] at h
    simp only [List.drop_succ_cons]
    exact dataL_drop n h.2
section
variable {E : IEnv} (hE : E.fns = Table.fn table)
include hE
theorem fn_need (e : Int) : FnK 3 E (.fn n_builtin_need [] []) [.bool true, .int .i64 e] (.tup []) :=
  FnK.byW (h_builtin_need hE) rfl rfl (K := 2) fun k hk bl tk => by simp [F_builtin_need, b_builtin_need]
theorem fn_keyed_1 {t : Tm} {x : AV} (h : Rt t x) : FnK 3 E (.fn n___builtin_call__keyed_1 [] []) [x] (.bool (isCut t)) := by
  obtain ⟨v, rfl, hv⟩ := h.open
  obtain ⟨o, ys, rfl, _⟩ := hv
  refine FnK.byW (h___builtin_call__keyed_1 hE) rfl rfl (K := 2) fun k hk bl tk => ?_
  have q0 : ∀ (c : AB) (r : List AB), (bl ++ c :: r)[bl.length]? = some c := fun c r => by rw [append_get0]; rfl
  unfold isCut
  cases hkd : t.kind == 1 with
  | true => simp [-getElem?_pos, List.getElem?_cons_zero, List.getElem?_cons_succ, F___builtin_call__keyed_1, b___builtin_call__keyed_1, q0, hkd]
  | false => simp [-getElem?_pos, List.getElem?_cons_zero, List.getElem?_cons_succ, F___builtin_call__keyed_1, b___builtin_call__keyed_1, q0, hkd]
theorem fn_hasCut_1 {t : Tm} {x : AV} (h : Rt t x) : FnK 3 E (.fn n_chiasmuslaw10_hasCut_1 [] []) [x] (.bool (isCut t)) := by
  obtain ⟨v, rfl, hv⟩ := h.open
  obtain ⟨o, ys, rfl, _⟩ := hv
  refine FnK.byW (h_chiasmuslaw10_hasCut_1 hE) rfl rfl (K := 2) fun k hk bl tk => ?_
  have q0 : ∀ (c : AB) (r : List AB), (bl ++ c :: r)[bl.length]? = some c := fun c r => by rw [append_get0]; rfl
  unfold isCut
  cases hkd : t.kind == 1 with
  | true => simp [-getElem?_pos, List.getElem?_cons_zero, List.getElem?_cons_succ, F_chiasmuslaw10_hasCut_1, b_chiasmuslaw10_hasCut_1, q0, hkd]
  | false => simp [-getElem?_pos, List.getElem?_cons_zero, List.getElem?_cons_succ, F_chiasmuslaw10_hasCut_1, b_chiasmuslaw10_hasCut_1, q0, hkd]
theorem fn_keyed {key value : List Tm} (hc : ∀ t ∈ key, isCut t = false) {o : Own} {zs : List AV} (ho : o ≠ .nil) (hot : ∀ t, o ≠ .tok t) (hz : Rts (key ++ eqT :: value) zs) (hm : (key ++ eqT :: value).length ≤ 100000) (hd : AV.dataL zs = true) :
    ∃ o2, o2 ≠ .nil ∧ (∀ t, o2 ≠ .tok t) ∧ ∀ k, 200020 ≤ k → ∀ (s : St) (i0 : Nat) (bv ov : AV), s.bl[i0]? = some (.cells [.sl o 3 zs, bv, ov]) →
      callA E k none (.fn n___builtin_call__keyed [] []) [.ptr i0 0] s = some (.ret (.tup [.sl .any 3 (zs.take key.length), .sl o2 3 (zs.drop (key.length + 1))]), false, s) := by
  refine ⟨if o = .full then .full else .any, by split <;> simp, fun t => by split <;> simp, fun k hk s i0 bv ov hi0 => ?_⟩
  obtain ⟨k, rfl⟩ : ∃ j, k = j + 1 := ⟨k - 1, by omega⟩
  have hmm : most = 1073741824 := rfl
  have hzl := hz.length
  have hix := fn_Index_api_Term_api_Term hE (o := o) (xs := zs) (rs := (key ++ eqT :: value).map isCut) (f := .fn n___builtin_call__keyed_1 [] []) (by simpa using hzl.symm) (by omega) (fun x hx => by
      obtain ⟨i, hi, rfl⟩ := List.getElem_of_mem hx
      obtain ⟨t, ht⟩ : ∃ t, (key ++ eqT :: value)[i]? = some t := ⟨_, List.getElem?_eq_getElem (by omega)⟩
      obtain ⟨y, hy, hr⟩ := hz.get ht
      rw [List.getElem?_eq_getElem hi] at hy
      cases hy
      obtain ⟨v, h, _⟩ := hr.open
      exact ⟨_, _, _, h⟩) (K := 3) (fun k hk i x b hx hb s => by
      rw [List.getElem?_map] at hb
      cases ht : (key ++ eqT :: value)[i]? with
      | none => rw [ht] at hb; cases hb
      | some t =>
        rw [ht] at hb; cases hb
        obtain ⟨y, hy, hr⟩ := hz.get ht
        rw [hx] at hy; cases hy
        exact fn_keyed_1 hE hr k hk s) k (by omega)
  have hidx : idxF ((key ++ eqT :: value).map isCut) 0 = (key.length : Int) := by
    rw [List.map_append, List.map_cons, show isCut eqT = true from rfl, idx_cut key _ 0 hc, Nat.zero_add]
  rw [hidx] at hix
  have hnd := fn_need hE 22 k (by omega)
  refine call_byR (h___builtin_call__keyed hE) rfl fun bl tk hb' => ?_
  have hb' : bl = s.bl ∧ tk = s.tk := by
    rcases hb' with h | h
    · exact h
    · simp [AV.plainL, AV.plain] at h
  obtain ⟨rfl, rfl⟩ := hb'
  have hi' : ∀ r, (s.bl ++ r)[i0]? = s.bl[i0]? := fun r => List.getElem?_append_left (List.getElem?_eq_some_iff.1 hi0).1
  have hlt : key.length < zs.length := by rw [hzl]; simp
  have hwr : IntKind.wrap .i64 ((key.length : Int) + 1) = (key.length : Int) + 1 := wrapIn (by omega) (by omega)
  have hb1 : bound (some (.int .i64 (key.length : Int))) zs.length zs.length = some key.length := by simp [bound]; omega
  have hb2 : bound (some (.int .i64 ((key.length : Int) + 1))) 0 zs.length = some (key.length + 1) := by simp [bound]; omega
  have hb3 : bound none 0 key.length = some 0 := rfl
  have hb4 : bound none zs.length zs.length = some zs.length := rfl
  simp [-getElem?_pos, List.getElem?_cons_zero, List.getElem?_cons_succ, F___builtin_call__keyed, b___builtin_call__keyed, hi', hi0, hix, hnd, hwr, sliceA, hb1, hb2, hb3, hb4]
  have hne : ¬ key.length = zs.length := by omega
  refine ⟨⟨dataL_take _ hd, dataL_drop _ hd⟩, ?_, ?_⟩
  · rw [if_neg hne, if_neg (fun h => hne h.2), if_neg ho]; rfl
  · rw [if_neg ho]; split <;> rfl
end
end Ab.D

/- What is put into the store, taken out of it, changed in it. Its conditions: the table, and what the functions proved by hand answer. -/
namespace Ab.D
open Go Ab Go.RowKit
set_option maxRecDepth 10000
set_option linter.all false
/- a row that gets longer at its front -/
def insS (s : St) (v : AV) (cs : List AV) : St := match v with
  | .msl j _ _ _ => (s.setb j .dead).push (.cells cs)
  | _ => s.push (.cells cs)
structure PrB (E : IEnv) : Prop where
  ins : ∀ {l : List AV} {v a b : AV} {s : St}, RowS s l v → (∀ j z n, v = .msl j 0 z n → s.ro ≤ j) → l.length ≤ 1000 → a.untok = a → b.untok = b → a.data = true → b.data = true → a.cells? = some [a] → b.cells? = some [b] → ∀ k,
    callA E (k + 1) none (.fn n_slices_Insert___api_Buried_api_Buried_ [] []) [v, .int .i64 0, .sl .full 2 [.agg [a, b]]] s = some (.ret (.msl s.bl.length 0 2 (l.length + 1)), false, insS s v (cB (.agg [a, b] :: l)))
  del : ∀ {l : List AV} {j i : Nat} {s : St}, s.bl[j]? = some (.cells (cB l)) → s.ro ≤ j → l.length ≤ 1000 → i < l.length → ∀ k,
    callA E (k + 1) none (.fn n_slices_Delete___api_Buried_api_Buried_ [] []) [.msl j 0 2 l.length, .int .i64 i, .int .i64 (i + 1)] s = some (.ret (.msl j 0 2 (l.length - 1)), false, s.setb j (.cells (cB (l.eraseIdx i) ++ [.sl .nil 3 [], .sl .nil 3 []])))
theorem top_idx (key : List Tm) : ∀ (ps : List Bur) (j : Nat), idxF (ps.map (keyIs key)) j = match ps.findIdx? (keyIs key) with | some i => ((j + i : Nat) : Int) | none => -1
  | [], j => rfl
  | p :: ps, j => by
    simp only [List.map_cons, idxF, List.findIdx?_cons]
    cases h : keyIs key p with
    | true => simp
    | false =>
      simp only [Bool.false_eq_true, if_false]
      rw [top_idx key ps (j + 1)]
      cases ps.findIdx? (keyIs key) with
      | none => rfl
      | some i => simp only [Option.map_some]; congr 1; omega
theorem cB_snd {l : List AV} {i : Nat} {a b : AV} (h : l[i]? = some (.agg [a, b])) : (cB l)[i * 2 + 1]? = some b ∧ i * 2 + 1 < (cB l).length := by
  obtain ⟨h1, h2⟩ := cB_at h
  have h3 : (((cB l).drop (i * 2)).take 2)[1]? = some b := by rw [h1]; rfl
  rw [List.getElem?_take, if_pos (by omega), List.getElem?_drop] at h3
  exact ⟨h3, by omega⟩
section
variable {E : IEnv} (hE : E.fns = Table.fn table)
include hE
/- the store of a call under way, and what is known of its memory -/
structure CallS (s : St) (i0 : Nat) (av ov : AV) (l : List AV) : Prop where
  c : ∃ bv, s.bl[i0]? = some (.cells [av, bv, ov]) ∧ RowS s l bv ∧ (∀ j z n, bv = .msl j 0 z n → s.ro ≤ j ∧ j ≠ i0)
  ro : s.ro ≤ i0
set_option maxHeartbeats 1000000 in
theorem fn_copyC {ps : List Bur} {l : List AV} (hl : All2 Bu ps l) (hm : ps.length ≤ 1000) {N : Nat} (hN : N ≤ most) (hn : ∀ p ∈ ps, nTs p.1 ≤ N ∧ nTs p.2 ≤ N) {key : List Tm} {kv : AV} (hkv : Sl key kv) : ∃ r, r.untok = r ∧
    (match ps.findIdx? (keyIs key) with | some i => ∃ p, ps[i]? = some p ∧ Sl p.2 r | none => r = .sl .nil 3 []) ∧ ∀ k, 4 * N + 2000 ≤ k → ∀ (s : St) (i0 : Nat) (bv ov : AV), s.bl[i0]? = some (.cells [kv, bv, ov]) → RowS s l bv →
      callA E k none (.fn n___builtin_call__copy [] []) [.ptr i0 0] s = some (.ret r, false, s) := by
  have hmm : most = 1073741824 := rfl
  have hll := all2_len hl
  cases hf : ps.findIdx? (keyIs key) with
  | none =>
    refine ⟨.sl .nil 3 [], rfl, rfl, fun k hk s i0 bv ov hi0 hrow => ?_⟩
    obtain ⟨k, rfl⟩ : ∃ j, k = j + 1 := ⟨k - 1, by omega⟩
    have ht := fn_top hE hl hm (fun p hp => (hn p hp).1) hkv (s := { bl := s.bl, tk := s.tk, ro := s.bl.length, rt := s.tk.length }) hi0 (hrow.more (r := []) (by simp)) (k := k) (by omega)
    rw [topI, top_idx key ps 0, hf] at ht
    simp only at ht
    refine call_byR (h___builtin_call__copy hE) rfl fun bl tk hb' => ?_
    have hb' : bl = s.bl ∧ tk = s.tk := by
      rcases hb' with h | h
      · exact h
      · simp [AV.plainL, AV.plain] at h
    obtain ⟨rfl, rfl⟩ := hb'
    obtain ⟨o3, y3, rfl, _⟩ := hkv
    simp [-getElem?_pos, List.getElem?_cons_zero, List.getElem?_cons_succ, F___builtin_call__copy, b___builtin_call__copy, hi0, ht]
  | some i =>
    obtain ⟨hi, _⟩ := List.findIdx?_eq_some_iff_getElem.1 hf
    have hp : ps[i]? = some ps[i] := List.getElem?_eq_getElem hi
    obtain ⟨x, hx, a, b, rfl, ha, hb⟩ := hl.get hp
    obtain ⟨n1, n2⟩ := hn _ (List.mem_of_getElem? hp)
    obtain ⟨r, hr, hr2, hr3⟩ := fn_CopyK hE _ (Nat.lt_succ_self _) (by omega) hb
    refine ⟨r, hr3, ⟨_, hp, hr2⟩, fun k hk s i0 bv ov hi0 hrow => ?_⟩
    obtain ⟨k, rfl⟩ : ∃ j, k = j + 1 := ⟨k - 1, by omega⟩
    have ht := fn_top hE hl hm (fun p hp => (hn p hp).1) hkv (s := { bl := s.bl, tk := s.tk, ro := s.bl.length, rt := s.tk.length }) hi0 (hrow.more (r := []) (by simp)) (k := k) (by omega)
    rw [topI, top_idx key ps 0, hf] at ht
    simp only [Nat.zero_add] at ht
    have hr := hr k (by omega)
    rcases hrow with ⟨rfl, _⟩ | ⟨hne, j, rfl, hj⟩
    · simp at hx
    refine call_byR (h___builtin_call__copy hE) rfl fun bl tk hb' => ?_
    have hb' : bl = s.bl ∧ tk = s.tk := by
      rcases hb' with h | h
      · exact h
      · simp [AV.plainL, AV.plain] at h
    obtain ⟨rfl, rfl⟩ := hb'
    obtain ⟨h3, h4⟩ := cB_snd hx
    have e1 : idx (.int .i64 i) l.length = some i := idx_nat (by omega)
    have hlt : ¬ ((i : Int) < 0) := by omega
    have hdt := hr2.data
    obtain ⟨o3, y3, rfl, _⟩ := hkv
    obtain ⟨o4, y4, rfl, _⟩ := hb
    simp [-getElem?_pos, List.getElem?_cons_zero, List.getElem?_cons_succ, F___builtin_call__copy, b___builtin_call__copy, hi0, ht, hlt, hj, e1, h3, h4, hr, hdt, hr3]
/- what a function on the store leaves: the row is another one, all else stays -/
structure Left (s s' : St) (i0 : Nat) (av bv ov : AV) (l' : List AV) (x : List AV) : Prop where
  c : ∃ bv', s'.bl[i0]? = some (.cells [av, bv', ov]) ∧ ((l' = [] ∧ x = [] ∧ bv' = .sl .nil 2 []) ∨ ∃ q, bv' = .msl q 0 2 l'.length ∧ s'.bl[q]? = some (.cells (cB l' ++ x)) ∧ q ≠ i0 ∧ (s.bl.length ≤ q ∨ ∃ z n, bv = .msl q 0 z n) ∧ (l' ≠ [] ∨ x ≠ []))
  tk : s'.tk = s.tk
  ro : s'.ro = s.ro
  rt : s'.rt = s.rt
  len : s.bl.length ≤ s'.bl.length
  old : ∀ i, i < s.bl.length → i ≠ i0 → (∀ j z n, bv = .msl j 0 z n → i ≠ j) → s'.bl[i]? = s.bl[i]?
set_option maxHeartbeats 1000000 in
theorem fn_put (hB : PrB E) {l : List AV} (hm : l.length ≤ 199) {i0 : Nat} {av bv ov : AV} {s : St} (hi0 : s.bl[i0]? = some (.cells [av, bv, ov])) (hro : s.ro ≤ i0) (hrow : RowS s l bv) (hj : ∀ j z n, bv = .msl j 0 z n → s.ro ≤ j ∧ j ≠ i0) {o1 o2 : Own} {y1 y2 : List AV}
    (u1 : (AV.sl o1 3 y1).untok = .sl o1 3 y1) (u2 : (AV.sl o2 3 y2).untok = .sl o2 3 y2) (d1 : AV.dataL y1 = true) (d2 : AV.dataL y2 = true) {k : Nat} (hk : 10 ≤ k) :
    ∃ s', callA E k none (.fn n___builtin_call__put [] []) [.ptr i0 0, .sl o1 3 y1, .sl o2 3 y2] s = some (.ret (.sl .nil 3 []), false, s') ∧ Left s s' i0 av bv ov (.agg [.sl o1 3 y1, .sl o2 3 y2] :: l) [] := by
  obtain ⟨k, rfl⟩ : ∃ j, k = j + 2 := ⟨k - 2, by omega⟩
  have hnd := fn_need hE 7 (k + 1) (by omega)
  have hin := hB.ins hrow (fun j z n h => (hj j z n h).1) (by omega) u1 u2 (by simpa only [AV.data] using d1) (by simpa only [AV.data] using d2) rfl rfl k
  have hlt : (l.length : Int) < 200 := by omega
  obtain ⟨hi1, _⟩ := List.getElem?_eq_some_iff.1 hi0
  have hw : IntKind.wrap .i64 (l.length : Int) = l.length := wrapIn (by omega) (by omega)
  obtain ⟨X, hX⟩ : ∃ X, X = AB.cells (cB (.agg [.sl o1 3 y1, .sl o2 3 y2] :: l)) := ⟨_, rfl⟩
  have fin : ∀ (B : List AB), B.length = s.bl.length → (∀ i, i < s.bl.length → i ≠ i0 → (∀ j z n, bv = .msl j 0 z n → i ≠ j) → B[i]? = s.bl[i]?) → ∀ s', s' = ({ bl := (B ++ [X]).set i0 (AB.cells [av, .msl s.bl.length 0 2 (l.length + 1), ov]), tk := s.tk, ro := s.ro, rt := s.rt } : St) →
      Left s s' i0 av bv ov (.agg [.sl o1 3 y1, .sl o2 3 y2] :: l) [] := by
    intro B hBl hold s' hs'
    subst hs'
    refine ⟨⟨_, List.getElem?_set_self (by simp; omega), .inr ⟨s.bl.length, rfl, ?_, by omega, .inl (Nat.le_refl _), .inl (by simp)⟩⟩, rfl, rfl, rfl, by simp; omega, fun i h1 h2 h3 => ?_⟩
    · rw [List.getElem?_set_ne (by omega), ← hBl, append_get0, List.append_nil, ← hX]; rfl
    · show ((B ++ [X]).set i0 _)[i]? = _
      rw [List.getElem?_set_ne (fun h => h2 h.symm), List.getElem?_append_left (by omega)]
      exact hold i h1 h2 h3
  rcases hrow with ⟨rfl, rfl⟩ | ⟨hne, j, rfl, hjq⟩
  · obtain ⟨v, s', hc, hpost⟩ := call_byW (h___builtin_call__put hE) (first := []) (caps := []) (args := [.ptr i0 0, .sl o1 3 y1, .sl o2 3 y2]) rfl (k := k + 1) (s := s)
      (Post := fun v s' => v = .sl .nil 3 [] ∧ s' = { bl := (s.bl ++ [X]).set i0 (AB.cells [av, .msl s.bl.length 0 2 1, ov]), tk := s.tk, ro := s.ro, rt := s.rt }) (by
      simp only [insS, St.push, ← hX] at hin
      have hs1 : (s.bl ++ [X])[i0]? = some (.cells [av, .sl .nil 2 [], ov]) := by rw [List.getElem?_append_left hi1]; exact hi0
      simp [-getElem?_pos, List.getElem?_cons_zero, List.getElem?_cons_succ, F___builtin_call__put, b___builtin_call__put, s0Of, hi0, hnd, hin, insS, St.push, hs1, hro, u1, u2, setElems, repl, elemOfCells, hasSize, finA])
    obtain ⟨rfl, rfl⟩ := hpost
    exact ⟨_, hc, fin s.bl rfl (fun _ _ _ _ => rfl) _ rfl⟩
  · obtain ⟨hj1, hj2⟩ := hj j 2 l.length rfl
    obtain ⟨v, s', hc, hpost⟩ := call_byW (h___builtin_call__put hE) (first := []) (caps := []) (args := [.ptr i0 0, .sl o1 3 y1, .sl o2 3 y2]) rfl (k := k + 1) (s := s)
      (Post := fun v s' => v = .sl .nil 3 [] ∧ s' = { bl := (s.bl.set j .dead ++ [X]).set i0 (AB.cells [av, .msl s.bl.length 0 2 (l.length + 1), ov]), tk := s.tk, ro := s.ro, rt := s.rt }) (by
      simp only [insS, St.push, St.setb, ← hX] at hin
      have hs1 : (s.bl.set j .dead ++ [X])[i0]? = some (.cells [av, .msl j 0 2 l.length, ov]) := by rw [List.getElem?_append_left (by simpa using hi1), List.getElem?_set_ne hj2]; exact hi0
      simp [-getElem?_pos, List.getElem?_cons_zero, List.getElem?_cons_succ, F___builtin_call__put, b___builtin_call__put, s0Of, hi0, hnd, hin, insS, St.push, St.setb, hs1, hro, hlt, u1, u2, setElems, repl, elemOfCells, hasSize, finA])
    obtain ⟨rfl, rfl⟩ := hpost
    exact ⟨_, hc, fin (s.bl.set j .dead) (by simp) (fun i h1 h2 h3 => List.getElem?_set_ne (fun h => h3 j 2 l.length rfl h.symm)) _ rfl⟩
end
end Ab.D
