/- What the comparison of the reference, and both 'Equal', answer. No condition but the table. -/
import Derived.Test.YtndlggjnfabdoaaGreatDoorAb14
import Derived.Test.YtndlggjnfabdoaaGreatDoorAb09
import Derived.Test.YtndlggjnfabdoaaGreatDoorAb13
import Derived.Test.YtndlggjnfabdoaaGreatDoorAb10
import Derived.OpenShut
import Derived.Below
import Derived.Test.YtndlggjnfabdoaaGreatDoorAb11
import Derived.KernelRfl
import Derived.JoinedCond
set_option linter.all false
namespace Ab.U
open Go Ab Go.RowKit
set_option maxRecDepth 10000
set_option linter.unusedSimpArgs false
set_option linter.unusedVariables false
section
variable {E : IEnv} (hE : E.fns = Table.fn table)
include hE
theorem fn_ref_Compare : ∀ (n : Nat) {ts us : List Tm} {v w : AV}, nTs ts < n → Sl ts v → Sl us w → Fn E (.fn n_chiasmusref01_Compare [] []) [v, w] (.int .i64 (cmpTs ts us))
  | 0, _, _, _, _, h, _, _ => by omega
  | n + 1, ts, us, v, w, hn, hv, hw => by
    obtain ⟨o1, xs, rfl, ⟨hm1, _⟩, h1⟩ := hv
    obtain ⟨o2, ys, rfl, ⟨hm2, _⟩, h2⟩ := hw
    have hl1 := h1.length
    have hl2 := h2.length
    have hmx : maxLen = 9223372036854775807 := rfl
    obtain ⟨K, hK⟩ := kids_all (E := E) (f := .fn n_chiasmusref01_Compare [] []) (c := fun t u => cmpTs t.kids u.kids) h1 h2 fun t u v w ht hu hv hw => fn_ref_Compare n (by have := nT_mem ht; rw [nT_eq] at this; omega) hv hw
    have cs := fn_Sign hE
    have c2 := c_chiasmusref01_Sign hE [] []
    have c3 := c_chiasmusref01_Compare hE [] []
    refine Fn.byW (h_chiasmusref01_Compare hE) rfl rfl ⟨K + ts.length + 10, fun k hk bl tk => ?_⟩
    simp [F_chiasmusref01_Compare, b_chiasmusref01_Compare]
    refine wp_loop (min ts.length us.length) (fun i e s => cmpTs ts us = cmpTs (ts.drop i) (us.drop i) ∧ e = [(0, .sl o1 3 xs), (1, .sl o2 3 ys), (5, .int .i64 i)] ∧ s = { bl := bl, tk, ro := bl.length, rt := tk.length }) (by omega) (by simp) ?_ ?_
    · rintro i e s hi ⟨hq, rfl, rfl⟩
      obtain ⟨t, ht⟩ : ∃ t, ts[i]? = some t := ⟨_, List.getElem?_eq_getElem (by omega)⟩
      obtain ⟨u, hu⟩ : ∃ u, us[i]? = some u := ⟨_, List.getElem?_eq_getElem (by omega)⟩
      obtain ⟨vx, vy, hx, hy, hc⟩ := hK k (by omega) i t u ht hu
      obtain ⟨hi1, hx1⟩ := List.getElem?_eq_some_iff.1 hx
      obtain ⟨hi2, hy1⟩ := List.getElem?_eq_some_iff.1 hy
      have e1 : idx (.int .i64 i) xs.length = some i := idx_nat hi1
      have e2 : idx (.int .i64 i) ys.length = some i := idx_nat hi2
      have hwr : IntKind.wrap .i64 ((i : Int) + 1) = i + 1 := wrapIn (by omega) (by omega)
      have hst := cmpTs_step ht hu
      have cs' := fun a b => cs a b k (by omega)
      rw [cmpT_eq] at hst
      by_cases k1 : t.kind = u.kind
      · by_cases k2 : t.text = u.text
        · simp only [k1, k2, ne_eq, not_true_eq_false, if_false] at hst
          have k2c : cmpS u.text u.text = 0 := by unfold cmpS; simp [bytesLess_self]
          by_cases k3 : cmpTs t.kids u.kids = 0
          · simp only [k3, not_true_eq_false, if_false] at hst
            rw [k3] at hc
            simp [l0_chiasmusref01_Compare, e1, e2, hi1, hi2, hx1, hy1, hx, hy, k1, k2, k2c, hc, cs', c2, c3, hwr]
            rw [hq, hst]
          · simp only [k3, not_false_eq_true, if_true] at hst
            have k3' : (cmpTs t.kids u.kids != 0) = true := by simpa using k3
            simp [l0_chiasmusref01_Compare, e1, e2, hi1, hi2, hx1, hy1, hx, hy, k1, k2, k2c, hc, cs', c2, c3, hwr, k3, k3']
            rw [hq, hst]
        · have := cmpS_ne k2
          simp only [k1, k2, ne_eq, not_true_eq_false, if_false, not_false_eq_true, if_true, this] at hst
          have k2' : (cmpS t.text u.text != 0) = true := by simpa using this
          simp [l0_chiasmusref01_Compare, e1, e2, hi1, hi2, hx1, hy1, hx, hy, k1, k2', this, cs', c2, c3, hwr]
          rw [hq, hst]
      · have k1' : (t.kind != u.kind) = true := by simpa using k1
        have := cmpI_ne k1
        simp only [k1, ne_eq, not_false_eq_true, if_true, this] at hst
        unfold cmpI at hst
        by_cases k4 : t.kind < u.kind
        · rw [if_pos k4] at hst
          simp [l0_chiasmusref01_Compare, e1, e2, hi1, hi2, hx1, hy1, hx, hy, k1, k1', k4, c2, c3, hwr]
          rw [hq, hst]
        · rw [if_neg k4, if_pos (by omega)] at hst
          simp [l0_chiasmusref01_Compare, e1, e2, hi1, hi2, hx1, hy1, hx, hy, k1, k1', k4, c2, c3, hwr]
          rw [hq, hst]
    · rintro e s ⟨hq, rfl, rfl⟩
      rw [cmpTs_end] at hq
      unfold cmpI at hq
      rw [hq]
      by_cases l1 : ts.length < us.length
      · have m1 : min xs.length ys.length = xs.length := by omega
        have l2 : xs.length < ys.length := by omega
        simp [l0_chiasmusref01_Compare, m1, ← hl1, ← hl2, l2]
      · have m1 : min xs.length ys.length = ys.length := by omega
        by_cases l2 : us.length < ts.length
        · have l3 : ys.length < xs.length := by omega
          have l4 : ¬ xs.length < ys.length := by omega
          simp [l0_chiasmusref01_Compare, m1, ← hl1, ← hl2, l3, l4]
        · have l3 : ¬ ys.length < xs.length := by omega
          have l4 : ¬ xs.length < ys.length := by omega
          simp [l0_chiasmusref01_Compare, m1, ← hl1, ← hl2, l3, l4]

theorem fn_ref_Equal {ts us : List Tm} {v w : AV} (hv : Sl ts v) (hw : Sl us w) : Fn E (.fn n_chiasmusref01_Equal [] []) [v, w] (.bool (cmpTs ts us == 0)) := by
  obtain ⟨K, hK⟩ := fn_ref_Compare hE _ (Nat.lt_succ_self _) hv hw
  exact Fn.byW (h_chiasmusref01_Equal hE) rfl rfl ⟨K, fun k hk bl tk => by simp [F_chiasmusref01_Equal, b_chiasmusref01_Equal, hK k hk]⟩
theorem fn_term_Equal {ts us : List Tm} {v w : AV} (hv : Sl ts v) (hw : Sl us w) : Fn E (.fn n_term_Equal [] []) [v, w] (.bool (cmpTs ts us == 0)) := by
  obtain ⟨K, hK⟩ := fn_term_Compare hE _ (Nat.lt_succ_self _) hv hw
  exact Fn.byW (h_term_Equal hE) rfl rfl ⟨K, fun k hk bl tk => by simp [F_term_Equal, b_term_Equal, hK k hk]⟩
end
end Ab.U

/- What the law's 'apply' answers for its pairs of functions, and for First and Last. Its conditions: the table, what 'Hand2' says. -/
namespace Ab.U
open Go Ab Go.RowKit
set_option maxRecDepth 10000
set_option linter.all false
def apV : CRes → AV
  | .ret r => .tup [r, .int .i64 0]
  | .pan (.iface _ (.agg [c])) => .tup [.sl .nil 3 [], c]
  | .pan x => x
/- an argument that a function takes -/
structure Arg (ts : List Tm) (v : AV) : Prop where
  sl : Sl ts v
  n : nTs ts ≤ 2000
  t : ∀ t ∈ preS ts, t.text.length ≤ 1000
  c : checkT 4 ts = 0
def Good (P : Prop) (Q : AV → Prop) (res : CRes) : Prop := (∃ r us, res = .ret r ∧ Sl us r ∧ r.untok = r ∧ nTs us ≤ 4000 ∧ dpS us ≤ 100 ∧ Q r) ∨ ∃ c, P ∧ c ≠ 0 ∧ res = .pan (leaveV c)
section
variable {E : IEnv} (hE : E.fns = Table.fn table)
include hE
theorem fn_apply (H : Hand2 E) {name : List UInt8} {nf : Nat} (hn : name ∈ names) (hf : findA (.str name) (funM 27) = some (some (.fn nf [] []))) {ts : List Tm} {v : AV} (hA : Arg ts v) {P : Prop} {Q : AV → Prop}
    (hD : ∀ ra, Sl ts ra → ra.untok = ra → ∃ res, Ans E nf ra res ∧ Good P Q res) : ∃ res, Fn E (.fn n_chiasmuslaw10_apply [] []) [.str name, v] (apV res) ∧ Good P Q res := by
  have hmx : maxLen = 9223372036854775807 := rfl
  have hmm : most = 1073741824 := rfl
  obtain ⟨ra, ca, ha2, hau⟩ := fn_CopyK hE _ (Nat.lt_succ_self _) (by have := hA.n; omega) hA.sl
  obtain ⟨res, h1, h2⟩ := hD ra ha2 hau
  have hV := fn_Value hE hA.sl (by have := hA.n; omega) (M := 1000) (by omega) hA.t
  rw [hA.c] at hV
  have hsl := ha2
  obtain ⟨o3, y3, hra, _⟩ := hsl
  obtain ⟨K, h3⟩ := fn_Apply hE H hn hf hV ca hra hau h1 (by
    rcases h2 with ⟨r, us, a, b, c, d, e, _⟩ | ⟨c, _, _, h⟩
    · exact .inl ⟨r, us, a, b, c, d, e⟩
    · exact .inr ⟨c, h⟩)
  refine ⟨res, Fn.byW (h_chiasmuslaw10_apply hE) rfl rfl ⟨K, fun k hk bl tk => ?_⟩, h2⟩
  have h3 := h3 k hk
  obtain ⟨ov, yv, rfl, _⟩ := hA.sl
  rcases h2 with ⟨r, us, rfl, hs, hu, _⟩ | ⟨c, _, _, rfl⟩
  · have hrd := hs.data
    obtain ⟨or, yr, rfl, _⟩ := hs
    simp only [resV, nilS] at h3
    simp [-getElem?_pos, List.getElem?_cons_zero, List.getElem?_cons_succ, F_chiasmuslaw10_apply, b_chiasmuslaw10_apply, h3, append_get, append_get0, append_set, append_set0, apV, hu]
    simpa [AV.data] using hrd
  · simp only [resV, nilS, leaveV] at h3
    simp [-getElem?_pos, List.getElem?_cons_zero, List.getElem?_cons_succ, F_chiasmuslaw10_apply, b_chiasmuslaw10_apply, h3, append_get, append_get0, append_set, append_set0, apV, leaveV]
/- a pair of functions, the second of which takes the first one's answer back -/
def PairK (K : Nat) (E : IEnv) (p q : List UInt8) (v : AV) : Prop :=
  (∃ c, c ≠ 0 ∧ FnK K E (.fn n_chiasmuslaw10_apply [] []) [.str p, v] (.tup [.sl .nil 3 [], .int .i64 c])) ∨
  (∃ o y o1 y1, FnK K E (.fn n_chiasmuslaw10_apply [] []) [.str p, v] (.tup [.sl o 3 y, .int .i64 0]) ∧ FnK K E (.fn n_chiasmuslaw10_apply [] []) [.str q, .sl o 3 y] (.tup [.sl o1 3 y1, .int .i64 0]) ∧ FnK K E (.fn n_chiasmusref01_Equal [] []) [.sl o1 3 y1, v] (.bool true))
theorem pair_of (H : Hand2 E) {p q : List UInt8} {np nq : Nat} (hp : p ∈ names) (hq : q ∈ names) (hfp : findA (.str p) (funM 27) = some (some (.fn np [] []))) (hfq : findA (.str q) (funM 27) = some (some (.fn nq [] []))) {ts : List Tm} {v : AV} (hA : Arg ts v)
    (hD : ∀ ra, Sl ts ra → ra.untok = ra → ∃ res, Ans E np ra res ∧ Good True (fun r => ∃ us, Arg us r ∧ ∀ rb, Sl us rb → rb.untok = rb → ∃ res, Ans E nq rb res ∧ Good False (Sl ts) res) res) : ∃ K, PairK K E p q v := by
  obtain ⟨res, ⟨K1, h1⟩, h2⟩ := fn_apply hE H hp hfp hA hD
  rcases h2 with ⟨r, us, rfl, hs, hu, _, _, ws, hB, hD2⟩ | ⟨c, _, hc, rfl⟩
  · obtain ⟨res2, ⟨K2, h3⟩, h4⟩ := fn_apply hE H hq hfq hB hD2
    rcases h4 with ⟨r2, us2, rfl, hs2, hu2, _, _, hb⟩ | ⟨_, h, _⟩
    · obtain ⟨K3, h5⟩ := fn_ref_Equal hE hb hA.sl
      rw [cmpTs_self] at h5
      obtain ⟨o, y, rfl, _⟩ := hs
      obtain ⟨o1, y1, rfl, _⟩ := hs2
      refine ⟨K1 + K2 + K3, .inr ⟨o, y, o1, y1, fun k hk => h1 k (by omega), fun k hk => h3 k (by omega), fun k hk => h5 k (by omega)⟩⟩
    · exact h.elim
  · exact ⟨K1, .inl ⟨c, hc, h1⟩⟩
end
end Ab.U

/- The three pairs, and First and Last behind a number. Its conditions: the table, what 'Hand2' says. -/
namespace Ab.U
open Go Ab Go.RowKit
set_option maxRecDepth 10000
set_option linter.all false
/- an argument as the law lets it pass -/
structure Lim (ts : List Tm) (v : AV) : Prop where
  sl : Sl ts v
  n : nTs ts ≤ 300
  t : ∀ t ∈ preS ts, t.text.length ≤ 600
  c : checkT 4 ts = 0
  d : dpS ts ≤ 99
theorem checkT_zero {ts : List Tm} (h : checkT 4 ts = 0) : nTs ts ≤ 4000 ∧ dpS ts ≤ 100 ∧ (preS ts).all (fun t => decide (t.kind ≤ 4) && rightT t) = true := by
  unfold checkT at h
  split at h
  · cases h
  · split at h
    · cases h
    · split at h
      · exact ⟨by omega, by omega, by assumption⟩
      · cases h
theorem checkT_of {ts : List Tm} (h1 : nTs ts ≤ 4000) (h2 : dpS ts ≤ 100) (h3 : (preS ts).all (fun t => decide (t.kind ≤ 4) && rightT t) = true) : checkT 4 ts = 0 := by
  unfold checkT
  rw [if_neg (by omega), if_neg (by omega), if_pos h3]
theorem chars_n : ∀ x : List UInt8, nTs (charsT x) = x.length
  | [] => by simp [charsT, nTs]
  | c :: x => by
    have := chars_n x
    simp only [charsT, List.map_cons, nTs, nT, List.length_cons] at this ⊢
    omega
theorem chars_d : ∀ x : List UInt8, dpS (charsT x) = 0
  | [] => by simp [charsT, dpS]
  | c :: x => by
    have := chars_d x
    simp only [charsT, List.map_cons, dpS] at this ⊢
    rw [this]; simp [dpE]
theorem chars_pre : ∀ x : List UInt8, preS (charsT x) = charsT x
  | [] => by simp [charsT, preS]
  | c :: x => by
    have := chars_pre x
    simp only [charsT, List.map_cons, preS, preT, List.nil_append, List.cons_append] at this ⊢
    rw [this]
theorem chars_arg {x : List UInt8} (h : x.length ≤ 1000) {v : AV} (hv : Sl (charsT x) v) : Arg (charsT x) v where
  sl := hv
  n := by rw [chars_n]; omega
  t := fun t ht => by
    rw [chars_pre] at ht
    obtain ⟨c, _, rfl⟩ := List.mem_map.1 ht
    simp [Tm.text]
  c := checkT_of (by rw [chars_n]; omega) (by rw [chars_d]; omega) (by
    rw [chars_pre, List.all_eq_true]
    intro t ht
    obtain ⟨c, _, rfl⟩ := List.mem_map.1 ht
    rfl)
theorem numT_len {x : List UInt8} (h : numT x = true) : x.length ≤ 501 := by
  unfold numT at h
  simp only [Bool.and_eq_true, Bool.not_eq_true', Bool.or_eq_false_iff, decide_eq_false_iff_not] at h
  have h1 := h.1.1.2
  unfold cutMinus at h1
  split at h1
  · simp only [List.length_cons]; simp only at h1; omega
  · simp only at h1; omega
section
variable {E : IEnv} (hE : E.fns = Table.fn table)
include hE
theorem pair_symb (H : Hand2 E) {ts : List Tm} {v : AV} (L : Lim ts v) : ∃ K, PairK K E [83, 121, 109, 98] [78, 117, 109, 98] v := by
  have hmm : most = 1073741824 := rfl
  have hmx : maxLen = 9223372036854775807 := rfl
  obtain ⟨c1, c2, c3⟩ := checkT_zero L.c
  have hvs := all_value c3
  refine pair_of hE H (by simp [names]) (by simp [names]) (np := n___builtin_call__symb) (nq := n___builtin_call__numb) rfl rfl (ts := ts) ⟨L.sl, by have := L.n; omega, fun t ht => by have := L.t t ht; omega, L.c⟩ fun ra hra hrau => ?_
  obtain ⟨o3, y3, rfl, _, hz⟩ := hra
  have hlt := length_le_nTs ts
  refine ⟨_, ans_symb hE hz (by have := L.n; omega) (fun x hx => ?_), ?_⟩
  · obtain ⟨t, rfl, _, rfl⟩ := oneOf_some hx
    have := L.t t (pre_mem (List.mem_singleton.2 rfl)); omega
  · cases hx : oneOf 3 ts with
    | none => exact .inr ⟨22, trivial, by decide, rfl⟩
    | some x =>
      obtain ⟨t, rfl, hk, rfl⟩ := oneOf_some hx
      have ht : t ∈ preS [t] := pre_mem (List.mem_singleton.2 rfl)
      have hr := List.all_eq_true.1 c3 t ht
      simp only [Bool.and_eq_true] at hr
      have hkid := (hvs t ht).2.2.2 (by omega)
      have hnum : numT t.text = true := by
        have := hr.2
        unfold rightT at this
        rw [if_neg (by omega), if_neg (by omega), if_neg (by rw [hkid]; simp), if_neg (by omega), if_neg (by omega), if_pos hk] at this
        exact this
      have hnl := numT_len hnum
      have hs : Sl (charsT t.text) (endV 3 (charsV t.text)) := Sl.end (rts_chars _) (by simp [charsV]; omega)
      have hte : t = .mk 3 t.text [] := by cases t; simp only [Tm.kind, Tm.text, Tm.kids] at *; rw [hk, hkid]
      refine .inl ⟨_, charsT t.text, rfl, hs, endV_untok _ _, by rw [chars_n]; omega, by rw [chars_d]; omega, charsT t.text, chars_arg (by omega) hs, fun rb hrb _ => ⟨_, ans_numb hE H.toHand hnum hrb, .inl ⟨_, [t], rfl, ?_, rfl, by have := L.n; omega, c2, ?_⟩⟩⟩
      · rw [hte]; exact ⟨_, _, rfl, ⟨by simp [hmx], fun h => by cases h⟩, by simp only [Rts]; exact ⟨_, _, rfl, rt_nil _ _, rfl⟩⟩
      · rw [hte]; exact ⟨_, _, rfl, ⟨by simp [hmx], fun h => by cases h⟩, by simp only [Rts]; exact ⟨_, _, rfl, rt_nil _ _, rfl⟩⟩
theorem pair_explode (H : Hand2 E) {ts : List Tm} {v : AV} (L : Lim ts v) : ∃ K, PairK K E [69, 120, 112, 108, 111, 100, 101] [73, 109, 112, 108, 111, 100, 101] v := by
  have hmm : most = 1073741824 := rfl
  have hmx : maxLen = 9223372036854775807 := rfl
  obtain ⟨c1, c2, c3⟩ := checkT_zero L.c
  have hvs := all_value c3
  refine pair_of hE H (by simp [names]) (by simp [names]) (np := n___builtin_call__explode) (nq := n___builtin_call__implode) rfl rfl (ts := ts) ⟨L.sl, by have := L.n; omega, fun t ht => by have := L.t t ht; omega, L.c⟩ fun ra hra hrau => ?_
  obtain ⟨o3, y3, rfl, _, hz⟩ := hra
  have hlt := length_le_nTs ts
  refine ⟨_, ans_explode hE hz (by have := L.n; omega) (fun x hx => ?_), ?_⟩
  · obtain ⟨t, rfl, _, rfl⟩ := oneOf_some hx
    have := L.t t (pre_mem (List.mem_singleton.2 rfl)); omega
  · cases hx : oneOf 2 ts with
    | none => exact .inr ⟨22, trivial, by decide, rfl⟩
    | some x =>
      obtain ⟨t, rfl, hk, rfl⟩ := oneOf_some hx
      have ht : t ∈ preS [t] := pre_mem (List.mem_singleton.2 rfl)
      have hr := List.all_eq_true.1 c3 t ht
      simp only [Bool.and_eq_true] at hr
      have hkid := (hvs t ht).2.2.2 (by omega)
      have hnum : wordT t.text = true := by
        have := hr.2
        unfold rightT at this
        rw [if_neg (by omega), if_neg (by omega), if_neg (by rw [hkid]; simp), if_neg (by omega), if_pos hk] at this
        exact this
      have hnl : t.text.length ≤ 60 := by
        simp only [wordT, Bool.and_eq_true, decide_eq_true_eq] at hnum
        exact hnum.1.2
      have hs : Sl (charsT t.text) (endV 3 (charsV t.text)) := Sl.end (rts_chars _) (by simp [charsV]; omega)
      have hte : t = .mk 2 t.text [] := by cases t; simp only [Tm.kind, Tm.text, Tm.kids] at *; rw [hk, hkid]
      refine .inl ⟨_, charsT t.text, rfl, hs, endV_untok _ _, by rw [chars_n]; omega, by rw [chars_d]; omega, charsT t.text, chars_arg (by omega) hs, fun rb hrb _ => ⟨_, ans_implode hE H.toHand hnum hrb, .inl ⟨_, [t], rfl, ?_, rfl, by have := L.n; omega, c2, ?_⟩⟩⟩
      · rw [hte]; exact ⟨_, _, rfl, ⟨by simp [hmx], fun h => by cases h⟩, by simp only [Rts]; exact ⟨_, _, rfl, rt_nil _ _, rfl⟩⟩
      · rw [hte]; exact ⟨_, _, rfl, ⟨by simp [hmx], fun h => by cases h⟩, by simp only [Rts]; exact ⟨_, _, rfl, rt_nil _ _, rfl⟩⟩
theorem pair_up (H : Hand2 E) {ts : List Tm} {v : AV} (L : Lim ts v) : ∃ K, PairK K E [85, 112] [68, 110] v := by
  have hmm : most = 1073741824 := rfl
  have hmx : maxLen = 9223372036854775807 := rfl
  obtain ⟨c1, c2, c3⟩ := checkT_zero L.c
  have hvs := all_value c3
  have hn := L.n
  have hun := upL_nT ts hvs
  have hud := upL_dp ts hvs
  have hcu : checkT 4 (upL ts) = 0 := checkT_of (by omega) (by omega) (upL_all ts c3)
  refine pair_of hE H (by simp [names]) (by simp [names]) (np := n___builtin_call__up) (nq := n___builtin_call__dn) rfl rfl (ts := ts) ⟨L.sl, by omega, fun t ht => by have := L.t t ht; omega, L.c⟩ fun ra hra hrau => ?_
  obtain ⟨r, hr, hrs, hru⟩ := ans_up hE hra (by omega) c2 (M := 600) (by omega) L.t L.c hvs
  refine ⟨_, hr, .inl ⟨r, upL ts, rfl, hrs, hru, by omega, by omega, upL ts, ⟨hrs, by omega, fun t ht => ?_, hcu⟩, fun rb hrb _ => ?_⟩⟩
  · rcases upL_text ts t ht with h | ⟨w, h1, h2⟩
    · omega
    · have := L.t w h1; rw [← h2]; omega
  · obtain ⟨r2, hr2, hrs2, hru2⟩ := ans_dn hE hrb (by omega) (M := 600) (by omega) (by omega) L.t L.c hcu hvs
    exact ⟨_, hr2, .inl ⟨r2, ts, rfl, hrs2, hru2, by omega, by omega, hrs2⟩⟩
end
end Ab.U

/- First and Last behind a number: what the law's round sees. Its conditions: the table, what 'Hand2' says. -/
namespace Ab.U
open Go Ab Go.RowKit
set_option maxRecDepth 10000
set_option linter.all false
/- the argument of First and Last -/
def wV (n : Nat) (ys : List AV) (T : Nat) : AV := .sl (if ys = [] then .full else .tok T) 3 (tmV 3 (digs n) nilV :: AV.untokL ys)
def tkW (ys : List AV) (tk : List Nat) : List Nat := if ys = [] then tk else tk ++ [ys.length + 1]
def firstN : List UInt8 := [70, 105, 114, 115, 116]
def lastN : List UInt8 := [76, 97, 115, 116]
structure RoundK (K : Nat) (E : IEnv) (name : List UInt8) (n : Nat) (ys : List AV) (v0 : AV) (ts : List Tm) (tk tk' : List Nat) (oa oc : Own) (wc rs : List AV) : Prop where
  ap : FnK K E (.fn n_chiasmuslaw10_apply [] []) [.str name, wV n ys tk.length] (.tup [.sl oa 3 (tmV 4 [] (.sl oc 3 wc) :: rs), .int .i64 0])
  hn : oc = .nil → wc = []
  r1 : ∃ us, Rts us wc
  r2 : wc.length + rs.length = ts.length
  cnt : (if name = firstN then wc.length else rs.length) = min n ts.length
  eq : FnK K E (.fn n_chiasmusref01_Equal [] []) [outG (if oc = .nil then .nil else .full) 3 (tkW ys tk).length (AV.untokL wc ++ AV.untokL rs), v0] (.bool true)
  tk : tk' = outT (tkW ys tk) (AV.untokL wc ++ AV.untokL rs)
theorem untok_two {o : Own} {y : List AV} : ((AV.sl o 3 y).untok).untok = (AV.sl o 3 y).untok := by cases o <;> rfl
theorem take_nTs : ∀ (m : Nat) (ts : List Tm), nTs (ts.take m) + nTs (ts.drop m) = nTs ts := fun m ts => by rw [← nTs_append, List.take_append_drop]
theorem take_dpS (m : Nat) (ts : List Tm) : max (dpS (ts.take m)) (dpS (ts.drop m)) = dpS ts := by rw [← dpS_append, List.take_append_drop]
section
variable {E : IEnv} (hE : E.fns = Table.fn table)
include hE
theorem round_of (H : Hand2 E) {ts : List Tm} {o : Own} {ys : List AV} (L : Lim ts (.sl o 3 ys)) {n : Nat} (hn : n < 256) {name : List UInt8} {nf m : Nat} (hin : name ∈ names) (hf : findA (.str name) (funM 27) = some (some (.fn nf [] [])))
    (hm : m ≤ ts.length) (hcnt : (if name = firstN then m else ts.length - m) = min n ts.length)
    (hD : ∀ {o : Own} (ho : o ≠ .nil) {x0 : AV} (hx0 : ∃ o1 y1, x0 = .sl o1 3 y1) {ys : List AV} (hy : Rts ts ys) (hl : ys.length < 100000), ∃ r, Ans E nf (.sl o 3 (tmV 3 (digs n) x0 :: ys)) (.ret r) ∧ r.untok = r ∧ Sl (.mk 4 [] (ts.take m) :: ts.drop m) r) (tk : List Nat) :
    ∃ K tk' oa oc wc rs, RoundK K E name n ys (.sl o 3 ys) ts tk tk' oa oc wc rs := by
  have hmx : maxLen = 9223372036854775807 := rfl
  obtain ⟨c1, c2, c3⟩ := checkT_zero L.c
  obtain ⟨f1, f2, f3, f4, f5, f6⟩ := digs_facts n hn
  have hlt := length_le_nTs ts
  have hLn := L.n
  have hLd := L.d
  have hR : Rts ts ys := by
    obtain ⟨o', ys', h, _, hr⟩ := L.sl
    cases h; exact hr
  have hyl := hR.length
  have hul : (AV.untokL ys).length = ys.length := by rw [AV.untokL_eq, List.length_map]
  have hw : Sl (.mk 3 (digs n) [] :: ts) (wV n ys tk.length) := by
    refine ⟨_, _, rfl, ⟨by rw [List.length_cons]; omega, fun h => by split at h <;> cases h⟩, ?_⟩
    simp only [Rts]
    exact ⟨_, _, rfl, rt_nil _ _, hR.untokL⟩
  have hA : Arg (.mk 3 (digs n) [] :: ts) (wV n ys tk.length) := ⟨hw, by simp only [nTs, nT]; omega, fun t ht => by
      rw [preS_cons] at ht
      simp only [Tm.kids, preS, List.nil_append, List.mem_cons] at ht
      rcases ht with rfl | ht
      · simp only [Tm.text]; omega
      · have := L.t t ht; omega, checkT_of (by simp only [nTs, nT]; omega) (by simp only [dpS, dpE]; simp; omega) (by
        rw [preS_cons, List.all_cons, show preS (Tm.mk 3 (digs n) []).kids ++ preS ts = preS ts by simp [Tm.kids, preS], c3, Bool.and_true]
        simp [rightT, Tm.kind, Tm.kids, Tm.text, f1])⟩
  have hsum := take_nTs m ts
  have hdm := take_dpS m ts
  obtain ⟨res, ⟨K1, h1⟩, h2⟩ := fn_apply hE H hin hf hA (P := False) (Q := fun r => Sl (.mk 4 [] (ts.take m) :: ts.drop m) r) (fun ra hra hrau => by
    obtain ⟨o3, y3, rfl, hl3, hz⟩ := hra
    simp only [Rts] at hz
    obtain ⟨x, ys', rfl, hx, hys⟩ := hz
    obtain ⟨x0, rfl, o1, y1, rfl, _⟩ := hx.open
    obtain ⟨r, k1, k2, k3⟩ := hD (o := o3) (fun h => by have := hl3.2 h; cases this) (x0 := .sl o1 3 y1) ⟨_, _, rfl⟩ hys (by have := hys.length; omega)
    exact ⟨_, k1, .inl ⟨r, _, rfl, k3, k2, by simp only [nTs, nT]; omega, by simp only [dpS, dpE]; simp; omega, k3⟩⟩)
  rcases h2 with ⟨r, us, rfl, hs, hu, _, _, hb⟩ | ⟨_, h, _⟩
  · obtain ⟨oa, w, rfl, _, hz⟩ := hb
    simp only [Rts] at hz
    obtain ⟨x, rs, rfl, hx, hrs⟩ := hz
    obtain ⟨x0, rfl, oc, wc, rfl, hoc, hwc⟩ := hx.open
    simp only [Tm.kids] at hwc
    have l1 := hwc.length
    have l2 := hrs.length
    rw [List.length_take] at l1
    rw [List.length_drop] at l2
    have hV : Sl ts (outG (if oc = .nil then .nil else .full) 3 (tkW ys tk).length (AV.untokL wc ++ AV.untokL rs)) := by
      obtain ⟨o', h, hno⟩ := outG_sl (if oc = .nil then .nil else .full) 3 (tkW ys tk).length (AV.untokL wc ++ AV.untokL rs)
      have hRR := Rts.append hwc.untokL hrs.untokL
      rw [List.take_append_drop] at hRR
      exact ⟨o', _, h, ⟨by have := hRR.length; omega, hno⟩, hRR⟩
    obtain ⟨K2, h5⟩ := fn_ref_Equal hE hV L.sl
    rw [cmpTs_self] at h5
    refine ⟨K1 + K2, _, oa, oc, wc, rs, ⟨fun k hk => h1 k (by omega), hoc.2, ⟨_, hwc⟩, by omega, ?_, fun k hk => h5 k (by omega), rfl⟩⟩
    rw [← hcnt]
    split <;> omega
  · exact h.elim
end
end Ab.U

/- The law itself, from what its calls answer. No condition but the table. -/
namespace Ab.U
open Go Ab Go.RowKit
set_option maxRecDepth 10000
set_option linter.all false
theorem call_st0 {E : IEnv} {f : Nat} {F : IFn} (hF : E.fns f = some F) (hm : F.mode = .pure) {args : List AV} (hn : ([] ++ args ++ []).length = F.np) {k : Nat} {v : AV}
    (h : wp E (callA E k) k false F.body (finW F.res v) (envOf 0 ([] ++ args ++ [])) { bl := [], tk := [], ro := 0, rt := 0 }) : callA E (k + 1) none (.fn f [] []) args st0 = some (.ret v, false, st0) := by
  have hst : startA .pure none ([] ++ args ++ []) st0 = { bl := [], tk := [], ro := 0, rt := 0 } := by
    unfold startA; split <;> rfl
  obtain ⟨o, e', s1, h1, ho, vs, h2, h3, h4⟩ := wp_run h
  have hfin : finA .pure ([] : List AB).length st0 s1 (resOne vs) = some (v, st0) := by
    simp only [finA]
    rw [if_pos h3, h4]
  rcases ho with rfl | rfl <;> simp only [callA, hF, runA, hn, ne_eq, not_true_eq_false, if_false, hm, hst, h1, outPan, unwindA, h2, hfin]
def prs : List (List UInt8 × List UInt8) := [([83, 121, 109, 98], [78, 117, 109, 98]), ([69, 120, 112, 108, 111, 100, 101], [73, 109, 112, 108, 111, 100, 101]), ([85, 112], [68, 110])]
def prsV : List AV := prs.map fun p => AV.agg [.str p.1, .str p.2]
section
variable {E : IEnv} (hE : E.fns = Table.fn table)
include hE
theorem law_held {v : AV} {n : Nat} {B : Bool} {c N d : Int} (h0 : Fn E (.fn n_chiasmuslaw10_awake [] []) [] (.bool true)) (h1 : Fn E (.fn n_term_Size [] []) [v] (.tup [.int .i64 N, .int .i64 d])) (h2 : Fn E (.fn n_chiasmuslaw10_Small [] []) [v] (.bool B)) (h3 : B = true → Fn E (.fn n_term_Value [] []) [v] (.int .i64 c))
    (h : ¬ (B = true ∧ c = 0 ∧ d ≠ 100)) : Fn E (.fn n_chiasmuslaw10_BuiltinBack [] []) [v, .int .u8 n] (.bool true) := by
  obtain ⟨K0, h0⟩ := h0
  obtain ⟨K1, h1⟩ := h1
  obtain ⟨K2, h2⟩ := h2
  cases B with
  | false =>
    refine Fn.byW (h_chiasmuslaw10_BuiltinBack hE) rfl rfl ⟨K0 + K1 + K2, fun k hk bl tk => ?_⟩
    have f0 := h0 k (by omega)
    have f1 := h1 k (by omega)
    have f2 := h2 k (by omega)
    simp [F_chiasmuslaw10_BuiltinBack, b_chiasmuslaw10_BuiltinBack, f0, f1, f2]
  | true =>
    obtain ⟨K3, h3⟩ := h3 rfl
    refine Fn.byW (h_chiasmuslaw10_BuiltinBack hE) rfl rfl ⟨K0 + K1 + K2 + K3, fun k hk bl tk => ?_⟩
    have f0 := h0 k (by omega)
    have f1 := h1 k (by omega)
    have f2 := h2 k (by omega)
    have f3 := h3 k (by omega)
    by_cases z : c = 0
    · have z2 : d = 100 := by
        by_cases hd : d = 100
        · exact hd
        · exact absurd ⟨rfl, z, hd⟩ h
      simp [F_chiasmuslaw10_BuiltinBack, b_chiasmuslaw10_BuiltinBack, f0, f1, f2, f3, z, z2]
    · simp [F_chiasmuslaw10_BuiltinBack, b_chiasmuslaw10_BuiltinBack, f0, f1, f2, f3, (show (c != 0) = true by simpa using z)]
set_option maxHeartbeats 4000000 in
theorem law_goes {o : Own} {ys : List AV} {n : Nat} (hn : n < 256) {ts : List Tm} {N d : Int} (hlen : ys.length = ts.length) (hl3 : ts.length ≤ 300) (hyr : Rts ts ys) (h0 : Fn E (.fn n_chiasmuslaw10_awake [] []) [] (.bool true)) (h1 : Fn E (.fn n_term_Size [] []) [.sl o 3 ys] (.tup [.int .i64 N, .int .i64 d])) (h2 : Fn E (.fn n_chiasmuslaw10_Small [] []) [.sl o 3 ys] (.bool true)) (h3 : Fn E (.fn n_term_Value [] []) [.sl o 3 ys] (.int .i64 0)) (hd : d ≠ 100)
    {K : Nat} (hP : ∀ p ∈ prs, PairK K E p.1 p.2 (.sl o 3 ys)) {tka tkb : List Nat} {oa oc ob od : Own} {wc rs wd rt : List AV} (hR : RoundK K E firstN n ys (.sl o 3 ys) ts [] tka oa oc wc rs) (hS : RoundK K E lastN n ys (.sl o 3 ys) ts tka tkb ob od wd rt) :
    ∃ k, callA E k none (.fn n_chiasmuslaw10_BuiltinBack [] []) [.sl o 3 ys, .int .u8 n] st0 = some (.ret (.bool true), false, st0) := by
  have hmm : most = 1073741824 := rfl
  obtain ⟨K0, h0⟩ := h0
  obtain ⟨K1, h1⟩ := h1
  obtain ⟨K2, h2⟩ := h2
  obtain ⟨K3, h3⟩ := h3
  obtain ⟨k, hk⟩ : ∃ k, k = K + K0 + K1 + K2 + K3 + 100 := ⟨_, rfl⟩
  refine ⟨k + 1, call_st0 (h_chiasmuslaw10_BuiltinBack hE) rfl rfl ?_⟩
  have f0 := h0 k (by omega)
  have f1 := h1 k (by omega)
  have f2 := h2 k (by omega)
  have f3 := h3 k (by omega)
  have c1 : calm E (.fn n_chiasmusref01_Equal [] []) = true := c_chiasmusref01_Equal hE [] []
  have hdb : (d == 100) = false := beq_eq_false_iff_ne.2 hd
  simp [F_chiasmuslaw10_BuiltinBack, b_chiasmuslaw10_BuiltinBack, f0, f1, f2, f3, hd, hdb, setElems, repl, elemOfCells, hasSize]
  have j0 : idx (.int .i64 0) 2 = some 0 := rfl
  have j1 : idx (.int .i64 1) 2 = some 1 := rfl
  have hpr : ∀ (i : Nat) (p : List UInt8 × List UInt8), prs[i]? = some p → prsV[i]? = some (AV.agg [.str p.1, .str p.2]) := by
    intro i p hp
    simp only [prsV, List.getElem?_map, hp, Option.map_some]
  refine wp_loop 3 (fun i e s => ∃ g, e = [(0, .sl o 3 ys), (1, .int .u8 n), (39, .sl .full 2 prsV), (40, .int .i64 3), (41, .int .i64 i)] ∧ s = { bl := g, tk := [], ro := 0, rt := 0 }) (by omega) ⟨[], by simp [prsV, prs], rfl⟩ ?_ ?_
  · rintro i e s hi ⟨g, rfl, rfl⟩
    obtain ⟨p, hp⟩ : ∃ p, prs[i]? = some p := ⟨_, List.getElem?_eq_getElem (by simp [prs]; omega)⟩
    have hx := hpr i p hp
    have hpk := hP p (List.mem_of_getElem? hp)
    obtain ⟨p1, p2⟩ := p
    simp only at hx hpk
    obtain ⟨hi1, hx1⟩ := List.getElem?_eq_some_iff.1 hx
    have hix : i < prsV.length := hi1
    have e1 : idx (.int .i64 i) 3 = some i := idx_nat hi
    have hpl : prsV.length = 3 := by simp [prsV, prs]
    have hwr : IntKind.wrap .i64 ((i : Int) + 1) = i + 1 := wrapIn (by omega) (by omega)
    have hi3 : (i : Int) < 3 := by omega
    have q0 : ∀ (c : AB) (r : List AB), (g ++ c :: r)[g.length]? = some c := fun c r => by rw [append_get0]; rfl
    have s0 : ∀ (c f : AB) (r : List AB), (g ++ c :: r).set g.length f = g ++ f :: r := fun c f r => by rw [append_set0]; rfl
    rcases hpk with ⟨c, hc, ha⟩ | ⟨oy, y, oz, z, ha, hb, hq⟩
    · have ha := ha k (by omega)
      have hcb : (c == 0) = false := beq_eq_false_iff_ne.2 hc
      simp [-getElem?_pos, List.getElem?_cons_zero, List.getElem?_cons_succ, l0_chiasmuslaw10_BuiltinBack, hi3, hpl, e1, hx, q0, s0, ha, hcb, hc, hwr, j0, j1]
    · have ha := ha k (by omega)
      have hb := hb k (by omega)
      have hq := hq k (by omega)
      simp [-getElem?_pos, List.getElem?_cons_zero, List.getElem?_cons_succ, l0_chiasmuslaw10_BuiltinBack, hi3, hpl, e1, hx, q0, s0, ha, hb, hq, c1, hwr, j0, j1]
  · rintro e s ⟨g, rfl, rfl⟩
    have hpl : prsV.length = 3 := by simp [prsV, prs]
    simp [-getElem?_pos, List.getElem?_cons_zero, List.getElem?_cons_succ, l0_chiasmuslaw10_BuiltinBack, hpl, setElems, repl, elemOfCells, hasSize]
    have hnm : ∀ i : Nat, i < 2 → ∃ name tk tk' oa oc wc rs, ([AV.str [70, 105, 114, 115, 116], AV.str [76, 97, 115, 116]] : List AV)[i]? = some (.str name) ∧ (name == firstN) = decide (i = 0) ∧ tk = (if i = 0 then [] else if i = 1 then tka else tkb) ∧ tk' = (if i = 0 then tka else tkb) ∧ RoundK K E name n ys (.sl o 3 ys) ts tk tk' oa oc wc rs := by
      intro i hi
      obtain rfl | rfl : i = 0 ∨ i = 1 := by omega
      · exact ⟨firstN, [], tka, oa, oc, wc, rs, rfl, rfl, rfl, rfl, hR⟩
      · exact ⟨lastN, tka, tkb, ob, od, wd, rt, rfl, rfl, rfl, rfl, hS⟩
    refine wp_loop 2 (fun i e s => e = [(0, .sl o 3 ys), (1, .int .u8 n), (70, .sl .full 1 [.str [70, 105, 114, 115, 116], .str [76, 97, 115, 116]]), (71, .int .i64 2), (72, .int .i64 i)] ∧ s = { bl := g, tk := if i = 0 then [] else if i = 1 then tka else tkb, ro := 0, rt := 0 }) (by omega) (by simp) ?_ ?_
    · rintro i e s hi ⟨rfl, rfl⟩
      obtain ⟨name, tk, tk', oa, oc, wc, rs, hx, hnf, htk, htk', hr⟩ := hnm i hi
      have htkn : (if i + 1 = 0 then [] else if i + 1 = 1 then tka else tkb) = tk' := by
        rw [htk', if_neg (by omega)]
        obtain rfl | rfl : i = 0 ∨ i = 1 := by omega
        · rfl
        · rfl
      rw [← htk, htkn]
      have e1 : idx (.int .i64 i) 2 = some i := idx_nat hi
      have hwr : IntKind.wrap .i64 ((i : Int) + 1) = i + 1 := wrapIn (by omega) (by omega)
      have hi2 : (i : Int) < 2 := by omega
      have hap := hr.ap k (by omega)
      have heq := hr.eq k (by omega)
      have hsm := fn_small hE (n := n) (by omega) k (by omega)
      have hr2 := hr.r2
      have hwn : IntKind.wrap .i64 (n : Int) = n := wrapIn (by omega) (by omega)
      have hul : (AV.untokL ys).length = ys.length := by rw [AV.untokL_eq, List.length_map]
      have hta : ∀ (B : List AB) (ro : Nat), appA { bl := B, tk := tk, ro, rt := 0 } 3 (.sl .full 3 [tmV 3 (digs n) nilV]) (.sl o 3 ys) = some (wV n ys tk.length, { bl := B, tk := tkW ys tk, ro, rt := 0 }) := by
        intro B ro
        by_cases hy : ys = []
        · subst hy
          simp [appA, ysOf, AV.untokL, wV, tkW, (show 1 ≤ most by decide)]
        · have h1 : 1 + ys.length ≤ most := by omega
          have h2 : AV.untokL ys ≠ [] := fun h => hy (by rw [AV.untokL_eq] at h; simpa using h)
          cases hu : AV.untokL ys with
          | nil => exact absurd hu h2
          | cons a r =>
            rw [hu] at hul
            simp only [List.length_cons] at hul
            have h3 : 1 + (r.length + 1) ≤ most := by omega
            simp [appA, ysOf, wV, tkW, hy, hu, h3, ← hul]
            omega
      obtain ⟨us, hus⟩ := hr.r1
      have hwn' : wc.length ≤ most := by omega
      obtain ⟨oX, hoX, hoX2⟩ : ∃ oX, oX = (if oc = .nil then .nil else .full : Own) ∧ (oX = .nil ∨ oX = .full) := ⟨_, rfl, by split <;> simp⟩
      rw [← hoX] at heq
      have huw : (AV.untokL wc).length = wc.length := by rw [AV.untokL_eq, List.length_map]
      have hcl : ∀ (B : List AB) (ro : Nat), callA E k none (.fn n_slices_Clone___api_Term_api_Term_ [] []) [.sl oc 3 wc] { bl := B, tk := tkW ys tk, ro, rt := 0 } = some (.ret (outG oX 3 (tkW ys tk).length (AV.untokL wc)), false, { bl := B, tk := outT (tkW ys tk) (AV.untokL wc), ro, rt := 0 }) := by
        intro B ro
        have := fn_CloneT hE hus (o := oc) hr.hn hwn' (k := k) (by omega) { bl := B, tk := tkW ys tk, ro, rt := 0 }
        rw [this]
        have h1 : cloV oc 3 (tkW ys tk).length (AV.untokL wc) = outG oX 3 (tkW ys tk).length (AV.untokL wc) := by
          unfold cloV; rw [hoX]
          split
          · rename_i h; rw [hr.hn h]; rfl
          · rfl
        show some (CRes.ret (cloV oc 3 (tkW ys tk).length (AV.untokL wc)), _, _) = _
        rw [h1]
      have hap2 : ∀ (B : List AB) (ro : Nat) (o' : Own), appA { bl := B, tk := outT (tkW ys tk) (AV.untokL wc), ro, rt := 0 } 3 (outG oX 3 (tkW ys tk).length (AV.untokL wc)) (.sl o' 3 rs) = some (outG oX 3 (tkW ys tk).length (AV.untokL wc ++ AV.untokL rs), { bl := B, tk := outT (tkW ys tk) (AV.untokL wc ++ AV.untokL rs), ro, rt := 0 }) :=
        fun B ro o' => app_outG hoX2 (by rw [huw]; omega) (Nat.zero_le _)
      rw [← hr.tk] at hap2
      simp only [tmV, nilV] at hta hap
      have i1 : idx (.int .i64 0) (rs.length + 1) = some 0 := idx_nat (i := 0) (by omega)
      have b0 : bound none (rs.length + 1) (rs.length + 1) = some (rs.length + 1) := rfl
      have b1 : bound (some (.int .i64 1)) 0 (rs.length + 1) = some 1 := by simp [bound]; omega
      have l0 : ¬ ((rs.length : Int) + 1 = 0) := by omega
      have l1 : (((rs.length : Int) + 1) == 0) = false := beq_eq_false_iff_ne.2 l0
      have w1 : IntKind.wrap .i64 ((rs.length : Int) + 1 - 1) = (rs.length : Int) := by rw [show (rs.length : Int) + 1 - 1 = rs.length by omega]; exact wrapIn (by omega) (by omega)
      have hcnt := hr.cnt
      simp [-getElem?_pos, List.getElem?_cons_zero, List.getElem?_cons_succ, l1_chiasmuslaw10_BuiltinBack, hi2, e1, hx, hwr, hwn, hsm, hta, hap, setElems, repl, elemOfCells, hasSize, convA]
      refine wp_altS .normal [(0, .sl o 3 ys), (1, .int .u8 n), (14, .str name), (15, .sl oa 3 (.agg [.int .i64 4, .str [], .sl oc 3 wc] :: rs)), (16, .int .i64 0), (70, .sl .full 1 [.str [70, 105, 114, 115, 116], .str [76, 97, 115, 116]]), (71, .int .i64 2), (72, .int .i64 i), (73, .bool true), (114, .bool false)] tk' [] rfl ?_ ?_ ?_
      · simp [-getElem?_pos, List.getElem?_cons_zero, List.getElem?_cons_succ, i1, l0, l1, hcl, sliceA, b0, b1, hap2, heq, c1]
      · simp [-getElem?_pos, List.getElem?_cons_zero, List.getElem?_cons_succ, inOrd, i1, l0, l1, hcl, sliceA, b0, b1, hap2, heq, c1]
      rw [← hlen] at hcnt
      have hmi : mmAll .min (.int .i64 n) [.int .i64 ys.length] = some (.int .i64 (min n ys.length : Nat)) := by
        have : (if (ys.length : Int) < (n : Int) then (ys.length : Int) else (n : Int)) = ((min n ys.length : Nat) : Int) := by split <;> omega
        simp only [mmAll, mmA, if_true, this]
      have w2 : IntKind.wrap .i64 (rs.length : Int) = (rs.length : Int) := wrapIn (by omega) (by omega)
      have w3 : IntKind.wrap .i64 ((min n ys.length : Nat) : Int) = ((min n ys.length : Nat) : Int) := wrapIn (by omega) (by omega)
      by_cases hf : name = [70, 105, 114, 115, 116]
      · have hf' : name = firstN := hf
        rw [if_pos hf'] at hcnt
        simp [-getElem?_pos, List.getElem?_cons_zero, List.getElem?_cons_succ, i1, w1, hwn, hwr, convA, hf, hcnt, hmi]
      · have hf' : ¬ name = firstN := hf
        rw [if_neg hf'] at hcnt
        simp [-getElem?_pos, List.getElem?_cons_zero, List.getElem?_cons_succ, i1, w1, hwn, hwr, convA, hf, w2, w3, hmi, hcnt]
    · rintro e s ⟨rfl, rfl⟩
      simp [-getElem?_pos, List.getElem?_cons_zero, List.getElem?_cons_succ, l1_chiasmuslaw10_BuiltinBack, f0]
end
end Ab.U

/- What the law's own small functions answer. No condition but the table. -/
namespace Ab.U
open Go Ab Go.RowKit
set_option maxRecDepth 10000
set_option linter.unusedSimpArgs false
set_option linter.unusedVariables false

/- the first of some answers that is true -/
def idxF : List Bool → Nat → Int
  | [], _ => -1
  | b :: r, i => if b then (i : Int) else idxF r (i + 1)
theorem idxF_any : ∀ (rs : List Bool) (i : Nat), decide (0 ≤ idxF rs i) = rs.any id
  | [], _ => rfl
  | true :: r, i => by simp [idxF]
  | false :: r, i => by simp only [idxF, Bool.false_eq_true, if_false, idxF_any r, List.any_cons, id, Bool.false_or]
mutual
def ndL (m n : Int) : List Tm → Int
  | [] => n
  | t :: ts => if m < n then n else ndL m (n + (1 + ndK (m - n) t)) ts
def ndK (m : Int) : Tm → Int
  | .mk _ _ kids => ndL m 0 kids
end
theorem ndK_eq (m : Int) (t : Tm) : ndK m t = ndL m 0 t.kids := by cases t; simp only [ndK, Tm.kids]
mutual
theorem ndL_bound (m n : Int) : ∀ ts : List Tm, n ≤ ndL m n ts ∧ ndL m n ts ≤ n + nTs ts
  | [] => by simp only [ndL, nTs]; omega
  | t :: ts => by
    simp only [ndL, nTs]
    have h1 := ndK_bound (m - n) t
    have h2 := ndL_bound m (n + (1 + ndK (m - n) t)) ts
    split <;> omega
theorem ndK_bound (m : Int) : ∀ t : Tm, 0 ≤ ndK m t ∧ 1 + ndK m t ≤ nT t
  | .mk _ _ kids => by
    have := ndL_bound m 0 kids
    simp only [ndK, nT]; omega
end
section
variable {E : IEnv} (hE : E.fns = Table.fn table)
include hE
theorem fn_Index_api_Term_api_Term {o : Own} {xs : List AV} {rs : List Bool} {f : AV} (hl : rs.length = xs.length) (hm : xs.length ≤ most) (hsh : ∀ x ∈ xs, ∃ a b c, x = .agg [a, b, c]) {K : Nat}
    (hf : ∀ k, K ≤ k → ∀ (i : Nat) x b, xs[i]? = some x → rs[i]? = some b → ∀ s, callA E k none f [x] s = some (.ret (.bool b), false, s)) :
    FnK (K + xs.length + 3) E (.fn n_slices_IndexFunc___api_Term_api_Term_ [] []) [.sl o 3 xs, f] (.int .i64 (idxF rs 0)) :=
  FnK.byW (h_slices_IndexFunc___api_Term_api_Term_ hE) rfl rfl (K := K + xs.length + 2) fun k hk bl tk => by
    have hmm : most = 1073741824 := rfl
    simp [F_slices_IndexFunc___api_Term_api_Term_, b_slices_IndexFunc___api_Term_api_Term_]
    refine wp_loop xs.length (fun i e s => idxF rs 0 = idxF (rs.drop i) i ∧ e = [(0, .sl o 3 xs), (1, f), (7, .int .i64 xs.length), (8, .int .i64 i)] ∧ s = { bl := bl, tk, ro := bl.length, rt := tk.length }) (by omega) (by simp) ?_ ?_
    · rintro i e s hi ⟨hq, rfl, rfl⟩
      obtain ⟨x, hx⟩ : ∃ x, xs[i]? = some x := ⟨_, List.getElem?_eq_getElem hi⟩
      obtain ⟨q, hq2⟩ : ∃ q, rs[i]? = some q := ⟨_, List.getElem?_eq_getElem (by omega)⟩
      obtain ⟨hqi, hq3⟩ := List.getElem?_eq_some_iff.1 hq2
      have hc := hf k (by omega) i x q hx hq2
      obtain ⟨a, b, c, rfl⟩ := hsh _ (List.mem_of_getElem? hx)
      obtain ⟨hi1, hx1⟩ := List.getElem?_eq_some_iff.1 hx
      have e1 : idx (.int .i64 i) xs.length = some i := idx_nat hi1
      have hwr : IntKind.wrap .i64 ((i : Int) + 1) = i + 1 := wrapIn (by omega) (by omega)
      rw [List.drop_eq_getElem_cons hqi, hq3, idxF] at hq
      cases q with
      | true => simp [l0_slices_IndexFunc___api_Term_api_Term_, hi, e1, hx1, hwr, hc, hq]
      | false =>
        simp only [Bool.false_eq_true, if_false] at hq
        simp [l0_slices_IndexFunc___api_Term_api_Term_, hi, e1, hx1, hwr, hc, hq]
    · rintro e s ⟨hq, rfl, rfl⟩
      rw [List.drop_of_length_le (by omega), idxF] at hq
      simp [l0_slices_IndexFunc___api_Term_api_Term_, hq]
theorem fn_Contains_api_Term_api_Term {o : Own} {xs : List AV} {rs : List Bool} {f : AV} (hl : rs.length = xs.length) (hm : xs.length ≤ most) (hsh : ∀ x ∈ xs, ∃ a b c, x = .agg [a, b, c]) {K : Nat}
    (hf : ∀ k, K ≤ k → ∀ (i : Nat) x b, xs[i]? = some x → rs[i]? = some b → ∀ s, callA E k none f [x] s = some (.ret (.bool b), false, s)) :
    FnK (K + xs.length + 4) E (.fn n_slices_ContainsFunc___api_Term_api_Term_ [] []) [.sl o 3 xs, f] (.bool (rs.any id)) :=
  FnK.byW (h_slices_ContainsFunc___api_Term_api_Term_ hE) rfl rfl (K := K + xs.length + 3) fun k hk bl tk => by
    have h1 := fn_Index_api_Term_api_Term hE (o := o) hl hm hsh hf k (by omega)
    simp [F_slices_ContainsFunc___api_Term_api_Term_, b_slices_ContainsFunc___api_Term_api_Term_, h1, ← idxF_any rs 0]
theorem fn_nodes : ∀ (n : Nat) {ts : List Tm} {v : AV} (m : Int), nTs ts < n → nTs ts ≤ most → -1073741824 ≤ m → m ≤ 1073741824 → Sl ts v → FnK (2 * nTs ts + 3) E (.fn n_chiasmuslaw10_nodes [] []) [v, .int .i64 m] (.int .i64 (ndL m 0 ts))
  | 0, _, _, _, h, _, _, _, _ => by omega
  | n + 1, ts, v, m, hn, hmo, hl0, hl1, hv => by
    obtain ⟨o1, xs, rfl, ⟨hm1, _⟩, h1⟩ := hv
    have hl := h1.length
    have hlt := length_le_nTs ts
    have hmx : maxLen = 9223372036854775807 := rfl
    have hmm : most = 1073741824 := rfl
    refine FnK.byW (h_chiasmuslaw10_nodes hE) rfl rfl (K := 2 * nTs ts + 2) fun k hk bl tk => ?_
    simp [F_chiasmuslaw10_nodes, b_chiasmuslaw10_nodes]
    refine wp_loop xs.length (fun i e s => ∃ (c : Int) (b : List AB), bl.length ≤ b.length ∧ 0 ≤ c ∧ c ≤ nTs (ts.take i) ∧ ndL m 0 ts = ndL m c (ts.drop i) ∧ e = [(1, .int .i64 m), (5, .int .i64 c), (8, .sl o1 3 xs), (9, .int .i64 xs.length), (10, .int .i64 i)] ∧ s = { bl := b, tk, ro := bl.length, rt := tk.length }) (by omega) ⟨0, bl, by simp [nTs]⟩ ?_ ?_
    · rintro i e s hi ⟨c, b, hb, hc0, hc1, hq, rfl, rfl⟩
      obtain ⟨t, ht⟩ : ∃ t, ts[i]? = some t := ⟨_, List.getElem?_eq_getElem (by omega)⟩
      obtain ⟨x, hx, hrx⟩ := h1.get ht
      obtain ⟨kx, rfl, hkx⟩ := hrx.open
      obtain ⟨hi1, hx1⟩ := List.getElem?_eq_some_iff.1 hx
      have e1 : idx (.int .i64 i) xs.length = some i := idx_nat hi1
      have hwr : IntKind.wrap .i64 ((i : Int) + 1) = i + 1 := wrapIn (by omega) (by omega)
      obtain ⟨hti, ht1⟩ := List.getElem?_eq_some_iff.1 ht
      have hle := nT_mem (List.mem_of_getElem? ht)
      have hsum : nTs (ts.take (i + 1)) = nTs (ts.take i) + nT t := by rw [List.take_add_one, ht, nTs_append]; simp [nTs]
      have hall : nTs (ts.take (i + 1)) ≤ nTs ts := by
        have := nTs_append (ts.take (i + 1)) (ts.drop (i + 1)); rw [List.take_append_drop] at this; omega
      rw [List.drop_eq_getElem_cons hti, ht1, ndL] at hq
      have hb1 : bl.length ≤ b.length + 1 := by omega
      by_cases c1 : m < c
      · rw [if_pos c1] at hq
        simp [l0_chiasmuslaw10_nodes, hi, e1, hi1, hx, hx1, c1, hq, hb, append_get, append_get0, append_set, append_set0]
      · rw [if_neg c1] at hq
        have hkb := ndK_bound (m - c) t
        rw [ndK_eq] at hq hkb
        have hle2 := hle
        rw [nT_eq] at hle2
        have hc := fn_nodes n (m - c) (by omega) (by omega) (by omega) (by omega) hkx k (by omega)
        obtain ⟨r, hr⟩ : ∃ r, r = ndL (m - c) 0 t.kids := ⟨_, rfl⟩
        rw [← hr] at hc hq hkb
        have w1 : IntKind.wrap .i64 (m - c) = m - c := wrapIn (by omega) (by omega)
        have w4 : IntKind.wrap .i64 (1 + r) = 1 + r := wrapIn (by omega) (by omega)
        have w5 : IntKind.wrap .i64 (c + (1 + r)) = c + (1 + r) := wrapIn (by omega) (by omega)
        simp [l0_chiasmuslaw10_nodes, hi, e1, hi1, hx, hx1, c1, hb, hb1, append_get, append_get0, append_set, append_set0, w1, w4, w5, hc, hwr]
        exact ⟨_, _, by simp; omega, by omega, by omega, hq, rfl, rfl⟩
    · rintro e s ⟨c, b, hb, hc0, hc1, hq, rfl, rfl⟩
      rw [List.drop_of_length_le (by omega), ndL] at hq
      simp [l0_chiasmuslaw10_nodes, hq]
end
end Ab.U

/- All arguments of a row as abstract values, with how much there is; and that they read the same afterwards. No condition. -/
namespace Ab
open Go Go.RowKit Go.WideShapes

def ArgOf (P : Program) (t : TypeId) (x : AV) : Prop := if (isAggP P t).getD false then ∃ xs, x = .agg xs ∧ Of P t xs else Of P t [x]

theorem arg_open {H : Type} {enc : TypeId × Value → H} {P : Program} {S : List TypeId} (hS : closedT P S = true) {L : Lk} {W : World} {t : TypeId} (ht : t ∈ S) {base : Nat} {v : Value} {d : DataW H} {p : List MemPlace}
    (hv : Value.okWide P W .any base t v) (h : DataW.Trod enc P W 0 (fun _ => true) true t v d p) : ∃ x, Rep L (g0 W) W x v ∧ ArgOf P t x ∧ AV.sz x ≤ bulkD d := by
  obtain ⟨fuel, hf⟩ := h
  obtain ⟨xs, h1, h2, h3, h4, h5⟩ := open_trod hS (L := L) fuel t _ d p ht hf
  have hc := List.all_eq_true.1 hS t ht
  cases hu : P.underlying t with
  | none => rw [hu] at hc; cases hc
  | some dd =>
    have hagg := isAgg_of hu
    cases hda : aggOf dd with
    | true =>
      have hs : ∃ cs, v = .agg cs := by
        cases dd with
        | struct fs => obtain ⟨cs, rfl, _⟩ := okWide_struct hu hv; exact ⟨cs, rfl⟩
        | array n e => rw [hu] at hc; cases hc
        | _ => simp [aggOf] at hda
      obtain ⟨cs, rfl⟩ := hs
      refine ⟨.agg xs, ?_, ?_, ?_⟩
      · simp only [Rep]
        exact ⟨cs.toList, by simp, by simpa [Value.cells] using h1, fun u hu => h3 u (by simpa [Value.cells] using hu)⟩
      · simp only [ArgOf, hagg, Option.getD_some, hda, if_true]; exact ⟨xs, rfl, h4⟩
      · simp only [anP, hagg, Option.getD_some, hda, if_true] at h5
        simp only [AV.sz]; omega
    | false =>
      have hone : v.cells = #[v] := by
        rw [hu] at hc
        cases dd with
        | struct fs => simp [aggOf] at hda
        | array n e => simp [aggOf] at hda
        | bool => obtain ⟨b, rfl⟩ := okWide_bool hu hv; rfl
        | int k => obtain ⟨b, rfl⟩ := okWide_int hu hv; rfl
        | string => obtain ⟨b, rfl⟩ := okWide_string hu hv; rfl
        | slice e => obtain ⟨a, b, c, rfl⟩ := okWide_slice hu hv; rfl
        | _ => cases hc
      obtain ⟨x, rfl⟩ := of_one hu hda h4
      rw [hone] at h1
      simp only [RepL] at h1
      obtain ⟨v', r, e, h6, _⟩ := h1
      simp at e
      obtain ⟨rfl, rfl⟩ := e
      refine ⟨x, h6, ?_, ?_⟩
      · simp only [ArgOf, hagg, Option.getD_some, hda, Bool.false_eq_true, if_false]; exact h4
      · simp only [AV.szL] at h5; omega

def ArgsOf (P : Program) : List TypeId → List AV → Prop
  | [], [] => True
  | t :: ts, x :: xs => ArgOf P t x ∧ ArgsOf P ts xs
  | _, _ => False
theorem args_open {H : Type} {enc : TypeId × Value → H} {P : Program} {S : List TypeId} (hS : closedT P S = true) {L : Lk} {W : World} {base : Nat} : ∀ {ts : List TypeId} {vs : List Value} {ds : List (DataW H)} {p : List MemPlace}, (ts.all fun t => S.contains t) = true →
    (∀ (j : Nat) t v, ts[j]? = some t → vs[j]? = some v → Value.okWide P W .any base t v) → DataW.TrodAll enc P W 0 (fun _ => true) true ts vs ds p →
    ∃ xs, RepL L (g0 W) W xs vs ∧ ArgsOf P ts xs ∧ AV.szL xs ≤ bulkL ds
  | [], [], [], _, _, _, _ => ⟨[], by simp [RepL], trivial, by simp [AV.szL, bulkL]⟩
  | t :: ts, v :: vs, d :: ds, p, hm, hv, h => by
    simp only [List.all_cons, Bool.and_eq_true] at hm
    obtain ⟨p1, q1, h1, h2, _⟩ := h
    obtain ⟨x, a1, a2, a3⟩ := arg_open hS (L := L) (by simpa using hm.1) (hv 0 t v rfl rfl) h1
    obtain ⟨xs, b1, b2, b3⟩ := args_open hS hm.2 (fun j t' v' ht' hv' => hv (j + 1) t' v' (by simpa using ht') (by simpa using hv')) h2
    exact ⟨x :: xs, by simp only [RepL]; exact ⟨_, _, rfl, a1, b1⟩, ⟨a2, b2⟩, by simp only [AV.szL, bulkL]; omega⟩
  | [], _ :: _, _, _, _, _, h => h.elim
  | [], [], _ :: _, _, _, _, h => h.elim
  | _ :: _, [], _, _, _, _, h => h.elim
  | _ :: _, _ :: _, [], _, _, _, h => h.elim

theorem args_lt {H : Type} {enc : TypeId × Value → H} {P : Program} {W : World} : ∀ {ts : List TypeId} {vs : List Value} {ds : List (DataW H)} {p : List MemPlace}, DataW.TrodAll enc P W 0 (fun _ => true) true ts vs ds p → ∀ x ∈ p, x.block < W.heap.size
  | [], [], [], _, h, x, hx => by cases h; cases hx
  | t :: ts, v :: vs, d :: ds, p, h, x, hx => by
    obtain ⟨p1, q1, ⟨m, h1⟩, h2, rfl⟩ := h
    rcases List.mem_append.1 hx with hx | hx
    · exact DataW.trod_lt m _ _ _ h1 x hx
    · exact args_lt h2 x hx
  | [], _ :: _, _, _, h, _, _ => h.elim
  | [], [], _ :: _, _, h, _, _ => h.elim
  | _ :: _, [], _, _, h, _, _ => h.elim
  | _ :: _, _ :: _, [], _, h, _, _ => h.elim

def readT (P : Program) (ts : List TypeId) : Bool := ts.all fun t => P.readableRec t && decide (t < P.types.size)
theorem args_shut {H : Type} {enc : TypeId × Value → H} {P : Program} (hl : laidOutB P = true) {W W' : World} (hb : Below W.heap.size W W') : ∀ {ts : List TypeId} {vs : List Value} {ds : List (DataW H)} {p : List MemPlace}, readT P ts = true →
    DataW.TrodAll enc P W 0 (fun _ => true) true ts vs ds p → DataW.TrodAll enc P W' 0 (fun b => decide (b < W.heap.size)) true ts vs ds p
  | [], [], [], _, _, h => h
  | t :: ts, v :: vs, d :: ds, p, hr, h => by
    simp only [readT, List.all_cons, Bool.and_eq_true, decide_eq_true_eq] at hr
    obtain ⟨p1, q1, h1, h2, rfl⟩ := h
    have hlt : ∀ x ∈ p1, x.block < W.heap.size := by obtain ⟨m, hm⟩ := h1; exact DataW.trod_lt m _ _ _ hm
    exact ⟨p1, q1, Below.trod hl hr.1.1 hr.1.2 h1 hb hlt, args_shut hl hb (by simpa [readT] using hr.2) h2, rfl⟩
  | [], _ :: _, _, _, _, h => h.elim
  | [], [], _ :: _, _, _, h => h.elim
  | _ :: _, [], _, _, _, h => h.elim
  | _ :: _, _ :: _, [], _, _, h => h.elim

/- a world that lays what a row lists -/
def litV : Lit → Value
  | .bool b => .bool b
  | .int k n => .int k n
  | .string s => .string ⟨s.toArray⟩
  | _ => .nilIface
/- (fuel, next block, data) to cells and blocks that are new -/
def layC {H : Type} (f : String → TypeId × TypeId) : Nat → Nat → DataW H → List Value × List (List Value × TypeId)
  | 0, _, _ => ([], [])
  | k + 1, N, d => match d with
    | .lit l => ([litV l], [])
    | .agg ps => ps.foldl (fun acc p => let q := layC f k (N + acc.2.length) p; (acc.1 ++ q.1, acc.2 ++ q.2)) ([], [])
    | .iface s (.ptr e) => let q := layC f k (N + 1) e; ([.iface (f s).1 (.pointer (some ⟨N, 0, none⟩))], (q.1, (f s).2) :: q.2)
    | _ => ([], [])
noncomputable def layW (P : Program) (os : Os) (f : String → TypeId × TypeId) (laid : List (String × DataW Unit)) : World :=
  let N := (World.settled P os).heap.size
  let r := laid.foldl (fun acc x => let q := layC f 9 (N + acc.2.length) x.2; (acc.1 ++ [(x.1, q.1)], acc.2 ++ q.2)) (([] : List (String × List Value)), ([] : List (List Value × TypeId)))
  let w0 := World.holding P os ⟨(r.2.map fun b => Obj.cells b.1.toArray b.2 (0, 0)).toArray, #[], []⟩
  let put (h : Array Obj) (x : String × List Value) : Array Obj := match P.globalNamed x.1 with
    | some g => h.modify g fun
      | .cells _ t frozen => .cells x.2.toArray t frozen
      | o => o
    | none => h
  { w0 with heap := r.1.foldl put w0.heap }
end Ab

/- What arguments of a type look like; how many terms and letters an abstract value has at most. No condition. -/
namespace Ab
open Go Go.RowKit
section
variable {P : Program} {t e : TypeId} {xs : List AV}
theorem of_slice (h : P.underlying t = some (.slice e)) (ho : Of P t xs) : xs = [.sl .nil (P.cellsOf e) []] ∨ ∃ yss : List (List AV), (∀ ys ∈ yss, Of P e ys) ∧ yss.length ≤ maxLen ∧ xs = [.sl .any (P.cellsOf e) (yss.map (elemAV ((isAggP P e).getD false)))] := by
  cases ho with
  | nil h' => rw [h] at h'; cases h'; exact .inl rfl
  | slice h' yss hy hl => rw [h] at h'; cases h'; exact .inr ⟨yss, hy, hl, rfl⟩
  | bool h' => rw [h] at h'; cases h'
  | int h' => rw [h] at h'; cases h'
  | str h' => rw [h] at h'; cases h'
  | struct h' => rw [h] at h'; cases h'
theorem of_struct {fs : Array Field} (h : P.underlying t = some (.struct fs)) (ho : Of P t xs) : ∃ xss : List (List AV), xss.length = fs.size ∧ (∀ (i : Nat) (f : Field) (ys : List AV), fs[i]? = some f → xss[i]? = some ys → Of P f.type ys) ∧ xs = xss.flatten := by
  cases ho with
  | struct h' xss hl hx => rw [h] at h'; cases h'; exact ⟨xss, hl, hx, rfl⟩
  | bool h' => rw [h] at h'; cases h'
  | int h' => rw [h] at h'; cases h'
  | str h' => rw [h] at h'; cases h'
  | nil h' => rw [h] at h'; cases h'
  | slice h' => rw [h] at h'; cases h'
theorem of_string (h : P.underlying t = some .string) (ho : Of P t xs) : ∃ s : List UInt8, xs = [.str s] ∧ s.length ≤ maxLen := by
  cases ho with
  | str h' s hl => exact ⟨s, rfl, hl⟩
  | bool h' => rw [h] at h'; cases h'
  | int h' => rw [h] at h'; cases h'
  | nil h' => rw [h] at h'; cases h'
  | slice h' => rw [h] at h'; cases h'
  | struct h' => rw [h] at h'; cases h'
theorem of_int {k : IntKind} (h : P.underlying t = some (.int k)) (ho : Of P t xs) : ∃ n : Int, xs = [.int k n] ∧ (Lit.int k n).wf = true := by
  cases ho with
  | int h' n hw => rw [h] at h'; cases h'; exact ⟨n, rfl, hw⟩
  | bool h' => rw [h] at h'; cases h'
  | str h' => rw [h] at h'; cases h'
  | nil h' => rw [h] at h'; cases h'
  | slice h' => rw [h] at h'; cases h'
  | struct h' => rw [h] at h'; cases h'
end
theorem one_le_sz (x : AV) : 1 ≤ AV.sz x := by cases x <;> simp [AV.sz]
theorem length_le_szL : ∀ xs : List AV, xs.length ≤ AV.szL xs
  | [] => by simp
  | x :: xs => by have := one_le_sz x; have := length_le_szL xs; simp only [AV.szL, List.length_cons]; omega
theorem sz_mem : ∀ {xs : List AV} {x : AV}, x ∈ xs → AV.sz x ≤ AV.szL xs
  | y :: ys, x, h => by
    rcases List.mem_cons.1 h with rfl | h
    · simp only [AV.szL]; omega
    · have := sz_mem h; simp only [AV.szL]; omega
mutual
theorem Rt.sz : ∀ {t : Tm} {x : AV}, Rt t x → nT t ≤ AV.sz x ∧ ∀ u ∈ preT t, u.text.length ≤ AV.sz x
  | .mk k s kids, x, h => by
    simp only [Rt] at h
    obtain ⟨o, ys, rfl, _, h2⟩ := h
    obtain ⟨g1, g2⟩ := Rts.sz h2
    simp only [AV.sz, AV.szL, nT, preT]
    refine ⟨by omega, fun u hu => ?_⟩
    rcases List.mem_cons.1 hu with rfl | hu
    · simp only [Tm.text]; omega
    · have := g2 u hu; omega
theorem Rts.sz : ∀ {ts : List Tm} {ys : List AV}, Rts ts ys → nTs ts ≤ AV.szL ys ∧ ∀ u ∈ preS ts, u.text.length ≤ AV.szL ys
  | [], ys, h => by simp only [Rts] at h; subst h; simp [nTs, preS, AV.szL]
  | t :: ts, ys, h => by
    simp only [Rts] at h
    obtain ⟨y, r, rfl, h1, h2⟩ := h
    obtain ⟨g1, g2⟩ := Rt.sz h1
    obtain ⟨k1, k2⟩ := Rts.sz h2
    simp only [AV.szL, nTs, preS]
    refine ⟨by omega, fun u hu => ?_⟩
    rcases List.mem_append.1 hu with hu | hu
    · have := g2 u hu; omega
    · have := k2 u hu; omega
end
theorem Sl.sz {ts : List Tm} {v : AV} (h : Sl ts v) : nTs ts < AV.sz v ∧ ∀ u ∈ preS ts, u.text.length ≤ AV.sz v := by
  obtain ⟨o, ys, rfl, _, h3⟩ := h
  obtain ⟨g1, g2⟩ := h3.sz
  simp only [AV.sz]
  exact ⟨by omega, fun u hu => by have := g2 u hu; omega⟩
end Ab

/- Lists of values beside lists of abstract values. No condition. -/
namespace Ab
open Go
set_option linter.all false
def All2 {α : Type} (R : α → AV → Prop) : List α → List AV → Prop
  | [], ys => ys = []
  | a :: al, ys => ∃ y r, ys = y :: r ∧ R a y ∧ All2 R al r
section
variable {α : Type} {R : α → AV → Prop}
theorem All2.length : ∀ {al : List α} {ys : List AV}, All2 R al ys → ys.length = al.length
  | [], _, h => by simp only [All2] at h; simp [h]
  | a :: al, _, h => by
    simp only [All2] at h
    obtain ⟨y, r, rfl, _, h2⟩ := h
    simp [h2.length]
theorem All2.get : ∀ {al : List α} {ys : List AV} {i : Nat} {a : α}, All2 R al ys → al[i]? = some a → ∃ y, ys[i]? = some y ∧ R a y
  | [], _, _, _, _, h => by simp at h
  | b :: al, _, i, a, h, hi => by
    simp only [All2] at h
    obtain ⟨y, r, rfl, h1, h2⟩ := h
    cases i with
    | zero => simp at hi; subst hi; exact ⟨y, rfl, h1⟩
    | succ i => simp at hi; simpa using h2.get hi
theorem All2.mem : ∀ {al : List α} {ys : List AV} {y : AV}, All2 R al ys → y ∈ ys → ∃ a, a ∈ al ∧ R a y
  | [], _, _, h, hy => by simp only [All2] at h; subst h; cases hy
  | b :: al, _, y, h, hy => by
    simp only [All2] at h
    obtain ⟨z, r, rfl, h1, h2⟩ := h
    rcases List.mem_cons.1 hy with rfl | hy
    · exact ⟨b, List.mem_cons_self .., h1⟩
    · obtain ⟨a, ha, hr⟩ := h2.mem hy; exact ⟨a, List.mem_cons_of_mem _ ha, hr⟩
end
theorem all_mk {E : IEnv} {α : Type} {f : AV} {R : α → AV → Prop} {P : α → AV → Prop} {g : AV → List AV} : ∀ {al : List α} {xs : List AV}, All2 R al xs → (∀ a x, a ∈ al → R a x → ∃ r, Fn E f (g x) r ∧ P a r) →
    ∃ rs K, All2 P al rs ∧ ∀ k, K ≤ k → ∀ (i : Nat) x a, xs[i]? = some x → al[i]? = some a → ∃ r, rs[i]? = some r ∧ P a r ∧ ∀ s, callA E k none f (g x) s = some (.ret r, false, s)
  | [], xs, h, _ => ⟨[], 0, by simp [All2], fun _ _ i x a _ ha => by simp at ha⟩
  | a :: al, xs, h, hf => by
    simp only [All2] at h
    obtain ⟨y, r, rfl, h1, h2⟩ := h
    obtain ⟨v, ⟨K1, g1⟩, pv⟩ := hf a y (List.mem_cons_self ..) h1
    obtain ⟨rs, K2, g2, g3⟩ := all_mk h2 fun b x hb => hf b x (List.mem_cons_of_mem _ hb)
    refine ⟨v :: rs, K1 + K2, by simp only [All2]; exact ⟨_, _, rfl, pv, g2⟩, fun k hk i x c hx hc => ?_⟩
    cases i with
    | zero => simp at hx hc; subst hx; subst hc; exact ⟨v, rfl, pv, g1 k (by omega)⟩
    | succ i => simp at hx hc; simpa using g3 k (by omega) i x c hx hc
theorem all_ev {E : IEnv} {α : Type} {f : AV} {R : α → AV → Prop} {g : AV → List AV} {c : α → AV} {al : List α} {xs : List AV} (h : All2 R al xs) (hf : ∀ a x, a ∈ al → R a x → Fn E f (g x) (c a)) :
    ∃ K, ∀ k, K ≤ k → ∀ (i : Nat) x a, xs[i]? = some x → al[i]? = some a → ∀ s, callA E k none f (g x) s = some (.ret (c a), false, s) := by
  obtain ⟨rs, K, _, h2⟩ := all_mk (P := fun a r => r = c a) h fun a x ha hx => ⟨c a, hf a x ha hx, rfl⟩
  refine ⟨K, fun k hk i x a hx ha s => ?_⟩
  obtain ⟨r, _, rfl, h3⟩ := h2 k hk i x a hx ha
  exact h3 s
theorem all2_mk {α : Type} {R : α → AV → Prop} {β : Type} {g : β → AV} : ∀ {l : List β}, (∀ y ∈ l, ∃ a, R a (g y)) → ∃ al, All2 R al (l.map g)
  | [], _ => ⟨[], by simp [All2]⟩
  | y :: l, h => by
    obtain ⟨a, ha⟩ := h y (List.mem_cons_self ..)
    obtain ⟨al, hal⟩ := all2_mk fun z hz => h z (List.mem_cons_of_mem _ hz)
    exact ⟨a :: al, by simp only [List.map_cons, All2]; exact ⟨_, _, rfl, ha, hal⟩⟩
theorem all2_sz {α : Type} {R : α → AV → Prop} {Q : α → Nat → Prop} (h : ∀ a y, R a y → Q a (AV.sz y)) (hm : ∀ a m n, Q a m → m ≤ n → Q a n) : ∀ {al : List α} {ys : List AV}, All2 R al ys → ∀ a ∈ al, Q a (AV.szL ys)
  | [], _, _, a, ha => by cases ha
  | b :: al, _, hh, a, ha => by
    simp only [All2] at hh
    obtain ⟨y, r, rfl, h1, h2⟩ := hh
    simp only [AV.szL]
    rcases List.mem_cons.1 ha with rfl | ha
    · exact hm _ _ _ (h _ _ h1) (by omega)
    · exact hm _ _ _ (all2_sz h hm h2 a ha) (by omega)

def fieldsAre (P : Program) (t : TypeId) (l : List TypeId) : Bool := match P.underlying t with
  | some (.struct fs) => fs.toList.map (·.type) == l
  | _ => false
theorem look_of {P : Program} {t : TypeId} {l : List TypeId} (h : fieldsAre P t l = true) : ∃ fs, P.underlying t = some (.struct fs) ∧ fs.toList.map (·.type) = l := by
  unfold fieldsAre at h
  split at h
  · rename_i fs hfs
    exact ⟨fs, hfs, by simpa using h⟩
  · cases h
end Ab

/- What 'Small' and 'SmallStore' answer. No condition but the table. -/
namespace Ab.U
open Go Ab Go.RowKit
set_option maxRecDepth 10000
set_option linter.unusedSimpArgs false
set_option linter.unusedVariables false

abbrev Bur := List Tm × List Tm
def Bu (p : Bur) (x : AV) : Prop := ∃ a b, x = .agg [a, b] ∧ Sl p.1 a ∧ Sl p.2 b
def IsS (s : List UInt8) (y : AV) : Prop := y = .str s
/- a store -/
def Sto (ps : List Bur) (os : List (List UInt8)) (v : AV) : Prop := ∃ ob xs oo ys, v = .agg [.sl ob 2 xs, .sl oo 1 ys] ∧ All2 Bu ps xs ∧ All2 IsS os ys ∧ (ob = .nil → xs = []) ∧ (oo = .nil → ys = [])
def szS (ps : List Bur) (os : List (List UInt8)) : Prop := ps.length ≤ most ∧ os.length ≤ most ∧ ∀ p ∈ ps, nTs p.1 ≤ most ∧ nTs p.2 ≤ most

def badB (p : Bur) : Bool := decide (30 < ndL 30 0 p.1) || decide (30 < ndL 30 0 p.2) || !shortL p.1 || !shortL p.2
def smallS (ps : List Bur) (os : List (List UInt8)) : Bool := decide (ps.length ≤ 210) && decide (os.length ≤ 210) && !(os.any fun s => decide (600 < s.length)) && !(ps.any badB)
theorem any_short : ∀ ts : List Tm, (ts.map fun t => !shortE t).any id = !shortL ts
  | [] => rfl
  | t :: ts => by simp only [List.map_cons, List.any_cons, any_short ts, id, shortL, Bool.not_and]
section
variable {E : IEnv} (hE : E.fns = Table.fn table)
include hE
theorem fn_short : ∀ (n : Nat) {ts : List Tm} {v : AV}, nTs ts < n → nTs ts ≤ most → Sl ts v → Fn E (.fn n_chiasmuslaw10_shortTexts [] []) [v] (.bool (shortL ts))
  | 0, _, _, h, _, _ => by omega
  | n + 1, ts, v, hn, hm, hv => by
    obtain ⟨o1, xs, rfl, ⟨hm1, _⟩, h1⟩ := hv
    have hl1 := h1.length
    have hlt := length_le_nTs ts
    have hmm : most = 1073741824 := rfl
    obtain ⟨K, hK⟩ := kid_all (E := E) (f := .fn n_chiasmuslaw10_shortTexts [] []) (more := []) (c := fun t => .bool (shortL t.kids)) h1 fun t v ht hv => fn_short n (by have := nT_mem ht; rw [nT_eq] at this; omega) (by have := nT_mem ht; rw [nT_eq] at this; omega) hv
    have hc := fn_Contains_api_Term_api_Term hE (o := o1) (xs := xs) (rs := ts.map fun t => !shortE t) (f := .fn n_chiasmuslaw10_shortTexts_1 [] []) (by simp [hl1]) (by omega)
      (fun x hx => by
        obtain ⟨i, hi⟩ := List.mem_iff_getElem?.1 hx
        obtain ⟨t, ht⟩ : ∃ t, ts[i]? = some t := ⟨_, List.getElem?_eq_getElem (by have := (List.getElem?_eq_some_iff.1 hi).1; omega)⟩
        obtain ⟨y, hy, hr⟩ := h1.get ht
        rw [hi] at hy; cases hy
        obtain ⟨v, rfl, _⟩ := hr.open
        exact ⟨_, _, _, rfl⟩) (K := K + 2) (by
        intro k hk i x b hx hb
        obtain ⟨t, ht⟩ : ∃ t, ts[i]? = some t := ⟨_, List.getElem?_eq_getElem (by have := (List.getElem?_eq_some_iff.1 hx).1; omega)⟩
        rw [List.getElem?_map, ht] at hb
        simp only [Option.map_some, Option.some.injEq] at hb
        subst hb
        refine (FnK.byW (K := K + 1) (h_chiasmuslaw10_shortTexts_1 hE) rfl rfl fun k hk bl tk => ?_) k hk
        obtain ⟨v, hv1, hv2, hv3⟩ := hK k (by omega) i t ht
        rw [hx] at hv1
        cases hv1
        rw [shortE_eq]
        by_cases hq : t.text.length ≤ 600
        · have hq' : ¬ (600 : Int) < (t.text.length : Int) := by omega
          simp [F_chiasmuslaw10_shortTexts_1, b_chiasmuslaw10_shortTexts_1, append_get, append_get0, hq, hq', hv3]
        · have hq' : (600 : Int) < (t.text.length : Int) := by omega
          simp [F_chiasmuslaw10_shortTexts_1, b_chiasmuslaw10_shortTexts_1, append_get, append_get0, hq, hq'])
    refine Fn.byW (h_chiasmuslaw10_shortTexts hE) rfl rfl ⟨K + xs.length + 10, fun k hk bl tk => ?_⟩
    have h2 := hc k (by omega)
    rw [any_short] at h2
    simp [F_chiasmuslaw10_shortTexts, b_chiasmuslaw10_shortTexts, h2]

theorem fn_Small {ts : List Tm} {v : AV} (hm : nTs ts ≤ most) (hv : Sl ts v) : Fn E (.fn n_chiasmuslaw10_Small [] []) [v] (.bool (decide (ndL 300 0 ts ≤ 300) && shortL ts)) := by
  have h1 := fn_nodes hE (nTs ts + 1) 300 (by omega) hm (by omega) (by omega) hv
  obtain ⟨K, h2⟩ := fn_short hE (nTs ts + 1) (by omega) hm hv
  refine Fn.byW (h_chiasmuslaw10_Small hE) rfl rfl ⟨K + 2 * nTs ts + 10, fun k hk bl tk => ?_⟩
  have h1 := h1 k (by omega)
  have h2 := h2 k (by omega)
  by_cases hq : ndL 300 0 ts ≤ 300
  · simp [F_chiasmuslaw10_Small, b_chiasmuslaw10_Small, h1, h2, hq]
  · simp [F_chiasmuslaw10_Small, b_chiasmuslaw10_Small, h1, h2, hq]
end
end Ab.U

/- BuiltinBack answers true. Its conditions: the table, what 'Hand2' says. -/
namespace Ab.U
open Go Ab Go.RowKit
set_option maxRecDepth 10000
set_option linter.all false
mutual
theorem ndL_exact (m n : Int) : ∀ ts : List Tm, ndL m n ts ≤ m → ndL m n ts = n + nTs ts
  | [], _ => by simp only [ndL, nTs]; omega
  | t :: ts, h => by
    simp only [ndL] at h ⊢
    split at h
    · omega
    · rename_i hm
      rw [if_neg hm]
      have h1 := ndL_exact m (n + (1 + ndK (m - n) t)) ts h
      have h2 := (ndL_bound m (n + (1 + ndK (m - n) t)) ts).1
      have h3 := ndK_exact (m - n) t (by omega)
      simp only [nTs]; omega
theorem ndK_exact (m : Int) : ∀ t : Tm, ndK m t ≤ m → 1 + ndK m t = nT t
  | .mk _ _ kids, h => by
    simp only [ndK] at h ⊢
    have := ndL_exact m 0 kids h
    simp only [nT]; omega
end
section
variable {E : IEnv} (hE : E.fns = Table.fn table)
include hE
theorem law_run (H : Hand2 E) {ts : List Tm} {v : AV} (hv : Sl ts v) (hm : nTs ts ≤ 1048576) (hW : ∀ t ∈ preS ts, t.text.length ≤ 1048576) {n : Nat} (hn : n < 256) :
    ∃ k, callA E k none (.fn n_chiasmuslaw10_BuiltinBack [] []) [v, .int .u8 n] st0 = some (.ret (.bool true), false, st0) := by
  have hmm : most = 1073741824 := rfl
  have hmx : maxLen = 9223372036854775807 := rfl
  have h1 := fn_Size hE hv (by omega)
  have h2 := fn_Small hE (by omega) hv
  have h3 := fn_Value hE hv (by omega) (M := 1048576) (by omega) hW
  have h0 : Fn E (.fn n_chiasmuslaw10_awake [] []) [] (.bool true) := ⟨_, H.awake⟩
  by_cases hg : (decide (ndL 300 0 ts ≤ 300) && shortL ts) = true ∧ checkT 4 ts = 0 ∧ (dpS ts : Int) ≠ 100
  · obtain ⟨g1, g2, g3⟩ := hg
    obtain ⟨c1, c2, c3⟩ := checkT_zero g2
    rw [g1] at h2
    rw [g2] at h3
    simp only [Bool.and_eq_true, decide_eq_true_eq] at g1
    have hn3 : nTs ts ≤ 300 := by have := ndL_exact 300 0 ts g1.1; omega
    have L : Lim ts v := ⟨hv, hn3, shortL_pre ts g1.2, g2, by omega⟩
    obtain ⟨o, ys, rfl, _, hR⟩ := id hv
    have hlt := length_le_nTs ts
    obtain ⟨P1, p1⟩ := pair_symb hE H L
    obtain ⟨P2, p2⟩ := pair_explode hE H L
    obtain ⟨P3, p3⟩ := pair_up hE H L
    obtain ⟨K1, tka, oa, oc, wc, rs, r1⟩ := round_of hE H L hn (name := firstN) (nf := n___builtin_call__first) (m := min n ts.length) (by simp [names, firstN]) rfl (by omega) (by rw [if_pos rfl]) (fun {_} ho {_} hx0 {_} hy hl => by
      exact ans_first hE hn ho hx0 hy hl) []
    obtain ⟨K2, tkb, ob, od, wd, rt, r2⟩ := round_of hE H L hn (name := lastN) (nf := n___builtin_call__last) (m := ts.length - min n ts.length) (by simp [names, lastN]) rfl (by omega) (by rw [if_neg (by decide)]; omega) (fun {_} ho {_} hx0 {_} hy hl => by
      exact ans_last hE hn ho hx0 hy hl) tka
    have mono : ∀ {K K' : Nat} {p q : List UInt8}, K ≤ K' → PairK K E p q (.sl o 3 ys) → PairK K' E p q (.sl o 3 ys) := by
      intro K K' p q hk h
      rcases h with ⟨c, hc, h⟩ | ⟨o, y, o1, y1, a, b, c⟩
      · exact .inl ⟨c, hc, h.mono hk⟩
      · exact .inr ⟨o, y, o1, y1, a.mono hk, b.mono hk, c.mono hk⟩
    refine law_goes hE hn hR.length (by omega) hR h0 h1 h2 h3 g3 (K := P1 + P2 + P3 + K1 + K2) ?_ ⟨r1.ap.mono (by omega), r1.hn, r1.r1, r1.r2, r1.cnt, r1.eq.mono (by omega), r1.tk⟩ ⟨r2.ap.mono (by omega), r2.hn, r2.r1, r2.r2, r2.cnt, r2.eq.mono (by omega), r2.tk⟩
    intro p hp
    simp only [prs, List.mem_cons, List.not_mem_nil, or_false] at hp
    rcases hp with rfl | rfl | rfl
    · exact mono (by omega) p1
    · exact mono (by omega) p2
    · exact mono (by omega) p3
  · obtain ⟨K, h⟩ := law_held hE (n := n) h0 h1 h2 (fun _ => h3) hg
    exact ⟨K, h K (Nat.le_refl _) st0⟩
end
end Ab.U

/- The functions that are proved by hand, as the abstract machine's table; the law's closed facts by the kernel. No condition. -/
namespace Ab.U
open Go Ab Go.RowKit
set_option linter.all false
def chr1 : AV → Option UInt8
  | .agg [.int .i64 k, .str [c], .sl _ 3 []] => if k = 1 then some c else none
  | _ => none
def chrs : List AV → Option (List UInt8)
  | [] => some []
  | y :: r => match chr1 y, chrs r with
    | some c, some x => some (c :: x)
    | _, _ => none
def strP : List AV → St → Option (AV × St)
  | [.sl o 3 ys], s => match chrs ys with
    | some x => if x ≠ [] ∧ x.length ≤ 1000 then some (.tup [.str x, .bool true], s) else none
    | none => none
  | _, _ => none
def insP : List AV → St → Option (AV × St)
  | [.sl .nil 2 [], .int .i64 k, .sl .full 2 [.agg [a, b]]], s => if k = 0 then some (.msl s.bl.length 0 2 1, s.push (.cells [a, b])) else none
  | _, _ => none
def primsU (f : Nat) (args : List AV) (s : St) : Option (AV × St) :=
  if f = n_slices_Insert___api_Buried_api_Buried_ then insP args s else if f = n_term_String then strP args s else none
def EP : IEnv := { fns := Table.fn table, glob := fun _ => .junk, prim := fun _ _ => none, eff := fun f => f == n_slices_Insert___api_Buried_api_Buried_ || f == n_term_String, prims := primsU }
set_option maxRecDepth 100000 in
theorem no_str : EP.fns n_term_String = none := rfl
theorem chrs_of : ∀ {x : List UInt8} {ys : List AV}, Rts (charsT x) ys → chrs ys = some x
  | [], ys, h => by simp only [charsT, List.map_nil, Rts] at h; subst h; rfl
  | c :: x, ys, h => by
    simp only [charsT, List.map_cons, Rts] at h
    obtain ⟨y, r, rfl, hy, hr⟩ := h
    obtain ⟨v, rfl, o, z, rfl, _, hz⟩ := hy.open
    simp only [Tm.kids, Rts] at hz
    subst hz
    have := chrs_of (x := x) hr
    simp only [chrs, this, chr1, Tm.kind, Tm.text, if_true]
set_option maxRecDepth 100000
theorem awake0 (j : Nat) (bl : List AB) (tk : List Nat) (ro rt : Nat) : callA EP (j + 200) none (.fn n_chiasmuslaw10_awake [] []) [] { bl, tk, ro, rt } = some (.ret (.bool true), false, { bl, tk, ro, rt }) := by kernel_rfl
theorem set0 (j : Nat) (bl : List AB) (tk : List Nat) (ro rt : Nat) : callA EP (j + 100) none (.fn n_strings_makeASCIISet [] []) [.str digS] { bl, tk, ro, rt } = some (.ret (.tup [.agg digC, .bool true]), false, { bl, tk, ro, rt }) := by kernel_rfl
theorem check0 (j : Nat) (bl : List AB) (tk : List Nat) (ro rt : Nat) : callA EP (j + 100) none (.fn n_builtin_Check [] []) [nilS] { bl, tk, ro, rt } = some (.ret (.int .i64 0), false, { bl, tk, ro, rt }) := by kernel_rfl
theorem keep1 (j : Nat) (bl : List AB) (tk : List Nat) (ro rt : Nat) : callA EP (j + 100) none (.fn n_builtin_Keeps [] []) [.str [83, 121, 109, 98]] { bl, tk, ro, rt } = some (.ret (.bool false), false, { bl, tk, ro, rt }) := by kernel_rfl
theorem keep2 (j : Nat) (bl : List AB) (tk : List Nat) (ro rt : Nat) : callA EP (j + 100) none (.fn n_builtin_Keeps [] []) [.str [78, 117, 109, 98]] { bl, tk, ro, rt } = some (.ret (.bool false), false, { bl, tk, ro, rt }) := by kernel_rfl
theorem keep3 (j : Nat) (bl : List AB) (tk : List Nat) (ro rt : Nat) : callA EP (j + 100) none (.fn n_builtin_Keeps [] []) [.str [69, 120, 112, 108, 111, 100, 101]] { bl, tk, ro, rt } = some (.ret (.bool false), false, { bl, tk, ro, rt }) := by kernel_rfl
theorem keep4 (j : Nat) (bl : List AB) (tk : List Nat) (ro rt : Nat) : callA EP (j + 100) none (.fn n_builtin_Keeps [] []) [.str [73, 109, 112, 108, 111, 100, 101]] { bl, tk, ro, rt } = some (.ret (.bool false), false, { bl, tk, ro, rt }) := by kernel_rfl
theorem keep5 (j : Nat) (bl : List AB) (tk : List Nat) (ro rt : Nat) : callA EP (j + 100) none (.fn n_builtin_Keeps [] []) [.str [85, 112]] { bl, tk, ro, rt } = some (.ret (.bool false), false, { bl, tk, ro, rt }) := by kernel_rfl
theorem keep6 (j : Nat) (bl : List AB) (tk : List Nat) (ro rt : Nat) : callA EP (j + 100) none (.fn n_builtin_Keeps [] []) [.str [68, 110]] { bl, tk, ro, rt } = some (.ret (.bool false), false, { bl, tk, ro, rt }) := by kernel_rfl
theorem keep7 (j : Nat) (bl : List AB) (tk : List Nat) (ro rt : Nat) : callA EP (j + 100) none (.fn n_builtin_Keeps [] []) [.str [70, 105, 114, 115, 116]] { bl, tk, ro, rt } = some (.ret (.bool false), false, { bl, tk, ro, rt }) := by kernel_rfl
theorem keep8 (j : Nat) (bl : List AB) (tk : List Nat) (ro rt : Nat) : callA EP (j + 100) none (.fn n_builtin_Keeps [] []) [.str [76, 97, 115, 116]] { bl, tk, ro, rt } = some (.ret (.bool false), false, { bl, tk, ro, rt }) := by kernel_rfl
theorem fnK_of {E : IEnv} {f : Nat} {args : List AV} {v : AV} {N : Nat} (h : ∀ j bl tk ro rt, callA E (j + N) none (.fn f [] []) args { bl, tk, ro, rt } = some (.ret v, false, { bl, tk, ro, rt })) : FnK N E (.fn f [] []) args v := fun k hk s => by
  obtain ⟨j, rfl⟩ : ∃ j, k = j + N := ⟨k - N, by omega⟩
  obtain ⟨bl, tk, ro, rt⟩ := s
  exact h j bl tk ro rt
theorem handP : Hand2 EP where
  str := by
    intro x v hv hl h0 k hk s
    obtain ⟨o, ys, rfl, _, hR⟩ := hv
    obtain ⟨k, rfl⟩ : ∃ j, k = j + 1 := ⟨k - 1, by omega⟩
    simp only [callA, no_str, List.nil_append, List.append_nil]
    have he : EP.eff n_term_String = true := rfl
    have hp : EP.prims n_term_String [.sl o 3 ys] s = some (.tup [.str x, .bool true], s) := by
      show strP [.sl o 3 ys] s = _
      simp only [strP, chrs_of hR]
      rw [if_pos ⟨h0, hl⟩]
    simp only [he, hp, if_true, Option.isSome_none, Bool.false_eq_true, if_false]
  set := fnK_of set0
  check := fnK_of check0
  awake := fnK_of awake0
  keep := by
    intro n hn
    simp only [names, List.mem_cons, List.not_mem_nil, or_false] at hn
    rcases hn with rfl | rfl | rfl | rfl | rfl | rfl | rfl | rfl
    · exact fnK_of keep1
    · exact fnK_of keep2
    · exact fnK_of keep3
    · exact fnK_of keep4
    · exact fnK_of keep5
    · exact fnK_of keep6
    · exact fnK_of keep7
    · exact fnK_of keep8
end Ab.U

/- The functions that are proved by hand are sound. No condition. -/
namespace Ab.U
open Go Ab Go.RowKit Go.Proofs
set_option linter.all false
set_option maxRecDepth 100000
theorem chr1_some {L : Lk} {g : Gh} {w : World} {y : AV} {v : Value} {c : UInt8} (h : chr1 y = some c) (hr : Rep L g w y v) : ∃ k : Option Addr × Nat, v.cells.toList = chC c k ∧ (k.1 = none → k.2 = 0) := by
  unfold chr1 at h
  split at h
  · split at h
    · rename_i hk
      cases h
      subst hk
      simp only [Rep, RepL] at hr
      obtain ⟨us, rfl, ⟨_, _, rfl, rfl, _, _, rfl, rfl, _, _, rfl, ⟨a, cap, vs, rfl, _, _, _, _, h5, _⟩, rfl⟩, _⟩ := hr
      refine ⟨(a, cap), rfl, fun e => ?_⟩
      subst e
      exact h5.2
    · cases h
  · cases h
theorem chrs_some {L : Lk} {g : Gh} {w : World} : ∀ {ys : List AV} {vs : List Value} {x : List UInt8}, chrs ys = some x → RepL L g w ys vs → x.length = ys.length ∧ ∃ ks : List (Option Addr × Nat), ks.length = x.length ∧ (∀ k ∈ ks, k.1 = none → k.2 = 0) ∧ flat vs = (x.zip ks).flatMap fun p => chC p.1 p.2
  | [], vs, x, h, hr => by
    simp only [chrs, Option.some.injEq] at h
    subst h
    simp only [RepL] at hr
    subst hr
    exact ⟨rfl, [], rfl, (fun k h => by cases h), rfl⟩
  | y :: r, vs, x, h, hr => by
    simp only [chrs] at h
    cases h1 : chr1 y with
    | none => rw [h1] at h; cases h
    | some c =>
      cases h2 : chrs r with
      | none => rw [h1, h2] at h; cases h
      | some x' =>
        rw [h1, h2] at h
        cases h
        simp only [RepL] at hr
        obtain ⟨v, vr, rfl, hv, hvr⟩ := hr
        obtain ⟨k, k1, k2⟩ := chr1_some h1 hv
        obtain ⟨l1, ks, l2, l3, l4⟩ := chrs_some h2 hvr
        refine ⟨by simp [l1], k :: ks, by simp [l2], ?_, ?_⟩
        · intro q hq
          rcases List.mem_cons.1 hq with rfl | hq
          · exact k2
          · exact l3 q hq
        · have : flat (v :: vr) = v.cells.toList ++ flat vr := by simp [flat]
          rw [this, k1, l4]; rfl
theorem chC_at : ∀ {x : List UInt8} {ks : List (Option Addr × Nat)} {i : Nat} {c : UInt8} {k : Option Addr × Nat}, x[i]? = some c → ks[i]? = some k → ∀ j u, (chC c k)[j]? = some u → ((x.zip ks).flatMap fun p => chC p.1 p.2)[i * 3 + j]? = some u
  | [], _, _, _, _, h, _, _, _, _ => by simp at h
  | _ :: _, [], _, _, _, _, h, _, _, _ => by simp at h
  | c :: x, k :: ks, 0, _, _, h1, h2, j, u, hu => by
    simp only [List.getElem?_cons_zero, Option.some.injEq] at h1 h2
    subst h1 h2
    simp only [List.zip_cons_cons, List.flatMap_cons, Nat.zero_mul, Nat.zero_add]
    rw [List.getElem?_append_left (List.getElem?_eq_some_iff.1 hu).1]
    exact hu
  | c :: x, k :: ks, i + 1, c', k', h1, h2, j, u, hu => by
    simp only [List.getElem?_cons_succ] at h1 h2
    have := chC_at h1 h2 j u hu
    simp only [List.zip_cons_cons, List.flatMap_cons]
    rw [List.getElem?_append_right (by simp [chC]; omega)]
    rw [show (i + 1) * 3 + j - (chC c k).length = i * 3 + j by simp [chC]; omega]
    exact this
theorem str_sound (w0 : World) {g : Gh} {s : St} {w : World} {o : Own} {ys : List AV} {x : List UInt8} {cargs : List Value} (hs : StR (varLink w0).toLk (CkR Tryz.prog (varLink w0)) g s w) (ha : RepL (varLink w0).toLk g w [.sl o 3 ys] cargs) (hx : chrs ys = some x) (h0 : x ≠ []) (hl : x.length ≤ 1000) :
    Calls Tryz.prog 120 cargs.toArray w fun e w' => e = .returned (.tuple #[.string ⟨x.toArray⟩, .bool true]) ∧ Below w.heap.size w w' := by
  simp only [RepL] at ha
  obtain ⟨v, q, rfl, hv, rfl⟩ := ha
  simp only [Rep] at hv
  obtain ⟨A, cap, vs, rfl, hcap, _, hvs, _, hL, _⟩ := hv
  obtain ⟨l1, ks, l2, l3, l4⟩ := chrs_some hx hvs
  have hne : ys ≠ [] := fun e => h0 (List.eq_nil_of_length_eq_zero (by rw [l1, e]; rfl))
  cases A with
  | none => exact absurd hL.1 hne
  | some p =>
    obtain ⟨pb, po, ps⟩ := p
    obtain ⟨hsp, hL⟩ := hL
    obtain rfl : ps = none := hsp hne
    rw [l4] at hL
    have hcell : ∀ i c k, x[i]? = some c → ks[i]? = some k → ∀ j u, (chC c k)[j]? = some u → w.cell? ⟨pb, po + (i * 3 + j), none⟩ = some u := fun i c k h1 h2 j u hu => (hL _ u (chC_at h1 h2 j u hu)).2
    have hpb : pb < w.heap.size := by
      have hxl : 0 < x.length := List.length_pos_iff.2 h0
      have := hcell 0 x[0] (ks[0]'(by omega)) (List.getElem?_eq_getElem _) (List.getElem?_eq_getElem _) 0 _ rfl
      exact World.block_lt_of_cell? w _ this
    rw [← l1]
    exact str_walk pb po cap x ks w h0 hl (by omega) l2 hcell hpb fun c k hk W => right_calls c k (l3 k hk) W
theorem var_arg {L : Lk} {g : Gh} {w : World} {a b : AV} {v : Value} (h : Rep L g w (.sl .full 2 [.agg [a, b]]) v) : ∃ vb voff x y, v = .slice (some ⟨vb, voff, none⟩) 1 1 ∧ Rep L g w a x ∧ Rep L g w b y ∧ oneCell x ∧ oneCell y ∧ g.imm vb voff ∧
    (∀ j u, [x, y][j]? = some u → w.cell? ⟨vb, voff + j, none⟩ = some u) := by
  simp only [Rep, RepL] at h
  obtain ⟨A, cap, vs, rfl, _, _, ⟨u, r, rfl, ⟨us, rfl, ⟨x, r1, rfl, hx, y, r2, rfl, hy, rfl⟩, h1⟩, rfl⟩, _, hl, ho⟩ := h
  simp only [OwnOk] at ho
  obtain ⟨hA, rfl⟩ := ho
  cases A with
  | none => cases hA
  | some p =>
    obtain ⟨pb, po, ps⟩ := p
    obtain ⟨hsp, hl⟩ := hl
    obtain rfl : ps = none := hsp (by simp)
    have hf : flat [Value.agg [x, y].toArray] = [x, y] := by simp [flat, Value.cells]
    rw [hf] at hl
    refine ⟨pb, po, x, y, rfl, hx, hy, h1 x (by simp), h1 y (by simp), (hl 0 x rfl).1, fun j u hj => (hl j u hj).2⟩
theorem oneCells {vs : List Value} (h : ∀ u ∈ vs, oneCell u) : ∀ u ∈ vs, u.oneCell' = true := fun u hu => oneCell'_of (h u hu)
set_option maxHeartbeats 1000000 in
theorem ins_sound {w0 : World} {args : List AV} {s s' : St} {v : AV} (hp : insP args s = some (v, s')) {g : Gh} {w : World} {cargs : List Value} (hs : StR (varLink w0).toLk (CkR Tryz.prog (varLink w0)) g s w) (ha : RepL (varLink w0).toLk g w args cargs) :
    Calls Tryz.prog 138 cargs.toArray w fun e w' => ∃ cv g', e = .returned cv ∧ StR (varLink w0).toLk (CkR Tryz.prog (varLink w0)) g' s' w' ∧ Ext g s w g' s' w' ∧ Rep (varLink w0).toLk g' w' v cv := by
  unfold insP at hp
  split at hp
  · rename_i k a b
    split at hp
    · rename_i hk
      subst hk
      cases hp
      simp only [RepL] at ha
      obtain ⟨cv, _, rfl, hv, ci, _, rfl, hi, cx, _, rfl, hx, rfl⟩ := ha
      simp only [Rep] at hi
      subst hi
      obtain ⟨vb, voff, x1, y1, rfl, hx1, hy1, o1, o2, himm, hc⟩ := var_arg hx
      have h1v : ∀ u ∈ [x1, y1], u.oneCell' = true := oneCells fun u hu => by
        simp only [List.mem_cons, List.mem_nil_iff, or_false] at hu
        rcases hu with rfl | rfl <;> assumption
      simp only [Rep] at hv
      obtain ⟨A, cap, vs, rfl, _, _, _, _, _, ho⟩ := hv
      simp only [OwnOk] at ho
      obtain ⟨rfl, _, rfl⟩ := ho
      refine Calls.mono (ins_nil none vb voff 1 [x1, y1] w rfl hc h1v) ?_
      rintro e w' ⟨rfl, rfl⟩
      obtain ⟨G, hG⟩ : ∃ G, G = grownCap w 1 0 78 := ⟨_, rfl⟩
      have hG1 : 1 ≤ G := by rw [hG]; exact grownCap_ge w _ _ _
      rw [← hG]
      have hw' : (w.drew.alloc (.cells ([x1, y1].toArray ++ Builtin.zeroCells Z2.cells (G - 1)) 78)).heap = w.heap.push (.cells ([x1, y1].toArray ++ Builtin.zeroCells Z2.cells (G - 1)) 78) := rfl
      have hq := hs.push (ab := .cells [a, b]) hw' ⟨rfl, rfl, rfl⟩ [] (by simp) (fun hge => ⟨[x1, y1], (Builtin.zeroCells Z2.cells (G - 1)).toList, 78, by
        rw [push_new hw']; congr 2; apply Array.ext'; simp, RepL.mono hge _ _ (by simp only [RepL]; exact ⟨_, _, rfl, hx1, _, _, rfl, hy1, rfl⟩), fun u hu => by
          simp only [List.mem_cons, List.mem_nil_iff, or_false] at hu
          rcases hu with rfl | rfl <;> assumption⟩)
      refine ⟨_, _, rfl, hq.1, hq.2, ?_⟩
      simp only [Rep]
      refine ⟨w.heap.size, ⟨w.heap.size, 0, none⟩, G, by simp [← hs.bl], rfl, hG1, fun _ => ⟨rfl, _, _, _, push_new hw', ?_⟩⟩
      simp [size_zeroCells, Value.cells]
      omega
    · cases hp
  · cases hp
theorem enter138 (args : Array Value) (w : World) : (callFunc 138 args).run Tryz.prog w = .ok (.enter 138 args) w := enters_of Tryz.func138 (by kernel_rfl) rfl args w
theorem enter120 (args : Array Value) (w : World) : (callFunc 120 args).run Tryz.prog w = .ok (.enter 120 args) w := enters_of Tryz.func120 (by kernel_rfl) rfl args w
theorem primsU_ok (w0 : World) : PrimsOk Tryz.prog (varLink w0) EP := by
  intro f args s v s' hn heff hp0 g w cargs hs hgl ha
  have hp : primsU f args s = some (v, s') := hp0
  clear hp0
  unfold primsU at hp
  split at hp
  · rename_i hf
    subst hf
    exact ⟨enter138 _ _, ins_sound hp hs ha⟩
  · split at hp
    · rename_i hf
      subst hf
      unfold strP at hp
      split at hp
      · rename_i o ys
        split at hp
        · rename_i x hx
          split at hp
          · rename_i hc
            cases hp
            refine ⟨enter120 _ _, Calls.mono (str_sound w0 hs ha hx hc.1 hc.2) ?_⟩
            rintro e w' ⟨rfl, hbel⟩
            obtain ⟨a1, a2⟩ := hs.below hbel
            exact ⟨_, g, rfl, a1, a2, by simp only [Rep, RepL]; exact ⟨[.string ⟨x.toArray⟩, .bool true], rfl, _, _, rfl, rfl, _, _, rfl, rfl, rfl⟩⟩
          · cases hp
        · cases hp
      · cases hp
    · cases hp
theorem envP (w : World) : EnvOk Tryz.prog (varLink w) EP where
  inj a b h := h
  fns f F h := fns_of_tab (tab_ok w) f F h
  prim f args v h1 h2 := by cases h2
  prims := primsU_ok w
end Ab.U

/- The closed facts of a row, part by part (a great seat: each part a declaration of its own). No condition. -/
namespace Ab
open Go
theorem joined_parts {P : Program} {f : FuncId} {fn : Func} {s : ChangeSpec} {c : OpenClaim}
    (a : (c.wf (OpenSpec.ofChange s) && laidOutB P && mapsRowed P && fn.params.all (P.readableRec ·) && namedTie P c.named s.vars && (c.stops == []) && (P.stops == []) && (c.knobs == []) && (P.stopKnobs == [])) = true)
    (b1 : P.inPlace f = c.inPlace) (b2 : P.unfollowed f = true) (b2' : c.unfollowed = true) (b3 : c.recurses = true) (b4 : P.varsNamed f = c.named)
    (d1 : ((c.maps == (fn.params.toList ++ s.plain.varTypes P).any (P.mapsRec ·)) && (c.ifaces == (fn.params.toList ++ s.plain.varTypes P).any (P.ifacesRec ·)) && (c.mapsOut == P.mapsAmong fn.resultTypes.toList)) = true)
    (d2 : ((c.loops == (fn.params.toList ++ s.plain.varTypes P).any (P.loopsFrom ·)) && (c.wideKeys == (fn.params.toList ++ s.plain.varTypes P ++ fn.resultTypes.toList).any (P.wideKeysFrom ·)) && s.vars.all (P.varReadable ·) && fn.resultTypes.all (fun t => P.readableRec t && decide (t < P.types.size)) && (c.ifacesOut == fn.resultTypes.toList.any (P.ifacesRec ·)) && (c.loopsOut == fn.resultTypes.toList.any (P.loopsFrom ·)) && (c.plainKeys == P.plainKeys) && c.shortTexts.isNone && P.stopsHeard && P.mayEnter && (c.lifted == P.liftsFinal) && (P.make == some c.make) && (c.kinds == (if c.domain.isEmpty then [] else fn.params.toList.map fun t => match P.underlying t with | some (.int k) => some k | _ => none)) && (c.pinned == c.pinnedBy)) = true)
    (d3 : ((c.veiled == (fn.params.toList ++ s.plain.varTypes P ++ fn.resultTypes.toList).any (P.veiledRec ·)) && c.veiledFits P fn.params.toList (fn.params.toList ++ s.plain.varTypes P ++ fn.resultTypes.toList)) = true) : joinedFacts P f fn s c = true := by
  have b1' : (c.inPlace == P.inPlace f) = true := by rw [b1]; exact beq_self_eq_true _
  have b2'' : (c.unfollowed == P.unfollowed f) = true := by rw [b2, b2']; rfl
  have b3' : (c.recurses == P.recurses f) = true := by rw [b3]; unfold Program.recurses; rw [b2]; rfl
  have b4' : (c.named == P.varsNamed f) = true := by rw [b4]; exact beq_self_eq_true _
  unfold joinedFacts
  simp only [Bool.and_eq_true, and_assoc] at a d1 d2 d3 ⊢
  obtain ⟨a1, a2, a3, a4, a5, a6, a7, a8, a9⟩ := a
  obtain ⟨c1, c2, c3⟩ := d1
  obtain ⟨e1, e2, e3, e4, e5, e6, e7, e8, e9, f1, f2, f3, f4, f5⟩ := d2
  obtain ⟨g1, g2⟩ := d3
  exact ⟨a1, a2, a3, a4, a5, a6, a7, a8, a9, b1', b2'', b3', b4', c1, c2, c3, e1, e2, e3, e4, e5, e6, e7, e8, e9, f1, f2, f3, f4, f5, g1, g2⟩
end Ab
