/- What the law's own small functions answer. No condition but the table. -/
import Derived.Test.YtooeglbpejfklaaGreatDoorAb08
import Derived.Test.YtooeglbpejfklaaGreatDoorAb09
import Derived.OpenShut
import Derived.Below
import Derived.KernelRfl
set_option linter.all false
namespace Ab.B
open Go Ab Go.RowKit
set_option maxRecDepth 10000
set_option linter.unusedSimpArgs false
set_option linter.unusedVariables false

/- the first of some answers that is true -/
def idxF : List Bool → Nat → Int
  | [], _ => -1
  | b :: r, i => if b then (i : Int) else idxF r (i + 1)
theorem idxF_any : ∀ (rs : List Bool) (i : Nat), decide (0 ≤ idxF rs i) = rs.any id
  | [], _ => rfl
  | true :: r, i => by simp [idxF]
  | false :: r, i => by simp only [idxF, Bool.false_eq_true, if_false, idxF_any r, List.any_cons, id, Bool.false_or]
mutual
def ndL (m n : Int) : List Tm → Int
  | [] => n
  | t :: ts => if m < n then n else ndL m (n + (1 + ndK (m - n) t)) ts
def ndK (m : Int) : Tm → Int
  | .mk _ _ kids => ndL m 0 kids
end
theorem ndK_eq (m : Int) (t : Tm) : ndK m t = ndL m 0 t.kids := by cases t; simp only [ndK, Tm.kids]
mutual
theorem ndL_bound (m n : Int) : ∀ ts : List Tm, n ≤ ndL m n ts ∧ ndL m n ts ≤ n + nTs ts
  | [] => by simp only [ndL, nTs]; omega
  | t :: ts => by
    simp only [ndL, nTs]
    have h1 := ndK_bound (m - n) t
    have h2 := ndL_bound m (n + (1 + ndK (m - n) t)) ts
    split <;> omega
theorem ndK_bound (m : Int) : ∀ t : Tm, 0 ≤ ndK m t ∧ 1 + ndK m t ≤ nT t
  | .mk _ _ kids => by
    have := ndL_bound m 0 kids
    simp only [ndK, nT]; omega
end
section
variable {E : IEnv} (hE : E.fns = Table.fn table)
include hE
theorem fn_Index_string_string {o : Own} {xs : List AV} {rs : List Bool} {f : AV} (hl : rs.length = xs.length) (hm : xs.length ≤ most) (hsh : ∀ x ∈ xs, ∃ s, x = .str s) {K : Nat}
    (hf : ∀ k, K ≤ k → ∀ (i : Nat) x b, xs[i]? = some x → rs[i]? = some b → ∀ s, callA E k none f [x] s = some (.ret (.bool b), false, s)) :
    FnK (K + xs.length + 3) E (.fn n_slices_IndexFunc___string_string_ [] []) [.sl o 1 xs, f] (.int .i64 (idxF rs 0)) :=
  FnK.byW (h_slices_IndexFunc___string_string_ hE) rfl rfl (K := K + xs.length + 2) fun k hk bl tk => by
    have hmm : most = 1073741824 := rfl
    simp [F_slices_IndexFunc___string_string_, b_slices_IndexFunc___string_string_]
    refine wp_loop xs.length (fun i e s => idxF rs 0 = idxF (rs.drop i) i ∧ e = [(0, .sl o 1 xs), (1, f), (7, .int .i64 xs.length), (8, .int .i64 i)] ∧ s = { bl := bl, tk, ro := bl.length, rt := tk.length }) (by omega) (by simp) ?_ ?_
    · rintro i e s hi ⟨hq, rfl, rfl⟩
      obtain ⟨x, hx⟩ : ∃ x, xs[i]? = some x := ⟨_, List.getElem?_eq_getElem hi⟩
      obtain ⟨q, hq2⟩ : ∃ q, rs[i]? = some q := ⟨_, List.getElem?_eq_getElem (by omega)⟩
      obtain ⟨hqi, hq3⟩ := List.getElem?_eq_some_iff.1 hq2
      have hc := hf k (by omega) i x q hx hq2
      obtain ⟨sx, rfl⟩ := hsh _ (List.mem_of_getElem? hx)
      obtain ⟨hi1, hx1⟩ := List.getElem?_eq_some_iff.1 hx
      have e1 : idx (.int .i64 i) xs.length = some i := idx_nat hi1
      have hwr : IntKind.wrap .i64 ((i : Int) + 1) = i + 1 := wrapIn (by omega) (by omega)
      rw [List.drop_eq_getElem_cons hqi, hq3, idxF] at hq
      cases q with
      | true => simp [l0_slices_IndexFunc___string_string_, hi, e1, hx1, hwr, hc, hq]
      | false =>
        simp only [Bool.false_eq_true, if_false] at hq
        simp [l0_slices_IndexFunc___string_string_, hi, e1, hx1, hwr, hc, hq]
    · rintro e s ⟨hq, rfl, rfl⟩
      rw [List.drop_of_length_le (by omega), idxF] at hq
      simp [l0_slices_IndexFunc___string_string_, hq]
theorem fn_Contains_string_string {o : Own} {xs : List AV} {rs : List Bool} {f : AV} (hl : rs.length = xs.length) (hm : xs.length ≤ most) (hsh : ∀ x ∈ xs, ∃ s, x = .str s) {K : Nat}
    (hf : ∀ k, K ≤ k → ∀ (i : Nat) x b, xs[i]? = some x → rs[i]? = some b → ∀ s, callA E k none f [x] s = some (.ret (.bool b), false, s)) :
    FnK (K + xs.length + 4) E (.fn n_slices_ContainsFunc___string_string_ [] []) [.sl o 1 xs, f] (.bool (rs.any id)) :=
  FnK.byW (h_slices_ContainsFunc___string_string_ hE) rfl rfl (K := K + xs.length + 3) fun k hk bl tk => by
    have h1 := fn_Index_string_string hE (o := o) hl hm hsh hf k (by omega)
    simp [F_slices_ContainsFunc___string_string_, b_slices_ContainsFunc___string_string_, h1, ← idxF_any rs 0]
theorem fn_Index_api_Buried_api_Buried {o : Own} {xs : List AV} {rs : List Bool} {f : AV} (hl : rs.length = xs.length) (hm : xs.length ≤ most) (hsh : ∀ x ∈ xs, ∃ a b, x = .agg [a, b]) {K : Nat}
    (hf : ∀ k, K ≤ k → ∀ (i : Nat) x b, xs[i]? = some x → rs[i]? = some b → ∀ s, callA E k none f [x] s = some (.ret (.bool b), false, s)) :
    FnK (K + xs.length + 3) E (.fn n_slices_IndexFunc___api_Buried_api_Buried_ [] []) [.sl o 2 xs, f] (.int .i64 (idxF rs 0)) :=
  FnK.byW (h_slices_IndexFunc___api_Buried_api_Buried_ hE) rfl rfl (K := K + xs.length + 2) fun k hk bl tk => by
    have hmm : most = 1073741824 := rfl
    simp [F_slices_IndexFunc___api_Buried_api_Buried_, b_slices_IndexFunc___api_Buried_api_Buried_]
    refine wp_loop xs.length (fun i e s => idxF rs 0 = idxF (rs.drop i) i ∧ e = [(0, .sl o 2 xs), (1, f), (7, .int .i64 xs.length), (8, .int .i64 i)] ∧ s = { bl := bl, tk, ro := bl.length, rt := tk.length }) (by omega) (by simp) ?_ ?_
    · rintro i e s hi ⟨hq, rfl, rfl⟩
      obtain ⟨x, hx⟩ : ∃ x, xs[i]? = some x := ⟨_, List.getElem?_eq_getElem hi⟩
      obtain ⟨q, hq2⟩ : ∃ q, rs[i]? = some q := ⟨_, List.getElem?_eq_getElem (by omega)⟩
      obtain ⟨hqi, hq3⟩ := List.getElem?_eq_some_iff.1 hq2
      have hc := hf k (by omega) i x q hx hq2
      obtain ⟨a, b, rfl⟩ := hsh _ (List.mem_of_getElem? hx)
      obtain ⟨hi1, hx1⟩ := List.getElem?_eq_some_iff.1 hx
      have e1 : idx (.int .i64 i) xs.length = some i := idx_nat hi1
      have hwr : IntKind.wrap .i64 ((i : Int) + 1) = i + 1 := wrapIn (by omega) (by omega)
      rw [List.drop_eq_getElem_cons hqi, hq3, idxF] at hq
      cases q with
      | true => simp [l0_slices_IndexFunc___api_Buried_api_Buried_, hi, e1, hx1, hwr, hc, hq]
      | false =>
        simp only [Bool.false_eq_true, if_false] at hq
        simp [l0_slices_IndexFunc___api_Buried_api_Buried_, hi, e1, hx1, hwr, hc, hq]
    · rintro e s ⟨hq, rfl, rfl⟩
      rw [List.drop_of_length_le (by omega), idxF] at hq
      simp [l0_slices_IndexFunc___api_Buried_api_Buried_, hq]
theorem fn_Contains_api_Buried_api_Buried {o : Own} {xs : List AV} {rs : List Bool} {f : AV} (hl : rs.length = xs.length) (hm : xs.length ≤ most) (hsh : ∀ x ∈ xs, ∃ a b, x = .agg [a, b]) {K : Nat}
    (hf : ∀ k, K ≤ k → ∀ (i : Nat) x b, xs[i]? = some x → rs[i]? = some b → ∀ s, callA E k none f [x] s = some (.ret (.bool b), false, s)) :
    FnK (K + xs.length + 4) E (.fn n_slices_ContainsFunc___api_Buried_api_Buried_ [] []) [.sl o 2 xs, f] (.bool (rs.any id)) :=
  FnK.byW (h_slices_ContainsFunc___api_Buried_api_Buried_ hE) rfl rfl (K := K + xs.length + 3) fun k hk bl tk => by
    have h1 := fn_Index_api_Buried_api_Buried hE (o := o) hl hm hsh hf k (by omega)
    simp [F_slices_ContainsFunc___api_Buried_api_Buried_, b_slices_ContainsFunc___api_Buried_api_Buried_, h1, ← idxF_any rs 0]
theorem fn_Index_api_Term_api_Term {o : Own} {xs : List AV} {rs : List Bool} {f : AV} (hl : rs.length = xs.length) (hm : xs.length ≤ most) (hsh : ∀ x ∈ xs, ∃ a b c, x = .agg [a, b, c]) {K : Nat}
    (hf : ∀ k, K ≤ k → ∀ (i : Nat) x b, xs[i]? = some x → rs[i]? = some b → ∀ s, callA E k none f [x] s = some (.ret (.bool b), false, s)) :
    FnK (K + xs.length + 3) E (.fn n_slices_IndexFunc___api_Term_api_Term_ [] []) [.sl o 3 xs, f] (.int .i64 (idxF rs 0)) :=
  FnK.byW (h_slices_IndexFunc___api_Term_api_Term_ hE) rfl rfl (K := K + xs.length + 2) fun k hk bl tk => by
    have hmm : most = 1073741824 := rfl
    simp [F_slices_IndexFunc___api_Term_api_Term_, b_slices_IndexFunc___api_Term_api_Term_]
    refine wp_loop xs.length (fun i e s => idxF rs 0 = idxF (rs.drop i) i ∧ e = [(0, .sl o 3 xs), (1, f), (7, .int .i64 xs.length), (8, .int .i64 i)] ∧ s = { bl := bl, tk, ro := bl.length, rt := tk.length }) (by omega) (by simp) ?_ ?_
    · rintro i e s hi ⟨hq, rfl, rfl⟩
      obtain ⟨x, hx⟩ : ∃ x, xs[i]? = some x := ⟨_, List.getElem?_eq_getElem hi⟩
      obtain ⟨q, hq2⟩ : ∃ q, rs[i]? = some q := ⟨_, List.getElem?_eq_getElem (by omega)⟩
      obtain ⟨hqi, hq3⟩ := List.getElem?_eq_some_iff.1 hq2
      have hc := hf k (by omega) i x q hx hq2
      obtain ⟨a, b, c, rfl⟩ := hsh _ (List.mem_of_getElem? hx)
      obtain ⟨hi1, hx1⟩ := List.getElem?_eq_some_iff.1 hx
      have e1 : idx (.int .i64 i) xs.length = some i := idx_nat hi1
      have hwr : IntKind.wrap .i64 ((i : Int) + 1) = i + 1 := wrapIn (by omega) (by omega)
      rw [List.drop_eq_getElem_cons hqi, hq3, idxF] at hq
      cases q with
      | true => simp [l0_slices_IndexFunc___api_Term_api_Term_, hi, e1, hx1, hwr, hc, hq]
      | false =>
        simp only [Bool.false_eq_true, if_false] at hq
        simp [l0_slices_IndexFunc___api_Term_api_Term_, hi, e1, hx1, hwr, hc, hq]
    · rintro e s ⟨hq, rfl, rfl⟩
      rw [List.drop_of_length_le (by omega), idxF] at hq
      simp [l0_slices_IndexFunc___api_Term_api_Term_, hq]
theorem fn_Contains_api_Term_api_Term {o : Own} {xs : List AV} {rs : List Bool} {f : AV} (hl : rs.length = xs.length) (hm : xs.length ≤ most) (hsh : ∀ x ∈ xs, ∃ a b c, x = .agg [a, b, c]) {K : Nat}
    (hf : ∀ k, K ≤ k → ∀ (i : Nat) x b, xs[i]? = some x → rs[i]? = some b → ∀ s, callA E k none f [x] s = some (.ret (.bool b), false, s)) :
    FnK (K + xs.length + 4) E (.fn n_slices_ContainsFunc___api_Term_api_Term_ [] []) [.sl o 3 xs, f] (.bool (rs.any id)) :=
  FnK.byW (h_slices_ContainsFunc___api_Term_api_Term_ hE) rfl rfl (K := K + xs.length + 3) fun k hk bl tk => by
    have h1 := fn_Index_api_Term_api_Term hE (o := o) hl hm hsh hf k (by omega)
    simp [F_slices_ContainsFunc___api_Term_api_Term_, b_slices_ContainsFunc___api_Term_api_Term_, h1, ← idxF_any rs 0]
theorem fn_nodes : ∀ (n : Nat) {ts : List Tm} {v : AV} (m : Int), nTs ts < n → nTs ts ≤ most → -1073741824 ≤ m → m ≤ 1073741824 → Sl ts v → FnK (2 * nTs ts + 3) E (.fn n_chiasmuslaw10_nodes [] []) [v, .int .i64 m] (.int .i64 (ndL m 0 ts))
  | 0, _, _, _, h, _, _, _, _ => by omega
  | n + 1, ts, v, m, hn, hmo, hl0, hl1, hv => by
    obtain ⟨o1, xs, rfl, ⟨hm1, _⟩, h1⟩ := hv
    have hl := h1.length
    have hlt := length_le_nTs ts
    have hmx : maxLen = 9223372036854775807 := rfl
    have hmm : most = 1073741824 := rfl
    refine FnK.byW (h_chiasmuslaw10_nodes hE) rfl rfl (K := 2 * nTs ts + 2) fun k hk bl tk => ?_
    simp [F_chiasmuslaw10_nodes, b_chiasmuslaw10_nodes]
    refine wp_loop xs.length (fun i e s => ∃ (c : Int) (b : List AB), bl.length ≤ b.length ∧ 0 ≤ c ∧ c ≤ nTs (ts.take i) ∧ ndL m 0 ts = ndL m c (ts.drop i) ∧ e = [(1, .int .i64 m), (5, .int .i64 c), (8, .sl o1 3 xs), (9, .int .i64 xs.length), (10, .int .i64 i)] ∧ s = { bl := b, tk, ro := bl.length, rt := tk.length }) (by omega) ⟨0, bl, by simp [nTs]⟩ ?_ ?_
    · rintro i e s hi ⟨c, b, hb, hc0, hc1, hq, rfl, rfl⟩
      obtain ⟨t, ht⟩ : ∃ t, ts[i]? = some t := ⟨_, List.getElem?_eq_getElem (by omega)⟩
      obtain ⟨x, hx, hrx⟩ := h1.get ht
      obtain ⟨kx, rfl, hkx⟩ := hrx.open
      obtain ⟨hi1, hx1⟩ := List.getElem?_eq_some_iff.1 hx
      have e1 : idx (.int .i64 i) xs.length = some i := idx_nat hi1
      have hwr : IntKind.wrap .i64 ((i : Int) + 1) = i + 1 := wrapIn (by omega) (by omega)
      obtain ⟨hti, ht1⟩ := List.getElem?_eq_some_iff.1 ht
      have hle := nT_mem (List.mem_of_getElem? ht)
      have hsum : nTs (ts.take (i + 1)) = nTs (ts.take i) + nT t := by rw [List.take_add_one, ht, nTs_append]; simp [nTs]
      have hall : nTs (ts.take (i + 1)) ≤ nTs ts := by
        have := nTs_append (ts.take (i + 1)) (ts.drop (i + 1)); rw [List.take_append_drop] at this; omega
      rw [List.drop_eq_getElem_cons hti, ht1, ndL] at hq
      have hb1 : bl.length ≤ b.length + 1 := by omega
      by_cases c1 : m < c
      · rw [if_pos c1] at hq
        simp [l0_chiasmuslaw10_nodes, hi, e1, hi1, hx, hx1, c1, hq, hb, append_get, append_get0, append_set, append_set0]
      · rw [if_neg c1] at hq
        have hkb := ndK_bound (m - c) t
        rw [ndK_eq] at hq hkb
        have hle2 := hle
        rw [nT_eq] at hle2
        have hc := fn_nodes n (m - c) (by omega) (by omega) (by omega) (by omega) hkx k (by omega)
        obtain ⟨r, hr⟩ : ∃ r, r = ndL (m - c) 0 t.kids := ⟨_, rfl⟩
        rw [← hr] at hc hq hkb
        have w1 : IntKind.wrap .i64 (m - c) = m - c := wrapIn (by omega) (by omega)
        have w4 : IntKind.wrap .i64 (1 + r) = 1 + r := wrapIn (by omega) (by omega)
        have w5 : IntKind.wrap .i64 (c + (1 + r)) = c + (1 + r) := wrapIn (by omega) (by omega)
        simp [l0_chiasmuslaw10_nodes, hi, e1, hi1, hx, hx1, c1, hb, hb1, append_get, append_get0, append_set, append_set0, w1, w4, w5, hc, hwr]
        exact ⟨_, _, by simp; omega, by omega, by omega, hq, rfl, rfl⟩
    · rintro e s ⟨c, b, hb, hc0, hc1, hq, rfl, rfl⟩
      rw [List.drop_of_length_le (by omega), ndL] at hq
      simp [l0_chiasmuslaw10_nodes, hq]
end
end Ab.B

/- All arguments of a row as abstract values, with how much there is; and that they read the same afterwards. No condition. -/
namespace Ab
open Go Go.RowKit Go.WideShapes

def ArgOf (P : Program) (t : TypeId) (x : AV) : Prop := if (isAggP P t).getD false then ∃ xs, x = .agg xs ∧ Of P t xs else Of P t [x]

theorem arg_open {H : Type} {enc : TypeId × Value → H} {P : Program} {S : List TypeId} (hS : closedT P S = true) {L : Lk} {W : World} {t : TypeId} (ht : t ∈ S) {base : Nat} {v : Value} {d : DataW H} {p : List MemPlace}
    (hv : Value.okWide P W .any base t v) (h : DataW.Trod enc P W 0 (fun _ => true) true t v d p) : ∃ x, Rep L (g0 W) W x v ∧ ArgOf P t x ∧ AV.sz x ≤ bulkD d := by
  obtain ⟨fuel, hf⟩ := h
  obtain ⟨xs, h1, h2, h3, h4, h5⟩ := open_trod hS (L := L) fuel t _ d p ht hf
  have hc := List.all_eq_true.1 hS t ht
  cases hu : P.underlying t with
  | none => rw [hu] at hc; cases hc
  | some dd =>
    have hagg := isAgg_of hu
    cases hda : aggOf dd with
    | true =>
      have hs : ∃ cs, v = .agg cs := by
        cases dd with
        | struct fs => obtain ⟨cs, rfl, _⟩ := okWide_struct hu hv; exact ⟨cs, rfl⟩
        | array n e => rw [hu] at hc; cases hc
        | _ => simp [aggOf] at hda
      obtain ⟨cs, rfl⟩ := hs
      refine ⟨.agg xs, ?_, ?_, ?_⟩
      · simp only [Rep]
        exact ⟨cs.toList, by simp, by simpa [Value.cells] using h1, fun u hu => h3 u (by simpa [Value.cells] using hu)⟩
      · simp only [ArgOf, hagg, Option.getD_some, hda, if_true]; exact ⟨xs, rfl, h4⟩
      · simp only [anP, hagg, Option.getD_some, hda, if_true] at h5
        simp only [AV.sz]; omega
    | false =>
      have hone : v.cells = #[v] := by
        rw [hu] at hc
        cases dd with
        | struct fs => simp [aggOf] at hda
        | array n e => simp [aggOf] at hda
        | bool => obtain ⟨b, rfl⟩ := okWide_bool hu hv; rfl
        | int k => obtain ⟨b, rfl⟩ := okWide_int hu hv; rfl
        | string => obtain ⟨b, rfl⟩ := okWide_string hu hv; rfl
        | slice e => obtain ⟨a, b, c, rfl⟩ := okWide_slice hu hv; rfl
        | _ => cases hc
      obtain ⟨x, rfl⟩ := of_one hu hda h4
      rw [hone] at h1
      simp only [RepL] at h1
      obtain ⟨v', r, e, h6, _⟩ := h1
      simp at e
      obtain ⟨rfl, rfl⟩ := e
      refine ⟨x, h6, ?_, ?_⟩
      · simp only [ArgOf, hagg, Option.getD_some, hda, Bool.false_eq_true, if_false]; exact h4
      · simp only [AV.szL] at h5; omega

def ArgsOf (P : Program) : List TypeId → List AV → Prop
  | [], [] => True
  | t :: ts, x :: xs => ArgOf P t x ∧ ArgsOf P ts xs
  | _, _ => False
theorem args_open {H : Type} {enc : TypeId × Value → H} {P : Program} {S : List TypeId} (hS : closedT P S = true) {L : Lk} {W : World} {base : Nat} : ∀ {ts : List TypeId} {vs : List Value} {ds : List (DataW H)} {p : List MemPlace}, (ts.all fun t => S.contains t) = true →
    (∀ (j : Nat) t v, ts[j]? = some t → vs[j]? = some v → Value.okWide P W .any base t v) → DataW.TrodAll enc P W 0 (fun _ => true) true ts vs ds p →
    ∃ xs, RepL L (g0 W) W xs vs ∧ ArgsOf P ts xs ∧ AV.szL xs ≤ bulkL ds
  | [], [], [], _, _, _, _ => ⟨[], by simp [RepL], trivial, by simp [AV.szL, bulkL]⟩
  | t :: ts, v :: vs, d :: ds, p, hm, hv, h => by
    simp only [List.all_cons, Bool.and_eq_true] at hm
    obtain ⟨p1, q1, h1, h2, _⟩ := h
    obtain ⟨x, a1, a2, a3⟩ := arg_open hS (L := L) (by simpa using hm.1) (hv 0 t v rfl rfl) h1
    obtain ⟨xs, b1, b2, b3⟩ := args_open hS hm.2 (fun j t' v' ht' hv' => hv (j + 1) t' v' (by simpa using ht') (by simpa using hv')) h2
    exact ⟨x :: xs, by simp only [RepL]; exact ⟨_, _, rfl, a1, b1⟩, ⟨a2, b2⟩, by simp only [AV.szL, bulkL]; omega⟩
  | [], _ :: _, _, _, _, _, h => h.elim
  | [], [], _ :: _, _, _, _, h => h.elim
  | _ :: _, [], _, _, _, _, h => h.elim
  | _ :: _, _ :: _, [], _, _, _, h => h.elim

theorem args_lt {H : Type} {enc : TypeId × Value → H} {P : Program} {W : World} : ∀ {ts : List TypeId} {vs : List Value} {ds : List (DataW H)} {p : List MemPlace}, DataW.TrodAll enc P W 0 (fun _ => true) true ts vs ds p → ∀ x ∈ p, x.block < W.heap.size
  | [], [], [], _, h, x, hx => by cases h; cases hx
  | t :: ts, v :: vs, d :: ds, p, h, x, hx => by
    obtain ⟨p1, q1, ⟨m, h1⟩, h2, rfl⟩ := h
    rcases List.mem_append.1 hx with hx | hx
    · exact DataW.trod_lt m _ _ _ h1 x hx
    · exact args_lt h2 x hx
  | [], _ :: _, _, _, h, _, _ => h.elim
  | [], [], _ :: _, _, h, _, _ => h.elim
  | _ :: _, [], _, _, h, _, _ => h.elim
  | _ :: _, _ :: _, [], _, h, _, _ => h.elim

def readT (P : Program) (ts : List TypeId) : Bool := ts.all fun t => P.readableRec t && decide (t < P.types.size)
theorem args_shut {H : Type} {enc : TypeId × Value → H} {P : Program} (hl : laidOutB P = true) {W W' : World} (hb : Below W.heap.size W W') : ∀ {ts : List TypeId} {vs : List Value} {ds : List (DataW H)} {p : List MemPlace}, readT P ts = true →
    DataW.TrodAll enc P W 0 (fun _ => true) true ts vs ds p → DataW.TrodAll enc P W' 0 (fun b => decide (b < W.heap.size)) true ts vs ds p
  | [], [], [], _, _, h => h
  | t :: ts, v :: vs, d :: ds, p, hr, h => by
    simp only [readT, List.all_cons, Bool.and_eq_true, decide_eq_true_eq] at hr
    obtain ⟨p1, q1, h1, h2, rfl⟩ := h
    have hlt : ∀ x ∈ p1, x.block < W.heap.size := by obtain ⟨m, hm⟩ := h1; exact DataW.trod_lt m _ _ _ hm
    exact ⟨p1, q1, Below.trod hl hr.1.1 hr.1.2 h1 hb hlt, args_shut hl hb (by simpa [readT] using hr.2) h2, rfl⟩
  | [], _ :: _, _, _, _, h => h.elim
  | [], [], _ :: _, _, _, h => h.elim
  | _ :: _, [], _, _, _, h => h.elim
  | _ :: _, _ :: _, [], _, _, h => h.elim

/- a world that lays what a row lists -/
def litV : Lit → Value
  | .bool b => .bool b
  | .int k n => .int k n
  | .string s => .string ⟨s.toArray⟩
  | _ => .nilIface
/- (fuel, next block, data) to cells and blocks that are new -/
def layC {H : Type} (f : String → TypeId × TypeId) : Nat → Nat → DataW H → List Value × List (List Value × TypeId)
  | 0, _, _ => ([], [])
  | k + 1, N, d => match d with
    | .lit l => ([litV l], [])
    | .agg ps => ps.foldl (fun acc p => let q := layC f k (N + acc.2.length) p; (acc.1 ++ q.1, acc.2 ++ q.2)) ([], [])
    | .iface s (.ptr e) => let q := layC f k (N + 1) e; ([.iface (f s).1 (.pointer (some ⟨N, 0, none⟩))], (q.1, (f s).2) :: q.2)
    | _ => ([], [])
noncomputable def layW (P : Program) (os : Os) (f : String → TypeId × TypeId) (laid : List (String × DataW Unit)) : World :=
  let N := (World.settled P os).heap.size
  let r := laid.foldl (fun acc x => let q := layC f 9 (N + acc.2.length) x.2; (acc.1 ++ [(x.1, q.1)], acc.2 ++ q.2)) (([] : List (String × List Value)), ([] : List (List Value × TypeId)))
  let w0 := World.holding P os ⟨(r.2.map fun b => Obj.cells b.1.toArray b.2 (0, 0)).toArray, #[], []⟩
  let put (h : Array Obj) (x : String × List Value) : Array Obj := match P.globalNamed x.1 with
    | some g => h.modify g fun
      | .cells _ t frozen => .cells x.2.toArray t frozen
      | o => o
    | none => h
  { w0 with heap := r.1.foldl put w0.heap }
end Ab

/- What arguments of a type look like; how many terms and letters an abstract value has at most. No condition. -/
namespace Ab
open Go Go.RowKit
section
variable {P : Program} {t e : TypeId} {xs : List AV}
theorem of_slice (h : P.underlying t = some (.slice e)) (ho : Of P t xs) : xs = [.sl .nil (P.cellsOf e) []] ∨ ∃ yss : List (List AV), (∀ ys ∈ yss, Of P e ys) ∧ yss.length ≤ maxLen ∧ xs = [.sl .any (P.cellsOf e) (yss.map (elemAV ((isAggP P e).getD false)))] := by
  cases ho with
  | nil h' => rw [h] at h'; cases h'; exact .inl rfl
  | slice h' yss hy hl => rw [h] at h'; cases h'; exact .inr ⟨yss, hy, hl, rfl⟩
  | bool h' => rw [h] at h'; cases h'
  | int h' => rw [h] at h'; cases h'
  | str h' => rw [h] at h'; cases h'
  | struct h' => rw [h] at h'; cases h'
theorem of_struct {fs : Array Field} (h : P.underlying t = some (.struct fs)) (ho : Of P t xs) : ∃ xss : List (List AV), xss.length = fs.size ∧ (∀ (i : Nat) (f : Field) (ys : List AV), fs[i]? = some f → xss[i]? = some ys → Of P f.type ys) ∧ xs = xss.flatten := by
  cases ho with
  | struct h' xss hl hx => rw [h] at h'; cases h'; exact ⟨xss, hl, hx, rfl⟩
  | bool h' => rw [h] at h'; cases h'
  | int h' => rw [h] at h'; cases h'
  | str h' => rw [h] at h'; cases h'
  | nil h' => rw [h] at h'; cases h'
  | slice h' => rw [h] at h'; cases h'
theorem of_string (h : P.underlying t = some .string) (ho : Of P t xs) : ∃ s : List UInt8, xs = [.str s] ∧ s.length ≤ maxLen := by
  cases ho with
  | str h' s hl => exact ⟨s, rfl, hl⟩
  | bool h' => rw [h] at h'; cases h'
  | int h' => rw [h] at h'; cases h'
  | nil h' => rw [h] at h'; cases h'
  | slice h' => rw [h] at h'; cases h'
  | struct h' => rw [h] at h'; cases h'
theorem of_int {k : IntKind} (h : P.underlying t = some (.int k)) (ho : Of P t xs) : ∃ n : Int, xs = [.int k n] ∧ (Lit.int k n).wf = true := by
  cases ho with
  | int h' n hw => rw [h] at h'; cases h'; exact ⟨n, rfl, hw⟩
  | bool h' => rw [h] at h'; cases h'
  | str h' => rw [h] at h'; cases h'
  | nil h' => rw [h] at h'; cases h'
  | slice h' => rw [h] at h'; cases h'
  | struct h' => rw [h] at h'; cases h'
end
theorem one_le_sz (x : AV) : 1 ≤ AV.sz x := by cases x <;> simp [AV.sz]
theorem length_le_szL : ∀ xs : List AV, xs.length ≤ AV.szL xs
  | [] => by simp
  | x :: xs => by have := one_le_sz x; have := length_le_szL xs; simp only [AV.szL, List.length_cons]; omega
theorem sz_mem : ∀ {xs : List AV} {x : AV}, x ∈ xs → AV.sz x ≤ AV.szL xs
  | y :: ys, x, h => by
    rcases List.mem_cons.1 h with rfl | h
    · simp only [AV.szL]; omega
    · have := sz_mem h; simp only [AV.szL]; omega
mutual
theorem Rt.sz : ∀ {t : Tm} {x : AV}, Rt t x → nT t ≤ AV.sz x ∧ ∀ u ∈ preT t, u.text.length ≤ AV.sz x
  | .mk k s kids, x, h => by
    simp only [Rt] at h
    obtain ⟨o, ys, rfl, _, h2⟩ := h
    obtain ⟨g1, g2⟩ := Rts.sz h2
    simp only [AV.sz, AV.szL, nT, preT]
    refine ⟨by omega, fun u hu => ?_⟩
    rcases List.mem_cons.1 hu with rfl | hu
    · simp only [Tm.text]; omega
    · have := g2 u hu; omega
theorem Rts.sz : ∀ {ts : List Tm} {ys : List AV}, Rts ts ys → nTs ts ≤ AV.szL ys ∧ ∀ u ∈ preS ts, u.text.length ≤ AV.szL ys
  | [], ys, h => by simp only [Rts] at h; subst h; simp [nTs, preS, AV.szL]
  | t :: ts, ys, h => by
    simp only [Rts] at h
    obtain ⟨y, r, rfl, h1, h2⟩ := h
    obtain ⟨g1, g2⟩ := Rt.sz h1
    obtain ⟨k1, k2⟩ := Rts.sz h2
    simp only [AV.szL, nTs, preS]
    refine ⟨by omega, fun u hu => ?_⟩
    rcases List.mem_append.1 hu with hu | hu
    · have := g2 u hu; omega
    · have := k2 u hu; omega
end
theorem Sl.sz {ts : List Tm} {v : AV} (h : Sl ts v) : nTs ts < AV.sz v ∧ ∀ u ∈ preS ts, u.text.length ≤ AV.sz v := by
  obtain ⟨o, ys, rfl, _, h3⟩ := h
  obtain ⟨g1, g2⟩ := h3.sz
  simp only [AV.sz]
  exact ⟨by omega, fun u hu => by have := g2 u hu; omega⟩
end Ab

/- Lists of values beside lists of abstract values. No condition. -/
namespace Ab
open Go
set_option linter.all false
def All2 {α : Type} (R : α → AV → Prop) : List α → List AV → Prop
  | [], ys => ys = []
  | a :: al, ys => ∃ y r, ys = y :: r ∧ R a y ∧ All2 R al r
section
variable {α : Type} {R : α → AV → Prop}
theorem All2.length : ∀ {al : List α} {ys : List AV}, All2 R al ys → ys.length = al.length
  | [], _, h => by simp only [All2] at h; simp [h]
  | a :: al, _, h => by
    simp only [All2] at h
    obtain ⟨y, r, rfl, _, h2⟩ := h
    simp [h2.length]
theorem All2.get : ∀ {al : List α} {ys : List AV} {i : Nat} {a : α}, All2 R al ys → al[i]? = some a → ∃ y, ys[i]? = some y ∧ R a y
  | [], _, _, _, _, h => by simp at h
  | b :: al, _, i, a, h, hi => by
    simp only [All2] at h
    obtain ⟨y, r, rfl, h1, h2⟩ := h
    cases i with
    | zero => simp at hi; subst hi; exact ⟨y, rfl, h1⟩
    | succ i => simp at hi; simpa using h2.get hi
theorem All2.mem : ∀ {al : List α} {ys : List AV} {y : AV}, All2 R al ys → y ∈ ys → ∃ a, a ∈ al ∧ R a y
  | [], _, _, h, hy => by simp only [All2] at h; subst h; cases hy
  | b :: al, _, y, h, hy => by
    simp only [All2] at h
    obtain ⟨z, r, rfl, h1, h2⟩ := h
    rcases List.mem_cons.1 hy with rfl | hy
    · exact ⟨b, List.mem_cons_self .., h1⟩
    · obtain ⟨a, ha, hr⟩ := h2.mem hy; exact ⟨a, List.mem_cons_of_mem _ ha, hr⟩
end
theorem all_mk {E : IEnv} {α : Type} {f : AV} {R : α → AV → Prop} {P : α → AV → Prop} {g : AV → List AV} : ∀ {al : List α} {xs : List AV}, All2 R al xs → (∀ a x, a ∈ al → R a x → ∃ r, Fn E f (g x) r ∧ P a r) →
    ∃ rs K, All2 P al rs ∧ ∀ k, K ≤ k → ∀ (i : Nat) x a, xs[i]? = some x → al[i]? = some a → ∃ r, rs[i]? = some r ∧ P a r ∧ ∀ s, callA E k none f (g x) s = some (.ret r, false, s)
  | [], xs, h, _ => ⟨[], 0, by simp [All2], fun _ _ i x a _ ha => by simp at ha⟩
  | a :: al, xs, h, hf => by
    simp only [All2] at h
    obtain ⟨y, r, rfl, h1, h2⟩ := h
    obtain ⟨v, ⟨K1, g1⟩, pv⟩ := hf a y (List.mem_cons_self ..) h1
    obtain ⟨rs, K2, g2, g3⟩ := all_mk h2 fun b x hb => hf b x (List.mem_cons_of_mem _ hb)
    refine ⟨v :: rs, K1 + K2, by simp only [All2]; exact ⟨_, _, rfl, pv, g2⟩, fun k hk i x c hx hc => ?_⟩
    cases i with
    | zero => simp at hx hc; subst hx; subst hc; exact ⟨v, rfl, pv, g1 k (by omega)⟩
    | succ i => simp at hx hc; simpa using g3 k (by omega) i x c hx hc
theorem all_ev {E : IEnv} {α : Type} {f : AV} {R : α → AV → Prop} {g : AV → List AV} {c : α → AV} {al : List α} {xs : List AV} (h : All2 R al xs) (hf : ∀ a x, a ∈ al → R a x → Fn E f (g x) (c a)) :
    ∃ K, ∀ k, K ≤ k → ∀ (i : Nat) x a, xs[i]? = some x → al[i]? = some a → ∀ s, callA E k none f (g x) s = some (.ret (c a), false, s) := by
  obtain ⟨rs, K, _, h2⟩ := all_mk (P := fun a r => r = c a) h fun a x ha hx => ⟨c a, hf a x ha hx, rfl⟩
  refine ⟨K, fun k hk i x a hx ha s => ?_⟩
  obtain ⟨r, _, rfl, h3⟩ := h2 k hk i x a hx ha
  exact h3 s
theorem all2_mk {α : Type} {R : α → AV → Prop} {β : Type} {g : β → AV} : ∀ {l : List β}, (∀ y ∈ l, ∃ a, R a (g y)) → ∃ al, All2 R al (l.map g)
  | [], _ => ⟨[], by simp [All2]⟩
  | y :: l, h => by
    obtain ⟨a, ha⟩ := h y (List.mem_cons_self ..)
    obtain ⟨al, hal⟩ := all2_mk fun z hz => h z (List.mem_cons_of_mem _ hz)
    exact ⟨a :: al, by simp only [List.map_cons, All2]; exact ⟨_, _, rfl, ha, hal⟩⟩
theorem all2_sz {α : Type} {R : α → AV → Prop} {Q : α → Nat → Prop} (h : ∀ a y, R a y → Q a (AV.sz y)) (hm : ∀ a m n, Q a m → m ≤ n → Q a n) : ∀ {al : List α} {ys : List AV}, All2 R al ys → ∀ a ∈ al, Q a (AV.szL ys)
  | [], _, _, a, ha => by cases ha
  | b :: al, _, hh, a, ha => by
    simp only [All2] at hh
    obtain ⟨y, r, rfl, h1, h2⟩ := hh
    simp only [AV.szL]
    rcases List.mem_cons.1 ha with rfl | ha
    · exact hm _ _ _ (h _ _ h1) (by omega)
    · exact hm _ _ _ (all2_sz h hm h2 a ha) (by omega)

def fieldsAre (P : Program) (t : TypeId) (l : List TypeId) : Bool := match P.underlying t with
  | some (.struct fs) => fs.toList.map (·.type) == l
  | _ => false
theorem look_of {P : Program} {t : TypeId} {l : List TypeId} (h : fieldsAre P t l = true) : ∃ fs, P.underlying t = some (.struct fs) ∧ fs.toList.map (·.type) = l := by
  unfold fieldsAre at h
  split at h
  · rename_i fs hfs
    exact ⟨fs, hfs, by simpa using h⟩
  · cases h
end Ab

/- What 'Small' and 'SmallStore' answer. No condition but the table. -/
namespace Ab.B
open Go Ab Go.RowKit
set_option maxRecDepth 10000
set_option linter.unusedSimpArgs false
set_option linter.unusedVariables false

abbrev Bur := List Tm × List Tm
def Bu (p : Bur) (x : AV) : Prop := ∃ a b, x = .agg [a, b] ∧ Sl p.1 a ∧ Sl p.2 b
def IsS (s : List UInt8) (y : AV) : Prop := y = .str s
/- a store -/
def Sto (ps : List Bur) (os : List (List UInt8)) (v : AV) : Prop := ∃ ob xs oo ys, v = .agg [.sl ob 2 xs, .sl oo 1 ys] ∧ All2 Bu ps xs ∧ All2 IsS os ys ∧ (ob = .nil → xs = []) ∧ (oo = .nil → ys = [])
def szS (ps : List Bur) (os : List (List UInt8)) : Prop := ps.length ≤ most ∧ os.length ≤ most ∧ ∀ p ∈ ps, nTs p.1 ≤ most ∧ nTs p.2 ≤ most

def badB (p : Bur) : Bool := decide (30 < ndL 30 0 p.1) || decide (30 < ndL 30 0 p.2) || !shortL p.1 || !shortL p.2
def smallS (ps : List Bur) (os : List (List UInt8)) : Bool := decide (ps.length ≤ 210) && decide (os.length ≤ 210) && !(os.any fun s => decide (600 < s.length)) && !(ps.any badB)
theorem any_short : ∀ ts : List Tm, (ts.map fun t => !shortE t).any id = !shortL ts
  | [] => rfl
  | t :: ts => by simp only [List.map_cons, List.any_cons, any_short ts, id, shortL, Bool.not_and]
section
variable {E : IEnv} (hE : E.fns = Table.fn table)
include hE
theorem fn_short : ∀ (n : Nat) {ts : List Tm} {v : AV}, nTs ts < n → nTs ts ≤ most → Sl ts v → Fn E (.fn n_chiasmuslaw10_shortTexts [] []) [v] (.bool (shortL ts))
  | 0, _, _, h, _, _ => by omega
  | n + 1, ts, v, hn, hm, hv => by
    obtain ⟨o1, xs, rfl, ⟨hm1, _⟩, h1⟩ := hv
    have hl1 := h1.length
    have hlt := length_le_nTs ts
    have hmm : most = 1073741824 := rfl
    obtain ⟨K, hK⟩ := kid_all (E := E) (f := .fn n_chiasmuslaw10_shortTexts [] []) (more := []) (c := fun t => .bool (shortL t.kids)) h1 fun t v ht hv => fn_short n (by have := nT_mem ht; rw [nT_eq] at this; omega) (by have := nT_mem ht; rw [nT_eq] at this; omega) hv
    have hc := fn_Contains_api_Term_api_Term hE (o := o1) (xs := xs) (rs := ts.map fun t => !shortE t) (f := .fn n_chiasmuslaw10_shortTexts_1 [] []) (by simp [hl1]) (by omega)
      (fun x hx => by
        obtain ⟨i, hi⟩ := List.mem_iff_getElem?.1 hx
        obtain ⟨t, ht⟩ : ∃ t, ts[i]? = some t := ⟨_, List.getElem?_eq_getElem (by have := (List.getElem?_eq_some_iff.1 hi).1; omega)⟩
        obtain ⟨y, hy, hr⟩ := h1.get ht
        rw [hi] at hy; cases hy
        obtain ⟨v, rfl, _⟩ := hr.open
        exact ⟨_, _, _, rfl⟩) (K := K + 2) (by
        intro k hk i x b hx hb
        obtain ⟨t, ht⟩ : ∃ t, ts[i]? = some t := ⟨_, List.getElem?_eq_getElem (by have := (List.getElem?_eq_some_iff.1 hx).1; omega)⟩
        rw [List.getElem?_map, ht] at hb
        simp only [Option.map_some, Option.some.injEq] at hb
        subst hb
        refine (FnK.byW (K := K + 1) (h_chiasmuslaw10_shortTexts_1 hE) rfl rfl fun k hk bl tk => ?_) k hk
        obtain ⟨v, hv1, hv2, hv3⟩ := hK k (by omega) i t ht
        rw [hx] at hv1
        cases hv1
        rw [shortE_eq]
        by_cases hq : t.text.length ≤ 600
        · have hq' : ¬ (600 : Int) < (t.text.length : Int) := by omega
          simp [F_chiasmuslaw10_shortTexts_1, b_chiasmuslaw10_shortTexts_1, append_get, append_get0, hq, hq', hv3]
        · have hq' : (600 : Int) < (t.text.length : Int) := by omega
          simp [F_chiasmuslaw10_shortTexts_1, b_chiasmuslaw10_shortTexts_1, append_get, append_get0, hq, hq'])
    refine Fn.byW (h_chiasmuslaw10_shortTexts hE) rfl rfl ⟨K + xs.length + 10, fun k hk bl tk => ?_⟩
    have h2 := hc k (by omega)
    rw [any_short] at h2
    simp [F_chiasmuslaw10_shortTexts, b_chiasmuslaw10_shortTexts, h2]

theorem fn_Small {ts : List Tm} {v : AV} (hm : nTs ts ≤ most) (hv : Sl ts v) : Fn E (.fn n_chiasmuslaw10_Small [] []) [v] (.bool (decide (ndL 300 0 ts ≤ 300) && shortL ts)) := by
  have h1 := fn_nodes hE (nTs ts + 1) 300 (by omega) hm (by omega) (by omega) hv
  obtain ⟨K, h2⟩ := fn_short hE (nTs ts + 1) (by omega) hm hv
  refine Fn.byW (h_chiasmuslaw10_Small hE) rfl rfl ⟨K + 2 * nTs ts + 10, fun k hk bl tk => ?_⟩
  have h1 := h1 k (by omega)
  have h2 := h2 k (by omega)
  by_cases hq : ndL 300 0 ts ≤ 300
  · simp [F_chiasmuslaw10_Small, b_chiasmuslaw10_Small, h1, h2, hq]
  · simp [F_chiasmuslaw10_Small, b_chiasmuslaw10_Small, h1, h2, hq]

theorem fn_Small1 (s : List UInt8) : FnK 1 E (.fn n_chiasmuslaw10_SmallStore_1 [] []) [.str s] (.bool (decide (600 < s.length))) :=
  FnK.byW (h_chiasmuslaw10_SmallStore_1 hE) rfl rfl (K := 0) fun k hk bl tk => by
    by_cases hq : 600 < s.length
    · have hq' : (600 : Int) < (s.length : Int) := by omega
      simp [F_chiasmuslaw10_SmallStore_1, b_chiasmuslaw10_SmallStore_1, hq, hq']
    · have hq' : ¬ (600 : Int) < (s.length : Int) := by omega
      simp [F_chiasmuslaw10_SmallStore_1, b_chiasmuslaw10_SmallStore_1, hq, hq']

theorem fn_Small2 {p : Bur} {x : AV} (hx : Bu p x) (hm : nTs p.1 ≤ most ∧ nTs p.2 ≤ most) : Fn E (.fn n_chiasmuslaw10_SmallStore_2 [] []) [x] (.bool (badB p)) := by
  obtain ⟨a, b, rfl, ha, hb⟩ := hx
  have h1 := fn_nodes hE (nTs p.1 + 1) 30 (by omega) hm.1 (by omega) (by omega) ha
  have h2 := fn_nodes hE (nTs p.2 + 1) 30 (by omega) hm.2 (by omega) (by omega) hb
  obtain ⟨K1, h3⟩ := fn_short hE (nTs p.1 + 1) (by omega) hm.1 ha
  obtain ⟨K2, h4⟩ := fn_short hE (nTs p.2 + 1) (by omega) hm.2 hb
  refine Fn.byW (h_chiasmuslaw10_SmallStore_2 hE) rfl rfl ⟨K1 + K2 + 2 * nTs p.1 + 2 * nTs p.2 + 10, fun k hk bl tk => ?_⟩
  have h1 := h1 k (by omega)
  have h2 := h2 k (by omega)
  have h3 := h3 k (by omega)
  have h4 := h4 k (by omega)
  unfold badB
  by_cases q1 : 30 < ndL 30 0 p.1
  · simp [F_chiasmuslaw10_SmallStore_2, b_chiasmuslaw10_SmallStore_2, append_get, append_get0, h1, q1]
  by_cases q2 : 30 < ndL 30 0 p.2
  · simp [F_chiasmuslaw10_SmallStore_2, b_chiasmuslaw10_SmallStore_2, append_get, append_get0, h1, h2, q1, q2]
  cases q3 : shortL p.1 with
  | false =>
    rw [q3] at h3
    simp [F_chiasmuslaw10_SmallStore_2, b_chiasmuslaw10_SmallStore_2, append_get, append_get0, h1, h2, h3, q1, q2]
  | true =>
    rw [q3] at h3
    simp [F_chiasmuslaw10_SmallStore_2, b_chiasmuslaw10_SmallStore_2, append_get, append_get0, h1, h2, h3, h4, q1, q2]

theorem all_K {α : Type} {f : AV} {R : α → AV → Prop} {c : α → AV} : ∀ {as : List α} {xs : List AV}, All2 R as xs → (∀ a x, a ∈ as → R a x → Fn E f [x] (c a)) → ∃ K, ∀ k, K ≤ k → ∀ (i : Nat) x a, xs[i]? = some x → as[i]? = some a → ∀ s, callA E k none f [x] s = some (.ret (c a), false, s)
  | [], _, _, _ => ⟨0, fun _ _ i x a _ h => by simp at h⟩
  | a :: as, _, h, hf => by
    simp only [All2] at h
    obtain ⟨y, r, rfl, h1, h2⟩ := h
    obtain ⟨K1, k1⟩ := hf a y (List.mem_cons_self ..) h1
    obtain ⟨K2, k2⟩ := all_K h2 fun a x ha => hf a x (List.mem_cons_of_mem _ ha)
    refine ⟨K1 + K2, fun k hk i x b hx hb => ?_⟩
    cases i with
    | zero => simp at hx hb; subst hx; subst hb; exact k1 k (by omega)
    | succ i => exact k2 k (by omega) i x b (by simpa using hx) (by simpa using hb)

theorem fn_SmallStore {ps : List Bur} {os : List (List UInt8)} {v : AV} (hm : szS ps os) (hv : Sto ps os v) : Fn E (.fn n_chiasmuslaw10_SmallStore [] []) [v] (.bool (smallS ps os)) := by
  obtain ⟨ob, xs, oo, ys, rfl, hb, ho, _, _⟩ := hv
  have hxl := hb.length
  have hyl := ho.length
  obtain ⟨K1, k1⟩ := all_K hE (f := .fn n_chiasmuslaw10_SmallStore_1 [] []) (c := fun s : List UInt8 => .bool (decide (600 < s.length))) ho fun a x _ hx => by cases hx; exact ⟨1, fn_Small1 hE a⟩
  obtain ⟨K2, k2⟩ := all_K hE (f := .fn n_chiasmuslaw10_SmallStore_2 [] []) (c := fun p => .bool (badB p)) hb fun a x ha hx => fn_Small2 hE hx (hm.2.2 a ha)
  have c1 := fn_Contains_string_string hE (o := oo) (xs := ys) (rs := os.map fun s => decide (600 < s.length)) (f := .fn n_chiasmuslaw10_SmallStore_1 [] []) (by simp [hyl]) (by rw [hyl]; exact hm.2.1)
    (fun x hx => by obtain ⟨a, _, rfl⟩ := ho.mem hx; exact ⟨_, rfl⟩) (K := K1) (by
      intro k hk i x b hx hb'
      rw [List.getElem?_map] at hb'
      cases ha : os[i]? with
      | none => rw [ha] at hb'; cases hb'
      | some a =>
        rw [ha] at hb'
        simp only [Option.map_some, Option.some.injEq] at hb'
        subst hb'
        exact k1 k hk i x a hx ha)
  have c2 := fn_Contains_api_Buried_api_Buried hE (o := ob) (xs := xs) (rs := ps.map badB) (f := .fn n_chiasmuslaw10_SmallStore_2 [] []) (by simp [hxl]) (by rw [hxl]; exact hm.1)
    (fun x hx => by obtain ⟨a, _, b, c, rfl, _⟩ := hb.mem hx; exact ⟨_, _, rfl⟩) (K := K2) (by
      intro k hk i x b hx hb'
      rw [List.getElem?_map] at hb'
      cases ha : ps[i]? with
      | none => rw [ha] at hb'; cases hb'
      | some a =>
        rw [ha] at hb'
        simp only [Option.map_some, Option.some.injEq] at hb'
        subst hb'
        exact k2 k hk i x a hx ha)
  refine Fn.byW (h_chiasmuslaw10_SmallStore hE) rfl rfl ⟨K1 + K2 + ys.length + xs.length + 20, fun k hk bl tk => ?_⟩
  have c1 := c1 k (by omega)
  have c2 := c2 k (by omega)
  have e1 : (os.map fun s => decide (600 < s.length)).any id = os.any fun s => decide (600 < s.length) := by rw [List.any_map]; rfl
  have e2 : (ps.map badB).any id = ps.any badB := by rw [List.any_map]; rfl
  rw [e1] at c1
  rw [e2] at c2
  unfold smallS
  rw [← hxl, ← hyl]
  by_cases q1 : xs.length ≤ 210
  · have q1' : (xs.length : Int) ≤ 210 := by omega
    by_cases q2 : ys.length ≤ 210
    · have q2' : (ys.length : Int) ≤ 210 := by omega
      cases q3 : os.any fun s => decide (600 < s.length) with
      | true =>
        rw [q3] at c1
        simp [F_chiasmuslaw10_SmallStore, b_chiasmuslaw10_SmallStore, append_get, append_get0, q1, q1', q2, q2', c1]
      | false =>
        rw [q3] at c1
        simp [F_chiasmuslaw10_SmallStore, b_chiasmuslaw10_SmallStore, append_get, append_get0, q1, q1', q2, q2', c1, c2]
    · have q2' : ¬ (ys.length : Int) ≤ 210 := by omega
      simp [F_chiasmuslaw10_SmallStore, b_chiasmuslaw10_SmallStore, append_get, append_get0, q1, q1', q2, q2']
  · have q1' : ¬ (xs.length : Int) ≤ 210 := by omega
    simp [F_chiasmuslaw10_SmallStore, b_chiasmuslaw10_SmallStore, append_get, append_get0, q1, q1']
end
end Ab.B

/- The order of terms as plain data; a function of the Kids of pairs of terms. No condition. -/
namespace Ab
open Go Go.RowKit
def cmpI (a b : Int) : Int := if a < b then -1 else if a > b then 1 else 0
def cmpS (a b : List UInt8) : Int := if Go.Op.bytesLess a b then -1 else if a = b then 0 else 1
theorem bytesLess_self : ∀ s : List UInt8, Go.Op.bytesLess s s = false
  | [] => rfl
  | a :: s => by simp [Go.Op.bytesLess, bytesLess_self s]
theorem cmpI_ne {a b : Int} (h : a ≠ b) : cmpI a b ≠ 0 := by unfold cmpI; split; omega; split; omega; omega
theorem cmpS_ne {a b : List UInt8} (h : a ≠ b) : cmpS a b ≠ 0 := by unfold cmpS; split; omega; simp [h]
mutual
def cmpT : Tm → Tm → Int
  | .mk k s l, u => if k ≠ u.kind then cmpI k u.kind else if s ≠ u.text then cmpS s u.text else cmpTs l u.kids
def cmpTs : List Tm → List Tm → Int
  | [], [] => 0
  | [], _ :: _ => -1
  | _ :: _, [] => 1
  | t :: ts, u :: us => if cmpT t u ≠ 0 then cmpT t u else cmpTs ts us
end
theorem cmpT_eq (t u : Tm) : cmpT t u = if t.kind ≠ u.kind then cmpI t.kind u.kind else if t.text ≠ u.text then cmpS t.text u.text else cmpTs t.kids u.kids := by
  cases t; cases u; simp only [cmpT, Tm.kind, Tm.text, Tm.kids]; congr
theorem cmpTs_step {ts us : List Tm} {i : Nat} {t u : Tm} (ht : ts[i]? = some t) (hu : us[i]? = some u) :
    cmpTs (ts.drop i) (us.drop i) = if cmpT t u ≠ 0 then cmpT t u else cmpTs (ts.drop (i + 1)) (us.drop (i + 1)) := by
  obtain ⟨h1, h2⟩ := List.getElem?_eq_some_iff.1 ht
  obtain ⟨h3, h4⟩ := List.getElem?_eq_some_iff.1 hu
  rw [List.drop_eq_getElem_cons h1, List.drop_eq_getElem_cons h3, h2, h4]; simp only [cmpTs]
theorem cmpTs_end (ts us : List Tm) : cmpTs (ts.drop (min ts.length us.length)) (us.drop (min ts.length us.length)) = cmpI ts.length us.length := by
  by_cases h : ts.length < us.length
  · rw [Nat.min_eq_left (by omega), List.drop_length, List.drop_eq_getElem_cons h]
    simp only [cmpTs, cmpI]; rw [if_pos (by omega)]
  · rw [Nat.min_eq_right (by omega), List.drop_length]
    by_cases h2 : us.length < ts.length
    · rw [List.drop_eq_getElem_cons h2]; simp only [cmpTs, cmpI]; rw [if_neg (by omega), if_pos (by omega)]
    · rw [List.drop_of_length_le (by omega)]; simp only [cmpTs, cmpI]; rw [if_neg (by omega), if_neg (by omega)]
mutual
theorem cmpT_zero : ∀ t u : Tm, cmpT t u = 0 → t = u
  | .mk k s l, .mk k' s' l', h => by
    simp only [cmpT, Tm.kind, Tm.text, Tm.kids] at h
    by_cases h1 : k = k'
    · subst h1
      by_cases h2 : s = s'
      · subst h2
        simp only [ne_eq, not_true_eq_false, if_false] at h
        rw [cmpTs_zero l l' h]
      · simp only [ne_eq, not_true_eq_false, if_false, h2, not_false_eq_true, if_true] at h
        exact absurd h (cmpS_ne h2)
    · simp only [ne_eq, h1, not_false_eq_true, if_true] at h
      exact absurd h (cmpI_ne h1)
theorem cmpTs_zero : ∀ ts us : List Tm, cmpTs ts us = 0 → ts = us
  | [], [], _ => rfl
  | [], _ :: _, h => by simp [cmpTs] at h
  | _ :: _, [], h => by simp [cmpTs] at h
  | t :: ts, u :: us, h => by
    simp only [cmpTs] at h
    by_cases h1 : cmpT t u = 0
    · simp only [h1, ne_eq, not_true_eq_false, if_false] at h
      rw [cmpT_zero t u h1, cmpTs_zero ts us h]
    · simp only [ne_eq, h1, not_false_eq_true, if_true] at h
end
mutual
theorem cmpT_self : ∀ t : Tm, cmpT t t = 0
  | .mk k s l => by simp [cmpT, Tm.kind, Tm.text, Tm.kids, cmpTs_self l]
theorem cmpTs_self : ∀ ts : List Tm, cmpTs ts ts = 0
  | [] => by simp [cmpTs]
  | t :: ts => by simp [cmpTs, cmpT_self t, cmpTs_self ts]
end
theorem cmpTs_iff (ts us : List Tm) : cmpTs ts us = 0 ↔ ts = us := ⟨cmpTs_zero ts us, fun h => h ▸ cmpTs_self ts⟩

/- a function of two slices, at the Kids of all pairs at the same place -/
theorem kids_all {E : IEnv} {f : AV} {c : Tm → Tm → Int} {ts us : List Tm} {xs ys : List AV} (h1 : Rts ts xs) (h2 : Rts us ys)
    (hf : ∀ t u v w, t ∈ ts → u ∈ us → Sl t.kids v → Sl u.kids w → Fn E f [v, w] (.int .i64 (c t u))) :
    ∃ K, ∀ k, K ≤ k → ∀ (i : Nat) t u, ts[i]? = some t → us[i]? = some u → ∃ v w, xs[i]? = some (.agg [.int .i64 t.kind, .str t.text, v]) ∧ ys[i]? = some (.agg [.int .i64 u.kind, .str u.text, w]) ∧ ∀ s, callA E k none f [v, w] s = some (.ret (.int .i64 (c t u)), false, s) := by
  let kid : AV → AV := fun x => match x with | .agg [_, _, v] => v | _ => .junk
  obtain ⟨K, hK⟩ := Fn.all (E := E) (tgt := f) (α := (Tm × AV) × (Tm × AV)) (args := fun q => [kid q.1.2, kid q.2.2]) (v := fun q => .int .i64 (c q.1.1 q.2.1)) (xs := (ts.zip xs).zip (us.zip ys)) (by
    intro q hq
    obtain ⟨i, hi⟩ := List.mem_iff_getElem?.1 hq
    obtain ⟨ha, hb⟩ := List.getElem?_zip_eq_some.1 hi
    obtain ⟨a1, a2⟩ := List.getElem?_zip_eq_some.1 ha
    obtain ⟨b1, b2⟩ := List.getElem?_zip_eq_some.1 hb
    obtain ⟨x, a3, a4⟩ := h1.get a1
    obtain ⟨y, b3, b4⟩ := h2.get b1
    rw [a3] at a2; cases a2
    rw [b3] at b2; cases b2
    obtain ⟨v, e1, hv⟩ := a4.open
    obtain ⟨w, e2, hw⟩ := b4.open
    have k1 : kid q.1.2 = v := by rw [e1]
    have k2 : kid q.2.2 = w := by rw [e2]
    rw [k1, k2]
    exact hf _ _ _ _ (List.mem_of_getElem? a1) (List.mem_of_getElem? b1) hv hw)
  refine ⟨K, fun k hk i t u ht hu => ?_⟩
  obtain ⟨x, a3, a4⟩ := h1.get ht
  obtain ⟨y, b3, b4⟩ := h2.get hu
  obtain ⟨v, e1, hv⟩ := a4.open
  obtain ⟨w, e2, hw⟩ := b4.open
  subst e1 e2
  exact ⟨v, w, a3, b3, hK k hk ((t, _), (u, _)) (List.mem_iff_getElem?.2 ⟨i, List.getElem?_zip_eq_some.2 ⟨List.getElem?_zip_eq_some.2 ⟨ht, a3⟩, List.getElem?_zip_eq_some.2 ⟨hu, b3⟩⟩⟩)⟩
end Ab

/- What the comparisons answer. No condition but the table. -/
namespace Ab.B
open Go Ab Go.RowKit
set_option maxRecDepth 10000
set_option linter.unusedSimpArgs false
set_option linter.unusedVariables false
section
variable {E : IEnv} (hE : E.fns = Table.fn table)
include hE
theorem fn_isNaN_int (a : Int) : FnK 1 E (.fn n_cmp_isNaN_int_ [] []) [.int .i64 a] (.bool false) :=
  FnK.byW (h_cmp_isNaN_int_ hE) rfl rfl (K := 0) fun k hk bl tk => by simp [F_cmp_isNaN_int_, b_cmp_isNaN_int_]
theorem fn_isNaN_string (a : List UInt8) : FnK 1 E (.fn n_cmp_isNaN_string_ [] []) [.str a] (.bool false) :=
  FnK.byW (h_cmp_isNaN_string_ hE) rfl rfl (K := 0) fun k hk bl tk => by simp [F_cmp_isNaN_string_, b_cmp_isNaN_string_]
theorem fn_cmp_int (a b : Int) : FnK 2 E (.fn n_cmp_Compare_int_ [] []) [.int .i64 a, .int .i64 b] (.int .i64 (cmpI a b)) :=
  FnK.byW (h_cmp_Compare_int_ hE) rfl rfl (K := 1) fun k hk bl tk => by
    have h1 := fn_isNaN_int hE a k hk
    have h2 := fn_isNaN_int hE b k hk
    unfold cmpI
    by_cases c1 : a < b
    · simp [F_cmp_Compare_int_, b_cmp_Compare_int_, h1, h2, c1]
    · by_cases c2 : a > b
      · simp [F_cmp_Compare_int_, b_cmp_Compare_int_, h1, h2, c1, c2]
      · simp [F_cmp_Compare_int_, b_cmp_Compare_int_, h1, h2, c1, c2]
theorem fn_cmp_string (a b : List UInt8) : FnK 2 E (.fn n_cmp_Compare_string_ [] []) [.str a, .str b] (.int .i64 (cmpS a b)) :=
  FnK.byW (h_cmp_Compare_string_ hE) rfl rfl (K := 1) fun k hk bl tk => by
    have h1 := fn_isNaN_string hE a k hk
    have h2 := fn_isNaN_string hE b k hk
    unfold cmpS
    by_cases c1 : Go.Op.bytesLess a b = true
    · simp [F_cmp_Compare_string_, b_cmp_Compare_string_, h1, h2, c1]
    · have c1' : Go.Op.bytesLess a b = false := by simpa using c1
      by_cases c2 : a = b
      · subst c2
        simp [F_cmp_Compare_string_, b_cmp_Compare_string_, h1, c1']
      · have c2' : (a == b) = false := by simpa using c2
        simp [F_cmp_Compare_string_, b_cmp_Compare_string_, h1, h2, c1', c2, c2']
theorem fn_Sign (a b : List UInt8) : FnK 1 E (.fn n_chiasmusref01_Sign [] []) [.str a, .str b] (.int .i64 (cmpS a b)) :=
  FnK.byW (h_chiasmusref01_Sign hE) rfl rfl (K := 0) fun k hk bl tk => by
    unfold cmpS
    by_cases c1 : Go.Op.bytesLess a b = true
    · simp [F_chiasmusref01_Sign, b_chiasmusref01_Sign, c1]
    · have c1' : Go.Op.bytesLess a b = false := by simpa using c1
      by_cases c2 : a = b
      · subst c2
        simp [F_chiasmusref01_Sign, b_chiasmusref01_Sign, c1']
      · have c2' : (a == b) = false := by simpa using c2
        simp [F_chiasmusref01_Sign, b_chiasmusref01_Sign, c1', c2, c2']

theorem fn_term_Compare : ∀ (n : Nat) {ts us : List Tm} {v w : AV}, nTs ts < n → Sl ts v → Sl us w → Fn E (.fn n_term_Compare [] []) [v, w] (.int .i64 (cmpTs ts us))
  | 0, _, _, _, _, h, _, _ => by omega
  | n + 1, ts, us, v, w, hn, hv, hw => by
    obtain ⟨o1, xs, rfl, ⟨hm1, _⟩, h1⟩ := hv
    obtain ⟨o2, ys, rfl, ⟨hm2, _⟩, h2⟩ := hw
    have hl1 := h1.length
    have hl2 := h2.length
    have hmx : maxLen = 9223372036854775807 := rfl
    obtain ⟨K, hK⟩ := kids_all (E := E) (f := .fn n_term_Compare [] []) (c := fun t u => cmpTs t.kids u.kids) h1 h2 fun t u v w ht hu hv hw => fn_term_Compare n (by have := nT_mem ht; rw [nT_eq] at this; omega) hv hw
    have ci := fn_cmp_int hE
    have cs := fn_cmp_string hE
    have c1 := c_cmp_Compare_int_ hE [] []
    have c2 := c_cmp_Compare_string_ hE [] []
    have c3 := c_term_Compare hE [] []
    have hmin : (if ys.length < xs.length then (ys.length : Int) else (xs.length : Int)) = ((min ts.length us.length : Nat) : Int) := by split <;> omega
    refine Fn.byW (h_term_Compare hE) rfl rfl ⟨K + ts.length + 10, fun k hk bl tk => ?_⟩
    simp [F_term_Compare, b_term_Compare, mmAll, mmA]
    rw [hmin]
    refine wp_loop (min ts.length us.length) (fun i e s => cmpTs ts us = cmpTs (ts.drop i) (us.drop i) ∧ e = [(0, .sl o1 3 xs), (1, .sl o2 3 ys), (11, .int .i64 ((min ts.length us.length : Nat) : Int)), (12, .int .i64 i)] ∧ s = { bl := bl, tk, ro := bl.length, rt := tk.length }) (by omega) (by simp) ?_ ?_
    · rintro i e s hi ⟨hq, rfl, rfl⟩
      obtain ⟨t, ht⟩ : ∃ t, ts[i]? = some t := ⟨_, List.getElem?_eq_getElem (by omega)⟩
      obtain ⟨u, hu⟩ : ∃ u, us[i]? = some u := ⟨_, List.getElem?_eq_getElem (by omega)⟩
      obtain ⟨vx, vy, hx, hy, hc⟩ := hK k (by omega) i t u ht hu
      obtain ⟨hi1, hx1⟩ := List.getElem?_eq_some_iff.1 hx
      obtain ⟨hi2, hy1⟩ := List.getElem?_eq_some_iff.1 hy
      have e1 : idx (.int .i64 i) xs.length = some i := idx_nat hi1
      have e2 : idx (.int .i64 i) ys.length = some i := idx_nat hi2
      have hwr : IntKind.wrap .i64 ((i : Int) + 1) = i + 1 := wrapIn (by omega) (by omega)
      have hst := cmpTs_step ht hu
      have hlt : (i : Int) < ((min ts.length us.length : Nat) : Int) := by omega
      obtain ⟨mn, hmn⟩ : ∃ mn : Int, mn = ((min ts.length us.length : Nat) : Int) := ⟨_, rfl⟩
      rw [← hmn] at hlt ⊢
      have ci' := fun a b => ci a b k (by omega)
      have cs' := fun a b => cs a b k (by omega)
      rw [cmpT_eq] at hst
      by_cases k1 : t.kind = u.kind
      · by_cases k2 : t.text = u.text
        · simp only [k1, k2, ne_eq, not_true_eq_false, if_false] at hst
          by_cases k3 : cmpTs t.kids u.kids = 0
          · simp only [k3, not_true_eq_false, if_false] at hst
            rw [k3] at hc
            simp [l0_term_Compare, hlt, e1, e2, hi1, hi2, hx1, hy1, hx, hy, k1, k2, hc, c1, c2, c3, hwr]
            rw [hq, hst]
          · simp only [k3, not_false_eq_true, if_true] at hst
            have k3' : (cmpTs t.kids u.kids != 0) = true := by simpa using k3
            simp [l0_term_Compare, hlt, e1, e2, hi1, hi2, hx1, hy1, hx, hy, k1, k2, hc, c1, c2, c3, hwr, k3, k3']
            rw [hq, hst]
        · have k2' : (t.text != u.text) = true := by simpa using k2
          have := cmpS_ne k2
          simp only [k1, k2, ne_eq, not_true_eq_false, if_false, not_false_eq_true, if_true, this] at hst
          have k2'' : (t.text == u.text) = false := by simpa using k2
          simp [l0_term_Compare, hlt, e1, e2, hi1, hi2, hx1, hy1, hx, hy, k1, k2, k2', k2'', cs', c1, c2, c3, hwr]
          rw [hq, hst]
      · have k1' : (t.kind != u.kind) = true := by simpa using k1
        have := cmpI_ne k1
        simp only [k1, ne_eq, not_false_eq_true, if_true, this] at hst
        simp [l0_term_Compare, hlt, e1, e2, hi1, hi2, hx1, hy1, hx, hy, k1, k1', ci', c1, c2, c3, hwr]
        rw [hq, hst]
    · rintro e s ⟨hq, rfl, rfl⟩
      rw [cmpTs_end] at hq
      simp [l0_term_Compare, ci _ _ k (by omega), hq, hl1, hl2]
end
end Ab.B

/- What the comparison of the reference, and both 'Equal', answer. No condition but the table. -/
namespace Ab.B
open Go Ab Go.RowKit
set_option maxRecDepth 10000
set_option linter.unusedSimpArgs false
set_option linter.unusedVariables false
section
variable {E : IEnv} (hE : E.fns = Table.fn table)
include hE
theorem fn_ref_Compare : ∀ (n : Nat) {ts us : List Tm} {v w : AV}, nTs ts < n → Sl ts v → Sl us w → Fn E (.fn n_chiasmusref01_Compare [] []) [v, w] (.int .i64 (cmpTs ts us))
  | 0, _, _, _, _, h, _, _ => by omega
  | n + 1, ts, us, v, w, hn, hv, hw => by
    obtain ⟨o1, xs, rfl, ⟨hm1, _⟩, h1⟩ := hv
    obtain ⟨o2, ys, rfl, ⟨hm2, _⟩, h2⟩ := hw
    have hl1 := h1.length
    have hl2 := h2.length
    have hmx : maxLen = 9223372036854775807 := rfl
    obtain ⟨K, hK⟩ := kids_all (E := E) (f := .fn n_chiasmusref01_Compare [] []) (c := fun t u => cmpTs t.kids u.kids) h1 h2 fun t u v w ht hu hv hw => fn_ref_Compare n (by have := nT_mem ht; rw [nT_eq] at this; omega) hv hw
    have cs := fn_Sign hE
    have c2 := c_chiasmusref01_Sign hE [] []
    have c3 := c_chiasmusref01_Compare hE [] []
    refine Fn.byW (h_chiasmusref01_Compare hE) rfl rfl ⟨K + ts.length + 10, fun k hk bl tk => ?_⟩
    simp [F_chiasmusref01_Compare, b_chiasmusref01_Compare]
    refine wp_loop (min ts.length us.length) (fun i e s => cmpTs ts us = cmpTs (ts.drop i) (us.drop i) ∧ e = [(0, .sl o1 3 xs), (1, .sl o2 3 ys), (5, .int .i64 i)] ∧ s = { bl := bl, tk, ro := bl.length, rt := tk.length }) (by omega) (by simp) ?_ ?_
    · rintro i e s hi ⟨hq, rfl, rfl⟩
      obtain ⟨t, ht⟩ : ∃ t, ts[i]? = some t := ⟨_, List.getElem?_eq_getElem (by omega)⟩
      obtain ⟨u, hu⟩ : ∃ u, us[i]? = some u := ⟨_, List.getElem?_eq_getElem (by omega)⟩
      obtain ⟨vx, vy, hx, hy, hc⟩ := hK k (by omega) i t u ht hu
      obtain ⟨hi1, hx1⟩ := List.getElem?_eq_some_iff.1 hx
      obtain ⟨hi2, hy1⟩ := List.getElem?_eq_some_iff.1 hy
      have e1 : idx (.int .i64 i) xs.length = some i := idx_nat hi1
      have e2 : idx (.int .i64 i) ys.length = some i := idx_nat hi2
      have hwr : IntKind.wrap .i64 ((i : Int) + 1) = i + 1 := wrapIn (by omega) (by omega)
      have hst := cmpTs_step ht hu
      have cs' := fun a b => cs a b k (by omega)
      rw [cmpT_eq] at hst
      by_cases k1 : t.kind = u.kind
      · by_cases k2 : t.text = u.text
        · simp only [k1, k2, ne_eq, not_true_eq_false, if_false] at hst
          have k2c : cmpS u.text u.text = 0 := by unfold cmpS; simp [bytesLess_self]
          by_cases k3 : cmpTs t.kids u.kids = 0
          · simp only [k3, not_true_eq_false, if_false] at hst
            rw [k3] at hc
            simp [l0_chiasmusref01_Compare, e1, e2, hi1, hi2, hx1, hy1, hx, hy, k1, k2, k2c, hc, cs', c2, c3, hwr]
            rw [hq, hst]
          · simp only [k3, not_false_eq_true, if_true] at hst
            have k3' : (cmpTs t.kids u.kids != 0) = true := by simpa using k3
            simp [l0_chiasmusref01_Compare, e1, e2, hi1, hi2, hx1, hy1, hx, hy, k1, k2, k2c, hc, cs', c2, c3, hwr, k3, k3']
            rw [hq, hst]
        · have := cmpS_ne k2
          simp only [k1, k2, ne_eq, not_true_eq_false, if_false, not_false_eq_true, if_true, this] at hst
          have k2' : (cmpS t.text u.text != 0) = true := by simpa using this
          simp [l0_chiasmusref01_Compare, e1, e2, hi1, hi2, hx1, hy1, hx, hy, k1, k2', this, cs', c2, c3, hwr]
          rw [hq, hst]
      · have k1' : (t.kind != u.kind) = true := by simpa using k1
        have := cmpI_ne k1
        simp only [k1, ne_eq, not_false_eq_true, if_true, this] at hst
        unfold cmpI at hst
        by_cases k4 : t.kind < u.kind
        · rw [if_pos k4] at hst
          simp [l0_chiasmusref01_Compare, e1, e2, hi1, hi2, hx1, hy1, hx, hy, k1, k1', k4, c2, c3, hwr]
          rw [hq, hst]
        · rw [if_neg k4, if_pos (by omega)] at hst
          simp [l0_chiasmusref01_Compare, e1, e2, hi1, hi2, hx1, hy1, hx, hy, k1, k1', k4, c2, c3, hwr]
          rw [hq, hst]
    · rintro e s ⟨hq, rfl, rfl⟩
      rw [cmpTs_end] at hq
      unfold cmpI at hq
      rw [hq]
      by_cases l1 : ts.length < us.length
      · have m1 : min xs.length ys.length = xs.length := by omega
        have l2 : xs.length < ys.length := by omega
        simp [l0_chiasmusref01_Compare, m1, ← hl1, ← hl2, l2]
      · have m1 : min xs.length ys.length = ys.length := by omega
        by_cases l2 : us.length < ts.length
        · have l3 : ys.length < xs.length := by omega
          have l4 : ¬ xs.length < ys.length := by omega
          simp [l0_chiasmusref01_Compare, m1, ← hl1, ← hl2, l3, l4]
        · have l3 : ¬ ys.length < xs.length := by omega
          have l4 : ¬ xs.length < ys.length := by omega
          simp [l0_chiasmusref01_Compare, m1, ← hl1, ← hl2, l3, l4]

theorem fn_ref_Equal {ts us : List Tm} {v w : AV} (hv : Sl ts v) (hw : Sl us w) : Fn E (.fn n_chiasmusref01_Equal [] []) [v, w] (.bool (cmpTs ts us == 0)) := by
  obtain ⟨K, hK⟩ := fn_ref_Compare hE _ (Nat.lt_succ_self _) hv hw
  exact Fn.byW (h_chiasmusref01_Equal hE) rfl rfl ⟨K, fun k hk bl tk => by simp [F_chiasmusref01_Equal, b_chiasmusref01_Equal, hK k hk]⟩
theorem fn_term_Equal {ts us : List Tm} {v w : AV} (hv : Sl ts v) (hw : Sl us w) : Fn E (.fn n_term_Equal [] []) [v, w] (.bool (cmpTs ts us == 0)) := by
  obtain ⟨K, hK⟩ := fn_term_Compare hE _ (Nat.lt_succ_self _) hv hw
  exact Fn.byW (h_term_Equal hE) rfl rfl ⟨K, fun k hk bl tk => by simp [F_term_Equal, b_term_Equal, hK k hk]⟩
end
end Ab.B

/- What 'Check' and 'Get' answer, of the program and of the reference. No condition but the table. -/
namespace Ab.B
open Go Ab Go.RowKit
set_option maxRecDepth 10000
set_option linter.all false
def Shorts (M : Nat) (ts : List Tm) : Prop := ∀ t ∈ preS ts, t.text.length ≤ M
def ShortS (M : Nat) (ps : List Bur) : Prop := ∀ p ∈ ps, Shorts M p.1 ∧ Shorts M p.2
def errB : List Bur → Int
  | [] => 0
  | p :: ps => if checkT 4 p.1 ≠ 0 then checkT 4 p.1 else if checkT 4 p.2 ≠ 0 then checkT 4 p.2 else errB ps
def checkB (ps : List Bur) (os : List (List UInt8)) : Int := if 200 < ps.length ∨ 200 < os.length then 5 else errB ps
def keyIs (key : List Tm) (p : Bur) : Bool := cmpTs p.1 key == 0
def getB (ps : List Bur) (key : List Tm) : List (List Tm) := (ps.filter (keyIs key)).map (·.2)
def fst2 : AV → AV | .agg [a, _] => a | _ => .junk
def snd2 : AV → AV | .agg [_, b] => b | _ => .junk
section
variable {E : IEnv} (hE : E.fns = Table.fn table)
include hE
omit hE in
theorem errB_drop {ps : List Bur} {i : Nat} {p : Bur} (h : ps[i]? = some p) : errB (ps.drop i) = if checkT 4 p.1 ≠ 0 then checkT 4 p.1 else if checkT 4 p.2 ≠ 0 then checkT 4 p.2 else errB (ps.drop (i + 1)) := by
  obtain ⟨hi, h1⟩ := List.getElem?_eq_some_iff.1 h
  rw [List.drop_eq_getElem_cons hi, h1]; rfl
theorem fn_Check {ps : List Bur} {os : List (List UInt8)} {v : AV} (hm : szS ps os) {M : Nat} (hM : M ≤ maxLen) (hn : ∀ p ∈ ps, nTs p.1 < most ∧ nTs p.2 < most) (hS : ShortS M ps) (hv : Sto ps os v) : Fn E (.fn n_builtin_Check [] []) [v] (.int .i64 (checkB ps os)) := by
  obtain ⟨ob, xs, oo, ys, rfl, hx, hy, hb, ho⟩ := hv
  have hlx := hx.length
  have hly := hy.length
  have hmm : most = 1073741824 := rfl
  obtain ⟨hm1, hm2, hm3⟩ := hm
  obtain ⟨K1, hK1⟩ := all_ev (E := E) (f := .fn n_term_Value [] []) (g := fun x => [(fst2 x).untok]) (c := fun p => .int .i64 (checkT 4 p.1)) hx (by
    rintro p x hp ⟨a, b, rfl, ha, hb⟩
    exact fn_Value hE ha.untok (hn p hp).1 hM (hS p hp).1)
  obtain ⟨K2, hK2⟩ := all_ev (E := E) (f := .fn n_term_Value [] []) (g := fun x => [(snd2 x).untok]) (c := fun p => .int .i64 (checkT 4 p.2)) hx (by
    rintro p x hp ⟨a, b, rfl, ha, hb⟩
    exact fn_Value hE hb.untok (hn p hp).2 hM (hS p hp).2)
  refine Fn.byW (h_builtin_Check hE) rfl rfl ⟨K1 + K2 + ps.length + 10, fun k hk bl tk => ?_⟩
  unfold checkB
  by_cases c1 : 200 < ps.length
  · have c1' : (200 : Int) < xs.length := by omega
    rw [if_pos (.inl c1)]
    simp [F_builtin_Check, b_builtin_Check, c1']
  have c1' : ¬ (200 : Int) < xs.length := by omega
  by_cases c2 : 200 < os.length
  · have c2' : (200 : Int) < ys.length := by omega
    rw [if_pos (.inr c2)]
    simp [F_builtin_Check, b_builtin_Check, c1', c2']
  have c2' : ¬ (200 : Int) < ys.length := by omega
  rw [if_neg (by omega)]
  obtain ⟨R, hR⟩ : ∃ R, R = errB ps := ⟨_, rfl⟩
  rw [← hR]
  simp [F_builtin_Check, b_builtin_Check, c1', c2']
  refine wp_loop xs.length (fun i e s => R = errB (ps.drop i) ∧ ∃ b, bl.length ≤ b.length ∧ e = [(19, .sl ob 2 xs), (20, .int .i64 xs.length), (21, .int .i64 i)] ∧ s = { bl := b, tk, ro := bl.length, rt := tk.length }) (by omega) ⟨by simp [hR], _, by simp, rfl, rfl⟩ ?_ ?_
  · rintro i e s hi ⟨hq, b, hbl, rfl, rfl⟩
    obtain ⟨p, hp⟩ : ∃ p, ps[i]? = some p := ⟨_, List.getElem?_eq_getElem (by omega)⟩
    obtain ⟨x, hxi, u, w, rfl, hu, hw⟩ := hx.get hp
    have g1 := hK1 k (by omega) i _ p hxi hp
    have g2 := hK2 k (by omega) i _ p hxi hp
    simp only [fst2, snd2] at g1 g2
    obtain ⟨o3, x3, rfl⟩ : ∃ o xs, u = .sl o 3 xs := by obtain ⟨o, xs, h, _⟩ := hu; exact ⟨o, xs, h⟩
    obtain ⟨o4, x4, rfl⟩ : ∃ o xs, w = .sl o 3 xs := by obtain ⟨o, xs, h, _⟩ := hw; exact ⟨o, xs, h⟩
    obtain ⟨p3, _, hu3⟩ := untok_sl o3 3 x3
    obtain ⟨p4, _, hw4⟩ := untok_sl o4 3 x4
    rw [hu3] at g1
    rw [hw4] at g2
    obtain ⟨hi1, hx1⟩ := List.getElem?_eq_some_iff.1 hxi
    have e1 : idx (.int .i64 i) xs.length = some i := idx_nat hi
    have hwr : IntKind.wrap .i64 ((i : Int) + 1) = i + 1 := wrapIn (by omega) (by omega)
    rw [errB_drop hp] at hq
    simp [l1_builtin_Check, hi, e1, hx1, append_get, append_get0, append_set, append_set0, hbl, setElems, repl, hasSize, hu3, hw4]
    refine wp_loop 2 (fun j e s => (∃ b2, bl.length ≤ b2.length ∧ (j = 0 ∨ j = 1 ∧ checkT 4 p.1 = 0 ∨ j = 2 ∧ checkT 4 p.1 = 0 ∧ checkT 4 p.2 = 0) ∧ e = [(19, .sl ob 2 xs), (20, .int .i64 xs.length), (21, .int .i64 i), (29, .sl .full 1 [.sl p3 3 x3, .sl p4 3 x4]), (30, .int .i64 2), (31, .int .i64 j)] ∧ s = { bl := b2, tk, ro := bl.length, rt := tk.length })) (by omega) (by refine ⟨_, ?_, .inl rfl, rfl, rfl⟩; simp; omega) ?_ ?_
    · rintro j e s hj ⟨b2, hb2, hj2, rfl, rfl⟩
      have hjw : IntKind.wrap .i64 ((j : Int) + 1) = j + 1 := wrapIn (by omega) (by omega)
      rcases hj2 with rfl | ⟨rfl, hj0⟩ | ⟨rfl, _⟩
      · have e2 : idx (.int .i64 ((0 : Nat) : Int)) 2 = some 0 := idx_nat (by omega)
        by_cases z : checkT 4 p.1 = 0
        · rw [z] at g1
          simp [l0_builtin_Check, g1, idx, hb2, z, show IntKind.wrap .i64 1 = 1 from by decide]
        · have z' : (checkT 4 p.1 != 0) = true := by simpa using z
          rw [if_pos z] at hq
          simp [l0_builtin_Check, g1, idx, hb2, z', hq]
      · by_cases z : checkT 4 p.2 = 0
        · rw [z] at g2
          simp [l0_builtin_Check, g2, idx, hb2, z, hj0, show IntKind.wrap .i64 2 = 2 from by decide]
        · have z' : (checkT 4 p.2 != 0) = true := by simpa using z
          rw [if_neg (by simpa using hj0), if_pos z] at hq
          simp [l0_builtin_Check, g2, idx, hb2, z', hq]
      · omega
    · rintro e s ⟨b2, hb2, hj2, rfl, rfl⟩
      have hz : checkT 4 p.1 = 0 ∧ checkT 4 p.2 = 0 := by
        rcases hj2 with h | ⟨h, _⟩ | ⟨_, h1, h2⟩
        · cases h
        · cases h
        · exact ⟨h1, h2⟩
      rw [if_neg (by simpa using hz.1), if_neg (by simpa using hz.2)] at hq
      simp [l0_builtin_Check, hb2, hwr]
      exact hq
  · rintro e s ⟨hq, b, hbl, rfl, rfl⟩
    rw [List.drop_of_length_le (by omega)] at hq
    simp [l1_builtin_Check, hq, errB]
theorem fn_ref_Check {ps : List Bur} {os : List (List UInt8)} {v : AV} (hm : szS ps os) {M : Nat} (hM : M ≤ maxLen) (hn : ∀ p ∈ ps, nTs p.1 < most ∧ nTs p.2 < most) (hS : ShortS M ps) (hv : Sto ps os v) : Fn E (.fn n_chiasmusref10_Check [] []) [v] (.int .i64 (checkB ps os)) := by
  obtain ⟨ob, xs, oo, ys, rfl, hx, hy, hb, ho⟩ := hv
  have hlx := hx.length
  have hly := hy.length
  have hmm : most = 1073741824 := rfl
  obtain ⟨hm1, hm2, hm3⟩ := hm
  obtain ⟨K1, hK1⟩ := all_ev (E := E) (f := .fn n_chiasmusref01_Value [] []) (g := fun x => [fst2 x]) (c := fun p => .int .i64 (checkT 4 p.1)) hx (by
    rintro p x hp ⟨a, b, rfl, ha, hb⟩
    exact fn_ref_Value hE ha (hn p hp).1 hM (hS p hp).1)
  obtain ⟨K2, hK2⟩ := all_ev (E := E) (f := .fn n_chiasmusref01_Value [] []) (g := fun x => [snd2 x]) (c := fun p => .int .i64 (checkT 4 p.2)) hx (by
    rintro p x hp ⟨a, b, rfl, ha, hb⟩
    exact fn_ref_Value hE hb (hn p hp).2 hM (hS p hp).2)
  refine Fn.byW (h_chiasmusref10_Check hE) rfl rfl ⟨K1 + K2 + ps.length + 10, fun k hk bl tk => ?_⟩
  unfold checkB
  by_cases c1 : 200 < ps.length
  · have c1' : (200 : Int) < xs.length := by omega
    rw [if_pos (.inl c1)]
    simp [F_chiasmusref10_Check, b_chiasmusref10_Check, c1']
  have c1' : ¬ (200 : Int) < xs.length := by omega
  by_cases c2 : 200 < os.length
  · have c2' : (200 : Int) < ys.length := by omega
    rw [if_pos (.inr c2)]
    simp [F_chiasmusref10_Check, b_chiasmusref10_Check, c1', c2']
  have c2' : ¬ (200 : Int) < ys.length := by omega
  rw [if_neg (by omega)]
  obtain ⟨R, hR⟩ : ∃ R, R = errB ps := ⟨_, rfl⟩
  rw [← hR]
  simp [F_chiasmusref10_Check, b_chiasmusref10_Check, c1', c2']
  refine wp_loop xs.length (fun i e s => R = errB (ps.drop i) ∧ e = [(1, .ptr bl.length 0), (3, .int .i64 i)] ∧ s = { bl := bl ++ [.cells [.sl ob 2 xs, .sl oo 1 ys]], tk, ro := bl.length, rt := tk.length }) (by omega) ⟨by simp [hR], rfl, rfl⟩ ?_ ?_
  · rintro i e s hi ⟨hq, rfl, rfl⟩
    obtain ⟨p, hp⟩ : ∃ p, ps[i]? = some p := ⟨_, List.getElem?_eq_getElem (by omega)⟩
    obtain ⟨x, hxi, u, w, rfl, hu, hw⟩ := hx.get hp
    have g1 := hK1 k (by omega) i _ p hxi hp
    have g2 := hK2 k (by omega) i _ p hxi hp
    simp only [fst2, snd2] at g1 g2
    obtain ⟨hi1, hx1⟩ := List.getElem?_eq_some_iff.1 hxi
    have e1 : idx (.int .i64 i) xs.length = some i := idx_nat hi
    have hwr : IntKind.wrap .i64 ((i : Int) + 1) = i + 1 := wrapIn (by omega) (by omega)
    rw [errB_drop hp] at hq
    by_cases z : checkT 4 p.1 = 0
    · rw [if_neg (by simpa using z)] at hq
      rw [z] at g1
      by_cases z2 : checkT 4 p.2 = 0
      · rw [if_neg (by simpa using z2)] at hq
        rw [z2] at g2
        simp [l0_chiasmusref10_Check, hi, e1, hx1, append_get, append_get0, g1, g2, hwr]
        exact hq
      · have z' : (checkT 4 p.2 != 0) = true := by simpa using z2
        rw [if_pos z2] at hq
        simp [l0_chiasmusref10_Check, hi, e1, hx1, append_get, append_get0, g1, g2, hwr, z', hq]
    · have z' : (checkT 4 p.1 != 0) = true := by simpa using z
      rw [if_pos z] at hq
      simp [l0_chiasmusref10_Check, hi, e1, hx1, append_get, append_get0, g1, hwr, z', hq]
  · rintro e s ⟨hq, rfl, rfl⟩
    rw [List.drop_of_length_le (by omega)] at hq
    simp [l0_chiasmusref10_Check, hq, errB, append_get, append_get0]
/- a list of expressions as a value -/
def Sls (l : List (List Tm)) (xs : List AV) : Prop := All2 Sl l xs
omit hE in
theorem getB_take {ps : List Bur} {key : List Tm} {i : Nat} {p : Bur} (h : ps[i]? = some p) : getB (ps.take (i + 1)) key = getB (ps.take i) key ++ if keyIs key p then [p.2] else [] := by
  unfold getB
  rw [List.take_add_one, h, Option.toList_some, List.filter_append, List.map_append]
  congr 1
  cases hk : keyIs key p <;> simp [hk]
omit hE in
theorem Sls.snoc : ∀ {l : List (List Tm)} {xs : List AV} {t : List Tm} {r : AV}, Sls l xs → Sl t r → Sls (l ++ [t]) (xs ++ [r])
  | [], _, _, _, h, hr => by simp only [Sls, All2] at h; subst h; simp only [Sls, List.nil_append, All2]; exact ⟨_, _, rfl, hr, rfl⟩
  | a :: l, _, _, _, h, hr => by
    simp only [Sls, All2] at h
    obtain ⟨y, r', rfl, h1, h2⟩ := h
    simp only [Sls, List.cons_append, All2]
    exact ⟨_, _, rfl, h1, Sls.snoc h2 hr⟩
omit hE in
theorem Sls.untokL : ∀ {l : List (List Tm)} {xs : List AV}, Sls l xs → Sls l (AV.untokL xs)
  | [], _, h => by simp only [Sls, All2] at h; subst h; simp [Sls, All2, AV.untokL]
  | a :: l, _, h => by
    simp only [Sls, All2] at h
    obtain ⟨y, r', rfl, h1, h2⟩ := h
    simp only [Sls, AV.untokL, All2]
    exact ⟨_, _, rfl, h1.untok, Sls.untokL h2⟩
omit hE in
theorem Sls.data : ∀ {l : List (List Tm)} {xs : List AV}, Sls l xs → AV.dataL xs = true
  | [], _, h => by simp only [Sls, All2] at h; subst h; rfl
  | a :: l, _, h => by
    simp only [Sls, All2] at h
    obtain ⟨y, r', rfl, h1, h2⟩ := h
    simp only [AV.dataL, h1.data, Sls.data h2, Bool.and_self]
theorem fn_Get {ps : List Bur} {os : List (List UInt8)} {key : List Tm} {v w : AV} (hm : szS ps os) {M : Nat} (hM : M ≤ maxLen) (hn : ∀ p ∈ ps, nTs p.1 < most ∧ nTs p.2 < most) (hS : ShortS M ps) (hv : Sto ps os v)
    (hw : Sl key w) (hkn : nTs key < most) (hkS : Shorts M key) :
    if checkB ps os ≠ 0 then Fn E (.fn n_builtin_Get [] []) [v, w] (.tup [.sl .nil 1 [], .int .i64 (checkB ps os)]) else if checkT 4 key ≠ 0 then Fn E (.fn n_builtin_Get [] []) [v, w] (.tup [.sl .nil 1 [], .int .i64 (checkT 4 key)])
    else ∃ rs, Sls (getB ps key) rs ∧ Fn E (.fn n_builtin_Get [] []) [v, w] (.tup [endV 1 rs, .int .i64 0]) := by
  obtain ⟨K1, h1⟩ := fn_Check hE hm hM hn hS hv
  obtain ⟨K2, h2⟩ := fn_Value hE hw hkn hM hkS
  obtain ⟨ob, xs, oo, ys, rfl, hx, hy, hb, ho⟩ := hv
  have hlx := hx.length
  have hmm : most = 1073741824 := rfl
  obtain ⟨hm1, hm2, hm3⟩ := hm
  obtain ⟨ow, xw, rfl⟩ : ∃ o xs, w = .sl o 3 xs := by obtain ⟨o, xs, h, _⟩ := hw; exact ⟨o, xs, h⟩
  split
  · rename_i z
    have z' : (checkB ps os != 0) = true := by simpa using z
    refine Fn.byW (h_builtin_Get hE) rfl rfl ⟨K1, fun k hk bl tk => ?_⟩
    simp [F_builtin_Get, b_builtin_Get, append_get, append_get0, h1 k hk, z']
  rename_i z
  have z0 : checkB ps os = 0 := by simpa using z
  rw [z0] at h1
  split
  · rename_i zk
    have zk' : (checkT 4 key != 0) = true := by simpa using zk
    refine Fn.byW (h_builtin_Get hE) rfl rfl ⟨K1 + K2, fun k hk bl tk => ?_⟩
    simp [F_builtin_Get, b_builtin_Get, append_get, append_get0, h1 k (by omega), h2 k (by omega), zk']
  rename_i zk
  have zk0 : checkT 4 key = 0 := by simpa using zk
  rw [zk0] at h2
  obtain ⟨K3, h3⟩ := all_ev (E := E) (f := .fn n_term_Equal [] []) (g := fun x => [fst2 x, .sl ow 3 xw]) (c := fun p => .bool (keyIs key p)) hx (by
    rintro p x hp ⟨a, b, rfl, ha, hb⟩
    exact fn_term_Equal hE ha hw)
  obtain ⟨rs, K4, h4, h5⟩ := all_mk (E := E) (f := .fn n_term_Copy [] []) (g := fun x => [snd2 x]) (P := fun p r => Sl p.2 r ∧ r.untok = r) hx (by
    rintro p x hp ⟨a, b, rfl, ha, hb⟩
    obtain ⟨r, q1, q2, q3⟩ := fn_Copy hE _ (Nat.lt_succ_self _) (by have := (hn p hp).2; omega) hb
    exact ⟨r, q1, q2, q3⟩)
  -- the copies of those that are taken
  let pick : Nat → List AV := fun i => ((ps.zip rs).take i).filterMap fun q => if keyIs key q.1 then some q.2 else none
  have hlr := h4.length
  have hpick : ∀ i p r, ps[i]? = some p → rs[i]? = some r → pick (i + 1) = pick i ++ if keyIs key p then [r] else [] := by
    intro i p r hp hr
    simp only [pick]
    rw [List.take_add_one, (List.getElem?_zip_eq_some (z := (p, r))).2 ⟨hp, hr⟩, Option.toList_some, List.filterMap_append]
    congr 1
    cases hk : keyIs key p <;> simp [hk]
  have hsl : ∀ i, i ≤ ps.length → Sls (getB (ps.take i) key) (pick i) ∧ AV.untokL (pick i) = pick i ∧ (pick i).length ≤ i := by
    intro i
    induction i with
    | zero => intro _; simp [pick, getB, Sls, All2, AV.untokL]
    | succ i ih =>
      intro hi
      obtain ⟨q1, q2, q3⟩ := ih (by omega)
      obtain ⟨p, hp⟩ : ∃ p, ps[i]? = some p := ⟨_, List.getElem?_eq_getElem (by omega)⟩
      obtain ⟨r, hr, hrs, hru⟩ := h4.get hp
      rw [hpick i p r hp hr, getB_take hp]
      cases hk : keyIs key p with
      | true =>
        refine ⟨Sls.snoc q1 hrs, ?_, by simp; omega⟩
        have : ∀ l : List AV, AV.untokL (l ++ [r]) = AV.untokL l ++ [r.untok] := by
          intro l; induction l with
          | nil => rfl
          | cons a l ih => simp only [List.cons_append, AV.untokL, ih]
        rw [if_pos rfl, this, q2, hru]
      | false => simp; exact ⟨q1, q2, by omega⟩
  obtain ⟨e1, e2, e3⟩ := hsl ps.length (Nat.le_refl _)
  rw [List.take_length] at e1
  refine ⟨pick ps.length, e1, Fn.byW (h_builtin_Get hE) rfl rfl ⟨K1 + K2 + K3 + K4 + ps.length + 3, fun k hk bl tk => ?_⟩⟩
  simp [F_builtin_Get, b_builtin_Get, append_get, append_get0, h1 k (by omega), h2 k (by omega)]
  refine wp_loop xs.length (fun i e s => ∃ b, bl.length ≤ b.length ∧ e = [(1, .sl ow 3 xw), (8, outV 1 tk.length (pick i)), (22, .sl ob 2 xs), (23, .int .i64 xs.length), (24, .int .i64 i)] ∧ s = { bl := b, tk := outT tk (pick i), ro := bl.length, rt := tk.length }) (by omega) (by refine ⟨_, ?_, rfl, rfl⟩; simp) ?_ ?_
  · rintro i e s hi ⟨b, hbl, rfl, rfl⟩
    obtain ⟨p, hp⟩ : ∃ p, ps[i]? = some p := ⟨_, List.getElem?_eq_getElem (by omega)⟩
    obtain ⟨x, hxi, u, t, rfl, hu, ht⟩ := hx.get hp
    obtain ⟨r, hr, hrs, hru⟩ := h4.get hp
    have g1 := h3 k (by omega) i _ p hxi hp
    obtain ⟨r2, hr2, _, g2⟩ := h5 k (by omega) i _ p hxi hp
    rw [hr] at hr2; cases hr2
    simp only [fst2, snd2] at g1 g2
    obtain ⟨hi1, hx1⟩ := List.getElem?_eq_some_iff.1 hxi
    have e1 : idx (.int .i64 i) xs.length = some i := idx_nat hi
    have hwr : IntKind.wrap .i64 ((i : Int) + 1) = i + 1 := wrapIn (by omega) (by omega)
    obtain ⟨q1, q2, q3⟩ := hsl i (by omega)
    obtain ⟨o3, x3, rfl⟩ : ∃ o xs, u = .sl o 3 xs := by obtain ⟨o, xs, h, _⟩ := hu; exact ⟨o, xs, h⟩
    obtain ⟨o4, x4, rfl⟩ : ∃ o xs, t = .sl o 3 xs := by obtain ⟨o, xs, h, _⟩ := ht; exact ⟨o, xs, h⟩
    obtain ⟨o5, x5, rfl⟩ : ∃ o xs, r = .sl o 3 xs := by obtain ⟨o, xs, h, _⟩ := hrs; exact ⟨o, xs, h⟩
    rw [hpick i p _ hp hr]
    have hb1 : bl.length ≤ b.length + 1 := by omega
    cases hk : keyIs key p with
    | false =>
      rw [hk] at g1
      simp [l0_builtin_Get, hi, e1, hx1, append_get, append_get0, append_set, append_set0, hbl, hb1, g1, hwr]
    | true =>
      rw [hk] at g1
      have ha : ∀ b', appA { bl := b', tk := outT tk (pick i), ro := bl.length, rt := tk.length } 1 (outV 1 tk.length (pick i)) (.sl .full 1 [.sl o5 3 x5]) = some (outV 1 tk.length (pick i ++ [.sl o5 3 x5]), { bl := b', tk := outT tk (pick i ++ [.sl o5 3 x5]), ro := bl.length, rt := tk.length }) := by
        intro b'
        have := app_one (bl := b') (tk := tk) (ro := bl.length) (rt := tk.length) (z := 1) (ys := pick i) (y := .sl o5 3 x5) (o := .full) (by omega) (Nat.le_refl _)
        rw [hru] at this; exact this
      simp [l0_builtin_Get, hi, e1, hx1, append_get, append_get0, append_set, append_set0, hbl, hb1, g1, g2, hwr, setElems, repl, hasSize, hru, ha]
  · rintro e s ⟨b, hbl, rfl, rfl⟩
    rw [hlx]
    have hd := e1.data
    obtain ⟨oq, hq1, _, hq2⟩ := outV_sl 1 tk.length (pick ps.length)
    simp [l0_builtin_Get, hlx, outV_data, hd, outV_untok]
end
end Ab.B

/- Slices made by append, from nil or from an empty literal on. No condition. -/
namespace Ab
open Go
def outG (o : Own) (z T : Nat) (ys : List AV) : AV := if ys = [] then .sl o z [] else .sl (.tok T) z ys
def endG (o : Own) (z : Nat) (ys : List AV) : AV := if ys = [] then .sl o z [] else .sl .any z ys
@[simp] theorem outG_nil (o : Own) (z T : Nat) : outG o z T [] = .sl o z [] := rfl
theorem outV_outG (z T : Nat) (ys : List AV) : outV z T ys = outG .nil z T ys := rfl
theorem endV_endG (z : Nat) (ys : List AV) : endV z ys = endG .nil z ys := rfl
theorem outG_untok {o : Own} (ho : o = .nil ∨ o = .full) (z T : Nat) (ys : List AV) : (outG o z T ys).untok = endG o z ys := by
  rcases ho with rfl | rfl <;> unfold outG endG <;> split <;> rfl
theorem outG_data (o : Own) (z T : Nat) (ys : List AV) : (outG o z T ys).data = AV.dataL ys := by
  unfold outG; split
  · rename_i h; subst h; rfl
  · rfl
theorem endG_data (o : Own) (z : Nat) (ys : List AV) : (endG o z ys).data = AV.dataL ys := by
  unfold endG; split
  · rename_i h; subst h; rfl
  · rfl
theorem endG_untok {o : Own} (ho : o = .nil ∨ o = .full) (z : Nat) (ys : List AV) : (endG o z ys).untok = endG o z ys := by
  rcases ho with rfl | rfl <;> unfold endG <;> split <;> rfl
theorem endG_sl (o : Own) (z : Nat) (ys : List AV) : ∃ o', endG o z ys = .sl o' z ys ∧ (o' = .nil → ys = []) := by
  unfold endG; split
  · rename_i h; subst h; exact ⟨_, rfl, fun _ => rfl⟩
  · exact ⟨_, rfl, fun h => by cases h⟩
theorem outG_sl (o : Own) (z T : Nat) (ys : List AV) : ∃ o', outG o z T ys = .sl o' z ys ∧ (o' = .nil → ys = []) := by
  unfold outG; split
  · rename_i h; subst h; exact ⟨_, rfl, (fun _ => rfl)⟩
  · exact ⟨_, rfl, (fun h => by cases h)⟩
theorem app_outG {o0 : Own} (h0 : o0 = .nil ∨ o0 = .full) {bl : List AB} {tk : List Nat} {ro rt z : Nat} {ys zs : List AV} {o : Own} (hl : ys.length + zs.length ≤ most) (hr : rt ≤ tk.length) :
    appA { bl, tk := outT tk ys, ro, rt } z (outG o0 z tk.length ys) (.sl o z zs) = some (outG o0 z tk.length (ys ++ AV.untokL zs), { bl, tk := outT tk (ys ++ AV.untokL zs), ro, rt }) := by
  cases zs with
  | nil => by_cases hy : ys = [] <;> simp [outG, outT, appA, ysOf, AV.untokL, hy] <;> simpa using hl
  | cons a zs =>
    simp only [List.length_cons] at hl
    by_cases hy : ys = []
    · subst hy
      simp only [List.length_nil, Nat.zero_add] at hl
      rcases h0 with rfl | rfl <;> simp [outG, outT, appA, ysOf, AV.untokL, hl]
    · simp [outG, outT, appA, ysOf, AV.untokL, hy, hl, hr]
theorem app_oneG {o0 : Own} (h0 : o0 = .nil ∨ o0 = .full) {bl : List AB} {tk : List Nat} {ro rt z : Nat} {ys : List AV} {y : AV} {o : Own} (hl : ys.length < most) (hr : rt ≤ tk.length) :
    appA { bl, tk := outT tk ys, ro, rt } z (outG o0 z tk.length ys) (.sl o z [y]) = some (outG o0 z tk.length (ys ++ [y.untok]), { bl, tk := outT tk (ys ++ [y.untok]), ro, rt }) :=
  app_outG h0 (zs := [y]) hl hr
end Ab

/- The law's closed example: the machine's text is run by the kernel. No condition but the table. -/
namespace Ab.B
open Go Ab
set_option maxRecDepth 100000
def E0 : IEnv := { fns := Table.fn table, glob := fun _ => .junk, prim := fun _ _ => none }
theorem awake0 (j : Nat) (bl : List AB) (tk : List Nat) (ro rt : Nat) : callA E0 (j + 200) none (.fn n_chiasmuslaw10_awake [] []) [] { bl, tk, ro, rt } = some (.ret (.bool true), false, { bl, tk, ro, rt }) := by kernel_rfl
theorem fn_awake : FnK 200 E0 (.fn n_chiasmuslaw10_awake [] []) [] (.bool true) := fun k hk s => by
  obtain ⟨j, rfl⟩ : ∃ j, k = j + 200 := ⟨k - 200, by omega⟩
  obtain ⟨bl, tk, ro, rt⟩ := s
  exact awake0 j bl tk ro rt
end Ab.B

/- The reference's 'Get'; 'BuiltinStores'. No condition but the table. -/
namespace Ab.B
open Go Ab Go.RowKit
set_option maxRecDepth 10000
set_option linter.all false
section
variable {E : IEnv} (hE : E.fns = Table.fn table)
include hE
theorem fn_ref_Get {ps : List Bur} {os : List (List UInt8)} {key : List Tm} {v w : AV} (hm : szS ps os) {M : Nat} (hM : M ≤ maxLen) (hn : ∀ p ∈ ps, nTs p.1 < most ∧ nTs p.2 < most) (hS : ShortS M ps) (hv : Sto ps os v)
    (hw : Sl key w) (hkn : nTs key < most) (hkS : Shorts M key) :
    if checkB ps os ≠ 0 then Fn E (.fn n_chiasmusref10_Get [] []) [v, w] (.tup [.sl .nil 1 [], .int .i64 (checkB ps os)]) else if checkT 4 key ≠ 0 then Fn E (.fn n_chiasmusref10_Get [] []) [v, w] (.tup [.sl .nil 1 [], .int .i64 (checkT 4 key)])
    else ∃ rs, Sls (getB ps key) rs ∧ Fn E (.fn n_chiasmusref10_Get [] []) [v, w] (.tup [endG .full 1 rs, .int .i64 0]) := by
  obtain ⟨K1, h1⟩ := fn_ref_Check hE hm hM hn hS hv
  obtain ⟨K2, h2⟩ := fn_ref_Value hE hw hkn hM hkS
  obtain ⟨ob, xs, oo, ys, rfl, hx, hy, hb, ho⟩ := hv
  have hlx := hx.length
  have hmm : most = 1073741824 := rfl
  obtain ⟨hm1, hm2, hm3⟩ := hm
  obtain ⟨ow, xw, rfl⟩ : ∃ o xs, w = .sl o 3 xs := by obtain ⟨o, xs, h, _⟩ := hw; exact ⟨o, xs, h⟩
  split
  · rename_i z
    have z' : (checkB ps os != 0) = true := by simpa using z
    refine Fn.byW (h_chiasmusref10_Get hE) rfl rfl ⟨K1, fun k hk bl tk => ?_⟩
    simp [F_chiasmusref10_Get, b_chiasmusref10_Get, append_get, append_get0, h1 k hk, z']
  rename_i z
  have z0 : checkB ps os = 0 := by simpa using z
  rw [z0] at h1
  split
  · rename_i zk
    have zk' : (checkT 4 key != 0) = true := by simpa using zk
    refine Fn.byW (h_chiasmusref10_Get hE) rfl rfl ⟨K1 + K2, fun k hk bl tk => ?_⟩
    simp [F_chiasmusref10_Get, b_chiasmusref10_Get, append_get, append_get0, h1 k (by omega), h2 k (by omega), zk']
  rename_i zk
  have zk0 : checkT 4 key = 0 := by simpa using zk
  rw [zk0] at h2
  obtain ⟨K3, h3⟩ := all_ev (E := E) (f := .fn n_chiasmusref01_Equal [] []) (g := fun x => [fst2 x, .sl ow 3 xw]) (c := fun p => .bool (keyIs key p)) hx (by
    rintro p x hp ⟨a, b, rfl, ha, hb⟩
    exact fn_ref_Equal hE ha hw)
  let pick : Nat → List AV := fun i => ((ps.zip xs).take i).filterMap fun q => if keyIs key q.1 then some (snd2 q.2).untok else none
  have hpick : ∀ i p r, ps[i]? = some p → xs[i]? = some r → pick (i + 1) = pick i ++ if keyIs key p then [(snd2 r).untok] else [] := by
    intro i p r hp hr
    simp only [pick]
    rw [List.take_add_one, (List.getElem?_zip_eq_some (z := (p, r))).2 ⟨hp, hr⟩, Option.toList_some, List.filterMap_append]
    congr 1
    cases hk : keyIs key p <;> simp [hk]
  have hsl : ∀ i, i ≤ ps.length → Sls (getB (ps.take i) key) (pick i) ∧ AV.untokL (pick i) = pick i ∧ (pick i).length ≤ i := by
    intro i
    induction i with
    | zero => intro _; simp [pick, getB, Sls, All2, AV.untokL]
    | succ i ih =>
      intro hi
      obtain ⟨q1, q2, q3⟩ := ih (by omega)
      obtain ⟨p, hp⟩ : ∃ p, ps[i]? = some p := ⟨_, List.getElem?_eq_getElem (by omega)⟩
      obtain ⟨x, hxi, u, t, rfl, hu, ht⟩ := hx.get hp
      rw [hpick i p _ hp hxi, getB_take hp]
      cases hk : keyIs key p with
      | true =>
        refine ⟨Sls.snoc q1 ht.untok, ?_, by simp; omega⟩
        have : ∀ (l : List AV) r, AV.untokL (l ++ [r]) = AV.untokL l ++ [r.untok] := by
          intro l r; induction l with
          | nil => rfl
          | cons a l ih => simp only [List.cons_append, AV.untokL, ih]
        rw [if_pos rfl, this, q2, AV.untok_untok]
      | false => simp; exact ⟨q1, q2, by omega⟩
  obtain ⟨e1, e2, e3⟩ := hsl ps.length (Nat.le_refl _)
  rw [List.take_length] at e1
  refine ⟨pick ps.length, e1, Fn.byW (h_chiasmusref10_Get hE) rfl rfl ⟨K1 + K2 + K3 + ps.length + 3, fun k hk bl tk => ?_⟩⟩
  simp [F_chiasmusref10_Get, b_chiasmusref10_Get, append_get, append_get0, h1 k (by omega), h2 k (by omega), setElems, repl]
  refine wp_loop xs.length (fun i e s => e = [(1, .sl ow 3 xw), (2, .ptr bl.length 0), (8, outG .full 1 tk.length (pick i)), (9, .int .i64 i)] ∧ s = { bl := bl ++ [.cells [.sl ob 2 xs, .sl oo 1 ys]], tk := outT tk (pick i), ro := bl.length, rt := tk.length }) (by omega) ⟨rfl, rfl⟩ ?_ ?_
  · rintro i e s hi ⟨rfl, rfl⟩
    obtain ⟨p, hp⟩ : ∃ p, ps[i]? = some p := ⟨_, List.getElem?_eq_getElem (by omega)⟩
    obtain ⟨x, hxi, u, t, rfl, hu, ht⟩ := hx.get hp
    have g1 := h3 k (by omega) i _ p hxi hp
    simp only [fst2] at g1
    obtain ⟨hi1, hx1⟩ := List.getElem?_eq_some_iff.1 hxi
    have e1 : idx (.int .i64 i) xs.length = some i := idx_nat hi
    have hwr : IntKind.wrap .i64 ((i : Int) + 1) = i + 1 := wrapIn (by omega) (by omega)
    obtain ⟨q1, q2, q3⟩ := hsl i (by omega)
    obtain ⟨o4, x4, rfl⟩ : ∃ o xs, t = .sl o 3 xs := by obtain ⟨o, xs, h, _⟩ := ht; exact ⟨o, xs, h⟩
    obtain ⟨o5, _, hu5⟩ := untok_sl o4 3 x4
    rw [hpick i p _ hp hxi]
    simp only [snd2, hu5]
    cases hk : keyIs key p with
    | false =>
      rw [hk] at g1
      simp [l0_chiasmusref10_Get, hi, e1, hx1, append_get, append_get0, g1, hwr]
    | true =>
      rw [hk] at g1
      have ha : ∀ b', appA { bl := b', tk := outT tk (pick i), ro := bl.length, rt := tk.length } 1 (outG .full 1 tk.length (pick i)) (.sl .full 1 [.sl o5 3 x4]) = some (outG .full 1 tk.length (pick i ++ [.sl o5 3 x4]), { bl := b', tk := outT tk (pick i ++ [.sl o5 3 x4]), ro := bl.length, rt := tk.length }) := by
        intro b'
        have := app_oneG (.inr rfl) (bl := b') (tk := tk) (ro := bl.length) (rt := tk.length) (z := 1) (ys := pick i) (y := .sl o5 3 x4) (o := .full) (by omega) (Nat.le_refl _)
        rw [← hu5, AV.untok_untok, hu5] at this; exact this
      simp [l0_chiasmusref10_Get, hi, e1, hx1, append_get, append_get0, g1, hwr, setElems, repl, hasSize, hu5, ha]
  · rintro e s ⟨rfl, rfl⟩
    rw [hlx]
    have hd := e1.data
    simp [l0_chiasmusref10_Get, hlx, outG_data, hd, outG_untok, append_get, append_get0]
theorem fn_Stores_1 {ts us : List Tm} {v w : AV} (hv : Sl ts v) (hw : Sl us w) : Fn E (.fn n_chiasmuslaw10_BuiltinStores_1 [] []) [v, w] (.bool (cmpTs ts us == 0)) := by
  obtain ⟨K, h⟩ := fn_ref_Equal hE hv hw
  exact Fn.byW (h_chiasmuslaw10_BuiltinStores_1 hE) rfl rfl ⟨K, fun k hk bl tk => by simp [F_chiasmuslaw10_BuiltinStores_1, b_chiasmuslaw10_BuiltinStores_1, h k hk]⟩
omit hE in
theorem sls_all {f : AV} : ∀ {l : List (List Tm)} {xs ys : List AV}, Sls l xs → Sls l ys → (∀ t v w, Sl t v → Sl t w → Fn E f [v, w] (.bool true)) →
    ∃ K, ∀ k, K ≤ k → ∀ (i : Nat) x y, xs[i]? = some x → ys[i]? = some y → ∀ s, callA E k none f [x, y] s = some (.ret (.bool true), false, s)
  | [], xs, ys, h, _, _ => ⟨0, fun _ _ i x y hx _ => by simp only [Sls, All2] at h; subst h; simp at hx⟩
  | t :: l, xs, ys, h, h', hf => by
    simp only [Sls, All2] at h h'
    obtain ⟨x, xs, rfl, h1, h2⟩ := h
    obtain ⟨y, ys, rfl, h3, h4⟩ := h'
    obtain ⟨K1, g1⟩ := hf t x y h1 h3
    obtain ⟨K2, g2⟩ := sls_all h2 h4 hf
    refine ⟨K1 + K2, fun k hk i a b ha hb => ?_⟩
    cases i with
    | zero => simp at ha hb; subst ha; subst hb; exact g1 k (by omega)
    | succ i => simp at ha hb; exact g2 k (by omega) i a b ha hb
theorem fn_EqualSls {l : List (List Tm)} {xs ys : List AV} {o o' : Own} (h : Sls l xs) (h' : Sls l ys) (hm : l.length ≤ most) : Fn E (.fn n_slices_EqualFunc_____api_Term_____api_Term___api_Term___api_Term_ [] []) [.sl o 1 xs, .sl o' 1 ys, .fn n_chiasmuslaw10_BuiltinStores_1 [] []] (.bool true) := by
  have hlx := All2.length h
  have hly := All2.length h'
  have hmm : most = 1073741824 := rfl
  obtain ⟨K, hK⟩ := sls_all (E := E) (f := .fn n_chiasmuslaw10_BuiltinStores_1 [] []) h h' fun t v w hv hw => by
    have := fn_Stores_1 hE hv hw
    rw [cmpTs_self] at this; exact this
  refine Fn.byW (h_slices_EqualFunc_____api_Term_____api_Term___api_Term___api_Term_ hE) rfl rfl ⟨K + l.length + 3, fun k hk bl tk => ?_⟩
  have hne : ((xs.length : Int) != ys.length) = false := by rw [hlx, hly]; simp
  simp [F_slices_EqualFunc_____api_Term_____api_Term___api_Term___api_Term_, b_slices_EqualFunc_____api_Term_____api_Term___api_Term___api_Term_, hne]
  refine wp_loop xs.length (fun i e s => e = [(1, .sl o' 1 ys), (2, .fn n_chiasmuslaw10_BuiltinStores_1 [] []), (15, .sl o 1 xs), (16, .int .i64 xs.length), (17, .int .i64 i)] ∧ s = { bl, tk, ro := bl.length, rt := tk.length }) (by omega) ⟨rfl, rfl⟩ ?_ ?_
  · rintro i e s hi ⟨rfl, rfl⟩
    obtain ⟨t, ht⟩ : ∃ t, l[i]? = some t := ⟨_, List.getElem?_eq_getElem (by omega)⟩
    obtain ⟨x, hx, hxs⟩ := All2.get h ht
    obtain ⟨y, hy, hys⟩ := All2.get h' ht
    obtain ⟨hi1, hx1⟩ := List.getElem?_eq_some_iff.1 hx
    obtain ⟨hi2, hy1⟩ := List.getElem?_eq_some_iff.1 hy
    have e1 : idx (.int .i64 i) xs.length = some i := idx_nat hi1
    have e2 : idx (.int .i64 i) ys.length = some i := idx_nat hi2
    have hwr : IntKind.wrap .i64 ((i : Int) + 1) = i + 1 := wrapIn (by omega) (by omega)
    have g := hK k (by omega) i x y hx hy
    obtain ⟨o3, x3, rfl⟩ : ∃ o xs, x = .sl o 3 xs := by obtain ⟨o, xs, h, _⟩ := hxs; exact ⟨o, xs, h⟩
    obtain ⟨o4, x4, rfl⟩ : ∃ o xs, y = .sl o 3 xs := by obtain ⟨o, xs, h, _⟩ := hys; exact ⟨o, xs, h⟩
    simp [l0_slices_EqualFunc_____api_Term_____api_Term___api_Term___api_Term_, hi, e1, e2, hx1, hy, g, hwr]
  · rintro e s ⟨rfl, rfl⟩
    simp [l0_slices_EqualFunc_____api_Term_____api_Term___api_Term___api_Term_]
theorem fn_Stores {ps : List Bur} {os : List (List UInt8)} {key : List Tm} {v w : AV} (ha : Fn E (.fn n_chiasmuslaw10_awake [] []) [] (.bool true)) (hm : szS ps os) {M : Nat} (hM : M ≤ maxLen) (hn : ∀ p ∈ ps, nTs p.1 < most ∧ nTs p.2 < most) (hS : ShortS M ps) (hv : Sto ps os v)
    (hw : Sl key w) (hkn : nTs key < most) (hkS : Shorts M key) : Fn E (.fn n_chiasmuslaw10_BuiltinStores [] []) [v, w] (.bool true) := by
  obtain ⟨K0, h0⟩ := ha
  obtain ⟨K1, h1⟩ := fn_SmallStore hE hm hv
  obtain ⟨K2, h2⟩ := fn_Small hE (by omega) hw
  obtain ⟨K3, h3⟩ := fn_Check hE hm hM hn hS hv
  obtain ⟨K4, h4⟩ := fn_ref_Check hE hm hM hn hS hv
  have g1 := fn_Get hE hm hM hn hS hv hw hkn hkS
  have g2 := fn_ref_Get hE hm hM hn hS hv hw hkn hkS
  have e1 : calm E (.fn n_slices_EqualFunc_____api_Term_____api_Term___api_Term___api_Term_ [] []) = true := c_slices_EqualFunc_____api_Term_____api_Term___api_Term___api_Term_ hE [] []
  have e2 : calm E (.fn n_builtin_Check [] []) = true := c_builtin_Check hE [] []
  have e3 : calm E (.fn n_chiasmusref10_Check [] []) = true := c_chiasmusref10_Check hE [] []
  have e4 : calm E (.fn n_chiasmuslaw10_awake [] []) = true := c_chiasmuslaw10_awake hE [] []
  have hg : ∃ (o1 o2 : Own) (xs ys : List AV) (c : Int) (l : List (List Tm)), Sls l xs ∧ Sls l ys ∧ l.length ≤ most ∧ Fn E (.fn n_builtin_Get [] []) [v, w] (.tup [.sl o1 1 xs, .int .i64 c]) ∧ Fn E (.fn n_chiasmusref10_Get [] []) [v, w] (.tup [.sl o2 1 ys, .int .i64 c]) := by
    split at g1
    · rename_i z
      rw [if_pos z] at g2
      exact ⟨_, _, _, _, _, [], by simp [Sls, All2], by simp [Sls, All2], by simp, g1, g2⟩
    · rename_i z
      rw [if_neg z] at g2
      split at g1
      · rename_i z2
        rw [if_pos z2] at g2
        exact ⟨_, _, _, _, _, [], by simp [Sls, All2], by simp [Sls, All2], by simp, g1, g2⟩
      · rename_i z2
        rw [if_neg z2] at g2
        obtain ⟨xs, q1, q2⟩ := g1
        obtain ⟨ys, q3, q4⟩ := g2
        obtain ⟨oa, ea, _⟩ := endV_sl 1 xs
        obtain ⟨ob, eb, _⟩ := endG_sl .full 1 ys
        rw [ea] at q2
        rw [eb] at q4
        refine ⟨_, _, _, _, _, _, q1, q3, ?_, q2, q4⟩
        have := hm.1
        have hf : (getB ps key).length ≤ ps.length := by unfold getB; rw [List.length_map]; exact List.length_filter_le _ _
        omega
  obtain ⟨o1, o2, xs, ys, c, l, s1, s2, hl, ⟨K5, h5⟩, ⟨K6, h6⟩⟩ := hg
  obtain ⟨K7, h7⟩ := fn_EqualSls hE (o := o1) (o' := o2) s1 s2 hl
  refine Fn.byW (h_chiasmuslaw10_BuiltinStores hE) rfl rfl ⟨K0 + K1 + K2 + K3 + K4 + K5 + K6 + K7, fun k hk bl tk => ?_⟩
  have f0 := h0 k (by omega)
  have f1 := h1 k (by omega)
  have f2 := h2 k (by omega)
  have f3 := h3 k (by omega)
  have f4 := h4 k (by omega)
  have f5 := h5 k (by omega)
  have f6 := h6 k (by omega)
  have f7 := h7 k (by omega)
  obtain ⟨ob, vx, oo, vy, rfl, _⟩ := hv
  obtain ⟨ow, xw, rfl⟩ : ∃ o xs, w = .sl o 3 xs := by obtain ⟨o, xs, h, _⟩ := hw; exact ⟨o, xs, h⟩
  cases b1 : smallS ps os with
  | false =>
    rw [b1] at f1
    simp [F_chiasmuslaw10_BuiltinStores, b_chiasmuslaw10_BuiltinStores, append_get, append_get0, f0, f1]
  | true =>
    rw [b1] at f1
    cases b2 : (decide (ndL 300 0 key ≤ 300) && shortL key) with
    | false =>
      rw [b2] at f2
      simp [F_chiasmuslaw10_BuiltinStores, b_chiasmuslaw10_BuiltinStores, append_get, append_get0, f0, f1, f2]
    | true =>
      rw [b2] at f2
      simp [F_chiasmuslaw10_BuiltinStores, b_chiasmuslaw10_BuiltinStores, append_get, append_get0, f0, f1, f2, f3, f4, f5, f6, f7, e1, e2, e3, e4]
end
end Ab.B
