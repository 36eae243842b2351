/- What 'chiasmuslaw09.Small' answers. No condition but the table. -/
import Derived.Test.YtcbbpkdidkbepaaDoorAb08
set_option linter.all false
namespace Ab.R
open Go Ab Go.RowKit
set_option maxRecDepth 10000
set_option linter.unusedSimpArgs false
set_option linter.unusedVariables false
section
variable {E : IEnv} (hE : E.fns = Table.fn table)
include hE
theorem fn_nodes : ∀ (n : Nat) {ts : List Tm} {v : AV} (d : Nat) (left : Int), nTs ts < n → d ≤ 151 → -1 ≤ left → left ≤ 1000000 → Sl ts v → FnK (2 * nTs ts + 3) E (.fn n_chiasmuslaw09_nodes [] []) [v, .int .i64 left, .int .i64 d] (.int .i64 (nodesL d left 0 ts))
  | 0, _, _, _, _, h, _, _, _, _ => by omega
  | n + 1, ts, v, d, left, hn, hd, hl0, hl1, hv => by
    obtain ⟨o1, xs, rfl, ⟨hm1, _⟩, h1⟩ := hv
    have hl := h1.length
    have hlt := length_le_nTs ts
    have hmx : maxLen = 9223372036854775807 := rfl
    refine FnK.byW (h_chiasmuslaw09_nodes hE) rfl rfl (K := 2 * nTs ts + 2) fun k hk bl tk => ?_
    simp [F_chiasmuslaw09_nodes, b_chiasmuslaw09_nodes]
    refine wp_loop xs.length (fun i e s => ∃ m : Int, 0 ≤ m ∧ m ≤ left + 1 ∧ nodesL d left 0 ts = nodesL d left m (ts.drop i) ∧ e = [(0, .sl o1 3 xs), (1, .int .i64 left), (2, .int .i64 d), (7, .int .i64 m), (8, .int .i64 i)] ∧ s = { bl := bl, tk, ro := bl.length, rt := tk.length }) (by omega) ⟨0, by simp; omega⟩ ?_ ?_
    · rintro i e s hi ⟨m, hm0, hm1', hq, rfl, rfl⟩
      obtain ⟨t, ht⟩ : ∃ t, ts[i]? = some t := ⟨_, List.getElem?_eq_getElem (by omega)⟩
      obtain ⟨x, hx, hrx⟩ := h1.get ht
      obtain ⟨kx, rfl, hkx⟩ := hrx.open
      obtain ⟨hi1, hx1⟩ := List.getElem?_eq_some_iff.1 hx
      have e1 : idx (.int .i64 i) xs.length = some i := idx_nat hi1
      have hwr : IntKind.wrap .i64 ((i : Int) + 1) = i + 1 := wrapIn (by omega) (by omega)
      obtain ⟨hti, ht1⟩ := List.getElem?_eq_some_iff.1 ht
      have hle := nT_mem (List.mem_of_getElem? ht)
      rw [nT_eq] at hle
      rw [List.drop_eq_getElem_cons hti, ht1, nodesL] at hq
      by_cases c1 : m ≤ left
      · rw [if_pos c1] at hq
        by_cases c2 : 150 < d
        · rw [if_pos c2] at hq
          have c2' : (150 : Int) < (d : Int) := by omega
          have w1 : IntKind.wrap .i64 (left + 1) = left + 1 := wrapIn (by omega) (by omega)
          simp [l0_chiasmuslaw09_nodes, hi, c1, c2', w1, hq]
        · rw [if_neg c2, nodesK_eq] at hq
          have c2' : ¬ (150 : Int) < (d : Int) := by omega
          have hb := nodesL_bound (d + 1) (left - m - 1) 0 t.kids (by omega)
          have hc := fn_nodes n (d + 1) (left - m - 1) (by omega) (by omega) (by omega) (by omega) hkx k (by omega)
          obtain ⟨r, hr⟩ : ∃ r, r = nodesL (d + 1) (left - m - 1) 0 t.kids := ⟨_, rfl⟩
          rw [← hr] at hc hq hb
          have w1 : IntKind.wrap .i64 (left - m) = left - m := wrapIn (by omega) (by omega)
          have w2 : IntKind.wrap .i64 (left - m - 1) = left - m - 1 := wrapIn (by omega) (by omega)
          have w3 : IntKind.wrap .i64 ((d : Int) + 1) = (d : Int) + 1 := wrapIn (by omega) (by omega)
          have w4 : IntKind.wrap .i64 (1 + r) = 1 + r := wrapIn (by omega) (by omega)
          have w5 : IntKind.wrap .i64 (m + (1 + r)) = m + (1 + r) := wrapIn (by omega) (by omega)
          have hc' : ∀ s, callA E k none (.fn n_chiasmuslaw09_nodes [] []) [kx, .int .i64 (left - m - 1), .int .i64 ((d : Int) + 1)] s = some (.ret (.int .i64 r), false, s) := by exact_mod_cast hc
          simp [l0_chiasmuslaw09_nodes, hi, c1, c2', e1, hi1, hx, hx1, w1, w2, w3, w4, w5, hc', hwr]
          exact ⟨_, by omega, by omega, hq, rfl⟩
      · rw [if_neg c1] at hq
        simp [l0_chiasmuslaw09_nodes, hi, c1, hq]
    · rintro e s ⟨m, hm0, hm1', hq, rfl, rfl⟩
      rw [List.drop_of_length_le (by omega), nodesL] at hq
      simp [l0_chiasmuslaw09_nodes, hq]

theorem fn_short : ∀ (n : Nat) {ts : List Tm} {v : AV}, nTs ts < n → Sl ts v → FnK (2 * nTs ts + 3) E (.fn n_chiasmuslaw09_short [] []) [v] (.bool (shortL ts))
  | 0, _, _, h, _ => by omega
  | n + 1, ts, v, hn, hv => by
    obtain ⟨o1, xs, rfl, ⟨hm1, _⟩, h1⟩ := hv
    have hl := h1.length
    have hlt := length_le_nTs ts
    have hmx : maxLen = 9223372036854775807 := rfl
    refine FnK.byW (h_chiasmuslaw09_short hE) rfl rfl (K := 2 * nTs ts + 2) fun k hk bl tk => ?_
    simp [F_chiasmuslaw09_short, b_chiasmuslaw09_short]
    refine wp_loop xs.length (fun i e s => shortL ts = shortL (ts.drop i) ∧ e = [(0, .sl o1 3 xs), (3, .int .i64 i)] ∧ s = { bl := bl, tk, ro := bl.length, rt := tk.length }) (by omega) (by simp) ?_ ?_
    · rintro i e s hi ⟨hq, rfl, rfl⟩
      obtain ⟨t, ht⟩ : ∃ t, ts[i]? = some t := ⟨_, List.getElem?_eq_getElem (by omega)⟩
      obtain ⟨x, hx, hrx⟩ := h1.get ht
      obtain ⟨kx, rfl, hkx⟩ := hrx.open
      obtain ⟨hi1, hx1⟩ := List.getElem?_eq_some_iff.1 hx
      have e1 : idx (.int .i64 i) xs.length = some i := idx_nat hi1
      have hwr : IntKind.wrap .i64 ((i : Int) + 1) = i + 1 := wrapIn (by omega) (by omega)
      obtain ⟨hti, ht1⟩ := List.getElem?_eq_some_iff.1 ht
      have hle := nT_mem (List.mem_of_getElem? ht)
      rw [nT_eq] at hle
      rw [List.drop_eq_getElem_cons hti, ht1, shortL, shortE_eq] at hq
      by_cases c1 : t.text.length ≤ 600
      · have c1' : ¬ (600 : Int) < (t.text.length : Int) := by omega
        have hc := fn_short n (by omega) hkx k (by omega)
        simp only [c1, decide_true, Bool.true_and] at hq
        cases c2 : shortL t.kids with
        | true =>
          rw [c2, Bool.true_and] at hq
          rw [c2] at hc
          simp [l0_chiasmuslaw09_short, hi, c1', e1, hi1, hx, hx1, hc, hwr, hq]
        | false =>
          rw [c2, Bool.false_and] at hq
          rw [c2] at hc
          simp [l0_chiasmuslaw09_short, hi, c1', e1, hi1, hx, hx1, hc, hwr, hq]
      · have c1' : (600 : Int) < (t.text.length : Int) := by omega
        simp only [c1, decide_false, Bool.false_and] at hq
        simp [l0_chiasmuslaw09_short, hi, c1', e1, hi1, hx, hx1, hwr, hq]
    · rintro e s ⟨hq, rfl, rfl⟩
      rw [List.drop_of_length_le (by omega), shortL] at hq
      simp [l0_chiasmuslaw09_short, hq]

theorem fn_Small {ts : List Tm} {v : AV} (hv : Sl ts v) (m : Int) (h0 : 0 ≤ m) (h1 : m ≤ 1000000) : Fn E (.fn n_chiasmuslaw09_Small [] []) [v, .int .i64 m] (.bool (smallT ts m)) := by
  have hn := fn_nodes hE _ 0 m (Nat.lt_succ_self _) (by omega) (by omega) h1 hv
  have hs := fn_short hE _ (Nat.lt_succ_self _) hv
  refine Fn.byW (h_chiasmuslaw09_Small hE) rfl rfl ⟨2 * nTs ts + 3, fun k hk bl tk => ?_⟩
  have hn' : ∀ s, callA E k none (.fn n_chiasmuslaw09_nodes [] []) [v, .int .i64 m, .int .i64 0] s = some (.ret (.int .i64 (nodesL 0 m 0 ts)), false, s) := by exact_mod_cast hn k hk
  have hs' := hs k hk
  unfold smallT
  by_cases c : nodesL 0 m 0 ts ≤ m
  · simp [F_chiasmuslaw09_Small, b_chiasmuslaw09_Small, hn', hs', c]
  · simp [F_chiasmuslaw09_Small, b_chiasmuslaw09_Small, hn', hs', c]
end
end Ab.R

/- What the small functions of 'format' answer. No condition but the table. -/
namespace Ab.R
open Go Ab Go.RowKit
set_option maxRecDepth 10000
set_option linter.unusedSimpArgs false

section
variable {E : IEnv} (hE : E.fns = Table.fn table)
include hE

theorem fn_split_1 {t : Tm} {x : AV} (h : Rt t x) : FnK 1 E (.fn n_format_split_1 [] []) [x] (.bool (t.kind == 7)) := by
  obtain ⟨o, ys, rfl, _, _⟩ := h.shape
  refine FnK.of (h_format_split_1 hE) rfl rfl (K := 0) fun n hn bl tk => ?_
  simp [F_format_split_1, b_format_split_1, finR, fr0]
end

abbrev nIF := n_slices_IndexFunc___api_Term_api_Term_
def ifHead (o : Own) (xs : List AV) (f : AV) (i : Nat) : Env := [(0, .sl o 3 xs), (1, f), (7, .int .i64 xs.length), (8, .int .i64 i)]

theorem loop_IndexFunc {E : IEnv} {call : Caller} {k : Nat} (o : Own) {ts : List Tm} {xs : List AV} (hR : Rts ts xs) (f : AV) (p : Tm → Bool) (hn : xs.length ≤ maxLen)
    (hf : ∀ q ∈ ts.zip xs, ∀ s, call none f [q.2] s = some (.ret (.bool (p q.1)), false, s)) : ∀ (j i m : Nat) (fr : Fr) (s : St), i + j = ts.length → j < m → fr.env.kill [4, 5, 9, 16] = ifHead o xs f i → fr.defers = [] → fr.recd = false → (∀ t ∈ ts.take i, p t = false) →
      ∃ fr', iterA (codeA E call k l0_slices_IndexFunc___api_Term_api_Term_) [4, 5, 9, 16] m fr s = some (match ts.findIdx? p with | some _ => .ret | none => .exit 0, fr', s) ∧ fr'.defers = [] ∧ fr'.recd = false ∧ (∀ q, ts.findIdx? p = some q → fr'.env.get 4 = .int .i64 q)
  | 0, i, m + 1, fr, s, hi, hm, he, hd, hr, hp => by
    have hl := hR.length
    have : i = ts.length := by omega
    subst this
    simp only [List.take_length] at hp
    have hnone : ts.findIdx? p = none := by simpa using hp
    simp [iterA, he, l0_slices_IndexFunc___api_Term_api_Term_, ifHead, hnone, hl]
    exact ⟨hd, hr⟩
  | j + 1, i, m + 1, fr, s, hi, hm, he, hd, hr, hp => by
    have hl := hR.length
    have hlt : i < ts.length := by omega
    have hltx : i < xs.length := by omega
    have hmx : xs.length ≤ 9223372036854775807 := hn
    obtain ⟨y, hy, hry⟩ := hR.get (List.getElem?_eq_getElem hlt)
    have hyi : xs[i] = y := by rw [List.getElem?_eq_getElem hltx] at hy; simpa using hy
    have hcall := hf (ts[i], y) (by
      refine List.mem_iff_getElem?.2 ⟨i, ?_⟩
      rw [List.getElem?_zip_eq_some]
      exact ⟨List.getElem?_eq_getElem hlt, hy⟩)
    obtain ⟨o', ys, rfl, _, _⟩ := hry.shape
    simp only at hcall
    have hidx : idx (.int .i64 i) xs.length = some i := idx_nat hltx
    have hw : IntKind.wrap .i64 ((i : Int) + 1) = i + 1 := wrapIn (by omega) (by omega)
    cases hpx : p ts[i] with
    | true =>
      have hfind : ts.findIdx? p = some i := by
        rw [List.findIdx?_eq_some_iff_getElem]
        refine ⟨hlt, hpx, fun q hq => ?_⟩
        have := hp ts[q] (by rw [List.mem_take_iff_getElem]; exact ⟨q, by omega, rfl⟩)
        simpa using this
      simp [iterA, he, l0_slices_IndexFunc___api_Term_api_Term_, ifHead, hltx, hidx, hyi, hcall, hpx, hfind, hd, hr]
    | false =>
      have step : iterA (codeA E call k l0_slices_IndexFunc___api_Term_api_Term_) [4, 5, 9, 16] (m + 1) fr s = iterA (codeA E call k l0_slices_IndexFunc___api_Term_api_Term_) [4, 5, 9, 16] m { fr with env := [(0, .sl o 3 xs), (1, f), (5, .int .i64 i), (7, .int .i64 xs.length), (8, .int .i64 (i + 1)), (9, .bool true), (16, .bool false)] } s := by
        conv => lhs; rw [iterA]
        simp [he, l0_slices_IndexFunc___api_Term_api_Term_, ifHead, hltx, hidx, hyi, hcall, hpx, hw]
      rw [step]
      refine loop_IndexFunc o hR f p hn hf j (i + 1) m _ s (by omega) (by omega) (by simp [ifHead]) hd hr ?_
      intro t ht
      rw [List.take_add_one, List.getElem?_eq_getElem hlt] at ht
      simp only [Option.toList_some, List.mem_append, List.mem_singleton] at ht
      rcases ht with ht | rfl
      · exact hp t ht
      · exact hpx

section
variable {E : IEnv} (hE : E.fns = Table.fn table)
include hE

theorem fn_IndexFunc {Kf : Nat} (o : Own) {ts : List Tm} {xs : List AV} (hR : Rts ts xs) (hn : xs.length ≤ maxLen) (f : AV) (p : Tm → Bool) (hf : ∀ t x, t ∈ ts → Rt t x → FnK Kf E f [x] (.bool (p t))) :
    FnK (Kf + ts.length + 3) E (.fn nIF [] []) [.sl o 3 xs, f] (.int .i64 (match ts.findIdx? p with | some i => (i : Int) | none => -1)) := by
  have hz : ∀ k, Kf ≤ k → ∀ q ∈ ts.zip xs, ∀ s, callA E k none f [q.2] s = some (.ret (.bool (p q.1)), false, s) := by
    intro k hk q hq
    obtain ⟨i, hi⟩ := List.mem_iff_getElem?.1 hq
    obtain ⟨h1, h2⟩ := List.getElem?_zip_eq_some.1 hi
    obtain ⟨y, h3, h4⟩ := hR.get h1
    rw [h3] at h2; cases h2
    exact hf q.1 q.2 (List.mem_of_getElem? h1) h4 k hk
  refine FnK.of (h_slices_IndexFunc___api_Term_api_Term_ hE) rfl rfl (K := Kf + ts.length + 2) fun k hk bl tk => ?_
  obtain ⟨fr', h1, h2, h3, h4⟩ := loop_IndexFunc (E := E) (call := callA E k) (k := k) o hR f p hn (hz k (by omega)) ts.length 0 k { env := [(0, .sl o 3 xs), (1, f), (4, .int .i64 0), (7, .int .i64 xs.length), (8, .int .i64 0)], defers := [], rcv := none, recd := false, rnd := false } { bl, tk, ro := bl.length, rt := tk.length } (by omega) (by omega) (by simp [ifHead]) rfl rfl (by simp)
  simp only [F_slices_IndexFunc___api_Term_api_Term_, b_slices_IndexFunc___api_Term_api_Term_, finR, fr0]
  simp [codeA_loop, h1]
  cases hq : ts.findIdx? p with
  | none => simp [h2, h3, Env.get_put]
  | some q => simp [h2, h3, h4 q hq]
end
end Ab.R

/- What 'format.split' answers. No condition but the table. -/
namespace Ab.R
open Go Ab Go.RowKit
set_option maxRecDepth 10000
set_option linter.unusedSimpArgs false

structure Ls where
  op : Bool
  front : List Tm
  rear : List Tm
def splitT (l : List Tm) : Ls := match l.findIdx? (fun t => t.kind == 7) with
  | some i => ⟨true, l.take i, l.drop (i + 1)⟩
  | none => ⟨false, l, []⟩
def RLs (x : Ls) (v : AV) : Prop := ∃ f r, v = .agg [.bool x.op, f, r] ∧ Sl x.front f ∧ Sl x.rear r

def splitX (ts : List Tm) (xs : List AV) : List AV × List AV := match ts.findIdx? (fun t => t.kind == 7) with
  | some i => (xs.take i, xs.drop (i + 1))
  | none => (xs, [])
theorem splitX_front {ts : List Tm} {xs : List AV} (h : Rts ts xs) : Rts (splitT ts).front (splitX ts xs).1 := by
  unfold splitT splitX; split
  · exact h.take _
  · exact h
theorem splitX_rear {ts : List Tm} {xs : List AV} (h : Rts ts xs) : Rts (splitT ts).rear (splitX ts xs).2 := by
  unfold splitT splitX; split
  · exact h.drop _
  · simp [Rts]

section
variable {E : IEnv} (hE : E.fns = Table.fn table)
include hE
theorem fnk_split {o : Own} {ts : List Tm} {xs : List AV} (hn : xs.length ≤ maxLen) (ho : o = .nil → xs = []) (hR : Rts ts xs) : ∃ o1 o2, (o1 = .nil → (splitX ts xs).1 = []) ∧ (o2 = .nil → (splitX ts xs).2 = []) ∧
    FnK (ts.length + 5) E (.fn n_format_split [] []) [.sl o 3 xs] (.agg [.bool (splitT ts).op, .sl o1 3 (splitX ts xs).1, .sl o2 3 (splitX ts xs).2]) := by
  have hK := fn_IndexFunc hE o hR hn (.fn n_format_split_1 [] []) (fun t => t.kind == 7) (fun t x _ h => fn_split_1 hE h)
  have hd := hR.data
  have hl := hR.length
  have hm : maxLen = 9223372036854775807 := rfl
  cases hq : ts.findIdx? (fun t => t.kind == 7) with
  | none =>
    obtain ⟨o', hon, ho'⟩ := untok_sl o 3 xs
    simp only [splitT, splitX, hq]
    refine ⟨o', .nil, fun h => ho (hon h), by simp, FnK.of (h_format_split hE) rfl rfl (K := ts.length + 4) fun k hk bl tk => ?_⟩
    have h1 := hK k (by omega)
    simp only [hq] at h1
    simp [F_format_split, b_format_split, finR, fr0, h1, hd, ho']
  | some i =>
    have hlt : i < ts.length := (List.findIdx?_eq_some_iff_getElem.1 hq).1
    have hno : o ≠ .nil := fun h => by have := ho h; subst this; simp at hl; omega
    have hw : IntKind.wrap .i64 ((i : Int) + 1) = i + 1 := wrapIn (by omega) (by omega)
    have h2 := (hR.take i).data
    have h3 := (hR.drop (i + 1)).data
    obtain ⟨o1, hn1, hs1⟩ := slice_ok o 3 (by simp) xs none (some (.int .i64 i)) (l := 0) (h := i) (by simp [bound]; omega) (by simp [bound])
    obtain ⟨o2, hn2, hs2⟩ := slice_ok o 3 (by simp) xs (some (.int .i64 (i + 1))) none (l := i + 1) (h := xs.length) (by simp [bound]) (by simp [bound]; omega)
    obtain ⟨o1', hm1, hu1⟩ := untok_sl o1 3 (xs.take i)
    obtain ⟨o2', hm2, hu2⟩ := untok_sl o2 3 (xs.drop (i + 1))
    simp only [List.drop_zero] at hs1
    simp only [List.take_length] at hs2
    simp only [splitT, splitX, hq]
    refine ⟨o1', o2', fun h => absurd (hn1 (hm1 h)) hno, fun h => absurd (hn2 (hm2 h)) hno, FnK.of (h_format_split hE) rfl rfl (K := ts.length + 4) fun k hk bl tk => ?_⟩
    have h1 := hK k (by omega)
    simp only [hq] at h1
    have hlt0 : ¬ ((i : Int) < 0) := by omega
    simp [F_format_split, b_format_split, finR, fr0, h1, hlt0, hs1, hs2, hw, h2, h3, hu1, hu2]
theorem fn_split {ts : List Tm} {v : AV} (h : Sl ts v) : ∃ r, Fn E (.fn n_format_split [] []) [v] r ∧ RLs (splitT ts) r := by
  obtain ⟨o, xs, rfl, ⟨hn, ho⟩, hR⟩ := h
  obtain ⟨o1, o2, h1, h2, h3⟩ := fnk_split hE hn ho hR
  have hf := splitX_front hR
  have hr := splitX_rear hR
  have hl1 : (splitX ts xs).1.length ≤ xs.length := by unfold splitX; split <;> simp; omega
  have hl2 : (splitX ts xs).2.length ≤ xs.length := by unfold splitX; split <;> simp
  exact ⟨_, ⟨_, h3⟩, _, _, rfl, ⟨_, _, rfl, ⟨by omega, h1⟩, hf⟩, ⟨_, _, rfl, ⟨by omega, h2⟩, hr⟩⟩
end
end Ab.R

/- What 'format.some' and 'slices.Clone' answer. No condition but the table. -/
namespace Ab.R
open Go Ab Go.RowKit
set_option maxRecDepth 10000
set_option linter.unusedSimpArgs false
section
variable {E : IEnv} (hE : E.fns = Table.fn table)
include hE
theorem fn_some : FnK 1 E (.fn n_format_some [] []) [] (.agg [.int .i64 7, .str [], .sl .nil 3 []]) := by
  refine FnK.of (h_format_some hE) rfl rfl (K := 0) fun k hk bl tk => ?_
  simp [F_format_some, b_format_some, finR, fr0]

end
end Ab.R

/- What 'slices.Clone' answers. No condition but the table. -/
namespace Ab.R
open Go Ab Go.RowKit
set_option maxRecDepth 10000
set_option linter.unusedSimpArgs false
section
variable {E : IEnv} (hE : E.fns = Table.fn table)
include hE
theorem fn_Clone {ts : List Tm} {v : AV} (h : Sl ts v) (hn : ts.length ≤ most) : ∃ r, Fn E (.fn n_slices_Clone___api_Term_api_Term_ [] []) [v] r ∧ Sl ts r := by
  obtain ⟨o, xs, rfl, ⟨_, ho⟩, hR⟩ := h
  have hR' := Rts.untokL hR
  have hd := hR'.data
  have hl := hR'.length
  have hl0 := hR.length
  have hm : maxLen = 9223372036854775807 := rfl
  have hmm : most = 1073741824 := rfl
  by_cases hon : o = .nil
  · subst hon
    have := ho rfl
    subst this
    refine ⟨.sl .nil 3 [], Fn.of (h_slices_Clone___api_Term_api_Term_ hE) rfl rfl ⟨0, fun k hk bl tk => ?_⟩, _, _, rfl, by simp, hR⟩
    simp [F_slices_Clone___api_Term_api_Term_, b_slices_Clone___api_Term_api_Term_, finR, fr0, aeq]
  · have ha : ∀ z, aeq .slice (.sl o 3 xs) (.sl .nil z []) = some false := by
      intro z; cases o <;> first | rfl | exact absurd rfl hon
    cases hx : AV.untokL xs with
    | nil =>
      refine ⟨.sl .full 3 [], Fn.of (h_slices_Clone___api_Term_api_Term_ hE) rfl rfl ⟨0, fun k hk bl tk => ?_⟩, _, _, rfl, by simp, by rw [hx] at hR'; exact hR'⟩
      have hx0 : xs = [] := by cases xs with | nil => rfl | cons _ _ => simp [AV.untokL] at hx
      subst hx0
      simp [F_slices_Clone___api_Term_api_Term_, b_slices_Clone___api_Term_api_Term_, finR, fr0, ha, setElems, repl, appA, ysOf, AV.untokL]
    | cons y r =>
      rw [hx] at hd hl hR'
      refine ⟨.sl .any 3 (y :: r), Fn.of (h_slices_Clone___api_Term_api_Term_ hE) rfl rfl ⟨0, fun k hk bl tk => ?_⟩, _, _, rfl, ⟨by rw [hl]; omega, by simp⟩, hR'⟩
      have hlen : (y :: r).length ≤ most := by omega
      simp only [List.length_cons] at hlen
      simp only [AV.dataL, Bool.and_eq_true] at hd
      simp [F_slices_Clone___api_Term_api_Term_, b_slices_Clone___api_Term_api_Term_, finR, fr0, ha, setElems, repl, appA, ysOf, hx, hlen, hd]
end
end Ab.R

/- What 'format.zip' answers. No condition but the table. -/
namespace Ab.R
open Go Ab Go.RowKit
set_option maxRecDepth 10000
set_option linter.unusedSimpArgs false
set_option linter.unusedVariables false

theorem zip_all {E : IEnv} {f : AV} {p : Tm → Tm → Tm} : ∀ {ts us : List Tm} {xs ys : List AV}, Rts ts xs → Rts us ys →
    (∀ t u x y, t ∈ ts → u ∈ us → Rt t x → Rt u y → ∃ v, Fn E f [x, y] v ∧ Rt (p t u) v) →
    ∃ vs : List AV, Rts (List.zipWith p ts us) vs ∧ ∃ K, ∀ k, K ≤ k → ∀ (i : Nat) x y, xs[i]? = some x → ys[i]? = some y → ∃ a b c, vs[i]? = some (AV.agg [a, b, c]).untok ∧ (∀ s, callA E k none f [x, y] s = some (.ret (.agg [a, b, c]), false, s))
  | [], us, xs, ys, h, h', hf => by
    simp only [Rts] at h; subst h
    exact ⟨[], by simp [Rts], 0, fun k _ i x y h => by simp at h⟩
  | t :: ts, [], xs, ys, h, h', hf => by
    simp only [Rts] at h'; subst h'
    exact ⟨[], by simp [Rts], 0, fun k _ i x y _ h => by simp at h⟩
  | t :: ts, u :: us, xs, ys, h, h', hf => by
    simp only [Rts] at h h'
    obtain ⟨x0, xs, rfl, h1, h2⟩ := h
    obtain ⟨y0, ys, rfl, h1', h2'⟩ := h'
    obtain ⟨v, ⟨K1, hv⟩, hr⟩ := hf t u x0 y0 (List.mem_cons_self ..) (List.mem_cons_self ..) h1 h1'
    obtain ⟨vs, hvs, K2, hK⟩ := zip_all h2 h2' fun t u x y ht hu => hf t u x y (List.mem_cons_of_mem _ ht) (List.mem_cons_of_mem _ hu)
    refine ⟨v.untok :: vs, ?_, K1 + K2, fun k hk i x y hx hy => ?_⟩
    · simp only [List.zipWith_cons_cons, Rts]; exact ⟨_, _, rfl, hr.untok, hvs⟩
    · cases i with
      | zero => simp at hx hy; subst hx; subst hy; obtain ⟨_, _, rfl, _, _⟩ := hr.shape; exact ⟨_, _, _, rfl, hv k (by omega)⟩
      | succ i => simpa using hK k (by omega) i x y hx hy

section
variable {E : IEnv} (hE : E.fns = Table.fn table)
include hE
theorem fn_zip {ts us : List Tm} {v w : AV} (hv : Sl ts v) (hw : Sl us w) (hl : ts.length ≤ us.length) (hm : ts.length ≤ most) (f : AV) (hcm : calm E f = true) (p : Tm → Tm → Tm)
    (hf : ∀ t u x y, t ∈ ts → u ∈ us → Rt t x → Rt u y → ∃ v, Fn E f [x, y] v ∧ Rt (p t u) v) : ∃ r, Fn E (.fn n_format_zip [] []) [v, w, f] r ∧ Sl (List.zipWith p ts us) r := by
  obtain ⟨o1, xs, rfl, _, h1⟩ := hv
  obtain ⟨o2, ys, rfl, _, h2⟩ := hw
  obtain ⟨vs, hvs, K, hK⟩ := zip_all h1 h2 hf
  have hl1 := h1.length
  have hl2 := h2.length
  have hlv := hvs.length
  simp only [List.length_zipWith] at hlv
  have hmm : most = 1073741824 := rfl
  have hmx : maxLen = 9223372036854775807 := rfl
  refine ⟨endV 3 vs, Fn.byW (h_format_zip hE) rfl rfl ⟨K + xs.length + 2, fun k hk bl tk => ?_⟩, Sl.end hvs (by omega)⟩
  simp [F_format_zip, b_format_zip]
  refine wp_loop xs.length (fun i e s => e = [(0, .sl o1 3 xs), (1, .sl o2 3 ys), (2, f), (7, outV 3 tk.length (vs.take i)), (10, .int .i64 xs.length), (11, .int .i64 i)] ∧ s = { bl, tk := outT tk (vs.take i), ro := bl.length, rt := tk.length }) (by omega) (by simp) ?_ ?_
  · rintro i e s hi ⟨rfl, rfl⟩
    obtain ⟨t, ht⟩ : ∃ t, ts[i]? = some t := ⟨_, List.getElem?_eq_getElem (by omega)⟩
    obtain ⟨u, hu⟩ : ∃ t, us[i]? = some t := ⟨_, List.getElem?_eq_getElem (by omega)⟩
    obtain ⟨x, hx, hrx⟩ := h1.get ht
    obtain ⟨y, hy, hry⟩ := h2.get hu
    obtain ⟨a, b, c, hl4, hc⟩ := hK k (by omega) i x y hx hy
    obtain ⟨_, _, rfl, _, _⟩ := hrx.shape
    obtain ⟨_, _, rfl, _, _⟩ := hry.shape
    obtain ⟨hi1, hx1⟩ := List.getElem?_eq_some_iff.1 hx
    obtain ⟨hi2, hy1⟩ := List.getElem?_eq_some_iff.1 hy
    have e1 : idx (.int .i64 i) xs.length = some i := idx_nat hi
    have e2 : idx (.int .i64 i) ys.length = some i := idx_nat hi2
    have hw : IntKind.wrap .i64 ((i : Int) + 1) = i + 1 := wrapIn (by omega) (by omega)
    have ht : vs.take (i + 1) = vs.take i ++ [(AV.agg [a, b, c]).untok] := by
      rw [List.take_add_one, hl4]; rfl
    have hlt : (vs.take i).length < most := by simp; omega
    simp [l0_format_zip, hcm, hi, hi2, e1, e2, hx1, hy1, hc, hw, ht, app_one, hlt, setElems, repl, hasSize, -List.length_take]
  · rintro e s ⟨rfl, rfl⟩
    have : vs.take xs.length = vs := by rw [List.take_of_length_le (by omega)]
    simp [l0_format_zip, outV_untok, outV_data, hvs.data, this]
end
end Ab.R

/- What 'slices.Grow', 'slices.Concat' and 'list.all' answer. No condition but the table. -/
namespace Ab.R
open Go Ab Go.RowKit
set_option maxRecDepth 10000
set_option linter.unusedSimpArgs false
set_option linter.unusedVariables false

/- the slices of an argument of Concat, and all their elements -/
def Sls : List (List Tm) → List AV → Prop
  | [], vs => vs = []
  | ts :: r, vs => ∃ o ys vs', vs = .sl o 3 ys :: vs' ∧ Rts ts ys ∧ Sls r vs'
def flatA : List AV → List AV
  | [] => []
  | .sl _ _ ys :: r => AV.untokL ys ++ flatA r
  | _ :: r => flatA r
theorem flatA_append : ∀ a b : List AV, flatA (a ++ b) = flatA a ++ flatA b
  | [], b => rfl
  | x :: a, b => by cases x <;> simp [flatA, flatA_append a b]
theorem Sls.flat : ∀ {tss : List (List Tm)} {vs : List AV}, Sls tss vs → Rts tss.flatten (flatA vs)
  | [], vs, h => by simp only [Sls] at h; subst h; simp [Rts, flatA]
  | ts :: r, vs, h => by
    obtain ⟨o, ys, vs', rfl, h1, h2⟩ := h
    simp only [List.flatten_cons, flatA]
    exact h1.untokL.append h2.flat
theorem Sls.get : ∀ {tss : List (List Tm)} {vs : List AV} {i : Nat}, Sls tss vs → i < vs.length → ∃ o ys, vs[i]? = some (.sl o 3 ys)
  | [], vs, i, h, hi => by simp only [Sls] at h; subst h; simp at hi
  | ts :: r, vs, i, h, hi => by
    obtain ⟨o, ys, vs', rfl, h1, h2⟩ := h
    cases i with
    | zero => exact ⟨o, ys, rfl⟩
    | succ i => simpa using h2.get (by simpa using hi)
theorem flatA_take {vs : List AV} {i z : Nat} {o : Own} {ys : List AV} (h : vs[i]? = some (.sl o z ys)) : flatA (vs.take (i + 1)) = flatA (vs.take i) ++ AV.untokL ys := by
  rw [List.take_add_one, h, flatA_append]; simp [flatA]
theorem flatA_le : ∀ (vs : List AV) (i : Nat), (flatA (vs.take i)).length ≤ (flatA vs).length := by
  intro vs i
  conv => rhs; rw [← List.take_append_drop i vs, flatA_append]
  simp

def growV (T n : Nat) (ys : List AV) : AV := if n = 0 then .sl .nil 3 [] else .sl (.tok T) 3 ys
def growT (tk : List Nat) (n : Nat) (ys : List AV) : List Nat := if n = 0 then tk else tk ++ [ys.length]
theorem app_grow {bl : List AB} {tk : List Nat} {ro rt n : Nat} {ys zs : List AV} {o : Own} (hl : ys.length + zs.length ≤ most) (hr : rt ≤ tk.length) (h0 : n = 0 → zs = []) (h1 : n = 0 → ys = []) :
    appA { bl, tk := growT tk n ys, ro, rt } 3 (growV tk.length n ys) (.sl o 3 zs) = some (growV tk.length n (ys ++ AV.untokL zs), { bl, tk := growT tk n (ys ++ AV.untokL zs), ro, rt }) := by
  cases zs with
  | nil => by_cases hn : n = 0 <;> simp [growV, growT, appA, ysOf, AV.untokL, hn] <;> simpa using hl
  | cons a zs =>
    have hn : n ≠ 0 := fun h => by cases h0 h
    simp only [List.length_cons] at hl
    simp [growV, growT, appA, ysOf, AV.untokL, hn, hl, hr]

def someT : Tm := .mk 7 [] []
/- what 'all' makes of an open list -/
def allX (ys1 ys2 : List AV) : AV := endV 3 (AV.untokL ys1 ++ .agg [.int .i64 7, .str [], .sl .nil 3 []] :: AV.untokL ys2)
theorem allX_sl {fr re : List Tm} {ys1 ys2 : List AV} (h1 : Rts fr ys1) (h2 : Rts re ys2) (hm : fr.length + re.length < most) : Sl (fr ++ someT :: re) (allX ys1 ys2) := by
  have hmm : most = 1073741824 := rfl
  have hmx : maxLen = 9223372036854775807 := rfl
  have hl1 := h1.length
  have hl2 := h2.length
  refine Sl.end (h1.untokL.append ?_) (by simp; omega)
  simp only [Rts]
  exact ⟨_, _, rfl, Rt.mk Sl.nil, h2.untokL⟩
theorem allX_untok (ys1 ys2 : List AV) : (allX ys1 ys2).untok = allX ys1 ys2 := by
  unfold allX endV; split <;> rfl
section
variable {E : IEnv} (hE : E.fns = Table.fn table)
include hE
theorem call_Grow (n : Nat) (hn : n ≤ most) : ∀ k, 1 ≤ k → ∀ s, callA E k none (.fn n_slices_Grow___api_Term_api_Term_ [] []) [.sl .nil 3 [], .int .i64 n] s = some (.ret (growV s.tk.length n []), false, { s with tk := growT s.tk n [] }) := by
  intro k hk s
  obtain ⟨j, rfl⟩ : ∃ j, k = j + 1 := ⟨k - 1, by omega⟩
  have hmm : most = 1073741824 := rfl
  have hw : IntKind.wrap .i64 (n : Int) = n := wrapIn (by omega) (by omega)
  have hw0 : IntKind.wrap .i64 0 = 0 := wrapIn (by omega) (by omega)
  have hlt0 : ¬ ((n : Int) < 0) := by omega
  have key := call_byW (h_slices_Grow___api_Term_api_Term_ hE) (first := []) (caps := []) (args := [.sl .nil 3 [], .int .i64 n]) rfl (k := j) (s := s) (Post := fun v s' => v = growV s.tk.length n [] ∧ s' = { s with tk := growT s.tk n [] }) (by
    by_cases h0 : n = 0
    · subst h0
      simp [F_slices_Grow___api_Term_api_Term_, b_slices_Grow___api_Term_api_Term_, s0Of, finA, growV, growT, hw0, sliceA]
    · have hpos : 0 < n := by omega
      simp [F_slices_Grow___api_Term_api_Term_, b_slices_Grow___api_Term_api_Term_, s0Of, finA, growV, growT, hw0, hw, sliceA, hlt0, hpos, hn, bound, h0]
)
  obtain ⟨v, s', h, rfl, rfl⟩ := key
  exact h

theorem fn_Concat (o : Own) {tss : List (List Tm)} {vs : List AV} (hS : Sls tss vs) (hv : vs.length ≤ most) (hn : (flatA vs).length ≤ most) :
    FnK (vs.length + 4) E (.fn n_slices_Concat___api_Term_api_Term_ [] []) [.sl o 1 vs] (endV 3 (flatA vs)) := by
  have hK := call_Grow hE (flatA vs).length hn
  have hmm : most = 1073741824 := rfl
  refine FnK.byW (h_slices_Concat___api_Term_api_Term_ hE) rfl rfl (K := vs.length + 3) fun k hk bl tk => ?_
  simp [F_slices_Concat___api_Term_api_Term_, b_slices_Concat___api_Term_api_Term_]
  refine wp_loop vs.length (fun i e s => e = [(0, .sl o 1 vs), (3, .int .i64 (flatA (vs.take i)).length), (9, .sl o 1 vs), (10, .int .i64 vs.length), (11, .int .i64 i)] ∧ s = { bl, tk, ro := bl.length, rt := tk.length }) (by omega) (by simp [flatA]) ?_ ?_
  · rintro i e s hi ⟨rfl, rfl⟩
    obtain ⟨o', ys, hx⟩ := hS.get hi
    obtain ⟨_, hx1⟩ := List.getElem?_eq_some_iff.1 hx
    have e1 : idx (.int .i64 i) vs.length = some i := idx_nat hi
    have hf := flatA_take hx
    have hle := flatA_le vs (i + 1)
    have hfl : (flatA (vs.take (i + 1))).length = (flatA (vs.take i)).length + ys.length := by rw [hf]; simp
    have hw : IntKind.wrap .i64 ((i : Int) + 1) = i + 1 := wrapIn (by omega) (by omega)
    have hw2 : IntKind.wrap .i64 (((flatA (vs.take i)).length : Int) + ys.length) = (flatA (vs.take (i + 1))).length := by rw [wrapIn (by omega) (by omega)]; omega
    have hlt0 : ¬ (((flatA (vs.take (i + 1))).length : Int) < 0) := by omega
    simp [l0_slices_Concat___api_Term_api_Term_, hi, e1, hx1, hw, hw2, hlt0]
  · rintro e s ⟨rfl, rfl⟩
    simp [l0_slices_Concat___api_Term_api_Term_, hK k (by omega)]
    refine wp_loop vs.length (fun i e s => e = [(6, growV tk.length (flatA vs).length (flatA (vs.take i))), (25, .sl o 1 vs), (26, .int .i64 vs.length), (27, .int .i64 i)] ∧ s = { bl, tk := growT tk (flatA vs).length (flatA (vs.take i)), ro := bl.length, rt := tk.length }) (by omega) (by simp [flatA]) ?_ ?_
    · rintro i e s hi ⟨rfl, rfl⟩
      obtain ⟨o', ys, hx⟩ := hS.get hi
      obtain ⟨_, hx1⟩ := List.getElem?_eq_some_iff.1 hx
      have e1 : idx (.int .i64 i) vs.length = some i := idx_nat hi
      have hf := flatA_take hx
      have hle := flatA_le vs (i + 1)
      have hfl : (flatA (vs.take (i + 1))).length = (flatA (vs.take i)).length + ys.length := by rw [hf]; simp
      have hw : IntKind.wrap .i64 ((i : Int) + 1) = i + 1 := wrapIn (by omega) (by omega)
      have hap := app_grow (bl := bl) (tk := tk) (ro := bl.length) (rt := tk.length) (n := (flatA vs).length) (ys := flatA (vs.take i)) (zs := ys) (o := o') (by omega) (Nat.le_refl _) (fun h => List.eq_nil_of_length_eq_zero (by omega)) (fun h => List.eq_nil_of_length_eq_zero (by omega))
      rw [← hf] at hap
      simp [l1_slices_Concat___api_Term_api_Term_, hi, e1, hx1, hw, hap]
    · rintro e s ⟨rfl, rfl⟩
      have hdata := hS.flat.data
      simp [l1_slices_Concat___api_Term_api_Term_]
      cases hf : flatA vs with
      | nil => simp [growV, endV]
      | cons a l => rw [hf] at hdata; simp only [AV.dataL, Bool.and_eq_true] at hdata; simp [growV, endV, hdata]

def allT (x : Ls) : List Tm := if x.op then x.front ++ someT :: x.rear else x.front
theorem fnk_all {fr re : List Tm} {o1 o2 : Own} {ys1 ys2 : List AV} (hR1 : Rts fr ys1) (hR2 : Rts re ys2) (hm : fr.length + re.length < most) : FnK 8 E (.fn n__format_list__all [] []) [.agg [.bool true, .sl o1 3 ys1, .sl o2 3 ys2]] (allX ys1 ys2) := by
  have hmm : most = 1073741824 := rfl
  obtain ⟨o1', _, hu1⟩ := untok_sl o1 3 ys1
  obtain ⟨o2', _, hu2⟩ := untok_sl o2 3 ys2
  have hl1 := hR1.length
  have hl2 := hR2.length
  obtain hK1 := fn_some hE
  have hS : Sls [fr, [someT], re] [.sl o1' 3 ys1, .sl .full 3 [.agg [.int .i64 7, .str [], .sl .nil 3 []]], .sl o2' 3 ys2] :=
    ⟨_, _, _, rfl, hR1, _, _, _, rfl, ⟨_, _, rfl, Rt.mk Sl.nil, by simp [Rts]⟩, _, _, _, rfl, hR2, by simp [Sls]⟩
  have hlen := hS.flat.length
  simp at hlen
  have hK2 := fn_Concat hE .full hS (by simp [most]) (by omega)
  have hfl : flatA [.sl o1' 3 ys1, .sl .full 3 [.agg [.int .i64 7, .str [], .sl .nil 3 []]], .sl o2' 3 ys2] = AV.untokL ys1 ++ .agg [.int .i64 7, .str [], .sl .nil 3 []] :: AV.untokL ys2 := by simp [flatA, AV.untokL, AV.untok]
  rw [hfl] at hK2
  have hd := (allX_sl hR1 hR2 hm).data
  have hu := allX_untok ys1 ys2
  refine FnK.byW (h__format_list__all hE) rfl rfl (K := 7) fun k hk bl tk => ?_
  simp [F__format_list__all, b__format_list__all, c_format_some hE, c_slices_Concat___api_Term_api_Term_ hE, hK1 k (by omega), hK2 k (by simp; omega), setElems, repl, hasSize, hu1, hu2]
  exact ⟨hd, hu⟩
theorem fn_all {x : Ls} {v : AV} (h : RLs x v) (hm : x.front.length + x.rear.length < most) : ∃ r, Fn E (.fn n__format_list__all [] []) [v] r ∧ Sl (allT x) r := by
  obtain ⟨f, r, rfl, h1, h2⟩ := h
  obtain ⟨op, fr, re⟩ := x
  simp only at h1 h2 hm
  have hmm : most = 1073741824 := rfl
  have hmx : maxLen = 9223372036854775807 := rfl
  cases op with
  | false =>
    obtain ⟨c, ⟨K, hK⟩, hc⟩ := fn_Clone hE h1 (by omega)
    have hd := hc.untok.data
    have hd0 := hc.data
    obtain ⟨o1, ys1, rfl, _, hR1⟩ := h1
    refine ⟨c.untok, Fn.byW (h__format_list__all hE) rfl rfl ⟨K, fun k hk bl tk => ?_⟩, hc.untok⟩
    simp [F__format_list__all, b__format_list__all, hK k hk, hd0]
  | true =>
    obtain ⟨o1, ys1, rfl, _, hR1⟩ := h1
    obtain ⟨o2, ys2, rfl, _, hR2⟩ := h2
    exact ⟨_, ⟨_, fnk_all hE hR1 hR2 hm⟩, allX_sl hR1 hR2 hm⟩
end
end Ab.R

/- What 'format.join' and 'format.both' answer. No condition but the table. -/
namespace Ab.R
open Go Ab Go.RowKit
set_option maxRecDepth 10000
set_option linter.unusedSimpArgs false
set_option linter.unusedVariables false

def behindT (k : Nat) (l : Ls) : List Tm := if l.op then l.rear else l.front.drop k
def joinL (p : Tm → Tm → Tm) (f g : List Tm) : List Tm :=
  if (splitT f).op = false ∧ (splitT g).op = false ∧ f.length = g.length then List.zipWith p f g else
  let k := min (splitT f).front.length (splitT g).front.length
  let x := behindT k (splitT f)
  let y := behindT k (splitT g)
  let m := min x.length y.length
  allT ⟨true, List.zipWith p ((splitT f).front.take k) ((splitT g).front.take k), List.zipWith p (x.drop (x.length - m)) (y.drop (y.length - m))⟩
def bothT : Nat → Tm → Tm → Tm
  | 0, _, _ => .mk 6 [] []
  | n + 1, a, b => if a.kind = 5 ∧ b.kind = 5 then .mk 5 [] [] else if a.kind = 4 ∧ b.kind = 4 then .mk 4 [] (joinL (bothT n) a.kids b.kids) else .mk 6 [] []

theorem splitT_le (f : List Tm) : (splitT f).front.length + (splitT f).rear.length ≤ f.length := by
  unfold splitT; split
  · simp; omega
  · simp
theorem splitT_front {f : List Tm} {t : Tm} (h : t ∈ (splitT f).front) : t ∈ f := by
  unfold splitT at h; split at h
  · exact List.mem_of_mem_take h
  · exact h
theorem splitT_rear {f : List Tm} {t : Tm} (h : t ∈ (splitT f).rear) : t ∈ f := by
  unfold splitT at h; split at h
  · exact List.mem_of_mem_drop h
  · simp at h
theorem behindT_mem {f : List Tm} {k : Nat} {t : Tm} (h : t ∈ behindT k (splitT f)) : t ∈ f := by
  unfold behindT at h; split at h
  · exact splitT_rear h
  · exact splitT_front (List.mem_of_mem_drop h)
theorem behindT_le (f : List Tm) (k : Nat) : (behindT k (splitT f)).length ≤ f.length := by
  have := splitT_le f
  unfold behindT; split
  · omega
  · simp; omega

/- a part of a slice of terms -/
theorem _root_.Ab.Sl.part {ts : List Tm} {v : AV} (h : Sl ts v) (lo hi : Option AV) {l u : Nat} (hb : bound hi ts.length ts.length = some u) (hl : bound lo 0 u = some l) (hlu : u ≤ ts.length) : ∃ r, Sl ((ts.take u).drop l) r ∧ ∀ tk, sliceA tk 3 v lo hi none = some r := by
  obtain ⟨o, xs, rfl, ⟨h1, h2⟩, h3⟩ := h
  have hlen := h3.length
  obtain ⟨o', h4, h5⟩ := slice_ok o 3 (by simp) xs lo hi (l := l) (h := u) (by rw [hlen]; exact hb) hl
  refine ⟨_, ⟨o', _, rfl, ⟨by simp; omega, fun h => ?_⟩, (h3.take u).drop l⟩, h5⟩
  have := h2 (h4 h); subst this; simp

theorem min_nat (a b : Nat) : (if b < a then (b : Int) else (a : Int)) = ((min a b : Nat) : Int) := by split <;> omega
section
variable {E : IEnv} (hE : E.fns = Table.fn table)
include hE
theorem fn_join_1 {x : Ls} {v : AV} (h : RLs x v) (k : Nat) (hk : k ≤ x.front.length) : ∃ r, Sl (behindT k x) r ∧ ∃ K, ∀ n, K ≤ n → ∀ (i : Nat) (s : St), s.bl[i]? = some (.cells [.int .i64 k]) → callA E n none (.fn n_format_join_1 [] [.ptr i 0]) [v] s = some (.ret r, false, s) := by
  obtain ⟨f, r, rfl, h1, h2⟩ := h
  obtain ⟨op, fr, re⟩ := x
  simp only at h1 h2 hk
  cases op with
  | true =>
    have hd := h2.data
    refine ⟨r.untok, h2.untok, 1, fun n hn i s hs => ?_⟩
    obtain ⟨j, rfl⟩ : ∃ j, n = j + 1 := ⟨n - 1, by omega⟩
    have key := call_byW (h_format_join_1 hE) (first := []) (caps := [.ptr i 0]) (args := [.agg [.bool true, f, r]]) rfl (k := j) (s := s) (Post := fun v s' => v = r.untok ∧ s' = s) (by
      simp [F_format_join_1, b_format_join_1, s0Of, finA, hd])
    obtain ⟨v, s', h, rfl, rfl⟩ := key
    exact h
  | false =>
    have hp := h1.part (some (.int .i64 k)) none (l := k) (u := fr.length) (by simp [bound]) (by simp [bound] <;> omega) (Nat.le_refl _)
    simp only [List.take_length] at hp
    obtain ⟨q, hq, hs3⟩ := hp
    have hd := hq.data
    refine ⟨q.untok, hq.untok, 1, fun n hn i s hs => ?_⟩
    obtain ⟨j, rfl⟩ : ∃ j, n = j + 1 := ⟨n - 1, by omega⟩
    have key := call_byW (h_format_join_1 hE) (first := []) (caps := [.ptr i 0]) (args := [.agg [.bool false, f, r]]) rfl (k := j) (s := s) (Post := fun v s' => v = q.untok ∧ s' = s) (by
      obtain ⟨hi, hs1⟩ := List.getElem?_eq_some_iff.1 hs
      simp [F_format_join_1, b_format_join_1, s0Of, finA, hd, hs3, hs, List.getElem?_append_left hi])
    obtain ⟨v, s', h, rfl, rfl⟩ := key
    exact h


theorem fn_join {p : Tm → Tm → Tm} {ts us : List Tm} {v w : AV} (hv : Sl ts v) (hw : Sl us w) (hm : ts.length + us.length < most)
    (hf : ∀ t u x y, t ∈ ts → u ∈ us → Rt t x → Rt u y → ∃ v, Fn E (.fn n_format_both [] []) [x, y] v ∧ Rt (p t u) v) : ∃ r, Fn E (.fn n_format_join [] []) [v, w] r ∧ Sl (joinL p ts us) r := by
  have hmm : most = 1073741824 := rfl
  obtain ⟨ra, ⟨K1, hK1⟩, hra⟩ := fn_split hE hv
  obtain ⟨rb, ⟨K2, hK2⟩, hrb⟩ := fn_split hE hw
  have hsa := splitT_le ts
  have hsb := splitT_le us
  have hcal := c_format_both hE [] []
  by_cases hc : (splitT ts).op = false ∧ (splitT us).op = false ∧ ts.length = us.length
  · have hj : joinL p ts us = List.zipWith p ts us := by unfold joinL; rw [if_pos hc]
    obtain ⟨r, ⟨K3, hK3⟩, hr⟩ := fn_zip hE hv hw (by omega) (by omega) _ hcal p hf
    rw [hj]
    have hd := hr.data
    obtain ⟨fa, rra, rfl, ha1, ha2⟩ := hra
    obtain ⟨fb, rrb, rfl, hb1, hb2⟩ := hrb
    obtain ⟨ho1, ho2, hl⟩ := hc
    obtain ⟨o1, xs, rfl, hlx⟩ := hv.len
    obtain ⟨o2, ys, rfl, hly⟩ := hw.len
    have hlxy : xs.length = ys.length := by omega
    simp only [ho1, ho2] at *
    refine ⟨r.untok, Fn.byW (h_format_join hE) rfl rfl ⟨K1 + K2 + K3, fun k hk bl tk => ?_⟩, hr.untok⟩
    simp [F_format_join, b_format_join, hK1 k (by omega), hK2 k (by omega), hK3 k (by omega), hlxy, hd]
  · obtain ⟨k, hk⟩ : ∃ k, k = min (splitT ts).front.length (splitT us).front.length := ⟨_, rfl⟩
    obtain ⟨x, hx, K4, hK4⟩ := fn_join_1 hE hra k (by omega)
    obtain ⟨y, hy, K5, hK5⟩ := fn_join_1 hE hrb k (by omega)
    obtain ⟨m, hm'⟩ : ∃ m, m = min (behindT k (splitT ts)).length (behindT k (splitT us)).length := ⟨_, rfl⟩
    have hbt := behindT_le ts k
    have hbu := behindT_le us k
    obtain ⟨fa, rra, rfl, ha1, ha2⟩ := hra
    obtain ⟨fb, rrb, rfl, hb1, hb2⟩ := hrb
    obtain ⟨p1, hp1, hs1⟩ := ha1.part none (some (.int .i64 k)) (l := 0) (u := k) (by simp [bound] <;> omega) (by simp [bound]) (by omega)
    obtain ⟨p2, hp2, hs2⟩ := hb1.part none (some (.int .i64 k)) (l := 0) (u := k) (by simp [bound] <;> omega) (by simp [bound]) (by omega)
    obtain ⟨p3, hp3, hs3⟩ := hx.part (some (.int .i64 ((behindT k (splitT ts)).length - m : Nat))) none (l := (behindT k (splitT ts)).length - m) (u := (behindT k (splitT ts)).length) (by simp [bound]) (by simp [bound] <;> omega) (by omega)
    obtain ⟨p4, hp4, hs4⟩ := hy.part (some (.int .i64 ((behindT k (splitT us)).length - m : Nat))) none (l := (behindT k (splitT us)).length - m) (u := (behindT k (splitT us)).length) (by simp [bound]) (by simp [bound] <;> omega) (by omega)
    simp only [List.drop_zero, List.take_length] at hp1 hp2 hp3 hp4
    obtain ⟨z1, ⟨K6, hK6⟩, hz1⟩ := fn_zip hE hp1 hp2 (by simp; omega) (by simp; omega) _ hcal p fun t u x y ht hu => hf t u x y (splitT_front (List.mem_of_mem_take ht)) (splitT_front (List.mem_of_mem_take hu))
    obtain ⟨z2, ⟨K7, hK7⟩, hz2⟩ := fn_zip hE hp3 hp4 (by simp; omega) (by simp; omega) _ hcal p fun t u x y ht hu => hf t u x y (behindT_mem (List.mem_of_mem_drop ht)) (behindT_mem (List.mem_of_mem_drop hu))
    obtain ⟨r, ⟨K8, hK8⟩, hr⟩ := fn_all hE (x := ⟨true, _, _⟩) ⟨_, _, rfl, hz1, hz2⟩ (by simp; omega)
    have hj : joinL p ts us = allT ⟨true, List.zipWith p ((splitT ts).front.take k) ((splitT us).front.take k), List.zipWith p ((behindT k (splitT ts)).drop ((behindT k (splitT ts)).length - m)) ((behindT k (splitT us)).drop ((behindT k (splitT us)).length - m))⟩ := by
      unfold joinL; rw [if_neg hc]; subst hm' hk; rfl
    rw [hj]
    have hd := hr.data
    obtain ⟨oa, xa, rfl, hla⟩ := ha1.len
    obtain ⟨ob, xb, rfl, hlb⟩ := hb1.len
    obtain ⟨ox, xx, rfl, hlx⟩ := hx.len
    obtain ⟨oy, xy, rfl, hly⟩ := hy.len
    obtain ⟨ov, xv, rfl, hlv⟩ := hv.len
    obtain ⟨ow, xw, rfl, hlw⟩ := hw.len
    have hmin1 : (if xb.length < xa.length then (xb.length : Int) else (xa.length : Int)) = k := by rw [min_nat]; omega
    have hmin2 : (if xy.length < xx.length then (xy.length : Int) else (xx.length : Int)) = m := by rw [min_nat]; omega
    have hsub1 : IntKind.wrap .i64 ((xx.length : Int) - m) = ((behindT k (splitT ts)).length - m : Nat) := by rw [wrapIn (by omega) (by omega)]; omega
    have hsub2 : IntKind.wrap .i64 ((xy.length : Int) - m) = ((behindT k (splitT us)).length - m : Nat) := by rw [wrapIn (by omega) (by omega)]; omega
    have hcj := c_format_join_1 hE []
    have hca := c__format_list__all hE [] []
    have hcz := c_format_zip hE [] []
    have hz1' : ∃ o l, z1 = .sl o 3 l := by obtain ⟨o, l, h, _⟩ := hz1.len; exact ⟨o, l, h⟩
    have hz2' : ∃ o l, z2 = .sl o 3 l := by obtain ⟨o, l, h, _⟩ := hz2.len; exact ⟨o, l, h⟩
    obtain ⟨oz1, lz1, rfl⟩ := hz1'
    obtain ⟨oz2, lz2, rfl⟩ := hz2'
    refine ⟨r.untok, Fn.byW (h_format_join hE) rfl rfl ⟨K1 + K2 + K4 + K5 + K6 + K7 + K8, fun k hk bl tk => ?_⟩, hr.untok⟩
    have h1 := hK1 k (by omega)
    have h2 := hK2 k (by omega)
    have h4 := hK4 k (by omega)
    have h5 := hK5 k (by omega)
    have h6 := hK6 k (by omega)
    have h7 := hK7 k (by omega)
    have h8 := hK8 k (by omega)
    cases ho1 : (splitT ts).op <;> cases ho2 : (splitT us).op
    · have hl : ¬ ((xv.length : Int) = xw.length) := fun h => hc ⟨ho1, ho2, by omega⟩
      simp only [ho1, ho2] at h1 h2 h4 h5
      simp [F_format_join, b_format_join, h1, h2, h4, h5, h6, h7, h8, hmin1, hmin2, hsub1, hsub2, hs1, hs2, hs3, hs4, hcj, hca, hcz, hl, hd, mmAll, mmA]
    all_goals
      simp only [ho1, ho2] at h1 h2 h4 h5
      simp [F_format_join, b_format_join, h1, h2, h4, h5, h6, h7, h8, hmin1, hmin2, hsub1, hsub2, hs1, hs2, hs3, hs4, hcj, hca, hcz, hd, mmAll, mmA]
end
end Ab.R

/- What 'format.both' answers, and 'format.join' with it. No condition but the table. -/
namespace Ab.R
open Go Ab Go.RowKit
set_option maxRecDepth 10000
set_option linter.unusedSimpArgs false
set_option linter.unusedVariables false
section
variable {E : IEnv} (hE : E.fns = Table.fn table)
include hE
theorem fn_both : ∀ (n : Nat) {t u : Tm} {x y : AV}, nT t ≤ n → nT u ≤ n → 2 * n < most → Rt t x → Rt u y → ∃ v, Fn E (.fn n_format_both [] []) [x, y] v ∧ Rt (bothT n t u) v
  | 0, t, u, x, y, ht, hu, hm, hx, hy => by have := nT_pos t; omega
  | n + 1, t, u, x, y, ht, hu, hm, hx, hy => by
    have hmm : most = 1073741824 := rfl
    rw [nT_eq] at ht hu
    have h1 := length_le_nTs t.kids
    have h2 := length_le_nTs u.kids
    obtain ⟨kx, rfl, hkx⟩ := hx.open
    obtain ⟨ky, rfl, hky⟩ := hy.open
    by_cases c1 : t.kind = 5 ∧ u.kind = 5
    · refine ⟨_, Fn.byW (h_format_both hE) rfl rfl ⟨0, fun k hk bl tk => ?_⟩, by unfold bothT; rw [if_pos c1]; exact Rt.mk Sl.nil⟩
      simp [F_format_both, b_format_both, c1.1, c1.2]
    by_cases c2 : t.kind = 4 ∧ u.kind = 4
    · obtain ⟨r, ⟨K, hK⟩, hr⟩ := fn_join hE hkx hky (by omega) (p := bothT n) fun a b c d ha hb hc hd => fn_both n (by have := nT_mem ha; omega) (by have := nT_mem hb; omega) (by omega) hc hd
      have hd := hr.data
      have hr' := (Rt.mk (k := 4) (s := []) hr).untok
      obtain ⟨o, l, rfl, _⟩ := hr.len
      refine ⟨_, Fn.byW (h_format_both hE) rfl rfl ⟨K, fun k hk bl tk => ?_⟩, by unfold bothT; rw [if_neg c1, if_pos c2]; exact hr'⟩
      simp [F_format_both, b_format_both, c2.1, c2.2, hK k hk]
      simpa using hd
    · refine ⟨.agg [.int .i64 6, .str [], .sl .nil 3 []], Fn.byW (h_format_both hE) rfl rfl ⟨0, fun k hk bl tk => ?_⟩, by unfold bothT; rw [if_neg c1, if_neg c2]; exact Rt.mk Sl.nil⟩
      by_cases a1 : t.kind = 5
      · have : ¬ u.kind = 5 := fun h => c1 ⟨a1, h⟩
        simp [F_format_both, b_format_both, a1, this]
      · by_cases a2 : t.kind = 4
        · have : ¬ u.kind = 4 := fun h => c2 ⟨a2, h⟩
          simp [F_format_both, b_format_both, a2, this]
        · have b1 : (t.kind == 5) = false := by simpa using a1
          have b2 : (t.kind == 4) = false := by simpa using a2
          simp [F_format_both, b_format_both, b1, b2]

theorem fn_joinT (n : Nat) {ts us : List Tm} {v w : AV} (hv : Sl ts v) (hw : Sl us w) (ht : nTs ts ≤ n) (hu : nTs us ≤ n) (hm : 2 * n < most) : ∃ r, Fn E (.fn n_format_join [] []) [v, w] r ∧ Sl (joinL (bothT n) ts us) r := by
  have h1 := length_le_nTs ts
  have h2 := length_le_nTs us
  exact fn_join hE hv hw (by omega) fun a b c d ha hb hc hd => fn_both hE n (by have := nT_mem ha; omega) (by have := nT_mem hb; omega) hm hc hd
end
end Ab.R

/- What 'format.cut' answers. No condition but the table. -/
namespace Ab.R
open Go Ab Go.RowKit
set_option maxRecDepth 10000
set_option linter.unusedSimpArgs false
set_option linter.unusedVariables false

def trimL (out : List Tm) : List Tm :=
  if out.length ≤ 12 then out else
  if (splitT out).op then
    let a := min (splitT out).front.length (11 - min (splitT out).rear.length 5)
    allT ⟨true, (splitT out).front.take a, (splitT out).rear.drop ((splitT out).rear.length - (11 - a))⟩
  else allT ⟨true, (splitT out).front.take 6, (splitT out).front.drop ((splitT out).front.length - 5)⟩
mutual
def cutE : Nat → Tm → Tm
  | lv, .mk k s kids => if k = 4 then (if lv = 4 then .mk 6 [] [] else .mk k s (trimL (cutS (lv + 1) kids))) else .mk k s kids
def cutS : Nat → List Tm → List Tm
  | _, [] => []
  | lv, t :: ts => cutE lv t :: cutS lv ts
end
def cutT (lv : Nat) (l : List Tm) : List Tm := trimL (cutS lv l)
theorem cutS_length (lv : Nat) : ∀ l : List Tm, (cutS lv l).length = l.length
  | [] => rfl
  | t :: l => by simp [cutS, cutS_length lv l]

theorem splitT_len {f : List Tm} (h : (splitT f).op = true) : (splitT f).front.length + (splitT f).rear.length + 1 = f.length := by
  unfold splitT at *; split
  · rename_i i hq
    have := (List.findIdx?_eq_some_iff_getElem.1 hq).1
    simp; omega
  · rename_i hq; simp [hq] at h
theorem splitT_shut {f : List Tm} (h : (splitT f).op = false) : (splitT f).front = f := by
  unfold splitT at *; split
  · rename_i i hq; simp [hq] at h
  · rfl

/- what becomes of one term -/
def CutOne (E : IEnv) (K : Nat) (lv : Nat) (x w : AV) : Prop :=
  (∃ k s kx, x = .agg [.int .i64 k, .str s, kx] ∧ (k == 4) = false ∧ w = x) ∨
  (∃ s kx, x = .agg [.int .i64 4, .str s, kx] ∧ lv = 4 ∧ w = .agg [.int .i64 6, .str [], .sl .nil 3 []]) ∨
  (∃ s kx o l, x = .agg [.int .i64 4, .str s, kx] ∧ lv < 4 ∧ w = .agg [.int .i64 4, .str s, .sl o 3 l] ∧ ∀ k, K ≤ k → ∀ st, callA E k none (.fn n_format_cut [] []) [kx, .int .i64 ((lv : Int) + 1)] st = some (.ret (.sl o 3 l), false, st))

theorem CutOne.mono {E : IEnv} {K K' lv : Nat} {x w : AV} (h : CutOne E K lv x w) (hk : K ≤ K') : CutOne E K' lv x w := by
  rcases h with h | h | ⟨s, kx, o, l, h1, h2, h3, h4⟩
  · exact .inl h
  · exact .inr (.inl h)
  · exact .inr (.inr ⟨s, kx, o, l, h1, h2, h3, fun k hk' => h4 k (by omega)⟩)

theorem cut_all {E : IEnv} {lv : Nat} (hlv : lv ≤ 4) : ∀ {ts : List Tm} {xs : List AV}, Rts ts xs →
    (∀ t v, t ∈ ts → lv < 4 → Sl t.kids v → ∃ r, Fn E (.fn n_format_cut [] []) [v, .int .i64 ((lv : Int) + 1)] r ∧ Sl (cutT (lv + 1) t.kids) r) →
    ∃ ws : List AV, Rts (cutS lv ts) ws ∧ ∃ K, ∀ (i : Nat) x, xs[i]? = some x → ∃ w, ws[i]? = some w.untok ∧ CutOne E K lv x w
  | [], xs, h, hf => by
    simp only [Rts] at h; subst h
    exact ⟨[], by simp [cutS, Rts], 0, fun i x h => by simp at h⟩
  | t :: ts, xs, h, hf => by
    simp only [Rts] at h
    obtain ⟨x0, xs, rfl, h1, h2⟩ := h
    obtain ⟨ws, hws, K, hK⟩ := cut_all hlv h2 fun t v ht => hf t v (List.mem_cons_of_mem _ ht)
    have : ∃ w, Rt (cutE lv t) w ∧ ∃ K, CutOne E K lv x0 w := by
      obtain ⟨kx, rfl, hkx⟩ := h1.open
      obtain ⟨k, s, kids⟩ := t
      simp only [Tm.kind, Tm.text, Tm.kids] at *
      by_cases hk : k = 4
      · subst hk
        by_cases hl : lv = 4
        · exact ⟨.agg [.int .i64 6, .str [], .sl .nil 3 []], by simp only [cutE, hl, if_true]; exact Rt.mk Sl.nil, 0, .inr (.inl ⟨_, _, rfl, hl, rfl⟩)⟩
        · obtain ⟨r, ⟨K, hr⟩, hs⟩ := hf (.mk 4 s kids) kx (List.mem_cons_self ..) (by omega) hkx
          have hmk := Rt.mk (k := 4) (s := s) hs
          obtain ⟨o, l, rfl, _⟩ := hs
          exact ⟨.agg [.int .i64 4, .str s, .sl o 3 l], by simp only [cutE, hl, if_true, if_false]; exact hmk, K, .inr (.inr ⟨_, _, _, _, rfl, by omega, rfl, hr⟩)⟩
      · exact ⟨_, by simp only [cutE, hk, if_false]; exact h1, 0, .inl ⟨_, _, _, rfl, by simpa using hk, rfl⟩⟩
    obtain ⟨w, hw, K', hK'⟩ := this
    refine ⟨w.untok :: ws, ?_, K + K', fun i x hx => ?_⟩
    · simp only [cutS, Rts]; exact ⟨_, _, rfl, hw.untok, hws⟩
    · cases i with
      | zero => simp at hx; subst hx; exact ⟨w, rfl, hK'.mono (by omega)⟩
      | succ i =>
        obtain ⟨w, h1, h2⟩ := hK i x (by simpa using hx)
        exact ⟨w, by simpa using h1, h2.mono (by omega)⟩

section
variable {E : IEnv} (hE : E.fns = Table.fn table)
include hE
theorem fn_cut : ∀ (n lv : Nat) {ts : List Tm} {v : AV}, nTs ts < n → n < most → lv ≤ 4 → Sl ts v → ∃ r, Fn E (.fn n_format_cut [] []) [v, .int .i64 lv] r ∧ Sl (cutT lv ts) r := by
  intro n
  induction n with
  | zero => intro lv ts v hn; omega
  | succ n ih =>
    intro lv ts v hn hm hlv hv
    have hmm : most = 1073741824 := rfl
    have hmx : maxLen = 9223372036854775807 := rfl
    obtain ⟨o, xs, rfl, _, hR⟩ := hv
    have hlx := hR.length
    have hlt := length_le_nTs ts
    obtain ⟨ws, hws, K, hK⟩ := cut_all (E := E) hlv hR fun t v ht hl hs => by
      have := nT_mem ht
      rw [nT_eq] at this
      exact_mod_cast ih (lv + 1) (by omega) (by omega) (by omega) hs
    have hlw := hws.length
    rw [cutS_length] at hlw
    have loop : ∀ (k : Nat) (hk : K + xs.length + 10 ≤ k) (bl : List AB) (tk : List Nat) (Q : Pst) (s : St), (∀ b, bl.length ≤ b.length → Q (.exit 0) [(1, .int .i64 lv), (5, outV 3 tk.length ws), (11, .sl o 3 xs), (12, .int .i64 xs.length), (13, .int .i64 xs.length), (14, .bool false)] { bl := b, tk := outT tk ws, ro := bl.length, rt := tk.length }) → s = { bl, tk, ro := bl.length, rt := tk.length } →
        ∀ e : Env, e.kill [0, 4, 7, 8, 9, 10, 14, 19, 21, 36, 41] = [(1, .int .i64 lv), (5, .sl .nil 3 []), (11, .sl o 3 xs), (12, .int .i64 xs.length), (13, .int .i64 0)] → wp E (callA E k) k false (.loop [0, 4, 7, 8, 9, 10, 14, 19, 21, 36, 41] l0_format_cut) Q e s := by
      rintro k hk bl tk Q s hQ rfl e he
      refine wp_loop xs.length (fun i e s => ∃ b, bl.length ≤ b.length ∧ e = [(1, .int .i64 lv), (5, outV 3 tk.length (ws.take i)), (11, .sl o 3 xs), (12, .int .i64 xs.length), (13, .int .i64 i)] ∧ s = { bl := b, tk := outT tk (ws.take i), ro := bl.length, rt := tk.length }) (by omega) (by simp [he]) ?_ ?_
      · rintro i e s hi ⟨b, hb, rfl, rfl⟩
        obtain ⟨x, hx⟩ : ∃ x, xs[i]? = some x := ⟨_, List.getElem?_eq_getElem hi⟩
        obtain ⟨w, hw, hc⟩ := hK i x hx
        obtain ⟨_, hx1⟩ := List.getElem?_eq_some_iff.1 hx
        have e1 : idx (.int .i64 i) xs.length = some i := idx_nat hi
        have hwr : IntKind.wrap .i64 ((i : Int) + 1) = i + 1 := wrapIn (by omega) (by omega)
        have hwl : IntKind.wrap .i64 ((lv : Int) + 1) = lv + 1 := wrapIn (by omega) (by omega)
        have ht : ws.take (i + 1) = ws.take i ++ [w.untok] := by
          rw [List.take_add_one, hw]; rfl
        have hlt : (ws.take i).length < most := by simp; omega
        rcases hc with ⟨kk, s, kx, rfl, h1, rfl⟩ | ⟨s, kx, rfl, h1, rfl⟩ | ⟨s, kx, o1, l1, rfl, h1, rfl, h2⟩
        · simp [l0_format_cut, hi, e1, hx1, hwr, ht, app_one, hlt, setElems, repl, hasSize, h1, hb, -List.length_take]
          omega
        · subst h1
          simp [l0_format_cut, hi, e1, hx1, hwr, ht, app_one, hlt, setElems, repl, hasSize, hb, -List.length_take]
          omega
        · have h3 : ((lv : Int) == 4) = false := by simp; omega
          have h2' := h2 k (by omega)
          simp [l0_format_cut, hi, e1, hx1, hwr, hwl, ht, app_one, hlt, setElems, repl, hasSize, h2', h3, hb, -List.length_take]
          omega
      · rintro e s ⟨b, hb, rfl, rfl⟩
        have hws' : ws.take xs.length = ws := List.take_of_length_le (by omega)
        simp only [hws']
        simp [l0_format_cut]
        exact hQ b hb
    have hdw := hws.data
    by_cases c12 : ws.length ≤ 12
    · refine ⟨endV 3 ws, Fn.byW (h_format_cut hE) rfl rfl ⟨K + xs.length + 10, fun k hk bl tk => ?_⟩, ?_⟩
      · simp [F_format_cut, b_format_cut]
        refine loop k hk bl tk _ _ (fun b hb => ?_) rfl _ (by simp)
        obtain ⟨ov, hov, _, hun⟩ := outV_sl 3 tk.length ws
        rw [hov]
        have c12' : (ws.length : Int) ≤ 12 := by omega
        simp [c12', hdw, hun]
      · unfold cutT trimL; rw [if_pos (by rw [cutS_length]; omega)]
        exact Sl.end hws (by omega)
    · obtain ⟨cs, hcs⟩ : ∃ cs, cs = cutS lv ts := ⟨_, rfl⟩
      have hlc : cs.length = ts.length := by rw [hcs, cutS_length]
      rw [← hcs] at hws
      have hf := splitX_front hws
      have hr := splitX_rear hws
      have hlf := hf.length
      have hlr := hr.length
      have hcl : (splitT cs).front.length + (splitT cs).rear.length ≤ cs.length := splitT_le cs
      have c12' : ¬ (ws.length : Int) ≤ 12 := by omega
      have hca := c__format_list__all hE [] []
      have hmm2 : (2 : Int) ^ 63 = 9223372036854775808 := rfl
      by_cases cop : (splitT cs).op = true
      · have hcl' := splitT_len cop
        obtain ⟨a, ha⟩ : ∃ a, a = min (splitT cs).front.length (11 - min (splitT cs).rear.length 5) := ⟨_, rfl⟩
        have hb : 11 - a ≤ (splitT cs).rear.length := by omega
        have ha11 : a ≤ 11 := by omega
        refine ⟨allX ((splitX cs ws).1.take a) ((splitX cs ws).2.drop ((splitT cs).rear.length - (11 - a))), Fn.byW (h_format_cut hE) rfl rfl ⟨K + xs.length + 20, fun k hk bl tk => ?_⟩, ?_⟩
        · simp [F_format_cut, b_format_cut]
          refine loop k (by omega) bl tk _ _ (fun b hb => ?_) rfl _ (by simp)
          obtain ⟨ov, hov, hnil, hun⟩ := outV_sl 3 tk.length ws
          rw [hov]
          obtain ⟨o1, o2, hn1, hn2, hsp⟩ := fnk_split hE (by omega) hnil hws
          rw [cop] at hsp
          obtain ⟨o3, _, hs1⟩ := slice_ok o1 3 (by simp) (splitX cs ws).1 none (some (.int .i64 a)) (l := 0) (h := a) (by simp [bound] <;> omega) (by simp [bound])
          obtain ⟨o4, _, hs2⟩ := slice_ok o2 3 (by simp) (splitX cs ws).2 (some (.int .i64 ((splitT cs).rear.length - (11 - a) : Nat))) none (l := (splitT cs).rear.length - (11 - a)) (h := (splitX cs ws).2.length) (by simp [bound]) (by simp [bound] <;> omega)
          simp only [List.drop_zero, List.take_length] at hs1 hs2
          have hal := fnk_all hE (o1 := o3) (o2 := o4) (hf.take a) (hr.drop ((splitT cs).rear.length - (11 - a))) (by simp; omega)
          have hsp' := hsp k (by omega)
          have hal' := hal k (by omega)
          have hX := (allX_sl (hf.take a) (hr.drop ((splitT cs).rear.length - (11 - a))) (by simp; omega)).data
          have hU := allX_untok ((splitX cs ws).1.take a) ((splitX cs ws).2.drop ((splitT cs).rear.length - (11 - a)))
          have m1 : (if (5 : Int) < ((splitX cs ws).2.length : Int) then (5 : Int) else ((splitX cs ws).2.length : Int)) = (min (splitT cs).rear.length 5 : Nat) := by split <;> omega
          have w1 : IntKind.wrap .i64 ((11 : Int) - (min (splitT cs).rear.length 5 : Nat)) = (11 - min (splitT cs).rear.length 5 : Nat) := by rw [wrapIn (by omega) (by omega)]; omega
          have m2 : (if (11 - min (splitT cs).rear.length 5) < (splitX cs ws).1.length then ((11 - min (splitT cs).rear.length 5 : Nat) : Int) else ((splitX cs ws).1.length : Int)) = a := by split <;> omega
          have w2 : IntKind.wrap .i64 ((11 : Int) - (a : Nat)) = (11 - a : Nat) := by rw [wrapIn (by omega) (by omega)]; omega
          have w3 : IntKind.wrap .i64 (((splitX cs ws).2.length : Int) - (11 - a : Nat)) = ((splitT cs).rear.length - (11 - a) : Nat) := by rw [wrapIn (by omega) (by omega)]; omega
          simp [c12', hsp', mmAll, mmA, hb, m1, w1, m2, w2, w3, hs1, hs2, hal', hca]
          exact ⟨hX, hU⟩
        · have he : cutT lv ts = (splitT cs).front.take a ++ someT :: (splitT cs).rear.drop ((splitT cs).rear.length - (11 - a)) := by
            unfold cutT trimL
            rw [← hcs, if_neg (by omega), if_pos cop, ← ha]
            simp [allT]
          rw [he]
          exact allX_sl (hf.take a) (hr.drop _) (by simp; omega)
      · have cop' : (splitT cs).op = false := by simpa using cop
        have hsh := splitT_shut cop'
        have hfl : (splitT cs).front.length = cs.length := by rw [hsh]
        refine ⟨allX ((splitX cs ws).1.take 6) ((splitX cs ws).1.drop ((splitT cs).front.length - 5)), Fn.byW (h_format_cut hE) rfl rfl ⟨K + xs.length + 20, fun k hk bl tk => ?_⟩, ?_⟩
        · simp [F_format_cut, b_format_cut]
          refine loop k (by omega) bl tk _ _ (fun b hb => ?_) rfl _ (by simp)
          obtain ⟨ov, hov, hnil, hun⟩ := outV_sl 3 tk.length ws
          rw [hov]
          obtain ⟨o1, o2, hn1, hn2, hsp⟩ := fnk_split hE (by omega) hnil hws
          rw [cop'] at hsp
          obtain ⟨o3, _, hs1⟩ := slice_ok o1 3 (by simp) (splitX cs ws).1 none (some (.int .i64 6)) (l := 0) (h := 6) (by simp [bound] <;> omega) (by simp [bound])
          obtain ⟨o4, _, hs2⟩ := slice_ok o1 3 (by simp) (splitX cs ws).1 (some (.int .i64 ((splitT cs).front.length - 5 : Nat))) none (l := (splitT cs).front.length - 5) (h := (splitX cs ws).1.length) (by simp [bound]) (by simp [bound] <;> omega)
          simp only [List.drop_zero, List.take_length] at hs1 hs2
          have hal := fnk_all hE (o1 := o3) (o2 := o4) (hf.take 6) (hf.drop ((splitT cs).front.length - 5)) (by simp; omega)
          have hsp' := hsp k (by omega)
          have hal' := hal k (by omega)
          have hX := (allX_sl (hf.take 6) (hf.drop ((splitT cs).front.length - 5)) (by simp; omega)).data
          have hU := allX_untok ((splitX cs ws).1.take 6) ((splitX cs ws).1.drop ((splitT cs).front.length - 5))
          have w3 : IntKind.wrap .i64 (((splitX cs ws).1.length : Int) - 5) = ((splitT cs).front.length - 5 : Nat) := by rw [wrapIn (by omega) (by omega)]; omega
          simp [c12', hsp', w3, hs1, hs2, hal', hca, hb]
          exact ⟨hX, hU⟩
        · have he : cutT lv ts = (splitT cs).front.take 6 ++ someT :: (splitT cs).front.drop ((splitT cs).front.length - 5) := by
            unfold cutT trimL
            rw [← hcs, if_neg (by omega), if_neg cop]
            simp [allT]
          rw [he]
          exact allX_sl (hf.take 6) (hf.drop _) (by simp; omega)
end
end Ab.R

/- What 'slices.EqualFunc' answers. No condition but the table. -/
namespace Ab.R
open Go Ab Go.RowKit
set_option maxRecDepth 10000
set_option linter.unusedSimpArgs false
set_option linter.unusedVariables false

/- a function of two terms, at all pairs of two lists -/
theorem pair_all {E : IEnv} {f : AV} {p : Tm → Tm → Bool} {ts us : List Tm} {xs ys : List AV} (h1 : Rts ts xs) (h2 : Rts us ys)
    (hf : ∀ t u x y, t ∈ ts → u ∈ us → Rt t x → Rt u y → Fn E f [x, y] (.bool (p t u))) :
    ∃ K, ∀ k, K ≤ k → ∀ (i j : Nat) t u, ts[i]? = some t → us[j]? = some u → ∃ x y, xs[i]? = some x ∧ ys[j]? = some y ∧ Rt t x ∧ Rt u y ∧ ∀ s, callA E k none f [x, y] s = some (.ret (.bool (p t u)), false, s) := by
  obtain ⟨K, hK⟩ := Fn.all (E := E) (tgt := f) (α := (Tm × AV) × (Tm × AV)) (args := fun q => [q.1.2, q.2.2]) (v := fun q => .bool (p q.1.1 q.2.1)) (xs := (ts.zip xs).flatMap fun q => (us.zip ys).map fun r => (q, r)) (by
    intro q hq
    simp only [List.mem_flatMap, List.mem_map] at hq
    obtain ⟨a, ha, b, hb, rfl⟩ := hq
    obtain ⟨i, hi⟩ := List.mem_iff_getElem?.1 ha
    obtain ⟨a1, a2⟩ := List.getElem?_zip_eq_some.1 hi
    obtain ⟨j, hj⟩ := List.mem_iff_getElem?.1 hb
    obtain ⟨b1, b2⟩ := List.getElem?_zip_eq_some.1 hj
    obtain ⟨x, a3, a4⟩ := h1.get a1
    obtain ⟨y, b3, b4⟩ := h2.get b1
    rw [a3] at a2; cases a2
    rw [b3] at b2; cases b2
    exact hf _ _ _ _ (List.mem_of_getElem? a1) (List.mem_of_getElem? b1) a4 b4)
  refine ⟨K, fun k hk i j t u ht hu => ?_⟩
  obtain ⟨x, a3, a4⟩ := h1.get ht
  obtain ⟨y, b3, b4⟩ := h2.get hu
  refine ⟨x, y, a3, b3, a4, b4, hK k hk ((t, x), (u, y)) ?_⟩
  simp only [List.mem_flatMap, List.mem_map]
  exact ⟨(t, x), List.mem_iff_getElem?.2 ⟨i, List.getElem?_zip_eq_some.2 ⟨ht, a3⟩⟩, (u, y), List.mem_iff_getElem?.2 ⟨j, List.getElem?_zip_eq_some.2 ⟨hu, b3⟩⟩, rfl⟩

def eqF (p : Tm → Tm → Bool) : List Tm → List Tm → Bool
  | [], [] => true
  | t :: ts, u :: us => p t u && eqF p ts us
  | _, _ => false
theorem eqF_len (p : Tm → Tm → Bool) : ∀ {ts us : List Tm}, ts.length ≠ us.length → eqF p ts us = false
  | [], [], h => by simp at h
  | [], _ :: _, _ => rfl
  | _ :: _, [], _ => rfl
  | t :: ts, u :: us, h => by simp only [eqF, eqF_len p (ts := ts) (us := us) (by simpa using h), Bool.and_false]

section
variable {E : IEnv} (hE : E.fns = Table.fn table)
include hE
theorem fn_EqualFunc {ts us : List Tm} {v w : AV} (hv : Sl ts v) (hw : Sl us w) (f : AV) (p : Tm → Tm → Bool)
    (hf : ∀ t u x y, t ∈ ts → u ∈ us → Rt t x → Rt u y → Fn E f [x, y] (.bool (p t u))) : Fn E (.fn n_slices_EqualFunc___api_Term___api_Term_api_Term_api_Term_ [] []) [v, w, f] (.bool (eqF p ts us)) := by
  obtain ⟨o1, xs, rfl, ⟨hm1, _⟩, h1⟩ := hv
  obtain ⟨o2, ys, rfl, ⟨hm2, _⟩, h2⟩ := hw
  obtain ⟨K, hK⟩ := pair_all h1 h2 hf
  have hl1 := h1.length
  have hl2 := h2.length
  have hmx : maxLen = 9223372036854775807 := rfl
  refine Fn.byW (h_slices_EqualFunc___api_Term___api_Term_api_Term_api_Term_ hE) rfl rfl ⟨K + xs.length + 2, fun k hk bl tk => ?_⟩
  by_cases hl : xs.length = ys.length
  · simp [F_slices_EqualFunc___api_Term___api_Term_api_Term_api_Term_, b_slices_EqualFunc___api_Term___api_Term_api_Term_api_Term_, hl]
    refine wp_loop ys.length (fun i e s => ∃ b, eqF p ts us = eqF p (ts.drop i) (us.drop i) ∧ e = [(1, .sl o2 3 ys), (2, f), (15, .sl o1 3 xs), (16, .int .i64 ys.length), (17, .int .i64 i)] ∧ s = { bl := b, tk, ro := bl.length, rt := tk.length } ∧ bl.length ≤ b.length) (by omega) (by simp) ?_ ?_
    · rintro i e s hi ⟨b, hq, rfl, rfl, hb⟩
      have hb' : ∀ m, bl.length ≤ b.length + m := fun m => by omega
      have hti : i < ts.length := by omega
      have hui : i < us.length := by omega
      obtain ⟨x, y, hx, hy, hrx, hry, hc⟩ := hK k (by omega) i i ts[i] us[i] (List.getElem?_eq_getElem hti) (List.getElem?_eq_getElem hui)
      have hxi : i < xs.length := by omega
      obtain ⟨_, hx1⟩ := List.getElem?_eq_some_iff.1 hx
      obtain ⟨_, hy1⟩ := List.getElem?_eq_some_iff.1 hy
      obtain ⟨_, rfl, _⟩ := hrx.open
      obtain ⟨_, rfl, _⟩ := hry.open
      rw [List.drop_eq_getElem_cons hti, List.drop_eq_getElem_cons hui, eqF] at hq
      have e1 : idx (.int .i64 i) xs.length = some i := idx_nat hxi
      have e2 : idx (.int .i64 i) ys.length = some i := idx_nat hi
      have hwr : IntKind.wrap .i64 ((i : Int) + 1) = i + 1 := wrapIn (by omega) (by omega)
      cases hp : p ts[i] us[i] with
      | true =>
        rw [hp] at hq hc
        simp [l0_slices_EqualFunc___api_Term___api_Term_api_Term_api_Term_, hi, hxi, e1, e2, hx1, hy1, hc, hwr, hb, hb']
        simpa using hq
      | false =>
        rw [hp] at hq hc
        simp [l0_slices_EqualFunc___api_Term___api_Term_api_Term_api_Term_, hi, hxi, e1, e2, hx1, hy1, hc, hwr, hb, hb']
        simpa using hq
    · rintro e s ⟨b, hq, rfl, rfl, hb⟩
      rw [List.drop_of_length_le (by omega), List.drop_of_length_le (by omega)] at hq
      simp [l0_slices_EqualFunc___api_Term___api_Term_api_Term_api_Term_, hq, eqF]
  · have h3 := eqF_len p (ts := ts) (us := us) (by omega)
    have h4 : ¬ ((xs.length : Int) = ys.length) := by omega
    simp [F_slices_EqualFunc___api_Term___api_Term_api_Term_api_Term_, b_slices_EqualFunc___api_Term___api_Term_api_Term_api_Term_, h3, h4]
end
end Ab.R

/- What 'slices.Backward' answers. No condition but the table. -/
namespace Ab.R
open Go Ab Go.RowKit
set_option maxRecDepth 10000
set_option linter.unusedSimpArgs false
set_option linter.unusedVariables false
section
variable {E : IEnv} (hE : E.fns = Table.fn table)
include hE
theorem call_Backward (o : Own) (xs : List AV) : ∀ k, 1 ≤ k → ∀ s, callA E k none (.fn n_slices_Backward___api_Term_api_Term_ [] []) [.sl o 3 xs] s = some (.ret (.fn n_slices_Backward___api_Term_api_Term__1 [] [.ptr s.bl.length 0]), false, { s with bl := s.bl ++ [.cells [.sl o 3 xs]] }) := by
  intro k hk s
  obtain ⟨j, rfl⟩ : ∃ j, k = j + 1 := ⟨k - 1, by omega⟩
  have key := call_byW (h_slices_Backward___api_Term_api_Term_ hE) (first := []) (caps := []) (args := [.sl o 3 xs]) rfl (k := j) (s := s) (Post := fun v s' => v = .fn n_slices_Backward___api_Term_api_Term__1 [] [.ptr s.bl.length 0] ∧ s' = { s with bl := s.bl ++ [.cells [.sl o 3 xs]] }) (by
    simp [F_slices_Backward___api_Term_api_Term_, b_slices_Backward___api_Term_api_Term_, s0Of, finA])
  obtain ⟨v, s', h, rfl, rfl⟩ := key
  exact h

theorem call_Backward_1 (o : Own) (xs : List AV) (hm : xs.length ≤ maxLen) {k c : Nat} {s0 : St} {yv : AV} (P : Nat → St → Prop) (D : St → Prop)
    (hc : ∀ j s, P j s → s.bl[c]? = some (.cells [.sl o 3 xs]) ∧ s.ro = s0.ro ∧ s.rt = s0.rt) (hd : ∀ s, D s → s.ro = s0.ro ∧ s.rt = s0.rt)
    (hx : ∀ x ∈ xs, ∃ a b c, x = .agg [a, b, c])
    (hy : ∀ j s x, j < xs.length → xs[xs.length - 1 - j]? = some x → P j s → ∃ b s', callA E k none yv [.int .i64 ((xs.length : Int) - 1 - j), x] s = some (.ret (.bool b), false, s') ∧ (b = true → P (j + 1) s') ∧ (b = false → D s'))
    (h0 : P 0 s0) (hn : xs.length < k) :
    ∃ v s', callA E (k + 1) none (.fn n_slices_Backward___api_Term_api_Term__1 [] [.ptr c 0]) [yv] s0 = some (.ret v, false, s') ∧ (P xs.length s' ∨ D s') := by
  have hmx : maxLen = 9223372036854775807 := rfl
  have back : ∀ s : St, s.ro = s0.ro ∧ s.rt = s0.rt → { s with ro := s0.ro, rt := s0.rt } = s := by rintro s ⟨h1, h2⟩; rw [← h1, ← h2]
  refine call_byW (h_slices_Backward___api_Term_api_Term__1 hE) (first := []) (caps := [.ptr c 0]) (args := [yv]) rfl (k := k) (s := s0) (Post := fun _ s' => P xs.length s' ∨ D s') ?_
  have hw0 : IntKind.wrap .i64 ((xs.length : Int) - 1) = xs.length - 1 := wrapIn (by omega) (by omega)
  obtain ⟨hcell, _, _⟩ := hc 0 s0 h0
  simp [F_slices_Backward___api_Term_api_Term__1, b_slices_Backward___api_Term_api_Term__1, s0Of, hcell, hw0]
  refine wp_loop xs.length (fun i e s => e = [(0, yv), (1, .ptr c 0), (3, .int .i64 ((xs.length : Int) - 1 - i))] ∧ P i s) hn (by simpa using h0) ?_ ?_
  · rintro i e s hi ⟨rfl, hP⟩
    obtain ⟨x, hxi⟩ : ∃ x, xs[xs.length - 1 - i]? = some x := ⟨_, List.getElem?_eq_getElem (by omega)⟩
    obtain ⟨b, s', hcall, hb1, hb2⟩ := hy i s x hi hxi hP
    obtain ⟨hcell, hro, hrt⟩ := hc i s hP
    obtain ⟨m, hm'⟩ : ∃ m : Int, m = (xs.length : Int) - 1 - i := ⟨_, rfl⟩
    have hge : 0 ≤ m := by omega
    have e1 : idx (.int .i64 m) xs.length = some (xs.length - 1 - i) := by simp [idx]; omega
    have hwm : IntKind.wrap .i64 (m - 1) = (xs.length : Int) - 1 - ((i + 1 : Nat) : Int) := by rw [wrapIn (by omega) (by omega)]; omega
    have hlt : xs.length - 1 - i < xs.length := by omega
    obtain ⟨hlt', hx1⟩ := List.getElem?_eq_some_iff.1 hxi
    obtain ⟨a1, b1, c1, rfl⟩ := hx x (List.mem_of_getElem? hxi)
    rw [← hm'] at hcall ⊢
    cases b with
    | true => simp [l0_slices_Backward___api_Term_api_Term__1, hcell, hge, e1, hlt, hx1, hxi, hcall, hwm, hb1]
    | false =>
      have hD := hb2 rfl
      have hbk := back s' (hd s' hD)
      simp [l0_slices_Backward___api_Term_api_Term__1, hcell, hge, e1, hlt, hx1, hxi, hcall, finA, hbk, hD]
  · rintro e s ⟨rfl, hP⟩
    obtain ⟨hcell, hro, hrt⟩ := hc _ s hP
    have hbk := back s ⟨hro, hrt⟩
    have h1 : ((xs.length : Int) - 1 - xs.length) = -1 := by omega
    rw [h1]
    simp [l0_slices_Backward___api_Term_api_Term__1, finA, hbk, hP]
end
end Ab.R

/- What 'format.within' and 'format.inside' answer. No condition but the table. -/
namespace Ab.R
open Go Ab Go.RowKit
set_option maxRecDepth 10000
set_option linter.unusedSimpArgs false
set_option linter.unusedVariables false

def frontF (p : Tm → Tm → Bool) : List Tm → List Tm → Bool
  | _, [] => true
  | [], u :: us => u.kind == 6 && frontF p [] us
  | t :: ts, u :: us => p t u && frontF p ts us
def rearOf (a : Ls) : List Tm := if a.op then a.rear else a.front
def withinL (p : Tm → Tm → Bool) (f g : List Tm) : Bool :=
  if (splitT g).op = false then !(splitT f).op && eqF p f g
  else if (splitT f).front.length + (splitT f).rear.length < (splitT g).front.length + (splitT g).rear.length then false
  else frontF p (splitT f).front (splitT g).front && frontF p (rearOf (splitT f)).reverse (splitT g).rear.reverse
def insideT : Nat → Tm → Tm → Bool
  | 0, _, u => u.kind == 6
  | n + 1, t, u => if u.kind = 6 then true else if u.kind = 5 then t.kind == 5 else t.kind == 4 && withinL (insideT n) t.kids u.kids

theorem frontF_step (p : Tm → Tm → Bool) {ts us : List Tm} {i : Nat} {u : Tm} (hu : us[i]? = some u) :
    frontF p (ts.drop i) (us.drop i) = ((match ts[i]? with | some t => p t u | none => u.kind == 6) && frontF p (ts.drop (i + 1)) (us.drop (i + 1))) := by
  obtain ⟨hi, hu1⟩ := List.getElem?_eq_some_iff.1 hu
  rw [List.drop_eq_getElem_cons hi, hu1]
  by_cases ht : i < ts.length
  · rw [List.drop_eq_getElem_cons ht, List.getElem?_eq_getElem ht]; rfl
  · rw [List.drop_of_length_le (l := ts) (i := i) (by omega), List.getElem?_eq_none (by omega), List.drop_of_length_le (l := ts) (i := i + 1) (by omega)]; rfl

theorem frontF_end (p : Tm → Tm → Bool) (ts us : List Tm) {n : Nat} (h : us.length ≤ n) : frontF p (ts.drop n) (us.drop n) = true := by
  rw [List.drop_of_length_le h]; cases ts.drop n <;> rfl

section
variable {E : IEnv} (hE : E.fns = Table.fn table)
include hE
theorem within_rear {R U : List Tm} {or_ ob2 : Own} {xr zb : List AV} (hxr : Rts R xr) (hzb : Rts U zb) (hm : R.length < most) (hm2 : U.length < most) (p : Tm → Tm → Bool) {k : Nat}
    (hK : ∀ (i j : Nat) t u, R[i]? = some t → U[j]? = some u → ∃ x y, xr[i]? = some x ∧ zb[j]? = some y ∧ Rt t x ∧ Rt u y ∧ ∀ s, callA E k none (.fn n_format_inside [] []) [x, y] s = some (.ret (.bool (p t u)), false, s))
    (hk : zb.length < k) {bl g : List AB} {tk : List Nat} {C5 : AB} {va vb : AV} {Q : Pst} {e : Env} (e4 : e.get 4 = .ptr bl.length 0) (e6 : e.get 6 = .ptr (bl.length + 2) 0) (e9 : e.get 9 = .ptr (bl.length + (g.length + 3)) 0)
    (e77 : e.get 77 = .fn n_slices_Backward___api_Term_api_Term__1 [] [.ptr (bl.length + (g.length + 4)) 0])
    (q1 : frontF p R.reverse U.reverse = true → ∀ L r, Q .normal e { bl := bl ++ (.cells [.bool false] :: C5 :: .cells [va, vb, .sl ob2 3 zb] :: (g ++ (.cells [.sl or_ 3 xr] :: .cells [.sl ob2 3 zb] :: L :: r))), tk, ro := bl.length, rt := tk.length })
    (q2 : frontF p R.reverse U.reverse = false → ∀ L r, Q .ret e { bl := bl ++ (.cells [.bool false] :: C5 :: .cells [va, vb, .sl ob2 3 zb] :: (g ++ (.cells [.sl or_ 3 xr] :: .cells [.sl ob2 3 zb] :: L :: r))), tk, ro := bl.length, rt := tk.length }) :
    wp E (callA E (k + 2)) (k + 2) false (.rangeFn (.t 77) [78, 79] (.seq (.region [⟨(some 10), .mov (.t 78), none, [], false⟩] [10] false) (.region [⟨(some 11), .alloc [.int .i64 0, .str [], .sl .nil 3 []], none, [], false⟩, ⟨none, .store 3 (.t 11) (.t 79), none, [], false⟩] [11] false)) l1_format_within) Q e
      { bl := bl ++ (.cells [.bool false] :: C5 :: .cells [va, vb, .sl ob2 3 zb] :: (g ++ [.cells [.sl or_ 3 xr], .cells [.sl ob2 3 zb]])), tk, ro := bl.length, rt := tk.length } := by
  have hmx : maxLen = 9223372036854775807 := rfl
  have hmm : most = 1073741824 := rfl
  have hlr := hxr.length
  have hlu := hzb.length
  have hcal := c_format_inside hE [] []
  let L0 : ALoop := { st := .ready, pend := none, env := e, ps := [78, 79], assign := (.seq (.region [⟨(some 10), .mov (.t 78), none, [], false⟩] [10] false) (.region [⟨(some 11), .alloc [.int .i64 0, .str [], .sl .nil 3 []], none, [], false⟩, ⟨none, .store 3 (.t 11) (.t 79), none, [], false⟩] [11] false)), body := l1_format_within }
  let S : AB → List AB → St := fun L r => { bl := bl ++ (.cells [.bool false] :: C5 :: .cells [va, vb, .sl ob2 3 zb] :: (g ++ (.cells [.sl or_ 3 xr] :: .cells [.sl ob2 3 zb] :: L :: r))), tk, ro := bl.length, rt := tk.length }
  refine wp_range ?_
  have hlen : (bl ++ (AB.cells [.bool false] :: C5 :: .cells [va, vb, .sl ob2 3 zb] :: (g ++ [.cells [.sl or_ 3 xr], .cells [.sl ob2 3 zb]]))).length = bl.length + (g.length + 5) := by simp
  have hb := call_Backward_1 hE ob2 zb (by omega) (k := k + 1) (c := bl.length + (g.length + 4)) (yv := .yield (bl.length + (g.length + 5))) (s0 := S (.loop L0) [])
    (P := fun j s => ∃ r, s = S (.loop L0) r ∧ frontF p R.reverse U.reverse = frontF p (R.reverse.drop j) (U.reverse.drop j))
    (D := fun s => ∃ r, s = S (.loop { L0 with st := .done, pend := some .ret }) r ∧ frontF p R.reverse U.reverse = false)
    (by rintro j s ⟨r, rfl, _⟩; simp [S, append_get, append_get0])
    (by rintro s ⟨r, rfl, _⟩; simp [S])
    (by
      intro x hx
      obtain ⟨i, hi⟩ := List.mem_iff_getElem?.1 hx
      obtain ⟨h1, h2⟩ := List.getElem?_eq_some_iff.1 hi
      obtain ⟨y, h3, h4⟩ := hzb.get (i := i) (t := U[i]'(by omega)) (List.getElem?_eq_getElem (by omega))
      rw [hi] at h3; cases h3
      obtain ⟨_, h5, _⟩ := h4.open
      exact ⟨_, _, _, h5⟩)
    (by
      rintro j s x hj hx ⟨r, rfl, hq⟩
      have hju : j < U.reverse.length := by simp; omega
      obtain ⟨u, hu⟩ : ∃ u, U.reverse[j]? = some u := ⟨_, List.getElem?_eq_getElem hju⟩
      have hu' : U[zb.length - 1 - j]? = some u := by rw [List.getElem?_reverse (by omega)] at hu; rw [← hu, hlu]
      have hst := frontF_step p (ts := R.reverse) hu
      obtain ⟨x', hx', hrx⟩ := hzb.get hu'
      rw [hx] at hx'; cases hx'
      obtain ⟨kx, rfl, hkx⟩ := hrx.open
      have h1 : IntKind.wrap .i64 ((zb.length : Int) - (zb.length - 1 - j)) = (j : Int) + 1 := by rw [wrapIn (by omega) (by omega)]; omega
      obtain ⟨m, hm'⟩ : ∃ m : Int, m = (xr.length : Int) - (j + 1) := ⟨_, rfl⟩
      have h2 : IntKind.wrap .i64 ((xr.length : Int) - ((j : Int) + 1)) = m := by rw [wrapIn (by omega) (by omega), hm']
      refine call_round (L := L0) (by simp [S, append_get, append_get0]) rfl rfl (by simp [S]) ?_
      by_cases hjr : j < R.length
      · obtain ⟨t, ht⟩ : ∃ t, R.reverse[j]? = some t := ⟨_, List.getElem?_eq_getElem (by simp; omega)⟩
        have ht' : R[xr.length - 1 - j]? = some t := by rw [List.getElem?_reverse (by omega)] at ht; rw [← ht, hlr]
        obtain ⟨a, b, hxa, hyb, hra, hrb, hcall⟩ := hK _ _ _ _ ht' hu'
        rw [hx] at hyb; cases hyb
        obtain ⟨ka, rfl, hka⟩ := hra.open
        have hge : 0 ≤ m := by omega
        have e1 : idx (.int .i64 m) xr.length = some (xr.length - 1 - j) := by simp [idx]; omega
        obtain ⟨hlt', hx1⟩ := List.getElem?_eq_some_iff.1 hxa
        simp only [ht] at hst
        cases hp : p t u with
        | true =>
          rw [hp] at hst hcall
          simp [L0, S, l1_format_within, putAll, Env.get_put, e4, e6, e9, append_get, append_get0, append_set, append_set0, h1, h2, hge, e1, hlt', hx1, hxa, hcall, hcal]
          rw [hq, hst, Bool.true_and]
        | false =>
          rw [hp] at hst hcall
          simp [L0, S, l1_format_within, putAll, Env.get_put, e4, e6, e9, append_get, append_get0, append_set, append_set0, h1, h2, hge, e1, hlt', hx1, hxa, hcall, hcal]
          rw [hq, hst, Bool.false_and]
      · have hge : ¬ 0 ≤ m := by omega
        have ht : R.reverse[j]? = none := List.getElem?_eq_none (by simp; omega)
        simp only [ht] at hst
        cases hp : u.kind == 6 with
        | true =>
          have hp' : u.kind = 6 := by simpa using hp
          rw [hp] at hst
          simp [L0, S, l1_format_within, putAll, Env.get_put, e4, e6, e9, append_get, append_get0, append_set, append_set0, h1, h2, hge, hp']
          rw [hq, hst, Bool.true_and]
        | false =>
          have hp' : ¬ u.kind = 6 := by simpa using hp
          have hp2 : (u.kind != 6) = true := by simpa using hp
          rw [hp] at hst
          simp [L0, S, l1_format_within, putAll, Env.get_put, e4, e6, e9, append_get, append_get0, append_set, append_set0, h1, h2, hge, hp2]
          rw [hq, hst, Bool.false_and])
    ⟨[], rfl, by simp⟩ (by omega)
  obtain ⟨v, s', hcl, hor⟩ := hb
  refine ⟨v, false, s', ?_, ?_⟩
  · simp only [hlen, Opd.ev, e77]
    rw [← hcl]
    simp [S, L0, St.push]
  · rw [hlen]
    rcases hor with ⟨r, rfl, hq⟩ | ⟨r, rfl, hq⟩
    · rw [frontF_end p _ _ (by simp; omega)] at hq
      refine ⟨L0, by simp [S, append_get, append_get0], .inl ⟨rfl, rfl, ?_⟩⟩
      simpa [S, L0, append_set, append_set0] using q1 hq _ r
    · refine ⟨{ L0 with st := .done, pend := some .ret }, by simp [S, append_get, append_get0], .inr (.inr ⟨rfl, rfl, ?_⟩)⟩
      simpa [S, L0, append_set, append_set0] using q2 hq _ r

theorem fn_within {ts us : List Tm} {v w : AV} (hv : Sl ts v) (hw : Sl us w) (hm : ts.length < most) (hm2 : us.length < most) (p : Tm → Tm → Bool)
    (hf : ∀ t u x y, t ∈ ts → u ∈ us → Rt t x → Rt u y → Fn E (.fn n_format_inside [] []) [x, y] (.bool (p t u))) : Fn E (.fn n_format_within [] []) [v, w] (.bool (withinL p ts us)) := by
  have hmx : maxLen = 9223372036854775807 := rfl
  have hmm : most = 1073741824 := rfl
  obtain ⟨ra, ⟨K1, hK1⟩, hra⟩ := fn_split hE hv
  obtain ⟨rb, ⟨K2, hK2⟩, hrb⟩ := fn_split hE hw
  have hsa := splitT_le ts
  have hsb := splitT_le us
  have hcal := c_format_inside hE [] []
  obtain ⟨fa, rra, rfl, ha1, ha2⟩ := hra
  obtain ⟨fb, rrb, rfl, hb1, hb2⟩ := hrb
  by_cases cb : (splitT us).op = false
  · obtain ⟨K3, hK3⟩ := fn_EqualFunc hE hv hw (.fn n_format_inside [] []) p hf
    have hq : withinL p ts us = (!(splitT ts).op && eqF p ts us) := by unfold withinL; rw [if_pos cb]
    rw [hq]
    refine Fn.byW (h_format_within hE) rfl rfl ⟨K1 + K2 + K3, fun k hk bl tk => ?_⟩
    have h1 := hK1 k (by omega)
    have h2 := hK2 k (by omega)
    have h3 := hK3 k (by omega)
    rw [cb] at h2
    cases ca : (splitT ts).op <;> rw [ca] at h1 <;> simp [F_format_within, b_format_within, h1, h2, h3]
  have cb' : (splitT us).op = true := by simpa using cb
  obtain ⟨oa1, xa, rfl, hra1⟩ := ha1.len
  obtain ⟨oa2, za, rfl, hra2⟩ := ha2.len
  obtain ⟨ob1, xb, rfl, hrb1⟩ := hb1.len
  obtain ⟨ob2, zb, rfl, hrb2⟩ := hb2.len
  have w1 : IntKind.wrap .i64 ((xa.length : Int) + za.length) = (xa.length : Int) + za.length := wrapIn (by omega) (by omega)
  have w2 : IntKind.wrap .i64 ((xb.length : Int) + zb.length) = (xb.length : Int) + zb.length := wrapIn (by omega) (by omega)
  rw [cb'] at hK2
  by_cases cl : (splitT ts).front.length + (splitT ts).rear.length < (splitT us).front.length + (splitT us).rear.length
  · have hq : withinL p ts us = false := by unfold withinL; rw [if_neg cb, if_pos cl]
    have cl' : (xa.length : Int) + za.length < (xb.length : Int) + zb.length := by omega
    rw [hq]
    refine Fn.byW (h_format_within hE) rfl rfl ⟨K1 + K2, fun k hk bl tk => ?_⟩
    simp [F_format_within, b_format_within, hK1 k (by omega), hK2 k (by omega), w1, w2, cl']
  have cl' : ¬ (xa.length : Int) + za.length < (xb.length : Int) + zb.length := by omega
  obtain ⟨_, _, e, _, hxa⟩ := ha1; cases e
  obtain ⟨_, _, e, _, hza⟩ := ha2; cases e
  obtain ⟨_, _, e, _, hxb⟩ := hb1; cases e
  obtain ⟨_, _, e, _, hzb⟩ := hb2; cases e
  have hq : withinL p ts us = (frontF p (splitT ts).front (splitT us).front && frontF p (rearOf (splitT ts)).reverse (splitT us).rear.reverse) := by unfold withinL; rw [if_neg cb, if_neg cl]
  rw [hq]
  obtain ⟨K3, hK3⟩ := pair_all hxa hxb fun t u x y ht hu => hf t u x y (splitT_front ht) (splitT_front hu)
  obtain ⟨or_, xr, hsel⟩ : ∃ or_ xr, (if (splitT ts).op then AV.sl oa2 3 za else .sl oa1 3 xa) = .sl or_ 3 xr := by split <;> exact ⟨_, _, rfl⟩
  have hxr : Rts (rearOf (splitT ts)) xr := by
    unfold rearOf; revert hsel; split <;> (intro h; cases h; assumption)
  obtain ⟨K4, hK4⟩ := pair_all hxr hzb fun t u x y ht hu => hf t u x y (by unfold rearOf at ht; split at ht; exact splitT_rear ht; exact splitT_front ht) (splitT_rear hu)
  have hrl : (rearOf (splitT ts)).length ≤ ts.length := by unfold rearOf; split <;> omega
  have hlxa := hxa.length
  have hlxb := hxb.length
  refine Fn.byW (h_format_within hE) rfl rfl ⟨K1 + K2 + K3 + K4 + xb.length + zb.length + 10, fun k hk bl tk => ?_⟩
  obtain ⟨k, rfl⟩ : ∃ j, k = j + 2 := ⟨k - 2, by omega⟩
  have h1 := hK1 (k + 2) (by omega)
  have h2 := hK2 (k + 2) (by omega)
  simp [F_format_within, b_format_within, h1, h2, w1, w2, cl']
  refine wp_loop xb.length (fun i e s => ∃ g, frontF p (splitT ts).front (splitT us).front = frontF p ((splitT ts).front.drop i) ((splitT us).front.drop i) ∧
    e = [(4, .ptr bl.length 0), (5, .ptr (bl.length + 1) 0), (6, .ptr (bl.length + 2) 0), (44, .sl ob1 3 xb), (45, .int .i64 xb.length), (46, .int .i64 i)] ∧
    s = { bl := bl ++ (.cells [.bool false] :: .cells [.bool (splitT ts).op, .sl oa1 3 xa, .sl oa2 3 za] :: .cells [.bool true, .sl ob1 3 xb, .sl ob2 3 zb] :: g), tk, ro := bl.length, rt := tk.length }) (by omega) (by simp) ?_ ?_
  · rintro i e s hi ⟨g, hq, rfl, rfl⟩
    obtain ⟨u, hu⟩ : ∃ u, (splitT us).front[i]? = some u := ⟨_, List.getElem?_eq_getElem (by omega)⟩
    have hst := frontF_step p (ts := (splitT ts).front) hu
    obtain ⟨y, hy, hry⟩ := hxb.get hu
    obtain ⟨ky, rfl, hky⟩ := hry.open
    obtain ⟨_, hy1⟩ := List.getElem?_eq_some_iff.1 hy
    have e2 : idx (.int .i64 i) xb.length = some i := idx_nat hi
    have hwr : IntKind.wrap .i64 ((i : Int) + 1) = i + 1 := wrapIn (by omega) (by omega)
    by_cases hia : i < xa.length
    · obtain ⟨t, ht⟩ : ∃ t, (splitT ts).front[i]? = some t := ⟨_, List.getElem?_eq_getElem (by omega)⟩
      obtain ⟨x', y', hx, hy', hrx, _, hcall⟩ := hK3 (k + 2) (by omega) i i t u ht hu
      rw [hy] at hy'; cases hy'
      obtain ⟨kx, rfl, hkx⟩ := hrx.open
      obtain ⟨_, hx1⟩ := List.getElem?_eq_some_iff.1 hx
      have e1 : idx (.int .i64 i) xa.length = some i := idx_nat hia
      simp only [ht] at hst
      cases hp : p t u with
      | true =>
        rw [hp] at hst hcall
        simp [l0_format_within, hi, hia, e1, e2, hx1, hy1, append_get, append_get0, append_set, append_set0, hcall, hcal, hwr]
        rw [hq, hst, Bool.true_and]
      | false =>
        rw [hp] at hst hcall
        simp [l0_format_within, hi, hia, e1, e2, hx1, hy1, append_get, append_get0, append_set, append_set0, hcall, hcal, hwr]
        rw [hq, hst, Bool.false_and]
        intro h; cases h
    · have ht : (splitT ts).front[i]? = none := List.getElem?_eq_none (by omega)
      simp only [ht] at hst
      cases hp : u.kind == 6 with
      | true =>
        have hp' : u.kind = 6 := by simpa using hp
        rw [hp] at hst
        simp [l0_format_within, hi, hia, e2, hy1, append_get, append_get0, append_set, append_set0, hp', hwr]
        rw [hq, hst, Bool.true_and]
      | false =>
        have hp' : (u.kind != 6) = true := by simpa using hp
        rw [hp] at hst
        simp [l0_format_within, hi, hia, e2, hy1, append_get, append_get0, append_set, append_set0, hp', hwr]
        rw [hq, hst, Bool.false_and]
        intro h; cases h
  · rintro e s ⟨g, hq, rfl, rfl⟩
    rw [frontF_end p _ _ (by omega)] at hq
    cases ca : (splitT ts).op
    · simp [ca] at hsel
      obtain ⟨rfl, rfl⟩ := hsel
      simp [l0_format_within, ca, append_get, append_get0, append_set, append_set0, call_Backward hE _ _ (k + 2) (by omega)]
      refine within_rear hE hxr hzb (by omega) (by omega) p (hK4 k (by omega)) (by omega) (by simp) (by simp) (by simp) (by simp) (fun h L r => ?_) (fun h L r => ?_)
      · simp [hq, h, append_get, append_get0, append_set, append_set0]
      · simp [hq, h, append_get, append_get0, append_set, append_set0]
    · simp [ca] at hsel
      obtain ⟨rfl, rfl⟩ := hsel
      simp [l0_format_within, ca, append_get, append_get0, append_set, append_set0, call_Backward hE _ _ (k + 2) (by omega)]
      refine within_rear hE hxr hzb (by omega) (by omega) p (hK4 k (by omega)) (by omega) (by simp) (by simp) (by simp) (by simp) (fun h L r => ?_) (fun h L r => ?_)
      · simp [hq, h, append_get, append_get0, append_set, append_set0]
      · simp [hq, h, append_get, append_get0, append_set, append_set0]

theorem fn_inside : ∀ (n : Nat) {t u : Tm} {x y : AV}, nT t ≤ n → nT u ≤ n → n < most → Rt t x → Rt u y → Fn E (.fn n_format_inside [] []) [x, y] (.bool (insideT n t u))
  | 0, t, u, x, y, ht, hu, hm, hx, hy => by have := nT_pos t; omega
  | n + 1, t, u, x, y, ht, hu, hm, hx, hy => by
    have hmm : most = 1073741824 := rfl
    rw [nT_eq] at ht hu
    have h1 := length_le_nTs t.kids
    have h2 := length_le_nTs u.kids
    obtain ⟨kx, rfl, hkx⟩ := hx.open
    obtain ⟨ky, rfl, hky⟩ := hy.open
    obtain ⟨K, hK⟩ := fn_within hE hkx hky (by omega) (by omega) (insideT n) fun a b c d ha hb hc hd => fn_inside n (by have := nT_mem ha; omega) (by have := nT_mem hb; omega) (by omega) hc hd
    refine Fn.byW (h_format_inside hE) rfl rfl ⟨K, fun k hk bl tk => ?_⟩
    have h3 := hK k hk
    unfold insideT
    by_cases c6 : u.kind = 6
    · simp [F_format_inside, b_format_inside, c6]
    have b6 : (u.kind == 6) = false := by simpa using c6
    by_cases c5 : u.kind = 5
    · simp [F_format_inside, b_format_inside, c5]
    have b5 : (u.kind == 5) = false := by simpa using c5
    by_cases c4 : t.kind = 4
    · simp [F_format_inside, b_format_inside, c6, b6, b5, c5, c4, h3]
    · have b4 : (t.kind == 4) = false := by simpa using c4
      simp [F_format_inside, b_format_inside, c6, b6, b5, c5, b4, c4, h3]

theorem fn_withinT (n : Nat) {ts us : List Tm} {v w : AV} (hv : Sl ts v) (hw : Sl us w) (ht : nTs ts ≤ n) (hu : nTs us ≤ n) (hm : n < most) : Fn E (.fn n_format_within [] []) [v, w] (.bool (withinL (insideT n) ts us)) := by
  have h1 := length_le_nTs ts
  have h2 := length_le_nTs us
  exact fn_within hE hv hw (by omega) (by omega) _ fun a b c d ha hb hc hd => fn_inside hE n (by have := nT_mem ha; omega) (by have := nT_mem hb; omega) hm hc hd
end
end Ab.R
