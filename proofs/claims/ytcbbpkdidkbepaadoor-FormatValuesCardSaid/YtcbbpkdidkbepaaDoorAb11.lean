/- What 'format.Check' answers. No condition but the table. -/
import Derived.Test.YtcbbpkdidkbepaaDoorAb10
import Derived.Test.YtcbbpkdidkbepaaDoorAb09
import Derived.Test.YtcbbpkdidkbepaaDoorAb08
set_option linter.all false
namespace Ab.R
open Go Ab Go.RowKit
set_option maxRecDepth 10000
set_option linter.unusedSimpArgs false
set_option linter.unusedVariables false

def checkF (ts : List Tm) : Int := if checkT 7 ts ≠ 0 then checkT 7 ts else if formedT ts && (cmpTs ts (namedT ts) == 0) then 0 else 240

section
variable {E : IEnv} (hE : E.fns = Table.fn table)
include hE
theorem call_formed : ∀ (n : Nat) {ts : List Tm} {v : AV} (k c : Nat) (s : St), nTs ts < n → nTs ts < most → Sl ts v → 2 * nTs ts + 4 ≤ k → s.bl[c]? = some (.cells [.fn n_format_Check_1 [] [.ptr c 0]]) →
    callA E k none (.fn n_format_Check_1 [] [.ptr c 0]) [v] s = some (.ret (.bool (formedT ts)), false, s)
  | 0, _, _, _, _, _, h, _, _, _, _ => by omega
  | n + 1, ts, v, k, c, s, hn, hm, hv, hk, hs => by
    obtain ⟨o1, xs, rfl, ⟨hm1, _⟩, h1⟩ := hv
    have hl := h1.length
    have hlt := length_le_nTs ts
    have hmx : maxLen = 9223372036854775807 := rfl
    have hmm : most = 1073741824 := rfl
    obtain ⟨k, rfl⟩ : ∃ j, k = j + 1 := ⟨k - 1, by omega⟩
    obtain ⟨hc1, hc2⟩ := List.getElem?_eq_some_iff.1 hs
    have hcell : ∀ r, (s.bl ++ r)[c]? = some (.cells [.fn n_format_Check_1 [] [.ptr c 0]]) := fun r => by rw [List.getElem?_append_left hc1]; exact hs
    have key := call_byW (h_format_Check_1 hE) (first := []) (caps := [.ptr c 0]) (args := [.sl o1 3 xs]) rfl (k := k) (s := s) (Post := fun v s' => v = .bool (formedT ts) ∧ s' = s) (by
      simp [F_format_Check_1, b_format_Check_1, s0Of]
      refine wp_loop xs.length (fun i e st => ∃ r, formL ts = formL (ts.drop i) ∧ e = [(1, .ptr c 0), (4, .int .i64 (cnt7 (ts.take i))), (7, .sl o1 3 xs), (8, .int .i64 xs.length), (9, .int .i64 i)] ∧ st = { bl := s.bl ++ r, tk := s.tk, ro := s.bl.length, rt := s.tk.length }) (by omega) ⟨[], by simp [cnt7]⟩ ?_ ?_
      · rintro i e st hi ⟨r, hq, rfl, rfl⟩
        obtain ⟨t, ht⟩ : ∃ t, ts[i]? = some t := ⟨_, List.getElem?_eq_getElem (by omega)⟩
        obtain ⟨x, hx, hrx⟩ := h1.get ht
        obtain ⟨kx, rfl, hkx⟩ := hrx.open
        obtain ⟨hi1, hx1⟩ := List.getElem?_eq_some_iff.1 hx
        have e1 : idx (.int .i64 i) xs.length = some i := idx_nat hi1
        have hwr : IntKind.wrap .i64 ((i : Int) + 1) = i + 1 := wrapIn (by omega) (by omega)
        obtain ⟨hti, ht1⟩ := List.getElem?_eq_some_iff.1 ht
        have hle := nT_mem (List.mem_of_getElem? ht)
        rw [nT_eq] at hle
        have hct := cnt7_take ht
        have hcl := cnt7_le (ts.take i)
        have hcl2 : (ts.take i).length ≤ ts.length := by simp; omega
        have hw2 : IntKind.wrap .i64 ((cnt7 (ts.take i) : Int) + 1) = cnt7 (ts.take i) + 1 := wrapIn (by omega) (by omega)
        rw [List.drop_eq_getElem_cons hti, ht1, formL, formE_eq] at hq
        rw [hct]
        by_cases c7 : t.kind = 7
        · rw [if_pos c7, Bool.true_and] at hq
          simp [l0_format_Check_1, hi, e1, hx1, hwr, hw2, c7, append_get, append_get0, append_set, append_set0]
          exact hq
        rw [if_neg c7] at hq
        have b7 : (t.kind == 7) = false := by simpa using c7
        by_cases c4 : t.kind = 4
        · rw [if_pos c4] at hq
          have hcall := call_formed n k c ⟨s.bl ++ (r ++ [.cells [.int .i64 t.kind, .str t.text, kx]]), s.tk, s.bl.length, s.tk.length⟩ (by omega) (by omega) hkx (by omega) (hcell _)
          rw [c4] at hcall
          cases c : formedT t.kids with
          | true =>
            rw [c, Bool.true_and] at hq
            rw [c] at hcall
            simp [l0_format_Check_1, hi, e1, hx1, hwr, c4, hcell, hcall, append_get, append_get0, append_set, append_set0]
            exact hq
          | false =>
            rw [c, Bool.false_and] at hq
            rw [c] at hcall
            simp [l0_format_Check_1, hi, e1, hx1, hwr, c4, hcell, hcall, append_get, append_get0, append_set, append_set0, finA, formedT, hq]
        rw [if_neg c4] at hq
        have b4 : (t.kind == 4) = false := by simpa using c4
        by_cases c5 : t.kind = 5
        · have hq' : formL ts = formL (ts.drop (i + 1)) := by rw [hq]; simp [c5]
          simp [l0_format_Check_1, hi, e1, hx1, hwr, c5, append_get, append_get0, append_set, append_set0]
          exact hq'
        have b5 : (t.kind == 5) = false := by simpa using c5
        by_cases c6 : t.kind = 6
        · have hq' : formL ts = formL (ts.drop (i + 1)) := by rw [hq]; simp [c6]
          simp [l0_format_Check_1, hi, e1, hx1, hwr, c6, append_get, append_get0, append_set, append_set0]
          exact hq'
        have b6 : (t.kind == 6) = false := by simpa using c6
        have hq' : formL ts = false := by rw [hq]; simp [b5, b6]
        simp [l0_format_Check_1, hi, e1, hx1, hwr, b4, b5, b6, b7, append_get, append_get0, append_set, append_set0, finA, formedT, hq']
      · rintro e st ⟨r, hq, rfl, rfl⟩
        rw [List.drop_of_length_le (by omega), formL] at hq
        rw [List.take_of_length_le (by omega)]
        have hcc : decide ((cnt7 ts : Int) ≤ 1) = decide (cnt7 ts ≤ 1) := by rw [Bool.eq_iff_iff]; simp; omega
        simp [l0_format_Check_1, finA, formedT, hq, hcc])
    obtain ⟨v, s', h, rfl, rfl⟩ := key
    exact h

theorem fn_Pattern {ts : List Tm} {v : AV} (hv : Sl ts v) (hm : nTs ts < most) {M : Nat} (hM : M ≤ maxLen) (hW : ∀ t ∈ preS ts, t.text.length ≤ M) : Fn E (.fn n_term_Pattern [] []) [v] (.int .i64 (checkT 7 ts)) := by
  obtain ⟨K, hK⟩ := fn_check hE hv hm hM hW 7
  exact Fn.byW (h_term_Pattern hE) rfl rfl ⟨K, fun k hk bl tk => by simp [F_term_Pattern, b_term_Pattern, hK k hk]⟩
theorem fn_Value {ts : List Tm} {v : AV} (hv : Sl ts v) (hm : nTs ts < most) {M : Nat} (hM : M ≤ maxLen) (hW : ∀ t ∈ preS ts, t.text.length ≤ M) : Fn E (.fn n_term_Value [] []) [v] (.int .i64 (checkT 4 ts)) := by
  obtain ⟨K, hK⟩ := fn_check hE hv hm hM hW 4
  exact Fn.byW (h_term_Value hE) rfl rfl ⟨K, fun k hk bl tk => by simp [F_term_Value, b_term_Value, hK k hk]⟩

theorem fn_Check (hI : PrimI E) {ts : List Tm} {v : AV} (hv : Sl ts v) (hn : nTs ts < 100) {M : Nat} (hM : M ≤ maxLen) (hW : ∀ t ∈ preS ts, t.text.length ≤ M) : Fn E (.fn n_format_Check [] []) [v] (.int .i64 (checkF ts)) := by
  have hmm : most = 1073741824 := rfl
  obtain ⟨K1, hK1⟩ := fn_Pattern hE hv (by omega) hM hW
  unfold checkF
  by_cases c : checkT 7 ts = 0
  · have hnm := fn_named hE hI hv hn
    obtain ⟨K2, hK2⟩ := hnm
    have hnl : nTs (namedT ts) ≤ nTs ts := nameS_nTs 0 ts
    have hsl : Sl (namedT ts) (endV 3 (canoL (namedT ts))) := Sl.end (canoL_rts (by have : maxLen = 9223372036854775807 := rfl; omega)) (by have := canoL_length (namedT ts); have := length_le_nTs (namedT ts); have : maxLen = 9223372036854775807 := rfl; omega)
    obtain ⟨K3, hK3⟩ := fn_term_Equal hE hv hsl
    obtain ⟨o, xs, rfl, _⟩ := hv.len
    refine Fn.byW (h_format_Check hE) rfl rfl ⟨K1 + K2 + K3 + 2 * nTs ts + 4, fun k hk bl tk => ?_⟩
    have h1 := hK1 k (by omega)
    have h2 := hK2 k (by omega)
    have h3 := hK3 k (by omega)
    have h4 := call_formed hE _ k bl.length ⟨bl ++ [.cells [.fn n_format_Check_1 [] [.ptr bl.length 0]]], tk, bl.length, tk.length⟩ (Nat.lt_succ_self _) (by omega) hv (by omega) (by simp)
    rw [c] at h1
    rw [if_neg (by simpa using c)]
    cases cf : formedT ts with
    | false =>
      rw [cf] at h4
      simp [F_format_Check, b_format_Check, h1, h4, append_get, append_get0, append_set, append_set0]
    | true =>
      rw [cf] at h4
      cases ce : cmpTs ts (namedT ts) == 0 with
      | true =>
        rw [ce] at h3
        simp [F_format_Check, b_format_Check, h1, h2, h3, h4, append_get, append_get0, append_set, append_set0]
      | false =>
        rw [ce] at h3
        simp [F_format_Check, b_format_Check, h1, h2, h3, h4, append_get, append_get0, append_set, append_set0]
  · refine Fn.byW (h_format_Check hE) rfl rfl ⟨K1, fun k hk bl tk => ?_⟩
    have h1 := hK1 k (by omega)
    have c' : (checkT 7 ts != 0) = true := by simpa using c
    simp [F_format_Check, b_format_Check, h1, c, c']
end
end Ab.R

/- What 'Join', 'Cut' and 'Within' answer. No condition but the table. -/
namespace Ab.R
open Go Ab Go.RowKit
set_option maxRecDepth 10000
set_option linter.unusedSimpArgs false
set_option linter.unusedVariables false

def pairF (f g : List Tm) : Int := if checkF f ≠ 0 then checkF f else checkF g
def Shorts (ts : List Tm) : Prop := ∀ t ∈ preS ts, t.text.length ≤ 600
theorem max600 : 600 ≤ maxLen := by rw [show maxLen = 9223372036854775807 from rfl]; omega
theorem endV_Sl {ts : List Tm} (h : nTs ts < 1000) : Sl ts (endV 3 (canoL ts)) := by
  have hmx : maxLen = 9223372036854775807 := rfl
  have := canoL_length ts
  have := length_le_nTs ts
  exact Sl.end (canoL_rts (by omega)) (by omega)

section
variable {E : IEnv} (hE : E.fns = Table.fn table) (hI : PrimI E)
include hE hI
theorem fn_pair {f g : List Tm} {v w : AV} (hv : Sl f v) (hw : Sl g w) (hf : nTs f < 100) (hg : nTs g < 100) (sf : Shorts f) (sg : Shorts g) : Fn E (.fn n_format_pair [] []) [v, w] (.int .i64 (pairF f g)) := by
  obtain ⟨K1, hK1⟩ := fn_Check hE hI hv hf max600 sf
  obtain ⟨K2, hK2⟩ := fn_Check hE hI hw hg max600 sg
  refine Fn.byW (h_format_pair hE) rfl rfl ⟨K1 + K2, fun k hk bl tk => ?_⟩
  have h1 := hK1 k (by omega)
  have h2 := hK2 k (by omega)
  unfold pairF
  by_cases c : checkF f = 0
  · rw [c] at h1
    simp [F_format_pair, b_format_pair, h1, h2, c]
  · have c' : (checkF f != 0) = true := by simpa using c
    simp [F_format_pair, b_format_pair, h1, h2, c, c']

theorem fn_Within (n : Nat) {f g : List Tm} {v w : AV} (hv : Sl f v) (hw : Sl g w) (hf : nTs f < 100) (hg : nTs g < 100) (sf : Shorts f) (sg : Shorts g) (hn : 100 ≤ n) (hn2 : n ≤ 1000) :
    Fn E (.fn n_format_Within [] []) [v, w] (if pairF f g = 0 then .tup [.bool (withinL (insideT n) f g), .int .i64 0] else .tup [.bool false, .int .i64 (pairF f g)]) := by
  have hmm : most = 1073741824 := rfl
  obtain ⟨K1, hK1⟩ := fn_pair hE hI hv hw hf hg sf sg
  obtain ⟨K2, hK2⟩ := fn_withinT hE n hv hw (by omega) (by omega) (by omega)
  refine Fn.byW (h_format_Within hE) rfl rfl ⟨K1 + K2, fun k hk bl tk => ?_⟩
  have h1 := hK1 k (by omega)
  have h2 := hK2 k (by omega)
  by_cases c : pairF f g = 0
  · rw [c] at h1
    simp [F_format_Within, b_format_Within, h1, h2, c]
  · have c' : (pairF f g != 0) = true := by simpa using c
    simp [F_format_Within, b_format_Within, h1, h2, c, c']

theorem fn_law_inside (n : Nat) {f g : List Tm} {v w : AV} (hv : Sl f v) (hw : Sl g w) (hf : nTs f < 100) (hg : nTs g < 100) (sf : Shorts f) (sg : Shorts g) (hn : 100 ≤ n) (hn2 : n ≤ 1000) :
    Fn E (.fn n_chiasmuslaw22_inside [] []) [v, w] (.bool (pairF f g == 0 && withinL (insideT n) f g)) := by
  obtain ⟨K1, hK1⟩ := fn_Within hE hI n hv hw hf hg sf sg hn hn2
  refine Fn.byW (h_chiasmuslaw22_inside hE) rfl rfl ⟨K1, fun k hk bl tk => ?_⟩
  have h1 := hK1 k (by omega)
  by_cases c : pairF f g = 0
  · rw [if_pos c] at h1
    cases cw : withinL (insideT n) f g <;> rw [cw] at h1 <;> simp [F_chiasmuslaw22_inside, b_chiasmuslaw22_inside, h1, c]
  · rw [if_neg c] at h1
    have c' : (pairF f g == 0) = false := by simpa using c
    simp [F_chiasmuslaw22_inside, b_chiasmuslaw22_inside, h1, c, c']

theorem fn_Join (n : Nat) {f g : List Tm} {v w : AV} (hv : Sl f v) (hw : Sl g w) (hf : nTs f < 100) (hg : nTs g < 100) (sf : Shorts f) (sg : Shorts g) (hn : 100 ≤ n) (hn2 : n ≤ 1000) (hc : pairF f g = 0) (hj : nTs (joinL (bothT n) f g) < 100) :
    Fn E (.fn n_format_Join [] []) [v, w] (.tup [endV 3 (canoL (namedT (joinL (bothT n) f g))), .int .i64 0]) := by
  have hmm : most = 1073741824 := rfl
  obtain ⟨K1, hK1⟩ := fn_pair hE hI hv hw hf hg sf sg
  obtain ⟨r, ⟨K2, hK2⟩, hr⟩ := fn_joinT hE n hv hw (by omega) (by omega) (by omega)
  obtain ⟨K3, hK3⟩ := fn_named hE hI hr hj
  have hd := canoL_data (namedT (joinL (bothT n) f g))
  refine Fn.byW (h_format_Join hE) rfl rfl ⟨K1 + K2 + K3, fun k hk bl tk => ?_⟩
  have h1 := hK1 k (by omega)
  have h2 := hK2 k (by omega)
  have h3 := hK3 k (by omega)
  rw [hc] at h1
  simp [F_format_Join, b_format_Join, h1, h2, h3, endV_data, hd]

theorem fn_Cut {f : List Tm} {v : AV} (hv : Sl f v) (hf : nTs f < 100) (sf : Shorts f) (hc : checkF f = 0) (hj : nTs (cutT 0 f) < 100) :
    Fn E (.fn n_format_Cut [] []) [v] (.tup [endV 3 (canoL (namedT (cutT 0 f))), .int .i64 0]) := by
  have hmm : most = 1073741824 := rfl
  obtain ⟨K1, hK1⟩ := fn_Check hE hI hv hf max600 sf
  obtain ⟨r, ⟨K2, hK2⟩, hr⟩ := fn_cut hE _ 0 (Nat.lt_succ_self _) (by omega) (by omega) hv
  obtain ⟨K3, hK3⟩ := fn_named hE hI hr hj
  have hd := canoL_data (namedT (cutT 0 f))
  refine Fn.byW (h_format_Cut hE) rfl rfl ⟨K1 + K2 + K3, fun k hk bl tk => ?_⟩
  have h1 := hK1 k (by omega)
  have h2 : ∀ s, callA E k none (.fn n_format_cut [] []) [v, .int .i64 0] s = some (.ret r, false, s) := by exact_mod_cast hK2 k (by omega)
  have h3 := hK3 k (by omega)
  rw [hc] at h1
  simp [F_format_Cut, b_format_Cut, h1, h2, h3, endV_data, hd]
end
end Ab.R

/- What 'FormatOrder' answers, out of the plain law. No condition but the table. -/
namespace Ab.R
open Go Ab Go.RowKit
set_option maxRecDepth 10000
set_option linter.unusedSimpArgs false
set_option linter.unusedVariables false

def NN : Nat := 200
/- what the plain law says of three formats -/
structure OrderLaw (f g h : List Tm) : Prop where
  self : withinL (insideT NN) f f = true
  trans : withinL (insideT NN) f g = true → withinL (insideT NN) g h = true → withinL (insideT NN) f h = true
  jn : nTs (joinL (bothT NN) f g) < 100
  jn' : nTs (joinL (bothT NN) g f) < 100
  jeq : namedT (joinL (bothT NN) f g) = namedT (joinL (bothT NN) g f)
  jck : checkF (namedT (joinL (bothT NN) f g)) = 0
  jf : withinL (insideT NN) f (namedT (joinL (bothT NN) f g)) = true
  jg : withinL (insideT NN) g (namedT (joinL (bothT NN) f g)) = true
  js : Shorts (namedT (joinL (bothT NN) f g))
  cn : nTs (cutT 0 f) < 100
  cck : checkF (namedT (cutT 0 f)) = 0
  cf : withinL (insideT NN) f (namedT (cutT 0 f)) = true
  cs : Shorts (namedT (cutT 0 f))
  cn' : nTs (cutT 0 (namedT (cutT 0 f))) < 100
  ceq : namedT (cutT 0 (namedT (cutT 0 f))) = namedT (cutT 0 f)

def awF : List Tm := [.mk 5 [49] [], .mk 4 [] [.mk 7 [50] []]]
def awG : List Tm := [.mk 5 [49] []]
theorem aw1 : nTs awF < 100 := by decide +kernel
theorem aw2 : nTs awG < 100 := by decide +kernel
theorem aw3 : pairF awF awG = 0 := by decide +kernel
theorem aw4 : nTs (joinL (bothT NN) awF awG) < 100 := by decide +kernel
theorem aw5 : canoL (namedT (joinL (bothT NN) awF awG)) = [.agg [.int .i64 5, .str [49], .sl .nil 3 []], .agg [.int .i64 7, .str [50], .sl .nil 3 []]] := by decide +kernel
theorem shortsB {ts : List Tm} (h : (preS ts).all (fun t => decide (t.text.length ≤ 600)) = true) : Shorts ts := by
  intro t ht
  have := List.all_eq_true.1 h t ht
  simpa using this
theorem aw6 : Shorts awF := shortsB (by decide +kernel)
theorem aw7 : Shorts awG := shortsB (by decide +kernel)

section
variable {E : IEnv} (hE : E.fns = Table.fn table) (hI : PrimI E)
include hE hI
theorem fn_awake : Fn E (.fn n_chiasmuslaw22_awake [] []) [] (.bool true) := by
  have hmx : maxLen = 9223372036854775807 := rfl
  have hv : Sl awF (.sl .full 3 [.agg [.int .i64 5, .str [49], .sl .nil 3 []], .agg [.int .i64 4, .str [], .sl .full 3 [.agg [.int .i64 7, .str [50], .sl .nil 3 []]]]]) := by
    refine ⟨_, _, rfl, ⟨by simp; omega, fun h => by cases h⟩, ?_⟩
    simp only [awF, Rts]
    exact ⟨_, _, rfl, Rt.mk Sl.nil, _, _, rfl, Rt.mk ⟨_, _, rfl, ⟨by simp; omega, fun h => by cases h⟩, by simp only [Rts]; exact ⟨_, _, rfl, Rt.mk Sl.nil, rfl⟩⟩, rfl⟩
  have hw : Sl awG (.sl .full 3 [.agg [.int .i64 5, .str [49], .sl .nil 3 []]]) := by
    refine ⟨_, _, rfl, ⟨by simp; omega, fun h => by cases h⟩, ?_⟩
    simp only [awG, Rts]
    exact ⟨_, _, rfl, Rt.mk Sl.nil, rfl⟩
  obtain ⟨K, hK⟩ := fn_Join hE hI NN hv hw aw1 aw2 aw6 aw7 (by decide) (by decide) aw3 aw4
  rw [aw5] at hK
  refine Fn.byW (h_chiasmuslaw22_awake hE) rfl rfl ⟨K, fun k hk bl tk => ?_⟩
  have h1 := hK k hk
  simp [endV] at h1
  simp [F_chiasmuslaw22_awake, b_chiasmuslaw22_awake, setElems, repl, hasSize, append_get, append_get0, append_set, append_set0, h1, idx]

theorem fn_FormatOrder (law : ∀ f g h : List Tm, nTs f ≤ 60 → nTs g ≤ 60 → nTs h ≤ 60 → checkF f = 0 → checkF g = 0 → checkF h = 0 → OrderLaw f g h)
    {f g h : List Tm} {x y z : AV} (hx : Sl f x) (hy : Sl g y) (hz : Sl h z) : Fn E (.fn n_chiasmuslaw22_FormatOrder [] []) [x, y, z] (.bool true) := by
  obtain ⟨Ka, hKa⟩ := fn_awake hE hI
  obtain ⟨K1, hK1⟩ := fn_Small hE hx 60 (by omega) (by omega)
  obtain ⟨K2, hK2⟩ := fn_Small hE hy 60 (by omega) (by omega)
  obtain ⟨K3, hK3⟩ := fn_Small hE hz 60 (by omega) (by omega)
  by_cases s1 : ¬ (smallT f 60 = true)
  · have s1' : smallT f 60 = false := by simpa using s1
    rw [s1'] at hK1
    exact Fn.byW (h_chiasmuslaw22_FormatOrder hE) rfl rfl ⟨Ka + K1, fun k hk bl tk => by simp [F_chiasmuslaw22_FormatOrder, b_chiasmuslaw22_FormatOrder, hKa k (by omega), hK1 k (by omega)]⟩
  have s1 := Decidable.of_not_not s1
  rw [s1] at hK1
  by_cases s2 : ¬ (smallT g 60 = true)
  · have s2' : smallT g 60 = false := by simpa using s2
    rw [s2'] at hK2
    exact Fn.byW (h_chiasmuslaw22_FormatOrder hE) rfl rfl ⟨Ka + K1 + K2, fun k hk bl tk => by simp [F_chiasmuslaw22_FormatOrder, b_chiasmuslaw22_FormatOrder, hKa k (by omega), hK1 k (by omega), hK2 k (by omega)]⟩
  have s2 := Decidable.of_not_not s2
  rw [s2] at hK2
  by_cases s3 : ¬ (smallT h 60 = true)
  · have s3' : smallT h 60 = false := by simpa using s3
    rw [s3'] at hK3
    exact Fn.byW (h_chiasmuslaw22_FormatOrder hE) rfl rfl ⟨Ka + K1 + K2 + K3, fun k hk bl tk => by simp [F_chiasmuslaw22_FormatOrder, b_chiasmuslaw22_FormatOrder, hKa k (by omega), hK1 k (by omega), hK2 k (by omega), hK3 k (by omega)]⟩
  have s3 := Decidable.of_not_not s3
  rw [s3] at hK3
  have n1 := smallT_nodes s1
  have n2 := smallT_nodes s2
  have n3 := smallT_nodes s3
  have t1 : Shorts f := smallT_short s1
  have t2 : Shorts g := smallT_short s2
  have t3 : Shorts h := smallT_short s3
  obtain ⟨K4, hK4⟩ := fn_Check hE hI hx (by omega) max600 t1
  obtain ⟨K5, hK5⟩ := fn_Check hE hI hy (by omega) max600 t2
  obtain ⟨K6, hK6⟩ := fn_Check hE hI hz (by omega) max600 t3
  by_cases c1 : ¬ (checkF f = 0)
  · have c1' : (checkF f != 0) = true := by simpa using c1
    exact Fn.byW (h_chiasmuslaw22_FormatOrder hE) rfl rfl ⟨Ka + K1 + K2 + K3 + K4, fun k hk bl tk => by simp [F_chiasmuslaw22_FormatOrder, b_chiasmuslaw22_FormatOrder, hKa k (by omega), hK1 k (by omega), hK2 k (by omega), hK3 k (by omega), hK4 k (by omega), c1, c1']⟩
  have c1 := Decidable.of_not_not c1
  rw [c1] at hK4
  by_cases c2 : ¬ (checkF g = 0)
  · have c2' : (checkF g != 0) = true := by simpa using c2
    exact Fn.byW (h_chiasmuslaw22_FormatOrder hE) rfl rfl ⟨Ka + K1 + K2 + K3 + K4 + K5, fun k hk bl tk => by simp [F_chiasmuslaw22_FormatOrder, b_chiasmuslaw22_FormatOrder, hKa k (by omega), hK1 k (by omega), hK2 k (by omega), hK3 k (by omega), hK4 k (by omega), hK5 k (by omega), c2, c2']⟩
  have c2 := Decidable.of_not_not c2
  rw [c2] at hK5
  by_cases c3 : ¬ (checkF h = 0)
  · have c3' : (checkF h != 0) = true := by simpa using c3
    exact Fn.byW (h_chiasmuslaw22_FormatOrder hE) rfl rfl ⟨Ka + K1 + K2 + K3 + K4 + K5 + K6, fun k hk bl tk => by simp [F_chiasmuslaw22_FormatOrder, b_chiasmuslaw22_FormatOrder, hKa k (by omega), hK1 k (by omega), hK2 k (by omega), hK3 k (by omega), hK4 k (by omega), hK5 k (by omega), hK6 k (by omega), c3, c3']⟩
  have c3 := Decidable.of_not_not c3
  rw [c3] at hK6
  have l := law f g h (by omega) (by omega) (by omega) c1 c2 c3
  obtain ⟨J, hJ⟩ : ∃ J, J = namedT (joinL (bothT NN) f g) := ⟨_, rfl⟩
  obtain ⟨Z, hZ⟩ : ∃ Z, Z = namedT (cutT 0 f) := ⟨_, rfl⟩
  have hjn : nTs J < 100 := by rw [hJ]; have h1 := nameS_nTs 0 (joinL (bothT NN) f g); have h2 := l.jn; simp only [namedT] at *; omega
  have hzn : nTs Z < 100 := by rw [hZ]; have h1 := nameS_nTs 0 (cutT 0 f); have h2 := l.cn; simp only [namedT] at *; omega
  have hjs : Shorts J := by rw [hJ]; exact l.js
  have hzs : Shorts Z := by rw [hZ]; exact l.cs
  have hjc : checkF J = 0 := by rw [hJ]; exact l.jck
  have hzc : checkF Z = 0 := by rw [hZ]; exact l.cck
  have vj : Sl J (endV 3 (canoL J)) := endV_Sl (by omega)
  have vz : Sl Z (endV 3 (canoL Z)) := endV_Sl (by omega)
  have pp : ∀ {a b : List Tm}, checkF a = 0 → checkF b = 0 → pairF a b = 0 := fun ha hb => by unfold pairF; rw [if_neg (by simpa using ha)]; exact hb
  obtain ⟨K7, hK7⟩ := fn_law_inside hE hI NN hx hx (by omega) (by omega) t1 t1 (by decide) (by decide)
  obtain ⟨K8, hK8⟩ := fn_law_inside hE hI NN hx hy (by omega) (by omega) t1 t2 (by decide) (by decide)
  obtain ⟨K9, hK9⟩ := fn_law_inside hE hI NN hy hz (by omega) (by omega) t2 t3 (by decide) (by decide)
  obtain ⟨K10, hK10⟩ := fn_law_inside hE hI NN hx hz (by omega) (by omega) t1 t3 (by decide) (by decide)
  obtain ⟨K11, hK11⟩ := fn_Join hE hI NN hx hy (by omega) (by omega) t1 t2 (by decide) (by decide) (pp c1 c2) l.jn
  obtain ⟨K12, hK12⟩ := fn_Join hE hI NN hy hx (by omega) (by omega) t2 t1 (by decide) (by decide) (pp c2 c1) l.jn'
  rw [← l.jeq, ← hJ] at hK12
  rw [← hJ] at hK11
  obtain ⟨K13, hK13⟩ := fn_ref_Equal hE vj vj
  rw [cmpTs_self] at hK13
  obtain ⟨K14, hK14⟩ := fn_law_inside hE hI NN hx vj (by omega) hjn t1 hjs (by decide) (by decide)
  obtain ⟨K15, hK15⟩ := fn_law_inside hE hI NN hy vj (by omega) hjn t2 hjs (by decide) (by decide)
  obtain ⟨K16, hK16⟩ := fn_Cut hE hI hx (by omega) t1 c1 l.cn
  rw [← hZ] at hK16
  obtain ⟨K17, hK17⟩ := fn_Cut hE hI vz hzn hzs hzc (by rw [hZ]; exact l.cn')
  rw [show namedT (cutT 0 Z) = Z by rw [hZ]; exact l.ceq] at hK17
  obtain ⟨K18, hK18⟩ := fn_law_inside hE hI NN hx vz (by omega) hzn t1 hzs (by decide) (by decide)
  obtain ⟨K19, hK19⟩ := fn_ref_Equal hE vz vz
  rw [cmpTs_self] at hK19
  rw [pp c1 c1, l.self] at hK7
  rw [pp c1 c2] at hK8
  rw [pp c2 c3] at hK9
  rw [pp c1 c3] at hK10
  rw [pp c1 hjc, show withinL (insideT NN) f J = true by rw [hJ]; exact l.jf] at hK14
  rw [pp c2 hjc, show withinL (insideT NN) g J = true by rw [hJ]; exact l.jg] at hK15
  rw [pp c1 hzc, show withinL (insideT NN) f Z = true by rw [hZ]; exact l.cf] at hK18
  have ltr := l.trans
  generalize withinL (insideT NN) f g = w1 at *
  generalize withinL (insideT NN) g h = w2 at *
  generalize withinL (insideT NN) f h = w3 at *
  refine Fn.byW (h_chiasmuslaw22_FormatOrder hE) rfl rfl ⟨Ka + K1 + K2 + K3 + K4 + K5 + K6 + K7 + K8 + K9 + K10 + K11 + K12 + K13 + K14 + K15 + K16 + K17 + K18 + K19, fun k hk bl tk => ?_⟩
  have e0 := hKa k (by omega)
  have e1 := hK1 k (by omega)
  have e2 := hK2 k (by omega)
  have e3 := hK3 k (by omega)
  have e4 := hK4 k (by omega)
  have e5 := hK5 k (by omega)
  have e6 := hK6 k (by omega)
  have e7 := hK7 k (by omega)
  have e8 := hK8 k (by omega)
  have e9 := hK9 k (by omega)
  have e10 := hK10 k (by omega)
  have e11 := hK11 k (by omega)
  have e12 := hK12 k (by omega)
  have e13 := hK13 k (by omega)
  have e14 := hK14 k (by omega)
  have e15 := hK15 k (by omega)
  have e16 := hK16 k (by omega)
  have e17 := hK17 k (by omega)
  have e18 := hK18 k (by omega)
  have e19 := hK19 k (by omega)
  simp only [beq_self_eq_true, Bool.true_and, Bool.and_self] at e7 e8 e9 e10 e13 e14 e15 e18 e19
  cases w1
  · simp [F_chiasmuslaw22_FormatOrder, b_chiasmuslaw22_FormatOrder, e0, e1, e2, e3, e4, e5, e6, e7, e8, e9, e10, e11, e12, e13, e14, e15, e16, e17, e18, e19]
  · cases w2
    · simp [F_chiasmuslaw22_FormatOrder, b_chiasmuslaw22_FormatOrder, e0, e1, e2, e3, e4, e5, e6, e7, e8, e9, e10, e11, e12, e13, e14, e15, e16, e17, e18, e19]
    · have w3t : w3 = true := ltr rfl rfl
      subst w3t
      simp [F_chiasmuslaw22_FormatOrder, b_chiasmuslaw22_FormatOrder, e0, e1, e2, e3, e4, e5, e6, e7, e8, e9, e10, e11, e12, e13, e14, e15, e16, e17, e18, e19]
end
end Ab.R

/- Values and their least formats, as plain data. No condition. -/
namespace Ab
mutual
def valE : Tm → Bool
  | .mk k _ kids => if k = 4 then valL kids else k == 1 || k == 2 || k == 3
def valL : List Tm → Bool
  | [] => true
  | t :: ts => valE t && valL ts
end
mutual
def leastE : Tm → Tm
  | .mk k _ kids => if k = 4 then .mk 4 [] (leastL kids) else .mk 5 [] []
def leastL : List Tm → List Tm
  | [] => []
  | t :: ts => leastE t :: leastL ts
end
theorem valE_eq (t : Tm) : valE t = if t.kind = 4 then valL t.kids else t.kind == 1 || t.kind == 2 || t.kind == 3 := by cases t; rw [valE]; rfl
theorem leastE_eq (t : Tm) : leastE t = if t.kind = 4 then .mk 4 [] (leastL t.kids) else .mk 5 [] [] := by cases t; rw [leastE]; rfl
theorem leastL_append : ∀ a b : List Tm, leastL (a ++ b) = leastL a ++ leastL b
  | [], _ => by simp [leastL]
  | t :: a, b => by simp [leastL, leastL_append a b]
theorem leastL_length : ∀ a : List Tm, (leastL a).length = a.length
  | [] => rfl
  | t :: a => by simp [leastL, leastL_length a]
theorem leastL_take {ts : List Tm} {i : Nat} {t : Tm} (h : ts[i]? = some t) : leastL (ts.take (i + 1)) = leastL (ts.take i) ++ [leastE t] := by
  rw [List.take_add_one, h, leastL_append]; simp [leastL]
theorem leastE_kind (t : Tm) : (leastE t).kind = 4 ∨ (leastE t).kind = 5 := by
  rw [leastE_eq]; split
  · exact .inl rfl
  · exact .inr rfl
theorem leastL_cnt7 : ∀ a : List Tm, cnt7 (leastL a) = 0
  | [] => rfl
  | t :: a => by
    have := leastE_kind t
    have h : (leastE t).kind ≠ 7 := by omega
    have ih := leastL_cnt7 a
    unfold cnt7 at *
    simp only [leastL, List.countP_cons, ih]
    simp [h]
mutual
theorem leastE_form : ∀ t : Tm, formE (leastE t) = true
  | .mk k s kids => by
    rw [leastE]
    split
    · rw [formE_eq]
      show (if (4 : Int) = 7 then true else if (4 : Int) = 4 then formedT (leastL kids) else (4 : Int) == 5 || (4 : Int) == 6) = true
      rw [if_neg (by omega), if_pos rfl]
      unfold formedT
      rw [leastL_form kids, leastL_cnt7]; rfl
    · rfl
theorem leastL_form : ∀ a : List Tm, formL (leastL a) = true
  | [] => rfl
  | t :: a => by simp only [leastL, formL, leastE_form t, leastL_form a, Bool.and_self]
end
theorem leastT_formed (v : List Tm) : formedT (leastL v) = true := by unfold formedT; rw [leastL_form, leastL_cnt7]; rfl
mutual
theorem leastE_nT : ∀ t : Tm, nT (leastE t) ≤ nT t
  | .mk k s kids => by
    have := leastL_nTs kids
    rw [leastE]
    split
    · simp only [nT]; omega
    · simp only [nT, nTs]; omega
theorem leastL_nTs : ∀ a : List Tm, nTs (leastL a) ≤ nTs a
  | [] => Nat.le_refl _
  | t :: a => by
    have h1 := leastE_nT t
    have h2 := leastL_nTs a
    simp only [leastL, nTs]; omega
end
end Ab

/- What 'format.least' answers at values, and 'format.table' at no formats. No condition but the table. -/
namespace Ab.R
open Go Ab Go.RowKit
set_option maxRecDepth 10000
set_option linter.unusedSimpArgs false
set_option linter.unusedVariables false
section
variable {E : IEnv} (hE : E.fns = Table.fn table)
include hE
theorem fn_merged {o : Own} {ts : List Tm} {xs : List AV} (hn : xs.length ≤ maxLen) (ho : o = .nil → xs = []) (hR : Rts ts xs) (hop : (splitT ts).op = false) : FnK (ts.length + 6) E (.fn n_format_merged [] []) [.sl o 3 xs] (AV.sl o 3 xs).untok := by
  obtain ⟨o1, o2, _, _, hsp⟩ := fnk_split hE hn ho hR
  rw [hop] at hsp
  have hd := hR.data
  exact FnK.byW (h_format_merged hE) rfl rfl (K := ts.length + 5) fun k hk bl tk => by
    simp [F_format_merged, b_format_merged, hsp k hk, append_get, append_get0, append_set, append_set0, hd]

theorem fn_least : ∀ (n : Nat) {ts : List Tm} {v m : AV}, nTs ts < n → nTs ts < most → valL ts = true → Sl ts v → FnK (4 * nTs ts + 30) E (.fn n_format_least [] []) [v, m] (.tup [endV 3 (canoL (leastL ts)), .bool true])
  | 0, _, _, _, h, _, _, _ => by omega
  | n + 1, ts, v, m, hn, hm, hval, hv => by
    obtain ⟨o1, xs, rfl, ⟨hm1, _⟩, h1⟩ := hv
    have hl1 := h1.length
    have hlt := length_le_nTs ts
    have hmx : maxLen = 9223372036854775807 := rfl
    have hmm : most = 1073741824 := rfl
    have hvm : ∀ t ∈ ts, valE t = true := by
      intro t ht
      obtain ⟨l, r, rfl⟩ := List.append_of_mem ht
      clear hlt hl1 h1 hm hn
      induction l with
      | nil => simp only [List.nil_append, valL, Bool.and_eq_true] at hval; exact hval.1
      | cons a l ih => simp only [List.cons_append, valL, Bool.and_eq_true] at hval; exact ih hval.2 (by simp)
    have hlL := leastL_length ts
    have hnL := leastL_nTs ts
    have hcl := canoL_length (leastL ts)
    refine FnK.byW (h_format_least hE) rfl rfl (K := 4 * nTs ts + 29) fun k hk bl tk => ?_
    simp [F_format_least, b_format_least]
    refine wp_loop xs.length (fun i e s => ∃ b, bl.length ≤ b.length ∧ e = [(1, m), (6, outV 3 tk.length (canoL (leastL (ts.take i)))), (13, .sl o1 3 xs), (14, .int .i64 xs.length), (15, .int .i64 i)] ∧ s = { bl := b, tk := outT tk (canoL (leastL (ts.take i))), ro := bl.length, rt := tk.length }) (by omega) (by simp [leastL, canoL]) ?_ ?_
    · rintro i e s hi ⟨b, hb, rfl, rfl⟩
      obtain ⟨t, ht⟩ : ∃ t, ts[i]? = some t := ⟨_, List.getElem?_eq_getElem (by omega)⟩
      obtain ⟨x, hx, hrx⟩ := h1.get ht
      obtain ⟨vx, rfl, hvx⟩ := hrx.open
      have hle := nT_mem (List.mem_of_getElem? ht)
      rw [nT_eq] at hle
      obtain ⟨hi1, hx1⟩ := List.getElem?_eq_some_iff.1 hx
      have e1 : idx (.int .i64 i) xs.length = some i := idx_nat hi1
      have hwr : IntKind.wrap .i64 ((i : Int) + 1) = i + 1 := wrapIn (by omega) (by omega)
      have hb' : ∀ j, bl.length ≤ b.length + j := fun j => by omega
      have hve := hvm t (List.mem_of_getElem? ht)
      have h2 := canoL_length (leastL (ts.take i))
      have h3 := leastL_length (ts.take i)
      have h5 : (ts.take i).length ≤ ts.length := by simp; omega
      have hlen : (canoL (leastL (ts.take i))).length < most := by omega
      rw [leastL_take ht, canoL_append, leastE_eq]
      rw [valE_eq] at hve
      by_cases h4 : t.kind = 4
      · rw [if_pos h4] at hve
        have hc4 := fn_least n (m := m) (by omega) (by omega) hve hvx k (by omega)
        obtain ⟨o4, ho4, _⟩ := endV_sl 3 (canoL (leastL t.kids))
        have hu4 : (AV.sl o4 3 (canoL (leastL t.kids))).untok = .sl o4 3 (canoL (leastL t.kids)) := by rw [← ho4]; exact endV_untok _ _
        rw [ho4] at hc4
        simp only [h4, if_true, canoL, cano, ho4]
        simp [hu4, l0_format_least, hi, e1, hx1, hwr, hb, hb', h4, hc4, setElems, repl, hasSize, app_one, hlen, -List.length_take]
      · rw [if_neg h4] at hve ⊢
        have b4 : (t.kind == 4) = false := by simpa using h4
        have b6 : (t.kind == 6) = false := by simp at hve ⊢; omega
        have b7 : (t.kind == 7) = false := by simp at hve ⊢; omega
        have b8 : (t.kind == 8) = false := by simp at hve ⊢; omega
        simp only [canoL, cano]
        simp [l0_format_least, hi, e1, hx1, hwr, hb, hb', b4, b6, b7, b8, setElems, repl, hasSize, app_one, hlen, endV, -List.length_take]
    · rintro e s ⟨b, hb, rfl, rfl⟩
      rw [List.take_of_length_le (by omega)]
      obtain ⟨ov, hov, hnil, hun⟩ := outV_sl 3 tk.length (canoL (leastL ts))
      rw [hov]
      have hrt : Rts (leastL ts) (canoL (leastL ts)) := canoL_rts (by omega)
      have hop : (splitT (leastL ts)).op = false := by
        unfold splitT
        have : (leastL ts).findIdx? (fun t => t.kind == 7) = none := by
          rw [List.findIdx?_eq_none_iff]
          intro t ht
          have := leastL_cnt7 ts
          unfold cnt7 at this
          have := List.countP_eq_zero.1 this t ht
          simpa using this
        rw [this]
      have hmg := fn_merged hE (by omega) hnil hrt hop k (by omega)
      have hd := canoL_data (leastL ts)
      rw [hun] at hmg
      simp [l0_format_least, hmg, endV_data, hd]
end
end Ab.R

/- What 'format.table' answers at no formats. No condition but the table. -/
namespace Ab.R
open Go Ab Go.RowKit
set_option maxRecDepth 10000
set_option linter.unusedSimpArgs false
set_option linter.unusedVariables false
section
variable {E : IEnv} (hE : E.fns = Table.fn table)
include hE
theorem call_BackwardF : ∀ k, 1 ≤ k → ∀ s, callA E k none (.fn n_slices_Backward___format_Format_format_Format_ [] []) [.sl .nil 5 []] s = some (.ret (.fn n_slices_Backward___format_Format_format_Format__1 [] [.ptr s.bl.length 0]), false, { s with bl := s.bl ++ [.cells [.sl .nil 5 []]] }) := by
  intro k hk s
  obtain ⟨j, rfl⟩ : ∃ j, k = j + 1 := ⟨k - 1, by omega⟩
  have key := call_byW (h_slices_Backward___format_Format_format_Format_ hE) (first := []) (caps := []) (args := [.sl .nil 5 []]) rfl (k := j) (s := s) (Post := fun v s' => v = .fn n_slices_Backward___format_Format_format_Format__1 [] [.ptr s.bl.length 0] ∧ s' = { s with bl := s.bl ++ [.cells [.sl .nil 5 []]] }) (by
    simp [F_slices_Backward___format_Format_format_Format_, b_slices_Backward___format_Format_format_Format_, s0Of, finA])
  obtain ⟨v, s', h, rfl, rfl⟩ := key
  exact h
theorem call_BackwardF_1 {k c : Nat} {s : St} {yv : AV} (hc : s.bl[c]? = some (.cells [.sl .nil 5 []])) (hk : 0 < k) : ∃ v, callA E (k + 1) none (.fn n_slices_Backward___format_Format_format_Format__1 [] [.ptr c 0]) [yv] s = some (.ret v, false, s) := by
  have key := call_byW (h_slices_Backward___format_Format_format_Format__1 hE) (first := []) (caps := [.ptr c 0]) (args := [yv]) rfl (k := k) (s := s) (Post := fun _ s' => s' = s) (by
  have hw0 : IntKind.wrap .i64 (-1 : Int) = -1 := wrapIn (by omega) (by omega)
  have hw1 : IntKind.wrap .i64 (0 - 1 : Int) = -1 := wrapIn (by omega) (by omega)
  simp [F_slices_Backward___format_Format_format_Format__1, b_slices_Backward___format_Format_format_Format__1, s0Of, hc, hw0, hw1]
  refine wp_loop 0 (fun i e st => e = [(0, yv), (1, .ptr c 0), (3, .int .i64 (-1))] ∧ st = s) hk (by simp) (fun i e s hi _ => by omega) ?_
  rintro e st ⟨rfl, rfl⟩
  simp [l0_slices_Backward___format_Format_format_Format__1, finA])
  obtain ⟨v, s', h, rfl⟩ := key
  exact ⟨v, h⟩
theorem call_table : ∀ k, 4 ≤ k → ∀ s : St, s.ro ≤ s.bl.length → ∃ i g, callA E k none (.fn n_format_table [] []) [.sl .nil 5 []] s = some (.ret (.map (some i)), false, { s with bl := s.bl ++ g }) := by
  intro k hk s hs
  have hro : ∀ j, s.ro ≤ s.bl.length + j := fun j => by omega
  obtain ⟨k, rfl⟩ : ∃ j, k = j + 3 := ⟨k - 3, by omega⟩
  have key := call_byW (h_format_table hE) (first := []) (caps := []) (args := [.sl .nil 5 []]) rfl (k := k + 2) (s := s) (Post := fun v s' => ∃ i g, v = .map (some i) ∧ s' = { s with bl := s.bl ++ g }) (by
    simp [F_format_table, b_format_table, s0Of, append_get, append_get0, append_set, append_set0, hro, call_BackwardF hE (k + 2) (by omega)]
    refine wp_range_none (call_BackwardF_1 hE (by simp [St.push, append_get]) (by omega)) fun L => ?_
    simp [finA, append_get, append_get0])
  obtain ⟨v, s', h, i, g, rfl, rfl⟩ := key
  exact ⟨i, g, h⟩
end
end Ab.R

/- What 'Of' and 'Has' answer at values. No condition but the table. -/
namespace Ab.R
open Go Ab Go.RowKit
set_option maxRecDepth 10000
set_option linter.unusedSimpArgs false
set_option linter.unusedVariables false
section
variable {E : IEnv} (hE : E.fns = Table.fn table) (hI : PrimI E)
include hE
theorem fn_Result {ts : List Tm} {v : AV} (hv : Sl ts v) (hm : nTs ts < most) {M : Nat} (hM : M ≤ maxLen) (hW : ∀ t ∈ preS ts, t.text.length ≤ M) : Fn E (.fn n_term_Result [] []) [v] (.int .i64 (checkT 8 ts)) := by
  obtain ⟨K, hK⟩ := fn_check hE hv hm hM hW 8
  exact Fn.byW (h_term_Result hE) rfl rfl ⟨K, fun k hk bl tk => by simp [F_term_Result, b_term_Result, hK k hk]⟩
include hI
theorem fn_Of {ts : List Tm} {v : AV} (hv : Sl ts v) (hn : nTs ts < 100) (hs : Shorts ts) (hval : valL ts = true) (hc : checkT 8 ts = 0) :
    Fn E (.fn n_format_Of [] []) [v, .sl .nil 5 []] (.tup [endV 3 (canoL (namedT (leastL ts))), .bool true, .int .i64 0]) := by
  have hmm : most = 1073741824 := rfl
  have hmx : maxLen = 9223372036854775807 := rfl
  have hln := leastL_nTs ts
  obtain ⟨K1, hK1⟩ := fn_Result hE hv (by omega) max600 hs
  have hL : Sl (leastL ts) (endV 3 (canoL (leastL ts))) := endV_Sl (by omega)
  obtain ⟨K2, hK2⟩ := fn_named hE hI hL (by omega)
  have hd := canoL_data (namedT (leastL ts))
  refine Fn.byW (h_format_Of hE) rfl rfl ⟨K1 + K2 + 4 * nTs ts + 40, fun k hk bl tk => ?_⟩
  have h1 := hK1 k (by omega)
  have h2 := hK2 k (by omega)
  rw [hc] at h1
  obtain ⟨i, g, htb⟩ := call_table hE k (by omega) ⟨bl, tk, bl.length, tk.length⟩ (Nat.le_refl _)
  have h3 := fn_least hE _ (m := .map (some i)) (Nat.lt_succ_self _) (by omega) hval hv k (by omega)
  simp [F_format_Of, b_format_Of, h1]
  refine wp_loop 0 (fun j e st => e = [(0, v), (1, .sl .nil 5 []), (20, .sl .nil 5 []), (21, .int .i64 0), (22, .int .i64 0)] ∧ st = ⟨bl, tk, bl.length, tk.length⟩) (by omega) (by simp) (fun j e st hj _ => by omega) ?_
  rintro e st ⟨rfl, rfl⟩
  simp [l1_format_Of, htb, h3, h2, endV_data, hd]
theorem fn_Has (n : Nat) {f ts : List Tm} {x v : AV} (hx : Sl f x) (hv : Sl ts v) (hf : nTs f < 100) (hn : nTs ts < 100) (sf : Shorts f) (hs : Shorts ts) (hval : valL ts = true) (hc : checkT 4 ts = 0) (hcf : checkF f = 0) (hn1 : 100 ≤ n) (hn2 : n ≤ 1000) :
    Fn E (.fn n_format_Has [] []) [x, v] (.tup [.bool (withinL (insideT n) (leastL ts) f), .int .i64 0]) := by
  have hmm : most = 1073741824 := rfl
  have hln := leastL_nTs ts
  obtain ⟨K1, hK1⟩ := fn_Check hE hI hx hf max600 sf
  obtain ⟨K2, hK2⟩ := fn_Value hE hv (by omega) max600 hs
  have hL : Sl (leastL ts) (endV 3 (canoL (leastL ts))) := endV_Sl (by omega)
  obtain ⟨K3, hK3⟩ := fn_withinT hE n hL hx (by omega) (by omega) (by omega)
  refine Fn.byW (h_format_Has hE) rfl rfl ⟨K1 + K2 + K3 + 4 * nTs ts + 40, fun k hk bl tk => ?_⟩
  have h1 := hK1 k (by omega)
  have h2 := hK2 k (by omega)
  have h3 := hK3 k (by omega)
  have h4 := fn_least hE _ (m := .map none) (Nat.lt_succ_self _) (by omega) hval hv k (by omega)
  rw [hcf] at h1
  rw [hc] at h2
  simp [F_format_Has, b_format_Has, h1, h2, h3, h4]
end
end Ab.R

/- Plain laws of lists of a format: parts, places, within. No condition. -/
namespace Ab.R
open Ab

theorem splitT_nil : splitT [] = ⟨false, [], []⟩ := rfl
theorem splitT_cons (t : Tm) (ts : List Tm) : splitT (t :: ts) = if t.kind = 7 then ⟨true, [], ts⟩ else ⟨(splitT ts).op, t :: (splitT ts).front, (splitT ts).rear⟩ := by
  unfold splitT
  rw [List.findIdx?_cons]
  by_cases h : t.kind = 7
  · simp [h]
  · have h' : (t.kind == 7) = false := by simpa using h
    simp only [h', Bool.false_eq_true, if_false, h]
    cases List.findIdx? (fun t => t.kind == 7) ts <;> simp
def no7 (ts : List Tm) : Prop := ∀ t ∈ ts, t.kind ≠ 7
theorem splitT_front7 : ∀ ts : List Tm, no7 (splitT ts).front
  | [] => by intro t h; simp [splitT_nil] at h
  | t :: ts => by
    rw [splitT_cons]
    split
    · intro u h; simp at h
    · rename_i h7
      intro u h
      simp only [List.mem_cons] at h
      rcases h with rfl | h
      · exact h7
      · exact splitT_front7 ts u h
theorem splitT_no7 : ∀ {ts : List Tm}, no7 ts → splitT ts = ⟨false, ts, []⟩
  | [], _ => rfl
  | t :: ts, h => by
    rw [splitT_cons, if_neg (h t (List.mem_cons_self ..)), splitT_no7 fun u hu => h u (List.mem_cons_of_mem _ hu)]
theorem splitT_open : ∀ {fr re : List Tm}, no7 fr → splitT (fr ++ someT :: re) = ⟨true, fr, re⟩
  | [], re, _ => by simp [splitT_cons, someT, Tm.kind]
  | t :: fr, re, h => by
    rw [List.cons_append, splitT_cons, if_neg (h t (List.mem_cons_self ..)), splitT_open fun u hu => h u (List.mem_cons_of_mem _ hu)]
theorem splitT_eq : ∀ ts : List Tm, (splitT ts).op = true → ∃ e, e.kind = 7 ∧ ts = (splitT ts).front ++ e :: (splitT ts).rear
  | [], h => by simp [splitT_nil] at h
  | t :: ts, h => by
    rw [splitT_cons] at h ⊢
    split at h
    · rename_i h7; rw [if_pos h7]; exact ⟨t, h7, rfl⟩
    · rename_i h7
      rw [if_neg h7]
      obtain ⟨e, h1, h2⟩ := splitT_eq ts h
      exact ⟨e, h1, by simp only [List.cons_append]; rw [← h2]⟩
theorem cnt7_no7 {ts : List Tm} (h : cnt7 ts = 0) : no7 ts := by
  intro t ht
  unfold cnt7 at h
  have := List.countP_eq_zero.1 h t ht
  simpa using this
theorem no7_cnt7 {ts : List Tm} (h : no7 ts) : cnt7 ts = 0 := by
  unfold cnt7
  exact List.countP_eq_zero.2 fun t ht => by simpa using h t ht
theorem cnt7_append (a b : List Tm) : cnt7 (a ++ b) = cnt7 a + cnt7 b := by unfold cnt7; exact List.countP_append ..
theorem cnt7_cons (t : Tm) (ts : List Tm) : cnt7 (t :: ts) = (if t.kind = 7 then 1 else 0) + cnt7 ts := by
  unfold cnt7; rw [List.countP_cons]; simp only [beq_iff_eq]; omega
theorem splitT_rear7 {ts : List Tm} (h : cnt7 ts ≤ 1) : no7 (splitT ts).rear := by
  cases ho : (splitT ts).op with
  | false =>
    intro t ht
    unfold splitT at ho ht
    split at ho
    · cases ho
    · rename_i hq; simp [hq] at ht
  | true =>
    obtain ⟨e, h1, h2⟩ := splitT_eq ts ho
    rw [h2, cnt7_append, cnt7_cons, if_pos h1] at h
    exact cnt7_no7 (by omega)

/- at the same places -/
def Pw (R : Tm → Tm → Prop) : List Tm → List Tm → Prop
  | [], us => us = []
  | t :: ts, us => ∃ u r, us = u :: r ∧ R t u ∧ Pw R ts r
theorem Pw.length {R : Tm → Tm → Prop} : ∀ {ts us : List Tm}, Pw R ts us → us.length = ts.length
  | [], _, h => by simp only [Pw] at h; subst h; rfl
  | t :: ts, _, h => by
    simp only [Pw] at h
    obtain ⟨u, r, rfl, _, h2⟩ := h
    simp [h2.length]
theorem Pw.append {R : Tm → Tm → Prop} : ∀ {ts us ts' us' : List Tm}, Pw R ts us → Pw R ts' us' → Pw R (ts ++ ts') (us ++ us')
  | [], _, _, _, h, h' => by simp only [Pw] at h; subst h; exact h'
  | t :: ts, _, _, _, h, h' => by
    simp only [Pw] at h
    obtain ⟨u, r, rfl, h1, h2⟩ := h
    simp only [List.cons_append, Pw]
    exact ⟨_, _, rfl, h1, h2.append h'⟩
theorem Pw.reverse {R : Tm → Tm → Prop} : ∀ {ts us : List Tm}, Pw R ts us → Pw R ts.reverse us.reverse
  | [], _, h => by simp only [Pw] at h; subst h; simp [Pw]
  | t :: ts, _, h => by
    simp only [Pw] at h
    obtain ⟨u, r, rfl, h1, h2⟩ := h
    simp only [List.reverse_cons]
    exact h2.reverse.append ⟨_, _, rfl, h1, rfl⟩
theorem Pw.take {R : Tm → Tm → Prop} : ∀ {ts us : List Tm} (n : Nat), Pw R ts us → Pw R (ts.take n) (us.take n)
  | _, _, 0, _ => by simp [Pw]
  | [], _, n + 1, h => by simp only [Pw] at h; subst h; simp [Pw]
  | t :: ts, _, n + 1, h => by
    simp only [Pw] at h
    obtain ⟨u, r, rfl, h1, h2⟩ := h
    simp only [List.take_succ_cons, Pw]
    exact ⟨_, _, rfl, h1, h2.take n⟩
theorem Pw.drop {R : Tm → Tm → Prop} : ∀ {ts us : List Tm} (n : Nat), Pw R ts us → Pw R (ts.drop n) (us.drop n)
  | _, _, 0, h => by simpa using h
  | [], _, n + 1, h => by simp only [Pw] at h; subst h; simp [Pw]
  | t :: ts, _, n + 1, h => by
    simp only [Pw] at h
    obtain ⟨u, r, rfl, h1, h2⟩ := h
    simpa using h2.drop n
theorem Pw.mono {R S : Tm → Tm → Prop} : ∀ {ts us : List Tm}, Pw R ts us → (∀ t u, t ∈ ts → R t u → S t u) → Pw S ts us
  | [], _, h, _ => by simp only [Pw] at h; subst h; simp [Pw]
  | t :: ts, _, h, hs => by
    simp only [Pw] at h
    obtain ⟨u, r, rfl, h1, h2⟩ := h
    simp only [Pw]
    exact ⟨_, _, rfl, hs t u (List.mem_cons_self ..) h1, h2.mono fun a b ha => hs a b (List.mem_cons_of_mem _ ha)⟩
theorem Pw.split {R : Tm → Tm → Prop} (hk : ∀ t u, R t u → (t.kind = 7 ↔ u.kind = 7)) : ∀ {ts us : List Tm}, Pw R ts us → (splitT us).op = (splitT ts).op ∧ Pw R (splitT ts).front (splitT us).front ∧ Pw R (splitT ts).rear (splitT us).rear
  | [], _, h => by simp only [Pw] at h; subst h; simp [splitT_nil, Pw]
  | t :: ts, _, h => by
    simp only [Pw] at h
    obtain ⟨u, r, rfl, h1, h2⟩ := h
    have h3 := hk t u h1
    rw [splitT_cons, splitT_cons]
    by_cases h7 : t.kind = 7
    · rw [if_pos h7, if_pos (h3.1 h7)]; exact ⟨rfl, rfl, h2⟩
    · rw [if_neg h7, if_neg fun h => h7 (h3.2 h)]
      obtain ⟨h4, h5, h6⟩ := h2.split hk
      refine ⟨h4, ?_, h6⟩
      simp only [Pw]
      exact ⟨_, _, rfl, h1, h5⟩

/- one list within another, at the same places -/
theorem eqF_pw {p : Tm → Tm → Bool} : ∀ {ts us : List Tm}, Pw (fun t u => p t u = true) ts us → eqF p ts us = true
  | [], _, h => by simp only [Pw] at h; subst h; rfl
  | t :: ts, _, h => by
    simp only [Pw] at h
    obtain ⟨u, r, rfl, h1, h2⟩ := h
    simp only [eqF, h1, eqF_pw h2, Bool.and_self]
theorem frontF_pw {p : Tm → Tm → Bool} : ∀ {ts us : List Tm} (m : List Tm), Pw (fun t u => p t u = true) ts us → frontF p (ts ++ m) us = true
  | [], _, m, h => by simp only [Pw] at h; subst h; cases m <;> rfl
  | t :: ts, _, m, h => by
    simp only [Pw] at h
    obtain ⟨u, r, rfl, h1, h2⟩ := h
    simp only [List.cons_append, frontF, h1, frontF_pw m h2, Bool.and_self]
theorem frontF_pw0 {p : Tm → Tm → Bool} {ts us : List Tm} (h : Pw (fun t u => p t u = true) ts us) : frontF p ts us = true := by
  simpa using frontF_pw [] h
theorem eqF_iff {p : Tm → Tm → Bool} : ∀ {ts us : List Tm}, eqF p ts us = true → Pw (fun t u => p t u = true) ts us
  | [], [], _ => by simp [Pw]
  | [], _ :: _, h => by simp [eqF] at h
  | _ :: _, [], h => by simp [eqF] at h
  | t :: ts, u :: us, h => by
    simp only [eqF, Bool.and_eq_true] at h
    simp only [Pw]
    exact ⟨_, _, rfl, h.1, eqF_iff h.2⟩
end Ab.R

/- Within is reflexive and transitive, and new names change nothing. No condition. -/
namespace Ab.R
open Ab

theorem Pw.self {R : Tm → Tm → Prop} : ∀ {ts : List Tm}, (∀ t ∈ ts, R t t) → Pw R ts ts
  | [], _ => by simp [Pw]
  | t :: ts, h => by
    simp only [Pw]
    exact ⟨_, _, rfl, h t (List.mem_cons_self ..), Pw.self fun u hu => h u (List.mem_cons_of_mem _ hu)⟩
theorem formL_mem : ∀ {ts : List Tm}, formL ts = true → ∀ t ∈ ts, formE t = true
  | t :: ts, h, u, hu => by
    simp only [formL, Bool.and_eq_true] at h
    rcases List.mem_cons.1 hu with rfl | hu
    · exact h.1
    · exact formL_mem h.2 u hu
theorem formL_of : ∀ {ts : List Tm}, (∀ t ∈ ts, formE t = true) → formL ts = true
  | [], _ => rfl
  | t :: ts, h => by
    simp only [formL, h t (List.mem_cons_self ..), formL_of fun u hu => h u (List.mem_cons_of_mem _ hu), Bool.and_self]
theorem formedT_iff (ts : List Tm) : formedT ts = true ↔ (∀ t ∈ ts, formE t = true) ∧ cnt7 ts ≤ 1 := by
  unfold formedT
  simp only [Bool.and_eq_true, decide_eq_true_eq]
  exact ⟨fun h => ⟨formL_mem h.1, h.2⟩, fun h => ⟨formL_of h.1, h.2⟩⟩
theorem formE_cases {t : Tm} (h : formE t = true) : t.kind = 7 ∨ (t.kind = 4 ∧ formedT t.kids = true) ∨ t.kind = 5 ∨ t.kind = 6 := by
  rw [formE_eq] at h
  by_cases h7 : t.kind = 7
  · exact .inl h7
  · rw [if_neg h7] at h
    by_cases h4 : t.kind = 4
    · rw [if_pos h4] at h; exact .inr (.inl ⟨h4, h⟩)
    · rw [if_neg h4] at h
      simp only [Bool.or_eq_true, beq_iff_eq] at h
      exact .inr (.inr h)

theorem within_map {q : Tm → Tm → Bool} {f g : List Tm} (h : Pw (fun t u => (t.kind = 7 ↔ u.kind = 7) ∧ (t.kind ≠ 7 → q t u = true)) f g) (h1 : cnt7 f ≤ 1) : withinL q f g = true := by
  obtain ⟨ho, hf, hr⟩ := h.split fun t u h => h.1
  have hf7 := splitT_front7 f
  have hr7 := splitT_rear7 h1
  have hf' : Pw (fun t u => q t u = true) (splitT f).front (splitT g).front := hf.mono fun t u ht hq => hq.2 (hf7 t ht)
  have hr' : Pw (fun t u => q t u = true) (splitT f).rear (splitT g).rear := hr.mono fun t u ht hq => hq.2 (hr7 t ht)
  unfold withinL
  cases hop : (splitT f).op with
  | false =>
    rw [hop] at ho
    rw [if_pos ho]
    have e1 := splitT_shut hop
    have e2 := splitT_shut ho
    rw [e1, e2] at hf'
    simp only [Bool.not_false, Bool.true_and]
    exact eqF_pw hf'
  | true =>
    rw [hop] at ho
    rw [if_neg (by rw [ho]; simp), if_neg (by have := hf.length; have := hr.length; omega)]
    rw [frontF_pw0 hf', Bool.true_and]
    unfold rearOf
    rw [if_pos hop]
    exact frontF_pw0 hr'.reverse

theorem inside_self : ∀ (n : Nat) {t : Tm}, nT t ≤ n → formE t = true → t.kind ≠ 7 → insideT n t t = true
  | 0, t, h, _, _ => by have := nT_pos t; omega
  | n + 1, t, h, hf, h7 => by
    rw [nT_eq] at h
    unfold insideT
    by_cases h6 : t.kind = 6
    · rw [if_pos h6]
    rw [if_neg h6]
    by_cases h5 : t.kind = 5
    · rw [if_pos h5]; simpa using h5
    rw [if_neg h5]
    rcases formE_cases hf with h | ⟨h4, hk⟩ | h | h
    · exact absurd h h7
    · obtain ⟨k1, k2⟩ := (formedT_iff _).1 hk
      simp only [h4, beq_self_eq_true, Bool.true_and]
      refine within_map (Pw.self fun u hu => ⟨Iff.rfl, fun hu7 => inside_self n ?_ (k1 u hu) hu7⟩) k2
      have := nT_mem hu; omega
    · exact absurd h h5
    · exact absurd h h6
theorem within_self (n : Nat) {f : List Tm} (hf : formedT f = true) (hn : nTs f ≤ n) : withinL (insideT n) f f = true := by
  obtain ⟨k1, k2⟩ := (formedT_iff _).1 hf
  refine within_map (Pw.self fun u hu => ⟨Iff.rfl, fun hu7 => inside_self n ?_ (k1 u hu) hu7⟩) k2
  have := nT_mem hu; omega

theorem frontF_trans {p : Tm → Tm → Bool} (htr : ∀ a b c, p a b = true → p b c = true → p a c = true) (htop : ∀ a u, u.kind = 6 → p a u = true) (hmax : ∀ b c, b.kind = 6 → p b c = true → c.kind = 6) :
    ∀ {cs az bs : List Tm}, frontF p az bs = true → frontF p bs cs = true → frontF p az cs = true
  | [], az, _, _, _ => by cases az <;> rfl
  | c :: cs, az, [], h1, h2 => by
    simp only [frontF, Bool.and_eq_true, beq_iff_eq] at h2
    cases az with
    | nil => simp only [frontF, h2.1, beq_self_eq_true, Bool.true_and]; exact h2.2
    | cons a az =>
      simp only [frontF, htop a c h2.1, Bool.true_and]
      exact frontF_trans htr htop hmax (bs := []) (by cases az <;> rfl) h2.2
  | c :: cs, az, b :: bs, h1, h2 => by
    simp only [frontF, Bool.and_eq_true] at h2
    cases az with
    | nil =>
      simp only [frontF, Bool.and_eq_true, beq_iff_eq] at h1
      simp only [frontF, hmax b c h1.1 h2.1, beq_self_eq_true, Bool.true_and]
      exact frontF_trans htr htop hmax h1.2 h2.2
    | cons a az =>
      simp only [frontF, Bool.and_eq_true] at h1
      simp only [frontF, htr a b c h1.1 h2.1, Bool.true_and]
      exact frontF_trans htr htop hmax h1.2 h2.2
theorem eqF_trans {p : Tm → Tm → Bool} (htr : ∀ a b c, p a b = true → p b c = true → p a c = true) : ∀ {az bs cs : List Tm}, eqF p az bs = true → eqF p bs cs = true → eqF p az cs = true
  | [], [], [], _, _ => rfl
  | [], [], _ :: _, _, h => by simp [eqF] at h
  | [], _ :: _, _, h, _ => by simp [eqF] at h
  | _ :: _, [], _, h, _ => by simp [eqF] at h
  | _ :: _, _ :: _, [], _, h => by simp [eqF] at h
  | a :: az, b :: bs, c :: cs, h1, h2 => by
    simp only [eqF, Bool.and_eq_true] at h1 h2 ⊢
    exact ⟨htr a b c h1.1 h2.1, eqF_trans htr h1.2 h2.2⟩

theorem splitT_shut2 {f : List Tm} (h : (splitT f).op = false) : (splitT f).rear = [] := by
  unfold splitT at *; split
  · rename_i i hq; simp [hq] at h
  · rfl
theorem within_trans {p : Tm → Tm → Bool} (htr : ∀ a b c, p a b = true → p b c = true → p a c = true) (htop : ∀ a u, u.kind = 6 → p a u = true) (hmax : ∀ b c, b.kind = 6 → p b c = true → c.kind = 6) {f g h : List Tm}
    (h1 : withinL p f g = true) (h2 : withinL p g h = true) : withinL p f h = true := by
  unfold withinL at h1 h2 ⊢
  by_cases oh : (splitT h).op = false
  · rw [if_pos oh] at h2 ⊢
    simp only [Bool.and_eq_true, Bool.not_eq_true'] at h2
    rw [if_pos h2.1] at h1
    simp only [Bool.and_eq_true, Bool.not_eq_true'] at h1 ⊢
    exact ⟨h1.1, eqF_trans htr h1.2 h2.2⟩
  rw [if_neg oh] at h2 ⊢
  by_cases l2 : (splitT g).front.length + (splitT g).rear.length < (splitT h).front.length + (splitT h).rear.length
  · rw [if_pos l2] at h2; cases h2
  rw [if_neg l2] at h2
  simp only [Bool.and_eq_true] at h2
  by_cases og : (splitT g).op = false
  · rw [if_pos og] at h1
    simp only [Bool.and_eq_true, Bool.not_eq_true'] at h1
    have e1 := splitT_shut h1.1
    have e2 := splitT_shut og
    have e3 := splitT_shut2 h1.1
    have e4 := splitT_shut2 og
    have hp := eqF_iff h1.2
    have hl := hp.length
    rw [if_neg (by rw [e1, e3]; rw [e2, e4] at l2; simp only [List.length_nil] at *; omega)]
    have r1 : rearOf (splitT f) = f := by unfold rearOf; rw [h1.1, e1]; rfl
    have r2 : rearOf (splitT g) = g := by unfold rearOf; rw [og, e2]; rfl
    rw [e2, r2] at h2
    rw [e1, r1, frontF_trans htr htop hmax (frontF_pw0 hp) h2.1, frontF_trans htr htop hmax (frontF_pw0 hp.reverse) h2.2]; rfl
  · rw [if_neg og] at h1
    have og' : (splitT g).op = true := by simpa using og
    by_cases l1 : (splitT f).front.length + (splitT f).rear.length < (splitT g).front.length + (splitT g).rear.length
    · rw [if_pos l1] at h1; cases h1
    rw [if_neg l1] at h1
    simp only [Bool.and_eq_true] at h1
    rw [if_neg (by omega)]
    have r2 : rearOf (splitT g) = (splitT g).rear := by unfold rearOf; rw [og']; rfl
    rw [r2] at h2
    rw [frontF_trans htr htop hmax h1.1 h2.1, frontF_trans htr htop hmax h1.2 h2.2]; rfl
theorem inside_top : ∀ (n : Nat) (a u : Tm), u.kind = 6 → insideT n a u = true
  | 0, _, u, h => by simpa [insideT] using h
  | n + 1, _, u, h => by unfold insideT; rw [if_pos h]
theorem inside_max : ∀ (n : Nat) (b c : Tm), b.kind = 6 → insideT n b c = true → c.kind = 6
  | 0, _, c, _, h => by simpa [insideT] using h
  | n + 1, b, c, hb, h => by
    unfold insideT at h
    by_cases c6 : c.kind = 6
    · exact c6
    rw [if_neg c6] at h
    by_cases c5 : c.kind = 5
    · rw [if_pos c5] at h; simp [hb] at h
    · rw [if_neg c5] at h; simp [hb] at h
theorem inside_trans : ∀ (n : Nat) (a b c : Tm), insideT n a b = true → insideT n b c = true → insideT n a c = true
  | 0, _, _, c, _, h => by simpa [insideT] using h
  | n + 1, a, b, c, h1, h2 => by
    by_cases c6 : c.kind = 6
    · exact inside_top _ _ _ c6
    have b6 : b.kind ≠ 6 := fun hb => c6 (inside_max _ _ _ hb h2)
    unfold insideT at h1 h2 ⊢
    rw [if_neg c6] at h2 ⊢
    rw [if_neg b6] at h1
    by_cases c5 : c.kind = 5
    · rw [if_pos c5] at h2 ⊢
      have b5 : b.kind = 5 := by simpa using h2
      rw [if_pos b5] at h1
      exact h1
    · rw [if_neg c5] at h2 ⊢
      simp only [Bool.and_eq_true, beq_iff_eq] at h2
      rw [if_neg (by omega)] at h1
      simp only [Bool.and_eq_true, beq_iff_eq] at h1 ⊢
      exact ⟨h1.1, within_trans (inside_trans n) (inside_top n) (inside_max n) h1.2 h2.2⟩
theorem withinT_trans (n : Nat) {f g h : List Tm} (h1 : withinL (insideT n) f g = true) (h2 : withinL (insideT n) g h = true) : withinL (insideT n) f h = true :=
  within_trans (inside_trans n) (inside_top n) (inside_max n) h1 h2

/- new names -/
def Alike (p : Tm → Tm → Bool) (t u : Tm) : Prop := t.kind = u.kind ∧ ∀ a, p a u = p a t
theorem eqF_alike {p : Tm → Tm → Bool} : ∀ {az ts us : List Tm}, Pw (Alike p) ts us → eqF p az us = eqF p az ts
  | az, [], _, h => by simp only [Pw] at h; subst h; rfl
  | az, t :: ts, _, h => by
    simp only [Pw] at h
    obtain ⟨u, r, rfl, h1, h2⟩ := h
    cases az with
    | nil => rfl
    | cons a az => simp only [eqF, h1.2 a, eqF_alike h2]
theorem frontF_alike {p : Tm → Tm → Bool} : ∀ {az ts us : List Tm}, Pw (Alike p) ts us → frontF p az us = frontF p az ts
  | az, [], _, h => by simp only [Pw] at h; subst h; rfl
  | az, t :: ts, _, h => by
    simp only [Pw] at h
    obtain ⟨u, r, rfl, h1, h2⟩ := h
    cases az with
    | nil => simp only [frontF, h1.1, frontF_alike h2]
    | cons a az => simp only [frontF, h1.2 a, frontF_alike h2]
theorem within_alike {p : Tm → Tm → Bool} {f g g' : List Tm} (h : Pw (fun t u => t.kind = u.kind ∧ (t.kind ≠ 7 → ∀ a, p a u = p a t)) g g') (h1 : cnt7 g ≤ 1) : withinL p f g' = withinL p f g := by
  obtain ⟨ho, hf, hr⟩ := h.split fun t u h => by rw [h.1]
  have hf7 := splitT_front7 g
  have hr7 := splitT_rear7 h1
  have hf' : Pw (Alike p) (splitT g).front (splitT g').front := hf.mono fun t u ht hq => ⟨hq.1, hq.2 (hf7 t ht)⟩
  have hr' : Pw (Alike p) (splitT g).rear (splitT g').rear := hr.mono fun t u ht hq => ⟨hq.1, hq.2 (hr7 t ht)⟩
  unfold withinL
  rw [ho]
  by_cases og : (splitT g).op = false
  · rw [if_pos og, if_pos og]
    have e1 := splitT_shut og
    have e2 := splitT_shut (ho.trans og)
    rw [e1, e2] at hf'
    rw [eqF_alike hf']
  · rw [if_neg og, if_neg og, frontF_alike hf', frontF_alike hr'.reverse, hf.length, hr.length]
theorem nameE_kind (m : Nat) (t : Tm) : (nameE m t).1.kind = t.kind := by
  obtain ⟨k, s, kids⟩ := t
  simp only [nameE]
  split
  · rename_i h; simp only [Tm.kind, h]
  · rfl
theorem nameE_kids {m : Nat} {t : Tm} (h : t.kind = 4) : (nameE m t).1.kids = (nameS m t.kids).1 := by
  obtain ⟨k, s, kids⟩ := t
  simp only [Tm.kind] at h
  simp only [nameE, h, if_true, Tm.kids]
theorem nameS_pw {R : Tm → Tm → Prop} : ∀ (m : Nat) {ts : List Tm}, (∀ t ∈ ts, ∀ m, R t (nameE m t).1) → Pw R ts (nameS m ts).1
  | m, [], _ => by simp [nameS, Pw]
  | m, t :: ts, h => by
    simp only [nameS, Pw]
    exact ⟨_, _, rfl, h t (List.mem_cons_self ..) m, nameS_pw _ fun u hu => h u (List.mem_cons_of_mem _ hu)⟩
theorem inside_named : ∀ (n : Nat) (a u : Tm) (m : Nat), formE u = true → u.kind ≠ 7 → insideT n a (nameE m u).1 = insideT n a u
  | 0, _, u, m, _, _ => by simp only [insideT, nameE_kind]
  | n + 1, a, u, m, hf, h7 => by
    unfold insideT
    rw [nameE_kind]
    by_cases h6 : u.kind = 6
    · rw [if_pos h6, if_pos h6]
    rw [if_neg h6, if_neg h6]
    by_cases h5 : u.kind = 5
    · rw [if_pos h5, if_pos h5]
    rw [if_neg h5, if_neg h5]
    rcases formE_cases hf with h | ⟨h4, hk⟩ | h | h
    · exact absurd h h7
    · obtain ⟨k1, k2⟩ := (formedT_iff _).1 hk
      rw [nameE_kids h4, within_alike (nameS_pw m fun t ht m => ⟨(nameE_kind m t).symm, fun ht7 a => inside_named n a t m (k1 t ht) ht7⟩) k2]
    · exact absurd h h5
    · exact absurd h h6
theorem within_named (n : Nat) (f : List Tm) {g : List Tm} (hg : formedT g = true) : withinL (insideT n) f (namedT g) = withinL (insideT n) f g := by
  obtain ⟨k1, k2⟩ := (formedT_iff _).1 hg
  exact within_alike (nameS_pw 0 fun t ht m => ⟨(nameE_kind m t).symm, fun ht7 a => inside_named n a t m (k1 t ht) ht7⟩) k2
end Ab.R

/- Plain laws of the join. No condition. -/
namespace Ab.R
open Ab

theorem zipWith_comm' {p : Tm → Tm → Tm} (hp : ∀ a b, p a b = p b a) : ∀ f g : List Tm, List.zipWith p f g = List.zipWith p g f
  | [], [] => rfl
  | [], _ :: _ => rfl
  | _ :: _, [] => rfl
  | a :: f, b :: g => by simp only [List.zipWith_cons_cons, hp a b, zipWith_comm' hp f g]
theorem joinL_comm {p : Tm → Tm → Tm} (hp : ∀ a b, p a b = p b a) (f g : List Tm) : joinL p f g = joinL p g f := by
  unfold joinL
  by_cases h : (splitT f).op = false ∧ (splitT g).op = false ∧ f.length = g.length
  · rw [if_pos h, if_pos ⟨h.2.1, h.1, h.2.2.symm⟩, zipWith_comm' hp]
  · rw [if_neg h, if_neg fun h' => h ⟨h'.2.1, h'.1, h'.2.2.symm⟩]
    dsimp only
    rw [Nat.min_comm (splitT g).front.length, Nat.min_comm (behindT _ (splitT g)).length, zipWith_comm' hp ((splitT f).front.take _), zipWith_comm' hp (List.drop _ (behindT _ (splitT f)))]
theorem bothT_comm : ∀ (n : Nat) (a b : Tm), bothT n a b = bothT n b a
  | 0, _, _ => rfl
  | n + 1, a, b => by
    unfold bothT
    by_cases h5 : a.kind = 5 ∧ b.kind = 5
    · rw [if_pos h5, if_pos ⟨h5.2, h5.1⟩]
    have h5' : ¬ (b.kind = 5 ∧ a.kind = 5) := fun h => h5 ⟨h.2, h.1⟩
    simp only [h5, h5', if_false]
    by_cases h4 : a.kind = 4 ∧ b.kind = 4
    · rw [if_pos h4, if_pos ⟨h4.2, h4.1⟩, joinL_comm (bothT_comm n)]
    · have h4' : ¬ (b.kind = 4 ∧ a.kind = 4) := fun h => h4 ⟨h.2, h.1⟩
      simp only [h4, h4', if_false]
theorem bothT_kind (n : Nat) (a b : Tm) : (bothT n a b).kind = 4 ∨ (bothT n a b).kind = 5 ∨ (bothT n a b).kind = 6 := by
  cases n with
  | zero => exact .inr (.inr rfl)
  | succ n =>
    unfold bothT
    split
    · exact .inr (.inl rfl)
    · split
      · exact .inl rfl
      · exact .inr (.inr rfl)

/- a list within what is made of it -/
theorem zip_pw {q : Tm → Tm → Bool} {p : Tm → Tm → Tm} : ∀ {f g : List Tm}, f.length = g.length → (∀ a ∈ f, ∀ b, q a (p a b) = true) → Pw (fun t u => q t u = true) f (List.zipWith p f g)
  | [], [], _, _ => by simp [Pw]
  | [], _ :: _, h, _ => by simp at h
  | _ :: _, [], h, _ => by simp at h
  | a :: f, b :: g, h, hq => by
    simp only [List.zipWith_cons_cons, Pw]
    exact ⟨_, _, rfl, hq a (List.mem_cons_self ..) b, zip_pw (by simpa using h) fun c hc => hq c (List.mem_cons_of_mem _ hc)⟩
theorem frontF_take {q : Tm → Tm → Bool} {A B : List Tm} (k : Nat) (h : Pw (fun t u => q t u = true) (A.take k) B) : frontF q A B = true := by
  rw [← List.take_append_drop k A]
  exact frontF_pw _ h
theorem zip_no7 {p : Tm → Tm → Tm} (hp : ∀ a b, (p a b).kind ≠ 7) : ∀ f g : List Tm, no7 (List.zipWith p f g)
  | [], _ => by intro t h; simp at h
  | _ :: _, [] => by intro t h; simp at h
  | a :: f, b :: g => by
    intro t h
    simp only [List.zipWith_cons_cons, List.mem_cons] at h
    rcases h with rfl | h
    · exact hp a b
    · exact zip_no7 hp f g t h
theorem within_join {q : Tm → Tm → Bool} {p : Tm → Tm → Tm} (hp : ∀ a b, (p a b).kind ≠ 7) {f g : List Tm} (hq : ∀ a ∈ f, ∀ b, a.kind ≠ 7 → q a (p a b) = true) (h1 : cnt7 f ≤ 1) : withinL q f (joinL p f g) = true := by
  have hf7 := splitT_front7 f
  have hr7 := splitT_rear7 h1
  unfold joinL
  by_cases h : (splitT f).op = false ∧ (splitT g).op = false ∧ f.length = g.length
  · rw [if_pos h]
    have e1 := splitT_shut h.1
    rw [e1] at hf7
    unfold withinL
    rw [splitT_no7 (zip_no7 hp f g), if_pos rfl, h.1, Bool.not_false, Bool.true_and]
    exact eqF_pw (zip_pw h.2.2 fun a ha b => hq a ha b (hf7 a ha))
  rw [if_neg h]
  dsimp only
  obtain ⟨k, hk⟩ : ∃ k, k = min (splitT f).front.length (splitT g).front.length := ⟨_, rfl⟩
  obtain ⟨m, hm⟩ : ∃ m, m = min (behindT k (splitT f)).length (behindT k (splitT g)).length := ⟨_, rfl⟩
  rw [← hk, ← hm]
  have hxl : (behindT k (splitT f)).length + k ≤ (splitT f).front.length + (splitT f).rear.length := by
    unfold behindT; split
    · omega
    · simp; omega
  have hmem : ∀ t ∈ behindT k (splitT f), t.kind ≠ 7 := by
    intro t ht
    unfold behindT at ht; split at ht
    · exact hr7 t ht
    · exact hf7 t (List.mem_of_mem_drop ht)
  unfold allT withinL
  simp only [if_true]
  rw [splitT_open (zip_no7 hp _ _), if_neg (by simp), if_neg (by simp; omega)]
  have r1 : frontF q (splitT f).front (List.zipWith p ((splitT f).front.take k) ((splitT g).front.take k)) = true :=
    frontF_take k (zip_pw (by simp; omega) fun a ha b => hq a (splitT_front (List.mem_of_mem_take ha)) b (hf7 a (List.mem_of_mem_take ha)))
  rw [r1, Bool.true_and]
  have r2 : ∃ pre, rearOf (splitT f) = pre ++ behindT k (splitT f) := by
    unfold rearOf behindT
    cases (splitT f).op with
    | true => exact ⟨[], rfl⟩
    | false => exact ⟨(splitT f).front.take k, by simp⟩
  obtain ⟨pre, r2⟩ := r2
  have r3 : rearOf (splitT f) = (pre ++ (behindT k (splitT f)).take ((behindT k (splitT f)).length - m)) ++ (behindT k (splitT f)).drop ((behindT k (splitT f)).length - m) := by
    rw [List.append_assoc, List.take_append_drop]; exact r2
  rw [r3, List.reverse_append]
  exact frontF_pw _ (zip_pw (by simp; omega) fun a ha b => hq a (behindT_mem (List.mem_of_mem_drop ha)) b (hmem a (List.mem_of_mem_drop ha))).reverse
theorem bothT_no7 (n : Nat) (a b : Tm) : (bothT n a b).kind ≠ 7 := by
  have := bothT_kind n a b; omega
theorem insideT_succ (n : Nat) (t u : Tm) : insideT (n + 1) t u = if u.kind = 6 then true else if u.kind = 5 then t.kind == 5 else t.kind == 4 && withinL (insideT n) t.kids u.kids := by unfold insideT; rfl
theorem inside_both : ∀ (n : Nat) (a b : Tm), formE a = true → a.kind ≠ 7 → insideT n a (bothT n a b) = true
  | 0, _, _, _, _ => rfl
  | n + 1, a, b, hf, h7 => by
    unfold bothT
    by_cases h5 : a.kind = 5 ∧ b.kind = 5
    · rw [if_pos h5, insideT_succ]
      rw [show (Tm.mk 5 [] []).kind = 5 from rfl]
      simp [h5.1]
    rw [if_neg h5]
    by_cases h4 : a.kind = 4 ∧ b.kind = 4
    · rw [if_pos h4, insideT_succ]
      have hk : formedT a.kids = true := by
        rcases formE_cases hf with h | ⟨_, h⟩ | h | h
        · exact absurd h h7
        · exact h
        · omega
        · omega
      obtain ⟨k1, k2⟩ := (formedT_iff _).1 hk
      have := within_join (q := insideT n) (p := bothT n) (f := a.kids) (g := b.kids) (bothT_no7 n) (fun c hc d h7 => inside_both n c d (k1 c hc) h7) k2
      rw [show ∀ X, (Tm.mk 4 [] X).kind = 4 from fun _ => rfl, show ∀ X, (Tm.mk 4 [] X).kids = X from fun _ => rfl]
      simp [h4.1, this]
    · rw [if_neg h4]; exact inside_top _ _ _ rfl
theorem withinT_join (n : Nat) {f : List Tm} (g : List Tm) (hf : formedT f = true) : withinL (insideT n) f (joinL (bothT n) f g) = true := by
  obtain ⟨k1, k2⟩ := (formedT_iff _).1 hf
  exact within_join (bothT_no7 n) (fun c hc d h7 => inside_both n c d (k1 c hc) h7) k2

/- the join is well formed -/
theorem zip_mem {p : Tm → Tm → Tm} : ∀ {f g : List Tm} {t : Tm}, t ∈ List.zipWith p f g → ∃ a b, a ∈ f ∧ b ∈ g ∧ t = p a b
  | [], _, _, h => by simp at h
  | _ :: _, [], _, h => by simp at h
  | a :: f, b :: g, t, h => by
    simp only [List.zipWith_cons_cons, List.mem_cons] at h
    rcases h with rfl | h
    · exact ⟨a, b, List.mem_cons_self .., List.mem_cons_self .., rfl⟩
    · obtain ⟨c, d, h1, h2, h3⟩ := zip_mem h
      exact ⟨c, d, List.mem_cons_of_mem _ h1, List.mem_cons_of_mem _ h2, h3⟩
theorem formed_join {p : Tm → Tm → Tm} (hp : ∀ a b, (p a b).kind ≠ 7) {f g : List Tm} (hq : ∀ a ∈ f, ∀ b ∈ g, formE (p a b) = true) : formedT (joinL p f g) = true := by
  unfold joinL
  by_cases h : (splitT f).op = false ∧ (splitT g).op = false ∧ f.length = g.length
  · rw [if_pos h, formedT_iff]
    refine ⟨fun t ht => ?_, by rw [no7_cnt7 (zip_no7 hp f g)]; omega⟩
    obtain ⟨a, b, ha, hb, rfl⟩ := zip_mem ht
    exact hq a ha b hb
  rw [if_neg h]
  dsimp only
  rw [formedT_iff]
  unfold allT
  simp only [if_true]
  refine ⟨fun t ht => ?_, ?_⟩
  · simp only [List.mem_append, List.mem_cons] at ht
    rcases ht with ht | rfl | ht
    · obtain ⟨a, b, ha, hb, rfl⟩ := zip_mem ht
      exact hq a (splitT_front (List.mem_of_mem_take ha)) b (splitT_front (List.mem_of_mem_take hb))
    · rfl
    · obtain ⟨a, b, ha, hb, rfl⟩ := zip_mem ht
      exact hq a (behindT_mem (List.mem_of_mem_drop ha)) b (behindT_mem (List.mem_of_mem_drop hb))
  · rw [cnt7_append, cnt7_cons, no7_cnt7 (zip_no7 hp _ _), no7_cnt7 (zip_no7 hp _ _)]
    simp [someT, Tm.kind]
theorem formE_both : ∀ (n : Nat) (a b : Tm), formE (bothT n a b) = true
  | 0, _, _ => rfl
  | n + 1, a, b => by
    unfold bothT
    split
    · rfl
    · split
      · rw [formE_eq]
        simp only [Tm.kind, Tm.kids]
        exact formed_join (bothT_no7 n) fun c _ d _ => formE_both n c d
      · rfl
theorem formedT_join (n : Nat) (f g : List Tm) : formedT (joinL (bothT n) f g) = true := formed_join (bothT_no7 n) fun c _ d _ => formE_both n c d

/- how many terms the join has -/
theorem nTs_zip {p : Tm → Tm → Tm} : ∀ {f g : List Tm}, (∀ a ∈ f, ∀ b ∈ g, 3 * nT (p a b) ≤ 2 * (nT a + nT b)) → 3 * nTs (List.zipWith p f g) ≤ 2 * (nTs f + nTs g)
  | [], _, _ => by simp [nTs]
  | _ :: _, [], _ => by simp [nTs]
  | a :: f, b :: g, h => by
    have h1 := h a (List.mem_cons_self ..) b (List.mem_cons_self ..)
    have h2 := nTs_zip (f := f) (g := g) fun c hc d hd => h c (List.mem_cons_of_mem _ hc) d (List.mem_cons_of_mem _ hd)
    simp only [List.zipWith_cons_cons, nTs]; omega
theorem nTs_take (ts : List Tm) (i : Nat) : nTs (ts.take i) + nTs (ts.drop i) = nTs ts := by
  conv => rhs; rw [← List.take_append_drop i ts, nTs_append]
theorem nTs_split (f : List Tm) : nTs (splitT f).front + nTs (splitT f).rear + (if (splitT f).op then 1 else 0) ≤ nTs f := by
  cases ho : (splitT f).op with
  | false =>
    rw [splitT_shut ho, splitT_shut2 ho]; simp [nTs]
  | true =>
    obtain ⟨e, _, h2⟩ := splitT_eq f ho
    have := nT_pos e
    conv => rhs; rw [h2, nTs_append, nTs]
    simp only [if_true]; omega
theorem nTs_behind (k : Nat) (x : Ls) (hk : k ≤ x.front.length) : nTs (x.front.take k) + nTs (behindT k x) ≤ nTs x.front + nTs x.rear := by
  unfold behindT
  have := nTs_take x.front k
  split <;> omega
theorem nTs_join {p : Tm → Tm → Tm} {f g : List Tm} (h : ∀ a ∈ f, ∀ b ∈ g, 3 * nT (p a b) ≤ 2 * (nT a + nT b)) : 3 * nTs (joinL p f g) ≤ 2 * (nTs f + nTs g) + 1 := by
  unfold joinL
  by_cases hc : (splitT f).op = false ∧ (splitT g).op = false ∧ f.length = g.length
  · rw [if_pos hc]
    have := nTs_zip h
    omega
  rw [if_neg hc]
  dsimp only
  obtain ⟨k, hk⟩ : ∃ k, k = min (splitT f).front.length (splitT g).front.length := ⟨_, rfl⟩
  obtain ⟨m, hm⟩ : ∃ m, m = min (behindT k (splitT f)).length (behindT k (splitT g)).length := ⟨_, rfl⟩
  rw [← hk, ← hm]
  unfold allT
  simp only [if_true, nTs_append, nTs]
  have z1 := nTs_zip (p := p) (f := (splitT f).front.take k) (g := (splitT g).front.take k) fun a ha b hb => h a (splitT_front (List.mem_of_mem_take ha)) b (splitT_front (List.mem_of_mem_take hb))
  have z2 := nTs_zip (p := p) (f := (behindT k (splitT f)).drop ((behindT k (splitT f)).length - m)) (g := (behindT k (splitT g)).drop ((behindT k (splitT g)).length - m)) fun a ha b hb => h a (behindT_mem (List.mem_of_mem_drop ha)) b (behindT_mem (List.mem_of_mem_drop hb))
  have b1 := nTs_behind k (splitT f) (by omega)
  have b2 := nTs_behind k (splitT g) (by omega)
  have s1 := nTs_split f
  have s2 := nTs_split g
  have t1 := nTs_take (behindT k (splitT f)) ((behindT k (splitT f)).length - m)
  have t2 := nTs_take (behindT k (splitT g)) ((behindT k (splitT g)).length - m)
  have hsome : nT someT = 1 := rfl
  rw [hsome]
  -- one term at least is left over
  have left : nTs ((splitT f).front.take k) + nTs ((behindT k (splitT f)).drop ((behindT k (splitT f)).length - m)) + (nTs ((splitT g).front.take k) + nTs ((behindT k (splitT g)).drop ((behindT k (splitT g)).length - m))) + 1 ≤ nTs f + nTs g := by
    cases ho1 : (splitT f).op with
    | true => rw [ho1, if_pos rfl] at s1; omega
    | false =>
      cases ho2 : (splitT g).op with
      | true => rw [ho2, if_pos rfl] at s2; omega
      | false =>
        have e1 := splitT_shut ho1
        have e2 := splitT_shut ho2
        have hne : f.length ≠ g.length := fun he => hc ⟨ho1, ho2, he⟩
        rw [e1, e2] at hk
        have q1 : behindT k (splitT f) = f.drop k := by unfold behindT; rw [ho1, e1]; rfl
        have q2 : behindT k (splitT g) = g.drop k := by unfold behindT; rw [ho2, e2]; rfl
        rw [q1, q2] at hm
        simp only [List.length_drop] at hm
        have hm0 : m = 0 := by omega
        rw [e1, e2, q1, q2, hm0]
        simp only [Nat.sub_zero, List.drop_length, nTs, Nat.add_zero]
        have t3 := nTs_take f k
        have t4 := nTs_take g k
        have l3 := length_le_nTs (f.drop k)
        have l4 := length_le_nTs (g.drop k)
        simp only [List.length_drop] at l3 l4
        omega
  omega
theorem nT_both : ∀ (n : Nat) (a b : Tm), 3 * nT (bothT n a b) ≤ 2 * (nT a + nT b)
  | 0, a, b => by have := nT_pos a; have := nT_pos b; simp only [bothT, nT, nTs]; omega
  | n + 1, a, b => by
    have h1 := nT_eq a
    have h2 := nT_eq b
    unfold bothT
    split
    · simp only [nT, nTs]; omega
    · split
      · have := nTs_join (p := bothT n) (f := a.kids) (g := b.kids) fun c _ d _ => nT_both n c d
        simp only [nT]; omega
      · simp only [nT, nTs]; omega
theorem nTs_joinT (n : Nat) (f g : List Tm) : 3 * nTs (joinL (bothT n) f g) ≤ 2 * (nTs f + nTs g) + 1 := nTs_join fun c _ d _ => nT_both n c d
end Ab.R

/- Plain laws of the cut. No condition. -/
namespace Ab.R
open Ab

theorem cutE_eq (lv : Nat) (t : Tm) : cutE lv t = if t.kind = 4 then (if lv = 4 then .mk 6 [] [] else .mk t.kind t.text (cutT (lv + 1) t.kids)) else t := by
  obtain ⟨k, s, kids⟩ := t
  rw [cutE]; rfl
theorem cutE_other {lv : Nat} {t : Tm} (h : t.kind ≠ 4) : cutE lv t = t := by rw [cutE_eq, if_neg h]
theorem cutE_7 (lv : Nat) (t : Tm) : (cutE lv t).kind = 7 ↔ t.kind = 7 := by
  rw [cutE_eq]
  by_cases h : t.kind = 4
  · rw [if_pos h]
    split
    · rw [h]; simp [Tm.kind]
    · exact Iff.rfl
  · rw [if_neg h]
theorem cutS_pw {R : Tm → Tm → Prop} (lv : Nat) : ∀ {ts : List Tm}, (∀ t ∈ ts, R t (cutE lv t)) → Pw R ts (cutS lv ts)
  | [], _ => by simp [cutS, Pw]
  | t :: ts, h => by
    simp only [cutS, Pw]
    exact ⟨_, _, rfl, h t (List.mem_cons_self ..), cutS_pw lv fun u hu => h u (List.mem_cons_of_mem _ hu)⟩
theorem cutS_mem {lv : Nat} : ∀ {ts : List Tm} {u : Tm}, u ∈ cutS lv ts → ∃ t ∈ ts, u = cutE lv t
  | [], _, h => by simp [cutS] at h
  | t :: ts, u, h => by
    simp only [cutS, List.mem_cons] at h
    rcases h with rfl | h
    · exact ⟨t, List.mem_cons_self .., rfl⟩
    · obtain ⟨v, h1, h2⟩ := cutS_mem h
      exact ⟨v, List.mem_cons_of_mem _ h1, h2⟩
theorem cutS_cnt7 (lv : Nat) : ∀ ts : List Tm, cnt7 (cutS lv ts) = cnt7 ts
  | [] => rfl
  | t :: ts => by
    simp only [cutS, cnt7_cons, cutS_cnt7 lv ts, cutE_7]

/- the three ways of trimming -/
theorem trimL_short {X : List Tm} (h : X.length ≤ 12) : trimL X = X := by unfold trimL; rw [if_pos h]
theorem trimL_shut {X : List Tm} (h : ¬ X.length ≤ 12) (ho : (splitT X).op = false) : trimL X = X.take 6 ++ someT :: X.drop (X.length - 5) := by
  unfold trimL; rw [if_neg h, if_neg (by rw [ho]; simp), splitT_shut ho]; simp [allT]
theorem trimL_open {X : List Tm} (h : ¬ X.length ≤ 12) (ho : (splitT X).op = true) : ∃ a, a ≤ (splitT X).front.length ∧ a ≤ 11 ∧ 11 - a ≤ (splitT X).rear.length ∧ trimL X = (splitT X).front.take a ++ someT :: (splitT X).rear.drop ((splitT X).rear.length - (11 - a)) := by
  have := splitT_len ho
  refine ⟨min (splitT X).front.length (11 - min (splitT X).rear.length 5), by omega, by omega, by omega, ?_⟩
  unfold trimL; rw [if_neg h, if_pos ho]; simp [allT]

theorem within_trim {q : Tm → Tm → Bool} {f X : List Tm} (h : Pw (fun t u => (t.kind = 7 ↔ u.kind = 7) ∧ (t.kind ≠ 7 → q t u = true)) f X) (h1 : cnt7 f ≤ 1) (hx : cnt7 X ≤ 1) : withinL q f (trimL X) = true := by
  by_cases hl : X.length ≤ 12
  · rw [trimL_short hl]; exact within_map h h1
  obtain ⟨ho, hf, hr⟩ := h.split fun t u h => h.1
  have hf7 := splitT_front7 f
  have hr7 := splitT_rear7 h1
  have hf' : Pw (fun t u => q t u = true) (splitT f).front (splitT X).front := hf.mono fun t u ht hq => hq.2 (hf7 t ht)
  have hr' : Pw (fun t u => q t u = true) (splitT f).rear (splitT X).rear := hr.mono fun t u ht hq => hq.2 (hr7 t ht)
  have hlen := h.length
  cases hop : (splitT X).op with
  | false =>
    rw [hop] at ho
    have e1 := splitT_shut ho.symm
    have e2 := splitT_shut hop
    have e3 := splitT_shut2 ho.symm
    rw [e1, e2] at hf'
    have hx7 : no7 X := by rw [← e2]; exact splitT_front7 X
    rw [trimL_shut hl hop]
    unfold withinL
    rw [splitT_open fun t ht => hx7 t (List.mem_of_mem_take ht), if_neg (by simp), if_neg (by rw [e1, e3]; simp; omega), e1]
    have r1 : rearOf (splitT f) = f := by unfold rearOf; rw [← ho, e1]; rfl
    rw [r1, frontF_take 6 (hf'.take 6), Bool.true_and]
    have r2 : f = f.take (X.length - 5) ++ f.drop (X.length - 5) := (List.take_append_drop _ _).symm
    rw [r2, List.reverse_append]
    exact frontF_pw _ (hf'.drop (X.length - 5)).reverse
  | true =>
    rw [hop] at ho
    obtain ⟨a, ha1, ha2, ha3, he⟩ := trimL_open hl hop
    rw [he]
    have l1 := hf'.length
    have l2 := hr'.length
    unfold withinL
    rw [splitT_open fun t ht => splitT_front7 X t (List.mem_of_mem_take ht), if_neg (by simp), if_neg (by simp; omega)]
    have r1 : rearOf (splitT f) = (splitT f).rear := by unfold rearOf; rw [← ho]; rfl
    rw [r1, frontF_take a (hf'.take a), Bool.true_and]
    have r2 : (splitT f).rear = (splitT f).rear.take ((splitT X).rear.length - (11 - a)) ++ (splitT f).rear.drop ((splitT X).rear.length - (11 - a)) := (List.take_append_drop _ _).symm
    rw [r2, List.reverse_append]
    exact frontF_pw _ (hr'.drop _).reverse

theorem inside_cut : ∀ (n lv : Nat) (t : Tm), nT t ≤ n → formE t = true → t.kind ≠ 7 → insideT n t (cutE lv t) = true
  | 0, _, t, h, _, _ => by have := nT_pos t; omega
  | n + 1, lv, t, h, hf, h7 => by
    by_cases h4 : t.kind = 4
    · rw [cutE_eq, if_pos h4]
      by_cases hl : lv = 4
      · rw [if_pos hl]; exact inside_top _ _ _ rfl
      · rw [if_neg hl, insideT_succ]
        rw [show ∀ X, (Tm.mk t.kind t.text X).kind = t.kind from fun _ => rfl, show ∀ X, (Tm.mk t.kind t.text X).kids = X from fun _ => rfl, h4]
        have hk : formedT t.kids = true := by
          rcases formE_cases hf with h | ⟨_, h⟩ | h | h
          · exact absurd h h7
          · exact h
          · omega
          · omega
        obtain ⟨k1, k2⟩ := (formedT_iff _).1 hk
        rw [nT_eq] at h
        have := within_trim (q := insideT n) (f := t.kids) (X := cutS (lv + 1) t.kids) (cutS_pw (lv + 1) fun u hu => ⟨(cutE_7 _ u).symm, fun hu7 => inside_cut n (lv + 1) u (by have := nT_mem hu; omega) (k1 u hu) hu7⟩) k2 (by rw [cutS_cnt7]; exact k2)
        simp only [beq_self_eq_true, Bool.true_and]
        simpa [cutT] using this
    · rw [cutE_other h4]; exact inside_self _ h hf h7
theorem withinT_cut (n lv : Nat) {f : List Tm} (hf : formedT f = true) (hn : nTs f ≤ n) : withinL (insideT n) f (cutT lv f) = true := by
  obtain ⟨k1, k2⟩ := (formedT_iff _).1 hf
  exact within_trim (cutS_pw lv fun u hu => ⟨(cutE_7 _ u).symm, fun hu7 => inside_cut n lv u (by have := nT_mem hu; omega) (k1 u hu) hu7⟩) k2 (by rw [cutS_cnt7]; exact k2)

/- the cut is well formed -/
theorem formed_trim {X : List Tm} (h : formedT X = true) : formedT (trimL X) = true := by
  by_cases hl : X.length ≤ 12
  · rw [trimL_short hl]; exact h
  obtain ⟨k1, k2⟩ := (formedT_iff _).1 h
  rw [formedT_iff]
  cases hop : (splitT X).op with
  | false =>
    have e2 := splitT_shut hop
    have hx7 : no7 X := by rw [← e2]; exact splitT_front7 X
    rw [trimL_shut hl hop]
    refine ⟨fun t ht => ?_, ?_⟩
    · simp only [List.mem_append, List.mem_cons] at ht
      rcases ht with ht | rfl | ht
      · exact k1 t (List.mem_of_mem_take ht)
      · rfl
      · exact k1 t (List.mem_of_mem_drop ht)
    · rw [cnt7_append, cnt7_cons, no7_cnt7 fun t ht => hx7 t (List.mem_of_mem_take ht), no7_cnt7 fun t ht => hx7 t (List.mem_of_mem_drop ht)]
      simp [someT, Tm.kind]
  | true =>
    obtain ⟨a, ha1, ha2, ha3, he⟩ := trimL_open hl hop
    rw [he]
    refine ⟨fun t ht => ?_, ?_⟩
    · simp only [List.mem_append, List.mem_cons] at ht
      rcases ht with ht | rfl | ht
      · exact k1 t (splitT_front (List.mem_of_mem_take ht))
      · rfl
      · exact k1 t (splitT_rear (List.mem_of_mem_drop ht))
    · rw [cnt7_append, cnt7_cons, no7_cnt7 fun t ht => splitT_front7 X t (List.mem_of_mem_take ht), no7_cnt7 fun t ht => splitT_rear7 k2 t (List.mem_of_mem_drop ht)]
      simp [someT, Tm.kind]
theorem formE_cut : ∀ (n lv : Nat) (t : Tm), nT t ≤ n → formE t = true → formE (cutE lv t) = true
  | 0, _, t, h, _ => by have := nT_pos t; omega
  | n + 1, lv, t, h, hf => by
    by_cases h4 : t.kind = 4
    · rw [cutE_eq, if_pos h4]
      by_cases hl : lv = 4
      · rw [if_pos hl]; rfl
      · rw [if_neg hl, formE_eq]
        rw [show ∀ X, (Tm.mk t.kind t.text X).kind = t.kind from fun _ => rfl, show ∀ X, (Tm.mk t.kind t.text X).kids = X from fun _ => rfl, h4]
        have hk : formedT t.kids = true := by
          rcases formE_cases hf with h | ⟨_, h⟩ | h | h
          · omega
          · exact h
          · omega
          · omega
        obtain ⟨k1, k2⟩ := (formedT_iff _).1 hk
        rw [nT_eq] at h
        rw [if_neg (by omega), if_pos rfl]
        refine formed_trim ((formedT_iff _).2 ⟨fun u hu => ?_, by rw [cutS_cnt7]; exact k2⟩)
        obtain ⟨v, hv, rfl⟩ := cutS_mem hu
        exact formE_cut n (lv + 1) v (by have := nT_mem hv; omega) (k1 v hv)
    · rw [cutE_other h4]; exact hf
theorem formedT_cut (lv : Nat) {f : List Tm} (hf : formedT f = true) : formedT (cutT lv f) = true := by
  obtain ⟨k1, k2⟩ := (formedT_iff _).1 hf
  refine formed_trim ((formedT_iff _).2 ⟨fun u hu => ?_, by rw [cutS_cnt7]; exact k2⟩)
  obtain ⟨v, hv, rfl⟩ := cutS_mem hu
  exact formE_cut _ lv v (Nat.le_refl _) (k1 v hv)

/- how many terms it has -/
theorem nTs_trim (X : List Tm) : nTs (trimL X) ≤ nTs X := by
  by_cases hl : X.length ≤ 12
  · rw [trimL_short hl]; omega
  have hsome : nT someT = 1 := rfl
  cases hop : (splitT X).op with
  | false =>
    rw [trimL_shut hl hop, nTs_append, nTs, hsome]
    have t1 := nTs_take X 6
    have t2 := nTs_take (X.drop 6) (X.length - 11)
    have l1 := length_le_nTs ((X.drop 6).take (X.length - 11))
    simp only [List.length_take, List.length_drop] at l1
    rw [List.drop_drop, show 6 + (X.length - 11) = X.length - 5 by omega] at t2
    omega
  | true =>
    obtain ⟨a, ha1, ha2, ha3, he⟩ := trimL_open hl hop
    rw [he, nTs_append, nTs, hsome]
    have s := nTs_split X
    rw [hop, if_pos rfl] at s
    have t1 := nTs_take (splitT X).front a
    have t2 := nTs_take (splitT X).rear ((splitT X).rear.length - (11 - a))
    omega
mutual
theorem nT_cut : ∀ (lv : Nat) (t : Tm), nT (cutE lv t) ≤ nT t
  | lv, .mk k s kids => by
    have h1 := nTs_cutS (lv + 1) kids
    have h2 := nTs_trim (cutS (lv + 1) kids)
    simp only [cutE]
    split
    · split
      · simp only [nT, nTs]; omega
      · simp only [nT]; omega
    · exact Nat.le_refl _
theorem nTs_cutS : ∀ (lv : Nat) (ts : List Tm), nTs (cutS lv ts) ≤ nTs ts
  | _, [] => by simp [cutS]
  | lv, t :: ts => by
    have h1 := nT_cut lv t
    have h2 := nTs_cutS lv ts
    simp only [cutS, nTs]; omega
end
theorem nTs_cut (lv : Nat) (f : List Tm) : nTs (cutT lv f) ≤ nTs f := by
  have h1 := nTs_trim (cutS lv f)
  have h2 := nTs_cutS lv f
  unfold cutT; omega

/- what is cut stays -/
mutual
def stE : Nat → Tm → Bool
  | lv, .mk k _ kids => if k = 4 then decide (lv ≠ 4) && stS (lv + 1) kids && decide (kids.length ≤ 12) else true
def stS : Nat → List Tm → Bool
  | _, [] => true
  | lv, t :: ts => stE lv t && stS lv ts
end
def stT (lv : Nat) (l : List Tm) : Bool := stS lv l && decide (l.length ≤ 12)
mutual
theorem cutE_st : ∀ (lv : Nat) (t : Tm), stE lv t = true → cutE lv t = t
  | lv, .mk k s kids, h => by
    simp only [stE] at h
    simp only [cutE]
    split
    · rename_i h4
      rw [if_pos h4] at h
      simp only [Bool.and_eq_true, decide_eq_true_eq] at h
      rw [if_neg h.1.1, cutS_st (lv + 1) kids h.1.2, trimL_short h.2]
    · rfl
theorem cutS_st : ∀ (lv : Nat) (ts : List Tm), stS lv ts = true → cutS lv ts = ts
  | _, [], _ => rfl
  | lv, t :: ts, h => by
    simp only [stS, Bool.and_eq_true] at h
    simp only [cutS, cutE_st lv t h.1, cutS_st lv ts h.2]
end
theorem cutT_st {lv : Nat} {l : List Tm} (h : stT lv l = true) : cutT lv l = l := by
  simp only [stT, Bool.and_eq_true, decide_eq_true_eq] at h
  unfold cutT; rw [cutS_st lv l h.1, trimL_short h.2]
theorem stS_iff : ∀ (lv : Nat) (l : List Tm), stS lv l = true ↔ ∀ t ∈ l, stE lv t = true
  | lv, [] => by simp [stS]
  | lv, t :: l => by simp [stS, stS_iff lv l]
theorem trim_len (X : List Tm) : (trimL X).length ≤ 12 := by
  by_cases hl : X.length ≤ 12
  · rw [trimL_short hl]; exact hl
  cases hop : (splitT X).op with
  | false => rw [trimL_shut hl hop]; simp; omega
  | true =>
    obtain ⟨a, ha1, ha2, ha3, he⟩ := trimL_open hl hop
    rw [he]; simp; omega
theorem trim_mem {X : List Tm} {t : Tm} (h : t ∈ trimL X) : t = someT ∨ t ∈ X := by
  by_cases hl : X.length ≤ 12
  · rw [trimL_short hl] at h; exact .inr h
  cases hop : (splitT X).op with
  | false =>
    rw [trimL_shut hl hop] at h
    simp only [List.mem_append, List.mem_cons] at h
    rcases h with h | h | h
    · exact .inr (List.mem_of_mem_take h)
    · exact .inl h
    · exact .inr (List.mem_of_mem_drop h)
  | true =>
    obtain ⟨a, ha1, ha2, ha3, he⟩ := trimL_open hl hop
    rw [he] at h
    simp only [List.mem_append, List.mem_cons] at h
    rcases h with h | h | h
    · exact .inr (splitT_front (List.mem_of_mem_take h))
    · exact .inl h
    · exact .inr (splitT_rear (List.mem_of_mem_drop h))
theorem st_trim {lv : Nat} {X : List Tm} (h : ∀ t ∈ X, stE lv t = true) : stT lv (trimL X) = true := by
  unfold stT
  rw [Bool.and_eq_true, stS_iff, decide_eq_true_eq]
  refine ⟨fun t ht => ?_, trim_len X⟩
  rcases trim_mem ht with rfl | ht
  · rfl
  · exact h t ht
mutual
theorem stE_cut : ∀ (lv : Nat) (t : Tm), stE lv (cutE lv t) = true
  | lv, .mk k s kids => by
    have h1 := stS_cut (lv + 1) kids
    simp only [cutE]
    split
    · split
      · rfl
      · rename_i h4 hl
        have h2 := st_trim (lv := lv + 1) (X := cutS (lv + 1) kids) ((stS_iff _ _).1 h1)
        simp only [stT, Bool.and_eq_true, decide_eq_true_eq] at h2
        simp only [stE, h4, if_true, h2.1, Bool.and_true, Bool.and_eq_true, decide_eq_true_eq]
        exact ⟨hl, h2.2⟩
    · rename_i h4
      simp only [stE, h4, if_false]
theorem stS_cut : ∀ (lv : Nat) (ts : List Tm), stS lv (cutS lv ts) = true
  | _, [] => rfl
  | lv, t :: ts => by simp only [cutS, stS, stE_cut lv t, stS_cut lv ts, Bool.and_self]
end
theorem stT_cut (lv : Nat) (f : List Tm) : stT lv (cutT lv f) = true := st_trim ((stS_iff _ _).1 (stS_cut lv f))
mutual
theorem stE_name : ∀ (lv m : Nat) (t : Tm), stE lv t = true → stE lv (nameE m t).1 = true
  | lv, m, .mk k s kids, h => by
    simp only [stE] at h
    simp only [nameE]
    split
    · rename_i h4
      rw [if_pos h4] at h
      simp only [Bool.and_eq_true, decide_eq_true_eq] at h
      simp only [stE, if_true, stS_name (lv + 1) m kids h.1.2, nameS_length, Bool.and_true, Bool.and_eq_true, decide_eq_true_eq]
      exact ⟨h.1.1, h.2⟩
    · rename_i h4
      simp only [stE, h4, if_false]
theorem stS_name : ∀ (lv m : Nat) (ts : List Tm), stS lv ts = true → stS lv (nameS m ts).1 = true
  | _, m, [], _ => by simp [nameS, stS]
  | lv, m, t :: ts, h => by
    simp only [stS, Bool.and_eq_true] at h
    simp only [nameS, stS, stE_name lv m t h.1, stS_name lv _ ts h.2, Bool.and_self]
end
theorem cut_named_cut (f : List Tm) : cutT 0 (namedT (cutT 0 f)) = namedT (cutT 0 f) := by
  have h := stT_cut 0 f
  simp only [stT, Bool.and_eq_true, decide_eq_true_eq] at h
  refine cutT_st ?_
  simp only [stT, Bool.and_eq_true, decide_eq_true_eq]
  exact ⟨stS_name 0 0 _ h.1, by unfold namedT; rw [nameS_length]; exact h.2⟩
end Ab.R
