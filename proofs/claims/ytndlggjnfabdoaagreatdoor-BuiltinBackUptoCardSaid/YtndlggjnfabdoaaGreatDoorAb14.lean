/- Numb of the characters of a number. Its conditions: the table, what 'term.String' and 'strings.makeASCIISet' answer. -/
import Derived.Test.YtndlggjnfabdoaaGreatDoorAb13
import Derived.Test.YtndlggjnfabdoaaGreatDoorAb10
import Derived.Test.YtndlggjnfabdoaaGreatDoorAb09
set_option linter.all false
namespace Ab.U
open Go Ab Go.RowKit
set_option maxRecDepth 10000
set_option linter.all false
def digC : List AV := (List.range 256).map fun i => .bool (decide (48 ≤ i ∧ i ≤ 57))
def digS : List UInt8 := [48, 49, 50, 51, 52, 53, 54, 55, 56, 57]
/- what is shown elsewhere -/
structure Hand (E : IEnv) : Prop where
  str : ∀ {x : List UInt8} {v : AV}, Sl (charsT x) v → x.length ≤ 1000 → x ≠ [] → FnK 1 E (.fn n_term_String [] []) [v] (.tup [.str x, .bool true])
  set : FnK 100 E (.fn n_strings_makeASCIISet [] []) [.str digS] (.tup [.agg digC, .bool true])
def isDig (c : UInt8) : Prop := 48 ≤ c.toNat ∧ c.toNat ≤ 57
theorem digC_get {c : UInt8} (h : isDig c) : digC[c.toNat]? = some (.bool true) := by
  have : c.toNat < 256 := c.toNat_lt
  simp only [digC, List.getElem?_map, List.getElem?_range this, Option.map_some, Option.some.injEq, AV.bool.injEq, decide_eq_true_eq]
  exact h
theorem digC_len : digC.length = 256 := by simp [digC]
theorem isC_dig : ∀ n : Nat, n < 256 → isC n 2 = true → 48 ≤ n ∧ n ≤ 57 := by decide +kernel
theorem every_dig {d : List UInt8} (h : everyC d 2 = true) : ∀ c ∈ d, isDig c := fun c hc => isC_dig _ c.toNat_lt (List.all_eq_true.1 h c hc)
section
variable {E : IEnv} (hE : E.fns = Table.fn table)
include hE
theorem has_dig {c : UInt8} (h : isDig c) {k : Nat} (hk : 1 ≤ k) (s : St) (b : Nat) (hb : s.bl[b]? = some (.cells digC)) : callA E k none (.fn n___strings_asciiSet__contains [] []) [.ptr b 0, .int .u8 c.toNat] s = some (.ret (.bool true), false, s) := by
  obtain ⟨k, rfl⟩ : ∃ j, k = j + 1 := ⟨k - 1, by omega⟩
  refine call_byR (h___strings_asciiSet__contains hE) rfl fun bl tk hb' => ?_
  obtain ⟨rfl, rfl⟩ := plain_ptr hE hb'
  have h1 := digC_get h
  have h2 : idx (.int .u8 c.toNat) 256 = some c.toNat := by
    have : c.toNat < 256 := c.toNat_lt
    simp [idx]; omega
  simp [-getElem?_pos, List.getElem?_cons_zero, List.getElem?_cons_succ, F___strings_asciiSet__contains, b___strings_asciiSet__contains, hb, h2, h1]
theorem trimR {x : List UInt8} (hx : ∀ c ∈ x, isDig c) (hl : x.length ≤ 1000) {k : Nat} (hk : x.length + 10 ≤ k) (s : St) (b : Nat) (hb : s.bl[b]? = some (.cells digC)) :
    callA E k none (.fn n_strings_trimRightASCII [] []) [.str x, .ptr b 0] s = some (.ret (.str []), false, s) := by
  obtain ⟨k, rfl⟩ : ∃ j, k = j + 1 := ⟨k - 1, by omega⟩
  refine call_byR (h_strings_trimRightASCII hE) rfl fun bl tk hb' => ?_
  have hb' : bl = s.bl ∧ tk = s.tk := by
    rcases hb' with h | h
    · exact h
    · simp [AV.plainL, AV.plain] at h
  obtain ⟨rfl, rfl⟩ := hb'
  simp [F_strings_trimRightASCII, b_strings_trimRightASCII]
  refine wp_loop x.length (fun i e st => e = [(0, .str (x.take (x.length - i))), (1, .ptr b 0)] ∧ st = { bl := s.bl, tk := s.tk, ro := s.bl.length, rt := s.tk.length }) (by omega) (by simp) ?_ ?_
  · rintro i e st hi ⟨rfl, rfl⟩
    obtain ⟨m, hm⟩ : ∃ m, x.length - i = m + 1 := ⟨x.length - i - 1, by omega⟩
    have hm2 : x.length - (i + 1) = m := by omega
    have hml : m < x.length := by omega
    rw [hm, hm2]
    obtain ⟨z, hz⟩ : ∃ z, z = x.take (m + 1) := ⟨_, rfl⟩
    have hzl : z.length = m + 1 := by rw [hz, List.length_take]; omega
    have hzc : isDig (z[m]'(by omega)) := by
      have : z[m]'(by omega) = x[m] := by subst hz; simp
      rw [this]; exact hx _ (List.getElem_mem _)
    have hzt : z.take m = x.take m := by rw [hz, List.take_take]; congr 1; omega
    rw [← hz, ← hzt]
    have hwr : IntKind.wrap .i64 (((m + 1 : Nat) : Int) - 1) = (m : Int) := by rw [show ((m + 1 : Nat) : Int) - 1 = (m : Int) by omega]; exact wrapIn (by omega) (by omega)
    have e1 : idx (.int .i64 m) (m + 1) = some m := idx_nat (by omega)
    have hc := has_dig hE hzc (k := k) (by omega) { bl := s.bl, tk := s.tk, ro := s.bl.length, rt := s.tk.length } b hb
    have hg : z[m]? = some (z[m]'(by omega)) := List.getElem?_eq_getElem _
    have hp : (0 : Int) < ((m + 1 : Nat) : Int) := by omega
    have hbd : bound (some (.int .i64 (m : Int))) (m + 1) (m + 1) = some m := by simp [bound]; omega
    simp [-Int.natCast_add, l0_strings_trimRightASCII, hzl, hp, hwr, e1, hg, hc, sliceA, hbd, (show bound none 0 m = some 0 from rfl)]
  · rintro e st ⟨rfl, rfl⟩
    simp [l0_strings_trimRightASCII]
theorem trimL {k : Nat} (hk : 10 ≤ k) (s : St) (b : Nat) : callA E k none (.fn n_strings_trimLeftASCII [] []) [.str [], .ptr b 0] s = some (.ret (.str []), false, s) := by
  obtain ⟨k, rfl⟩ : ∃ j, k = j + 1 := ⟨k - 1, by omega⟩
  refine call_byR (h_strings_trimLeftASCII hE) rfl fun bl tk hb' => ?_
  simp [F_strings_trimLeftASCII, b_strings_trimLeftASCII]
  refine wp_loop 0 (fun i e st => e = [(0, .str []), (1, .ptr b 0)] ∧ st = { bl := bl, tk := tk, ro := bl.length, rt := tk.length }) (by omega) (by simp) ?_ ?_
  · rintro i e st hi; omega
  · rintro e st ⟨rfl, rfl⟩
    simp [l0_strings_trimLeftASCII]
theorem fn_Trim (H : Hand E) {x : List UInt8} (hx : ∀ c ∈ x, isDig c) (hl : x.length ≤ 1000) : FnK 1100 E (.fn n_strings_Trim [] []) [.str x, .str digS] (.str []) := by
  refine FnK.byW (h_strings_Trim hE) rfl rfl (K := 1099) fun k hk bl tk => ?_
  have hset := H.set k (by omega)
  have hb0 : ∀ c : AB, (bl ++ [c])[bl.length]? = some c := fun c => by rw [append_get0]; rfl
  have hr := trimR hE hx hl (k := k) (by omega) { bl := bl ++ [.cells digC], tk, ro := bl.length, rt := tk.length } bl.length (hb0 _)
  have hl2 := trimL hE (k := k) (by omega) { bl := bl ++ [.cells digC], tk, ro := bl.length, rt := tk.length } bl.length
  cases x with
  | nil => simp [F_strings_Trim, b_strings_Trim, digS]
  | cons c r =>
    simp only [digS] at hset
    simp [F_strings_Trim, b_strings_Trim, digS, hset, append_get, append_get0, append_set, append_set0, digC_len, hr, hl2]
theorem fn_trim0 : FnK 10 E (.fn n_strings_trimLeftByte [] []) [.str [48], .int .u8 48] (.str []) := by
  refine FnK.byW (h_strings_trimLeftByte hE) rfl rfl (K := 9) fun k hk bl tk => ?_
  simp [F_strings_trimLeftByte, b_strings_trimLeftByte]
  refine wp_loop 1 (fun i e st => e = [(0, .str (if i = 0 then [48] else [])), (1, .int .u8 48)] ∧ st = { bl := bl, tk := tk, ro := bl.length, rt := tk.length }) (by omega) (by simp) ?_ ?_
  · rintro i e st hi ⟨rfl, rfl⟩
    obtain rfl : i = 0 := by omega
    simp [l0_strings_trimLeftByte, ix0, sliceA, bound]
  · rintro e st ⟨rfl, rfl⟩
    simp [l0_strings_trimLeftByte]
theorem fn_trimD {c : UInt8} {r : List UInt8} (hc : c ≠ 48) : FnK 10 E (.fn n_strings_trimLeftByte [] []) [.str (c :: r), .int .u8 48] (.str (c :: r)) := by
  refine FnK.byW (h_strings_trimLeftByte hE) rfl rfl (K := 9) fun k hk bl tk => ?_
  simp [F_strings_trimLeftByte, b_strings_trimLeftByte]
  refine wp_loop 0 (fun i e st => e = [(0, .str (c :: r)), (1, .int .u8 48)] ∧ st = { bl := bl, tk := tk, ro := bl.length, rt := tk.length }) (by omega) (by simp) ?_ ?_
  · rintro i e st hi; omega
  · rintro e st ⟨rfl, rfl⟩
    have hc1 : ¬ ((c.toNat : Int) = 48) := fun h => hc (UInt8.toNat_inj.1 (by rw [show (48 : UInt8).toNat = 48 from rfl]; omega))
    have h1 : (0 : Int) < (r.length : Int) + 1 := by omega
    have h2 : idx (.int .i64 0) (r.length + 1) = some 0 := idx_nat (i := 0) (by omega)
    simp [l0_strings_trimLeftByte, h1, h2, hc1]
theorem fn_TrimLeft0 : FnK 20 E (.fn n_strings_TrimLeft [] []) [.str [48], .str [48]] (.str []) := by
  refine FnK.byW (h_strings_TrimLeft hE) rfl rfl (K := 19) fun k hk bl tk => ?_
  have h1 := fn_trim0 hE k (by omega)
  simp [F_strings_TrimLeft, b_strings_TrimLeft, ix0, h1]
theorem fn_TrimLeftD {c : UInt8} {r : List UInt8} (hc : c ≠ 48) : FnK 20 E (.fn n_strings_TrimLeft [] []) [.str (c :: r), .str [48]] (.str (c :: r)) := by
  refine FnK.byW (h_strings_TrimLeft hE) rfl rfl (K := 19) fun k hk bl tk => ?_
  have h1 := fn_trimD hE (r := r) hc k (by omega)
  simp [F_strings_TrimLeft, b_strings_TrimLeft, ix0, h1]
theorem call_text (H : Hand E) {x : List UInt8} {v : AV} (hz : Sl (charsT x) v) (hl : x.length ≤ 1000) (h0 : x ≠ []) {k : Nat} (hk : 5 ≤ k) (s : St) (i0 : Nat) (bv ov : AV) (hi0 : s.bl[i0]? = some (.cells [v, bv, ov])) :
    callA E k none (.fn n___builtin_call__text [] []) [.ptr i0 0] s = some (.ret (.str x), false, s) := by
  obtain ⟨k, rfl⟩ : ∃ j, k = j + 1 := ⟨k - 1, by omega⟩
  have hnd := fn_need hE 22 k (by omega)
  have hs := H.str hz hl h0 k (by omega)
  refine call_byR (h___builtin_call__text hE) rfl fun bl tk hb' => ?_
  obtain ⟨rfl, rfl⟩ := plain_ptr hE hb'
  have hi' : ∀ r, (s.bl ++ r)[i0]? = s.bl[i0]? := fun r => List.getElem?_append_left (List.getElem?_eq_some_iff.1 hi0).1
  simp [-getElem?_pos, List.getElem?_cons_zero, List.getElem?_cons_succ, F___builtin_call__text, b___builtin_call__text, hi', hi0, hnd, hs]
theorem ans_numb (H : Hand E) {x : List UInt8} (hx : numT x = true) {v : AV} (hz : Sl (charsT x) v) : Ans E n___builtin_call__numb v (.ret (.sl .full 3 [tmV 3 x (.sl .nil 3 [])])) := by
  refine ⟨2000, fun k hk s i0 bv ov hi0 => ?_⟩
  obtain ⟨k, rfl⟩ : ∃ j, k = j + 1 := ⟨k - 1, by omega⟩
  obtain ⟨d, hd⟩ : ∃ d, d = (cutMinus x).1 := ⟨_, rfl⟩
  obtain ⟨m, hm⟩ : ∃ m, m = (cutMinus x).2 := ⟨_, rfl⟩
  have hxe : x = if m = true then 45 :: d else d := by
    subst hd hm; unfold cutMinus; split <;> simp
  simp only [numT, ← hd, ← hm, Bool.and_eq_true, Bool.not_eq_true', Bool.or_eq_false_iff, decide_eq_false_iff_not, Bool.or_eq_true, bne_iff_ne, beq_iff_eq, beq_eq_false_iff_ne, Bool.not_eq_false'] at hx
  obtain ⟨⟨⟨h0, h1⟩, h2⟩, h3⟩ := hx
  have hdig := every_dig h2
  have hdl : d.length ≤ 500 := by omega
  have hxl : x.length ≤ 1000 := by
    rw [hxe]; split
    · simp only [List.length_cons]; omega
    · omega
  have c1 := fn_CutMinus hE x k (by omega)
  rw [← hd, ← hm] at c1
  have c2 := fn_Trim hE H hdig (by omega) k (by omega)
  have nd1 := fn_need hE 22 k (by omega)
  have nd2 := fn_need hE 7 k (by omega)
  have c4 := fn_number hE [48] k (by omega)
  have c5 := fn_number hE x k (by omega)
  refine call_byR (h___builtin_call__numb hE) rfl fun bl tk hb' => ?_
  obtain ⟨rfl, rfl⟩ := plain_ptr hE hb'
  have c0 := call_text hE H hz hxl (by rw [hxe]; split <;> simp [h0]) (k := k) (by omega) { bl := s.bl, tk := s.tk, ro := s.bl.length, rt := s.tk.length } i0 bv ov hi0
  cases d with
  | nil => exact absurd rfl h0
  | cons c r =>
    simp only [digS] at c2
    by_cases hc : c = 48
    · subst hc
      rcases h3 with h3 | ⟨h3, h4⟩
      · exact absurd rfl h3
      · have hr : r = [] := by simpa using h3
        subst hr
        have hm0 : m = false := by simpa using h4
        subst hm0
        have c3 := fn_TrimLeft0 hE k (by omega)
        rw [if_neg (by simp)] at hxe
        subst hxe
        simp [-getElem?_pos, List.getElem?_cons_zero, List.getElem?_cons_succ, F___builtin_call__numb, b___builtin_call__numb, c0, c1, c2, nd1, c3, c4, tmV, setElems, repl, elemOfCells, hasSize]
    · have c3 := fn_TrimLeftD hE (r := r) hc k (by omega)
      have hmo : 1 + (r.length + 1) ≤ most := by simp only [List.length_cons] at hdl; show _ ≤ 1073741824; omega
      have hrl : (r.length : Int) + 1 ≤ 500 := by simp only [List.length_cons] at hdl; omega
      cases m with
      | true =>
        rw [if_pos rfl] at hxe
        subst hxe
        simp [-getElem?_pos, List.getElem?_cons_zero, List.getElem?_cons_succ, F___builtin_call__numb, b___builtin_call__numb, c0, c1, c2, nd1, nd2, c3, c5, tmV, hrl, hmo, setElems, repl, elemOfCells, hasSize]
      | false =>
        rw [if_neg (by simp)] at hxe
        subst hxe
        simp [-getElem?_pos, List.getElem?_cons_zero, List.getElem?_cons_succ, F___builtin_call__numb, b___builtin_call__numb, c0, c1, c2, nd1, nd2, c3, c5, tmV, hrl, hmo, setElems, repl, elemOfCells, hasSize]
end
end Ab.U

/- Implode of the characters of a word. Its conditions: the table, what 'term.String' answers. -/
namespace Ab.U
open Go Ab Go.RowKit
set_option maxRecDepth 10000
set_option linter.all false
section
variable {E : IEnv} (hE : E.fns = Table.fn table)
include hE
theorem fn_implode_1 (c : Int) : FnK 1 E (.fn n___builtin_call__implode_1 [] []) [.int .i32 c] (.bool (oddRune c)) :=
  FnK.byW (h___builtin_call__implode_1 hE) rfl rfl (K := 0) fun k hk bl tk => by
    unfold oddRune
    by_cases h : c < 32
    · simp [F___builtin_call__implode_1, b___builtin_call__implode_1, h]
    · by_cases h2 : 126 < c
      · simp [F___builtin_call__implode_1, b___builtin_call__implode_1, h, h2]
      · simp [F___builtin_call__implode_1, b___builtin_call__implode_1, h, h2]
theorem fn_Foreign (s : List UInt8) : FnK (s.length + 6) E (.fn n_strings_ContainsFunc [] []) [.str s, .fn n___builtin_call__implode_1 [] []] (.bool (decide (0 ≤ runeIx s oddRune true (s.length + 1) 0))) := by
  have h1 := fn_indexFunc hE s (.fn n___builtin_call__implode_1 [] []) oddRune true (fn_implode_1 hE)
  have h2 : FnK (s.length + 5) E (.fn n_strings_IndexFunc [] []) [.str s, .fn n___builtin_call__implode_1 [] []] (.int .i64 (runeIx s oddRune true (s.length + 1) 0)) :=
    FnK.byW (h_strings_IndexFunc hE) rfl rfl (K := s.length + 4) fun k hk bl tk => by simp [F_strings_IndexFunc, b_strings_IndexFunc, h1 k (by omega)]
  exact FnK.byW (h_strings_ContainsFunc hE) rfl rfl (K := s.length + 5) fun k hk bl tk => by simp [F_strings_ContainsFunc, b_strings_ContainsFunc, h2 k (by omega)]
theorem ans_implode (H : Hand E) {x : List UInt8} (hx : wordT x = true) {v : AV} (hz : Sl (charsT x) v) : Ans E n___builtin_call__implode v (.ret (.sl .full 3 [tmV 2 x (.sl .nil 3 [])])) := by
  refine ⟨2000, fun k hk s i0 bv ov hi0 => ?_⟩
  obtain ⟨k, rfl⟩ : ∃ j, k = j + 1 := ⟨k - 1, by omega⟩
  simp only [wordT, Bool.and_eq_true, bne_iff_ne, decide_eq_true_eq, Bool.not_eq_true'] at hx
  obtain ⟨⟨h0, h1⟩, h2⟩ := hx
  have c2 := fn_Foreign hE x k (by omega)
  rw [h2] at c2
  have nd1 := fn_need hE 22 k (by omega)
  refine call_byR (h___builtin_call__implode hE) rfl fun bl tk hb' => ?_
  obtain ⟨rfl, rfl⟩ := plain_ptr hE hb'
  have c0 := call_text hE H hz (by omega) h0 (k := k) (by omega) { bl := s.bl, tk := s.tk, ro := s.bl.length, rt := s.tk.length } i0 bv ov hi0
  cases x with
  | nil => exact absurd rfl h0
  | cons c r =>
  have h4 : (r.length : Int) + 1 ≤ 60 := by simp only [List.length_cons] at h1; omega
  simp [-getElem?_pos, List.getElem?_cons_zero, List.getElem?_cons_succ, F___builtin_call__implode, b___builtin_call__implode, c0, c2, nd1, h4, tmV, setElems, repl, elemOfCells, hasSize]
end
end Ab.U

/- Rows that are written into: elements and cells. No condition. -/
namespace Ab
open Go

def Aggs (z : Nat) (ys : List AV) : Prop := ∀ y ∈ ys, ∃ cs : List AV, y = .agg cs ∧ cs.length = z
def rowC : List AV → List AV
  | [] => []
  | y :: ys => (match y with | .agg cs => cs | y => [y]) ++ rowC ys
theorem rowC_append : ∀ a b : List AV, rowC (a ++ b) = rowC a ++ rowC b
  | [], b => rfl
  | y :: a, b => by simp only [List.cons_append, rowC, rowC_append a b, List.append_assoc]
theorem Aggs.tail {z : Nat} {y : AV} {ys : List AV} (h : Aggs z (y :: ys)) : Aggs z ys := fun x hx => h x (List.mem_cons_of_mem _ hx)
theorem Aggs.append {z : Nat} {a b : List AV} (h : Aggs z a) (h' : Aggs z b) : Aggs z (a ++ b) := fun x hx => by
  rcases List.mem_append.1 hx with hx | hx
  · exact h x hx
  · exact h' x hx
theorem rowC_length {z : Nat} : ∀ {ys : List AV}, Aggs z ys → (rowC ys).length = ys.length * z
  | [], _ => by simp [rowC]
  | y :: ys, h => by
    obtain ⟨cs, rfl, hc⟩ := h y (List.mem_cons_self ..)
    simp only [rowC, List.length_append, rowC_length h.tail, hc, List.length_cons, Nat.succ_mul]; omega
theorem cellsL_rowC {z : Nat} : ∀ {ys : List AV}, Aggs z ys → cellsL ys = some (rowC ys)
  | [], _ => rfl
  | y :: ys, h => by
    obtain ⟨cs, rfl, hc⟩ := h y (List.mem_cons_self ..)
    simp only [cellsL, AV.cells?, cellsL_rowC h.tail, rowC]
theorem chunk_rowC {z : Nat} (hz : z ≠ 1) : ∀ {ys : List AV} (rest : List AV), Aggs z ys → AV.chunk z ys.length (rowC ys ++ rest) = ys
  | [], _, _ => rfl
  | y :: ys, rest, h => by
    obtain ⟨cs, rfl, hc⟩ := h y (List.mem_cons_self ..)
    simp only [List.length_cons, AV.chunk, if_neg hz, rowC, List.append_assoc]
    rw [List.take_left' hc, List.drop_left' hc, chunk_rowC hz rest h.tail]
/- one element of a row: what lies there, and a cell of it set -/
theorem rowC_get {z : Nat} {l r : List AV} {cs : List AV} (h : Aggs z l) (o : Nat) (ho : o < cs.length) : (rowC (l ++ .agg cs :: r))[l.length * z + o]? = cs[o]? := by
  rw [rowC_append, ← rowC_length h, append_get]
  simp only [rowC]
  rw [List.getElem?_append_left ho]
theorem rowC_set {z : Nat} {l r : List AV} {cs : List AV} (h : Aggs z l) (o : Nat) (ho : o < cs.length) (v : AV) :
    (rowC (l ++ .agg cs :: r)).take (l.length * z + o) ++ v :: (rowC (l ++ .agg cs :: r)).drop (l.length * z + o + 1) = rowC (l ++ .agg (cs.set o v) :: r) := by
  rw [rowC_append, rowC_append, ← rowC_length h, List.take_length_add_append, Nat.add_assoc, List.drop_length_add_append]
  simp only [rowC, List.append_assoc]
  congr 1
  rw [List.take_append_of_le_length (by omega), List.drop_append_of_le_length (by omega), List.set_eq_take_append_cons_drop, if_pos ho]
  simp
theorem Rts.aggs : ∀ {ts : List Tm} {ys : List AV}, Rts ts ys → Aggs 3 ys
  | [], _, h => by simp only [Rts] at h; subst h; intro y hy; cases hy
  | t :: ts, _, h => by
    simp only [Rts] at h
    obtain ⟨y, r, rfl, h1, h2⟩ := h
    obtain ⟨v, rfl, _⟩ := h1.open
    intro x hx
    rcases List.mem_cons.1 hx with rfl | hx
    · exact ⟨_, rfl, rfl⟩
    · exact h2.aggs x hx
theorem frz_sl (s : St) (lo k : Nat) (o : Own) (z : Nat) (xs : List AV) : frz s lo k (.sl o z xs) = .sl o z xs := by cases k <;> rfl
theorem Rt.frz {t : Tm} {y : AV} (h : Rt t y) (s : St) (lo k : Nat) : frz s lo k y = y := by
  obtain ⟨v, rfl, hv⟩ := h.open
  obtain ⟨o, xs, rfl, _⟩ := hv
  cases k with
  | zero => rfl
  | succ k =>
    simp only [Ab.frz, List.map_cons, List.map_nil]
    cases k <;> rfl
theorem Rts.frz (s : St) (lo k : Nat) : ∀ {ts : List Tm} {ys : List AV}, Rts ts ys → ys.map (Ab.frz s lo k) = ys
  | [], _, h => by simp only [Rts] at h; subst h; rfl
  | t :: ts, _, h => by
    simp only [Rts] at h
    obtain ⟨y, r, rfl, h1, h2⟩ := h
    simp only [List.map_cons, h1.frz, Rts.frz s lo k h2]
theorem frz_row {s : St} {lo i z : Nat} {ys : List AV} (hlo : lo ≤ i) (hc : s.cell? i = some (rowC ys)) (ha : Aggs z ys) (hz : 1 < z) (hfr : ∀ k, ys.map (Ab.frz s lo k) = ys) : Ab.frz s lo 8 (.msl i 0 z ys.length) = .sl .any z (AV.untokL ys) := by
  have h1 : elemsA s (.msl i 0 z ys.length) = some ys := by
    simp only [elemsA, hc]
    rw [if_pos ⟨by rw [rowC_length ha]; omega, by omega⟩, List.drop_zero]
    have := chunk_rowC (by omega) [] ha
    rw [List.append_nil] at this
    rw [this]
  have h2 : Ab.frz s lo 8 (.msl i 0 z ys.length) = (if lo ≤ i then (match elemsA s (.msl i 0 z ys.length) with | some xs => .sl .any z (AV.untokL (xs.map (Ab.frz s lo 7))) | none => .msl i 0 z ys.length) else .msl i 0 z ys.length) := rfl
  rw [h2, if_pos hlo, h1]
  simp only [hfr]
/- what a function makes of the Kids of all terms of a list, as terms -/
theorem kid_mk {E : IEnv} {f : AV} {ts : List Tm} {xs : List AV} (h1 : Rts ts xs) (hf : ∀ t v, t ∈ ts → Sl t.kids v → ∃ r, Fn E f [v] r ∧ Sl t.kids r ∧ r.untok = r) :
    ∃ zs K, Rts ts zs ∧ AV.untokL zs = zs ∧ ∀ k, K ≤ k → ∀ (i : Nat) t, ts[i]? = some t → ∃ v r, xs[i]? = some (.agg [.int .i64 t.kind, .str t.text, v]) ∧ zs[i]? = some (.agg [.int .i64 t.kind, .str t.text, r]) ∧ ∀ s, callA E k none f [v] s = some (.ret r, false, s) := by
  induction ts generalizing xs with
  | nil => exact ⟨[], 0, by simp [Rts], rfl, fun _ _ i t h => by simp at h⟩
  | cons t ts ih =>
    simp only [Rts] at h1
    obtain ⟨y, ys, rfl, hy, hys⟩ := h1
    obtain ⟨zs, K, k1, k2, k3⟩ := ih hys fun t v ht => hf t v (List.mem_cons_of_mem _ ht)
    obtain ⟨v, rfl, hv⟩ := hy.open
    obtain ⟨r, ⟨K1, hr⟩, hr2, hr3⟩ := hf t v (List.mem_cons_self ..) hv
    refine ⟨.agg [.int .i64 t.kind, .str t.text, r] :: zs, K + K1, ?_, ?_, fun k hk i u hu => ?_⟩
    · simp only [Rts]
      refine ⟨_, _, rfl, ?_, k1⟩
      have := Rt.mk (k := t.kind) (s := t.text) hr2
      cases t; exact this
    · simp only [AV.untokL, AV.untok, hr3, k2]
    · cases i with
      | zero =>
        simp only [List.getElem?_cons_zero, Option.some.injEq] at hu
        subst hu
        exact ⟨v, r, rfl, rfl, hr k (by omega)⟩
      | succ i => exact k3 k (by omega) i u (by simpa using hu)
end Ab

/- What 'term.Copy' answers. No condition but the table. -/
namespace Ab.U
open Go Ab Go.RowKit
set_option maxRecDepth 10000
set_option linter.unusedSimpArgs false
set_option linter.unusedVariables false
theorem kid_mkK {K : Nat} {E : IEnv} {f : AV} {ts : List Tm} {xs : List AV} (h1 : Rts ts xs) (hf : ∀ t v, t ∈ ts → Sl t.kids v → ∃ r, FnK K E f [v] r ∧ Sl t.kids r ∧ r.untok = r) :
    ∃ zs, Rts ts zs ∧ AV.untokL zs = zs ∧ ∀ k, K ≤ k → ∀ (i : Nat) t, ts[i]? = some t → ∃ v r, xs[i]? = some (.agg [.int .i64 t.kind, .str t.text, v]) ∧ zs[i]? = some (.agg [.int .i64 t.kind, .str t.text, r]) ∧ ∀ s, callA E k none f [v] s = some (.ret r, false, s) := by
  induction ts generalizing xs with
  | nil => exact ⟨[], by simp [Rts], rfl, fun _ _ i t h => by simp at h⟩
  | cons t ts ih =>
    simp only [Rts] at h1
    obtain ⟨y, ys, rfl, hy, hys⟩ := h1
    obtain ⟨zs, k1, k2, k3⟩ := ih hys fun t v ht => hf t v (List.mem_cons_of_mem _ ht)
    obtain ⟨v, rfl, hv⟩ := hy.open
    obtain ⟨r, hr, hr2, hr3⟩ := hf t v (List.mem_cons_self ..) hv
    refine ⟨.agg [.int .i64 t.kind, .str t.text, r] :: zs, ?_, ?_, fun k hk i u hu => ?_⟩
    · simp only [Rts]
      refine ⟨_, _, rfl, ?_, k1⟩
      have := Rt.mk (k := t.kind) (s := t.text) hr2
      cases t; exact this
    · simp only [AV.untokL, AV.untok, hr3, k2]
    · cases i with
      | zero =>
        simp only [List.getElem?_cons_zero, Option.some.injEq] at hu
        subst hu
        exact ⟨v, r, rfl, rfl, hr k hk⟩
      | succ i => exact k3 k hk i u (by simpa using hu)
section
variable {E : IEnv} (hE : E.fns = Table.fn table)
include hE
theorem call_CloneK {ts : List Tm} {v : AV} (h : Sl ts v) (hn : ts.length ≤ most) (k : Nat) (s : St) : ∃ r s', callA E (k + 1) none (.fn n_slices_Clone___api_Term_api_Term__m [] []) [v] s = some (.ret r, false, s') ∧
    ((ts = [] ∧ (r = .sl .nil 3 [] ∧ v = .sl .nil 3 [] ∨ r = .sl .full 3 [] ∧ (∃ o, o ≠ .nil ∧ v = .sl o 3 [])) ∧ s' = s) ∨ (ts ≠ [] ∧ r = .msl s.bl.length 0 3 ts.length ∧ ∃ o xs, v = .sl o 3 xs ∧ s' = { s with bl := s.bl ++ [.cells (rowC (AV.untokL xs))] })) := by
  obtain ⟨o, xs, rfl, ⟨_, ho⟩, hR⟩ := h
  have hR' := Rts.untokL hR
  have hl := hR'.length
  have hl0 := hR.length
  have hmm : most = 1073741824 := rfl
  refine call_byW (h_slices_Clone___api_Term_api_Term__m hE) rfl ?_
  by_cases hon : o = .nil
  · subst hon
    have := ho rfl
    subst this
    have h0 : ts = [] := List.eq_nil_of_length_eq_zero (by simpa using hl0.symm)
    subst h0
    simp [F_slices_Clone___api_Term_api_Term__m, b_slices_Clone___api_Term_api_Term__m, aeq, finA, s0Of]
  · have ha : ∀ z, aeq .slice (.sl o 3 xs) (.sl .nil z []) = some false := by
      intro z; cases o <;> first | rfl | exact absurd rfl hon
    cases hx : AV.untokL xs with
    | nil =>
      have hx0 : xs = [] := by cases xs with | nil => rfl | cons _ _ => simp [AV.untokL] at hx
      subst hx0
      have h0 : ts = [] := List.eq_nil_of_length_eq_zero (by simpa using hl0.symm)
      subst h0
      simp [F_slices_Clone___api_Term_api_Term__m, b_slices_Clone___api_Term_api_Term__m, ha, setElems, repl, appmA, ysOf, finA, s0Of, hon]
    | cons y r =>
      have hcl := cellsL_rowC hR'.aggs
      have hne : ts ≠ [] := by rintro rfl; simp only [Rts] at hR'; rw [hR'] at hx; cases hx
      rw [hx] at hcl hl
      have hlen : (y :: r).length ≤ most := by omega
      have hlen2 : r.length + 1 = ts.length := by simpa using hl
      simp only [List.length_cons] at hlen
      simp [F_slices_Clone___api_Term_api_Term__m, b_slices_Clone___api_Term_api_Term__m, ha, setElems, repl, appmA, ysOf, hx, hn, hcl, finA, s0Of, hne, hlen2]
      exact ⟨o, xs, ⟨rfl, rfl⟩, by rw [hx]⟩

theorem fn_CopyK : ∀ (n : Nat) {ts : List Tm} {v : AV}, nTs ts < n → nTs ts ≤ most → Sl ts v → ∃ r, FnK (4 * nTs ts + 7) E (.fn n_term_Copy [] []) [v] r ∧ Sl ts r ∧ r.untok = r
  | 0, _, _, h, _, _ => by omega
  | n + 1, ts, v, hn, hm, hv => by
    have hv0 := hv
    obtain ⟨o1, xs, rfl, ⟨hm1, hnil⟩, h1⟩ := hv
    have hl1 := h1.length
    have hmx : maxLen = 9223372036854775807 := rfl
    have hmm : most = 1073741824 := rfl
    have hlt := length_le_nTs ts
    obtain ⟨zs, z1, z2, z3⟩ := kid_mkK (K := 4 * nTs ts + 3) (E := E) (f := .fn n_term_Copy [] []) (Rts.untokL h1) fun t v ht hv => by
      have hc := nT_mem ht
      rw [nT_eq] at hc
      obtain ⟨r, a1, a2⟩ := fn_CopyK n (v := v) (ts := t.kids) (by omega) (by omega) hv
      exact ⟨r, a1.mono (by omega), a2⟩
    have hzl := z1.length
    by_cases hts : ts = []
    · subst hts
      have hx0 : xs = [] := by simpa using hl1
      subst hx0
      have key : ∀ k s, 2 ≤ k → callA E k none (.fn n_term_Copy [] []) [.sl o1 3 []] s = some (.ret (if o1 = .nil then .sl .nil 3 [] else .sl .full 3 []), false, s) := by
        intro k s hk
        obtain ⟨k, rfl⟩ : ∃ j, k = j + 2 := ⟨k - 2, by omega⟩
        refine call_byP (E := E) (h_term_Copy hE) (first := []) (caps := []) (args := [AV.sl o1 3 []]) rfl (k := k + 1) (fun bl tk => ?_) s
        obtain ⟨r, s', hc, hor⟩ := call_CloneK hE hv0 (by simp) k { bl, tk, ro := bl.length, rt := tk.length }
        rcases hor with ⟨_, hr, rfl⟩ | ⟨h, _⟩
        · rcases hr with ⟨rfl, he⟩ | ⟨rfl, o2, ho2, he⟩
          · cases he
            simp [F_term_Copy, b_term_Copy, s0Of, hc]
            refine wp_loop 0 (fun i e st => i = 0 ∧ e = [(3, .sl .nil 3 []), (8, .int .i64 0), (9, .int .i64 0)] ∧ st = { bl, tk, ro := bl.length, rt := tk.length }) (by omega) (by simp) (fun i e st hi _ => by omega) ?_
            rintro e st ⟨_, rfl, rfl⟩
            simp [l0_term_Copy, finV]
          · cases he
            simp [F_term_Copy, b_term_Copy, s0Of, hc]
            refine wp_loop 0 (fun i e st => i = 0 ∧ e = [(3, .sl .full 3 []), (8, .int .i64 0), (9, .int .i64 0)] ∧ st = { bl, tk, ro := bl.length, rt := tk.length }) (by omega) (by simp) (fun i e st hi _ => by omega) ?_
            rintro e st ⟨_, rfl, rfl⟩
            simp [l0_term_Copy, finV, ho2]
        · exact absurd rfl h
      refine ⟨_, fun k hk s => key k s (by omega), ?_, ?_⟩
      · split
        · exact Sl.nil
        · exact ⟨_, _, rfl, ⟨by simp, fun h => by cases h⟩, by simp [Rts]⟩
      · split <;> rfl
    · refine ⟨.sl .any 3 zs, fun k hk s => ?_, ⟨_, _, rfl, ⟨by rw [hzl]; omega, fun h => by cases h⟩, z1⟩, rfl⟩
      obtain ⟨k, rfl⟩ : ∃ j, k = j + 2 := ⟨k - 2, by omega⟩
      refine call_byP (E := E) (h_term_Copy hE) (first := []) (caps := []) (args := [AV.sl o1 3 xs]) rfl (k := k + 1) (fun bl tk => ?_) s
      obtain ⟨r, s', hc, hor⟩ := call_CloneK hE hv0 (by omega) k { bl, tk, ro := bl.length, rt := tk.length }
      rcases hor with ⟨rfl, _⟩ | ⟨_, rfl, o2, xs2, e2, rfl⟩
      · exact absurd rfl hts
      cases e2
      have hul : (AV.untokL xs).length = ts.length := by simp [hl1]
      have hag := (Rts.untokL h1).aggs
      have hagz := z1.aggs
      simp [F_term_Copy, b_term_Copy, s0Of, hc]
      refine wp_loop ts.length (fun i e st => e = [(3, .msl bl.length 0 3 ts.length), (8, .int .i64 ts.length), (9, .int .i64 i)] ∧ st = { bl := bl ++ [.cells (rowC (zs.take i ++ (AV.untokL xs).drop i))], tk, ro := bl.length, rt := tk.length }) (by omega) (by simp) ?_ ?_
      · rintro i e st hi ⟨rfl, rfl⟩
        obtain ⟨t, ht⟩ : ∃ t, ts[i]? = some t := ⟨_, List.getElem?_eq_getElem hi⟩
        obtain ⟨v, r, hx, hz, hcall⟩ := z3 (k + 1) (by omega) i t ht
        obtain ⟨or, kr, rfl⟩ : ∃ o xs, r = .sl o 3 xs := by
          obtain ⟨y, hy, hry⟩ := z1.get ht
          rw [hz] at hy; cases hy
          obtain ⟨q, hq, hsl⟩ := hry.open
          cases hq
          obtain ⟨o, xs, h, _⟩ := hsl
          exact ⟨o, xs, h⟩
        obtain ⟨hxi, hx1⟩ := List.getElem?_eq_some_iff.1 hx
        obtain ⟨hzi, hz1⟩ := List.getElem?_eq_some_iff.1 hz
        have e1 : idx (.int .i64 i) ts.length = some i := idx_nat hi
        have hwr : IntKind.wrap .i64 ((i : Int) + 1) = i + 1 := wrapIn (by omega) (by omega)
        have htl : (zs.take i).length = i := by rw [List.length_take]; omega
        have hagt : Aggs 3 (zs.take i) := fun y hy => hagz y (List.mem_of_mem_take hy)
        obtain ⟨X, hX⟩ : ∃ X, X = rowC (zs.take i ++ (AV.untokL xs).drop i) := ⟨_, rfl⟩
        have hd : (AV.untokL xs).drop i = .agg [.int .i64 t.kind, .str t.text, v] :: (AV.untokL xs).drop (i + 1) := by rw [List.drop_eq_getElem_cons hxi, hx1]
        have hzt : zs.take (i + 1) = zs.take i ++ [.agg [.int .i64 t.kind, .str t.text, .sl or 3 kr]] := by rw [List.take_add_one, hz]; rfl
        have g1 : X[i * 3 + 2]? = some v := by
          rw [hX, hd]
          have := rowC_get (l := zs.take i) (r := (AV.untokL xs).drop (i + 1)) (cs := [.int .i64 t.kind, .str t.text, v]) hagt 2 (by simp)
          rw [htl] at this; exact this
        have g2 : X.take (i * 3 + 2) ++ .sl or 3 kr :: X.drop (i * 3 + 3) = rowC (zs.take (i + 1) ++ (AV.untokL xs).drop (i + 1)) := by
          rw [hX, hd, hzt, List.append_assoc]
          have := rowC_set (l := zs.take i) (r := (AV.untokL xs).drop (i + 1)) (cs := [.int .i64 t.kind, .str t.text, v]) hagt 2 (by simp) (.sl or 3 kr)
          rw [htl] at this
          exact this
        have g3 : X.length = ts.length * 3 := by
          rw [hX, rowC_length (z := 3)]
          · simp only [List.length_append, htl, List.length_drop, hul]; congr 1; omega
          · exact hagt.append fun y hy => hag y (List.mem_of_mem_drop hy)
        have g4 : i * 3 + 3 ≤ X.length := by omega
        rw [← hX]
        simp [l0_term_Copy, hi, e1, hwr, append_get, append_get0, append_set, append_set0, g1, g4, hcall, g2]
      · rintro e st ⟨rfl, rfl⟩
        have hf := frz_row (s := { bl := bl ++ [.cells (rowC zs)], tk, ro := bl.length, rt := tk.length }) (lo := bl.length) (i := bl.length) (z := 3) (ys := zs) (Nat.le_refl _) (by simp) hagz (by omega) (fun k => z1.frz _ _ _)
        rw [hzl] at hf
        have hdz := z1.data
        rw [List.take_of_length_le (by omega), List.drop_of_length_le (by omega), List.append_nil]
        simp [l0_term_Copy, finV, hf, z2, hdz]
end
end Ab.U

/- The table of the built-in functions. No condition but the table. MADE BY PROGRAM in part. -/
namespace Ab.U
open Go Ab Go.RowKit
set_option maxRecDepth 10000
set_option linter.all false
def funL : List (AV × AV) := [((.str [65, 100, 100]), (.fn n___builtin_call__add [] [])), ((.str [83, 117, 98]), (.fn n___builtin_call__sub [] [])), ((.str [77, 117, 108]), (.fn n___builtin_call__mul [] [])), ((.str [68, 105, 118]), (.fn n___builtin_call__div [] [])), ((.str [77, 111, 100]), (.fn n___builtin_call__mod [] [])), ((.str [68, 105, 118, 109, 111, 100]), (.fn n___builtin_call__divmod [] [])), ((.str [67, 111, 109, 112, 97, 114, 101]), (.fn n___builtin_call__compare [] [])), ((.str [78, 117, 109, 98]), (.fn n___builtin_call__numb [] [])), ((.str [83, 121, 109, 98]), (.fn n___builtin_call__symb [] [])), ((.str [79, 114, 100]), (.fn n___builtin_call__ord [] [])), ((.str [67, 104, 114]), (.fn n___builtin_call__chr [] [])), ((.str [84, 121, 112, 101]), (.fn n___builtin_call__kind [] [])), ((.str [76, 101, 110, 119]), (.fn n___builtin_call__lenw [] [])), ((.str [70, 105, 114, 115, 116]), (.fn n___builtin_call__first [] [])), ((.str [76, 97, 115, 116]), (.fn n___builtin_call__last [] [])), ((.str [69, 120, 112, 108, 111, 100, 101]), (.fn n___builtin_call__explode [] [])), ((.str [73, 109, 112, 108, 111, 100, 101]), (.fn n___builtin_call__implode [] [])), ((.str [85, 112, 112, 101, 114]), (.fn n___builtin_call__upper [] [])), ((.str [76, 111, 119, 101, 114]), (.fn n___builtin_call__lower [] [])), ((.str [77, 117]), (.fn n___builtin_call__mu [] [])), ((.str [85, 112]), (.fn n___builtin_call__up [] [])), ((.str [68, 110]), (.fn n___builtin_call__dn [] [])), ((.str [66, 114]), (.fn n___builtin_call__bury [] [])), ((.str [68, 103]), (.fn n___builtin_call__dig [] [])), ((.str [67, 112]), (.fn n___builtin_call__copy [] [])), ((.str [82, 112]), (.fn n___builtin_call__replace [] [])), ((.str [80, 114, 111, 117, 116]), (.fn n___builtin_call__print [] []))]
def funM (n : Nat) : List (AV × AV) := funL.take n
theorem fm0 : setA (.str [65, 100, 100]) (.fn n___builtin_call__add [] []) [] = some (funM 1) := by rfl
theorem fm1 : setA (.str [83, 117, 98]) (.fn n___builtin_call__sub [] []) (funM 1) = some (funM 2) := by rfl
theorem fm2 : setA (.str [77, 117, 108]) (.fn n___builtin_call__mul [] []) (funM 2) = some (funM 3) := by rfl
theorem fm3 : setA (.str [68, 105, 118]) (.fn n___builtin_call__div [] []) (funM 3) = some (funM 4) := by rfl
theorem fm4 : setA (.str [77, 111, 100]) (.fn n___builtin_call__mod [] []) (funM 4) = some (funM 5) := by rfl
theorem fm5 : setA (.str [68, 105, 118, 109, 111, 100]) (.fn n___builtin_call__divmod [] []) (funM 5) = some (funM 6) := by rfl
theorem fm6 : setA (.str [67, 111, 109, 112, 97, 114, 101]) (.fn n___builtin_call__compare [] []) (funM 6) = some (funM 7) := by rfl
theorem fm7 : setA (.str [78, 117, 109, 98]) (.fn n___builtin_call__numb [] []) (funM 7) = some (funM 8) := by rfl
theorem fm8 : setA (.str [83, 121, 109, 98]) (.fn n___builtin_call__symb [] []) (funM 8) = some (funM 9) := by rfl
theorem fm9 : setA (.str [79, 114, 100]) (.fn n___builtin_call__ord [] []) (funM 9) = some (funM 10) := by rfl
theorem fm10 : setA (.str [67, 104, 114]) (.fn n___builtin_call__chr [] []) (funM 10) = some (funM 11) := by rfl
theorem fm11 : setA (.str [84, 121, 112, 101]) (.fn n___builtin_call__kind [] []) (funM 11) = some (funM 12) := by rfl
theorem fm12 : setA (.str [76, 101, 110, 119]) (.fn n___builtin_call__lenw [] []) (funM 12) = some (funM 13) := by rfl
theorem fm13 : setA (.str [70, 105, 114, 115, 116]) (.fn n___builtin_call__first [] []) (funM 13) = some (funM 14) := by rfl
theorem fm14 : setA (.str [76, 97, 115, 116]) (.fn n___builtin_call__last [] []) (funM 14) = some (funM 15) := by rfl
theorem fm15 : setA (.str [69, 120, 112, 108, 111, 100, 101]) (.fn n___builtin_call__explode [] []) (funM 15) = some (funM 16) := by rfl
theorem fm16 : setA (.str [73, 109, 112, 108, 111, 100, 101]) (.fn n___builtin_call__implode [] []) (funM 16) = some (funM 17) := by rfl
theorem fm17 : setA (.str [85, 112, 112, 101, 114]) (.fn n___builtin_call__upper [] []) (funM 17) = some (funM 18) := by rfl
theorem fm18 : setA (.str [76, 111, 119, 101, 114]) (.fn n___builtin_call__lower [] []) (funM 18) = some (funM 19) := by rfl
theorem fm19 : setA (.str [77, 117]) (.fn n___builtin_call__mu [] []) (funM 19) = some (funM 20) := by rfl
theorem fm20 : setA (.str [85, 112]) (.fn n___builtin_call__up [] []) (funM 20) = some (funM 21) := by rfl
theorem fm21 : setA (.str [68, 110]) (.fn n___builtin_call__dn [] []) (funM 21) = some (funM 22) := by rfl
theorem fm22 : setA (.str [66, 114]) (.fn n___builtin_call__bury [] []) (funM 22) = some (funM 23) := by rfl
theorem fm23 : setA (.str [68, 103]) (.fn n___builtin_call__dig [] []) (funM 23) = some (funM 24) := by rfl
theorem fm24 : setA (.str [67, 112]) (.fn n___builtin_call__copy [] []) (funM 24) = some (funM 25) := by rfl
theorem fm25 : setA (.str [82, 112]) (.fn n___builtin_call__replace [] []) (funM 25) = some (funM 26) := by rfl
theorem fm26 : setA (.str [80, 114, 111, 117, 116]) (.fn n___builtin_call__print [] []) (funM 26) = some (funM 27) := by rfl
section
variable {E : IEnv} (hE : E.fns = Table.fn table)
include hE
theorem fn_functions {k : Nat} (hk : 3 ≤ k) (s : St) (hro : s.ro ≤ s.bl.length) : callA E k none (.fn n_builtin_functions [] []) [] s = some (.ret (.map (some s.bl.length)), false, { s with bl := s.bl ++ [.amap (funM 27)] }) := by
  obtain ⟨k, rfl⟩ : ∃ j, k = j + 1 := ⟨k - 1, by omega⟩
  obtain ⟨bl, tk, ro, rt⟩ := s
  simp only at hro
  have q0 : ∀ (c : AB) (r : List AB), (bl ++ c :: r)[bl.length]? = some c := fun c r => by rw [append_get0]; rfl
  have s0 : ∀ (c f : AB) (r : List AB), (bl ++ c :: r).set bl.length f = bl ++ f :: r := fun c f r => by rw [append_set0]; rfl
  obtain ⟨v, s', hcall, rfl, rfl⟩ := call_byW (h_builtin_functions hE) (first := []) (caps := []) (args := []) rfl (k := k) (s := { bl, tk, ro, rt })
    (Post := fun v s' => v = .map (some bl.length) ∧ s' = { bl := bl ++ [.amap (funM 27)], tk, ro, rt }) (by
      simp [-getElem?_pos, List.getElem?_cons_zero, List.getElem?_cons_succ, F_builtin_functions, b_builtin_functions, s0Of, q0, s0, hro, finA, isKey, St.map?, fm0, fm1, fm2, fm3, fm4, fm5, fm6, fm7, fm8, fm9, fm10, fm11, fm12, fm13, fm14, fm15, fm16, fm17, fm18, fm19, fm20, fm21, fm22, fm23, fm24, fm25, fm26])
  exact hcall
end
end Ab.U

/- A built-in function that is applied to a value and the empty store. Its conditions: the table, and what the function itself answers. -/
namespace Ab.U
open Go Ab Go.RowKit
set_option maxRecDepth 10000
set_option linter.all false
def nilS : AV := .agg [.sl .nil 2 [], .sl .nil 1 []]
def names : List (List UInt8) := [[83, 121, 109, 98], [78, 117, 109, 98], [69, 120, 112, 108, 111, 100, 101], [73, 109, 112, 108, 111, 100, 101], [85, 112], [68, 110], [70, 105, 114, 115, 116], [76, 97, 115, 116]]
structure Hand2 (E : IEnv) : Prop extends Hand E where
  keep : ∀ n ∈ names, FnK 100 E (.fn n_builtin_Keeps [] []) [.str n] (.bool false)
  check : FnK 100 E (.fn n_builtin_Check [] []) [nilS] (.int .i64 0)
  awake : FnK 200 E (.fn n_chiasmuslaw10_awake [] []) [] (.bool true)
theorem altA {E : IEnv} {call : Caller} {n : Nat} {ord : List Nat} {p q : Nat} {bury : Bool} {ops : List IOper} {keep : List Nat} {rest : ICode} {ks : List Nat} {f : Fr} {s : St} : codeA E call n (.alt ord p q bury ops keep rest ks) f s =
    joinR bury ks f.rnd s (thenR (codeA E call n rest) (regR keep f.env (opsA E call true ops f f.env { s with ro := s.bl.length })))
      (thenR (codeA E call n rest) (regR keep f.env (opsA E call true (inOrd ord ops) f f.env { s with ro := s.bl.length }))) := by simp only [codeA]
section
variable {E : IEnv} (hE : E.fns = Table.fn table)
include hE
theorem call_copied {k : Nat} (hk : 5 ≤ k) (s : St) (hro : s.ro ≤ s.bl.length) : callA E k none (.fn n_builtin_copied [] []) [nilS] s = some (.ret nilS, false, { s with bl := s.bl ++ [.cells [.sl .nil 2 [], .sl .nil 1 []], .cells [.sl .nil 2 [], .sl .nil 1 []], .cells [.sl .nil 2 [], .sl .nil 1 []]] }) := by
  obtain ⟨k, rfl⟩ : ∃ j, k = j + 1 := ⟨k - 1, by omega⟩
  obtain ⟨bl, tk, ro, rt⟩ := s
  simp only at hro
  have hcl : ∀ st, callA E k none (.fn n_slices_Clone___string_string_ [] []) [.sl .nil 1 []] st = some (.ret (.sl .nil 1 []), false, st) := fun st => by
    obtain ⟨k, rfl⟩ : ∃ j, k = j + 1 := ⟨k - 1, by omega⟩
    refine call_byR (h_slices_Clone___string_string_ hE) rfl fun bl tk _ => ?_
    simp [F_slices_Clone___string_string_, b_slices_Clone___string_string_, aeq]
  have q0 : ∀ (c : AB) (r : List AB), (bl ++ c :: r)[bl.length]? = some c := fun c r => by rw [append_get0]; rfl
  have q1 : ∀ (c d : AB) (r : List AB), (bl ++ c :: d :: r)[bl.length + 1]? = some d := fun c d r => by rw [append_get]; rfl
  have q2 : ∀ (c d e : AB) (r : List AB), (bl ++ c :: d :: e :: r)[bl.length + 2]? = some e := fun c d e r => by rw [append_get]; rfl
  have s2 : ∀ (c d e f : AB) (r : List AB), (bl ++ c :: d :: e :: r).set (bl.length + 2) f = bl ++ c :: d :: f :: r := fun c d e f r => by rw [append_set]; rfl
  have s1 : ∀ (c d f : AB) (r : List AB), (bl ++ c :: d :: r).set (bl.length + 1) f = bl ++ c :: f :: r := fun c d f r => by rw [append_set]; rfl
  have r1 : ro ≤ bl.length + 1 := by omega
  have r2 : ro ≤ bl.length + 2 := by omega
  obtain ⟨v, s', h, rfl, rfl⟩ := call_byW (h_builtin_copied hE) (first := []) (caps := []) (args := [nilS]) rfl (k := k) (s := { bl, tk, ro, rt })
    (Post := fun v s' => v = nilS ∧ s' = { bl := bl ++ [.cells [.sl .nil 2 [], .sl .nil 1 []], .cells [.sl .nil 2 [], .sl .nil 1 []], .cells [.sl .nil 2 [], .sl .nil 1 []]], tk, ro, rt }) (by
      simp [-getElem?_pos, List.getElem?_cons_zero, List.getElem?_cons_succ, F_builtin_copied, b_builtin_copied, s0Of, nilS, hcl, q0, q1, q2, s1, s2, hro, r1, r2]
      refine wp_loop 0 (fun i e st => e = [(2, .ptr (bl.length + 1) 0), (3, .ptr (bl.length + 2) 0), (11, .sl .nil 2 []), (12, .int .i64 0), (13, .int .i64 0)] ∧ st = { bl := bl ++ [.cells [.sl .nil 2 [], .sl .nil 1 []], .cells [.sl .nil 2 [], .sl .nil 1 []], .cells [.sl .nil 2 [], .sl .nil 1 []]], tk, ro, rt }) (by omega) (by simp) ?_ ?_
      · rintro i e st hi; omega
      · rintro e st ⟨rfl, rfl⟩
        simp [-getElem?_pos, List.getElem?_cons_zero, List.getElem?_cons_succ, l0_builtin_copied, q0, q1, q2, s1, s2, hro, r1, r2, finA])
  exact h
theorem apply_none {k i j m : Nat} (s : St) : callA E (k + 1) none (.fn n_builtin_Apply_1 [] [.ptr i 0, .ptr j 0, .ptr m 0]) [] s = some (.ret (.tup []), false, s) := by
  have hp : ∀ l, startA .eff none l s = s := fun l => rfl
  simp [callA, h_builtin_Apply_1 hE, F_builtin_Apply_1, b_builtin_Apply_1, runA, hp, unwindA, finA, aeq]
theorem apply_left {k i : Nat} (c : Int) (s : St) (a0 a1 a2 a3 : AV) (hi : i + 3 < s.bl.length) (hro : s.ro ≤ i) (h1 : s.bl[i + 1]? = some (.cells [a0])) (h2 : s.bl[i + 2]? = some (.cells [a1, a2])) (h3 : s.bl[i + 3]? = some (.cells [a3])) :
    ∃ B, callA E (k + 1) (some (leaveV c)) (.fn n_builtin_Apply_1 [] [.ptr (i + 1) 0, .ptr (i + 2) 0, .ptr (i + 3) 0]) [] s = some (.ret (.tup []), true, { s with bl := B }) ∧ B[i + 1]? = some (.cells [.sl .nil 3 []]) ∧ B[i + 2]? = some (.cells [.sl .nil 2 [], .sl .nil 1 []]) ∧ B[i + 3]? = some (.cells [.int .i64 c]) := by
  obtain ⟨bl, tk, ro, rt⟩ := s
  simp only at *
  have hp : ∀ l, startA .eff (some (.iface 62 (.agg [.int .i64 c]))) l (St.mk bl tk ro rt) = St.mk bl tk ro rt := fun l => rfl
  have e1 : ∀ r, (bl ++ r)[i + 1]? = bl[i + 1]? := fun r => List.getElem?_append_left (by omega)
  have e2 : ∀ r, (bl ++ r)[i + 2]? = bl[i + 2]? := fun r => List.getElem?_append_left (by omega)
  have e3 : ∀ r, (bl ++ r)[i + 3]? = bl[i + 3]? := fun r => List.getElem?_append_left (by omega)
  have r1 : ro ≤ i + 1 := by omega
  have r2 : ro ≤ i + 2 := by omega
  have r3 : ro ≤ i + 3 := by omega
  have r4 : ro ≤ bl.length := by omega
  have q0 : ∀ (c : AB) (r : List AB), (bl ++ c :: r)[bl.length]? = some c := fun c r => by rw [append_get0]; rfl
  have k2 : ∀ (L : List AB) X, (L.set (i + 1) X)[i + 2]? = L[i + 2]? := fun L X => List.getElem?_set_ne (by omega)
  have k3 : ∀ (L : List AB) X Y, ((L.set (i + 1) X).set (i + 2) Y)[i + 3]? = L[i + 3]? := fun L X Y => by rw [List.getElem?_set_ne (by omega), List.getElem?_set_ne (by omega)]
  have k4 : ∀ (L : List AB) X, (L.set (i + 1) X)[bl.length]? = L[bl.length]? := fun L X => List.getElem?_set_ne (by omega)
  have k5 : ∀ (L : List AB) X Y, ((L.set (i + 1) X).set (i + 2) Y)[bl.length]? = L[bl.length]? := fun L X Y => by rw [List.getElem?_set_ne (by omega), List.getElem?_set_ne (by omega)]
  refine ⟨(((bl ++ [AB.cells [.int .i64 c]]).set (i + 1) (AB.cells [.sl .nil 3 []])).set (i + 2) (AB.cells [.sl .nil 2 [], .sl .nil 1 []])).set (i + 3) (AB.cells [.int .i64 c]), ?_, ?_, ?_, ?_⟩
  · simp [-getElem?_pos, List.getElem?_cons_zero, List.getElem?_cons_succ, callA, h_builtin_Apply_1 hE, F_builtin_Apply_1, b_builtin_Apply_1, runA, hp, unwindA, finA, aeq, leaveV, append_set0, q0, e1, e2, e3, k2, k3, k4, k5, h1, h2, h3, r1, r2, r3, r4]
  · rw [List.getElem?_set_ne (by omega), List.getElem?_set_ne (by omega)]; exact List.getElem?_set_self (by simp; omega)
  · rw [List.getElem?_set_ne (by omega)]; exact List.getElem?_set_self (by simp; omega)
  · exact List.getElem?_set_self (by simp; omega)
end
end Ab.U

/- A built-in function that is applied to a value and the empty store: the walk. Its conditions: the table, and what the function itself answers. -/
namespace Ab.U
open Go Ab Go.RowKit
set_option maxRecDepth 10000
set_option linter.all false
def resV : CRes → AV
  | .ret r => .tup [r, nilS, .int .i64 0]
  | .pan (.iface _ (.agg [c])) => .tup [.sl .nil 3 [], nilS, c]
  | .pan x => x
section
variable {E : IEnv} (hE : E.fns = Table.fn table)
include hE
abbrev nilB : AB := .cells [.sl .nil 2 [], .sl .nil 1 []]
set_option maxHeartbeats 4000000 in
theorem fn_Apply (H : Hand2 E) {name : List UInt8} {nf : Nat} (hn : name ∈ names) (hf : findA (.str name) (funM 27) = some (some (.fn nf [] []))) {v : AV} {ra : AV} {res : CRes}
    (hV : Fn E (.fn n_term_Value [] []) [v] (.int .i64 0)) {N : Nat} (hcp : FnK N E (.fn n_term_Copy [] []) [v] ra) {o3 : Own} {y3 : List AV} (hra : ra = .sl o3 3 y3) (hrau : ra.untok = ra)
    (hD : Ans E nf ra res) (hres : (∃ r us, res = .ret r ∧ Sl us r ∧ r.untok = r ∧ nTs us ≤ 4000 ∧ dpS us ≤ 100) ∨ ∃ c, res = .pan (leaveV c)) :
    Fn E (.fn n_builtin_Apply [] []) [.str name, v, nilS] (resV res) := by
  obtain ⟨K1, hV⟩ := hV
  obtain ⟨K3, hD⟩ := hD
  obtain ⟨K4, hS⟩ : ∃ K4, ∀ r us, res = .ret r → Sl us r → nTs us ≤ 4000 → FnK K4 E (.fn n_term_Size [] []) [r] (.tup [.int .i64 (nTs us), .int .i64 (dpS us)]) := by
    rcases hres with ⟨r, us, rfl, hs, _, hn4, _⟩ | ⟨c, rfl⟩
    · obtain ⟨K4, h4⟩ := fn_Size hE hs (by show _ < 1073741824; omega)
      refine ⟨K4, fun r' us' he hs' _ => ?_⟩
      cases he
      obtain ⟨K5, h5⟩ := fn_Size hE hs' (by show _ < 1073741824; omega)
      intro k hk s
      have a := h4 (max k (max K4 K5)) (by omega) s
      have b := h5 (max k (max K4 K5)) (by omega) s
      rw [a] at b
      have e := h4 k hk s
      rw [e]
      simpa using b
    · exact ⟨0, fun r us he => by cases he⟩
  refine ⟨K1 + K3 + K4 + N + 300, fun k hk s => ?_⟩
  obtain ⟨k, rfl⟩ : ∃ j, k = j + 1 := ⟨k - 1, by omega⟩
  obtain ⟨k', hk'⟩ : ∃ j, k = j + 1 := ⟨k - 1, by omega⟩
  have hV := hV k (by omega)
  have hC := H.check k (by omega)
  have hcp := hcp k (by omega)
  have hKp := H.keep name hn k (by omega)
  obtain ⟨bl, tk, hst⟩ : ∃ bl tk, startA .pure none [.str name, v, nilS] s = { bl, tk, ro := bl.length, rt := tk.length } := by
    unfold startA
    split
    · exact ⟨[], [], rfl⟩
    · exact ⟨s.bl, s.tk, rfl⟩
  have cc := c_term_Copy hE [] []
  have hfn := fn_functions hE (k := k) (by omega) { bl := bl ++ [nilB, .cells [.sl .nil 3 []], nilB, .cells [.int .i64 0]], tk, ro := bl.length, rt := tk.length } (by simp)
  simp only [List.append_assoc, List.cons_append, List.nil_append] at hfn
  have q0 : ∀ (c : AB) (r : List AB), (bl ++ c :: r)[bl.length]? = some c := fun c r => by rw [append_get0]; rfl
  have q1 : ∀ (c d : AB) (r : List AB), (bl ++ c :: d :: r)[bl.length + 1]? = some d := fun c d r => by rw [append_get]; rfl
  have q2 : ∀ (c d e : AB) (r : List AB), (bl ++ c :: d :: e :: r)[bl.length + 2]? = some e := fun c d e r => by rw [append_get]; rfl
  have q3 : ∀ (c d e f : AB) (r : List AB), (bl ++ c :: d :: e :: f :: r)[bl.length + 3]? = some f := fun c d e f r => by rw [append_get]; rfl
  have q4 : ∀ (c d e f h : AB) (r : List AB), (bl ++ c :: d :: e :: f :: h :: r)[bl.length + 4]? = some h := fun c d e f h r => by rw [append_get]; rfl
  have q8 : ∀ (a b c d e f g h i : AB) (r : List AB), (bl ++ a :: b :: c :: d :: e :: f :: g :: h :: i :: r)[bl.length + 8]? = some i := fun a b c d e f g h i r => by rw [append_get]; rfl
  have s1 : ∀ (c d f : AB) (r : List AB), (bl ++ c :: d :: r).set (bl.length + 1) f = bl ++ c :: f :: r := fun c d f r => by rw [append_set]; rfl
  have s2 : ∀ (c d e f : AB) (r : List AB), (bl ++ c :: d :: e :: r).set (bl.length + 2) f = bl ++ c :: d :: f :: r := fun c d e f r => by rw [append_set]; rfl
  have s3 : ∀ (c d e f g : AB) (r : List AB), (bl ++ c :: d :: e :: f :: r).set (bl.length + 3) g = bl ++ c :: d :: e :: g :: r := fun c d e f g r => by rw [append_set]; rfl
  have own : ownFn E (.fn n_builtin_Apply_1 [] [.ptr (bl.length + 1) 0, .ptr (bl.length + 2) 0, .ptr (bl.length + 3) 0]) = true := by
    simp [ownFn, h_builtin_Apply_1 hE]
  have hcd := call_copied hE (k := k) (by omega) { bl := bl ++ [nilB, .cells [.sl .nil 3 []], nilB, .cells [.int .i64 0], .amap (funM 27)], tk, ro := bl.length + 5, rt := tk.length } (by simp)
  simp only [List.append_assoc, List.cons_append, List.nil_append, List.length_append, List.length_cons, List.length_nil] at hcd
  have hsame : AB.sameL [nilB, nilB, nilB, .cells [ra, .sl .nil 2 [], .sl .nil 1 []]] [nilB, nilB, nilB, .cells [ra, .sl .nil 2 [], .sl .nil 1 []]] = true := sameL_self (by rfl)
  have hdrop : ∀ (r : List AB), (bl ++ nilB :: .cells [.sl .nil 3 []] :: nilB :: .cells [.int .i64 0] :: .amap (funM 27) :: r).drop (bl.length + 5) = r := fun r => by
    rw [List.drop_append, List.drop_of_length_le (by omega), List.nil_append, show bl.length + 5 - bl.length = 5 by omega]; rfl
  subst hra
  have hcall := fun z => hD k (by omega) { bl := bl ++ nilB :: .cells [.sl .nil 3 []] :: nilB :: .cells [.int .i64 0] :: .amap (funM 27) :: nilB :: nilB :: nilB :: .cells [.sl o3 3 y3, .sl .nil 2 [], .sl .nil 1 []] :: z, tk, ro := bl.length, rt := tk.length } (bl.length + 8) (.sl .nil 2 []) (.sl .nil 1 []) (by rw [q8])
  have gn := fun st => apply_none hE (k := k') (i := bl.length + 1) (j := bl.length + 2) (m := bl.length + 3) st
  rw [← hk'] at gn
  have n1 := fn_need hE 7 k (by omega)
  rcases hres with ⟨r, us, rfl, hs, hru, hn4, hd4⟩ | ⟨c, rfl⟩
  · have hS := hS r us rfl hs hn4 k (by omega)
    have hrd := hs.data
    obtain ⟨or, yr, rfl, _⟩ := hs
    have hrd' : AV.dataL yr = true := by simpa [AV.data] using hrd
    have b1 : (nTs us : Int) ≤ 4000 := by omega
    have b2 : (dpS us : Int) ≤ 100 := by omega
    rw [callA]
    simp only [nilS] at *
    simp [-getElem?_pos, List.getElem?_cons_zero, List.getElem?_cons_succ, h_builtin_Apply hE, F_builtin_Apply, b_builtin_Apply, runA, hst, q0, q1, q2, q3, q4, q8, s1, s2, s3, hfn, isKey, St.map?, hf, hV, hC, altA, thenR, regR, inOrd, joinR, hcp, cc, hcd, hsame, hdrop, hrau, hcall, hKp, hS, b1, b2, n1, unwindA, own, gn, finA, hru, hrd']
    rfl
  · obtain ⟨B, hB, f1, f2, f3⟩ := apply_left hE (k := k') (i := bl.length) c { bl := bl ++ nilB :: .cells [.sl .nil 3 []] :: nilB :: .cells [.int .i64 0] :: .amap (funM 27) :: nilB :: nilB :: nilB :: .cells [.sl o3 3 y3, .sl .nil 2 [], .sl .nil 1 []] :: [], tk, ro := bl.length, rt := tk.length } (.sl .nil 3 []) (.sl .nil 2 []) (.sl .nil 1 []) (.int .i64 0) (by simp) (Nat.le_refl _) (by rw [q1]) (by rw [q2]) (by rw [q3])
    rw [← hk'] at hB
    rw [callA]
    simp only [nilS, leaveV] at *
    simp [-getElem?_pos, List.getElem?_cons_zero, List.getElem?_cons_succ, h_builtin_Apply hE, F_builtin_Apply, b_builtin_Apply, runA, hst, q0, q1, q2, q3, q4, q8, s1, s2, s3, hfn, isKey, St.map?, hf, hV, hC, altA, thenR, regR, inOrd, joinR, hcp, cc, hcd, hsame, hdrop, hrau, hcall, unwindA, own, hB, f1, f2, f3, finA]
    rfl
end
end Ab.U

/- First and Last: what they answer. Its condition: the table, what 'strconv.Atoi' answers. -/
namespace Ab.U
open Go Ab Go.RowKit
set_option maxRecDepth 10000
set_option linter.all false
/- the copy of a row, as data -/
def clo (o : Own) (ys : List AV) : AV := if o = .nil then .sl .nil 3 [] else endG .full 3 ys
theorem clo_sl {o : Own} {ys : List AV} {ts : List Tm} (hn : o = .nil → ys = []) (hy : Rts ts ys) (hl : ys.length ≤ maxLen) : Sl ts (clo o ys) := by
  unfold clo
  split
  · rename_i h
    obtain rfl := hn h
    cases ts with
    | nil => exact Sl.nil
    | cons t ts => simp [Rts] at hy
  · obtain ⟨o', h1, h2⟩ := endG_sl .full 3 ys
    exact ⟨o', ys, h1, ⟨hl, h2⟩, hy⟩
theorem clo_untok (o : Own) (ys : List AV) : (clo o ys).untok = clo o ys := by
  unfold clo; split
  · rfl
  · exact endG_untok (.inr rfl) _ _
def cloV (o : Own) (z T : Nat) (ys : List AV) : AV := if o = .nil then .sl .nil z [] else outG .full z T ys
theorem cloV_untok (o : Own) (T : Nat) (ys : List AV) : (cloV o 3 T ys).untok = clo o ys := by
  unfold cloV clo; split
  · rfl
  · exact outG_untok (.inr rfl) _ _ _
theorem cloV_data (o : Own) (T : Nat) (ys : List AV) (h : AV.dataL ys = true) : (cloV o 3 T ys).data = true := by
  unfold cloV; split
  · rfl
  · rw [outG_data]; exact h
theorem finA_keepG {z lo : Nat} {s s' : St} {ys : List AV} (hd : AV.dataL ys = true) (ht : s'.tk = outT s.tk ys) : finA .keep lo s s' (outG .full z s.tk.length ys) = some (outG .full z s.tk.length ys, { s with tk := outT s.tk ys }) := by
  by_cases h : ys = []
  · subst h; simp [finA, outG, outT, AV.data, AV.untok]
  · simp only [outG, if_neg h, outT] at ht ⊢
    simp [finA, AV.data, hd, ht]
theorem aeq_nil {o : Own} (ho : o ≠ .nil) (z z' : Nat) (xs : List AV) : aeq .slice (.sl o z xs) (.sl .nil z' []) = some false := by
  cases o <;> first | rfl | exact absurd rfl ho
def grpV (o : Own) (ys : List AV) : AV := tmV 4 [] (clo o ys)
section
variable {E : IEnv} (hE : E.fns = Table.fn table)
include hE
theorem fn_CloneT {ts : List Tm} {ys : List AV} (hes : Rts ts ys) {o : Own} (hn : o = .nil → ys = []) (hl : ys.length ≤ most) {k : Nat} (hk : 1 ≤ k) (s : St) :
    callA E k none (.fn n_slices_Clone___api_Term_api_Term_ [] []) [.sl o 3 ys] s = some (.ret (cloV o 3 s.tk.length (AV.untokL ys)), false, { s with tk := outT s.tk (AV.untokL ys) }) := by
  obtain ⟨k, rfl⟩ : ∃ j, k = j + 1 := ⟨k - 1, by omega⟩
  have hd : AV.dataL (AV.untokL ys) = true := hes.untokL.data
  obtain ⟨v, s', h1, rfl, rfl⟩ := call_byW (h_slices_Clone___api_Term_api_Term_ hE) (first := []) (caps := []) (args := [.sl o 3 ys]) rfl (k := k) (s := s) (Post := fun v s' => v = cloV o 3 s.tk.length (AV.untokL ys) ∧ s' = { s with tk := outT s.tk (AV.untokL ys) }) (by
    by_cases ho : o = .nil
    · have h0 := hn ho
      subst ho; subst h0
      simp [F_slices_Clone___api_Term_api_Term_, b_slices_Clone___api_Term_api_Term_, s0Of, aeq, finA, cloV, AV.data, AV.untok]
    · have ha := aeq_nil ho 3 3 ys
      have a1 := fun b => app_outG (o0 := .full) (.inr rfl) (bl := b) (tk := s.tk) (ro := s.bl.length) (rt := s.tk.length) (z := 3) (ys := []) (zs := ys) (o := o) (by simpa using hl) (Nat.le_refl _)
      simp only [outT_nil, outG_nil, List.nil_append] at a1
      simp [F_slices_Clone___api_Term_api_Term_, b_slices_Clone___api_Term_api_Term_, s0Of, ha, setElems, repl, elemOfCells, hasSize, a1]
      rw [finA_keepG hd rfl]
      simp [cloV, ho])
  exact h1
theorem fn_group {ts : List Tm} {ys : List AV} (hes : Rts ts ys) {o : Own} (hn : o = .nil → ys = []) (hl : ys.length ≤ most) : FnK 5 E (.fn n_builtin_group [] []) [.sl o 3 ys] (grpV o (AV.untokL ys)) := by
  refine FnK.byW (h_builtin_group hE) rfl rfl (K := 4) fun k hk bl tk => ?_
  have h1 := fn_CloneT hE hes hn hl (k := k) (by omega) { bl := bl ++ [.cells [.int .i64 0, .str [], .sl .nil 3 []]], tk, ro := bl.length, rt := tk.length }
  have hd : AV.dataL (AV.untokL ys) = true := hes.untokL.data
  have hu := cloV_untok o tk.length (AV.untokL ys)
  have hcd := cloV_data o tk.length (AV.untokL ys) hd
  obtain ⟨o', w, hc⟩ : ∃ o' w, cloV o 3 tk.length (AV.untokL ys) = .sl o' 3 w := by
    unfold cloV; split
    · exact ⟨_, _, rfl⟩
    · obtain ⟨o', h, _⟩ := outG_sl .full 3 tk.length (AV.untokL ys); exact ⟨_, _, h⟩
  simp only [hc] at h1
  rw [hc] at hu hcd
  simp [F_builtin_group, b_builtin_group, h1, append_get, append_get0, append_set, append_set0, grpV, tmV, hu]
  simpa [AV.data] using hcd
theorem fn_halves {ts : List Tm} {ys : List AV} (hes : Rts ts ys) {o : Own} (hn : o = .nil → ys = []) (hl : ys.length < most) {n : Nat} (hnl : n ≤ ys.length) : ∃ r, FnK 10 E (.fn n_builtin_halves [] []) [.sl o 3 ys, .int .i64 n] r ∧ Sl (.mk 4 [] (ts.take n) :: ts.drop n) r := by
  have hmm : most = 1073741824 := rfl
  have hmx : maxLen = 9223372036854775807 := rfl
  obtain ⟨oa, hoa⟩ : ∃ oa, oa = (if n = ys.length then o else if o = .full ∧ n = ys.length then .full else if o = .nil then .nil else .any : Own) := ⟨_, rfl⟩
  have hna : oa = .nil → ys.take n = [] := by
    intro h
    rw [hoa] at h
    have : o = .nil := by
      split at h
      · exact h
      · split at h
        · cases h
        · split at h
          · assumption
          · cases h
    rw [hn this]; simp
  have hg := fn_group hE (hes.take n) (o := oa) hna (by rw [List.length_take]; omega)
  have hr1 := clo_sl (o := oa) (by intro h; rw [hna h]; rfl) (hes.take n).untokL (by rw [AV.untokL_eq, List.length_map, List.length_take]; omega)
  have hr2 := (hes.drop n).untokL
  have hb0 : bound none ys.length ys.length = some ys.length := rfl
  have hb1 : bound (some (.int .i64 n)) ys.length ys.length = some n := by simp [bound]; omega
  have hb2 : bound none 0 n = some 0 := rfl
  have hb3 : bound (some (.int .i64 n)) 0 ys.length = some n := by simp [bound]; omega
  refine ⟨.sl (if ys.drop n = [] then .full else .any) 3 (grpV oa (AV.untokL (ys.take n)) :: AV.untokL (ys.drop n)), ?_, ?_⟩
  · refine FnK.byW (h_builtin_halves hE) rfl rfl (K := 9) fun k hk bl tk => ?_
    have hg := hg k (by omega)
    have cc := c_builtin_group hE [] []
    obtain ⟨oc, wc, hc, _, hrc⟩ := hr1
    simp only [grpV, tmV, hc] at hg ⊢
    have hdw : AV.dataL wc = true := hrc.data
    have hu : (AV.sl oc 3 wc).untok = .sl oc 3 wc := by rw [← hc]; exact clo_untok _ _
    cases hdr : ys.drop n with
    | nil => simp [F_builtin_halves, b_builtin_halves, sliceA, hb0, hb1, hb2, hb3, ← hoa, cc, hg, setElems, repl, elemOfCells, hasSize, AV.untok, AV.untokL, appA, ysOf, hdr, hdw, hu, (show 1 ≤ most by decide)]
    | cons y r =>
      have hd : AV.dataL (AV.untokL (y :: r)) = true := by rw [← hdr]; exact hr2.data
      have hl3 : 1 + (r.length + 1) ≤ most := by
        have := congrArg List.length hdr
        rw [List.length_drop, List.length_cons] at this
        omega
      simp [F_builtin_halves, b_builtin_halves, sliceA, hb0, hb1, hb2, hb3, ← hoa, cc, hg, setElems, repl, elemOfCells, hasSize, AV.untok, AV.untokL, appA, ysOf, hdr, hdw, hu, hl3]
      simpa [AV.untokL, AV.dataL] using hd
  · refine ⟨_, _, rfl, ⟨?_, fun h => by split at h <;> cases h⟩, ?_⟩
    · rw [List.length_cons, AV.untokL_eq, List.length_map, List.length_drop]; omega
    · simp only [Rts]
      exact ⟨_, _, rfl, Rt.mk hr1, hr2⟩
end
end Ab.U

/- The digits of a small number, and the number of these digits. No condition but the table. -/
namespace Ab.U
open Go Ab Go.RowKit
set_option maxRecDepth 10000
set_option linter.all false
def dig (n : Nat) : UInt8 := UInt8.ofNat (48 + n)
def digs (n : Nat) : List UInt8 := if n < 10 then [dig n] else if n < 100 then [dig (n / 10), dig (n % 10)] else [dig (n / 100), dig (n / 10 % 10), dig (n % 10)]
def valD (d : List UInt8) : Nat := d.foldl (fun a c => a * 10 + (c.toNat - 48)) 0
theorem digs_facts : ∀ n : Nat, n < 256 → numT (digs n) = true ∧ valD (digs n) = n ∧ (digs n).head? ≠ some 45 ∧ (∀ c ∈ digs n, 48 ≤ c.toNat ∧ c.toNat ≤ 57) ∧ (digs n).length ≤ 3 ∧ digs n ≠ [] := by decide +kernel
theorem valD_bound : ∀ (d : List UInt8), (∀ c ∈ d, isDig c) → d.length ≤ 3 → valD d < 1000
  | [], _, _ => by decide
  | [a], h, _ => by
    have := (h a (by simp)).2
    simp only [valD, List.foldl]; omega
  | [a, b], h, _ => by
    have := (h a (by simp)).2
    have := (h b (by simp)).2
    simp only [valD, List.foldl]; omega
  | [a, b, c], h, _ => by
    have := (h a (by simp)).2
    have := (h b (by simp)).2
    have := (h c (by simp)).2
    simp only [valD, List.foldl]; omega
  | _ :: _ :: _ :: _ :: _, _, h => by simp only [List.length_cons] at h; omega
section
variable {E : IEnv} (hE : E.fns = Table.fn table)
include hE
theorem fn_small1 {n : Nat} (h : n < 10) : FnK 3 E (.fn n_chiasmuslaw10_small [] []) [.int .i64 n] (.str [dig n]) := by
  refine FnK.byW (h_chiasmuslaw10_small hE) rfl rfl (K := 2) fun k hk bl tk => ?_
  have h1 : (n : Int) < 10 := by omega
  have h2 : IntKind.wrap .i64 (48 + (n : Int)) = 48 + n := wrapIn (by omega) (by omega)
  have h3 : IntKind.wrap .i32 (48 + (n : Int)) = 48 + n := IntWalk.i32_in _ ⟨by omega, by omega⟩
  have h4 : (0 : Int) ≤ 48 + n ∧ (48 : Int) + n < 128 := by omega
  have h5 : (48 + (n : Int)).toNat = 48 + n := by omega
  simp [F_chiasmuslaw10_small, b_chiasmuslaw10_small, h1, h2, h3, convA, h4, h5, dig]
theorem fn_small {n : Nat} (h : n < 1000) : FnK 9 E (.fn n_chiasmuslaw10_small [] []) [.int .i64 n] (.str (digs n)) := by
  have hq : ∀ m : Nat, m < 1000 → (m : Int).tdiv 10 = ((m / 10 : Nat) : Int) ∧ (m : Int).tmod 10 = ((m % 10 : Nat) : Int) := fun m _ => ⟨by rw [Int.tdiv_eq_ediv_of_nonneg (by omega)]; omega, by rw [Int.tmod_eq_emod_of_nonneg (by omega)]; omega⟩
  have two : ∀ m : Nat, m < 100 → FnK 6 E (.fn n_chiasmuslaw10_small [] []) [.int .i64 m] (.str (digs m)) := fun m hm => by
    by_cases h1 : m < 10
    · intro k hk; unfold digs; rw [if_pos h1]; exact fn_small1 hE h1 k (by omega)
    · refine FnK.byW (h_chiasmuslaw10_small hE) rfl rfl (K := 5) fun k hk bl tk => ?_
      have a1 := fn_small1 hE (n := m / 10) (by omega) k (by omega)
      have a2 := fn_small1 hE (n := m % 10) (by omega) k (by omega)
      obtain ⟨q1, q2⟩ := hq m (by omega)
      have h0 : ¬ (m : Int) < 10 := by omega
      have q3 : IntKind.wrap .i64 ((m / 10 : Nat) : Int) = ((m / 10 : Nat) : Int) := wrapIn (by omega) (by omega)
      simp [-Int.natCast_ediv, -Int.natCast_emod, F_chiasmuslaw10_small, b_chiasmuslaw10_small, h0, q1, q2, q3, a1, a2, digs, h1, hm, (show 2 ≤ most by decide)]
  by_cases h1 : n < 100
  · intro k hk; exact two n h1 k (by omega)
  · refine FnK.byW (h_chiasmuslaw10_small hE) rfl rfl (K := 8) fun k hk bl tk => ?_
    have a1 := two (n / 10) (by omega) k (by omega)
    have a2 := fn_small1 hE (n := n % 10) (by omega) k (by omega)
    obtain ⟨q1, q2⟩ := hq n (by omega)
    have h0 : ¬ (n : Int) < 10 := by omega
    have q3 : IntKind.wrap .i64 ((n / 10 : Nat) : Int) = ((n / 10 : Nat) : Int) := wrapIn (by omega) (by omega)
    have e1 : digs (n / 10) = [dig (n / 100), dig (n / 10 % 10)] := by
      unfold digs; rw [if_neg (by omega), if_pos (by omega)]; rw [show n / 10 / 10 = n / 100 by omega]
    have e2 : digs n = [dig (n / 100), dig (n / 10 % 10), dig (n % 10)] := by
      unfold digs; rw [if_neg (by omega), if_neg h1]
    rw [e1] at a1
    rw [e2]
    simp [-Int.natCast_ediv, -Int.natCast_emod, F_chiasmuslaw10_small, b_chiasmuslaw10_small, h0, q1, q2, q3, a1, a2, (show 3 ≤ most by decide)]
theorem fn_Atoi {d : List UInt8} (h0 : d ≠ []) (hl : d.length ≤ 3) (hd : ∀ c ∈ d, isDig c) : FnK 20 E (.fn n_strconv_Atoi [] []) [.str d] (.tup [.int .i64 (valD d), .nilif]) := by
  have hmx : maxLen = 9223372036854775807 := rfl
  have key : FnK 15 E (.fn n_internal_strconv_Atoi [] []) [.str d] (.tup [.int .i64 (valD d), .nilif]) := by
    refine FnK.byW (h_internal_strconv_Atoi hE) rfl rfl (K := 14) fun k hk bl tk => ?_
    have l1 : (0 : Int) < (d.length : Int) := by
      have : d.length ≠ 0 := fun h => h0 (List.eq_nil_of_length_eq_zero h)
      omega
    have l2 : (d.length : Int) < 19 := by omega
    have hn0 : 0 < d.length := by omega
    have l3 : d.length < 19 := by omega
    have i0 : idx (.int .i64 0) d.length = some 0 := idx_nat (i := 0) hn0
    have hg : d[0]? = some (d[0]'hn0) := List.getElem?_eq_getElem _
    have hc : isDig (d[0]'hn0) := hd _ (List.getElem_mem _)
    have n1 : ¬ (((d[0]'hn0).toNat : Int) = 45) := by have := hc.1; omega
    have n2 : ¬ (((d[0]'hn0).toNat : Int) = 43) := by have := hc.1; omega
    have b1 : (((d[0]'hn0).toNat : Int) == 45) = false := beq_eq_false_iff_ne.2 n1
    have b2 : (((d[0]'hn0).toNat : Int) == 43) = false := beq_eq_false_iff_ne.2 n2
    simp [-getElem?_pos, F_internal_strconv_Atoi, b_internal_strconv_Atoi, l1, l2, hn0, l3, i0, hg, b1, b2, n1, n2, convA]
    have hbl : (bytesOf d).length = d.length := by simp [bytesOf]
    rw [hbl]
    refine wp_loop d.length (fun i e st => e = [(5, .str d), (6, .int .i64 (valD (d.take i))), (47, .sl .any 1 (bytesOf d)), (48, .int .i64 d.length), (49, .int .i64 i)] ∧ st = { bl, tk, ro := bl.length, rt := tk.length }) (by omega) (by simp [valD]) ?_ ?_
    · rintro i e st hi ⟨rfl, rfl⟩
      have e1 : idx (.int .i64 i) d.length = some i := idx_nat hi
      have hwr : IntKind.wrap .i64 ((i : Int) + 1) = i + 1 := wrapIn (by omega) (by omega)
      have hci : isDig d[i] := hd _ (List.getElem_mem _)
      obtain ⟨c1, c2⟩ := hci
      have hb : valD (d.take i) < 1000 := valD_bound _ (fun c hc => hd c (List.mem_of_mem_take hc)) (by rw [List.length_take]; omega)
      have hv : valD (d.take (i + 1)) = valD (d.take i) * 10 + (d[i].toNat - 48) := by
        rw [show d.take (i + 1) = d.take i ++ [d[i]] by simp, valD, List.foldl_append]; rfl
      have hv2 : ((valD (d.take (i + 1)) : Nat) : Int) = (valD (d.take i) : Int) * 10 + ((d[i].toNat : Int) - 48) := by rw [hv]; omega
      obtain ⟨V, hV⟩ : ∃ V, V = valD (d.take i) := ⟨_, rfl⟩
      have hg2 : (bytesOf d)[i]? = some (.int .u8 d[i].toNat) := by simp [bytesOf, hi]
      obtain ⟨n, hn⟩ : ∃ n, n = d[i].toNat := ⟨_, rfl⟩
      rw [← hn] at hg2 c1 c2 hv2
      rw [← hV] at hb hv2
      have w1 : IntKind.wrap .u8 ((n : Int) - 48) = (n : Int) - 48 := IntWalk.u8_in _ ⟨by omega, by omega⟩
      have w2 : ¬ (9 : Int) < (n : Int) - 48 := by omega
      have w3 : IntKind.wrap .i64 ((V : Int) * 10) = (V : Int) * 10 := wrapIn (by omega) (by omega)
      have w4 : IntKind.wrap .i64 ((n : Int) - 48) = (n : Int) - 48 := wrapIn (by omega) (by omega)
      have w5 : IntKind.wrap .i64 ((V : Int) * 10 + ((n : Int) - 48)) = (V : Int) * 10 + ((n : Int) - 48) := wrapIn (by omega) (by omega)
      rw [hv2, ← hV]
      simp [-getElem?_pos, List.getElem?_cons_zero, l0_internal_strconv_Atoi, hi, hbl, e1, hwr, hg2, w1, w2, w3, w4, w5, convA]
    · rintro e st ⟨rfl, rfl⟩
      rw [List.take_length]
      simp [-getElem?_pos, l0_internal_strconv_Atoi, i0, hg, b1, n1]
  refine FnK.byW (h_strconv_Atoi hE) rfl rfl (K := 19) fun k hk bl tk => ?_
  have h1 := key k (by omega)
  simp [F_strconv_Atoi, b_strconv_Atoi, h1, (show aeq .iface .nilif .nilif = some true from rfl)]
end
end Ab.U

/- First and Last behind a small number: what they answer. No condition but the table. -/
namespace Ab.U
open Go Ab Go.RowKit
set_option maxRecDepth 10000
set_option linter.all false
section
variable {E : IEnv} (hE : E.fns = Table.fn table)
include hE
theorem call_cut {n : Nat} (hn : n < 256) {o : Own} (ho : o ≠ .nil) {x0 : AV} (hx0 : ∃ o1 y1, x0 = .sl o1 3 y1) {ys : List AV} (hl : ys.length < 100000) (hyd : AV.dataL ys = true) {k : Nat} (hk : 30 ≤ k) (s : St) (i0 : Nat) (bv ov : AV) (hi0 : s.bl[i0]? = some (.cells [.sl o 3 (tmV 3 (digs n) x0 :: ys), bv, ov])) :
    callA E k none (.fn n___builtin_call__cut [] []) [.ptr i0 0] s = some (.ret (.tup [.int .i64 (min n ys.length : Nat), .sl (if o = .full then .full else .any) 3 ys]), false, s) := by
  obtain ⟨k, rfl⟩ : ∃ j, k = j + 1 := ⟨k - 1, by omega⟩
  obtain ⟨o1, y1, rfl⟩ := hx0
  have hnd := fn_need hE 22 k (by omega)
  obtain ⟨f1, f2, f3, f4, f5, f6⟩ := digs_facts n hn
  have hat := fn_Atoi hE f6 f5 f4 k (by omega)
  rw [f2] at hat
  obtain ⟨c, r, hd⟩ : ∃ c r, digs n = c :: r := by
    cases h : digs n with
    | nil => exact absurd h f6
    | cons c r => exact ⟨c, r, rfl⟩
  have hc : ¬ ((c.toNat : Int) = 45) := by
    have := (f4 c (by rw [hd]; simp)).1
    omega
  have hcb : ((c.toNat : Int) != 45) = true := bne_iff_ne.2 hc
  rw [hd] at hat hi0
  refine call_byR (h___builtin_call__cut hE) rfl fun bl tk hb' => ?_
  obtain ⟨rfl, rfl⟩ := plain_ptr hE hb'
  have hi' : ∀ r, (s.bl ++ r)[i0]? = s.bl[i0]? := fun r => List.getElem?_append_left (List.getElem?_eq_some_iff.1 hi0).1
  have p1 : (0 : Int) < (ys.length : Int) + 1 := by omega
  have i1 : idx (.int .i64 0) (ys.length + 1) = some 0 := idx_nat (i := 0) (by omega)
  have i2 : idx (.int .i64 0) (r.length + 1) = some 0 := idx_nat (i := 0) (by omega)
  have hb0 : bound none (ys.length + 1) (ys.length + 1) = some (ys.length + 1) := rfl
  have hb1 : bound (some (.int .i64 1)) 0 (ys.length + 1) = some 1 := by simp [bound]; omega
  by_cases hm : n ≤ ys.length
  · have h1 : ¬ (ys.length : Int) < (n : Int) := by omega
    have h2 : min n ys.length = n := by omega
    rw [h2]
    simp [-getElem?_pos, List.getElem?_cons_zero, List.getElem?_cons_succ, F___builtin_call__cut, b___builtin_call__cut, hi', hi0, hnd, hat, tmV, p1, i1, i2, hcb, hc, sliceA, hb0, hb1, h1, (show aeq .iface .nilif .nilif = some true from rfl)]
    exact ⟨hyd, by rw [if_neg ho]; split <;> rfl⟩
  · have h1 : (ys.length : Int) < (n : Int) := by omega
    have h2 : min n ys.length = ys.length := by omega
    rw [h2]
    simp [-getElem?_pos, List.getElem?_cons_zero, List.getElem?_cons_succ, F___builtin_call__cut, b___builtin_call__cut, hi', hi0, hnd, hat, tmV, p1, i1, i2, hcb, hc, sliceA, hb0, hb1, h1, (show aeq .iface .nilif .nilif = some true from rfl)]
    exact ⟨hyd, by rw [if_neg ho]; split <;> rfl⟩
theorem ans_first {n : Nat} (hn : n < 256) {o : Own} (ho : o ≠ .nil) {x0 : AV} (hx0 : ∃ o1 y1, x0 = .sl o1 3 y1) {l : List Tm} {ys : List AV} (hy : Rts l ys) (hl : ys.length < 100000) :
    ∃ r, Ans E n___builtin_call__first (.sl o 3 (tmV 3 (digs n) x0 :: ys)) (.ret r) ∧ r.untok = r ∧ Sl (.mk 4 [] (l.take (min n l.length)) :: l.drop (min n l.length)) r := by
  have hmm : most = 1073741824 := rfl
  obtain ⟨oa, hoa⟩ : ∃ oa, oa = (if o = .full then .full else .any : Own) := ⟨_, rfl⟩
  have hna : oa = .nil → ys = [] := fun h => by rw [hoa] at h; split at h <;> cases h
  obtain ⟨r, hr, hsl⟩ := fn_halves hE hy hna (by omega) (n := min n ys.length) (by omega)
  rw [hy.length] at hsl
  refine ⟨r.untok, ⟨40, fun k hk s i0 bv ov hi0 => ?_⟩, by obtain ⟨o, y, rfl, _⟩ := hsl; cases o <;> rfl, hsl.untok⟩
  obtain ⟨k, rfl⟩ : ∃ j, k = j + 1 := ⟨k - 1, by omega⟩
  have hr := hr k (by omega)
  refine call_byR (h___builtin_call__first hE) rfl fun bl tk hb' => ?_
  obtain ⟨rfl, rfl⟩ := plain_ptr hE hb'
  have c0 := call_cut hE hn ho hx0 hl hy.data (k := k) (by omega) { bl := s.bl, tk := s.tk, ro := s.bl.length, rt := s.tk.length } i0 bv ov hi0
  rw [← hoa] at c0
  simp [-getElem?_pos, List.getElem?_cons_zero, List.getElem?_cons_succ, F___builtin_call__first, b___builtin_call__first, c0, hr, hsl.data]
theorem ans_last {n : Nat} (hn : n < 256) {o : Own} (ho : o ≠ .nil) {x0 : AV} (hx0 : ∃ o1 y1, x0 = .sl o1 3 y1) {l : List Tm} {ys : List AV} (hy : Rts l ys) (hl : ys.length < 100000) :
    ∃ r, Ans E n___builtin_call__last (.sl o 3 (tmV 3 (digs n) x0 :: ys)) (.ret r) ∧ r.untok = r ∧ Sl (.mk 4 [] (l.take (l.length - min n l.length)) :: l.drop (l.length - min n l.length)) r := by
  have hmm : most = 1073741824 := rfl
  obtain ⟨oa, hoa⟩ : ∃ oa, oa = (if o = .full then .full else .any : Own) := ⟨_, rfl⟩
  have hna : oa = .nil → ys = [] := fun h => by rw [hoa] at h; split at h <;> cases h
  obtain ⟨r, hr, hsl⟩ := fn_halves hE hy hna (by omega) (n := ys.length - min n ys.length) (by omega)
  have hwr : IntKind.wrap .i64 ((ys.length : Int) - ((min n ys.length : Nat) : Int)) = ((ys.length - min n ys.length : Nat) : Int) := by
    rw [show ((ys.length - min n ys.length : Nat) : Int) = (ys.length : Int) - ((min n ys.length : Nat) : Int) by omega]
    exact wrapIn (by omega) (by omega)
  rw [hy.length] at hsl
  refine ⟨r.untok, ⟨40, fun k hk s i0 bv ov hi0 => ?_⟩, by obtain ⟨o, y, rfl, _⟩ := hsl; cases o <;> rfl, hsl.untok⟩
  obtain ⟨k, rfl⟩ : ∃ j, k = j + 1 := ⟨k - 1, by omega⟩
  have hr := hr k (by omega)
  refine call_byR (h___builtin_call__last hE) rfl fun bl tk hb' => ?_
  obtain ⟨rfl, rfl⟩ := plain_ptr hE hb'
  have c0 := call_cut hE hn ho hx0 hl hy.data (k := k) (by omega) { bl := s.bl, tk := s.tk, ro := s.bl.length, rt := s.tk.length } i0 bv ov hi0
  rw [← hoa] at c0
  obtain ⟨M, hM⟩ : ∃ M, M = min n ys.length := ⟨_, rfl⟩
  rw [← hM] at c0 hwr hr
  simp [-getElem?_pos, List.getElem?_cons_zero, List.getElem?_cons_succ, F___builtin_call__last, b___builtin_call__last, c0, hwr, hr, hsl.data]
end
end Ab.U

/- The order of terms as plain data; a function of the Kids of pairs of terms. No condition. -/
namespace Ab
open Go Go.RowKit
def cmpI (a b : Int) : Int := if a < b then -1 else if a > b then 1 else 0
def cmpS (a b : List UInt8) : Int := if Go.Op.bytesLess a b then -1 else if a = b then 0 else 1
theorem bytesLess_self : ∀ s : List UInt8, Go.Op.bytesLess s s = false
  | [] => rfl
  | a :: s => by simp [Go.Op.bytesLess, bytesLess_self s]
theorem cmpI_ne {a b : Int} (h : a ≠ b) : cmpI a b ≠ 0 := by unfold cmpI; split; omega; split; omega; omega
theorem cmpS_ne {a b : List UInt8} (h : a ≠ b) : cmpS a b ≠ 0 := by unfold cmpS; split; omega; simp [h]
mutual
def cmpT : Tm → Tm → Int
  | .mk k s l, u => if k ≠ u.kind then cmpI k u.kind else if s ≠ u.text then cmpS s u.text else cmpTs l u.kids
def cmpTs : List Tm → List Tm → Int
  | [], [] => 0
  | [], _ :: _ => -1
  | _ :: _, [] => 1
  | t :: ts, u :: us => if cmpT t u ≠ 0 then cmpT t u else cmpTs ts us
end
theorem cmpT_eq (t u : Tm) : cmpT t u = if t.kind ≠ u.kind then cmpI t.kind u.kind else if t.text ≠ u.text then cmpS t.text u.text else cmpTs t.kids u.kids := by
  cases t; cases u; simp only [cmpT, Tm.kind, Tm.text, Tm.kids]; congr
theorem cmpTs_step {ts us : List Tm} {i : Nat} {t u : Tm} (ht : ts[i]? = some t) (hu : us[i]? = some u) :
    cmpTs (ts.drop i) (us.drop i) = if cmpT t u ≠ 0 then cmpT t u else cmpTs (ts.drop (i + 1)) (us.drop (i + 1)) := by
  obtain ⟨h1, h2⟩ := List.getElem?_eq_some_iff.1 ht
  obtain ⟨h3, h4⟩ := List.getElem?_eq_some_iff.1 hu
  rw [List.drop_eq_getElem_cons h1, List.drop_eq_getElem_cons h3, h2, h4]; simp only [cmpTs]
theorem cmpTs_end (ts us : List Tm) : cmpTs (ts.drop (min ts.length us.length)) (us.drop (min ts.length us.length)) = cmpI ts.length us.length := by
  by_cases h : ts.length < us.length
  · rw [Nat.min_eq_left (by omega), List.drop_length, List.drop_eq_getElem_cons h]
    simp only [cmpTs, cmpI]; rw [if_pos (by omega)]
  · rw [Nat.min_eq_right (by omega), List.drop_length]
    by_cases h2 : us.length < ts.length
    · rw [List.drop_eq_getElem_cons h2]; simp only [cmpTs, cmpI]; rw [if_neg (by omega), if_pos (by omega)]
    · rw [List.drop_of_length_le (by omega)]; simp only [cmpTs, cmpI]; rw [if_neg (by omega), if_neg (by omega)]
mutual
theorem cmpT_zero : ∀ t u : Tm, cmpT t u = 0 → t = u
  | .mk k s l, .mk k' s' l', h => by
    simp only [cmpT, Tm.kind, Tm.text, Tm.kids] at h
    by_cases h1 : k = k'
    · subst h1
      by_cases h2 : s = s'
      · subst h2
        simp only [ne_eq, not_true_eq_false, if_false] at h
        rw [cmpTs_zero l l' h]
      · simp only [ne_eq, not_true_eq_false, if_false, h2, not_false_eq_true, if_true] at h
        exact absurd h (cmpS_ne h2)
    · simp only [ne_eq, h1, not_false_eq_true, if_true] at h
      exact absurd h (cmpI_ne h1)
theorem cmpTs_zero : ∀ ts us : List Tm, cmpTs ts us = 0 → ts = us
  | [], [], _ => rfl
  | [], _ :: _, h => by simp [cmpTs] at h
  | _ :: _, [], h => by simp [cmpTs] at h
  | t :: ts, u :: us, h => by
    simp only [cmpTs] at h
    by_cases h1 : cmpT t u = 0
    · simp only [h1, ne_eq, not_true_eq_false, if_false] at h
      rw [cmpT_zero t u h1, cmpTs_zero ts us h]
    · simp only [ne_eq, h1, not_false_eq_true, if_true] at h
end
mutual
theorem cmpT_self : ∀ t : Tm, cmpT t t = 0
  | .mk k s l => by simp [cmpT, Tm.kind, Tm.text, Tm.kids, cmpTs_self l]
theorem cmpTs_self : ∀ ts : List Tm, cmpTs ts ts = 0
  | [] => by simp [cmpTs]
  | t :: ts => by simp [cmpTs, cmpT_self t, cmpTs_self ts]
end
theorem cmpTs_iff (ts us : List Tm) : cmpTs ts us = 0 ↔ ts = us := ⟨cmpTs_zero ts us, fun h => h ▸ cmpTs_self ts⟩

/- a function of two slices, at the Kids of all pairs at the same place -/
theorem kids_all {E : IEnv} {f : AV} {c : Tm → Tm → Int} {ts us : List Tm} {xs ys : List AV} (h1 : Rts ts xs) (h2 : Rts us ys)
    (hf : ∀ t u v w, t ∈ ts → u ∈ us → Sl t.kids v → Sl u.kids w → Fn E f [v, w] (.int .i64 (c t u))) :
    ∃ K, ∀ k, K ≤ k → ∀ (i : Nat) t u, ts[i]? = some t → us[i]? = some u → ∃ v w, xs[i]? = some (.agg [.int .i64 t.kind, .str t.text, v]) ∧ ys[i]? = some (.agg [.int .i64 u.kind, .str u.text, w]) ∧ ∀ s, callA E k none f [v, w] s = some (.ret (.int .i64 (c t u)), false, s) := by
  let kid : AV → AV := fun x => match x with | .agg [_, _, v] => v | _ => .junk
  obtain ⟨K, hK⟩ := Fn.all (E := E) (tgt := f) (α := (Tm × AV) × (Tm × AV)) (args := fun q => [kid q.1.2, kid q.2.2]) (v := fun q => .int .i64 (c q.1.1 q.2.1)) (xs := (ts.zip xs).zip (us.zip ys)) (by
    intro q hq
    obtain ⟨i, hi⟩ := List.mem_iff_getElem?.1 hq
    obtain ⟨ha, hb⟩ := List.getElem?_zip_eq_some.1 hi
    obtain ⟨a1, a2⟩ := List.getElem?_zip_eq_some.1 ha
    obtain ⟨b1, b2⟩ := List.getElem?_zip_eq_some.1 hb
    obtain ⟨x, a3, a4⟩ := h1.get a1
    obtain ⟨y, b3, b4⟩ := h2.get b1
    rw [a3] at a2; cases a2
    rw [b3] at b2; cases b2
    obtain ⟨v, e1, hv⟩ := a4.open
    obtain ⟨w, e2, hw⟩ := b4.open
    have k1 : kid q.1.2 = v := by rw [e1]
    have k2 : kid q.2.2 = w := by rw [e2]
    rw [k1, k2]
    exact hf _ _ _ _ (List.mem_of_getElem? a1) (List.mem_of_getElem? b1) hv hw)
  refine ⟨K, fun k hk i t u ht hu => ?_⟩
  obtain ⟨x, a3, a4⟩ := h1.get ht
  obtain ⟨y, b3, b4⟩ := h2.get hu
  obtain ⟨v, e1, hv⟩ := a4.open
  obtain ⟨w, e2, hw⟩ := b4.open
  subst e1 e2
  exact ⟨v, w, a3, b3, hK k hk ((t, _), (u, _)) (List.mem_iff_getElem?.2 ⟨i, List.getElem?_zip_eq_some.2 ⟨List.getElem?_zip_eq_some.2 ⟨ht, a3⟩, List.getElem?_zip_eq_some.2 ⟨hu, b3⟩⟩⟩)⟩
end Ab

/- What the comparisons answer. No condition but the table. -/
namespace Ab.U
open Go Ab Go.RowKit
set_option maxRecDepth 10000
set_option linter.unusedSimpArgs false
set_option linter.unusedVariables false
section
variable {E : IEnv} (hE : E.fns = Table.fn table)
include hE
theorem fn_isNaN_int (a : Int) : FnK 1 E (.fn n_cmp_isNaN_int_ [] []) [.int .i64 a] (.bool false) :=
  FnK.byW (h_cmp_isNaN_int_ hE) rfl rfl (K := 0) fun k hk bl tk => by simp [F_cmp_isNaN_int_, b_cmp_isNaN_int_]
theorem fn_isNaN_string (a : List UInt8) : FnK 1 E (.fn n_cmp_isNaN_string_ [] []) [.str a] (.bool false) :=
  FnK.byW (h_cmp_isNaN_string_ hE) rfl rfl (K := 0) fun k hk bl tk => by simp [F_cmp_isNaN_string_, b_cmp_isNaN_string_]
theorem fn_cmp_int (a b : Int) : FnK 2 E (.fn n_cmp_Compare_int_ [] []) [.int .i64 a, .int .i64 b] (.int .i64 (cmpI a b)) :=
  FnK.byW (h_cmp_Compare_int_ hE) rfl rfl (K := 1) fun k hk bl tk => by
    have h1 := fn_isNaN_int hE a k hk
    have h2 := fn_isNaN_int hE b k hk
    unfold cmpI
    by_cases c1 : a < b
    · simp [F_cmp_Compare_int_, b_cmp_Compare_int_, h1, h2, c1]
    · by_cases c2 : a > b
      · simp [F_cmp_Compare_int_, b_cmp_Compare_int_, h1, h2, c1, c2]
      · simp [F_cmp_Compare_int_, b_cmp_Compare_int_, h1, h2, c1, c2]
theorem fn_cmp_string (a b : List UInt8) : FnK 2 E (.fn n_cmp_Compare_string_ [] []) [.str a, .str b] (.int .i64 (cmpS a b)) :=
  FnK.byW (h_cmp_Compare_string_ hE) rfl rfl (K := 1) fun k hk bl tk => by
    have h1 := fn_isNaN_string hE a k hk
    have h2 := fn_isNaN_string hE b k hk
    unfold cmpS
    by_cases c1 : Go.Op.bytesLess a b = true
    · simp [F_cmp_Compare_string_, b_cmp_Compare_string_, h1, h2, c1]
    · have c1' : Go.Op.bytesLess a b = false := by simpa using c1
      by_cases c2 : a = b
      · subst c2
        simp [F_cmp_Compare_string_, b_cmp_Compare_string_, h1, c1']
      · have c2' : (a == b) = false := by simpa using c2
        simp [F_cmp_Compare_string_, b_cmp_Compare_string_, h1, h2, c1', c2, c2']
theorem fn_Sign (a b : List UInt8) : FnK 1 E (.fn n_chiasmusref01_Sign [] []) [.str a, .str b] (.int .i64 (cmpS a b)) :=
  FnK.byW (h_chiasmusref01_Sign hE) rfl rfl (K := 0) fun k hk bl tk => by
    unfold cmpS
    by_cases c1 : Go.Op.bytesLess a b = true
    · simp [F_chiasmusref01_Sign, b_chiasmusref01_Sign, c1]
    · have c1' : Go.Op.bytesLess a b = false := by simpa using c1
      by_cases c2 : a = b
      · subst c2
        simp [F_chiasmusref01_Sign, b_chiasmusref01_Sign, c1']
      · have c2' : (a == b) = false := by simpa using c2
        simp [F_chiasmusref01_Sign, b_chiasmusref01_Sign, c1', c2, c2']

theorem fn_term_Compare : ∀ (n : Nat) {ts us : List Tm} {v w : AV}, nTs ts < n → Sl ts v → Sl us w → Fn E (.fn n_term_Compare [] []) [v, w] (.int .i64 (cmpTs ts us))
  | 0, _, _, _, _, h, _, _ => by omega
  | n + 1, ts, us, v, w, hn, hv, hw => by
    obtain ⟨o1, xs, rfl, ⟨hm1, _⟩, h1⟩ := hv
    obtain ⟨o2, ys, rfl, ⟨hm2, _⟩, h2⟩ := hw
    have hl1 := h1.length
    have hl2 := h2.length
    have hmx : maxLen = 9223372036854775807 := rfl
    obtain ⟨K, hK⟩ := kids_all (E := E) (f := .fn n_term_Compare [] []) (c := fun t u => cmpTs t.kids u.kids) h1 h2 fun t u v w ht hu hv hw => fn_term_Compare n (by have := nT_mem ht; rw [nT_eq] at this; omega) hv hw
    have ci := fn_cmp_int hE
    have cs := fn_cmp_string hE
    have c1 := c_cmp_Compare_int_ hE [] []
    have c2 := c_cmp_Compare_string_ hE [] []
    have c3 := c_term_Compare hE [] []
    have hmin : (if ys.length < xs.length then (ys.length : Int) else (xs.length : Int)) = ((min ts.length us.length : Nat) : Int) := by split <;> omega
    refine Fn.byW (h_term_Compare hE) rfl rfl ⟨K + ts.length + 10, fun k hk bl tk => ?_⟩
    simp [F_term_Compare, b_term_Compare, mmAll, mmA]
    rw [hmin]
    refine wp_loop (min ts.length us.length) (fun i e s => cmpTs ts us = cmpTs (ts.drop i) (us.drop i) ∧ e = [(0, .sl o1 3 xs), (1, .sl o2 3 ys), (11, .int .i64 ((min ts.length us.length : Nat) : Int)), (12, .int .i64 i)] ∧ s = { bl := bl, tk, ro := bl.length, rt := tk.length }) (by omega) (by simp) ?_ ?_
    · rintro i e s hi ⟨hq, rfl, rfl⟩
      obtain ⟨t, ht⟩ : ∃ t, ts[i]? = some t := ⟨_, List.getElem?_eq_getElem (by omega)⟩
      obtain ⟨u, hu⟩ : ∃ u, us[i]? = some u := ⟨_, List.getElem?_eq_getElem (by omega)⟩
      obtain ⟨vx, vy, hx, hy, hc⟩ := hK k (by omega) i t u ht hu
      obtain ⟨hi1, hx1⟩ := List.getElem?_eq_some_iff.1 hx
      obtain ⟨hi2, hy1⟩ := List.getElem?_eq_some_iff.1 hy
      have e1 : idx (.int .i64 i) xs.length = some i := idx_nat hi1
      have e2 : idx (.int .i64 i) ys.length = some i := idx_nat hi2
      have hwr : IntKind.wrap .i64 ((i : Int) + 1) = i + 1 := wrapIn (by omega) (by omega)
      have hst := cmpTs_step ht hu
      have hlt : (i : Int) < ((min ts.length us.length : Nat) : Int) := by omega
      obtain ⟨mn, hmn⟩ : ∃ mn : Int, mn = ((min ts.length us.length : Nat) : Int) := ⟨_, rfl⟩
      rw [← hmn] at hlt ⊢
      have ci' := fun a b => ci a b k (by omega)
      have cs' := fun a b => cs a b k (by omega)
      rw [cmpT_eq] at hst
      by_cases k1 : t.kind = u.kind
      · by_cases k2 : t.text = u.text
        · simp only [k1, k2, ne_eq, not_true_eq_false, if_false] at hst
          by_cases k3 : cmpTs t.kids u.kids = 0
          · simp only [k3, not_true_eq_false, if_false] at hst
            rw [k3] at hc
            simp [l0_term_Compare, hlt, e1, e2, hi1, hi2, hx1, hy1, hx, hy, k1, k2, hc, c1, c2, c3, hwr]
            rw [hq, hst]
          · simp only [k3, not_false_eq_true, if_true] at hst
            have k3' : (cmpTs t.kids u.kids != 0) = true := by simpa using k3
            simp [l0_term_Compare, hlt, e1, e2, hi1, hi2, hx1, hy1, hx, hy, k1, k2, hc, c1, c2, c3, hwr, k3, k3']
            rw [hq, hst]
        · have k2' : (t.text != u.text) = true := by simpa using k2
          have := cmpS_ne k2
          simp only [k1, k2, ne_eq, not_true_eq_false, if_false, not_false_eq_true, if_true, this] at hst
          have k2'' : (t.text == u.text) = false := by simpa using k2
          simp [l0_term_Compare, hlt, e1, e2, hi1, hi2, hx1, hy1, hx, hy, k1, k2, k2', k2'', cs', c1, c2, c3, hwr]
          rw [hq, hst]
      · have k1' : (t.kind != u.kind) = true := by simpa using k1
        have := cmpI_ne k1
        simp only [k1, ne_eq, not_false_eq_true, if_true, this] at hst
        simp [l0_term_Compare, hlt, e1, e2, hi1, hi2, hx1, hy1, hx, hy, k1, k1', ci', c1, c2, c3, hwr]
        rw [hq, hst]
    · rintro e s ⟨hq, rfl, rfl⟩
      rw [cmpTs_end] at hq
      simp [l0_term_Compare, ci _ _ k (by omega), hq, hl1, hl2]
end
end Ab.U
