/- Br, Rp, Dg of a call under way. Its conditions: the table, and what the functions proved by hand answer. -/
import Derived.Test.YtengohlmonphiaaGreatDoorAb12
import Derived.Test.YtengohlmonphiaaGreatDoorAb10
import Derived.Test.YtengohlmonphiaaGreatDoorAb09
set_option linter.all false
namespace Ab.D
open Go Ab Go.RowKit
set_option maxRecDepth 10000
set_option linter.all false
structure Cut (key value : List Tm) (o : Own) (zs : List AV) : Prop where
  c : ∀ t ∈ key, isCut t = false
  nil : o ≠ .nil
  tok : ∀ t, o ≠ .tok t
  z : Rts (key ++ eqT :: value) zs
  m : (key ++ eqT :: value).length ≤ 100000
  d : AV.dataL zs = true
theorem any_untok {o : Own} (h : ∀ t, o ≠ .tok t) (z : Nat) (xs : List AV) : (AV.sl o z xs).untok = .sl o z xs := by cases o <;> first | rfl | exact absurd rfl (h _)
theorem cB_set : ∀ {l : List AV} {i : Nat} {a b v : AV}, l[i]? = some (.agg [a, b]) → (cB l).take (i * 2 + 1) ++ v :: (cB l).drop (i * 2 + 1 + 1) = cB (l.set i (.agg [a, v]))
  | [], _, _, _, _, h => by simp at h
  | y :: l, 0, a, b, v, h => by simp at h; subst h; simp [cB, fst2, snd2]
  | y :: l, i + 1, a, b, v, h => by
    simp only [List.getElem?_cons_succ] at h
    have ih := cB_set (v := v) h
    have e : ∀ l : List AV, cB (y :: l) = fst2 y :: snd2 y :: cB l := fun _ => rfl
    rw [List.set_cons_succ, e, e, show (i + 1) * 2 + 1 = (i * 2 + 1) + 2 by omega, ← ih]
    simp [List.take_succ_cons, List.drop_succ_cons]
theorem all2_set {α : Type} {R : α → AV → Prop} : ∀ {a : List α} {b : List AV} {i : Nat} {x : α} {y : AV}, All2 R a b → R x y → All2 R (a.set i x) (b.set i y)
  | [], b, i, x, y, h, hr => by simp only [All2] at h; subst h; simp [All2]
  | z :: a, b, i, x, y, h, hr => by
    simp only [All2] at h
    obtain ⟨w, r, rfl, h1, h2⟩ := h
    cases i with
    | zero => simp only [List.set_cons_zero, All2]; exact ⟨_, _, rfl, hr, h2⟩
    | succ i => simp only [List.set_cons_succ, All2]; exact ⟨_, _, rfl, h1, all2_set h2 hr⟩
theorem all2_erase {α : Type} {R : α → AV → Prop} : ∀ {a : List α} {b : List AV} (i : Nat), All2 R a b → All2 R (a.eraseIdx i) (b.eraseIdx i)
  | [], b, i, h => by simp only [All2] at h; subst h; simp [All2]
  | z :: a, b, i, h => by
    simp only [All2] at h
    obtain ⟨w, r, rfl, h1, h2⟩ := h
    cases i with
    | zero => simpa using h2
    | succ i => simp only [List.eraseIdx_cons_succ, All2]; exact ⟨_, _, rfl, h1, all2_erase i h2⟩
theorem untokL_iff : ∀ {l : List AV}, AV.untokL l = l ↔ ∀ y ∈ l, y.untok = y
  | [] => by simp [AV.untokL]
  | x :: l => by
    have := untokL_iff (l := l)
    simp only [AV.untokL, List.cons.injEq, this, List.mem_cons, forall_eq_or_imp]
section
variable {E : IEnv} (hE : E.fns = Table.fn table)
include hE
theorem fn_bury (hB : PrB E) {key value : List Tm} {o : Own} {zs : List AV} (hc : Cut key value o zs) : ∃ o2, o2 ≠ .nil ∧ (∀ t, o2 ≠ .tok t) ∧ ∀ k, 200030 ≤ k → ∀ (s : St) (i0 : Nat) (bv ov : AV) (l : List AV), s.bl[i0]? = some (.cells [.sl o 3 zs, bv, ov]) → s.ro ≤ i0 → RowS s l bv → (∀ j z n, bv = .msl j 0 z n → s.ro ≤ j ∧ j ≠ i0) → l.length ≤ 199 →
    ∃ s', callA E k none (.fn n___builtin_call__bury [] []) [.ptr i0 0] s = some (.ret (.sl .nil 3 []), false, s') ∧ Left s s' i0 (.sl o 3 zs) bv ov (.agg [.sl .any 3 (zs.take key.length), .sl o2 3 (zs.drop (key.length + 1))] :: l) [] := by
  obtain ⟨o2, h1, h2, hk'⟩ := fn_keyed hE hc.c hc.nil hc.tok hc.z hc.m hc.d
  refine ⟨o2, h1, h2, fun k hk s i0 bv ov l hi0 hro hrow hj hm => ?_⟩
  obtain ⟨k, rfl⟩ : ∃ j, k = j + 1 := ⟨k - 1, by omega⟩
  have hky := hk' k (by omega) s i0 bv ov hi0
  obtain ⟨s1, hp, hL⟩ := fn_put hE hB hm hi0 hro hrow hj (o1 := .any) (o2 := o2) (y1 := zs.take key.length) (y2 := zs.drop (key.length + 1)) rfl (any_untok h2 _ _) (dataL_take _ hc.d) (dataL_drop _ hc.d) (k := k) (by omega)
  have hs1 : ({ bl := s1.bl, tk := s1.tk, ro := s.ro, rt := s.rt } : St) = s1 := by rw [← hL.ro, ← hL.rt]
  obtain ⟨v, s', hcall, rfl, rfl⟩ := call_byW (h___builtin_call__bury hE) (first := []) (caps := []) (args := [.ptr i0 0]) rfl (k := k) (s := s)
    (Post := fun v s' => v = .sl .nil 3 [] ∧ s' = s1) (by
      simp [-getElem?_pos, List.getElem?_cons_zero, List.getElem?_cons_succ, F___builtin_call__bury, b___builtin_call__bury, s0Of, hky, hp, finA, hs1])
  exact ⟨_, hcall, hL⟩
def replB (ps : List Bur) (key value : List Tm) : List Bur := match ps.findIdx? (keyIs key) with
  | none => (key, value) :: ps
  | some i => ps.set i ((ps[i]?.getD (key, value)).1, value)
def replV (ps : List Bur) (key : List Tm) (l : List AV) (kv vv : AV) : List AV := match ps.findIdx? (keyIs key) with
  | none => .agg [kv, vv] :: l
  | some i => l.set i (.agg [fst2 (l[i]?.getD .junk), vv])
theorem replV_untok {ps : List Bur} {key : List Tm} {l : List AV} {kv vv : AV} (hl : All2 Bu ps l) (h : AV.untokL l = l) (h1 : kv.untok = kv) (h2 : vv.untok = vv) : AV.untokL (replV ps key l kv vv) = replV ps key l kv vv := by
  unfold replV
  cases hf : ps.findIdx? (keyIs key) with
  | none => simp only [AV.untokL, AV.untok, h1, h2, h]
  | some i =>
    obtain ⟨hi, _⟩ := List.findIdx?_eq_some_iff_getElem.1 hf
    obtain ⟨x, hx, a, b, rfl, ha, hb⟩ := hl.get (List.getElem?_eq_getElem hi)
    have he := untokL_iff.1 h _ (List.mem_of_getElem? hx)
    simp only [AV.untok, AV.untokL, AV.agg.injEq, List.cons.injEq] at he
    simp only [hx, Option.getD_some, fst2]
    refine untokL_iff.2 fun y hy => ?_
    rcases List.mem_or_eq_of_mem_set hy with hy | rfl
    · exact untokL_iff.1 h y hy
    · simp only [AV.untok, AV.untokL, he.1, h2]
theorem replV_bu {ps : List Bur} {key value : List Tm} {l : List AV} {kv vv : AV} (hl : All2 Bu ps l) (hk : Sl key kv) (hv : Sl value vv) : All2 Bu (replB ps key value) (replV ps key l kv vv) := by
  unfold replB replV
  cases hf : ps.findIdx? (keyIs key) with
  | none => simp only [All2]; exact ⟨_, _, rfl, ⟨_, _, rfl, hk, hv⟩, hl⟩
  | some i =>
    obtain ⟨hi, _⟩ := List.findIdx?_eq_some_iff_getElem.1 hf
    obtain ⟨x, hx, a, b, rfl, ha, hb⟩ := hl.get (List.getElem?_eq_getElem hi)
    simp only [List.getElem?_eq_getElem hi, hx, Option.getD_some, fst2]
    exact all2_set hl ⟨_, _, rfl, ha, hv⟩
set_option maxHeartbeats 1000000 in
theorem fn_replace (hB : PrB E) {key value : List Tm} {o : Own} {zs : List AV} (hc : Cut key value o zs) {ps : List Bur} {l : List AV} (hl : All2 Bu ps l) (hm : ps.length ≤ 199) {N : Nat} (hn : ∀ p ∈ ps, nTs p.1 ≤ N) : ∃ o2, o2 ≠ .nil ∧ (∀ t, o2 ≠ .tok t) ∧ ∀ k, 200030 + 2 * N + 1100 ≤ k → ∀ (s : St) (i0 : Nat) (bv ov : AV), s.bl[i0]? = some (.cells [.sl o 3 zs, bv, ov]) → s.ro ≤ i0 → RowS s l bv → (∀ j z n, bv = .msl j 0 z n → s.ro ≤ j ∧ j ≠ i0) →
    ∃ s', callA E k none (.fn n___builtin_call__replace [] []) [.ptr i0 0] s = some (.ret (.sl .nil 3 []), false, s') ∧ Left s s' i0 (.sl o 3 zs) bv ov (replV ps key l (.sl .any 3 (zs.take key.length)) (.sl o2 3 (zs.drop (key.length + 1)))) [] := by
  obtain ⟨o2, h1, h2, hk'⟩ := fn_keyed hE hc.c hc.nil hc.tok hc.z hc.m hc.d
  refine ⟨o2, h1, h2, fun k hk s i0 bv ov hi0 hro hrow hj => ?_⟩
  obtain ⟨k, rfl⟩ : ∃ j, k = j + 1 := ⟨k - 1, by omega⟩
  have hll := all2_len hl
  have hmm : most = 1073741824 := rfl
  have hky := hk' k (by omega) s i0 bv ov hi0
  have hkv : Sl key (.sl .any 3 (zs.take key.length)) := by
    have := hc.z.take key.length
    rw [List.take_left] at this
    exact ⟨_, _, rfl, ⟨by have := this.length; have := hc.m; rw [List.length_append] at this; have hx : maxLen = 9223372036854775807 := rfl; omega, fun e => by cases e⟩, this⟩
  have ht := fn_top hE hl (by omega) hn hkv hi0 hrow (k := k) (by omega)
  rw [topI, top_idx key ps 0] at ht
  cases hf : ps.findIdx? (keyIs key) with
  | none =>
    rw [hf] at ht
    simp only at ht
    obtain ⟨s1, hp, hL⟩ := fn_put hE hB (by omega) hi0 hro hrow hj (o1 := .any) (o2 := o2) (y1 := zs.take key.length) (y2 := zs.drop (key.length + 1)) rfl (any_untok h2 _ _) (dataL_take _ hc.d) (dataL_drop _ hc.d) (k := k) (by omega)
    have hs1 : ({ bl := s1.bl, tk := s1.tk, ro := s.ro, rt := s.rt } : St) = s1 := by rw [← hL.ro, ← hL.rt]
    obtain ⟨v, s', hcall, rfl, rfl⟩ := call_byW (h___builtin_call__replace hE) (first := []) (caps := []) (args := [.ptr i0 0]) rfl (k := k) (s := s)
      (Post := fun v s' => v = .sl .nil 3 [] ∧ s' = s1) (by
        simp [-getElem?_pos, List.getElem?_cons_zero, List.getElem?_cons_succ, F___builtin_call__replace, b___builtin_call__replace, s0Of, hky, ht, hp, finA, hs1])
    exact ⟨_, hcall, by unfold replV; rw [hf]; exact hL⟩
  | some i =>
    obtain ⟨hi, _⟩ := List.findIdx?_eq_some_iff_getElem.1 hf
    rw [hf] at ht
    simp only [Nat.zero_add] at ht
    obtain ⟨x, hx, a, b, rfl, ha, hb⟩ := hl.get (List.getElem?_eq_getElem hi)
    rcases hrow with ⟨rfl, _⟩ | ⟨hne, j, rfl, hjq⟩
    · simp at hx
    obtain ⟨hj1, hj2⟩ := hj j 2 l.length rfl
    obtain ⟨_, h4⟩ := cB_snd hx
    have h4' : i * 2 + 1 + 1 ≤ (cB l).length := h4
    have e1 : idx (.int .i64 i) l.length = some i := idx_nat (by omega)
    have hlt : ¬ ((i : Int) < 0) := by omega
    have hset := cB_set (v := .sl o2 3 (zs.drop (key.length + 1))) hx
    have hu2 := any_untok h2 3 (zs.drop (key.length + 1))
    obtain ⟨v, s', hcall, rfl, rfl⟩ := call_byW (h___builtin_call__replace hE) (first := []) (caps := []) (args := [.ptr i0 0]) rfl (k := k) (s := s)
      (Post := fun v s' => v = .sl .nil 3 [] ∧ s' = { bl := s.bl.set j (AB.cells (cB (l.set i (.agg [a, .sl o2 3 (zs.drop (key.length + 1))])))), tk := s.tk, ro := s.ro, rt := s.rt }) (by
        simp [-getElem?_pos, List.getElem?_cons_zero, List.getElem?_cons_succ, F___builtin_call__replace, b___builtin_call__replace, s0Of, hky, ht, hlt, hi0, hjq, e1, h4', hj1, hset, hu2, finA])
    refine ⟨_, hcall, ?_⟩
    unfold replV
    rw [hf]
    simp only [hx, Option.getD_some, fst2]
    refine ⟨⟨_, by rw [List.getElem?_set_ne hj2]; exact hi0, .inr ⟨j, by simp, ?_, hj2, .inr ⟨_, _, rfl⟩, .inl fun h => (by have := congrArg List.length h; simp at this; exact hne this)⟩⟩, rfl, rfl, rfl, by simp, fun i' h1 h2 h3 => ?_⟩
    · rw [List.append_nil]; exact List.getElem?_set_self (List.getElem?_eq_some_iff.1 hjq).1
    · exact List.getElem?_set_ne (fun h => h3 j 2 l.length rfl h.symm)
def digB (ps : List Bur) (key : List Tm) : List Bur := match ps.findIdx? (keyIs key) with
  | none => ps
  | some i => ps.eraseIdx i
set_option maxHeartbeats 1000000 in
theorem fn_dig (hB : PrB E) {key : List Tm} {kv : AV} (hkv : Sl key kv) {ps : List Bur} {l : List AV} (hl : All2 Bu ps l) (hm : ps.length ≤ 1000) {N : Nat} (hN : N ≤ most) (hn : ∀ p ∈ ps, nTs p.1 ≤ N ∧ nTs p.2 ≤ N) (hlu : AV.untokL l = l) : ∃ r l' x, r.untok = r ∧ All2 Bu (digB ps key) l' ∧ AV.untokL l' = l' ∧
    (match ps.findIdx? (keyIs key) with | some i => ∃ p, ps[i]? = some p ∧ Sl p.2 r | none => r = .sl .nil 3 []) ∧ ∀ k, 4 * N + 2010 ≤ k → ∀ (s : St) (i0 : Nat) (bv ov : AV), s.bl[i0]? = some (.cells [kv, bv, ov]) → s.ro ≤ i0 → RowS s l bv → (∀ j z n, bv = .msl j 0 z n → s.ro ≤ j ∧ j ≠ i0) →
      ∃ s', callA E k none (.fn n___builtin_call__dig [] []) [.ptr i0 0] s = some (.ret r, false, s') ∧ Left s s' i0 kv bv ov l' x := by
  have hmm : most = 1073741824 := rfl
  have hll := all2_len hl
  obtain ⟨r, hr1, hr2, hr3⟩ := fn_copyC hE hl hm hN hn hkv
  unfold digB
  cases hf : ps.findIdx? (keyIs key) with
  | none =>
    rw [hf] at hr2
    refine ⟨r, l, [], hr1, hl, hlu, hr2, fun k hk s i0 bv ov hi0 hro hrow hj => ?_⟩
    obtain ⟨k, rfl⟩ : ∃ j, k = j + 1 := ⟨k - 1, by omega⟩
    have hc := hr3 k (by omega) s i0 bv ov hi0 hrow
    have ht := fn_top hE hl hm (fun p hp => (hn p hp).1) hkv hi0 hrow (k := k) (by omega)
    rw [topI, top_idx key ps 0, hf] at ht
    simp only at ht
    obtain ⟨v, s', hcall, rfl, rfl⟩ := call_byW (h___builtin_call__dig hE) (first := []) (caps := []) (args := [.ptr i0 0]) rfl (k := k) (s := s)
      (Post := fun v s' => v = r ∧ s' = s) (by
        simp [-getElem?_pos, List.getElem?_cons_zero, List.getElem?_cons_succ, F___builtin_call__dig, b___builtin_call__dig, s0Of, hi0, hc, ht, hr1, finA])
    refine ⟨_, hcall, ⟨⟨_, hi0, ?_⟩, rfl, rfl, rfl, Nat.le_refl _, fun _ _ _ _ => rfl⟩⟩
    rcases hrow with ⟨h1, h2⟩ | ⟨hne, j, rfl, hjq⟩
    · exact .inl ⟨h1, rfl, h2⟩
    · exact .inr ⟨j, rfl, by rw [List.append_nil]; exact hjq, (hj j 2 _ rfl).2, .inr ⟨_, _, rfl⟩, .inl hne⟩
  | some i =>
    rw [hf] at hr2
    obtain ⟨hi, _⟩ := List.findIdx?_eq_some_iff_getElem.1 hf
    refine ⟨r, l.eraseIdx i, [.sl .nil 3 [], .sl .nil 3 []], hr1, all2_erase i hl, untokL_iff.2 (fun y hy => untokL_iff.1 hlu y (List.mem_of_mem_eraseIdx hy)), hr2, fun k hk s i0 bv ov hi0 hro hrow hj => ?_⟩
    obtain ⟨k, rfl⟩ : ∃ j, k = j + 2 := ⟨k - 2, by omega⟩
    have hc := hr3 (k + 1) (by omega) s i0 bv ov hi0 hrow
    have ht := fn_top hE hl hm (fun p hp => (hn p hp).1) hkv hi0 hrow (k := k + 1) (by omega)
    rw [topI, top_idx key ps 0, hf] at ht
    simp only [Nat.zero_add] at ht
    rcases hrow with ⟨rfl, _⟩ | ⟨hne, j, rfl, hjq⟩
    · simp only [List.length_nil] at hll; omega
    obtain ⟨hj1, hj2⟩ := hj j 2 l.length rfl
    have hdl := hB.del hjq hj1 (by omega) (i := i) (by omega) k
    have hwr : IntKind.wrap .i64 ((i : Int) + 1) = i + 1 := wrapIn (by omega) (by omega)
    have hge : (0 : Int) ≤ i := by omega
    have hs1 : ∀ X, (s.bl.set j X)[i0]? = some (.cells [kv, .msl j 0 2 l.length, ov]) := fun X => by rw [List.getElem?_set_ne hj2]; exact hi0
    obtain ⟨v, s', hcall, rfl, rfl⟩ := call_byW (h___builtin_call__dig hE) (first := []) (caps := []) (args := [.ptr i0 0]) rfl (k := k + 1) (s := s)
      (Post := fun v s' => v = r ∧ s' = { bl := (s.bl.set j (AB.cells (cB (l.eraseIdx i) ++ [.sl .nil 3 [], .sl .nil 3 []]))).set i0 (AB.cells [kv, .msl j 0 2 (l.length - 1), ov]), tk := s.tk, ro := s.ro, rt := s.rt }) (by
        simp [-getElem?_pos, List.getElem?_cons_zero, List.getElem?_cons_succ, F___builtin_call__dig, b___builtin_call__dig, s0Of, hi0, hc, ht, hge, hwr, hdl, St.setb, hs1, hro, hr1, finA])
    have hle : (l.eraseIdx i).length = l.length - 1 := by rw [List.length_eraseIdx, if_pos (by omega)]
    obtain ⟨hi1, _⟩ := List.getElem?_eq_some_iff.1 hi0
    obtain ⟨hjl, _⟩ := List.getElem?_eq_some_iff.1 hjq
    refine ⟨_, hcall, ⟨⟨_, List.getElem?_set_self (by simpa using hi1), .inr ⟨j, by rw [hle], ?_, hj2, .inr ⟨_, _, rfl⟩, .inr (by simp)⟩⟩, rfl, rfl, rfl, by simp, fun i' h1 h2 h3 => ?_⟩⟩
    · rw [List.getElem?_set_ne (fun h => hj2 h.symm)]; exact List.getElem?_set_self hjl
    · show ((s.bl.set j _).set i0 _)[i']? = _
      rw [List.getElem?_set_ne (fun h => h2 h.symm), List.getElem?_set_ne (fun h => h3 j 2 l.length rfl h.symm)]
end
end Ab.D

/- The table of the built-in functions. No condition but the table. MADE BY PROGRAM in part. -/
namespace Ab.D
open Go Ab Go.RowKit
set_option maxRecDepth 10000
set_option linter.all false
def funL : List (AV × AV) := [((.str [65, 100, 100]), (.fn n___builtin_call__add [] [])), ((.str [83, 117, 98]), (.fn n___builtin_call__sub [] [])), ((.str [77, 117, 108]), (.fn n___builtin_call__mul [] [])), ((.str [68, 105, 118]), (.fn n___builtin_call__div [] [])), ((.str [77, 111, 100]), (.fn n___builtin_call__mod [] [])), ((.str [68, 105, 118, 109, 111, 100]), (.fn n___builtin_call__divmod [] [])), ((.str [67, 111, 109, 112, 97, 114, 101]), (.fn n___builtin_call__compare [] [])), ((.str [78, 117, 109, 98]), (.fn n___builtin_call__numb [] [])), ((.str [83, 121, 109, 98]), (.fn n___builtin_call__symb [] [])), ((.str [79, 114, 100]), (.fn n___builtin_call__ord [] [])), ((.str [67, 104, 114]), (.fn n___builtin_call__chr [] [])), ((.str [84, 121, 112, 101]), (.fn n___builtin_call__kind [] [])), ((.str [76, 101, 110, 119]), (.fn n___builtin_call__lenw [] [])), ((.str [70, 105, 114, 115, 116]), (.fn n___builtin_call__first [] [])), ((.str [76, 97, 115, 116]), (.fn n___builtin_call__last [] [])), ((.str [69, 120, 112, 108, 111, 100, 101]), (.fn n___builtin_call__explode [] [])), ((.str [73, 109, 112, 108, 111, 100, 101]), (.fn n___builtin_call__implode [] [])), ((.str [85, 112, 112, 101, 114]), (.fn n___builtin_call__upper [] [])), ((.str [76, 111, 119, 101, 114]), (.fn n___builtin_call__lower [] [])), ((.str [77, 117]), (.fn n___builtin_call__mu [] [])), ((.str [85, 112]), (.fn n___builtin_call__up [] [])), ((.str [68, 110]), (.fn n___builtin_call__dn [] [])), ((.str [66, 114]), (.fn n___builtin_call__bury [] [])), ((.str [68, 103]), (.fn n___builtin_call__dig [] [])), ((.str [67, 112]), (.fn n___builtin_call__copy [] [])), ((.str [82, 112]), (.fn n___builtin_call__replace [] [])), ((.str [80, 114, 111, 117, 116]), (.fn n___builtin_call__print [] []))]
def funM (n : Nat) : List (AV × AV) := funL.take n
theorem fm0 : setA (.str [65, 100, 100]) (.fn n___builtin_call__add [] []) [] = some (funM 1) := by rfl
theorem fm1 : setA (.str [83, 117, 98]) (.fn n___builtin_call__sub [] []) (funM 1) = some (funM 2) := by rfl
theorem fm2 : setA (.str [77, 117, 108]) (.fn n___builtin_call__mul [] []) (funM 2) = some (funM 3) := by rfl
theorem fm3 : setA (.str [68, 105, 118]) (.fn n___builtin_call__div [] []) (funM 3) = some (funM 4) := by rfl
theorem fm4 : setA (.str [77, 111, 100]) (.fn n___builtin_call__mod [] []) (funM 4) = some (funM 5) := by rfl
theorem fm5 : setA (.str [68, 105, 118, 109, 111, 100]) (.fn n___builtin_call__divmod [] []) (funM 5) = some (funM 6) := by rfl
theorem fm6 : setA (.str [67, 111, 109, 112, 97, 114, 101]) (.fn n___builtin_call__compare [] []) (funM 6) = some (funM 7) := by rfl
theorem fm7 : setA (.str [78, 117, 109, 98]) (.fn n___builtin_call__numb [] []) (funM 7) = some (funM 8) := by rfl
theorem fm8 : setA (.str [83, 121, 109, 98]) (.fn n___builtin_call__symb [] []) (funM 8) = some (funM 9) := by rfl
theorem fm9 : setA (.str [79, 114, 100]) (.fn n___builtin_call__ord [] []) (funM 9) = some (funM 10) := by rfl
theorem fm10 : setA (.str [67, 104, 114]) (.fn n___builtin_call__chr [] []) (funM 10) = some (funM 11) := by rfl
theorem fm11 : setA (.str [84, 121, 112, 101]) (.fn n___builtin_call__kind [] []) (funM 11) = some (funM 12) := by rfl
theorem fm12 : setA (.str [76, 101, 110, 119]) (.fn n___builtin_call__lenw [] []) (funM 12) = some (funM 13) := by rfl
theorem fm13 : setA (.str [70, 105, 114, 115, 116]) (.fn n___builtin_call__first [] []) (funM 13) = some (funM 14) := by rfl
theorem fm14 : setA (.str [76, 97, 115, 116]) (.fn n___builtin_call__last [] []) (funM 14) = some (funM 15) := by rfl
theorem fm15 : setA (.str [69, 120, 112, 108, 111, 100, 101]) (.fn n___builtin_call__explode [] []) (funM 15) = some (funM 16) := by rfl
theorem fm16 : setA (.str [73, 109, 112, 108, 111, 100, 101]) (.fn n___builtin_call__implode [] []) (funM 16) = some (funM 17) := by rfl
theorem fm17 : setA (.str [85, 112, 112, 101, 114]) (.fn n___builtin_call__upper [] []) (funM 17) = some (funM 18) := by rfl
theorem fm18 : setA (.str [76, 111, 119, 101, 114]) (.fn n___builtin_call__lower [] []) (funM 18) = some (funM 19) := by rfl
theorem fm19 : setA (.str [77, 117]) (.fn n___builtin_call__mu [] []) (funM 19) = some (funM 20) := by rfl
theorem fm20 : setA (.str [85, 112]) (.fn n___builtin_call__up [] []) (funM 20) = some (funM 21) := by rfl
theorem fm21 : setA (.str [68, 110]) (.fn n___builtin_call__dn [] []) (funM 21) = some (funM 22) := by rfl
theorem fm22 : setA (.str [66, 114]) (.fn n___builtin_call__bury [] []) (funM 22) = some (funM 23) := by rfl
theorem fm23 : setA (.str [68, 103]) (.fn n___builtin_call__dig [] []) (funM 23) = some (funM 24) := by rfl
theorem fm24 : setA (.str [67, 112]) (.fn n___builtin_call__copy [] []) (funM 24) = some (funM 25) := by rfl
theorem fm25 : setA (.str [82, 112]) (.fn n___builtin_call__replace [] []) (funM 25) = some (funM 26) := by rfl
theorem fm26 : setA (.str [80, 114, 111, 117, 116]) (.fn n___builtin_call__print [] []) (funM 26) = some (funM 27) := by rfl
section
variable {E : IEnv} (hE : E.fns = Table.fn table)
include hE
theorem fn_functions {k : Nat} (hk : 3 ≤ k) (s : St) (hro : s.ro ≤ s.bl.length) : callA E k none (.fn n_builtin_functions [] []) [] s = some (.ret (.map (some s.bl.length)), false, { s with bl := s.bl ++ [.amap (funM 27)] }) := by
  obtain ⟨k, rfl⟩ : ∃ j, k = j + 1 := ⟨k - 1, by omega⟩
  obtain ⟨bl, tk, ro, rt⟩ := s
  simp only at hro
  have q0 : ∀ (c : AB) (r : List AB), (bl ++ c :: r)[bl.length]? = some c := fun c r => by rw [append_get0]; rfl
  have s0 : ∀ (c f : AB) (r : List AB), (bl ++ c :: r).set bl.length f = bl ++ f :: r := fun c f r => by rw [append_set0]; rfl
  obtain ⟨v, s', hcall, rfl, rfl⟩ := call_byW (h_builtin_functions hE) (first := []) (caps := []) (args := []) rfl (k := k) (s := { bl, tk, ro, rt })
    (Post := fun v s' => v = .map (some bl.length) ∧ s' = { bl := bl ++ [.amap (funM 27)], tk, ro, rt }) (by
      simp [-getElem?_pos, List.getElem?_cons_zero, List.getElem?_cons_succ, F_builtin_functions, b_builtin_functions, s0Of, q0, s0, hro, finA, isKey, St.map?, fm0, fm1, fm2, fm3, fm4, fm5, fm6, fm7, fm8, fm9, fm10, fm11, fm12, fm13, fm14, fm15, fm16, fm17, fm18, fm19, fm20, fm21, fm22, fm23, fm24, fm25, fm26])
  exact hcall
end
end Ab.D

/- Slices made by append, from nil or from an empty literal on. No condition. -/
namespace Ab
open Go
def outG (o : Own) (z T : Nat) (ys : List AV) : AV := if ys = [] then .sl o z [] else .sl (.tok T) z ys
def endG (o : Own) (z : Nat) (ys : List AV) : AV := if ys = [] then .sl o z [] else .sl .any z ys
@[simp] theorem outG_nil (o : Own) (z T : Nat) : outG o z T [] = .sl o z [] := rfl
theorem outV_outG (z T : Nat) (ys : List AV) : outV z T ys = outG .nil z T ys := rfl
theorem endV_endG (z : Nat) (ys : List AV) : endV z ys = endG .nil z ys := rfl
theorem outG_untok {o : Own} (ho : o = .nil ∨ o = .full) (z T : Nat) (ys : List AV) : (outG o z T ys).untok = endG o z ys := by
  rcases ho with rfl | rfl <;> unfold outG endG <;> split <;> rfl
theorem outG_data (o : Own) (z T : Nat) (ys : List AV) : (outG o z T ys).data = AV.dataL ys := by
  unfold outG; split
  · rename_i h; subst h; rfl
  · rfl
theorem endG_data (o : Own) (z : Nat) (ys : List AV) : (endG o z ys).data = AV.dataL ys := by
  unfold endG; split
  · rename_i h; subst h; rfl
  · rfl
theorem endG_untok {o : Own} (ho : o = .nil ∨ o = .full) (z : Nat) (ys : List AV) : (endG o z ys).untok = endG o z ys := by
  rcases ho with rfl | rfl <;> unfold endG <;> split <;> rfl
theorem endG_sl (o : Own) (z : Nat) (ys : List AV) : ∃ o', endG o z ys = .sl o' z ys ∧ (o' = .nil → ys = []) := by
  unfold endG; split
  · rename_i h; subst h; exact ⟨_, rfl, fun _ => rfl⟩
  · exact ⟨_, rfl, fun h => by cases h⟩
theorem outG_sl (o : Own) (z T : Nat) (ys : List AV) : ∃ o', outG o z T ys = .sl o' z ys ∧ (o' = .nil → ys = []) := by
  unfold outG; split
  · rename_i h; subst h; exact ⟨_, rfl, (fun _ => rfl)⟩
  · exact ⟨_, rfl, (fun h => by cases h)⟩
theorem app_outG {o0 : Own} (h0 : o0 = .nil ∨ o0 = .full) {bl : List AB} {tk : List Nat} {ro rt z : Nat} {ys zs : List AV} {o : Own} (hl : ys.length + zs.length ≤ most) (hr : rt ≤ tk.length) :
    appA { bl, tk := outT tk ys, ro, rt } z (outG o0 z tk.length ys) (.sl o z zs) = some (outG o0 z tk.length (ys ++ AV.untokL zs), { bl, tk := outT tk (ys ++ AV.untokL zs), ro, rt }) := by
  cases zs with
  | nil => by_cases hy : ys = [] <;> simp [outG, outT, appA, ysOf, AV.untokL, hy] <;> simpa using hl
  | cons a zs =>
    simp only [List.length_cons] at hl
    by_cases hy : ys = []
    · subst hy
      simp only [List.length_nil, Nat.zero_add] at hl
      rcases h0 with rfl | rfl <;> simp [outG, outT, appA, ysOf, AV.untokL, hl]
    · simp [outG, outT, appA, ysOf, AV.untokL, hy, hl, hr]
theorem app_oneG {o0 : Own} (h0 : o0 = .nil ∨ o0 = .full) {bl : List AB} {tk : List Nat} {ro rt z : Nat} {ys : List AV} {y : AV} {o : Own} (hl : ys.length < most) (hr : rt ≤ tk.length) :
    appA { bl, tk := outT tk ys, ro, rt } z (outG o0 z tk.length ys) (.sl o z [y]) = some (outG o0 z tk.length (ys ++ [y.untok]), { bl, tk := outT tk (ys ++ [y.untok]), ro, rt }) :=
  app_outG h0 (zs := [y]) hl hr
end Ab

/- The reference's 'Get'; 'BuiltinStores'. No condition but the table. -/
namespace Ab.D
open Go Ab Go.RowKit
set_option maxRecDepth 10000
set_option linter.all false
section
variable {E : IEnv} (hE : E.fns = Table.fn table)
include hE
theorem fn_Stacks_1 {ts us : List Tm} {v w : AV} (hv : Sl ts v) (hw : Sl us w) : Fn E (.fn n_chiasmuslaw10_BuiltinStacks_1 [] []) [v, w] (.bool (cmpTs ts us == 0)) := by
  obtain ⟨K, h⟩ := fn_ref_Equal hE hv hw
  exact Fn.byW (h_chiasmuslaw10_BuiltinStacks_1 hE) rfl rfl ⟨K, fun k hk bl tk => by simp [F_chiasmuslaw10_BuiltinStacks_1, b_chiasmuslaw10_BuiltinStacks_1, h k hk]⟩
omit hE in
theorem sls_all {f : AV} : ∀ {l : List (List Tm)} {xs ys : List AV}, Sls l xs → Sls l ys → (∀ t v w, Sl t v → Sl t w → Fn E f [v, w] (.bool true)) →
    ∃ K, ∀ k, K ≤ k → ∀ (i : Nat) x y, xs[i]? = some x → ys[i]? = some y → ∀ s, callA E k none f [x, y] s = some (.ret (.bool true), false, s)
  | [], xs, ys, h, _, _ => ⟨0, fun _ _ i x y hx _ => by simp only [Sls, All2] at h; subst h; simp at hx⟩
  | t :: l, xs, ys, h, h', hf => by
    simp only [Sls, All2] at h h'
    obtain ⟨x, xs, rfl, h1, h2⟩ := h
    obtain ⟨y, ys, rfl, h3, h4⟩ := h'
    obtain ⟨K1, g1⟩ := hf t x y h1 h3
    obtain ⟨K2, g2⟩ := sls_all h2 h4 hf
    refine ⟨K1 + K2, fun k hk i a b ha hb => ?_⟩
    cases i with
    | zero => simp at ha hb; subst ha; subst hb; exact g1 k (by omega)
    | succ i => simp at ha hb; exact g2 k (by omega) i a b ha hb
theorem fn_EqualSls {l : List (List Tm)} {xs ys : List AV} {o o' : Own} (h : Sls l xs) (h' : Sls l ys) (hm : l.length ≤ most) : Fn E (.fn n_slices_EqualFunc_____api_Term_____api_Term___api_Term___api_Term_ [] []) [.sl o 1 xs, .sl o' 1 ys, .fn n_chiasmuslaw10_BuiltinStacks_1 [] []] (.bool true) := by
  have hlx := All2.length h
  have hly := All2.length h'
  have hmm : most = 1073741824 := rfl
  obtain ⟨K, hK⟩ := sls_all (E := E) (f := .fn n_chiasmuslaw10_BuiltinStacks_1 [] []) h h' fun t v w hv hw => by
    have := fn_Stacks_1 hE hv hw
    rw [cmpTs_self] at this; exact this
  refine Fn.byW (h_slices_EqualFunc_____api_Term_____api_Term___api_Term___api_Term_ hE) rfl rfl ⟨K + l.length + 3, fun k hk bl tk => ?_⟩
  have hne : ((xs.length : Int) != ys.length) = false := by rw [hlx, hly]; simp
  simp [F_slices_EqualFunc_____api_Term_____api_Term___api_Term___api_Term_, b_slices_EqualFunc_____api_Term_____api_Term___api_Term___api_Term_, hne]
  refine wp_loop xs.length (fun i e s => e = [(1, .sl o' 1 ys), (2, .fn n_chiasmuslaw10_BuiltinStacks_1 [] []), (15, .sl o 1 xs), (16, .int .i64 xs.length), (17, .int .i64 i)] ∧ s = { bl, tk, ro := bl.length, rt := tk.length }) (by omega) ⟨rfl, rfl⟩ ?_ ?_
  · rintro i e s hi ⟨rfl, rfl⟩
    obtain ⟨t, ht⟩ : ∃ t, l[i]? = some t := ⟨_, List.getElem?_eq_getElem (by omega)⟩
    obtain ⟨x, hx, hxs⟩ := All2.get h ht
    obtain ⟨y, hy, hys⟩ := All2.get h' ht
    obtain ⟨hi1, hx1⟩ := List.getElem?_eq_some_iff.1 hx
    obtain ⟨hi2, hy1⟩ := List.getElem?_eq_some_iff.1 hy
    have e1 : idx (.int .i64 i) xs.length = some i := idx_nat hi1
    have e2 : idx (.int .i64 i) ys.length = some i := idx_nat hi2
    have hwr : IntKind.wrap .i64 ((i : Int) + 1) = i + 1 := wrapIn (by omega) (by omega)
    have g := hK k (by omega) i x y hx hy
    obtain ⟨o3, x3, rfl⟩ : ∃ o xs, x = .sl o 3 xs := by obtain ⟨o, xs, h, _⟩ := hxs; exact ⟨o, xs, h⟩
    obtain ⟨o4, x4, rfl⟩ : ∃ o xs, y = .sl o 3 xs := by obtain ⟨o, xs, h, _⟩ := hys; exact ⟨o, xs, h⟩
    simp [l0_slices_EqualFunc_____api_Term_____api_Term___api_Term___api_Term_, hi, e1, e2, hx1, hy, g, hwr]
  · rintro e s ⟨rfl, rfl⟩
    simp [l0_slices_EqualFunc_____api_Term_____api_Term___api_Term___api_Term_]
end
end Ab.D

/- Membership of a text; what keeps the store; equality of stores. No condition but the table. -/
namespace Ab.D
open Go Ab Go.RowKit
set_option maxRecDepth 10000
set_option linter.all false
def inS (l : List (List UInt8)) (n : List UInt8) : Bool := l.any fun f => f == n
theorem strs_get {l : List (List UInt8)} {i : Nat} {t : List UInt8} (h : l[i]? = some t) : (strs l)[i]? = some (.str t) := by simp [strs, h]
@[simp] theorem strs_length (l : List (List UInt8)) : (strs l).length = l.length := by simp [strs]
section
variable {E : IEnv} (hE : E.fns = Table.fn table)
include hE
theorem fn_Index_S {l : List (List UInt8)} {o : Own} {n : List UInt8} (hl : l.length ≤ 1048576) {k : Nat} (hk : 1048578 ≤ k) (s : St) :
    ∃ r, (∃ m, r = .int .i64 m ∧ decide (0 ≤ m) = inS l n) ∧ callA E (k + 1) none (.fn n_slices_Index___string_string_ [] []) [.sl o 1 (strs l), .str n] s = some (.ret r, false, s) := by
  refine call_byE (h_slices_Index___string_string_ hE) rfl (fun bl tk => ?_) s
  simp [F_slices_Index___string_string_, b_slices_Index___string_string_]
  refine wp_loop l.length (fun i e' st => inS (l.take i) n = false ∧ e' = [(0, .sl o 1 (strs l)), (1, .str n), (7, .int .i64 l.length), (8, .int .i64 i)] ∧ st = { bl, tk, ro := bl.length, rt := tk.length }) (by omega) ⟨by simp [inS], rfl, rfl⟩ ?_ ?_
  · rintro i e' st hi ⟨hq, rfl, rfl⟩
    obtain ⟨t, ht⟩ : ∃ t, l[i]? = some t := ⟨_, List.getElem?_eq_getElem (by omega)⟩
    have hx := strs_get ht
    obtain ⟨hi1, hx1⟩ := List.getElem?_eq_some_iff.1 hx
    have e1 : idx (.int .i64 i) l.length = some i := idx_nat hi
    have hwr : IntKind.wrap .i64 ((i : Int) + 1) = i + 1 := wrapIn (by omega) (by omega)
    have hq2 : inS (l.take (i + 1)) n = (t == n) := by
      unfold inS at hq ⊢
      rw [List.take_succ, ht]; simp only [Option.toList_some, List.any_append, hq, List.any_cons, List.any_nil, Bool.or_false, Bool.false_or]
    by_cases s1 : t = n
    · have s1' : (n == t) = true := by simp [s1]
      have ha : inS l n = true := List.any_eq_true.2 ⟨t, List.mem_of_getElem? ht, by simpa using s1⟩
      simp [l0_slices_Index___string_string_, hi, e1, hx, hx1, hwr, s1']
      exact ⟨_, rfl, i, rfl, by rw [ha]; simp⟩
    · have s1' : (n == t) = false := by simp; exact fun h => s1 h.symm
      have s2 : (t == n) = false := by simpa using s1
      rw [s2] at hq2
      simp [l0_slices_Index___string_string_, hi, e1, hx, hx1, hwr, s1']
      simpa using hq2
  · rintro e' st ⟨hq, rfl, rfl⟩
    rw [List.take_of_length_le (Nat.le_refl _)] at hq
    simp [l0_slices_Index___string_string_]
    exact ⟨_, rfl, -1, rfl, by rw [hq]; rfl⟩
theorem fn_Contains_S {l : List (List UInt8)} {o : Own} {n : List UInt8} (hl : l.length ≤ 1048576) : FnK 1048581 E (.fn n_slices_Contains___string_string_ [] []) [.sl o 1 (strs l), .str n] (.bool (inS l n)) := by
  refine FnK.byW (h_slices_Contains___string_string_ hE) rfl rfl (K := 1048580) fun k hk bl tk => ?_
  obtain ⟨k, rfl⟩ : ∃ j, k = j + 1 := ⟨k - 1, by omega⟩
  obtain ⟨r, ⟨m, rfl, hm⟩, hc⟩ := fn_Index_S hE (o := o) (n := n) hl (k := k) (by omega) { bl, tk, ro := bl.length, rt := tk.length }
  simp [F_slices_Contains___string_string_, b_slices_Contains___string_string_, hc, hm]
theorem fn_Keeps (n : List UInt8) (h : inS [[66, 114], [67, 112], [68, 103], [80, 114, 111, 117, 116], [82, 112]] n = true) : FnK 1048590 E (.fn n_builtin_Keeps [] []) [.str n] (.bool true) := by
  have hc := fn_Contains_S hE (l := [[66, 114], [67, 112], [68, 103], [80, 114, 111, 117, 116], [82, 112]]) (o := .full) (n := n) (by decide)
  rw [h] at hc
  simp only [strs, List.map_cons, List.map_nil] at hc
  refine FnK.byW (h_builtin_Keeps hE) rfl rfl (K := 1048589) fun k hk bl tk => ?_
  have hc := hc k (by omega)
  simp [F_builtin_Keeps, b_builtin_Keeps, setElems, repl, elemOfCells, hasSize, hc]
theorem fn_hasCut {key : List Tm} {v : AV} (hv : Sl key v) (hm : key.length ≤ most) : FnK (key.length + 20) E (.fn n_chiasmuslaw10_hasCut [] []) [v] (.bool (key.any isCut)) := by
  obtain ⟨o, zs, rfl, _, hz⟩ := hv
  have hzl := hz.length
  have hix := fn_Contains_api_Term_api_Term hE (o := o) (xs := zs) (rs := key.map isCut) (f := .fn n_chiasmuslaw10_hasCut_1 [] []) (by simpa using hzl.symm) (by omega) (fun x hx => by
      obtain ⟨i, hi, rfl⟩ := List.getElem_of_mem hx
      obtain ⟨t, ht⟩ : ∃ t, key[i]? = some t := ⟨_, List.getElem?_eq_getElem (by omega)⟩
      obtain ⟨y, hy, hr⟩ := hz.get ht
      rw [List.getElem?_eq_getElem hi] at hy
      cases hy
      obtain ⟨v, h, _⟩ := hr.open
      exact ⟨_, _, _, h⟩) (K := 3) (fun k hk i x b hx hb s => by
      rw [List.getElem?_map] at hb
      cases ht : key[i]? with
      | none => rw [ht] at hb; cases hb
      | some t =>
        rw [ht] at hb; cases hb
        obtain ⟨y, hy, hr⟩ := hz.get ht
        rw [hx] at hy; cases hy
        exact fn_hasCut_1 hE hr k hk s)
  refine FnK.byW (h_chiasmuslaw10_hasCut hE) rfl rfl (K := key.length + 19) fun k hk bl tk => ?_
  have hix := hix k (by omega)
  rw [show (key.map isCut).any id = key.any isCut by rw [List.any_map]; rfl] at hix
  simp [F_chiasmuslaw10_hasCut, b_chiasmuslaw10_hasCut, hix]
theorem fn_chars1 : ∃ o, o ≠ .nil ∧ (∀ t, o ≠ .tok t) ∧ FnK 8 E (.fn n_chiasmuslaw10_chars [] []) [.str [61]] (.sl o 3 [.agg [.int .i64 1, .str [61], .sl .nil 3 []]]) := by
  refine ⟨.any, by simp, by simp, FnK.byW (h_chiasmuslaw10_chars hE) rfl rfl (K := 7) fun k hk bl tk => ?_⟩
  have hmm : 1 ≤ most := by decide
  have hw1 : IntKind.wrap .i64 1 = 1 := by decide
  simp [F_chiasmuslaw10_chars, b_chiasmuslaw10_chars]
  refine wp_loop 1 (fun i e' st => (i = 0 ∧ e' = [(0, .str [61]), (3, .sl .nil 3 []), (6, .int .i64 1), (7, .int .i64 0)] ∧ st = { bl, tk, ro := bl.length, rt := tk.length }) ∨ (i = 1 ∧ e' = [(0, .str [61]), (3, .sl (.tok tk.length) 3 [.agg [.int .i64 1, .str [61], .sl .nil 3 []]]), (6, .int .i64 1), (7, .int .i64 1)] ∧ st = { bl, tk := tk ++ [1], ro := bl.length, rt := tk.length })) (by omega) (.inl ⟨rfl, rfl, rfl⟩) ?_ ?_
  · rintro i e' st hi (⟨rfl, rfl, rfl⟩ | ⟨rfl, _⟩)
    · simp [l0_chiasmuslaw10_chars, setElems, repl, elemOfCells, hasSize, sliceA, bound, appA, ysOf, AV.untokL, AV.untok, hmm, hw1]
    · omega
  · rintro e' st (⟨h, _⟩ | ⟨_, rfl, rfl⟩)
    · omega
    · simp [l0_chiasmuslaw10_chars]
end
end Ab.D

/- Equality of stores. No condition but the table. -/
namespace Ab.D
open Go Ab Go.RowKit
set_option maxRecDepth 10000
set_option linter.all false
section
variable {E : IEnv} (hE : E.fns = Table.fn table)
include hE
theorem fn_EqualS (l : List (List UInt8)) (o o' : Own) (hm : l.length ≤ most) : FnK (l.length + 4) E (.fn n_slices_Equal___string_string_ [] []) [.sl o 1 (strs l), .sl o' 1 (strs l)] (.bool true) := by
  have hmm : most = 1073741824 := rfl
  refine FnK.byW (h_slices_Equal___string_string_ hE) rfl rfl (K := l.length + 3) fun k hk bl tk => ?_
  simp [F_slices_Equal___string_string_, b_slices_Equal___string_string_]
  refine wp_loop l.length (fun i e st => e = [(0, .sl o 1 (strs l)), (1, .sl o' 1 (strs l)), (12, .int .i64 l.length), (13, .int .i64 i)] ∧ st = { bl, tk, ro := bl.length, rt := tk.length }) (by omega) ⟨rfl, rfl⟩ ?_ ?_
  · rintro i e st hi ⟨rfl, rfl⟩
    obtain ⟨t, ht⟩ : ∃ t, l[i]? = some t := ⟨_, List.getElem?_eq_getElem (by omega)⟩
    have hx := strs_get ht
    obtain ⟨hi1, hx1⟩ := List.getElem?_eq_some_iff.1 hx
    have e1 : idx (.int .i64 i) l.length = some i := idx_nat hi
    have hwr : IntKind.wrap .i64 ((i : Int) + 1) = i + 1 := wrapIn (by omega) (by omega)
    simp [l0_slices_Equal___string_string_, hi, e1, hx, hx1, hwr]
  · rintro e st ⟨rfl, rfl⟩
    simp [l0_slices_Equal___string_string_]
theorem fn_SameStore_1 {p : Bur} {x y : AV} (hx : Bu p x) (hy : Bu p y) {N : Nat} (hn : nTs p.1 ≤ N ∧ nTs p.2 ≤ N) : FnK (2 * N + 16) E (.fn n_chiasmuslaw10_SameStore_1 [] []) [x, y] (.bool true) := by
  obtain ⟨a, b, rfl, ha, hb⟩ := hx
  obtain ⟨c, d, rfl, hc, hd⟩ := hy
  have g1 := K.fn_ref_Equal hE ha hc
  have g2 := K.fn_ref_Equal hE hb hd
  rw [cmpTs_self] at g1 g2
  refine FnK.byW (h_chiasmuslaw10_SameStore_1 hE) rfl rfl (K := 2 * N + 15) fun k hk bl tk => ?_
  have g1 := g1 k (by omega)
  have g2 := g2 k (by omega)
  have q0 : ∀ (c : AB) (r : List AB), (bl ++ c :: r)[bl.length]? = some c := fun c r => by rw [append_get0]; rfl
  have q1 : ∀ (c d : AB) (r : List AB), (bl ++ c :: d :: r)[bl.length + 1]? = some d := fun c d r => by rw [append_get]; rfl
  obtain ⟨o1, y1, rfl, _⟩ := ha
  obtain ⟨o2, y2, rfl, _⟩ := hb
  obtain ⟨o3, y3, rfl, _⟩ := hc
  obtain ⟨o4, y4, rfl, _⟩ := hd
  simp [-getElem?_pos, List.getElem?_cons_zero, List.getElem?_cons_succ, F_chiasmuslaw10_SameStore_1, b_chiasmuslaw10_SameStore_1, q0, q1, g1, g2]
set_option maxHeartbeats 1000000 in
theorem fn_EqualB {ps : List Bur} {xs ys : List AV} {o o' : Own} (h : All2 Bu ps xs) (h' : All2 Bu ps ys) (hm : ps.length ≤ 1000) {N : Nat} (hn : ∀ p ∈ ps, nTs p.1 ≤ N ∧ nTs p.2 ≤ N) :
    FnK (2 * N + 1030) E (.fn n_slices_EqualFunc___api_Buried___api_Buried_api_Buried_api_Buried_ [] []) [.sl o 2 xs, .sl o' 2 ys, .fn n_chiasmuslaw10_SameStore_1 [] []] (.bool true) := by
  have hlx := h.length
  have hly := h'.length
  have hmm : most = 1073741824 := rfl
  have hne : ((xs.length : Int) != ys.length) = false := by rw [hlx, hly]; simp
  refine FnK.byW (h_slices_EqualFunc___api_Buried___api_Buried_api_Buried_api_Buried_ hE) rfl rfl (K := 2 * N + 1029) fun k hk bl tk => ?_
  simp [F_slices_EqualFunc___api_Buried___api_Buried_api_Buried_api_Buried_, b_slices_EqualFunc___api_Buried___api_Buried_api_Buried_api_Buried_, hne]
  refine wp_loop xs.length (fun i e s => ∃ g, e = [(1, .sl o' 2 ys), (2, .fn n_chiasmuslaw10_SameStore_1 [] []), (15, .sl o 2 xs), (16, .int .i64 xs.length), (17, .int .i64 i)] ∧ s = { bl := bl ++ g, tk, ro := bl.length, rt := tk.length }) (by omega) ⟨[], rfl, by simp⟩ ?_ ?_
  · rintro i e s hi ⟨g, rfl, rfl⟩
    obtain ⟨p, hp⟩ : ∃ t, ps[i]? = some t := ⟨_, List.getElem?_eq_getElem (by omega)⟩
    obtain ⟨x, hx, hxs⟩ := h.get hp
    obtain ⟨y, hy, hys⟩ := h'.get hp
    obtain ⟨hi1, hx1⟩ := List.getElem?_eq_some_iff.1 hx
    obtain ⟨hi2, hy1⟩ := List.getElem?_eq_some_iff.1 hy
    have e1 : idx (.int .i64 i) xs.length = some i := idx_nat hi1
    have e2 : idx (.int .i64 i) ys.length = some i := idx_nat hi2
    have hwr : IntKind.wrap .i64 ((i : Int) + 1) = i + 1 := wrapIn (by omega) (by omega)
    have hcl := fn_SameStore_1 hE hxs hys (hn p (List.mem_of_getElem? hp)) k (by omega)
    obtain ⟨a, b, rfl, _⟩ := hxs
    obtain ⟨c, d, rfl, _⟩ := hys
    have qa : ∀ (c : AB), (bl ++ (g ++ [c]))[bl.length + g.length]? = some c := fun c => by rw [append_get]; simp
    have sa : ∀ (c f : AB), (bl ++ (g ++ [c])).set (bl.length + g.length) f = bl ++ (g ++ [f]) := fun c f => by rw [append_set]; simp
    have qb : ∀ (c d : AB), (bl ++ (g ++ [c, d]))[bl.length + g.length]? = some c := fun c d => by rw [append_get]; simp
    have qc : ∀ (c d : AB), (bl ++ (g ++ [c, d]))[bl.length + (g.length + 1)]? = some d := fun c d => by rw [append_get]; simp
    have sc : ∀ (c d f : AB), (bl ++ (g ++ [c, d])).set (bl.length + (g.length + 1)) f = bl ++ (g ++ [c, f]) := fun c d f => by rw [append_set]; simp
    have r1 : bl.length ≤ bl.length + g.length := by omega
    have r2 : bl.length ≤ bl.length + (g.length + 1) := by omega
    simp [-getElem?_pos, List.getElem?_cons_zero, List.getElem?_cons_succ, l0_slices_EqualFunc___api_Buried___api_Buried_api_Buried_api_Buried_, hi, e1, e2, hx, hy, hx1, hy1, hwr, hcl, qa, sa, qb, qc, sc, r1, r2]
  · rintro e s ⟨g, rfl, rfl⟩
    simp [l0_slices_EqualFunc___api_Buried___api_Buried_api_Buried_api_Buried_]
theorem fn_SameStore {ps : List Bur} {os : List (List UInt8)} {v w : AV} (hv : Sto ps os v) (hw : Sto ps os w) (hm : ps.length ≤ 1000) (ho : os.length ≤ most) {N : Nat} (hn : ∀ p ∈ ps, nTs p.1 ≤ N ∧ nTs p.2 ≤ N) : FnK (2 * N + os.length + 1040) E (.fn n_chiasmuslaw10_SameStore [] []) [v, w] (.bool true) := by
  obtain ⟨ob, xs, oo, ys, rfl, hx, hy, _, _⟩ := hv
  obtain ⟨ob', xs', oo', ys', rfl, hx', hy', _, _⟩ := hw
  obtain rfl := isS_strs hy
  obtain rfl := isS_strs hy'
  refine FnK.byW (h_chiasmuslaw10_SameStore hE) rfl rfl (K := 2 * N + os.length + 1039) fun k hk bl tk => ?_
  have g1 := fn_EqualS hE os oo oo' ho k (by omega)
  have g2 := fn_EqualB hE (o := ob) (o' := ob') hx hx' hm hn k (by omega)
  have q0 : ∀ (c : AB) (r : List AB), (bl ++ c :: r)[bl.length]? = some c := fun c r => by rw [append_get0]; rfl
  have q1 : ∀ (c d : AB) (r : List AB), (bl ++ c :: d :: r)[bl.length + 1]? = some d := fun c d r => by rw [append_get]; rfl
  simp [-getElem?_pos, List.getElem?_cons_zero, List.getElem?_cons_succ, F_chiasmuslaw10_SameStore, b_chiasmuslaw10_SameStore, q0, q1, g1, g2]
end
end Ab.D

/- A built-in function that is applied. Its conditions: the table, and what the function itself does. -/
namespace Ab.D
open Go Ab Go.RowKit
set_option maxRecDepth 10000
set_option linter.all false
/- the row of a store as it is handed back -/
def rowV (l x : List AV) : AV := if l = [] ∧ x = [] then .sl .nil 2 [] else .sl .any 2 l
theorem altA {E : IEnv} {call : Caller} {n : Nat} {ord : List Nat} {p q : Nat} {bury : Bool} {ops : List IOper} {keep : List Nat} {rest : ICode} {ks : List Nat} {f : Fr} {s : St} : codeA E call n (.alt ord p q bury ops keep rest ks) f s =
    joinR bury ks f.rnd s (thenR (codeA E call n rest) (regR keep f.env (opsA E call true ops f f.env { s with ro := s.bl.length })))
      (thenR (codeA E call n rest) (regR keep f.env (opsA E call true (inOrd ord ops) f f.env { s with ro := s.bl.length }))) := by simp only [codeA]
theorem chunk_cB : ∀ (l x : List AV), (∀ y ∈ l, ∃ a b, y = .agg [a, b]) → AV.chunk 2 l.length (cB l ++ x) = l
  | [], x, _ => rfl
  | y :: l, x, h => by
    obtain ⟨a, b, rfl⟩ := h y (List.mem_cons_self ..)
    have ih := chunk_cB l x fun z hz => h z (List.mem_cons_of_mem _ hz)
    show AV.chunk 2 (l.length + 1) (a :: b :: (cB l ++ x)) = _
    simp only [AV.chunk, List.take_succ_cons, List.take_zero, List.drop_succ_cons, List.drop_zero, ih]
    rfl
theorem frzT (s : St) (lo k : Nat) (cs : List AV) : frz s lo (k + 1) (.tup cs) = .tup (cs.map (frz s lo k)) := by simp only [frz]
theorem frzA (s : St) (lo k : Nat) (cs : List AV) : frz s lo (k + 1) (.agg cs) = .agg (cs.map (frz s lo k)) := by simp only [frz]
theorem frzS (s : St) (lo k : Nat) (o : Own) (z : Nat) (ys : List AV) : frz s lo (k + 1) (.sl o z ys) = .sl o z ys := by simp only [frz]
theorem frzI (s : St) (lo k : Nat) (n : Int) : frz s lo (k + 1) (.int .i64 n) = .int .i64 n := by simp only [frz]
theorem frzM {s : St} {lo i n : Nat} (k : Nat) {xs : List AV} (h : lo ≤ i) (he : elemsA s (.msl i 0 2 n) = some xs) : frz s lo (k + 1) (.msl i 0 2 n) = .sl .any 2 (AV.untokL (xs.map (frz s lo k))) := by simp only [frz, if_pos h, he]
theorem frz_pairs (s : St) (lo k : Nat) : ∀ (l : List AV), (∀ y ∈ l, ∃ o1 y1 o2 y2, y = .agg [.sl o1 3 y1, .sl o2 3 y2]) → l.map (frz s lo (k + 1 + 1)) = l
  | [], _ => rfl
  | y :: l, h => by
    obtain ⟨o1, y1, o2, y2, rfl⟩ := h y (List.mem_cons_self ..)
    rw [List.map_cons, frz_pairs s lo k l fun z hz => h z (List.mem_cons_of_mem _ hz)]
    rw [frzA, List.map_cons, List.map_cons, List.map_nil, frzS, frzS]
theorem fin_row {lo q : Nat} {s s3 : St} {l x : List AV} {o1 o2 : Own} {y1 y2 : List AV} (hq : s3.bl[q]? = some (.cells (cB l ++ x))) (hlo : lo ≤ q) (hs : ∀ y ∈ l, ∃ o1 y1 o2 y2, y = .agg [.sl o1 3 y1, .sl o2 3 y2]) (hd : AV.dataL l = true) (hu : AV.untokL l = l) (d1 : AV.dataL y1 = true) (u1 : (AV.sl o1 3 y1).untok = .sl o1 3 y1) (d2 : AV.dataL y2 = true) (u2 : (AV.sl o2 1 y2).untok = .sl o2 1 y2) :
    finA .pure lo s s3 (.tup [.sl o1 3 y1, .agg [.msl q 0 2 l.length, .sl o2 1 y2], .int .i64 0]) = some (.tup [.sl o1 3 y1, .agg [.sl .any 2 l, .sl o2 1 y2], .int .i64 0], s) := by
  have h1 := chunk_cB l x fun y hy => by obtain ⟨a, b, c, d, h⟩ := hs y hy; exact ⟨_, _, h⟩
  have hl := cB_length l
  have hf : ∀ k, l.map (frz s3 lo (k + 1 + 1)) = l := fun k => frz_pairs s3 lo k l hs
  have he : elemsA s3 (.msl q 0 2 l.length) = some l := by
    simp only [elemsA, St.cell?, hq, List.drop_zero, h1]
    rw [if_pos]
    simp [hl]
  have hz : frz s3 lo 8 (.tup [.sl o1 3 y1, .agg [.msl q 0 2 l.length, .sl o2 1 y2], .int .i64 0]) = .tup [.sl o1 3 y1, .agg [.sl .any 2 l, .sl o2 1 y2], .int .i64 0] := by
    rw [show (8 : Nat) = 7 + 1 from rfl, frzT]
    simp only [List.map_cons, List.map_nil]
    rw [show (7 : Nat) = 6 + 1 from rfl, frzS, frzA, frzI]
    simp only [List.map_cons, List.map_nil]
    rw [show (6 : Nat) = 5 + 1 from rfl, frzM 5 hlo he, frzS, hf 3, hu]
  simp only [finA]
  rw [if_neg (by simp [AV.data, AV.dataL]), hz, if_pos (by simp [AV.data, AV.dataL, hd, d1, d2])]
  simp [AV.untok, AV.untokL, u1, u2]
section
variable {E : IEnv} (hE : E.fns = Table.fn table)
include hE
theorem apply_none {k i j m : Nat} (s : St) : callA E (k + 1) none (.fn n_builtin_Apply_1 [] [.ptr i 0, .ptr j 0, .ptr m 0]) [] s = some (.ret (.tup []), false, s) := by
  have hp : ∀ l, startA .eff none l s = s := fun l => rfl
  simp [callA, h_builtin_Apply_1 hE, F_builtin_Apply_1, b_builtin_Apply_1, runA, hp, unwindA, finA, aeq]
/- what the function does with the call under way -/
def Does (E : IEnv) (nf : Nat) (ra r : AV) (l l' x : List AV) : Prop := ∃ K, ∀ k, K ≤ k → ∀ (s : St) (i0 : Nat) (bv ov : AV), s.bl[i0]? = some (.cells [ra, bv, ov]) → s.ro ≤ i0 → RowS s l bv → (∀ j z n, bv = .msl j 0 z n → s.ro ≤ j ∧ j ≠ i0) →
  ∃ s', callA E k none (.fn nf [] []) [.ptr i0 0] s = some (.ret r, false, s') ∧ Left s s' i0 ra bv ov l' x
set_option maxHeartbeats 4000000 in
theorem fn_Apply {name : List UInt8} {nf : Nat} (hf : findA (.str name) (funM 27) = some (some (.fn nf [] []))) (hkp : inS [[66, 114], [67, 112], [68, 103], [80, 114, 111, 117, 116], [82, 112]] name = true) {v w : AV} {ra r : AV} {l l' x : List AV} {o' : Own} {os : List (List UInt8)}
    (hV : Fn E (.fn n_term_Value [] []) [v] (.int .i64 0)) (hC : Fn E (.fn n_builtin_Check [] []) [w] (.int .i64 0)) {N : Nat} (hcp : FnK N E (.fn n_term_Copy [] []) [v] ra) {o3 : Own} {y3 : List AV} (hra : ra = .sl o3 3 y3) (hrau : ra.untok = ra)
    (hw : ∃ a b, w = .agg [a, b] ∧ a.cells? = some [a] ∧ b.cells? = some [b]) (hcd : ∀ k, N ≤ k → ∀ s : St, s.ro ≤ s.bl.length → ∃ bv g, RowG s.bl.length g l bv ∧ g.all AB.isCells = true ∧
      callA E k none (.fn n_builtin_copied [] []) [w] s = some (.ret (.agg [bv, .sl o' 1 (strs os)]), false, { s with bl := s.bl ++ g }))
    (ho' : (AV.sl o' 1 (strs os)).untok = .sl o' 1 (strs os)) (hD : Does E nf ra r l l' x) (hr : ∃ o y, r = .sl o 3 y ∧ AV.dataL y = true) (hru : r.untok = r) (hl'd : AV.dataL l' = true) (hl'u : AV.untokL l' = l') (hl's : ∀ y ∈ l', ∃ o1 y1 o2 y2, y = .agg [.sl o1 3 y1, .sl o2 3 y2]) :
    Fn E (.fn n_builtin_Apply [] []) [.str name, v, w] (.tup [r, .agg [rowV l' x, .sl o' 1 (strs os)], .int .i64 0]) := by
  obtain ⟨K1, hV⟩ := hV
  obtain ⟨K2, hC⟩ := hC
  obtain ⟨K3, hD⟩ := hD
  refine ⟨K1 + K2 + K3 + N + 1048700, fun k hk s => ?_⟩
  obtain ⟨k, rfl⟩ : ∃ j, k = j + 1 := ⟨k - 1, by omega⟩
  obtain ⟨k', hk'⟩ : ∃ j, k = j + 1 := ⟨k - 1, by omega⟩
  have hV := hV k (by omega)
  have hC := hC k (by omega)
  have hcp := hcp k (by omega)
  have hKp := fn_Keeps hE name hkp k (by omega)
  obtain ⟨bl, tk, hst⟩ : ∃ bl tk, startA .pure none [.str name, v, w] s = { bl, tk, ro := bl.length, rt := tk.length } := by
    unfold startA
    split
    · exact ⟨[], [], rfl⟩
    · exact ⟨s.bl, s.tk, rfl⟩
  obtain ⟨wa, wb, rfl, hwa, hwb⟩ := hw
  have cc := c_term_Copy hE [] []
  have hfn := fn_functions hE (k := k) (by omega) { bl := bl ++ [.cells [wa, wb], .cells [.sl .nil 3 []], .cells [.sl .nil 2 [], .sl .nil 1 []], .cells [.int .i64 0]], tk, ro := bl.length, rt := tk.length } (by simp)
  simp only [List.append_assoc, List.cons_append, List.nil_append] at hfn
  have q0 : ∀ (c : AB) (r : List AB), (bl ++ c :: r)[bl.length]? = some c := fun c r => by rw [append_get0]; rfl
  have q1 : ∀ (c d : AB) (r : List AB), (bl ++ c :: d :: r)[bl.length + 1]? = some d := fun c d r => by rw [append_get]; rfl
  have q4 : ∀ (c d e f h : AB) (r : List AB), (bl ++ c :: d :: e :: f :: h :: r)[bl.length + 4]? = some h := fun c d e f h r => by rw [append_get]; rfl
  have own : ownFn E (.fn n_builtin_Apply_1 [] [.ptr (bl.length + 1) 0, .ptr (bl.length + 2) 0, .ptr (bl.length + 3) 0]) = true := by
    simp [ownFn, h_builtin_Apply_1 hE]
  obtain ⟨bv, g, hrow, hall, hcd⟩ := hcd k (by omega) { bl := bl ++ [.cells [wa, wb], .cells [.sl .nil 3 []], .cells [.sl .nil 2 [], .sl .nil 1 []], .cells [.int .i64 0], .amap (funM 27)], tk, ro := bl.length + 5, rt := tk.length } (by simp)
  simp only [List.append_assoc, List.cons_append, List.nil_append, List.length_append, List.length_cons, List.length_nil] at hcd hrow
  have hsame : AB.sameL (g ++ [.cells [ra, bv, .sl o' 1 (strs os)]]) (g ++ [.cells [ra, bv, .sl o' 1 (strs os)]]) = true := sameL_self (by rw [List.all_append, hall]; rfl)
  have hdrop : ∀ (r : List AB), (bl ++ .cells [wa, wb] :: .cells [.sl .nil 3 []] :: .cells [.sl .nil 2 [], .sl .nil 1 []] :: .cells [.int .i64 0] :: .amap (funM 27) :: r).drop (bl.length + 5) = r := fun r => by
    rw [List.drop_append, List.drop_of_length_le (by omega), List.nil_append, show bl.length + 5 - bl.length = 5 by omega]; rfl
  have hbv : ∃ c, bv.cells? = some [c] := by
    rcases hrow with ⟨_, rfl⟩ | ⟨_, q, rfl, _⟩ <;> exact ⟨_, rfl⟩
  subst hra
  obtain ⟨i0, hi0⟩ : ∃ i, i = bl.length + (g.length + 1 + 1 + 1 + 1 + 1) := ⟨_, rfl⟩
  have hB : ∀ (n : Nat) (r : List AB), (bl ++ .cells [wa, wb] :: .cells [.sl .nil 3 []] :: .cells [.sl .nil 2 [], .sl .nil 1 []] :: .cells [.int .i64 0] :: .amap (funM 27) :: r)[bl.length + 5 + n]? = r[n]? := fun n r => by
    rw [Nat.add_assoc, append_get, show 5 + n = n + 1 + 1 + 1 + 1 + 1 by omega]; simp only [List.getElem?_cons_succ]
  obtain ⟨s2, hcall, hL⟩ := hD k (by omega) { bl := bl ++ .cells [wa, wb] :: .cells [.sl .nil 3 []] :: .cells [.sl .nil 2 [], .sl .nil 1 []] :: .cells [.int .i64 0] :: .amap (funM 27) :: (g ++ [.cells [.sl o3 3 y3, bv, .sl o' 1 (strs os)]]), tk, ro := bl.length, rt := tk.length } i0 bv (.sl o' 1 (strs os))
    (by show (bl ++ _ :: _ :: _ :: _ :: _ :: (g ++ _))[i0]? = _
        rw [hi0, show bl.length + (g.length + 1 + 1 + 1 + 1 + 1) = bl.length + 5 + g.length by omega, hB, List.getElem?_append_right (Nat.le_refl _), Nat.sub_self]; rfl)
    (by show bl.length ≤ i0; omega)
    (by
      rcases hrow with h | ⟨h1, q, h2, h3⟩
      · exact .inl h
      · refine .inr ⟨h1, _, h2, ?_⟩
        show (bl ++ _ :: _ :: _ :: _ :: _ :: (g ++ _))[bl.length + 5 + q]? = _
        rw [hB, List.getElem?_append_left (List.getElem?_eq_some_iff.1 h3).1]; exact h3)
    (by
      intro j z n hj
      rcases hrow with ⟨_, h⟩ | ⟨_, q, h2, h3⟩
      · rw [h] at hj; cases hj
      · rw [h2] at hj
        simp only [AV.msl.injEq] at hj
        have := (List.getElem?_eq_some_iff.1 h3).1
        show bl.length ≤ j ∧ j ≠ i0
        omega)
  have hgi : ∀ i : Nat, i < 5 → s2.bl[bl.length + i]? = (bl ++ .cells [wa, wb] :: .cells [.sl .nil 3 []] :: .cells [.sl .nil 2 [], .sl .nil 1 []] :: .cells [.int .i64 0] :: .amap (funM 27) :: (g ++ [.cells [.sl o3 3 y3, bv, .sl o' 1 (strs os)]]))[bl.length + i]? := fun i hi => by
    refine hL.old _ ?_ (by omega) fun j z n hj => ?_
    · simp only [List.length_append, List.length_cons]; omega
    · rcases hrow with ⟨_, h⟩ | ⟨_, q, h2, h3⟩
      · rw [h] at hj; cases hj
      · rw [h2] at hj
        simp only [AV.msl.injEq] at hj
        omega
  have f6 : s2.bl[bl.length + 1]? = some (.cells [.sl .nil 3 []]) := (hgi 1 (by omega)).trans (by rw [append_get]; rfl)
  have f7 : s2.bl[bl.length + 2]? = some (.cells [.sl .nil 2 [], .sl .nil 1 []]) := (hgi 2 (by omega)).trans (by rw [append_get]; rfl)
  have f8 : s2.bl[bl.length + 3]? = some (.cells [.int .i64 0]) := (hgi 3 (by omega)).trans (by rw [append_get]; rfl)
  have hlen : bl.length + 4 < s2.bl.length := (List.getElem?_eq_some_iff.1 ((hgi 4 (by omega)).trans (by rw [append_get]; rfl) : s2.bl[bl.length + 4]? = some (.amap (funM 27)))).1
  have hro2 : s2.ro = bl.length := hL.ro
  obtain ⟨⟨bv', hc2, hcase⟩, htk2, _, hrt2, hlen2, _⟩ := hL
  obtain ⟨r1, r2, rfl, hrd⟩ := hr
  have ne1 : i0 ≠ bl.length + 1 := by omega
  have ne2 : i0 ≠ bl.length + 2 := by omega
  have k1 : ∀ X, (s2.bl.set (bl.length + 1) X)[bl.length + 1]? = some X := fun X => List.getElem?_set_self (by omega)
  have k2 : ∀ X, (s2.bl.set (bl.length + 1) X)[i0]? = some (.cells [.sl o3 3 y3, bv', .sl o' 1 (strs os)]) := fun X => by rw [List.getElem?_set_ne (fun h => ne1 h.symm)]; exact hc2
  have k3 : ∀ X, (s2.bl.set (bl.length + 1) X)[bl.length + 2]? = some (.cells [.sl .nil 2 [], .sl .nil 1 []]) := fun X => by rw [List.getElem?_set_ne (by omega)]; exact f7
  have k4 : ∀ X Y, ((s2.bl.set (bl.length + 1) X).set (bl.length + 2) Y)[bl.length + 3]? = some (.cells [.int .i64 0]) := fun X Y => by rw [List.getElem?_set_ne (by omega), List.getElem?_set_ne (by omega)]; exact f8
  have k5 : ∀ X Y Z, (((s2.bl.set (bl.length + 1) X).set (bl.length + 2) Y).set (bl.length + 3) Z)[bl.length + 1]? = some X := fun X Y Z => by rw [List.getElem?_set_ne (by omega), List.getElem?_set_ne (by omega)]; exact k1 X
  have k6 : ∀ X Y Z, (((s2.bl.set (bl.length + 1) X).set (bl.length + 2) Y).set (bl.length + 3) Z)[bl.length + 2]? = some Y := fun X Y Z => by rw [List.getElem?_set_ne (by omega)]; exact List.getElem?_set_self (by rw [List.length_set]; omega)
  have k7 : ∀ X Y Z, (((s2.bl.set (bl.length + 1) X).set (bl.length + 2) Y).set (bl.length + 3) Z)[bl.length + 3]? = some Z := fun X Y Z => List.getElem?_set_self (by rw [List.length_set, List.length_set]; omega)
  rw [hi0] at hcall k2
  have m1 : s2.ro ≤ bl.length + 1 := by omega
  have m2 : s2.ro ≤ bl.length + 2 := by omega
  have m3 : s2.ro ≤ bl.length + 3 := by omega
  have gn := fun st => apply_none hE (k := k') (i := bl.length + 1) (j := bl.length + 2) (m := bl.length + 3) st
  rw [← hk'] at gn
  rcases hcase with ⟨rfl, rfl, rfl⟩ | ⟨q, rfl, hq, hqi, hqo, hne⟩
  · rw [callA]
    simp [-getElem?_pos, List.getElem?_cons_zero, List.getElem?_cons_succ, h_builtin_Apply hE, F_builtin_Apply, b_builtin_Apply, runA, hst, q0, q1, q4, hfn, isKey, St.map?, hf, hV, hC, altA, thenR, regR, inOrd, joinR, hcp, cc, hcd, hsame, hdrop, hrau, hcall, f6, k1, k2, k3, k4, k5, k6, k7, m1, m2, m3, hKp, unwindA, own, gn, finA, hru, hrd, ho', rowV, (strs_data os).1]
  · have hq5 : bl.length + 5 ≤ q := by
      rcases hqo with h | ⟨z, n, h⟩
      · simp only [List.length_append, List.length_cons] at h; omega
      · rcases hrow with ⟨_, h'⟩ | ⟨_, q', h', _⟩
        · rw [h'] at h; cases h
        · rw [h'] at h; simp only [AV.msl.injEq] at h; omega
    have hfin : ∀ X Y Z tk ro rt, finA .pure bl.length s { bl := ((s2.bl.set (bl.length + 1) X).set (bl.length + 2) Y).set (bl.length + 3) Z, tk, ro, rt } (.tup [.sl r1 3 r2, .agg [.msl q 0 2 l'.length, .sl o' 1 (strs os)], .int .i64 0]) = some (.tup [.sl r1 3 r2, .agg [.sl .any 2 l', .sl o' 1 (strs os)], .int .i64 0], s) := fun X Y Z tk ro rt =>
      fin_row (x := x) (by
        show (((s2.bl.set _ X).set _ Y).set _ Z)[q]? = _
        rw [List.getElem?_set_ne (by omega), List.getElem?_set_ne (by omega), List.getElem?_set_ne (by omega)]; exact hq) (by omega) hl's hl'd hl'u hrd hru (strs_data os).1 ho'
    have hrv : rowV l' x = .sl .any 2 l' := by unfold rowV; rw [if_neg (by rcases hne with h | h <;> exact fun h' => by simp_all)]
    rw [callA, hrv]
    simp [-getElem?_pos, List.getElem?_cons_zero, List.getElem?_cons_succ, h_builtin_Apply hE, F_builtin_Apply, b_builtin_Apply, runA, hst, q0, q1, q4, hfn, isKey, St.map?, hf, hV, hC, altA, thenR, regR, inOrd, joinR, hcp, cc, hcd, hsame, hdrop, hrau, hcall, f6, k1, k2, k3, k4, k5, k6, k7, m1, m2, m3, hKp, unwindA, own, gn, hfin]
end
end Ab.D

/- Br, Cp, Dg, Rp that are applied. Its conditions: the table, and what the functions proved by hand answer. -/
namespace Ab.D
open Go Ab Go.RowKit
set_option maxRecDepth 10000
set_option linter.all false
theorem bu_shape {ps : List Bur} {l : List AV} (h : All2 Bu ps l) : ∀ y ∈ l, ∃ o1 y1 o2 y2, y = .agg [.sl o1 3 y1, .sl o2 3 y2] := fun y hy => by
  obtain ⟨p, _, a, b, rfl, ⟨o1, y1, rfl, _⟩, ⟨o2, y2, rfl, _⟩⟩ := h.mem hy
  exact ⟨_, _, _, _, rfl⟩
theorem bu_data : ∀ {ps : List Bur} {l : List AV}, All2 Bu ps l → AV.dataL l = true
  | [], l, h => by simp only [All2] at h; subst h; rfl
  | p :: ps, l, h => by
    simp only [All2] at h
    obtain ⟨y, r, rfl, ⟨a, b, rfl, ha, hb⟩, h2⟩ := h
    simp only [AV.dataL, AV.data, ha.data, hb.data, bu_data h2, Bool.and_self]
theorem sto_row {ps : List Bur} {os : List (List UInt8)} {l x : List AV} {o' : Own} (h : All2 Bu ps l) (ho : o' = .nil → os = []) : Sto ps os (.agg [rowV l x, .sl o' 1 (strs os)]) := by
  have hs : ∀ l : List (List UInt8), All2 IsS l (strs l) := fun l => by
    induction l with
    | nil => simp [All2, strs]
    | cons a l ih => simp only [strs, List.map_cons, All2]; exact ⟨_, _, rfl, rfl, ih⟩
  unfold rowV
  split
  · rename_i hc
    obtain ⟨rfl, _⟩ := hc
    exact ⟨_, _, _, _, rfl, h, hs os, fun _ => rfl, fun e => by rw [ho e]; rfl⟩
  · exact ⟨_, _, _, _, rfl, h, hs os, fun e => (by cases e), fun e => by rw [ho e]; rfl⟩
theorem untok_pairs {o1 o2 : Own} {y1 y2 : List AV} {l : List AV} (h1 : ∀ t, o1 ≠ .tok t) (h2 : ∀ t, o2 ≠ .tok t) (hl : AV.untokL l = l) : AV.untokL (.agg [.sl o1 3 y1, .sl o2 3 y2] :: l) = .agg [.sl o1 3 y1, .sl o2 3 y2] :: l := by
  simp only [AV.untokL, AV.untok, any_untok h1, any_untok h2, hl]
/- what all four share -/
structure Given (E : IEnv) (ps : List Bur) (os : List (List UInt8)) (w : AV) (N : Nat) : Prop where
  st : Sto ps os w
  m : ps.length ≤ 199
  o : os.length ≤ most
  b : N ≤ 100000
  n : ∀ p ∈ ps, nTs p.1 ≤ N ∧ nTs p.2 ≤ N
  c : Fn E (.fn n_builtin_Check [] []) [w] (.int .i64 0)
theorem Given.two {E : IEnv} {ps : List Bur} {os : List (List UInt8)} {w : AV} {N : Nat} (h : Given E ps os w N) : ∃ a b, w = .agg [a, b] ∧ a.cells? = some [a] ∧ b.cells? = some [b] := by
  obtain ⟨ob, xs, oo, ys, rfl, _⟩ := h.st
  exact ⟨_, _, rfl, rfl, rfl⟩
section
variable {E : IEnv} (hE : E.fns = Table.fn table)
include hE
theorem cut_copy {key value : List Tm} {v : AV} (hv : Sl (key ++ eqT :: value) v) (hc : ∀ t ∈ key, isCut t = false) (hm : nTs (key ++ eqT :: value) ≤ 100000) : ∃ o3 y3, FnK 400007 E (.fn n_term_Copy [] []) [v] (.sl o3 3 y3) ∧ (AV.sl o3 3 y3).untok = .sl o3 3 y3 ∧ Cut key value o3 y3 := by
  have hmm : most = 1073741824 := rfl
  obtain ⟨r, h1, h2, h3⟩ := fn_CopyK hE _ (Nat.lt_succ_self _) (by omega) hv
  obtain ⟨o3, y3, rfl, ⟨_, hn⟩, hz⟩ := h2
  have hl := hz.length
  have hlt := length_le_nTs (key ++ eqT :: value)
  refine ⟨o3, y3, h1.mono (by omega), h3, hc, fun e => ?_, fun t e => ?_, hz, by omega, hz.data⟩
  · have := hn e
    rw [this] at hl; simp at hl
  · rw [e] at h3; simp [AV.untok] at h3
theorem cut_sl {key value : List Tm} {o3 : Own} {y3 : List AV} (h : Cut key value o3 y3) {o2 : Own} (h2 : o2 ≠ .nil) : Sl key (.sl .any 3 (y3.take key.length)) ∧ Sl value (.sl o2 3 (y3.drop (key.length + 1))) := by
  have hx : maxLen = 9223372036854775807 := rfl
  have hm := h.m
  rw [List.length_append, List.length_cons] at hm
  have a1 := h.z.take key.length
  have a2 := h.z.drop (key.length + 1)
  rw [List.take_left] at a1
  rw [show (key ++ eqT :: value).drop (key.length + 1) = value by rw [List.drop_append, List.drop_of_length_le (by omega), List.nil_append, show key.length + 1 - key.length = 1 by omega]; rfl] at a2
  exact ⟨⟨_, _, rfl, ⟨by have := a1.length; omega, fun e => by cases e⟩, a1⟩, ⟨_, _, rfl, ⟨by have := a2.length; omega, fun e => absurd e h2⟩, a2⟩⟩
theorem apply_Br (hB : PrB E) {key value : List Tm} {v w : AV} {ps : List Bur} {os : List (List UInt8)} {N : Nat} (hv : Sl (key ++ eqT :: value) v) (hc : ∀ t ∈ key, isCut t = false) (hm : nTs (key ++ eqT :: value) ≤ 100000) (hV : Fn E (.fn n_term_Value [] []) [v] (.int .i64 0)) (hG : Given E ps os w N) :
    ∃ w', Sto ((key, value) :: ps) os w' ∧ Fn E (.fn n_builtin_Apply [] []) [.str [66, 114], v, w] (.tup [.sl .nil 3 [], w', .int .i64 0]) := by
  have hmm : most = 1073741824 := rfl
  have hN := hG.b
  obtain ⟨o3, y3, c1, c2, c3⟩ := cut_copy hE hv hc hm
  obtain ⟨l, o', l1, l2, l3, l4, l5⟩ := fn_copied hE hG.st (by have := hG.m; omega) hG.o (N := N) (by omega) hG.n
  obtain ⟨o2, b1, b2, b3⟩ := fn_bury hE hB c3
  obtain ⟨s1, s2⟩ := cut_sl hE c3 b1
  have hl' : All2 Bu ((key, value) :: ps) (.agg [.sl .any 3 (y3.take key.length), .sl o2 3 (y3.drop (key.length + 1))] :: l) := by
    simp only [All2]; exact ⟨_, _, rfl, ⟨_, _, rfl, s1, s2⟩, l1⟩
  refine ⟨_, sto_row hl' l3, fn_Apply hE (nf := n___builtin_call__bury) (l := l) (l' := _) (x := []) (N := 402000) (by rfl) (by decide) hV hG.c (c1.mono (by omega)) rfl c2 (hG.two) (fun k hk s hs => l5 k (by omega) s hs) l4 ⟨200030, fun k hk s i0 bv ov h1 h2 h3 h4 => ?_⟩ ⟨_, _, rfl, rfl⟩ rfl (bu_data hl') (untok_pairs (fun t e => by cases e) b2 l2) (bu_shape hl')⟩
  exact b3 k hk s i0 bv ov l h1 h2 h3 h4 (by have := all2_len l1; have := hG.m; omega)
theorem apply_Rp (hB : PrB E) {key value : List Tm} {v w : AV} {ps : List Bur} {os : List (List UInt8)} {N : Nat} (hv : Sl (key ++ eqT :: value) v) (hc : ∀ t ∈ key, isCut t = false) (hm : nTs (key ++ eqT :: value) ≤ 100000) (hV : Fn E (.fn n_term_Value [] []) [v] (.int .i64 0)) (hG : Given E ps os w N) :
    ∃ w', Sto (replB ps key value) os w' ∧ Fn E (.fn n_builtin_Apply [] []) [.str [82, 112], v, w] (.tup [.sl .nil 3 [], w', .int .i64 0]) := by
  have hmm : most = 1073741824 := rfl
  have hN := hG.b
  obtain ⟨o3, y3, c1, c2, c3⟩ := cut_copy hE hv hc hm
  obtain ⟨l, o', l1, l2, l3, l4, l5⟩ := fn_copied hE hG.st (by have := hG.m; omega) hG.o (N := N) (by omega) hG.n
  obtain ⟨o2, b1, b2, b3⟩ := fn_replace hE hB c3 l1 hG.m (N := N) (fun p hp => (hG.n p hp).1)
  obtain ⟨s1, s2⟩ := cut_sl hE c3 b1
  have hl' := replV_bu hE (key := key) (value := value) l1 s1 s2
  refine ⟨_, sto_row hl' l3, fn_Apply hE (nf := n___builtin_call__replace) (l := l) (l' := _) (x := []) (N := 402000) (by rfl) (by decide) hV hG.c (c1.mono (by omega)) rfl c2 (hG.two) (fun k hk s hs => l5 k (by omega) s hs) l4 ⟨200030 + 2 * N + 1100, fun k hk s i0 bv ov h1 h2 h3 h4 => b3 k hk s i0 bv ov h1 h2 h3 h4⟩ ⟨_, _, rfl, rfl⟩ rfl (bu_data hl') (replV_untok hE l1 l2 rfl (any_untok b2 _ _)) (bu_shape hl')⟩
theorem apply_Cp {key : List Tm} {v w : AV} {ps : List Bur} {os : List (List UInt8)} {N : Nat} (hv : Sl key v) (hm : nTs key ≤ 100000) (hV : Fn E (.fn n_term_Value [] []) [v] (.int .i64 0)) (hG : Given E ps os w N) :
    ∃ w' r, Sto ps os w' ∧ (match ps.findIdx? (keyIs key) with | some i => ∃ p, ps[i]? = some p ∧ Sl p.2 r | none => r = .sl .nil 3 []) ∧ Fn E (.fn n_builtin_Apply [] []) [.str [67, 112], v, w] (.tup [r, w', .int .i64 0]) := by
  have hmm : most = 1073741824 := rfl
  have hN := hG.b
  obtain ⟨ra, c1, c2, c3⟩ := fn_CopyK hE _ (Nat.lt_succ_self _) (by omega) hv
  obtain ⟨l, o', l1, l2, l3, l4, l5⟩ := fn_copied hE hG.st (by have := hG.m; omega) hG.o (N := N) (by omega) hG.n
  obtain ⟨r, r1, r2, r3⟩ := fn_copyC hE l1 (by have := hG.m; omega) (N := N) (by omega) hG.n c2
  have hr : ∃ o y, r = .sl o 3 y ∧ AV.dataL y = true := by
    cases hf : ps.findIdx? (keyIs key) with
    | none => rw [hf] at r2; exact ⟨_, _, r2, rfl⟩
    | some i => rw [hf] at r2; obtain ⟨p, _, o, y, rfl, _, hz⟩ := r2; exact ⟨_, _, rfl, hz.data⟩
  have c2' := c2
  obtain ⟨o3, y3, rfl, _⟩ := c2'
  refine ⟨_, r, sto_row l1 l3, r2, fn_Apply hE (nf := n___builtin_call__copy) (l := l) (l' := l) (x := []) (N := 402000) (by rfl) (by decide) hV hG.c (c1.mono (by omega)) rfl c3 (hG.two) (fun k hk s hs => l5 k (by omega) s hs) l4 ⟨4 * N + 2000, fun k hk s i0 bv ov h1 h2 h3 h4 => ⟨s, r3 k hk s i0 bv ov h1 h3, ?_⟩⟩ hr r1 (bu_data l1) l2 (bu_shape l1)⟩
  refine ⟨⟨_, h1, ?_⟩, rfl, rfl, rfl, Nat.le_refl _, fun _ _ _ _ => rfl⟩
  rcases h3 with ⟨e1, e2⟩ | ⟨hne, j, rfl, hjq⟩
  · exact .inl ⟨e1, rfl, e2⟩
  · exact .inr ⟨j, rfl, by rw [List.append_nil]; exact hjq, (h4 j 2 _ rfl).2, .inr ⟨_, _, rfl⟩, .inl hne⟩
theorem apply_Dg (hB : PrB E) {key : List Tm} {v w : AV} {ps : List Bur} {os : List (List UInt8)} {N : Nat} (hv : Sl key v) (hm : nTs key ≤ 100000) (hV : Fn E (.fn n_term_Value [] []) [v] (.int .i64 0)) (hG : Given E ps os w N) :
    ∃ w' r, Sto (digB ps key) os w' ∧ (match ps.findIdx? (keyIs key) with | some i => ∃ p, ps[i]? = some p ∧ Sl p.2 r | none => r = .sl .nil 3 []) ∧ Fn E (.fn n_builtin_Apply [] []) [.str [68, 103], v, w] (.tup [r, w', .int .i64 0]) := by
  have hmm : most = 1073741824 := rfl
  have hN := hG.b
  obtain ⟨ra, c1, c2, c3⟩ := fn_CopyK hE _ (Nat.lt_succ_self _) (by omega) hv
  obtain ⟨l, o', l1, l2, l3, l4, l5⟩ := fn_copied hE hG.st (by have := hG.m; omega) hG.o (N := N) (by omega) hG.n
  obtain ⟨r, l', x, r1, r4, r5, r2, r3⟩ := fn_dig hE hB c2 l1 (by have := hG.m; omega) (N := N) (by omega) hG.n l2
  have hr : ∃ o y, r = .sl o 3 y ∧ AV.dataL y = true := by
    cases hf : ps.findIdx? (keyIs key) with
    | none => rw [hf] at r2; exact ⟨_, _, r2, rfl⟩
    | some i => rw [hf] at r2; obtain ⟨p, _, o, y, rfl, _, hz⟩ := r2; exact ⟨_, _, rfl, hz.data⟩
  have c2' := c2
  obtain ⟨o3, y3, rfl, _⟩ := c2'
  refine ⟨_, r, sto_row r4 l3, r2, fn_Apply hE (nf := n___builtin_call__dig) (l := l) (l' := l') (x := x) (N := 402000) (by rfl) (by decide) hV hG.c (c1.mono (by omega)) rfl c3 (hG.two) (fun k hk s hs => l5 k (by omega) s hs) l4 ⟨4 * N + 2010, fun k hk s i0 bv ov h1 h2 h3 h4 => r3 k hk s i0 bv ov h1 h2 h3 h4⟩ hr r1 (bu_data r4) r5 (bu_shape r4)⟩
end
end Ab.D

/- Stores as lists: what stays, what is found. No condition. -/
namespace Ab.D
open Go Ab Go.RowKit
set_option linter.all false
theorem errB_iff : ∀ ps : List Bur, errB ps = 0 ↔ ∀ p ∈ ps, checkT 4 p.1 = 0 ∧ checkT 4 p.2 = 0
  | [] => by simp [errB]
  | p :: ps => by
    simp only [errB, List.forall_mem_cons]
    by_cases h1 : checkT 4 p.1 = 0
    · by_cases h2 : checkT 4 p.2 = 0
      · simp [h1, h2, errB_iff ps]
      · simp [h1, h2]
    · simp [h1]
theorem checkT_small {ts : List Tm} {k : Int} (h : checkT k ts = 0) : nTs ts ≤ 4000 := by
  unfold checkT at h
  split at h
  · cases h
  · omega
theorem checkB_zero {ps : List Bur} {os : List (List UInt8)} (h : checkB ps os = 0) : ps.length ≤ 200 ∧ os.length ≤ 200 ∧ ∀ p ∈ ps, checkT 4 p.1 = 0 ∧ checkT 4 p.2 = 0 := by
  unfold checkB at h
  split at h
  · cases h
  · rename_i hc
    exact ⟨by omega, by omega, (errB_iff ps).1 h⟩
theorem checkB_of {ps : List Bur} {os : List (List UInt8)} (h1 : ps.length ≤ 200) (h2 : os.length ≤ 200) (h3 : ∀ p ∈ ps, checkT 4 p.1 = 0 ∧ checkT 4 p.2 = 0) : checkB ps os = 0 := by
  unfold checkB
  rw [if_neg (by omega)]
  exact (errB_iff ps).2 h3
theorem keyIs_iff {key : List Tm} {p : Bur} : keyIs key p = true ↔ p.1 = key := by
  simp only [keyIs, beq_iff_eq, cmpTs_iff]
theorem find_cons (key value : List Tm) (ps : List Bur) : ((key, value) :: ps).findIdx? (keyIs key) = some 0 := by
  have h : keyIs key (key, value) = true := keyIs_iff.2 rfl
  simp [List.findIdx?_cons, h]
theorem dig_cons (key value : List Tm) (ps : List Bur) : digB ((key, value) :: ps) key = ps := by
  unfold digB; rw [find_cons]; rfl
theorem repl_mem {ps : List Bur} {key value : List Tm} {p : Bur} (h : p ∈ replB ps key value) : p ∈ ps ∨ (p.1 = key ∧ p.2 = value) := by
  unfold replB at h
  cases hf : ps.findIdx? (keyIs key) with
  | none =>
    rw [hf] at h
    rcases List.mem_cons.1 h with rfl | h
    · exact .inr ⟨rfl, rfl⟩
    · exact .inl h
  | some i =>
    rw [hf] at h
    rcases List.mem_or_eq_of_mem_set h with h | rfl
    · exact .inl h
    · obtain ⟨hi, hk, _⟩ := List.findIdx?_eq_some_iff_getElem.1 hf
      rw [List.getElem?_eq_getElem hi]
      exact .inr ⟨keyIs_iff.1 hk, rfl⟩
theorem repl_len (ps : List Bur) (key value : List Tm) : (replB ps key value).length ≤ ps.length + 1 := by
  unfold replB
  split
  · simp
  · simp
theorem find_repl (ps : List Bur) (key value : List Tm) : ∃ i, (replB ps key value).findIdx? (keyIs key) = some i ∧ (replB ps key value)[i]? = some (key, value) := by
  unfold replB
  cases hf : ps.findIdx? (keyIs key) with
  | none => exact ⟨0, find_cons key value ps, rfl⟩
  | some i =>
    obtain ⟨hi, hk, hlt⟩ := List.findIdx?_eq_some_iff_getElem.1 hf
    have hk1 := keyIs_iff.1 hk
    refine ⟨i, ?_, ?_⟩
    · refine List.findIdx?_eq_some_iff_getElem.2 ⟨by simpa using hi, ?_, fun j hj => ?_⟩
      · simp only [List.getElem_set_self]
        rw [List.getElem?_eq_getElem hi]
        exact keyIs_iff.2 hk1
      · rw [List.getElem_set_ne (by omega)]
        exact hlt j hj
    · show (ps.set i _)[i]? = _
      rw [List.getElem?_set_self hi, List.getElem?_eq_getElem hi]
      simp only [Option.getD_some, hk1]
theorem filter_set {α : Type} (q : α → Bool) : ∀ (l : List α) (i : Nat) (x y : α), l[i]? = some x → q x = false → q y = false → (l.set i y).filter q = l.filter q
  | [], i, x, y, h, _, _ => by simp at h
  | a :: l, 0, x, y, h, h1, h2 => by
    simp at h; subst h
    simp [h1, h2]
  | a :: l, i + 1, x, y, h, h1, h2 => by
    simp at h
    simp only [List.set_cons_succ, List.filter_cons, filter_set q l i x y h h1 h2]
theorem get_repl {ps : List Bur} {key value other : List Tm} (h : other ≠ key) : getB (replB ps key value) other = getB ps other := by
  have hno : ∀ v, keyIs other (key, v) = false := fun v => by
    cases hk : keyIs other (key, v) with
    | false => rfl
    | true => exact absurd (keyIs_iff.1 hk).symm h
  unfold replB getB
  cases hf : ps.findIdx? (keyIs key) with
  | none => simp [List.filter_cons, hno]
  | some i =>
    obtain ⟨hi, hk, _⟩ := List.findIdx?_eq_some_iff_getElem.1 hf
    have hk1 := keyIs_iff.1 hk
    have hg := List.getElem?_eq_getElem hi
    have e : ps[i] = (key, ps[i].2) := by rw [← hk1]
    simp only [hg, Option.getD_some, hk1]
    rw [filter_set (keyIs other) ps i ps[i] (key, value) hg (by rw [e]; exact hno _) (hno _)]
end Ab.D

/- BuiltinStacks where its guards hold it back. No condition but the table. -/
namespace Ab.D
open Go Ab Go.RowKit
set_option maxRecDepth 10000
set_option linter.all false
def cloV (o : Own) (z T : Nat) (ys : List AV) : AV := if o = .nil then .sl .nil z [] else outG .full z T ys
theorem finA_keepG {z lo : Nat} {s s' : St} {ys : List AV} (hd : AV.dataL ys = true) (ht : s'.tk = outT s.tk ys) : finA .keep lo s s' (outG .full z s.tk.length ys) = some (outG .full z s.tk.length ys, { s with tk := outT s.tk ys }) := by
  by_cases h : ys = []
  · subst h; simp [finA, outG, outT, AV.data, AV.untok]
  · simp only [outG, if_neg h, outT] at ht ⊢
    simp [finA, AV.data, hd, ht]
theorem aeq_nil {o : Own} (ho : o ≠ .nil) (z z' : Nat) (xs : List AV) : aeq .slice (.sl o z xs) (.sl .nil z' []) = some false := by
  cases o <;> first | rfl | exact absurd rfl ho
section
variable {E : IEnv} (hE : E.fns = Table.fn table)
include hE
theorem fn_CloneT {ts : List Tm} {ys : List AV} (hes : Rts ts ys) {o : Own} (hn : o = .nil → ys = []) (hl : ys.length ≤ most) {k : Nat} (hk : 1 ≤ k) (s : St) :
    callA E k none (.fn n_slices_Clone___api_Term_api_Term_ [] []) [.sl o 3 ys] s = some (.ret (cloV o 3 s.tk.length (AV.untokL ys)), false, { s with tk := outT s.tk (AV.untokL ys) }) := by
  obtain ⟨k, rfl⟩ : ∃ j, k = j + 1 := ⟨k - 1, by omega⟩
  have hd : AV.dataL (AV.untokL ys) = true := hes.untokL.data
  obtain ⟨v, s', h1, rfl, rfl⟩ := call_byW (h_slices_Clone___api_Term_api_Term_ hE) (first := []) (caps := []) (args := [.sl o 3 ys]) rfl (k := k) (s := s) (Post := fun v s' => v = cloV o 3 s.tk.length (AV.untokL ys) ∧ s' = { s with tk := outT s.tk (AV.untokL ys) }) (by
    by_cases ho : o = .nil
    · have h0 := hn ho
      subst ho; subst h0
      simp [F_slices_Clone___api_Term_api_Term_, b_slices_Clone___api_Term_api_Term_, s0Of, aeq, finA, cloV, AV.data, AV.untok]
    · have ha := aeq_nil ho 3 3 ys
      have a1 := fun b => app_outG (o0 := .full) (.inr rfl) (bl := b) (tk := s.tk) (ro := s.bl.length) (rt := s.tk.length) (z := 3) (ys := []) (zs := ys) (o := o) (by simpa using hl) (Nat.le_refl _)
      simp only [outT_nil, outG_nil, List.nil_append] at a1
      simp [F_slices_Clone___api_Term_api_Term_, b_slices_Clone___api_Term_api_Term_, s0Of, ha, setElems, repl, elemOfCells, hasSize, a1]
      rw [finA_keepG hd rfl]
      simp [cloV, ho])
  exact h1
/- what the law asks ahead -/
structure Ahead (E : IEnv) (B0 B1 B2 B3 B4 : Bool) (c0 c1 c2 c3 : Int) (w v1 v2 v3 : AV) : Prop where
  a : Fn E (.fn n_chiasmuslaw10_awake [] []) [] (.bool true)
  s : Fn E (.fn n_chiasmuslaw10_SmallStore [] []) [w] (.bool B0)
  k : Fn E (.fn n_chiasmuslaw10_Small [] []) [v1] (.bool B1)
  v : Fn E (.fn n_chiasmuslaw10_Small [] []) [v2] (.bool B2)
  o : Fn E (.fn n_chiasmuslaw10_Small [] []) [v3] (.bool B3)
  h : Fn E (.fn n_chiasmuslaw10_hasCut [] []) [v1] (.bool B4)
  c0 : Fn E (.fn n_builtin_Check [] []) [w] (.int .i64 c0)
  c1 : Fn E (.fn n_term_Value [] []) [v1] (.int .i64 c1)
  c2 : Fn E (.fn n_term_Value [] []) [v2] (.int .i64 c2)
  c3 : Fn E (.fn n_term_Value [] []) [v3] (.int .i64 c3)
theorem law_held {B0 B1 B2 B3 B4 : Bool} {c0 c1 c2 c3 : Int} {v1 v2 v3 : AV} {ob oo : Own} {xs ys : List AV} (hA : Ahead E B0 B1 B2 B3 B4 c0 c1 c2 c3 (.agg [.sl ob 2 xs, .sl oo 1 ys]) v1 v2 v3) (h : ¬ (B0 = true ∧ xs.length ≤ 150 ∧ B1 = true ∧ B2 = true ∧ B3 = true ∧ B4 = false)) :
    Fn E (.fn n_chiasmuslaw10_BuiltinStacks [] []) [.agg [.sl ob 2 xs, .sl oo 1 ys], v1, v2, v3] (.bool true) := by
  obtain ⟨⟨K0, h0⟩, ⟨K1, h1⟩, ⟨K2, h2⟩, ⟨K3, h3⟩, ⟨K4, h4⟩, ⟨K5, h5⟩, _⟩ := hA
  have e4 : calm E (.fn n_chiasmuslaw10_awake [] []) = true := c_chiasmuslaw10_awake hE [] []
  refine Fn.byW (h_chiasmuslaw10_BuiltinStacks hE) rfl rfl ⟨K0 + K1 + K2 + K3 + K4 + K5, fun k hk bl tk => ?_⟩
  have f0 := h0 k (by omega)
  have f1 := h1 k (by omega)
  have f2 := h2 k (by omega)
  have f3 := h3 k (by omega)
  have f4 := h4 k (by omega)
  have f5 := h5 k (by omega)
  cases B0 with
  | false => simp [F_chiasmuslaw10_BuiltinStacks, b_chiasmuslaw10_BuiltinStacks, append_get, append_get0, f0, f1]
  | true =>
    by_cases hx : xs.length ≤ 150
    · have hx' : ¬ ((150 : Int) < xs.length) := by omega
      cases B1 with
      | false => simp [F_chiasmuslaw10_BuiltinStacks, b_chiasmuslaw10_BuiltinStacks, append_get, append_get0, f0, f1, f2, hx']
      | true =>
        cases B2 with
        | false => simp [F_chiasmuslaw10_BuiltinStacks, b_chiasmuslaw10_BuiltinStacks, append_get, append_get0, f0, f1, f2, f3, hx']
        | true =>
          cases B3 with
          | false => simp [F_chiasmuslaw10_BuiltinStacks, b_chiasmuslaw10_BuiltinStacks, append_get, append_get0, f0, f1, f2, f3, f4, hx']
          | true =>
            cases B4 with
            | true => simp [F_chiasmuslaw10_BuiltinStacks, b_chiasmuslaw10_BuiltinStacks, append_get, append_get0, f0, f1, f2, f3, f4, f5, hx']
            | false => exact absurd ⟨rfl, hx, rfl, rfl, rfl, rfl⟩ h
    · have hx' : (150 : Int) < xs.length := by omega
      simp [F_chiasmuslaw10_BuiltinStacks, b_chiasmuslaw10_BuiltinStacks, append_get, append_get0, f0, f1, hx']
theorem law_wrong {c0 c1 c2 c3 : Int} {v1 v2 v3 : AV} {ob oo : Own} {xs ys : List AV} (hA : Ahead E true true true true false c0 c1 c2 c3 (.agg [.sl ob 2 xs, .sl oo 1 ys]) v1 v2 v3) (hx : xs.length ≤ 150) (h : ¬ (c0 = 0 ∧ c1 = 0 ∧ c2 = 0 ∧ c3 = 0)) :
    Fn E (.fn n_chiasmuslaw10_BuiltinStacks [] []) [.agg [.sl ob 2 xs, .sl oo 1 ys], v1, v2, v3] (.bool true) := by
  obtain ⟨⟨K0, h0⟩, ⟨K1, h1⟩, ⟨K2, h2⟩, ⟨K3, h3⟩, ⟨K4, h4⟩, ⟨K5, h5⟩, ⟨K6, h6⟩, ⟨K7, h7⟩, ⟨K8, h8⟩, ⟨K9, h9⟩⟩ := hA
  refine Fn.byW (h_chiasmuslaw10_BuiltinStacks hE) rfl rfl ⟨K0 + K1 + K2 + K3 + K4 + K5 + K6 + K7 + K8 + K9, fun k hk bl tk => ?_⟩
  have f0 := h0 k (by omega)
  have f1 := h1 k (by omega)
  have f2 := h2 k (by omega)
  have f3 := h3 k (by omega)
  have f4 := h4 k (by omega)
  have f5 := h5 k (by omega)
  have f6 := h6 k (by omega)
  have f7 := h7 k (by omega)
  have f8 := h8 k (by omega)
  have f9 := h9 k (by omega)
  have hx' : ¬ ((150 : Int) < xs.length) := by omega
  by_cases z0 : c0 = 0
  · by_cases z1 : c1 = 0
    · by_cases z2 : c2 = 0
      · have z3 : ¬ c3 = 0 := fun z3 => h ⟨z0, z1, z2, z3⟩
        simp [F_chiasmuslaw10_BuiltinStacks, b_chiasmuslaw10_BuiltinStacks, append_get, append_get0, f0, f1, f2, f3, f4, f5, f6, f7, f8, f9, hx', z0, z1, z2, (show (c3 != 0) = true by simpa using z3)]
      · simp [F_chiasmuslaw10_BuiltinStacks, b_chiasmuslaw10_BuiltinStacks, append_get, append_get0, f0, f1, f2, f3, f4, f5, f6, f7, f8, hx', z0, z1, (show (c2 != 0) = true by simpa using z2)]
    · simp [F_chiasmuslaw10_BuiltinStacks, b_chiasmuslaw10_BuiltinStacks, append_get, append_get0, f0, f1, f2, f3, f4, f5, f6, f7, hx', z0, (show (c1 != 0) = true by simpa using z1)]
  · simp [F_chiasmuslaw10_BuiltinStacks, b_chiasmuslaw10_BuiltinStacks, append_get, append_get0, f0, f1, f2, f3, f4, f5, f6, hx', (show (c0 != 0) = true by simpa using z0)]
end
end Ab.D

/- BuiltinStacks where its guards let it go on: from what its calls answer. No condition but the table. -/
namespace Ab.D
open Go Ab Go.RowKit
set_option maxRecDepth 10000
set_option linter.all false
theorem call_st0 {E : IEnv} {f : Nat} {F : IFn} (hF : E.fns f = some F) (hm : F.mode = .pure) {args : List AV} (hn : ([] ++ args ++ []).length = F.np) {k : Nat} {v : AV}
    (h : wp E (callA E k) k false F.body (finW F.res v) (envOf 0 ([] ++ args ++ [])) { bl := [], tk := [], ro := 0, rt := 0 }) : callA E (k + 1) none (.fn f [] []) args st0 = some (.ret v, false, st0) := by
  have hst : startA .pure none ([] ++ args ++ []) st0 = { bl := [], tk := [], ro := 0, rt := 0 } := by
    unfold startA; split <;> rfl
  obtain ⟨o, e', s1, h1, ho, vs, h2, h3, h4⟩ := wp_run h
  have hfin : finA .pure ([] : List AB).length st0 s1 (resOne vs) = some (v, st0) := by
    simp only [finA]
    rw [if_pos h3, h4]
  rcases ho with rfl | rfl <;> simp only [callA, hF, runA, hn, ne_eq, not_true_eq_false, if_false, hm, hst, h1, outPan, unwindA, h2, hfin]
/- what the calls answer behind the guards -/
structure Said (E : IEnv) (Z k2 : List AV) (V1 V2 : AV) (t1 t2 t3 : List Nat) (o2 oc : Own) (c4 : Int) (v1 : AV) : Prop where
  cl : ∀ k, 1 ≤ k → ∀ B ro, callA E k none (.fn n_slices_Clone___api_Term_api_Term_ [] []) [v1] { bl := B, tk := [], ro, rt := 0 } = some (.ret V1, false, { bl := B, tk := t1, ro, rt := 0 })
  ch : Fn E (.fn n_chiasmuslaw10_chars [] []) [.str [61]] (.sl oc 3 [.agg [.int .i64 1, .str [61], .sl .nil 3 []]])
  a1 : ∀ B ro, appA { bl := B, tk := t1, ro, rt := 0 } 3 V1 (.sl oc 3 [.agg [.int .i64 1, .str [61], .sl .nil 3 []]]) = some (V2, { bl := B, tk := t2, ro, rt := 0 })
  a2 : ∀ B ro, appA { bl := B, tk := t2, ro, rt := 0 } 3 V2 (.sl o2 3 k2) = some (.sl (.tok 0) 3 Z, { bl := B, tk := t3, ro, rt := 0 })
  c4 : Fn E (.fn n_term_Value [] []) [.sl (.tok 0) 3 Z] (.int .i64 c4)
set_option maxHeartbeats 2000000 in
theorem law_arg {E : IEnv} (hE : E.fns = Table.fn table) {c4 : Int} {v1 v3 : AV} {ob oo o2 oc : Own} {xs ys Z k2 : List AV} {V1 V2 : AV} {t1 t2 t3 : List Nat} (hA : Ahead E true true true true false 0 0 0 0 (.agg [.sl ob 2 xs, .sl oo 1 ys]) v1 (.sl o2 3 k2) v3) (hx : xs.length ≤ 150)
    (hS : Said E Z k2 V1 V2 t1 t2 t3 o2 oc c4 v1) (hc : c4 ≠ 0) :
    ∃ k, callA E k none (.fn n_chiasmuslaw10_BuiltinStacks [] []) [.agg [.sl ob 2 xs, .sl oo 1 ys], v1, .sl o2 3 k2, v3] st0 = some (.ret (.bool true), false, st0) := by
  obtain ⟨⟨K0, h0⟩, ⟨K1, h1⟩, ⟨K2, h2⟩, ⟨K3, h3⟩, ⟨K4, h4⟩, ⟨K5, h5⟩, ⟨K6, h6⟩, ⟨K7, h7⟩, ⟨K8, h8⟩, ⟨K9, h9⟩⟩ := hA
  obtain ⟨cl, ⟨Ka, ch⟩, a1, a2, ⟨Kb, hc4⟩⟩ := hS
  obtain ⟨k, hk⟩ : ∃ k, k = K0 + K1 + K2 + K3 + K4 + K5 + K6 + K7 + K8 + K9 + Ka + Kb + 1 := ⟨_, rfl⟩
  refine ⟨k + 1, call_st0 (h_chiasmuslaw10_BuiltinStacks hE) rfl rfl ?_⟩
  have f0 := h0 k (by omega)
  have f1 := h1 k (by omega)
  have f2 := h2 k (by omega)
  have f3 := h3 k (by omega)
  have f4 := h4 k (by omega)
  have f5 := h5 k (by omega)
  have f6 := h6 k (by omega)
  have f7 := h7 k (by omega)
  have f8 := h8 k (by omega)
  have f9 := h9 k (by omega)
  have fcl := cl k (by omega)
  have fch := ch k (by omega)
  have fc4 := hc4 k (by omega)
  have hx' : ¬ ((150 : Int) < xs.length) := by omega
  simp [F_chiasmuslaw10_BuiltinStacks, b_chiasmuslaw10_BuiltinStacks, f0, f1, f2, f3, f4, f5, f6, f7, f8, f9, fcl, fch, a1, a2, fc4, hx', (show (c4 != 0) = true by simpa using hc)]
structure Goes (E : IEnv) (Z : List AV) (w1 w2 w3 w4 w5 r1 r2 r3 v1 v2 v3 w : AV) (b : Bool) (x y : AV) : Prop where
  br : Fn E (.fn n_builtin_Apply [] []) [.str [66, 114], .sl (.tok 0) 3 Z, w] (.tup [.sl .nil 3 [], w1, .int .i64 0])
  cp : Fn E (.fn n_builtin_Apply [] []) [.str [67, 112], v1, w1] (.tup [r1, w2, .int .i64 0])
  dg : Fn E (.fn n_builtin_Apply [] []) [.str [68, 103], v1, w1] (.tup [r2, w3, .int .i64 0])
  e1 : Fn E (.fn n_chiasmusref01_Equal [] []) [r1, v2] (.bool true)
  e2 : Fn E (.fn n_chiasmusref01_Equal [] []) [r2, v2] (.bool true)
  s1 : Fn E (.fn n_chiasmuslaw10_SameStore [] []) [w1, w2] (.bool true)
  s2 : Fn E (.fn n_chiasmuslaw10_SameStore [] []) [w3, w] (.bool true)
  rp : Fn E (.fn n_builtin_Apply [] []) [.str [82, 112], .sl (.tok 0) 3 Z, w] (.tup [.sl .nil 3 [], w4, .int .i64 0])
  cq : Fn E (.fn n_builtin_Apply [] []) [.str [67, 112], v1, w4] (.tup [r3, w5, .int .i64 0])
  e3 : Fn E (.fn n_chiasmusref01_Equal [] []) [r3, v2] (.bool true)
  e4 : Fn E (.fn n_chiasmusref01_Equal [] []) [v3, v1] (.bool b)
  g1 : b = false → Fn E (.fn n_builtin_Get [] []) [w, v3] (.tup [x, .int .i64 0])
  g2 : b = false → Fn E (.fn n_builtin_Get [] []) [w4, v3] (.tup [y, .int .i64 0])
  ef : b = false → Fn E (.fn n_slices_EqualFunc_____api_Term_____api_Term___api_Term___api_Term_ [] []) [x, y, .fn n_chiasmuslaw10_BuiltinStacks_1 [] []] (.bool true)
abbrev stv (o1 : Own) (l1 : List AV) (o2 : Own) (l2 : List AV) : AV := .agg [.sl o1 2 l1, .sl o2 1 l2]
set_option maxHeartbeats 4000000 in
theorem law_goes {E : IEnv} (hE : E.fns = Table.fn table) {v1 v3 : AV} {ob oo o2 oc : Own} {xs ys Z k2 : List AV} {V1 V2 : AV} {t1 t2 t3 : List Nat} (hA : Ahead E true true true true false 0 0 0 0 (.agg [.sl ob 2 xs, .sl oo 1 ys]) v1 (.sl o2 3 k2) v3) (hx : xs.length ≤ 150)
    (hS : Said E Z k2 V1 V2 t1 t2 t3 o2 oc 0 v1) {p1 p2 p3 p4 p5 q1 q2 q3 q4 q5 : Own} {x1 x2 x3 x4 x5 y1 y2 y3 y4 y5 : List AV} {r1 r2 r3 x y : AV} {b : Bool}
    (hG : Goes E Z (.agg [.sl p1 2 x1, .sl q1 1 y1]) (.agg [.sl p2 2 x2, .sl q2 1 y2]) (.agg [.sl p3 2 x3, .sl q3 1 y3]) (.agg [.sl p4 2 x4, .sl q4 1 y4]) (.agg [.sl p5 2 x5, .sl q5 1 y5]) r1 r2 r3 v1 (.sl o2 3 k2) v3 (.agg [.sl ob 2 xs, .sl oo 1 ys]) b x y) :
    ∃ k, callA E k none (.fn n_chiasmuslaw10_BuiltinStacks [] []) [.agg [.sl ob 2 xs, .sl oo 1 ys], v1, .sl o2 3 k2, v3] st0 = some (.ret (.bool true), false, st0) := by
  obtain ⟨⟨K0, h0⟩, ⟨K1, h1⟩, ⟨K2, h2⟩, ⟨K3, h3⟩, ⟨K4, h4⟩, ⟨K5, h5⟩, ⟨K6, h6⟩, ⟨K7, h7⟩, ⟨K8, h8⟩, ⟨K9, h9⟩⟩ := hA
  obtain ⟨cl, ⟨Ka, ch⟩, a1, a2, ⟨Kb, hc4⟩⟩ := hS
  obtain ⟨⟨L1, br⟩, ⟨L2, cp⟩, ⟨L3, dg⟩, ⟨L4, e1⟩, ⟨L5, e2⟩, ⟨L6, s1⟩, ⟨L7, s2⟩, ⟨L8, rp⟩, ⟨L9, cq⟩, ⟨La, e3⟩, ⟨Lb, e4⟩, g1, g2, ef⟩ := hG
  have c1 : calm E (.fn n_chiasmuslaw10_awake [] []) = true := c_chiasmuslaw10_awake hE [] []
  have c2 : calm E (.fn n_chiasmusref01_Equal [] []) = true := c_chiasmusref01_Equal hE [] []
  have c3 : calm E (.fn n_chiasmuslaw10_SameStore [] []) = true := c_chiasmuslaw10_SameStore hE [] []
  have c4 : calm E (.fn n_slices_EqualFunc_____api_Term_____api_Term___api_Term___api_Term_ [] []) = true := c_slices_EqualFunc_____api_Term_____api_Term___api_Term___api_Term_ hE [] []
  cases b with
  | true =>
    obtain ⟨k, hk⟩ : ∃ k, k = K0 + K1 + K2 + K3 + K4 + K5 + K6 + K7 + K8 + K9 + Ka + Kb + L1 + L2 + L3 + L4 + L5 + L6 + L7 + L8 + L9 + La + Lb + 1 := ⟨_, rfl⟩
    refine ⟨k + 1, call_st0 (h_chiasmuslaw10_BuiltinStacks hE) rfl rfl ?_⟩
    have f0 := h0 k (by omega)
    have f1 := h1 k (by omega)
    have f2 := h2 k (by omega)
    have f3 := h3 k (by omega)
    have f4 := h4 k (by omega)
    have f5 := h5 k (by omega)
    have f6 := h6 k (by omega)
    have f7 := h7 k (by omega)
    have f8 := h8 k (by omega)
    have f9 := h9 k (by omega)
    have fcl := cl k (by omega)
    have fch := ch k (by omega)
    have fc4 := hc4 k (by omega)
    have m1 := br k (by omega)
    have m2 := cp k (by omega)
    have m3 := dg k (by omega)
    have m4 := e1 k (by omega)
    have m5 := e2 k (by omega)
    have m6 := s1 k (by omega)
    have m7 := s2 k (by omega)
    have m8 := rp k (by omega)
    have m9 := cq k (by omega)
    have ma := e3 k (by omega)
    have mb := e4 k (by omega)
    have hx' : ¬ ((150 : Int) < xs.length) := by omega
    simp [F_chiasmuslaw10_BuiltinStacks, b_chiasmuslaw10_BuiltinStacks, f0, f1, f2, f3, f4, f5, f6, f7, f8, f9, fcl, fch, a1, a2, fc4, hx', m1, m2, m3, m4, m5, m6, m7, m8, m9, ma, mb, c1, c2, c3, c4]
  | false =>
    obtain ⟨Lc, g1⟩ := g1 rfl
    obtain ⟨Ld, g2⟩ := g2 rfl
    obtain ⟨Le, ef⟩ := ef rfl
    obtain ⟨k, hk⟩ : ∃ k, k = K0 + K1 + K2 + K3 + K4 + K5 + K6 + K7 + K8 + K9 + Ka + Kb + L1 + L2 + L3 + L4 + L5 + L6 + L7 + L8 + L9 + La + Lb + Lc + Ld + Le + 1 := ⟨_, rfl⟩
    refine ⟨k + 1, call_st0 (h_chiasmuslaw10_BuiltinStacks hE) rfl rfl ?_⟩
    have f0 := h0 k (by omega)
    have f1 := h1 k (by omega)
    have f2 := h2 k (by omega)
    have f3 := h3 k (by omega)
    have f4 := h4 k (by omega)
    have f5 := h5 k (by omega)
    have f6 := h6 k (by omega)
    have f7 := h7 k (by omega)
    have f8 := h8 k (by omega)
    have f9 := h9 k (by omega)
    have fcl := cl k (by omega)
    have fch := ch k (by omega)
    have fc4 := hc4 k (by omega)
    have m1 := br k (by omega)
    have m2 := cp k (by omega)
    have m3 := dg k (by omega)
    have m4 := e1 k (by omega)
    have m5 := e2 k (by omega)
    have m6 := s1 k (by omega)
    have m7 := s2 k (by omega)
    have m8 := rp k (by omega)
    have m9 := cq k (by omega)
    have ma := e3 k (by omega)
    have mb := e4 k (by omega)
    have mc := g1 k (by omega)
    have md := g2 k (by omega)
    have me := ef k (by omega)
    have hx' : ¬ ((150 : Int) < xs.length) := by omega
    simp [F_chiasmuslaw10_BuiltinStacks, b_chiasmuslaw10_BuiltinStacks, f0, f1, f2, f3, f4, f5, f6, f7, f8, f9, fcl, fch, a1, a2, fc4, hx', m1, m2, m3, m4, m5, m6, m7, m8, m9, ma, mb, mc, md, me, c1, c2, c3, c4]
end Ab.D
