/- BuiltinStacks answers true. Its conditions: the table, and what the functions proved by hand answer. -/
import Derived.Test.YtengohlmonphiaaGreatDoorAb13
import Derived.Test.YtengohlmonphiaaGreatDoorAb12
import Derived.Test.YtengohlmonphiaaGreatDoorAb09
import Derived.KernelRfl
import Derived.Test.YtengohlmonphiaaGreatDoorAb10
import Derived.WalkKit
import Derived.Lib.Walk
import Derived.Lib.SliceRun
import Derived.Lib.AppendZerosOnto
import Derived.Laws.Externs
import Derived.Laws.IdiomCopy
import Derived.Laws.NewBlocks
import Derived.Deep.LoopGhost
import Derived.Deep.RegionLaw
import Derived.Test.YtengohlmonphiaaGreatDoorProg
import Derived.Shelf.RegionOpenPlain
set_option linter.all false
namespace Ab.D
open Go Ab Go.RowKit
set_option maxRecDepth 10000
set_option linter.all false
theorem sto_shape {ps : List Bur} {os : List (List UInt8)} {w : AV} (h : Sto ps os w) : ∃ ob xs oo ys, w = .agg [.sl ob 2 xs, .sl oo 1 ys] ∧ xs.length = ps.length := by
  obtain ⟨ob, xs, oo, ys, rfl, h1, _⟩ := h
  exact ⟨ob, xs, oo, ys, rfl, all2_len h1⟩
abbrev E1 : AV := .agg [.int .i64 1, .str [61], .sl .nil 3 []]
theorem rts_arg {key value : List Tm} {k1 k2 : List AV} (h1 : Rts key k1) (h2 : Rts value k2) : Rts (key ++ eqT :: value) (AV.untokL k1 ++ [E1] ++ AV.untokL k2) := by
  rw [List.append_assoc]
  refine h1.untokL.append ?_
  show Rts (eqT :: value) (E1 :: AV.untokL k2)
  simp only [Rts, Rt, eqT]
  exact ⟨_, _, rfl, ⟨.nil, [], rfl, ⟨by simp, fun _ => rfl⟩, by simp only [Rts]⟩, h2.untokL⟩
theorem sls_len : ∀ {l : List (List Tm)} {xs : List AV}, Sls l xs → xs.length = l.length := fun h => all2_len h
section
variable {E : IEnv} (hE : E.fns = Table.fn table)
include hE
theorem said {key value : List Tm} {o1 o2 : Own} {k1 k2 : List AV} (h1 : Sl key (.sl o1 3 k1)) (h2 : Sl value (.sl o2 3 k2)) (hm : nTs key + nTs value ≤ 4000000) {c4 : Int} (hc : ∀ {v : AV}, Sl (key ++ eqT :: value) v → Fn E (.fn n_term_Value [] []) [v] (.int .i64 c4)) :
    ∃ oc V1 V2 t1 t2 t3, Said E (AV.untokL k1 ++ [E1] ++ AV.untokL k2) k2 V1 V2 t1 t2 t3 o2 oc c4 (.sl o1 3 k1) ∧ Sl (key ++ eqT :: value) (.sl (.tok 0) 3 (AV.untokL k1 ++ [E1] ++ AV.untokL k2)) := by
  have hmm : most = 1073741824 := rfl
  have hmx : maxLen = 9223372036854775807 := rfl
  obtain ⟨oc, _, _, hch⟩ := fn_chars1 hE
  obtain ⟨_, _, e, ⟨_, hn1⟩, hr1⟩ := h1
  cases e
  obtain ⟨_, _, e, ⟨_, hn2⟩, hr2⟩ := h2
  cases e
  have l1 := hr1.length
  have l2 := hr2.length
  have m1 := length_le_nTs key
  have m2 := length_le_nTs value
  have u1 := AV.untokL_length k1
  have u2 := AV.untokL_length k2
  have hz := rts_arg hr1 hr2
  have hsl : Sl (key ++ eqT :: value) (.sl (.tok 0) 3 (AV.untokL k1 ++ [E1] ++ AV.untokL k2)) := by
    refine ⟨_, _, rfl, ⟨?_, fun e => by cases e⟩, hz⟩
    have := hz.length
    simp only [List.length_append, List.length_cons] at this ⊢
    omega
  obtain ⟨o0, ho0, hcl⟩ : ∃ o0 : Own, (o0 = .nil ∨ o0 = .full) ∧ ∀ T, cloV o1 3 T (AV.untokL k1) = outG o0 3 T (AV.untokL k1) := by
    by_cases ho : o1 = .nil
    · refine ⟨.nil, .inl rfl, fun T => ?_⟩
      rw [show k1 = [] from hn1 ho]
      simp [cloV, ho, AV.untokL]
    · exact ⟨.full, .inr rfl, fun T => by simp [cloV, ho]⟩
  refine ⟨oc, outG o0 3 0 (AV.untokL k1), outG o0 3 0 (AV.untokL k1 ++ [E1]), outT [] (AV.untokL k1), outT [] (AV.untokL k1 ++ [E1]), outT [] (AV.untokL k1 ++ [E1] ++ AV.untokL k2), ⟨fun k hk B ro => ?_, ⟨_, hch⟩, fun B ro => ?_, fun B ro => ?_, hc hsl⟩, hsl⟩
  · have := fn_CloneT hE hr1 hn1 (by omega) hk { bl := B, tk := [], ro, rt := 0 }
    rw [this, hcl]; rfl
  · exact app_outG ho0 (bl := B) (tk := []) (ro := ro) (rt := 0) (z := 3) (ys := AV.untokL k1) (zs := [E1]) (o := oc) (by simp only [List.length_cons, List.length_nil]; omega) (Nat.le_refl _)
  · have := app_outG ho0 (bl := B) (tk := []) (ro := ro) (rt := 0) (z := 3) (ys := AV.untokL k1 ++ [E1]) (zs := k2) (o := o2) (by simp only [List.length_append, List.length_cons, List.length_nil]; omega) (Nat.le_refl _)
    have hne : AV.untokL k1 ++ [E1] ++ AV.untokL k2 ≠ [] := by simp
    rw [show outG o0 3 ([] : List Nat).length (AV.untokL k1 ++ [E1] ++ AV.untokL k2) = .sl (.tok 0) 3 (AV.untokL k1 ++ [E1] ++ AV.untokL k2) by unfold outG; rw [if_neg hne]; rfl] at this
    exact this
theorem given {ps : List Bur} {os : List (List UInt8)} {w : AV} (hst : Sto ps os w) (h1 : ps.length ≤ 199) (h2 : os.length ≤ 200) (h3 : ∀ p ∈ ps, checkT 4 p.1 = 0 ∧ checkT 4 p.2 = 0) {M : Nat} (hM : M ≤ maxLen) (hS : ShortS M ps) : Given E ps os w 4000 := by
  have hmm : most = 1073741824 := rfl
  have hn : ∀ p ∈ ps, nTs p.1 ≤ 4000 ∧ nTs p.2 ≤ 4000 := fun p hp => ⟨checkT_small (h3 p hp).1, checkT_small (h3 p hp).2⟩
  have hc := fn_Check hE (ps := ps) (os := os) ⟨by omega, by omega, fun p hp => ⟨by have := (hn p hp).1; omega, by have := (hn p hp).2; omega⟩⟩ hM (fun p hp => ⟨by have := (hn p hp).1; omega, by have := (hn p hp).2; omega⟩) hS hst
  rw [checkB_of (by omega) h2 h3] at hc
  exact ⟨hst, h1, by omega, by omega, hn, hc⟩
theorem get_of {ps : List Bur} {os : List (List UInt8)} {w : AV} (hst : Sto ps os w) (h1 : ps.length ≤ 200) (h2 : os.length ≤ 200) (h3 : ∀ p ∈ ps, checkT 4 p.1 = 0 ∧ checkT 4 p.2 = 0) {M : Nat} (hM : M ≤ maxLen) (hS : ShortS M ps) {key : List Tm} {v : AV} (hv : Sl key v) (hc : checkT 4 key = 0) (hk : Shorts M key) :
    ∃ o rs, Sls (getB ps key) rs ∧ (getB ps key).length ≤ most ∧ Fn E (.fn n_builtin_Get [] []) [w, v] (.tup [.sl o 1 rs, .int .i64 0]) := by
  have hmm : most = 1073741824 := rfl
  have hn : ∀ p ∈ ps, nTs p.1 ≤ 4000 ∧ nTs p.2 ≤ 4000 := fun p hp => ⟨checkT_small (h3 p hp).1, checkT_small (h3 p hp).2⟩
  have hg := fn_Get hE (ps := ps) (os := os) ⟨by omega, by omega, fun p hp => ⟨by have := (hn p hp).1; omega, by have := (hn p hp).2; omega⟩⟩ hM (fun p hp => ⟨by have := (hn p hp).1; omega, by have := (hn p hp).2; omega⟩) hS hst hv (by have := checkT_small hc; omega) hk
  rw [if_neg (by rw [checkB_of h1 h2 h3]; simp), if_neg (by rw [hc]; simp)] at hg
  obtain ⟨rs, q1, q2⟩ := hg
  obtain ⟨o, e, _⟩ := endV_sl 1 rs
  rw [e] at q2
  refine ⟨o, rs, q1, ?_, q2⟩
  have hf : (getB ps key).length ≤ ps.length := by unfold getB; rw [List.length_map]; exact List.length_filter_le _ _
  omega
theorem law_run (hB : PrB E) (ha : Fn E (.fn n_chiasmuslaw10_awake [] []) [] (.bool true)) {ps : List Bur} {os : List (List UInt8)} {key value other : List Tm} {w v1 v2 v3 : AV} (hw : Sto ps os w) (h1 : Sl key v1) (h2 : Sl value v2) (h3 : Sl other v3)
    (hm : szS ps os) {M : Nat} (hM : M ≤ 1048576) (hn : ∀ p ∈ ps, nTs p.1 < most ∧ nTs p.2 < most) (hS : ShortS M ps) (n1 : nTs key ≤ 1048576) (n2 : nTs value ≤ 1048576) (n3 : nTs other ≤ 1048576) (S1 : Shorts M key) (S2 : Shorts M value) (S3 : Shorts M other) :
    ∃ k, callA E k none (.fn n_chiasmuslaw10_BuiltinStacks [] []) [w, v1, v2, v3] st0 = some (.ret (.bool true), false, st0) := by
  have hmm : most = 1073741824 := rfl
  have hmx : maxLen = 9223372036854775807 := rfl
  have hS1 := fn_SmallStore hE hm hw
  have hk := fn_Small hE (by omega) h1
  have hv := fn_Small hE (by omega) h2
  have ho := fn_Small hE (by omega) h3
  have hh := fn_hasCut hE h1 (by have := length_le_nTs key; omega)
  have c0 := fn_Check hE hm (by omega) hn hS hw
  have c1 := fn_Value hE h1 (by omega) (by omega) S1
  have c2 := fn_Value hE h2 (by omega) (by omega) S2
  have c3 := fn_Value hE h3 (by omega) (by omega) S3
  obtain ⟨ob, xs, oo, ys, rfl, hlx⟩ := sto_shape hw
  have hA : Ahead E _ _ _ _ _ _ _ _ _ (.agg [.sl ob 2 xs, .sl oo 1 ys]) v1 v2 v3 := ⟨ha, hS1, hk, hv, ho, ⟨_, hh⟩, c0, c1, c2, c3⟩
  by_cases hg : smallS ps os = true ∧ xs.length ≤ 150 ∧ (decide (ndL 300 0 key ≤ 300) && shortL key) = true ∧ (decide (ndL 300 0 value ≤ 300) && shortL value) = true ∧ (decide (ndL 300 0 other ≤ 300) && shortL other) = true ∧ key.any isCut = false
  · obtain ⟨z0, z1, z2, z3, z4, z5⟩ := hg
    rw [z0, z2, z3, z4, z5] at hA
    by_cases hz : checkB ps os = 0 ∧ checkT 4 key = 0 ∧ checkT 4 value = 0 ∧ checkT 4 other = 0
    · obtain ⟨y0, y1, y2, y3⟩ := hz
      rw [y0, y1, y2, y3] at hA
      obtain ⟨p1, p2, p3⟩ := checkB_zero y0
      have t1 := checkT_small y1
      have t2 := checkT_small y2
      have t3 := checkT_small y3
      have hcut : ∀ t ∈ key, isCut t = false := fun t ht => by
        cases hc : isCut t with
        | false => rfl
        | true => rw [List.any_eq_true.2 ⟨t, ht, hc⟩] at z5; cases z5
      have hMx : M ≤ maxLen := by omega
      have hN : nTs (key ++ eqT :: value) ≤ 100000 := by
        rw [nTs_append]; simp only [nTs, eqT, nT]; omega
      have hSa : ∀ t ∈ preS (key ++ eqT :: value), t.text.length ≤ max M 1 := fun t ht => by
        rw [preS_append, preS_cons] at ht
        rcases List.mem_append.1 ht with ht | ht
        · have := S1 t ht; omega
        · rcases List.mem_cons.1 ht with rfl | ht
          · show ([61] : List UInt8).length ≤ _
            simp only [List.length_cons, List.length_nil]; omega
          · rcases List.mem_append.1 ht with ht | ht
            · simp [eqT, Tm.kids, preS] at ht
            · have := S2 t ht; omega
      obtain ⟨o1, k1, rfl⟩ : ∃ o xs, v1 = .sl o 3 xs := by obtain ⟨o, xs, h, _⟩ := h1; exact ⟨o, xs, h⟩
      obtain ⟨o2, k2, rfl⟩ : ∃ o xs, v2 = .sl o 3 xs := by obtain ⟨o, xs, h, _⟩ := h2; exact ⟨o, xs, h⟩
      obtain ⟨oc, V1, V2, tk1, tk2, tk3, hSd, hsl⟩ := said hE h1 h2 (by omega) (c4 := checkT 4 (key ++ eqT :: value)) (fun hv => fn_Value hE hv (by omega) (M := max M 1) (by omega) hSa)
      by_cases y4 : checkT 4 (key ++ eqT :: value) = 0
      · have hV := hSd.c4
        rw [y4] at hSd hV
        have hps : ps.length ≤ 150 := by omega
        have hG0 := given hE hw (by omega) p2 p3 hMx hS
        obtain ⟨w1, s1, b1⟩ := apply_Br hE hB hsl hcut hN hV hG0
        have hS1' : ShortS M ((key, value) :: ps) := fun p hp => by
          rcases List.mem_cons.1 hp with rfl | hp
          · exact ⟨S1, S2⟩
          · exact hS p hp
        have hp1 : ∀ p ∈ (key, value) :: ps, checkT 4 p.1 = 0 ∧ checkT 4 p.2 = 0 := fun p hp => by
          rcases List.mem_cons.1 hp with rfl | hp
          · exact ⟨y1, y2⟩
          · exact p3 p hp
        have hG1 := given hE s1 (by simp only [List.length_cons]; omega) p2 hp1 hMx hS1'
        rw [y1] at c1
        obtain ⟨w2, r1, s2, q1, b2⟩ := apply_Cp hE h1 (by omega) c1 hG1
        obtain ⟨w3, r2, s3, q2, b3⟩ := apply_Dg hE hB h1 (by omega) c1 hG1
        rw [find_cons] at q1 q2
        rw [dig_cons] at s3
        obtain ⟨p, hp, q1⟩ := q1
        cases hp
        obtain ⟨p, hp, q2⟩ := q2
        cases hp
        have e1 := fn_ref_Equal hE q1 h2
        have e2 := fn_ref_Equal hE q2 h2
        rw [show (cmpTs value value == 0) = true by rw [cmpTs_self]; rfl] at e1 e2
        have sm1 := fn_SameStore hE s1 s2 (by simp only [List.length_cons]; omega) (by omega) hG1.n
        have sm2 := fn_SameStore hE s3 hw (by omega) (by omega) hG0.n
        obtain ⟨w4, s4, b4⟩ := apply_Rp hE hB hsl hcut hN hV hG0
        have hrl := repl_len ps key value
        have hS4 : ShortS M (replB ps key value) := fun p hp => by
          rcases repl_mem hp with hp | ⟨h5, h6⟩
          · exact hS p hp
          · rw [h5, h6]; exact ⟨S1, S2⟩
        have hp4 : ∀ p ∈ replB ps key value, checkT 4 p.1 = 0 ∧ checkT 4 p.2 = 0 := fun p hp => by
          rcases repl_mem hp with hp | ⟨h5, h6⟩
          · exact p3 p hp
          · rw [h5, h6]; exact ⟨y1, y2⟩
        have hG4 := given hE s4 (by omega) p2 hp4 hMx hS4
        obtain ⟨w5, r3, s5, q3, b5⟩ := apply_Cp hE h1 (by omega) c1 hG4
        obtain ⟨i, hi1, hi2⟩ := find_repl ps key value
        rw [hi1] at q3
        obtain ⟨p, hp, q3⟩ := q3
        rw [hi2] at hp
        cases hp
        have e3 := fn_ref_Equal hE q3 h2
        rw [show (cmpTs value value == 0) = true by rw [cmpTs_self]; rfl] at e3
        have e4 := fn_ref_Equal hE h3 h1
        obtain ⟨og, xg, g1, g2, g3⟩ := get_of hE hw (by omega) p2 p3 hMx hS h3 y3 S3
        obtain ⟨oh, xh, i1, i2, i3⟩ := get_of hE s4 (by omega) p2 hp4 hMx hS4 h3 y3 S3
        obtain ⟨p1, x1, r1', y1', rfl, _⟩ := sto_shape s1
        obtain ⟨p2', x2, r2', y2', rfl, _⟩ := sto_shape s2
        obtain ⟨p3', x3, r3', y3', rfl, _⟩ := sto_shape s3
        obtain ⟨p4, x4, r4', y4', rfl, _⟩ := sto_shape s4
        obtain ⟨p5, x5, r5', y5', rfl, _⟩ := sto_shape s5
        exact law_goes hE hA z1 hSd ⟨b1, b2, b3, e1, e2, ⟨_, sm1⟩, ⟨_, sm2⟩, b4, b5, e3, e4, fun _ => g3, fun _ => i3, fun hb => by
          have hne : other ≠ key := fun e => by
            rw [e, cmpTs_self] at hb; cases hb
          rw [get_repl hne] at i1
          exact fn_EqualSls hE g1 i1 g2⟩
      · obtain ⟨k, hk⟩ := law_arg hE hA z1 hSd y4
        exact ⟨k, hk⟩
    · obtain ⟨o2, k2, rfl⟩ : ∃ o xs, v2 = .sl o 3 xs := by obtain ⟨o, xs, h, _⟩ := h2; exact ⟨o, xs, h⟩
      obtain ⟨K, hK⟩ := law_wrong hE hA z1 hz
      exact ⟨K, hK K (Nat.le_refl _) st0⟩
  · obtain ⟨K, hK⟩ := law_held hE hA hg
    exact ⟨K, hK K (Nat.le_refl _) st0⟩
end
end Ab.D

/- The functions that are proved by hand, as the abstract machine's table. No condition. -/
namespace Ab.D
open Go Ab Go.RowKit
set_option linter.all false
def insP : List AV → St → Option (AV × St)
  | [v, .int .i64 k, .sl .full 2 [.agg [a, b]]], s => if k = 0 then (match v with
    | .sl .nil 2 [] => some (.msl s.bl.length 0 2 1, s.push (.cells [a, b]))
    | .msl j 0 2 n => (match s.bl[j]? with
      | some (.cells cs) => if s.ro ≤ j ∧ cs.length = n * 2 ∧ 0 < n ∧ n ≤ 1000 then some (.msl s.bl.length 0 2 (n + 1), (s.setb j .dead).push (.cells (a :: b :: cs))) else none
      | _ => none)
    | _ => none) else none
  | _, _ => none
def delP : List AV → St → Option (AV × St)
  | [.msl j 0 2 n, .int .i64 i, .int .i64 i'], s => (match s.bl[j]? with
    | some (.cells cs) => if s.ro ≤ j ∧ cs.length = n * 2 ∧ n ≤ 1000 ∧ 0 ≤ i ∧ i < n ∧ i' = i + 1 then some (.msl j 0 2 (n - 1), s.setb j (.cells (cs.take (i.toNat * 2) ++ cs.drop ((i.toNat + 1) * 2) ++ [.sl .nil 3 [], .sl .nil 3 []]))) else none
    | _ => none)
  | _, _ => none
def primsD (f : Nat) (args : List AV) (s : St) : Option (AV × St) :=
  if f = n_slices_Insert___api_Buried_api_Buried_ then insP args s else if f = n_slices_Delete___api_Buried_api_Buried_ then delP args s else none
def EP : IEnv := { fns := Table.fn table, glob := fun _ => .junk, prim := fun _ _ => none, eff := fun f => f == n_slices_Insert___api_Buried_api_Buried_ || f == n_slices_Delete___api_Buried_api_Buried_, prims := primsD }
set_option maxRecDepth 100000 in
theorem no_ins : EP.fns n_slices_Insert___api_Buried_api_Buried_ = none := rfl
set_option maxRecDepth 100000 in
theorem no_del : EP.fns n_slices_Delete___api_Buried_api_Buried_ = none := rfl
theorem cB_take : ∀ (l : List AV) (i : Nat), (cB l).take (i * 2) = cB (l.take i)
  | [], i => by simp [cB]
  | x :: l, 0 => by simp [cB]
  | x :: l, i + 1 => by
    have := cB_take l i
    simp only [cB] at this
    simp only [cB, List.flatMap_cons, List.take_succ_cons, ← this]
    rw [show (i + 1) * 2 = i * 2 + 1 + 1 by omega]
    simp
theorem cB_drop : ∀ (l : List AV) (i : Nat), (cB l).drop (i * 2) = cB (l.drop i)
  | [], i => by simp [cB]
  | x :: l, 0 => by simp [cB]
  | x :: l, i + 1 => by
    have := cB_drop l i
    simp only [cB] at this
    simp only [cB, List.flatMap_cons, List.drop_succ_cons, ← this]
    rw [show (i + 1) * 2 = i * 2 + 1 + 1 by omega]
    simp
theorem prB : PrB EP where
  ins := by
    intro l v a b s hrow hro hl _ _ _ _ _ _ k
    simp only [callA, no_ins, List.nil_append, List.append_nil]
    have he : EP.eff n_slices_Insert___api_Buried_api_Buried_ = true := rfl
    have hp : EP.prims n_slices_Insert___api_Buried_api_Buried_ [v, .int .i64 0, .sl .full 2 [.agg [a, b]]] s = some (.msl s.bl.length 0 2 (l.length + 1), insS s v (cB (.agg [a, b] :: l))) := by
      show insP [v, .int .i64 0, .sl .full 2 [.agg [a, b]]] s = _
      rcases hrow with ⟨rfl, rfl⟩ | ⟨hne, j, rfl, hj⟩
      · rfl
      · have h0 : 0 < l.length := List.length_pos_iff.2 hne
        simp only [insP, if_true, hj]
        rw [if_pos ⟨hro _ _ _ rfl, cB_length l, h0, hl⟩]
        rfl
    simp only [he, hp, if_true, Option.isSome_none, Bool.false_eq_true, if_false]
  del := by
    intro l j i s hj hro hl hi k
    simp only [callA, no_del, List.nil_append, List.append_nil]
    have he : EP.eff n_slices_Delete___api_Buried_api_Buried_ = true := rfl
    have hp : EP.prims n_slices_Delete___api_Buried_api_Buried_ [.msl j 0 2 l.length, .int .i64 i, .int .i64 (i + 1)] s = some (.msl j 0 2 (l.length - 1), s.setb j (.cells (cB (l.eraseIdx i) ++ [.sl .nil 3 [], .sl .nil 3 []]))) := by
      show delP [.msl j 0 2 l.length, .int .i64 i, .int .i64 (i + 1)] s = _
      simp only [delP, hj]
      rw [if_pos ⟨hro, cB_length l, hl, by omega, by omega, trivial⟩]
      rw [Int.toNat_natCast, cB_take, cB_drop, ← cB_append, ← List.eraseIdx_eq_take_drop_succ]
    simp only [he, hp, if_true, Option.isSome_none, Bool.false_eq_true, if_false]
end Ab.D

/- The law's closed example: the machine's text is run by the kernel. No condition but the table. -/
namespace Ab.D
open Go Ab
set_option maxRecDepth 100000
theorem awake0 (j : Nat) (bl : List AB) (tk : List Nat) (ro rt : Nat) : callA EP (j + 200) none (.fn n_chiasmuslaw10_awake [] []) [] { bl, tk, ro, rt } = some (.ret (.bool true), false, { bl, tk, ro, rt }) := by kernel_rfl
theorem fn_awake : FnK 200 EP (.fn n_chiasmuslaw10_awake [] []) [] (.bool true) := fun k hk s => by
  obtain ⟨j, rfl⟩ : ∃ j, k = j + 200 := ⟨k - 200, by omega⟩
  obtain ⟨bl, tk, ro, rt⟩ := s
  exact awake0 j bl tk ro rt
end Ab.D

/- What an abstract call comes to in the machine, from any state. Its conditions: functions are as the given texts say; hand-proved functions do what is said of them. -/
namespace Ab
open Go Go.RowKit
variable {P : Program} {L : Link} {E : IEnv}
theorem calls_st (hE : EnvOk P L E) {f : Nat} {n : Nat} {args : List AV} {v : AV} {rd : Bool} {s s' : St} (h : callA E n none (.fn f [] []) args s = some (.ret v, rd, s')) (hf : (E.fns f).isSome = true) {g : Gh} {w : World} (hs : StR L.toLk (CkR P L) g s w) (hgl : GlR L E g w) {cargs : List Value} (ha : RepL L.toLk g w args cargs) :
    Calls P (L.fnOf f) cargs.toArray w fun e w' => ∃ cv g', e = .returned cv ∧ StR L.toLk (CkR P L) g' s' w' ∧ Ext g s w g' s' w' ∧ Rep L.toLk g' w' v cv := by
  cases n with
  | zero => simp [callA] at h
  | succ n =>
    cases hF : E.fns f with
    | none => rw [hF] at hf; cases hf
    | some F =>
      simp only [callA, hF, List.nil_append, List.append_nil] at h
      intro cs
      obtain ⟨g', w', fn, fr, cv, h0, h1, h2, h3, h4, h5, h6, h7, h8, a1, a2, a3⟩ := run_sim hE.inj (call_sim hE n) (calm_call n) (hE.fns f F hF) h hs hgl ha .normal cs (.inl rfl)
      have hrec : rd = false := by
        cases hr : rd with
        | false => rfl
        | true => have := (h7 hr).1; cases this
      rw [hrec] at h8
      exact ⟨.returned cv, w', fr, ⟨cv, g', rfl, h1, h2, a1⟩, h8, h3, a2, h5, h4, fn, by rw [h3]; exact h0, a3⟩
end Ab

/- Functions proved by hand: the world ahead and behind. No condition but what is told. -/
namespace Ab
open Go Go.RowKit
variable {P : Program} {L : Link} {E : IEnv} {C : CodeR}
theorem repL_g0 {g : Gh} {s : St} {w w1 : World} (hs : StR L.toLk C g s w) (hh : w1.heap = w.heap) {args : List AV} {cargs : List Value} (hd : AV.dataL args = true) (ha : RepL L.toLk g w args cargs) : RepL L.toLk (g0 w1) w1 (AV.untokL args) cargs :=
  RepL.untok true (fun e => by cases e) (fun b o hi => ⟨by show b < w1.heap.size; rw [hh]; exact hs.immIn b o hi, cell?_congr (by rw [hh]) o⟩) args cargs (fun _ => hd) ha
theorem gl_g0 {E' : IEnv} (hj : ∀ n, E.glob n = .junk) {g : Gh} {s : St} {w w1 : World} (hs : StR L.toLk C g s w) (hgl : GlR L E' g w) (hh : w1.heap = w.heap) (h1 : w1.os = w.os) (h2 : w1.tape = w.tape) (h3 : w1.output = w.output) : GlR L E (g0 w1) w1 where
  glob n := by rw [hj n]; simp [Rep]
  plain n := .inl (hj n)
  base := by show _ ≤ w1.heap.size; rw [hh]; exact Nat.le_trans hgl.base hs.baseIn
  below := hgl.below.trans ⟨h1, h2, h3, by rw [hh]; exact Nat.le_refl _, fun k _ => by rw [hh]⟩
theorem Ext.below {g g' : Gh} {s s' : St} {w w' : World} (x : Ext g s w g' s' w') : Below g.base w w' := ⟨x.os, x.tape, x.out, x.size, x.old⟩
theorem below_same {B : Nat} {w w1 w2 : World} (hh : w1.heap = w.heap) (h1 : w1.os = w.os) (h2 : w1.tape = w.tape) (h3 : w1.output = w.output) (hb : Below B w1 w2) : Below B w w2 :=
  ⟨hb.os.trans h1, hb.tape.trans h2, hb.output.trans h3, by rw [← hh]; exact hb.size, fun k hk => by rw [← hh]; exact hb.block k hk⟩
/- what lies behind the old end is never written again -/
theorem StR.shutNew {g : Gh} {s : St} {w w' : World} (hs : StR L.toLk C g s w) (hb : Below w.heap.size w w') :
    StR L.toLk C (g.shut fun b => w.heap.size ≤ b ∧ b < w'.heap.size) s w' ∧ Ext g s w (g.shut fun b => w.heap.size ≤ b ∧ b < w'.heap.size) s w' := by
  obtain ⟨h1, x1⟩ := hs.below hb
  have hge := GE.shut g (fun b => w.heap.size ≤ b ∧ b < w'.heap.size) w'
  refine ⟨⟨h1.bl, h1.tk, fun i b x hi hx => (h1.blocks i b x hi hx).mono hge rfl, h1.inj, ?_, h1.blBase, fun t T hT => ?_, h1.tokInj, ?_, h1.baseIn, h1.dfr, h1.lps, h1.ro, h1.rt⟩,
    x1.trans ⟨hge, fun _ h => h, rfl, fun _ _ => rfl, Nat.le_refl _, rfl, rfl, rfl, rfl, rfl, fun _ _ => rfl, fun _ _ => rfl, fun _ _ _ _ => rfl, ?_⟩⟩
  · rintro i b o hi (h | h)
    · exact h1.sep i b o hi h
    · have := hs.lt hi; omega
  · have T1 := h1.toks t T hT
    obtain ⟨c, e, fz, h2, _⟩ := (hs.toks t T hT).space
    have hlt := lt_of_heap h2
    exact ⟨T1.spot, T1.space, T1.top, fun o ho h => h.elim (T1.free o ho) fun h => by omega, T1.own, T1.base⟩
  · rintro b o (h | h)
    · exact h1.immIn b o h
    · exact h.2
  · rintro b o hlt (h | h)
    · exact h
    · have := hs.baseIn; omega
/- a slice that bears its row's token: its row is its own -/
theorem tok_own {g : Gh} {s : St} {w : World} (h : StR L.toLk C g s w) {t z : Nat} {xs : List AV} (htk : s.tk[t]? = some xs.length) {v : Value} (hr : Rep L.toLk g w (.sl (.tok t) z xs) v) (hne : xs ≠ []) (hz : 0 < z) :
    ∃ blk off cap vs, v = .slice (some ⟨blk, off, none⟩) xs.length cap ∧ g.base ≤ blk ∧ blk < w.heap.size ∧ xs.length ≤ cap ∧ RepL L.toLk g w xs vs ∧
      ∀ j c, (flat vs)[j]? = some c → w.cell? ⟨blk, off + j, none⟩ = some c ∧ w.frozen? ⟨blk, off + j, none⟩ = false := by
  simp only [Rep] at hr
  obtain ⟨a, cap, vs, rfl, hc, hu, hvs, hsz, hl, ho⟩ := hr
  simp only [OwnOk] at ho
  obtain ⟨ha, T, hT, h1, h2⟩ := ho
  have htop : T.top = xs.length := by
    have := h.tk
    have h3 : (g.tk.map (·.top))[t]? = some xs.length := by rw [this]; exact htk
    rw [List.getElem?_map, hT] at h3
    simpa using h3
  obtain ⟨rfl, rfl, rfl⟩ := h2 htop
  obtain ⟨s1, s2, s3, s4, s5, s6⟩ := h.toks t T hT
  obtain ⟨c, e, fz, k1, k2, k3⟩ := s2
  obtain ⟨⟨blk, off, spot⟩, tcap, tsz, top⟩ := T
  simp only at s1 k1 k2 hl s6 hc
  subst s1
  refine ⟨blk, off, tcap, vs, rfl, s6, lt_of_heap k1, hc, hvs, fun j x hj => ?_⟩
  obtain ⟨i1, i2⟩ := hl.2 j x hj
  refine ⟨i2, ?_⟩
  rw [cell?_of k1] at i2
  have hlt := (Array.getElem?_eq_some_iff.1 i2).1
  have := k3 (off + j) hlt
  simp only [World.frozen?, k1]
  simp only [Bool.and_eq_false_iff, decide_eq_false_iff_not]
  omega
/- what a function proved by hand hands back: a slice of one-cell values in new memory -/
theorem rep_new {g : Gh} {w w' : World} {α : Type} (f : α → AV) (c : α → Value) (hc1 : ∀ x, (c x).cells = #[c x]) (ho : ∀ x, oneCell (c x)) (hu : ∀ x, (f x).untok = f x) (hr : ∀ g w x, Rep L.toLk g w (f x) (c x)) {l : List α} {blk off cap : Nat} (hne : l ≠ []) (hb1 : w.heap.size ≤ blk) (hb2 : blk < w'.heap.size) (hcap : l.length ≤ cap)
    (hcell : ∀ j x, l[j]? = some x → w'.cell? ⟨blk, off + j, none⟩ = some (c x)) : Rep L.toLk (g.shut fun b => w.heap.size ≤ b ∧ b < w'.heap.size) w' (.sl .any 1 (l.map f)) (.slice (some ⟨blk, off, none⟩) l.length cap) := by
  simp only [Rep]
  refine ⟨some ⟨blk, off, none⟩, cap, l.map c, by simp, by simpa using hcap, ?_, ?_, ?_, ⟨fun _ => rfl, fun j x hj => ?_⟩, rfl⟩
  · clear hne hcap hcell
    induction l with
    | nil => rfl
    | cons x l ih => simp only [List.map_cons, AV.untokL, hu, ih]
  · clear hne hcap hcell
    induction l with
    | nil => simp [RepL]
    | cons x l ih => simp only [List.map_cons, RepL]; exact ⟨_, _, rfl, hr _ _ x, ih⟩
  · intro u hu
    obtain ⟨x, _, rfl⟩ := List.mem_map.1 hu
    refine ⟨by rw [hc1]; rfl, fun y hy => ?_⟩
    rw [hc1] at hy
    simp only [List.mem_cons, List.mem_nil_iff, or_false] at hy
    subst hy; exact ho x
  · rw [flat_map_one c hc1, List.getElem?_map] at hj
    cases hx : l[j]? with
    | none => rw [hx] at hj; cases hj
    | some x =>
      rw [hx] at hj; cases hj
      exact ⟨.inr ⟨hb1, hb2⟩, hcell j x hx⟩
end Ab

/- Rows of elements of any size: copy, clear, overlaps, for walks by hand. No condition. -/
namespace Ab
open Go Go.RowKit
set_option linter.all false
theorem run_copyZ {P : Program} (w : World) (dT sT ty elem : TypeId) (z k b o dLen dCap : Nat) (a : Addr) (sLen sCap : Nat) (cs : List Value)
    (hu : P.underlying dT = some (.slice elem)) (hs : (P.info? elem).map (·.size) = some z) (hk : Nat.min sLen dLen = k) (hn : cs.length = k * z)
    (hsrc : ∀ j v, cs[j]? = some v → w.cell? (a.add j) = some v) (hc : ∀ j, j < cs.length → (w.cell? ⟨b, o + j, none⟩).isSome = true) (hf : ∀ j, j < cs.length → w.frozen? ⟨b, o + j, none⟩ = false) (h1 : ∀ v ∈ cs, v.oneCell' = true) :
    (Builtin.copy_ #[dT, sT] ty #[.slice (some ⟨b, o, none⟩) dLen dCap, .slice (some a) sLen sCap]).run P w = .ok (goInt k) (w.setCells b o cs) := by
  have hl := run_loadCells_list (P := P) w a cs hsrc
  have hst := run_storeCells_cells (P := P) b o cs 0 w (by simpa using hc) (by simpa using hf) h1
  cases hq : P.info? elem with
  | none => simp [hq] at hs
  | some i =>
    have hi : i.size = z := by simpa [hq] using hs
    simp [Builtin.copy_, run_underlying hu, Builtin.lenOf, Builtin.firstCells, Go.sizeOf, typeInfo, hq, hi, hk, ← hn, hl, hst]
theorem run_clearZ {P : Program} (w : World) (t e ty : TypeId) (z : Value) (ht : P.underlying t = some (.slice e)) (hv : ∀ w, (zeroValue e).run P w = .ok z w) (b o n c : Nat) (hn : 0 < n) (h1 : ∀ v ∈ (Builtin.zeroCells z.cells n).toList, v.oneCell' = true)
    (hc : ∀ j, j < (Builtin.zeroCells z.cells n).toList.length → (w.cell? ⟨b, o + j, none⟩).isSome = true) (hf : ∀ j, j < (Builtin.zeroCells z.cells n).toList.length → w.frozen? ⟨b, o + j, none⟩ = false) :
    (Builtin.clear_ #[t] ty #[.slice (some ⟨b, o, none⟩) n c]).run P w = .ok (.tuple #[]) (w.setCells b o (Builtin.zeroCells z.cells n).toList) := by
  have hst := run_storeCells_cells (P := P) b o (Builtin.zeroCells z.cells n).toList 0 w (by simpa using hc) (by simpa using hf) h1
  simp only [Nat.add_zero] at hst
  obtain ⟨m, rfl⟩ : ∃ m, n = m + 1 := ⟨n - 1, by omega⟩
  simp [Builtin.clear_, run_underlying ht, hv, hst]
theorem run_overlapsB {P : Program} (w : World) (tS tR e : TypeId) (ht : P.underlying tS = some (.slice e)) (size : Nat) (hz : ∀ w, (Go.sizeOf e).run P w = .ok size w)
    (a b : Addr) (la ca lb cb : Nat) (hne : a.block ≠ b.block) {ca0 : Array Value} {ea : TypeId} {fa : Nat × Nat} {cb0 : Array Value} {eb : TypeId} (ha : w.heap[a.block]? = some (.cells ca0 ea fa)) (hb : w.heap[b.block]? = some (.cells cb0 eb (0, 0))) (hkB : cb0.size ≠ 0) (hkA : ca0.size ≠ 0) :
    (Extern.SlicesOverlaps.overlaps #[tS, tS] #[tR] #[.slice (some a) la ca, .slice (some b) lb cb]).run P w = .ok (.bool false) w := by
  have hnb : (a.block != b.block) = true := by simpa using hne
  have hnb' : (a.block == b.block) = false := by simpa using hne
  have hsa : w.shape? a.block = some (ea, ca0.size) := by simp only [World.shape?, ha]
  have hsb : w.shape? b.block = some (eb, cb0.size) := by simp only [World.shape?, hb]
  have hfb : ∀ o s, w.frozen? ⟨b.block, o, s⟩ = false := fun o s => by simp [World.frozen?, hb]
  have hfb' : w.frozen? b = false := by simp [World.frozen?, hb]
  change Sem.run P (α := Value) (do
    let some t := (#[tS, tS] : Array TypeId)[0]? | stuck "slices.overlaps: no parameter types"
    let .slice elem ← underlying t | stuck "slices.overlaps: slice type expected"
    let size ← sizeOf elem
    match (some a : Option Addr), (some b : Option Addr) with
    | some a, some b =>
      if la = 0 ∨ lb = 0 ∨ size = 0 then pure (Value.bool false)
      else if a.block != b.block && (← frozen a) && (← frozen b) then unsupported .addressObserved
      else do
        if a.block != b.block then do
          noView a; noView b
          if ← mayBeOne a b then return Value.bool ((← choose (.extern "sameAddr.stringBytes" 2)) == 1)
        pure (Value.bool (a.block == b.block && a.off < b.off + lb * size && b.off < a.off + la * size))
    | _, _ => pure (Value.bool false)) w = _
  by_cases h0 : la = 0 ∨ lb = 0 ∨ size = 0
  · simp [run_underlying ht, hz, h0]
  · obtain ⟨kB, hk⟩ : ∃ k, cb0.size = k + 1 := ⟨cb0.size - 1, by omega⟩
    obtain ⟨kA, hk'⟩ : ∃ k, ca0.size = k + 1 := ⟨ca0.size - 1, by omega⟩
    rw [hk] at hsb
    rw [hk'] at hsa
    cases hfa : w.frozen? a <;> cases hfe : w.frozen? ⟨a.block, kA + 1, none⟩ <;>
      simp [run_underlying ht, hz, h0, hnb, hnb', frozen, noView, viewAt, mayBeOne, stringish, shape, Sem.run, hsa, hsb, hfb, hfb', hfa, hfe]
theorem wpList_copyI {P : Program} (w : World) {ops : Array Oper} {rest : List Oper} {o : Oper} {a : Act} {Q : Exit → Act → World → Prop} (hgd : o.guard = none) (d s : Operand) (t t' : TypeId)
    (ho : o.op = .call { callee := .builtin .copy, args := #[d, s], argTypes := #[t, t'] }) (v u : Value) (hd : a.eval d = v) (hs : a.eval s = u) {v' : Value} {w' : World}
    (hr : (Builtin.copy_ #[t, t'] o.type #[v, u]).run P w = .ok v' w') (h : wpList P ops Q rest (a.put o.dst v') w') : wpList P ops Q (o :: rest) a w :=
  wpList_plain hgd fun _ hK => by
    unfold Oper.wp execOp
    simp only [ho, resolve, invoke, builtin, Sem.run_bind, Sem.run_pure, Result.andThen_ok, List.map_toArray, List.map_cons, List.map_nil, hd, hs, hr]
    exact hK _ _ h
theorem step_copyI {P : Program} {ops : Array Oper} {o : Oper} {a : Act} {w : World} {K : Act → World → Prop} {Q : Exit → Act → World → Prop} {E : Prop}
    (hg : o.guard = none) (d x : Operand) (dT sT : TypeId) (hop : o.op = Op.call { callee := Callee.builtin Builtin.copy, args := #[d, x], argTypes := #[dT, sT] })
    (v u : Value) (hd : a.eval d = v) (hx : a.eval x = u) {v' : Value} {w' : World} (hr : (Builtin.copy_ #[dT, sT] o.type #[v, u]).run P w = .ok v' w') (hK : K (a.put o.dst v') w') :
    if Region.wanted o (yielded ops a.tmps) = true then Oper.wp P o a w K Q else E := by
  have hw : Region.wanted o (yielded ops a.tmps) = true := by simp [Region.wanted, hg]
  rw [if_pos hw]
  unfold Oper.wp
  simp [execOp, hop, resolve, invoke, builtin, hd, hx, hr, Result.andThen]
  exact hK
end Ab

/- slices.Insert at the front of a row of buried expressions, walked: there is room. No condition. -/
namespace Ab.D
open Go Go.Proofs Go.RowKit
set_option linter.all false
theorem mixed : Tryz.prog.follows Departure.mixedOrders = true := by kernel_rfl
theorem info50 : (Tryz.prog.info? 50).map (·.size) = some 2 := by kernel_rfl
theorem isSome_setCells (b : Nat) (vs : List Value) (o : Nat) (w : World) (h : ∀ j, j < vs.length → (w.cell? ⟨b, o + j, none⟩).isSome = true) (k : Nat) (hk : (w.cell? ⟨b, k, none⟩).isSome = true) : ((w.setCells b o vs).cell? ⟨b, k, none⟩).isSome = true := by
  by_cases hin : o ≤ k ∧ k < o + vs.length
  · have := World.cell?_setCells_in b vs o w h (k - o) (by omega)
    rw [show o + (k - o) = k by omega] at this
    rw [this]; rfl
  · rw [World.cell?_setCells_out b vs o w ⟨b, k, none⟩ (fun _ _ => by show k < o ∨ o + vs.length ≤ k; omega)]
    exact hk
set_option maxHeartbeats 4000000 in
set_option maxRecDepth 100000 in
theorem ins_shift (b n c vb voff vc : Nat) (cs vs : List Value) (w : World) (hn : 0 < n) (hm : n ≤ 1000) (hroom : n + 1 ≤ c) (hvb : vb ≠ b) (hcl : cs.length = n * 2) (hvl : vs.length = 2)
    (hcs : ∀ j v, cs[j]? = some v → w.cell? ⟨b, j, none⟩ = some v) {c0 : Array Value} {e0 : TypeId} (hb : w.heap[b]? = some (.cells c0 e0 (0, 0))) (hsz : c * 2 ≤ c0.size)
    (hvs : ∀ j v, vs[j]? = some v → w.cell? ⟨vb, voff + j, none⟩ = some v) {ca : Array Value} {ea : TypeId} {fa : Nat × Nat} (hva : w.heap[vb]? = some (.cells ca ea fa)) (hca : ca.size ≠ 0) (h1c : ∀ v ∈ cs, v.oneCell' = true) (h1v : ∀ v ∈ vs, v.oneCell' = true) :
    Calls Tryz.prog 154 #[.slice (some ⟨b, 0, none⟩) n c, .int .i64 0, .slice (some ⟨vb, voff, none⟩) 1 vc] w fun e w' =>
      e = .returned (.slice (some ⟨b, 0, none⟩) (n + 1) c) ∧ w' = (w.drew.setCells b 2 cs).setCells b 0 vs := by
  have hsp : ∀ j, j < (n + 1) * 2 → (w.cell? ⟨b, j, none⟩).isSome = true := fun j hj => by
    rw [cell?_of hb, Array.getElem?_eq_getElem (by omega)]; rfl
  have hfz : ∀ j, w.frozen? ⟨b, j, none⟩ = false := fun j => by simp [World.frozen?, hb]
  have hz2 : ¬ ((0 : Int) = (n : Int)) := by omega
  have hov : ∀ lb cb, (callFunc 195 #[.slice (some ⟨vb, voff, none⟩) 1 vc, .slice (some ⟨b, 2, none⟩) lb cb]).run Tryz.prog w = .ok (.value (.bool false)) w := fun lb cb => by
    rw [run_callFunc_extern Tryz.func195 (by kernel_rfl) (by kernel_rfl) (by kernel_rfl) (e := Extern.SlicesOverlaps.overlaps #[22, 22] #[4]) (by kernel_rfl),
      run_overlapsB w 22 4 50 Tryz.underlying22 2 Tryz.sizeOf50 ⟨vb, voff, none⟩ ⟨b, 2, none⟩ 1 vc lb cb hvb hva hb (by omega) hca]
    rfl
  have hcp1 : ∀ ty dc sc, (Builtin.copy_ #[22, 22] ty #[.slice (some ⟨b, 2, none⟩) n dc, .slice (some ⟨b, 0, none⟩) (n + 1) sc]).run Tryz.prog w.drew = .ok (goInt n) (w.drew.setCells b 2 cs) := fun ty dc sc =>
    run_copyZ w.drew _ _ ty 50 2 n b 2 n dc ⟨b, 0, none⟩ (n + 1) sc cs Tryz.underlying22 info50 (by simp only [Nat.min_def]; split <;> omega) hcl
      (fun j v hj => by rw [Addr.add_lit, Nat.zero_add]; exact hcs j v hj)
      (fun j hj => hsp _ (by omega)) (fun j hj => hfz _) h1c
  obtain ⟨W1, hW1⟩ : ∃ W1, W1 = w.drew.setCells b 2 cs := ⟨_, rfl⟩
  have hsp1 : ∀ k, k < (n + 1) * 2 → (W1.cell? ⟨b, k, none⟩).isSome = true := fun k hk => by
    rw [hW1]
    exact isSome_setCells b cs 2 w.drew (fun j hj => hsp (2 + j) (by omega)) _ (hsp k hk)
  have hcp2 : ∀ (W : World), (∀ x, W.cell? x = W1.cell? x) → (∀ x, W.frozen? x = W1.frozen? x) → ∀ ty dc, (Builtin.copy_ #[22, 22] ty #[.slice (some ⟨b, 0, none⟩) (n + 1) dc, .slice (some ⟨vb, voff, none⟩) 1 vc]).run Tryz.prog W = .ok (goInt 1) (W.setCells b 0 vs) := fun W hWc hWf ty dc =>
    run_copyZ W _ _ ty 50 2 1 b 0 (n + 1) dc ⟨vb, voff, none⟩ 1 vc vs Tryz.underlying22 info50 (by simp only [Nat.min_def]; split <;> omega) (by omega)
      (fun j v hj => by
        rw [Addr.add_lit, hWc, hW1, World.cell?_setCells_out b _ _ _ _ (fun h _ => absurd h hvb)]
        exact hvs j v hj)
      (fun j hj => by rw [hWc]; exact hsp1 _ (by omega)) (fun j hj => by rw [hWf, hW1, World.frozen?_setCells]; exact hfz _) h1v
  rw [← hW1] at hcp1
  have hb2 : ¬ (c = 1) := by omega
  have mixed := mixed
  have hw1 : IntKind.i64.wrap ((0 : Int) + 1) = 1 := by decide
  have hw2 : IntKind.i64.wrap (1 : Int) = 1 := by decide
  have hb3 : (1 : Int) ≤ (n : Int) + 1 := by omega
  have hb4 : ¬ (c = 0) := by omega
  have hb5 : (0 : Int) ≤ (n : Int) + 1 := by omega
  clear hsp hfz hsp1 hvs hcs hva hb h1c h1v hcl hvl hca hsz
  go_enter Tryz.func154, Tryz.ntmps154
  go_wp2_with (simp only [hov])
  go_region_law_o (refine step_copyI rfl _ _ 22 22 rfl _ _ (by simp [Act.eval, Act.put]) (by simp [Act.eval, Act.put]) (hcp1 _ _ _) ?_)
  go_wp2_with (at_builtin; refine wpList_copyI _ rfl _ _ 22 22 rfl _ _ rfl rfl (hcp2 _ (fun _ => rfl) (fun _ => rfl) _ _) ?_)
  go_ret
  first | exact ⟨rfl, rfl⟩ | exact ⟨rfl, by rw [hW1]⟩
end Ab.D

/- slices.Insert at the front of a row of buried expressions, walked: there is no room; and into no row. No condition. -/
namespace Ab.D
open Go Go.Proofs Go.RowKit Go.Lib
set_option linter.all false
abbrev Z2 : Value := .agg #[.slice none 0 0, .slice none 0 0]
set_option maxRecDepth 100000 in
theorem row50' : (Tryz.prog.info? 50).map (fun i => (i.zero, i.size, i.bytes)) = some (some Z2, 2, 48) := by kernel_rfl
theorem row50 : ∃ i, Tryz.prog.info? 50 = some i ∧ i.zero = some Z2 ∧ i.size = 2 ∧ i.bytes = 48 := by
  have h := row50'
  cases hi : Tryz.prog.info? 50 with
  | none => rw [hi] at h; cases h
  | some i =>
    rw [hi] at h
    simp only [Option.map_some, Option.some.injEq, Prod.mk.injEq] at h
    exact ⟨i, rfl, h.1, h.2.1, h.2.2⟩
set_option maxHeartbeats 4000000 in
set_option maxRecDepth 100000 in
theorem ins_grow (b n c vb voff vc : Nat) (cs vs : List Value) (w : World) (hn : 0 < n) (hnc : n ≤ c) (hroom : c < n + 1) (hbig : (n + 1) * 48 ≤ 140737488355328) (hcl : cs.length = n * 2) (hvl : vs.length = 2)
    (hcs : ∀ j v, cs[j]? = some v → w.cell? ⟨b, j, none⟩ = some v) (hvs : ∀ j v, vs[j]? = some v → w.cell? ⟨vb, voff + j, none⟩ = some v) (h1c : ∀ v ∈ cs, v.oneCell' = true) (h1v : ∀ v ∈ vs, v.oneCell' = true) :
    Calls Tryz.prog 154 #[.slice (some ⟨b, 0, none⟩) n c, .int .i64 0, .slice (some ⟨vb, voff, none⟩) 1 vc] w fun e w' =>
      e = .returned (.slice (some ⟨w.heap.size, 0, none⟩) (n + 1) (grownCap w (n + 1) c 50)) ∧
      w' = (((w.alloc (.cells (#[] ++ Builtin.zeroCells Z2.cells (n + 1) ++ Builtin.zeroCells Z2.cells (grownCap w (n + 1) c 50 - (n + 1))) 50)).drew.setCells w.heap.size 0 vs).drew).setCells w.heap.size 2 cs := by
  obtain ⟨i0, hi0, hz0, hzs, hzb⟩ := row50
  have hz2 : ¬ ((0 : Int) = (n : Int)) := by omega
  have hz3 : (c : Int) < (n : Int) + 1 := by omega
  have hbw : b < w.heap.size := block_lt_of_cell (hcs 0 _ (List.getElem?_eq_getElem (by omega)))
  have hvw : vb < w.heap.size := block_lt_of_cell (hvs 0 _ (List.getElem?_eq_getElem (by omega)))
  have hold : (Builtin.firstCells i0.size 0 (.slice (some ⟨b, 0, none⟩) 0 c)).run Tryz.prog w.drew = .ok (([] : List Value)).toArray w.drew := by
    rw [hzs]
    exact run_firstCells_some w.drew 2 0 ⟨b, 0, none⟩ 0 c [] rfl (fun j v hj => by simp at hj)
  have hrz : ∀ ty, (Builtin.append_ #[22, 3] ty #[.slice (some ⟨b, 0, none⟩) 0 c, .int .i64 ((n : Int) + 1)]).run Tryz.prog w =
      .ok (.slice (some ⟨w.heap.size, 0, none⟩) (n + 1) (grownCap w (n + 1) c 50)) (w.drew.alloc (.cells (#[] ++ Builtin.zeroCells Z2.cells (n + 1) ++ Builtin.zeroCells Z2.cells (grownCap w (n + 1) c 50 - (n + 1))) 50)) := fun ty => by
    have h := Lib.run_append_grow_zeros w 22 3 ty 50 i0 _ .i64 .i64 Tryz.underlying22 Tryz.underlying3 hi0 hz0 (some ⟨b, 0, none⟩) 0 c [] hold (n + 1) (by omega) (by omega) (by omega) (by omega) (by rw [hzb]; omega) (by rw [hzb, Nat.zero_add]; exact growslice_fits hroom hbig)
    rw [Nat.zero_add] at h
    exact h
  obtain ⟨G, hG⟩ : ∃ G, G = grownCap w (n + 1) c 50 := ⟨_, rfl⟩
  obtain ⟨ROW, hROW⟩ : ∃ ROW : Array Value, ROW = #[] ++ Builtin.zeroCells Z2.cells (n + 1) ++ Builtin.zeroCells Z2.cells (G - (n + 1)) := ⟨_, rfl⟩
  rw [← hG] at hrz ⊢
  rw [← hROW] at hrz ⊢
  have hRl : (n + 1) * 2 ≤ ROW.size := by
    rw [hROW]
    simp [Builtin.zeroCells, Value.cells]
  obtain ⟨W1, hW1⟩ : ∃ W1, W1 = w.drew.alloc (.cells ROW 50) := ⟨_, rfl⟩
  rw [← hW1] at hrz
  have hN : ∀ j, j < (n + 1) * 2 → (W1.cell? ⟨w.heap.size, j, none⟩).isSome = true := fun j hj => by
    rw [hW1, World.cell?_alloc_at (w := w.drew) ROW _ w.heap.size j rfl, Array.getElem?_eq_getElem (by omega)]; rfl
  have hNf : ∀ j, W1.frozen? ⟨w.heap.size, j, none⟩ = false := fun j => by rw [hW1]; exact World.frozen?_alloc_at (w := w.drew) ROW _ w.heap.size j rfl
  have hOb : ∀ j v, w.cell? ⟨b, j, none⟩ = some v → W1.cell? ⟨b, j, none⟩ = some v := fun j v h => by rw [hW1, World.cell?_alloc_past (w := w.drew) _ b j hbw]; exact h
  have hOv : ∀ j v, w.cell? ⟨vb, j, none⟩ = some v → W1.cell? ⟨vb, j, none⟩ = some v := fun j v h => by rw [hW1, World.cell?_alloc_past (w := w.drew) _ vb j hvw]; exact h
  have hcpA : ∀ (W : World), (∀ x, W.cell? x = W1.cell? x) → (∀ x, W.frozen? x = W1.frozen? x) → ∀ ty dc, (Builtin.copy_ #[22, 22] ty #[.slice (some ⟨w.heap.size, 0, none⟩) (n + 1) dc, .slice (some ⟨vb, voff, none⟩) 1 vc]).run Tryz.prog W = .ok (goInt 1) (W.setCells w.heap.size 0 vs) := fun W hWc hWf ty dc =>
    run_copyZ W _ _ ty 50 2 1 w.heap.size 0 (n + 1) dc ⟨vb, voff, none⟩ 1 vc vs Tryz.underlying22 info50 (by simp only [Nat.min_def]; split <;> omega) (by omega)
      (fun j v hj => by rw [Addr.add_lit, hWc]; exact hOv _ v (hvs j v hj))
      (fun j hj => by rw [hWc]; exact hN (0 + j) (by omega)) (fun j hj => by rw [hWf]; exact hNf _) h1v
  have hGn : n + 1 ≤ G := by rw [hG]; exact grownCap_ge w _ _ _
  have hG63 : G ≤ 9223372036854775807 := by
    have := grownCap_le_maxLen w (n + 1) c 50 (by unfold maxLen; omega)
    rw [← hG] at this
    unfold maxLen at this
    omega
  have hGi : ¬ (G = 0) := by omega
  have hGim : ¬ (G = 1) := by omega
  have hci : ¬ (c = 0) := by omega
  have hbN : b ≠ w.heap.size := by omega
  have hcpB : ∀ (W : World), (∀ x, W.cell? x = (W1.setCells w.heap.size 0 vs).cell? x) → (∀ x, W.frozen? x = (W1.setCells w.heap.size 0 vs).frozen? x) → ∀ ty dc sc, (Builtin.copy_ #[22, 22] ty #[.slice (some ⟨w.heap.size, 2, none⟩) n dc, .slice (some ⟨b, 0, none⟩) n sc]).run Tryz.prog W = .ok (goInt n) (W.setCells w.heap.size 2 cs) := fun W hWc hWf ty dc sc =>
    run_copyZ W _ _ ty 50 2 n w.heap.size 2 n dc ⟨b, 0, none⟩ n sc cs Tryz.underlying22 info50 (by simp only [Nat.min_def]; split <;> omega) hcl
      (fun j v hj => by
        rw [Addr.add_lit, hWc, World.cell?_setCells_out _ _ _ _ _ (fun h _ => absurd h hbN), Nat.zero_add]
        exact hOb _ v (hcs j v hj))
      (fun j hj => by rw [hWc]; exact isSome_setCells _ vs 0 W1 (fun t ht => hN (0 + t) (by omega)) _ (hN (2 + j) (by omega)))
      (fun j hj => by rw [hWf, World.frozen?_setCells]; exact hNf _) h1c
  subst hW1
  have hE1 : ∀ x, ((w.alloc (.cells ROW 50)).drew).cell? x = (w.drew.alloc (.cells ROW 50)).cell? x := fun x => rfl
  have hE2 : ∀ x, ((w.alloc (.cells ROW 50)).drew).frozen? x = (w.drew.alloc (.cells ROW 50)).frozen? x := fun x => rfl
  have hF1 : ∀ x, (((w.alloc (.cells ROW 50)).drew.setCells w.heap.size 0 vs).drew).cell? x = ((w.drew.alloc (.cells ROW 50)).setCells w.heap.size 0 vs).cell? x := fun x => rfl
  have hF2 : ∀ x, (((w.alloc (.cells ROW 50)).drew.setCells w.heap.size 0 vs).drew).frozen? x = ((w.drew.alloc (.cells ROW 50)).setCells w.heap.size 0 vs).frozen? x := fun x => rfl
  have hw1 : IntKind.i64.wrap ((0 : Int) + 1) = 1 := by decide
  have hw2 : IntKind.i64.wrap (1 : Int) = 1 := by decide
  have hb5 : (0 : Int) ≤ (n : Int) + 1 := by omega
  have hb6 : (0 : Int) ≤ (n : Int) := by omega
  have hb3 : (1 : Int) ≤ (n : Int) + 1 := by omega
  have hb7 : (0 : Int) ≤ (c : Int) := by omega
  have mixed := mixed
  clear hold hROW hG hRl
  go_enter Tryz.func154, Tryz.ntmps154
  go_wp2_with (first
    | (at_builtin; refine Lib.wpList_append_run _ rfl _ _ _ _ rfl _ _ rfl rfl _ _ (hrz _) ?_)
    | (at_builtin; refine wpList_copyI _ rfl _ _ 22 22 rfl _ _ rfl rfl (hcpA _ hE1 hE2 _ _) ?_)
    | (at_builtin; refine wpList_copyI _ rfl _ _ 22 22 rfl _ _ rfl rfl (hcpB _ (fun _ => rfl) (fun _ => rfl) _ _ _) ?_))
  go_region_law_o (refine step_copyI rfl _ _ 22 22 rfl (.slice (some ⟨w.heap.size, 2, none⟩) n (G - 1)) (.slice (some ⟨b, 0, none⟩) n c) (by simp [Act.eval, Act.put]) (by simp [Act.eval, Act.put]) (hcpB _ hF1 hF2 3 (G - 1) c) ?_)
  go_wp2
  go_ret
  exact ⟨rfl, rfl⟩
set_option maxHeartbeats 4000000 in
set_option maxRecDepth 100000 in
theorem ins_nil (base : Option Addr) (vb voff vc : Nat) (vs : List Value) (w : World) (hvl : vs.length = 2)
    (hvs : ∀ j v, vs[j]? = some v → w.cell? ⟨vb, voff + j, none⟩ = some v) (h1v : ∀ v ∈ vs, v.oneCell' = true) :
    Calls Tryz.prog 154 #[.slice none 0 0, .int .i64 0, .slice (some ⟨vb, voff, none⟩) 1 vc] w fun e w' =>
      e = .returned (.slice (some ⟨w.heap.size, 0, none⟩) 1 (grownCap w 1 0 50)) ∧
      w' = w.drew.alloc (.cells (vs.toArray ++ Builtin.zeroCells Z2.cells (grownCap w 1 0 50 - 1)) 50) := by
  obtain ⟨i0, hi0, hz0, hzs, hzb⟩ := row50
  have hsrc : Src Tryz.prog i0.size 22 (.slice (some ⟨vb, voff, none⟩) 1 vc) 1 vs w := by
    rw [hzs]
    exact Src.ofSlice w Tryz.underlying22 ⟨vb, voff, none⟩ 1 vc vs (by omega) (fun j u hj => by rw [Addr.add_lit]; exact hvs j u hj) h1v
  have hold : (Builtin.firstCells i0.size 0 (.slice none 0 0)).run Tryz.prog w.drew = .ok (([] : List Value)).toArray w.drew := by
    rw [hzs]
    exact run_firstCells_none w.drew 2 0 0 0
  have hrun : ∀ ty, (Builtin.append_ #[22, 22] ty #[.slice none 0 0, .slice (some ⟨vb, voff, none⟩) 1 vc]).run Tryz.prog w = _ := fun ty =>
    run_append_grow_src w 22 22 ty 50 i0 _ Tryz.underlying22 hi0 hz0 none 0 0 [] hold _ 1 vs hsrc (by omega) (by omega) (by rw [hzb]; exact growslice_fits (by omega) (by omega))
  go_enter Tryz.func154, Tryz.ntmps154
  go_wp2_with (at_builtin; refine Lib.wpList_append_run _ rfl _ _ _ _ rfl _ _ rfl rfl _ _ (hrun _) ?_)
  go_ret
  exact ⟨rfl, rfl⟩
end Ab.D

/- slices.Delete of one element of a row of buried expressions, walked. No condition. -/
namespace Ab.D
open Go Go.Proofs Go.RowKit Go.Lib
set_option linter.all false
set_option maxHeartbeats 4000000 in
set_option maxRecDepth 100000 in
theorem del_walk (b n c i : Nat) (cs : List Value) (w : World) (hi : i < n) (hnc : n ≤ c) (hcl : cs.length = n * 2)
    (hcs : ∀ j v, cs[j]? = some v → w.cell? ⟨b, j, none⟩ = some v) (hfz : ∀ j, w.frozen? ⟨b, j, none⟩ = false) (h1c : ∀ v ∈ cs, v.oneCell' = true) :
    Calls Tryz.prog 119 #[.slice (some ⟨b, 0, none⟩) n c, .int .i64 i, .int .i64 ((i : Int) + 1)] w fun e w' =>
      e = .returned (.slice (some ⟨b, 0, none⟩) (n - 1) c) ∧ w' = (w.drew.setCells b (i * 2) (cs.drop ((i + 1) * 2))).setCells b ((n - 1) * 2) (Builtin.zeroCells Z2.cells 1).toList := by
  obtain ⟨i0, hi0, hz0, hzs, hzb⟩ := row50
  obtain ⟨news, hnews⟩ : ∃ news, news = cs.drop ((i + 1) * 2) := ⟨_, rfl⟩
  have hlen : news.length = (n - (i + 1)) * 2 := by rw [hnews, List.length_drop, hcl]; omega
  obtain ⟨A, hA, hsrc⟩ : ∃ A : Addr, (if c = i + 1 then some (⟨b, 0, none⟩ : Addr) else some ⟨b, (i + 1) * 2, none⟩) = some A ∧ ∀ t u, news[t]? = some u → w.drew.cell? (A.add t) = some u := by
    by_cases h : c = i + 1
    · refine ⟨⟨b, 0, none⟩, by simp [h], fun t u hu => ?_⟩
      have h0 : news.length = 0 := by rw [hlen]; omega
      rw [List.length_eq_zero_iff.1 h0] at hu
      simp at hu
    · refine ⟨⟨b, (i + 1) * 2, none⟩, by simp [h], fun t u hu => ?_⟩
      rw [hnews, List.getElem?_drop] at hu
      rw [Addr.add_lit]
      exact hcs _ _ hu
  have h1n : ∀ u ∈ news, u.oneCell' = true := fun u hu => h1c u (List.mem_of_mem_drop (hnews ▸ hu))
  have hsome : ∀ t, t < n * 2 → (w.cell? ⟨b, t, none⟩).isSome = true := fun t ht => by
    rw [hcs t _ (List.getElem?_eq_getElem (by omega))]; rfl
  have s3 : ∀ t, t < news.length → (w.drew.cell? ⟨b, 0 + i * 2 + t, none⟩).isSome = true ∧ w.drew.frozen? ⟨b, 0 + i * 2 + t, none⟩ = false := fun t ht => ⟨hsome _ (by omega), hfz _⟩
  obtain ⟨W1, hW1⟩ : ∃ W1, W1 = w.drew.setCells b (0 + i * 2) news := ⟨_, rfl⟩
  have hzl : (Builtin.zeroCells Z2.cells 1).toList.length = 2 := by simp [Builtin.zeroCells, Value.cells]
  have e1 : i + (n - (i + 1)) = n - 1 := by omega
  have e2 : n - (n - 1) = 1 := by omega
  have hcl' : ∀ ty, (Builtin.clear_ #[22] ty #[.slice (some ⟨b, (n - 1) * 2, none⟩) (n - (n - 1)) (c - (n - 1))]).run Tryz.prog (w.drew.setCells b (i * 2) (List.drop ((i + 1) * 2) cs)) = .ok (.tuple #[]) ((w.drew.setCells b (i * 2) (List.drop ((i + 1) * 2) cs)).setCells b ((n - 1) * 2) (Builtin.zeroCells Z2.cells 1).toList) := fun ty => by
    rw [e2]
    exact run_clearZ _ 22 50 ty Z2 Tryz.underlying22 Tryz.zeroValue50 b _ _ _ (by omega) (by decide +kernel)
      (fun t ht => by rw [hzl] at ht; rw [← Nat.zero_add (i * 2), ← hnews]; exact isSome_setCells b news (0 + i * 2) w.drew (fun j hj => (s3 j hj).1) _ (hsome _ (by omega)))
      (fun t ht => by rw [World.frozen?_setCells]; exact hfz _)
  clear e2
  have hic : i ≤ c := by omega
  have hjc : i + 1 ≤ c := by omega
  have hz2 : ¬ ((i : Int) = (i : Int) + 1) := by omega
  have mixed := mixed
  have hb0 : (0 : Int) ≤ (i : Int) + 1 := by omega
  have hb1 : (i : Int) + 1 ≤ (n : Int) := by omega
  have hb2 : (0 : Int) ≤ (i : Int) + 1 ∧ (i : Int) + 1 ≤ (n : Int) := ⟨hb0, hb1⟩
  clear hcs hfz hsome
  go_enter Tryz.func119, Tryz.ntmps119
  go_wp2_with fail
  go_region_law_o (refine step_append_room rfl (.tmp 22) (.tmp 25) 22 rfl 50 i0 2 Tryz.underlying22 hi0 hzs b 0 i c (by simp [Act.eval, Act.put]) A (n - (i + 1)) (c - (i + 1)) news (by simp [Act.eval, Act.put]) hlen hsrc h1n (by omega) s3 ?_; rw [← hW1])
  go_wp2
  go_ret
  exact ⟨rfl, rfl⟩
end Ab.D
