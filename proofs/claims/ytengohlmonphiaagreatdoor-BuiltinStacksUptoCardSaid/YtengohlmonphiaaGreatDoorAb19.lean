/- The card of BuiltinStacks where what it reads is of bulk at most 1048576. Its condition: what the given card and row say. -/
import Derived.Test.YtengohlmonphiaaGreatDoorAb14
import Derived.Test.YtengohlmonphiaaGreatDoorAb18
import Derived.Test.YtengohlmonphiaaGreatDoorAb11
import Derived.Test.YtengohlmonphiaaGreatDoorCards
import Derived.Test.YtengohlmonphiaaGreatDoorTie
import Derived.SevenTiedAt
set_option linter.all false
namespace Go.Proofs.YtengohlmonphiaaGreatDoor
open Ab Go
set_option linter.all false
set_option maxRecDepth 100000
theorem look35 : fieldsAre Tryz.prog 35 [3, 9, 26] = true := by kernel_rfl
theorem look50 : fieldsAre Tryz.prog 50 [26, 26] = true := by kernel_rfl
theorem look25 : fieldsAre Tryz.prog 25 [22, 23] = true := by kernel_rfl
theorem und3 : Tryz.prog.underlying 3 = some (.int .i64) := by kernel_rfl
theorem und9 : Tryz.prog.underlying 9 = some .string := by kernel_rfl
theorem und26 : Tryz.prog.underlying 26 = some (.slice 35) := by kernel_rfl
theorem und23 : Tryz.prog.underlying 23 = some (.slice 9) := by kernel_rfl
theorem und22 : Tryz.prog.underlying 22 = some (.slice 50) := by kernel_rfl
theorem cells35 : Tryz.prog.cellsOf 35 = 3 := by kernel_rfl
theorem cells50 : Tryz.prog.cellsOf 50 = 2 := by kernel_rfl
theorem cells9 : Tryz.prog.cellsOf 9 = 1 := by kernel_rfl
theorem agg26 : (isAggP Tryz.prog 26).getD false = false := by kernel_rfl
theorem agg50 : (isAggP Tryz.prog 50).getD false = true := by kernel_rfl
theorem agg9 : (isAggP Tryz.prog 9).getD false = false := by kernel_rfl
theorem agg25 : (isAggP Tryz.prog 25).getD false = true := by kernel_rfl
theorem list26 {x : AV} (h : Of Tryz.prog 26 [x]) : ∃ us, Sl us x := by
  obtain ⟨fs, hs, hf⟩ := look_of look35
  obtain ⟨us, o, ys, e, h1, h2⟩ := (terms_of und26 hs hf und3 und9 cells35 h).1 rfl
  cases e
  exact ⟨us, o, ys, rfl, h1, h2⟩
theorem term26 {xs : List AV} (h : Of Tryz.prog 26 xs) : ∃ x us, xs = [x] ∧ Sl us x := by
  obtain ⟨x, rfl⟩ := of_one und26 rfl h
  obtain ⟨us, hus⟩ := list26 h
  exact ⟨x, us, rfl, hus⟩
theorem arg26 {x : AV} (h : ArgOf Tryz.prog 26 x) : ∃ us, Sl us x := by
  unfold ArgOf at h
  rw [agg26] at h
  exact list26 h
theorem bur50 {xs : List AV} (h : Of Tryz.prog 50 xs) : ∃ p, D.Bu p (.agg xs) := by
  obtain ⟨fs, hs, hf⟩ := look_of look50
  obtain ⟨xss, hl, hx, rfl⟩ := of_struct hs h
  obtain ⟨l⟩ := fs
  match l, hf with
  | [f0, f1], hf =>
    simp only [List.map_cons, List.map_nil, List.cons.injEq, and_true] at hf
    match xss, hl with
    | [x0, x1], _ =>
      have h0 := hx 0 f0 x0 rfl rfl
      have h1 := hx 1 f1 x1 rfl rfl
      rw [hf.1] at h0
      rw [hf.2] at h1
      obtain ⟨a, u, rfl, hu⟩ := term26 h0
      obtain ⟨b, w, rfl, hw⟩ := term26 h1
      exact ⟨(u, w), a, b, rfl, hu, hw⟩
theorem burs22 {xs : List AV} (h : Of Tryz.prog 22 xs) : ∃ ps o ys, xs = [.sl o 2 ys] ∧ All2 D.Bu ps ys ∧ (o = .nil → ys = []) := by
  rcases of_slice und22 h with rfl | ⟨yss, hy, _, rfl⟩
  · exact ⟨[], .nil, [], by rw [cells50], by simp [All2], fun _ => rfl⟩
  · rw [cells50, agg50]
    obtain ⟨ps, hps⟩ := all2_mk (R := D.Bu) (g := elemAV true) (l := yss) fun ys hys => by
      obtain ⟨p, hp⟩ := bur50 (hy ys hys)
      exact ⟨p, by simpa [elemAV] using hp⟩
    exact ⟨ps, .any, _, rfl, hps, fun h => by cases h⟩
theorem strs23 {xs : List AV} (h : Of Tryz.prog 23 xs) : ∃ os o ys, xs = [.sl o 1 ys] ∧ All2 D.IsS os ys ∧ (o = .nil → ys = []) := by
  rcases of_slice und23 h with rfl | ⟨yss, hy, _, rfl⟩
  · exact ⟨[], .nil, [], by rw [cells9], by simp [All2], fun _ => rfl⟩
  · rw [cells9, agg9]
    obtain ⟨ps, hps⟩ := all2_mk (R := D.IsS) (g := elemAV false) (l := yss) fun ys hys => by
      obtain ⟨s, rfl, _⟩ := of_string und9 (hy ys hys)
      exact ⟨s, by simp [elemAV, D.IsS]⟩
    exact ⟨ps, .any, _, rfl, hps, fun h => by cases h⟩
theorem store25 {x : AV} (h : ArgOf Tryz.prog 25 x) : ∃ ps os, D.Sto ps os x := by
  unfold ArgOf at h
  rw [agg25] at h
  obtain ⟨xs, rfl, ho⟩ := h
  obtain ⟨fs, hs, hf⟩ := look_of look25
  obtain ⟨xss, hl, hx, rfl⟩ := of_struct hs ho
  obtain ⟨l⟩ := fs
  match l, hf with
  | [f0, f1], hf =>
    simp only [List.map_cons, List.map_nil, List.cons.injEq, and_true] at hf
    match xss, hl with
    | [x0, x1], _ =>
      have h0 := hx 0 f0 x0 rfl rfl
      have h1 := hx 1 f1 x1 rfl rfl
      rw [hf.1] at h0
      rw [hf.2] at h1
      obtain ⟨ps, o, ys, rfl, a1, a2⟩ := burs22 h0
      obtain ⟨os, o', ys', rfl, b1, b2⟩ := strs23 h1
      exact ⟨ps, os, o, ys, o', ys', rfl, a1, b1, a2, b2⟩
theorem store_sz {ps : List D.Bur} {os : List (List UInt8)} {v : AV} (h : D.Sto ps os v) : ps.length ≤ AV.sz v ∧ os.length ≤ AV.sz v ∧ ∀ p ∈ ps, (nTs p.1 < AV.sz v ∧ nTs p.2 < AV.sz v) ∧ D.Shorts (AV.sz v) p.1 ∧ D.Shorts (AV.sz v) p.2 := by
  obtain ⟨ob, xs, oo, ys, rfl, hx, hy, _, _⟩ := h
  have l1 := hx.length
  have l2 := hy.length
  have g1 := length_le_szL xs
  have g2 := length_le_szL ys
  simp only [AV.sz, AV.szL]
  refine ⟨by omega, by omega, fun p hp => ?_⟩
  have := all2_sz (R := D.Bu) (Q := fun p n => (nTs p.1 < n ∧ nTs p.2 < n) ∧ D.Shorts n p.1 ∧ D.Shorts n p.2) (by
    rintro p y ⟨a, b, rfl, ha, hb⟩
    obtain ⟨s1, s2⟩ := ha.sz
    obtain ⟨t1, t2⟩ := hb.sz
    simp only [AV.sz, AV.szL]
    exact ⟨⟨by omega, by omega⟩, fun u hu => by have := s2 u hu; omega, fun u hu => by have := t2 u hu; omega⟩) (by
    rintro p m n ⟨⟨q1, q2⟩, q3, q4⟩ hmn
    exact ⟨⟨by omega, by omega⟩, fun u hu => by have := q3 u hu; omega, fun u hu => by have := q4 u hu; omega⟩) hx p hp
  obtain ⟨⟨q1, q2⟩, q3, q4⟩ := this
  exact ⟨⟨by omega, by omega⟩, fun u hu => by have := q3 u hu; omega, fun u hu => by have := q4 u hu; omega⟩
theorem stacksRun (x0 x1 x2 x3 : AV) (h0 : ArgOf Tryz.prog 25 x0) (h1 : ArgOf Tryz.prog 26 x1) (h2 : ArgOf Tryz.prog 26 x2) (h3 : ArgOf Tryz.prog 26 x3) (hb : AV.szL [x0, x1, x2, x3] ≤ 1048576) : ∃ n rd s', callA E0 n none (.fn 3 [] []) [x0, x1, x2, x3] st0 = some (.ret (.bool true), rd, s') := by
  obtain ⟨ps, os, hst⟩ := store25 h0
  obtain ⟨key, hkey⟩ := arg26 h1
  obtain ⟨value, hvalue⟩ := arg26 h2
  obtain ⟨other, hother⟩ := arg26 h3
  have hE : E0.fns = Table.fn D.table := rfl
  have hmm : most = 1073741824 := rfl
  have hmx : maxLen = 9223372036854775807 := rfl
  simp only [AV.szL] at hb
  obtain ⟨q1, q2, q3⟩ := store_sz hst
  obtain ⟨k1, k2⟩ := hkey.sz
  obtain ⟨v1, v2⟩ := hvalue.sz
  obtain ⟨o1, o2⟩ := hother.sz
  obtain ⟨K, hK⟩ := D.law_run hE D.prB ⟨_, D.fn_awake⟩ (M := 1048576) hst hkey hvalue hother ⟨by omega, by omega, fun p hp => ⟨by have := (q3 p hp).1.1; omega, by have := (q3 p hp).1.2; omega⟩⟩ (Nat.le_refl _) (fun p hp => ⟨by have := (q3 p hp).1.1; omega, by have := (q3 p hp).1.2; omega⟩)
    (fun p hp => ⟨fun u hu => by have := (q3 p hp).2.1 u hu; omega, fun u hu => by have := (q3 p hp).2.2 u hu; omega⟩) (by omega) (by omega) (by omega) (fun u hu => by have := k2 u hu; omega) (fun u hu => by have := v2 u hu; omega) (fun u hu => by have := o2 u hu; omega)
  exact ⟨K, false, st0, hK⟩
theorem plain (f : FuncId) (fn : Func) (hf : Tryz.pinned.checked.prog.funcNamed "chiasmus/chiasmuslaw10.BuiltinStacks" = some f) (hfn : Tryz.pinned.checked.prog.funcs[f]? = some fn) :
    true = Tryz.pinned.checked.prog.looks [] ∧ ∀ (j : Nat) t, fn.params[j]? = some t → Tryz.pinned.checked.prog.wantsStandIn t = false := by
  obtain rfl : f = 3 := Option.some.inj ((show Tryz.prog.funcNamed "chiasmus/chiasmuslaw10.BuiltinStacks" = some 3 by kernel_rfl).symm.trans hf) |>.symm
  obtain rfl : fn = Tryz.f3 := (Option.some.inj (Tryz.func3.symm.trans hfn)).symm
  refine ⟨by kernel_rfl, fun j t ht => ?_⟩
  have hall : (Tryz.f3.params.toList.all fun t => Tryz.prog.wantsStandIn t == false) = true := by kernel_rfl
  have := List.all_eq_true.1 hall t (Array.mem_toList_iff.2 (Array.mem_of_getElem? ht))
  exact (show Tryz.prog.wantsStandIn t = false by simpa using this)
theorem builtinStacks_holds : Rows.BuiltinStacksUptoCardSaid :=
  Claim7.holds_tied_plain_at .later [] _ _ _ _ (saidUpto stacksRun) (fun _ h => by cases h) (by kernel_rfl) (fun _ h => by cases h) builtinStacksUpto_row_tie rfl ⟨rfl, rfl⟩ (by kernel_rfl) rfl plain (by kernel_rfl)
#print axioms builtinStacks_holds
end Go.Proofs.YtengohlmonphiaaGreatDoor
