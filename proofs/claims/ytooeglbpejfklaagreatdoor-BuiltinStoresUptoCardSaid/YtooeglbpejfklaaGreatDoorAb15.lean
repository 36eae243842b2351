/- The card of BuiltinStores where what it reads is of bulk at most 1048576. Its condition: what the given card and row say. -/
import Derived.Test.YtooeglbpejfklaaGreatDoorAb10
import Derived.Test.YtooeglbpejfklaaGreatDoorAb14
import Derived.Test.YtooeglbpejfklaaGreatDoorCards
import Derived.Test.YtooeglbpejfklaaGreatDoorTie
import Derived.SevenTiedAt
set_option linter.all false
namespace Go.Proofs.YtooeglbpejfklaaGreatDoor
open Ab Go
set_option linter.all false
set_option maxRecDepth 100000
theorem look37 : fieldsAre Tryz.prog 37 [3, 9, 22] = true := by kernel_rfl
theorem look72 : fieldsAre Tryz.prog 72 [22, 22] = true := by kernel_rfl
theorem look45 : fieldsAre Tryz.prog 45 [43, 34] = true := by kernel_rfl
theorem und3 : Tryz.prog.underlying 3 = some (.int .i64) := by kernel_rfl
theorem und9 : Tryz.prog.underlying 9 = some .string := by kernel_rfl
theorem und22 : Tryz.prog.underlying 22 = some (.slice 37) := by kernel_rfl
theorem und34 : Tryz.prog.underlying 34 = some (.slice 9) := by kernel_rfl
theorem und43 : Tryz.prog.underlying 43 = some (.slice 72) := by kernel_rfl
theorem cells37 : Tryz.prog.cellsOf 37 = 3 := by kernel_rfl
theorem cells72 : Tryz.prog.cellsOf 72 = 2 := by kernel_rfl
theorem cells9 : Tryz.prog.cellsOf 9 = 1 := by kernel_rfl
theorem agg22 : (isAggP Tryz.prog 22).getD false = false := by kernel_rfl
theorem agg72 : (isAggP Tryz.prog 72).getD false = true := by kernel_rfl
theorem agg9 : (isAggP Tryz.prog 9).getD false = false := by kernel_rfl
theorem agg45 : (isAggP Tryz.prog 45).getD false = true := by kernel_rfl
theorem list22 {x : AV} (h : Of Tryz.prog 22 [x]) : ∃ us, Sl us x := by
  obtain ⟨fs, hs, hf⟩ := look_of look37
  obtain ⟨us, o, ys, e, h1, h2⟩ := (terms_of und22 hs hf und3 und9 cells37 h).1 rfl
  cases e
  exact ⟨us, o, ys, rfl, h1, h2⟩
theorem term22 {xs : List AV} (h : Of Tryz.prog 22 xs) : ∃ x us, xs = [x] ∧ Sl us x := by
  obtain ⟨x, rfl⟩ := of_one und22 rfl h
  obtain ⟨us, hus⟩ := list22 h
  exact ⟨x, us, rfl, hus⟩
theorem arg22 {x : AV} (h : ArgOf Tryz.prog 22 x) : ∃ us, Sl us x := by
  unfold ArgOf at h
  rw [agg22] at h
  exact list22 h
theorem bur72 {xs : List AV} (h : Of Tryz.prog 72 xs) : ∃ p, B.Bu p (.agg xs) := by
  obtain ⟨fs, hs, hf⟩ := look_of look72
  obtain ⟨xss, hl, hx, rfl⟩ := of_struct hs h
  obtain ⟨l⟩ := fs
  match l, hf with
  | [f0, f1], hf =>
    simp only [List.map_cons, List.map_nil, List.cons.injEq, and_true] at hf
    match xss, hl with
    | [x0, x1], _ =>
      have h0 := hx 0 f0 x0 rfl rfl
      have h1 := hx 1 f1 x1 rfl rfl
      rw [hf.1] at h0
      rw [hf.2] at h1
      obtain ⟨a, u, rfl, hu⟩ := term22 h0
      obtain ⟨b, w, rfl, hw⟩ := term22 h1
      exact ⟨(u, w), a, b, rfl, hu, hw⟩
theorem burs43 {xs : List AV} (h : Of Tryz.prog 43 xs) : ∃ ps o ys, xs = [.sl o 2 ys] ∧ All2 B.Bu ps ys ∧ (o = .nil → ys = []) := by
  rcases of_slice und43 h with rfl | ⟨yss, hy, _, rfl⟩
  · exact ⟨[], .nil, [], by rw [cells72], by simp [All2], fun _ => rfl⟩
  · rw [cells72, agg72]
    obtain ⟨ps, hps⟩ := all2_mk (R := B.Bu) (g := elemAV true) (l := yss) fun ys hys => by
      obtain ⟨p, hp⟩ := bur72 (hy ys hys)
      exact ⟨p, by simpa [elemAV] using hp⟩
    exact ⟨ps, .any, _, rfl, hps, fun h => by cases h⟩
theorem strs34 {xs : List AV} (h : Of Tryz.prog 34 xs) : ∃ os o ys, xs = [.sl o 1 ys] ∧ All2 B.IsS os ys ∧ (o = .nil → ys = []) := by
  rcases of_slice und34 h with rfl | ⟨yss, hy, _, rfl⟩
  · exact ⟨[], .nil, [], by rw [cells9], by simp [All2], fun _ => rfl⟩
  · rw [cells9, agg9]
    obtain ⟨ps, hps⟩ := all2_mk (R := B.IsS) (g := elemAV false) (l := yss) fun ys hys => by
      obtain ⟨s, rfl, _⟩ := of_string und9 (hy ys hys)
      exact ⟨s, by simp [elemAV, B.IsS]⟩
    exact ⟨ps, .any, _, rfl, hps, fun h => by cases h⟩
theorem store45 {x : AV} (h : ArgOf Tryz.prog 45 x) : ∃ ps os, B.Sto ps os x := by
  unfold ArgOf at h
  rw [agg45] at h
  obtain ⟨xs, rfl, ho⟩ := h
  obtain ⟨fs, hs, hf⟩ := look_of look45
  obtain ⟨xss, hl, hx, rfl⟩ := of_struct hs ho
  obtain ⟨l⟩ := fs
  match l, hf with
  | [f0, f1], hf =>
    simp only [List.map_cons, List.map_nil, List.cons.injEq, and_true] at hf
    match xss, hl with
    | [x0, x1], _ =>
      have h0 := hx 0 f0 x0 rfl rfl
      have h1 := hx 1 f1 x1 rfl rfl
      rw [hf.1] at h0
      rw [hf.2] at h1
      obtain ⟨ps, o, ys, rfl, a1, a2⟩ := burs43 h0
      obtain ⟨os, o', ys', rfl, b1, b2⟩ := strs34 h1
      exact ⟨ps, os, o, ys, o', ys', rfl, a1, b1, a2, b2⟩
theorem store_sz {ps : List B.Bur} {os : List (List UInt8)} {v : AV} (h : B.Sto ps os v) : ps.length ≤ AV.sz v ∧ os.length ≤ AV.sz v ∧ ∀ p ∈ ps, (nTs p.1 < AV.sz v ∧ nTs p.2 < AV.sz v) ∧ B.Shorts (AV.sz v) p.1 ∧ B.Shorts (AV.sz v) p.2 := by
  obtain ⟨ob, xs, oo, ys, rfl, hx, hy, _, _⟩ := h
  have l1 := hx.length
  have l2 := hy.length
  have g1 := length_le_szL xs
  have g2 := length_le_szL ys
  simp only [AV.sz, AV.szL]
  refine ⟨by omega, by omega, fun p hp => ?_⟩
  have := all2_sz (R := B.Bu) (Q := fun p n => (nTs p.1 < n ∧ nTs p.2 < n) ∧ B.Shorts n p.1 ∧ B.Shorts n p.2) (by
    rintro p y ⟨a, b, rfl, ha, hb⟩
    obtain ⟨s1, s2⟩ := ha.sz
    obtain ⟨t1, t2⟩ := hb.sz
    simp only [AV.sz, AV.szL]
    exact ⟨⟨by omega, by omega⟩, fun u hu => by have := s2 u hu; omega, fun u hu => by have := t2 u hu; omega⟩) (by
    rintro p m n ⟨⟨q1, q2⟩, q3, q4⟩ hmn
    exact ⟨⟨by omega, by omega⟩, fun u hu => by have := q3 u hu; omega, fun u hu => by have := q4 u hu; omega⟩) hx p hp
  obtain ⟨⟨q1, q2⟩, q3, q4⟩ := this
  exact ⟨⟨by omega, by omega⟩, fun u hu => by have := q3 u hu; omega, fun u hu => by have := q4 u hu; omega⟩
theorem storesRun (x0 x1 : AV) (h0 : ArgOf Tryz.prog 45 x0) (h1 : ArgOf Tryz.prog 22 x1) (hb : AV.szL [x0, x1] ≤ 1048576) : ∃ n rd s', callA E0 n none (.fn 6 [] []) [x0, x1] st0 = some (.ret (.bool true), rd, s') := by
  obtain ⟨ps, os, hst⟩ := store45 h0
  obtain ⟨key, hkey⟩ := arg22 h1
  have hE : E0.fns = Table.fn B.table := rfl
  have hmm : most = 1073741824 := rfl
  have hmx : maxLen = 9223372036854775807 := rfl
  simp only [AV.szL] at hb
  obtain ⟨q1, q2, q3⟩ := store_sz hst
  obtain ⟨k1, k2⟩ := hkey.sz
  obtain ⟨K, hK⟩ := B.fn_Stores hE ⟨_, B.fn_awake⟩ (M := 1048576) ⟨by omega, by omega, fun p hp => ⟨by have := (q3 p hp).1.1; omega, by have := (q3 p hp).1.2; omega⟩⟩ (by omega) (fun p hp => ⟨by have := (q3 p hp).1.1; omega, by have := (q3 p hp).1.2; omega⟩)
    (fun p hp => ⟨fun u hu => by have := (q3 p hp).2.1 u hu; omega, fun u hu => by have := (q3 p hp).2.2 u hu; omega⟩) hst hkey (by omega) (fun u hu => by have := k2 u hu; omega)
  exact ⟨K, false, st0, hK K (Nat.le_refl _) st0⟩
theorem plain (f : FuncId) (fn : Func) (hf : Tryz.pinned.checked.prog.funcNamed "chiasmus/chiasmuslaw10.BuiltinStores" = some f) (hfn : Tryz.pinned.checked.prog.funcs[f]? = some fn) :
    true = Tryz.pinned.checked.prog.looks [] ∧ ∀ (j : Nat) t, fn.params[j]? = some t → Tryz.pinned.checked.prog.wantsStandIn t = false := by
  obtain rfl : f = 6 := Option.some.inj ((show Tryz.prog.funcNamed "chiasmus/chiasmuslaw10.BuiltinStores" = some 6 by kernel_rfl).symm.trans hf) |>.symm
  obtain rfl : fn = Tryz.f6 := (Option.some.inj (Tryz.func6.symm.trans hfn)).symm
  refine ⟨by kernel_rfl, fun j t ht => ?_⟩
  have hall : (Tryz.f6.params.toList.all fun t => Tryz.prog.wantsStandIn t == false) = true := by kernel_rfl
  have := List.all_eq_true.1 hall t (Array.mem_toList_iff.2 (Array.mem_of_getElem? ht))
  exact (show Tryz.prog.wantsStandIn t = false by simpa using this)
theorem builtinStores_holds : Rows.BuiltinStoresUptoCardSaid :=
  Claim7.holds_tied_plain_at .later [] _ _ _ _ (saidUpto storesRun) (fun _ h => by cases h) (by kernel_rfl) (fun _ h => by cases h) builtinStoresUpto_row_tie rfl ⟨rfl, rfl⟩ (by kernel_rfl) rfl plain (by kernel_rfl)
end Go.Proofs.YtooeglbpejfklaaGreatDoor
