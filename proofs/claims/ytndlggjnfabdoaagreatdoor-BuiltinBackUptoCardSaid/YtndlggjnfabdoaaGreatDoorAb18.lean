/- The card of BuiltinBack where what it reads is of bulk at most 1048576. Its condition: what the given card and row say. -/
import Derived.Test.YtndlggjnfabdoaaGreatDoorAb17
import Derived.Test.YtndlggjnfabdoaaGreatDoorAb15
import Derived.Test.YtndlggjnfabdoaaGreatDoorCards
import Derived.Test.YtndlggjnfabdoaaGreatDoorTie
import Derived.SevenTiedAt
set_option linter.all false
namespace Go.Proofs.YtndlggjnfabdoaaGreatDoor
open Ab Go
set_option linter.all false
set_option maxRecDepth 100000
theorem look37 : fieldsAre Tryz.prog 37 [3, 9, 22] = true := by kernel_rfl
theorem und3 : Tryz.prog.underlying 3 = some (.int .i64) := by kernel_rfl
theorem und5 : Tryz.prog.underlying 5 = some (.int .u8) := by kernel_rfl
theorem und9 : Tryz.prog.underlying 9 = some .string := by kernel_rfl
theorem und22 : Tryz.prog.underlying 22 = some (.slice 37) := by kernel_rfl
theorem cells37 : Tryz.prog.cellsOf 37 = 3 := by kernel_rfl
theorem agg22 : (isAggP Tryz.prog 22).getD false = false := by kernel_rfl
theorem agg5 : (isAggP Tryz.prog 5).getD false = false := by kernel_rfl
theorem arg22 {x : AV} (h : ArgOf Tryz.prog 22 x) : ∃ us, Sl us x := by
  unfold ArgOf at h
  rw [agg22] at h
  obtain ⟨fs, hs, hf⟩ := look_of look37
  obtain ⟨us, o, ys, e, h1, h2⟩ := (terms_of und22 hs hf und3 und9 cells37 h).1 rfl
  cases e
  exact ⟨us, o, ys, rfl, h1, h2⟩
theorem arg5 {x : AV} (h : ArgOf Tryz.prog 5 x) : ∃ n : Nat, n < 256 ∧ x = .int .u8 n := by
  unfold ArgOf at h
  rw [agg5] at h
  obtain ⟨n, e, hw⟩ := of_int und5 h
  cases e
  have hw' : 0 ≤ n ∧ n ≤ 255 := by
    simp only [Lit.wf, IntKind.min, IntKind.max] at hw
    simp only [(show IntKind.u8.signed = false from rfl), (show IntKind.u8.bits = 8 from rfl), Bool.false_eq_true, if_false, Bool.and_eq_true, decide_eq_true_eq] at hw
    omega
  obtain ⟨k, rfl⟩ := Int.eq_ofNat_of_zero_le hw'.1
  exact ⟨k, by omega, rfl⟩
theorem backRun (x0 x1 : AV) (h0 : ArgOf Tryz.prog 22 x0) (h1 : ArgOf Tryz.prog 5 x1) (hb : AV.szL [x0, x1] ≤ 1048576) : ∃ n rd s', callA E0 n none (.fn 3 [] []) [x0, x1] st0 = some (.ret (.bool true), rd, s') := by
  obtain ⟨ts, hts⟩ := arg22 h0
  obtain ⟨n, hn, rfl⟩ := arg5 h1
  have hE : E0.fns = Table.fn U.table := rfl
  simp only [AV.szL] at hb
  obtain ⟨k1, k2⟩ := hts.sz
  obtain ⟨K, hK⟩ := U.law_run hE U.handP hts (by omega) (fun u hu => by have := k2 u hu; omega) hn
  exact ⟨K, false, st0, hK⟩
theorem plain (f : FuncId) (fn : Func) (hf : Tryz.pinned.checked.prog.funcNamed "chiasmus/chiasmuslaw10.BuiltinBack" = some f) (hfn : Tryz.pinned.checked.prog.funcs[f]? = some fn) :
    true = Tryz.pinned.checked.prog.looks [] ∧ ∀ (j : Nat) t, fn.params[j]? = some t → Tryz.pinned.checked.prog.wantsStandIn t = false := by
  obtain rfl : f = 3 := Option.some.inj ((show Tryz.prog.funcNamed "chiasmus/chiasmuslaw10.BuiltinBack" = some 3 by kernel_rfl).symm.trans hf) |>.symm
  obtain rfl : fn = Tryz.f3 := (Option.some.inj (Tryz.func3.symm.trans hfn)).symm
  refine ⟨by kernel_rfl, fun j t ht => ?_⟩
  have hall : (Tryz.f3.params.toList.all fun t => Tryz.prog.wantsStandIn t == false) = true := by kernel_rfl
  have := List.all_eq_true.1 hall t (Array.mem_toList_iff.2 (Array.mem_of_getElem? ht))
  exact (show Tryz.prog.wantsStandIn t = false by simpa using this)
theorem builtinBack_holds : Rows.BuiltinBackUptoCardSaid :=
  Claim7.holds_tied_plain_at .later [] _ _ _ _ (saidUpto backRun) (fun _ h => by cases h) (by kernel_rfl) (fun _ h => by cases h) builtinBackUpto_row_tie rfl ⟨rfl, rfl⟩ (by kernel_rfl) rfl plain (by kernel_rfl)
#print axioms builtinBack_holds
end Go.Proofs.YtndlggjnfabdoaaGreatDoor
