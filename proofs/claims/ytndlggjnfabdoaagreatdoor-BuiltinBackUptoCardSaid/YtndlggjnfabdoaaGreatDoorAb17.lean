/- The row of BuiltinBack out of an abstract law, where what it reads is of bulk at most 1048576. Its condition: the law. -/
import Derived.Test.YtndlggjnfabdoaaGreatDoorAb16
set_option linter.all false
namespace Go.Proofs.YtndlggjnfabdoaaGreatDoor
open Go.ChangeShapes Go.WideShapes Go.ChangeAt Go.RowKit Ab
set_option linter.all false
set_option maxRecDepth 100000
theorem liftedUpto (law : ∀ x0 x1, ArgOf Tryz.prog 22 x0 → ArgOf Tryz.prog 5 x1 → AV.szL [x0, x1] ≤ 1048576 → ∃ n rd s', callA E0 n none (.fn 3 [] []) [x0, x1] st0 = some (.ret (.bool true), rd, s')) (os : Os) (started : os.Started) (H : Type) (enc : TypeId × Value → H) (F : Stop.Interp) :
    ReturnsInHanded {} Tryz.checked os 3 .any ((Rows.OpenSpec.upto Rows.builtinBackSpec).preRow enc Tryz.prog Tryz.f3 Rows.builtinBackUptoRow.domain false Rows.builtinBackUptoRow.laid) (((Rows.OpenSpec.upto Rows.builtinBackSpec).at F).post enc Tryz.prog Tryz.f3 false true false false) := by
  obtain ⟨places, hx⟩ := reads os enc
  refine returnsInHanded_of_row (C := Tryz.checked) (s := Rows.OpenSpec.upto Rows.builtinBackSpec) own started (by kernel_rfl) Tryz.func3
    (witness_row_atRef (enc := enc) (C := Tryz.checked) false (laidWorld os) #[.slice none 0 0, .int .u8 0] rfl (by kernel_rfl) (by kernel_rfl) (by kernel_rfl)
      (OpenSpec.preRow_of_cond 8 hx (by kernel_rfl) (fun k hk => by cases hk; kernel_rfl) (by kernel_rfl) (laid_met os _))) ?_
  intro W base args ds gs before hval0 hW _ hcond _ hL _ _
  have hval : ∀ (j : Nat) t v, Tryz.f3.params[j]? = some t → args[j]? = some v → Value.okWide Tryz.prog W .any base t v := hval0
  have hW' := hW
  obtain ⟨p, q, hA0, hV, rfl, hfz, hnd⟩ := hW
  have hA : DataW.TrodAll enc Tryz.prog W 0 (fun _ => true) true Tryz.f3.params.toList args.toList ds p := hA0
  rw [Tryz.params3] at hA hval
  obtain ⟨rfl, rfl⟩ := trodVars_none hV
  have hA2 := hA
  obtain ⟨v0, vs0, d0, ds0, p0, q0, hargs, hds, _, h0', r0⟩ := trodAll_cons hA2
  obtain ⟨v1, vs1, d1, ds1, p1, q1, rfl, rfl, _, h1', r1⟩ := trodAll_cons r0
  obtain ⟨_, rfl, _⟩ := trodAll_nil r1
  have hk := hcond _ rfl
  simp only [List.append_nil] at hk
  have hb : bulkL ds ≤ 1048576 := by rw [bulk2]; exact of_decide_eq_true hk
  obtain ⟨xs, h1, h2, h3⟩ := args_open closed (L := (Ab.U.varLink W).toLk) (ts := [22,5]) (vs := args.toList) (by kernel_rfl) (fun j t v ht hv => hval j t v (by simpa using ht) (by simpa using hv)) hA
  have hlaw : ∃ n rd s', callA E0 n none (.fn 3 [] []) xs st0 = some (.ret (.bool true), rd, s') := by
    match xs, h2, h3 with
    | [x0, x1], h2, h3 => exact law x0 x1 h2.1 h2.2.1 (by omega)
  obtain ⟨n, rd, s', hlaw⟩ := hlaw
  have hc := calls_true (envOk W) hlaw (by decide +kernel) (glR W) (cargs := args.toList) h1
  refine Calls.mono hc fun e W' ⟨he, bel⟩ => ?_
  subst he
  subst hds
  have hsh := args_shut (ts := [22,5]) laidOut bel (by kernel_rfl) hA
  exact ⟨_, rfl, _, _, _, [], _, [], hW', trodAll_mk1 (shut_bool und4 _), hsh, rfl, bel.frame _, fun h => by cases h⟩

theorem saidUpto (law : ∀ x0 x1, ArgOf Tryz.prog 22 x0 → ArgOf Tryz.prog 5 x1 → AV.szL [x0, x1] ≤ 1048576 → ∃ n rd s', callA E0 n none (.fn 3 [] []) [x0, x1] st0 = some (.ret (.bool true), rd, s')) : Rows.BuiltinBackUptoSaid :=
  OpenClaim.holds_of_cond 3 Tryz.f3 rfl rfl rfl rfl rfl rfl rfl ⟨rfl, rfl, rfl, rfl, rfl⟩ rfl rfl rfl rfl rfl (by kernel_rfl) Tryz.func3 (joined_parts part0 part1 part2 rfl rfl part4 (by kernel_rfl) (by kernel_rfl) (by kernel_rfl))
    (of_decide_eq_true (by kernel_rfl)) (by unfold Func.isWrapper; first | (rw [if_pos (by decide +kernel)]; kernel_rfl) | (rw [if_neg (by decide +kernel)]; exact ⟨rfl, rfl⟩))
    (fun os started H enc _ F => by rw [OpenClaim.pre_eq_preRow]; exact liftedUpto law os started H enc F)
end Go.Proofs.YtndlggjnfabdoaaGreatDoor
