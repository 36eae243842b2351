/- The closed facts of a row: BuiltinStacks, where what it reads is of bulk at most 1048576. No condition. -/
import Derived.Test.YtengohlmonphiaaGreatDoorRows
import Derived.Test.YtengohlmonphiaaGreatDoorAb16
import Derived.Test.YtengohlmonphiaaGreatDoorAb11
import Derived.ProofKit
import Derived.OpenShut
import Derived.SizedLaws
import Derived.Handed
import Derived.Lib.LaidIn
import Derived.Lib.LaidTab
import Derived.Deep.DeepHandedRow
import Derived.Deep.DeepWitnessRowRef
set_option linter.all false
namespace Go.Proofs.YtengohlmonphiaaGreatDoor
open Go.ChangeShapes Go.WideShapes Go.ChangeAt Go.RowKit Ab
set_option linter.all false
set_option maxRecDepth 100000

theorem own : ownKnob Tryz.prog.godebug = none := by kernel_rfl
theorem laidOut : laidOutB Tryz.prog = true := by kernel_rfl
noncomputable abbrev E0 : IEnv := Ab.D.EP
theorem envOk (W : World) : EnvOk Tryz.prog (Ab.D.varLink W) E0 := Ab.D.envP W
theorem glR (W : World) : GlR (Ab.D.varLink W) E0 (g0 W) W := ⟨fun n => by simp [E0, Ab.D.EP, Rep], fun n => .inl rfl, Nat.le_refl _, Below.refl _ _⟩
theorem closed : closedT Tryz.prog [25, 22, 50, 26, 35, 3, 9, 23] = true := by kernel_rfl
theorem und4 : Tryz.prog.underlying 4 = some .bool := by kernel_rfl

mutual
theorem bulk1 {H : Type} : ∀ d : DataW H, bulkD d = Rows.uptoBulk d
  | .lit l => by cases l <;> simp only [bulkD, Rows.uptoBulk]
  | .nil => by simp only [bulkD, Rows.uptoBulk]
  | .ptr d => by simp only [bulkD, Rows.uptoBulk, bulk1 d]
  | .slice a b => by simp only [bulkD, Rows.uptoBulk, bulk2 a, bulk2 b]
  | .agg a => by simp only [bulkD, Rows.uptoBulk, bulk2 a]
  | .iface _ d => by simp only [bulkD, Rows.uptoBulk, bulk1 d]
  | .map a => by simp only [bulkD, Rows.uptoBulk, bulk3 a]
  | .held _ => by simp only [bulkD, Rows.uptoBulk]
theorem bulk2 {H : Type} : ∀ l : List (DataW H), bulkL l = Rows.uptoBulkAll l
  | [] => by simp only [bulkL, Rows.uptoBulkAll]
  | d :: l => by simp only [bulkL, Rows.uptoBulkAll, bulk1 d, bulk2 l]
theorem bulk3 {H : Type} : ∀ l : List (Lit × DataW H), bulkE l = Rows.uptoBulkEntries l
  | [] => by simp only [bulkE, Rows.uptoBulkEntries]
  | d :: l => by simp only [bulkE, Rows.uptoBulkEntries, bulk4 d, bulk3 l]
theorem bulk4 {H : Type} : ∀ x : Lit × DataW H, bulkF x = Rows.uptoBulkEntry x
  | (l, d) => by cases l <;> simp only [bulkF, Rows.uptoBulkEntry, bulk1 d]
end

noncomputable def laidWorld (os : Os) : World := layW Tryz.prog os (fun _ => (234, 236)) Rows.builtinStacksUptoRow.laid
noncomputable abbrev N0 : Nat := (World.settled Tryz.prog default).heap.size
theorem laid_met (os : Os) (args : Array Value) : laidMet Tryz.prog Rows.builtinStacksUptoRow.laid ((laidWorld os).forCall (fun _ _ => 0) ⟨#[], args, []⟩).memory :=
  (LaidIn.of_run ((Rows.builtinStacksUptoRow.laid.map fun x => (Tryz.prog.globalNamed x.1).getD 0) ++ (List.range 30).map (N0 + ·)) 8 (by kernel_rfl) (by kernel_rfl) (by kernel_rfl) (by kernel_rfl)).met
theorem reads (os : Os) {H : Type} (enc : TypeId × Value → H) : ∃ places, DataW.whole enc Tryz.prog ((laidWorld os).forCall (fun _ _ => 0) ⟨#[], #[.agg #[.slice none 0 0, .slice none 0 0], .slice none 0 0, .slice none 0 0, .slice none 0 0], []⟩).memory Tryz.f3.params.toList Rows.builtinStacksSpec.vars false (#[.agg #[.slice none 0 0, .slice none 0 0], .slice none 0 0, .slice none 0 0, .slice none 0 0] : Array Value).toList 8 = some ([.agg [.nil, .nil], .nil, .nil, .nil], [], places) :=
  ⟨[], by kernel_rfl⟩

theorem part0 : (Rows.builtinStacksUptoRow.wf (OpenSpec.ofChange (Rows.OpenSpec.upto Rows.builtinStacksSpec).bare) && laidOutB Tryz.pinned.checked.prog && mapsRowed Tryz.pinned.checked.prog && Tryz.f3.params.all (Tryz.pinned.checked.prog.readableRec ·) && namedTie Tryz.pinned.checked.prog Rows.builtinStacksUptoRow.named (Rows.OpenSpec.upto Rows.builtinStacksSpec).bare.vars && (Rows.builtinStacksUptoRow.stops == []) && (Tryz.pinned.checked.prog.stops == []) && (Rows.builtinStacksUptoRow.knobs == []) && (Tryz.pinned.checked.prog.stopKnobs == [])) = true := by kernel_rfl
theorem part1 : Tryz.pinned.checked.prog.inPlace 3 = Rows.builtinStacksUptoRow.inPlace := by kernel_rfl
theorem part2 : Tryz.pinned.checked.prog.unfollowed 3 = true := by kernel_rfl
theorem part4 : Tryz.pinned.checked.prog.varsNamed 3 = Rows.builtinStacksUptoRow.named := by kernel_rfl
end Go.Proofs.YtengohlmonphiaaGreatDoor
