/- The closed facts of a row: BuiltinBack, where what it reads is of bulk at most 1048576. No condition. -/
import Derived.Test.YtndlggjnfabdoaaGreatDoorRows
import Derived.Test.YtndlggjnfabdoaaGreatDoorAb15
import Derived.ProofKit
import Derived.OpenShut
import Derived.SizedLaws
import Derived.Handed
import Derived.Lib.LaidIn
import Derived.Lib.LaidTab
import Derived.Deep.DeepHandedRow
import Derived.Deep.DeepWitnessRowRef
set_option linter.all false
namespace Go.Proofs.YtndlggjnfabdoaaGreatDoor
open Go.ChangeShapes Go.WideShapes Go.ChangeAt Go.RowKit Ab
set_option linter.all false
set_option maxRecDepth 100000

theorem own : ownKnob Tryz.prog.godebug = none := by kernel_rfl
theorem laidOut : laidOutB Tryz.prog = true := by kernel_rfl
noncomputable abbrev E0 : IEnv := Ab.U.EP
theorem envOk (W : World) : EnvOk Tryz.prog (Ab.U.varLink W) E0 := Ab.U.envP W
theorem glR (W : World) : GlR (Ab.U.varLink W) E0 (g0 W) W := ⟨fun n => by simp [E0, Ab.U.EP, Rep], fun n => .inl rfl, Nat.le_refl _, Below.refl _ _⟩
theorem closed : closedT Tryz.prog [22, 37, 3, 9, 5] = true := by kernel_rfl
theorem und4 : Tryz.prog.underlying 4 = some .bool := by kernel_rfl

mutual
theorem bulk1 {H : Type} : ∀ d : DataW H, bulkD d = Rows.uptoBulk d
  | .lit l => by cases l <;> simp only [bulkD, Rows.uptoBulk]
  | .nil => by simp only [bulkD, Rows.uptoBulk]
  | .ptr d => by simp only [bulkD, Rows.uptoBulk, bulk1 d]
  | .slice a b => by simp only [bulkD, Rows.uptoBulk, bulk2 a, bulk2 b]
  | .agg a => by simp only [bulkD, Rows.uptoBulk, bulk2 a]
  | .iface _ d => by simp only [bulkD, Rows.uptoBulk, bulk1 d]
  | .map a => by simp only [bulkD, Rows.uptoBulk, bulk3 a]
  | .held _ => by simp only [bulkD, Rows.uptoBulk]
theorem bulk2 {H : Type} : ∀ l : List (DataW H), bulkL l = Rows.uptoBulkAll l
  | [] => by simp only [bulkL, Rows.uptoBulkAll]
  | d :: l => by simp only [bulkL, Rows.uptoBulkAll, bulk1 d, bulk2 l]
theorem bulk3 {H : Type} : ∀ l : List (Lit × DataW H), bulkE l = Rows.uptoBulkEntries l
  | [] => by simp only [bulkE, Rows.uptoBulkEntries]
  | d :: l => by simp only [bulkE, Rows.uptoBulkEntries, bulk4 d, bulk3 l]
theorem bulk4 {H : Type} : ∀ x : Lit × DataW H, bulkF x = Rows.uptoBulkEntry x
  | (l, d) => by cases l <;> simp only [bulkF, Rows.uptoBulkEntry, bulk1 d]
end

noncomputable def laidWorld (os : Os) : World := layW Tryz.prog os (fun _ => (226, 228)) Rows.builtinBackUptoRow.laid
noncomputable abbrev N0 : Nat := (World.settled Tryz.prog default).heap.size
theorem laid_met (os : Os) (args : Array Value) : laidMet Tryz.prog Rows.builtinBackUptoRow.laid ((laidWorld os).forCall (fun _ _ => 0) ⟨#[], args, []⟩).memory :=
  (LaidIn.of_run ((Rows.builtinBackUptoRow.laid.map fun x => (Tryz.prog.globalNamed x.1).getD 0) ++ (List.range 30).map (N0 + ·)) 8 (by kernel_rfl) (by kernel_rfl) (by kernel_rfl) (by kernel_rfl)).met
theorem reads (os : Os) {H : Type} (enc : TypeId × Value → H) : ∃ places, DataW.whole enc Tryz.prog ((laidWorld os).forCall (fun _ _ => 0) ⟨#[], #[.slice none 0 0, .int .u8 0], []⟩).memory Tryz.f3.params.toList Rows.builtinBackSpec.vars false (#[.slice none 0 0, .int .u8 0] : Array Value).toList 8 = some ([.nil, .lit (.int .u8 0)], [], places) :=
  ⟨[], by kernel_rfl⟩

theorem part0 : (Rows.builtinBackUptoRow.wf (OpenSpec.ofChange (Rows.OpenSpec.upto Rows.builtinBackSpec).bare) && laidOutB Tryz.pinned.checked.prog && mapsRowed Tryz.pinned.checked.prog && Tryz.f3.params.all (Tryz.pinned.checked.prog.readableRec ·) && namedTie Tryz.pinned.checked.prog Rows.builtinBackUptoRow.named (Rows.OpenSpec.upto Rows.builtinBackSpec).bare.vars && (Rows.builtinBackUptoRow.stops == []) && (Tryz.pinned.checked.prog.stops == []) && (Rows.builtinBackUptoRow.knobs == []) && (Tryz.pinned.checked.prog.stopKnobs == [])) = true := by kernel_rfl
theorem part1 : Tryz.pinned.checked.prog.inPlace 3 = Rows.builtinBackUptoRow.inPlace := by kernel_rfl
theorem part2 : Tryz.pinned.checked.prog.unfollowed 3 = true := by kernel_rfl
theorem part4 : Tryz.pinned.checked.prog.varsNamed 3 = Rows.builtinBackUptoRow.named := by kernel_rfl
end Go.Proofs.YtndlggjnfabdoaaGreatDoor
