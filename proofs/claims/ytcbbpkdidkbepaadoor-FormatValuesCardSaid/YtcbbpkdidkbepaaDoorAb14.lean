/- The row of FormatValues out of an abstract law. Its condition: the law. -/
import Derived.Test.YtcbbpkdidkbepaaDoorRows
import Derived.Test.YtcbbpkdidkbepaaDoorAb13
import Derived.Test.YtcbbpkdidkbepaaDoorAb08
import Derived.ProofKit
import Derived.OpenShut
import Derived.ChangeOld
import Derived.Below
import Derived.SizedLaws
import Derived.Handed
import Derived.Lib.LaidIn
import Derived.Lib.LaidTab
set_option linter.all false
namespace Go.Proofs.YtcbbpkdidkbepaaDoor
open Go.ChangeShapes Go.WideShapes Go.ChangeAt Go.RowKit Ab
set_option linter.unusedVariables false
set_option linter.constructorNameAsVariable false
set_option maxRecDepth 100000

theorem own : ownKnob Tryd.prog.godebug = none := by kernel_rfl
theorem laidOut : laidOutB Tryd.prog = true := by kernel_rfl
def E0 : IEnv := { fns := Table.fn R.table, glob := fun _ => .junk, prim := fun _ _ => none }
theorem envOk (W : World) : EnvOk Tryd.prog (selfLink W) E0 := ⟨fun _ _ h => h, fns_of_tab (R.tab_ok W), fun f args v _ h => by cases h⟩
theorem glR (W : World) : GlR (selfLink W) E0 (g0 W) W := ⟨fun n => by simp [E0, Rep], rfl, Below.refl _ _⟩
theorem closed : closedT Tryd.prog [22, 39, 3, 9] = true := by kernel_rfl
theorem und22 : Tryd.prog.underlying 22 = some (.slice 39) := by kernel_rfl
theorem und4 : Tryd.prog.underlying 4 = some .bool := by kernel_rfl

def litCells {H : Type} : DataW H → Array Value
  | .agg l => (l.map fun | .lit (.int k n) => Value.int k n | _ => .bool false).toArray
  | _ => #[]
noncomputable def laidWorld (os : Os) : World :=
  let w0 := World.holding Tryd.prog os ⟨#[], #[], []⟩
  let put (h : Array Obj) (x : String × DataW Unit) : Array Obj := match Tryd.prog.globalNamed x.1 with
    | some g => h.modify g fun
      | .cells _ t frozen => .cells (litCells x.2) t frozen
      | o => o
    | none => h
  { w0 with heap := Rows.formatValuesRow.laid.foldl put w0.heap }
theorem laidWorld_met (os : Os) (args : Array Value) : laidMetH Tryd.prog Rows.formatValuesRow.laid ((laidWorld os).forCall (fun _ _ => 0) ⟨#[], args, []⟩).memory :=
  (LaidIn.of_run ((Rows.formatValuesRow.laid.map fun x => (Tryd.prog.globalNamed x.1).getD 0)) 8 (by kernel_rfl) (by kernel_rfl) (by kernel_rfl) (by kernel_rfl)).met

/- one argument of type 22 -/
theorem open22 {H : Type} {enc : TypeId × Value → H} {W : World} {v : Value} {d : DataW H} {p : List MemPlace} {base : Nat} (hv : Value.okWide Tryd.prog W .any base 22 v) (h : DataW.Trod enc Tryd.prog W 0 (fun _ => true) true 22 v d p) :
    ∃ x, Rep (selfLink W).toLk (g0 W) W x v ∧ Of Tryd.prog 22 [x] := by
  obtain ⟨a, len, cap, rfl⟩ := okWide_slice und22 hv
  obtain ⟨fuel, hf⟩ := h
  obtain ⟨xs, h1, h2, h3, h4⟩ := open_trod closed (L := (selfLink W).toLk) fuel 22 _ d p (by simp) hf
  obtain ⟨x, rfl⟩ := of_one und22 rfl h4
  simp only [Value.cells, RepL] at h1
  obtain ⟨v, r, e, h5, _⟩ := h1
  simp at e
  obtain ⟨rfl, rfl⟩ := e
  exact ⟨x, h5, h4⟩

set_option maxRecDepth 100000 in
theorem lifted (law : ∀ x y z, Of Tryd.prog 22 [x] → Of Tryd.prog 22 [y] → Of Tryd.prog 22 [z] → ∃ n rd s', callA E0 n none (.fn 4 [] []) [x, y, z] st0 = some (.ret (.bool true), rd, s')) (os : Os) (started : os.Started) (H : Type) (enc : TypeId × Value → H) :
    ReturnsInHanded {} Tryd.checked os 4 .any (fun w args => (Rows.formatValuesSpec.pre enc Tryd.prog Tryd.f4 [] false w args ∧ laidMetH Tryd.prog Rows.formatValuesRow.laid w) ∧ sizedMet enc Tryd.prog Tryd.f4 (OpenSpec.ofChange Rows.formatValuesSpec) false w args)
      (Rows.formatValuesSpec.post enc Tryd.prog Tryd.f4 false true false false) := by
  refine returnsInHanded_of_change_and (C := Tryd.checked) (X := fun w _ => laidMetH Tryd.prog Rows.formatValuesRow.laid w) (fun _ _ _ hh h => h.of_heap hh) own started (by kernel_rfl) Tryd.func4
    (ChangeSpec.witness_at (enc := enc) (C := Tryd.checked) (os := os) (X := fun w _ => laidMetH Tryd.prog Rows.formatValuesRow.laid w) false (laidWorld os) #[.slice none 0 0, .slice none 0 0, .slice none 0 0] 8 rfl (by kernel_rfl) (by kernel_rfl) (by kernel_rfl) (by kernel_rfl) (by kernel_rfl) (laidWorld_met os _)) ?_
  intro W base args ds gs before hval0 hW _ _ hL _
  have hval : ∀ (j : Nat) t v, Tryd.f4.params[j]? = some t → args[j]? = some v → Value.okWide Tryd.prog W .any base t v := hval0
  have hW' := hW
  obtain ⟨p, q, hA0, hV, rfl, hfz, hnd⟩ := hW
  have hA : DataW.TrodAll enc Tryd.prog W 0 (fun _ => true) true Tryd.f4.params.toList args.toList ds p := hA0
  rw [Tryd.params4] at hA hval
  obtain ⟨v0, vs0, d0, ds0, p0, q0, hargs, rfl, rfl, h0, r0⟩ := trodAll_cons hA
  obtain ⟨v1, vs1, d1, ds1, p1, q1, rfl, rfl, rfl, h1, r1⟩ := trodAll_cons r0
  obtain ⟨v2, vs2, d2, ds2, p2, q2, rfl, rfl, rfl, h2, r2⟩ := trodAll_cons r1
  obtain ⟨rfl, rfl, rfl⟩ := trodAll_nil r2
  obtain rfl : args = #[v0, v1, v2] := by cases args; simp_all
  obtain ⟨rfl, rfl⟩ := trodVars_none hV
  obtain ⟨x, hx, ox⟩ := open22 (hval 0 22 v0 rfl rfl) h0
  obtain ⟨y, hy, oy⟩ := open22 (hval 1 22 v1 rfl rfl) h1
  obtain ⟨z, hz, oz⟩ := open22 (hval 2 22 v2 rfl rfl) h2
  have lt0 : ∀ x ∈ p0, x.block < W.heap.size := by obtain ⟨m, hm⟩ := h0; exact DataW.trod_lt m _ _ _ hm
  have lt1 : ∀ x ∈ p1, x.block < W.heap.size := by obtain ⟨m, hm⟩ := h1; exact DataW.trod_lt m _ _ _ hm
  have lt2 : ∀ x ∈ p2, x.block < W.heap.size := by obtain ⟨m, hm⟩ := h2; exact DataW.trod_lt m _ _ _ hm
  clear hA0 hval0
  obtain ⟨n, rd, s', hlaw⟩ := law x y z ox oy oz
  have hc := calls_true (envOk W) hlaw (by decide +kernel) (glR W) (cargs := [v0, v1, v2]) (by simp only [RepL]; exact ⟨_, _, rfl, hx, _, _, rfl, hy, _, _, rfl, hz, rfl⟩)
  refine Calls.mono hc fun e W' ⟨he, bel⟩ => ?_
  subst he
  exact ⟨_, rfl, _, _, _, [], _, [], hW', trodAll_mk1 (shut_bool und4 _), (trodAll_cons_mk (Below.trod laidOut (by kernel_rfl) (of_decide_eq_true (by kernel_rfl)) h0 bel lt0) (trodAll_cons_mk (Below.trod laidOut (by kernel_rfl) (of_decide_eq_true (by kernel_rfl)) h1 bel lt1) (trodAll_cons_mk (Below.trod laidOut (by kernel_rfl) (of_decide_eq_true (by kernel_rfl)) h2 bel lt2) trodAll_mk0))), rfl, bel.frame _, fun h => by cases h⟩

theorem over (law : ∀ x y z, Of Tryd.prog 22 [x] → Of Tryd.prog 22 [y] → Of Tryd.prog 22 [z] → ∃ n rd s', callA E0 n none (.fn 4 [] []) [x, y, z] st0 = some (.ret (.bool true), rd, s')) : Rows.FormatValuesSaid :=
  OpenClaim.holds_of_wide 4 Tryd.f4 rfl rfl rfl rfl rfl rfl rfl ⟨rfl, rfl, rfl, rfl, rfl⟩ rfl rfl rfl rfl rfl (by kernel_rfl) Tryd.func4 (by kernel_rfl)
    (of_decide_eq_true (by kernel_rfl)) (by unfold Func.isWrapper; first | (rw [if_pos (by decide +kernel)]; kernel_rfl) | (rw [if_neg (by decide +kernel)]; exact ⟨rfl, rfl⟩))
    (fun os started H enc _ => lifted law os started H enc)
end Go.Proofs.YtcbbpkdidkbepaaDoor
