/- The row of TypesLeft out of an abstract law, where what it reads is of bulk at most 1048576. Its condition: the law. -/
import Derived.Test.YtbncnjpohgbgjaaGreatRows
import Derived.Test.YtbncnjpohgbgjaaGreatAb17
import Derived.Test.YtbncnjpohgbgjaaGreatAb10
import Derived.Test.YtbncnjpohgbgjaaGreatAb18
import Derived.ProofKit
import Derived.OpenShut
import Derived.JoinedCond
import Derived.SizedLaws
import Derived.Handed
set_option linter.all false
set_option maxHeartbeats 8000000
namespace Go.Proofs.YtbncnjpohgbgjaaGreat
open Go.ChangeShapes Go.WideShapes Go.ChangeAt Go.RowKit Ab
set_option maxRecDepth 100000
theorem own : ownKnob Tryz.prog.godebug = none := by kernel_rfl
theorem Sr : laidOutB Tryz.prog = true := by kernel_rfl
theorem Vp (W : World) : Bv (C.iU W) C.EP (g0 W) W := ⟨fun n => by simp [C.EP, ay], fun n => .inl rfl, Nat.le_refl _, Below.refl _ _⟩
theorem Tw : Fw Tryz.prog [22, 41, 3, 9] = true := by kernel_rfl
theorem Vk : Tryz.prog.underlying 4 = some .bool := by kernel_rfl
mutual
theorem Oe {H : Type} : ∀ d : DataW H, li d = Rows.uptoBulk d
 | .lit l => by cases l <;> simp only [li, Rows.uptoBulk]
 | .nil => by simp only [li, Rows.uptoBulk]
 | .ptr d => by simp only [li, Rows.uptoBulk, Oe d]
 | .slice a b => by simp only [li, Rows.uptoBulk, K5 a, K5 b]
 | .agg a => by simp only [li, Rows.uptoBulk, K5 a]
 | .iface _ d => by simp only [li, Rows.uptoBulk, Oe d]
 | .map a => by simp only [li, Rows.uptoBulk, SU a]
 | .held _ => by simp only [li, Rows.uptoBulk]
theorem K5 {H : Type} : ∀ l : List (DataW H), rT l = Rows.uptoBulkAll l
 | [] => by simp only [rT, Rows.uptoBulkAll]
 | d :: l => by simp only [rT, Rows.uptoBulkAll, Oe d, K5 l]
theorem SU {H : Type} : ∀ l : List (Lit × DataW H), K6 l = Rows.uptoBulkEntries l
 | [] => by simp only [K6, Rows.uptoBulkEntries]
 | d :: l => by simp only [K6, Rows.uptoBulkEntries, Uv d, SU l]
theorem Uv {H : Type} : ∀ x : Lit × DataW H, Qr x = Rows.uptoBulkEntry x
 | (l, d) => by cases l <;> simp only [Qr, Rows.uptoBulkEntry, Oe d]
end
theorem UL : (Rows.typesLeftUptoRow.wf (OpenSpec.ofChange (Rows.OpenSpec.upto Rows.typesLeftSpec).bare) && laidOutB Tryz.pinned.checked.prog && mapsRowed Tryz.pinned.checked.prog && Tryz.f3.params.all (Tryz.pinned.checked.prog.readableRec ·) && namedTie Tryz.pinned.checked.prog Rows.typesLeftUptoRow.named (Rows.OpenSpec.upto Rows.typesLeftSpec).bare.vars && (Rows.typesLeftUptoRow.stops == []) && (Tryz.pinned.checked.prog.stops == []) && (Rows.typesLeftUptoRow.knobs == []) && (Tryz.pinned.checked.prog.stopKnobs == [])) = true := by kernel_rfl
theorem UM : Tryz.pinned.checked.prog.inPlace 3 = Rows.typesLeftUptoRow.inPlace := by kernel_rfl
theorem UN : Tryz.pinned.checked.prog.unfollowed 3 = true := by kernel_rfl
theorem UO : Tryz.pinned.checked.prog.varsNamed 3 = Rows.typesLeftUptoRow.named := by kernel_rfl
theorem Nv (law : ∀ x, Ei Tryz.prog 22 x -> AV.szL [x] <= 1048576 -> ∃ n rd s', au C.EP n none (.fn 3 [] []) [x] Qc = some (.ret (.bool true), rd, s')) (os : Os) (started : os.Started) (H : Type) (enc : TypeId × Value -> H) (F : Stop.Interp) :
  ReturnsInHanded {} Tryz.checked os 3 .any ((Rows.OpenSpec.upto Rows.typesLeftSpec).pre6 enc Tryz.prog Tryz.f3 Rows.typesLeftUptoRow.domain false) (((Rows.OpenSpec.upto Rows.typesLeftSpec).at F).post enc Tryz.prog Tryz.f3 false true false false) := by
 refine returnsInHanded_of_cond (C := Tryz.checked) (s := Rows.OpenSpec.upto Rows.typesLeftSpec) (k := Rows.uptoSmall) rfl own started (by kernel_rfl) Tryz.func3
  (OpenSpec.witness (enc := enc) (C := Tryz.checked) (s := Rows.OpenSpec.upto Rows.typesLeftSpec) (k := Rows.uptoSmall) rfl false ⟨#[], #[.slice none 0 0], []⟩ 8 (by kernel_rfl) (by kernel_rfl) (by kernel_rfl)
   (x := ([.nil], [], [])) (by kernel_rfl) rfl (by kernel_rfl)) ?_
 intro W base args ds gs before hval0 hW _ hk0 _
 have hval : ∀ (j : Nat) t v, Tryz.f3.params[j]? = some t -> args[j]? = some v -> Value.okWide Tryz.prog W .any base t v := hval0
 have hW' := hW
 obtain ⟨p, q, hA0, hV, rfl, hfz, hnd⟩ := hW
 have hA : DataW.TrodAll enc Tryz.prog W 0 (fun _ => true) true Tryz.f3.params.toList args.toList ds p := hA0
 rw [Tryz.params3] at hA hval
 obtain ⟨rfl, rfl⟩ := trodVars_none hV
 have hA2 := hA
 obtain ⟨v0, vs0, d0, ds0, p0, q0, hargs, hds, _, h0', r0⟩ := trodAll_cons hA2
 obtain ⟨_, rfl, _⟩ := trodAll_nil r0
 have hk := hk0
 simp only [List.append_nil] at hk
 have hb : rT ds <= 1048576 := by rw [K5]; exact of_decide_eq_true hk
 obtain ⟨xs, h1, h2, h3⟩ := Iw Tw (L := (C.iU W).toLk) (ts := [22]) (vs := args.toList) (by kernel_rfl) (fun j t v ht hv => hval j t v (by simpa using ht) (by simpa using hv)) hA
 have hlaw : ∃ n rd s', au C.EP n none (.fn 3 [] []) xs Qc = some (.ret (.bool true), rd, s') := by
  match xs, h2, h3 with
  | [x0], h2, h3 => exact law x0 h2.1 (by omega)
 obtain ⟨n, rd, s', hlaw⟩ := hlaw
 have hc := MV (C.Ve W) hlaw (by decide +kernel) (Vp W) (cargs := args.toList) h1
 refine Calls.mono hc fun e W' ⟨he, bel⟩ => ?_
 subst he
 subst hds
 have hsh := Ix (ts := [22]) Sr bel (by kernel_rfl) hA
 exact ⟨_, rfl, _, _, _, [], _, [], hW', trodAll_mk1 (shut_bool Vk _), hsh, rfl, bel.frame _, fun h => by cases h⟩
theorem Rm (law : ∀ x, Ei Tryz.prog 22 x -> AV.szL [x] <= 1048576 -> ∃ n rd s', au C.EP n none (.fn 3 [] []) [x] Qc = some (.ret (.bool true), rd, s')) : Rows.TypesLeftUptoSaid :=
 OpenClaim.holds_of_cond 3 Tryz.f3 rfl rfl rfl rfl rfl rfl rfl ⟨rfl, rfl, rfl, rfl, rfl⟩ rfl rfl rfl rfl rfl (by kernel_rfl) Tryz.func3 (Kd UL UM UN rfl rfl UO (by kernel_rfl) (by kernel_rfl) (by kernel_rfl))
  (of_decide_eq_true (by kernel_rfl)) (by unfold Func.isWrapper; first | (rw [if_pos (by decide +kernel)]; kernel_rfl) | (rw [if_neg (by decide +kernel)]; exact ⟨rfl, rfl⟩))
  (fun os started H enc _ F => Nv law os started H enc F)
end Go.Proofs.YtbncnjpohgbgjaaGreat
