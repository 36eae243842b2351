/- Left of any expression is what the reference says: the statement in its second form (what it reads is of bulk at most 1048576). Its conditions: none. -/
import Derived.Test.YtbncnjpohgbgjaaGreatAb19
import Derived.Test.YtbncnjpohgbgjaaGreatAb20
import Derived.Test.YtbncnjpohgbgjaaGreatAb21
import Derived.Test.YtbncnjpohgbgjaaGreatAb10
set_option linter.all false
set_option maxHeartbeats 8000000
namespace Go.Proofs.YtbncnjpohgbgjaaGreat
open Ab Go
set_option maxRecDepth 100000
theorem TG : DK Tryz.prog 41 [3, 9, 22] = true := by kernel_rfl
theorem Vj : Tryz.prog.underlying 3 = some (.int .i64) := by kernel_rfl
theorem Vl : Tryz.prog.underlying 9 = some .string := by kernel_rfl
theorem UV : Tryz.prog.underlying 22 = some (.slice 41) := by kernel_rfl
theorem R5 : Tryz.prog.cellsOf 41 = 3 := by kernel_rfl
theorem Us : (fy Tryz.prog 22).getD false = false := by kernel_rfl
theorem Uu {x : AV} (h : Ei Tryz.prog 22 x) : ∃ us, Sl us x := by
 unfold Ei at h
 rw [Us] at h
 obtain ⟨fs, hs, hf⟩ := Ss TG
 obtain ⟨us, o, ys, e, h1, h2⟩ := (Rv UV hs hf Vj Vl R5 h).1 rfl
 cases e
 exact ⟨us, o, ys, rfl, h1, h2⟩
theorem typesLeft_holds : Rows.TypesLeftUptoSaid := Rm fun x hx _ => by
 obtain ⟨us, hu⟩ := Uu hx
 obtain ⟨K, hK⟩ := C.JT (E := C.EP) rfl C.pr C.ps (fun l _ => C.P1 l) (fun l hb hn hs => C.ko hb hn hs) ⟨1000, C.QN⟩ hu
 exact ⟨K, false, Qc, hK K (Nat.le_refl _) Qc⟩
end Go.Proofs.YtbncnjpohgbgjaaGreat
