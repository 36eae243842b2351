/- Parts of the proof, made small by program. No condition but what is told. -/
import Derived.WalkKit
import Derived.Laws.IdiomRangeMap
import Derived.Test.YtbncnjpohgbgjaaGreatProg
import Derived.Shelf.Slices.In.SortNone
import Derived.Shelf.Slices.CompactI
import Derived.KernelRfl
import GoSem.Dispatch
set_option linter.all false
set_option maxHeartbeats 8000000
namespace Ab.C
open Go
def Tq {α : Type} (P : Program) (x : Sem α) : Prop := ∀ w v w', x.run P w = .ok v w' -> w'.tape = w.tape
theorem Tq.pure {α : Type} {P : Program} (a : α) : Tq P (pure a : Sem α) := by
 intro w v w' h
 simp only [Sem.run_pure, Result.ok.injEq] at h
 rw [<- h.2]
theorem Tq.bind {α β : Type} {P : Program} {x : Sem α} {f : α -> Sem β} (hx : Tq P x) (hf : ∀ a, Tq P (f a)) : Tq P (x >>= f) := by
 intro w v w' h
 rw [Sem.run_bind] at h
 cases hr : x.run P w with
 | ok a w1 => rw [hr] at h; exact (hf a w1 v w' h).trans (hx w a w1 hr)
 | halt e w1 => rw [hr] at h; cases h
theorem Tq.getObj {P : Program} (r : Nat) : Tq P (getObj r) := by
 intro w v w' h
 simp only [Go.getObj, Sem.run] at h
 split at h
 ·cases h
 ·cases h; rfl
 ·cases h
theorem Tq.setObj {P : Program} (r : Nat) (o : Obj) : Tq P (setObj r o) := by
 intro w v w' h
 simp only [Go.setObj, Sem.run] at h
 split at h
 ·cases h
 ·cases h; rfl
 ·cases h
theorem Tq.choose {P : Program} (q : Question) : Tq P (choose q) := by
 intro w v w' h
 simp only [Go.choose, Sem.run] at h
 split at h <;> (cases h; rfl)
theorem Tq.stuck {α : Type} {P : Program} (s : String) : Tq P (stuck s : Sem α) := by
 intro w v w' h
 simp [Go.stuck, Sem.run] at h
theorem Tq.unsupported {α : Type} {P : Program} (s : Unsupported) : Tq P (unsupported s : Sem α) := by
 intro w v w' h
 simp [Go.unsupported, Sem.run] at h
theorem PI {P : Program} (it : Value) (s : Bool) (ty : TypeId) : Tq P (Instr.next it s ty) := by
 unfold Instr.next
 repeat' (first | exact Tq.pure _ | exact Tq.stuck _ | exact Tq.unsupported _ | exact Tq.getObj _ | exact Tq.setObj _ _ | exact Tq.choose _ | refine Tq.bind ?_ (fun _ => ?_) | split)
open Go Go.Proofs Go.RowKit
theorem El {B : Nat} {w w1 w2 : World} {o : Obj} (h : Below B w w1) (ha : w2.Alike w1) (ht : w2.tape = w1.tape) (hB : B <= w.heap.size) : Below B w (w2.alloc o) :=
 Below.alloc ⟨ha.2.1.trans h.os, ht.trans h.tape, ha.2.2.trans h.output, by rw [ha.1]; exact h.size, fun k hk => by rw [ha.1]; exact h.block k hk⟩ (by rw [ha.1]; exact Nat.le_trans hB h.size) o
set_option maxRecDepth 1000000 in
theorem Mr (v : Value) (w : World) (once : Bool)
  (hocc : ∀ w1 : World, w1.heap = w.heap -> w1.os = w.os -> w1.output = w.output -> w1.tape = w.tape -> Calls Tryz.prog 37 #[v, .map (some w.heap.size)] (w1.alloc (.map #[] 0)) fun e w' => e = .returned (.map (some w.heap.size)) /\ Below w.heap.size w w' /\
   ∃ es clock, w'.heap[w.heap.size]? = some (.map es clock) /\ (∀ x ∈ es.toList, x.born < clock) /\ (es.toList.map (·.born)).Nodup /\ (∀ x ∈ es.toList, ∃ n, x.val = .int .i64 n) /\ (es.toList.all fun x => decide (valOf x.val <= 1)) = once) :
  Calls Tryz.prog 16 #[v] w fun e w' => e = .returned (.bool once) /\ Below w.heap.size w w' := by
 have hmm := @run_makeMap Tryz.prog
 go_enter Tryz.func16, Tryz.ntmps16
 go_wp2_with fail
 refine (hocc _ rfl rfl rfl rfl).mono ?_
 rintro e w1 ⟨rfl, hbel, es, clock, hb, hst1, hst2, hv, hall⟩
 have hst : (∀ x ∈ es.toList, x.born < clock) /\ (es.toList.map (·.born)).Nodup := ⟨hst1, hst2⟩
 have hrg := run_range_map (P := Tryz.prog) w1 75 9 3 w.heap.size es clock Tryz.underlying75 hb
 go_wp2
 go_loopw [] (fun w' => ∃ (w2 : World) (seen : Array Nat), w2.Alike w1 /\ w2.tape = w1.tape /\ w' = w2.alloc (.mapIter (some w.heap.size) clock seen clock) /\ ∀ x ∈ es.toList, seen.contains x.born = true -> valOf x.val <= 1) (fun w' => (leftOf es (w'.iterSeen w1.heap.size)).size)
 case atStart => exact ⟨w1, #[], ⟨rfl, rfl, rfl⟩, rfl, rfl, fun x _ h => by simp at h⟩
 case round =>
  obtain ⟨w2, seen, hal, htp, rfl, hno⟩ := hrel
  have hsz : w2.heap.size = w1.heap.size := by rw [hal.1]
  have hb2 : w2.heap[w.heap.size]? = some (.map es clock) := by rw [hal.1]; exact hb
  have law := run_next_map (P := Tryz.prog) w2 0 w.heap.size clock clock seen es clock hb2 hst.1 (Nat.le_refl _)
  rw [hsz] at law
  rcases law with ⟨h0, hrun⟩ | ⟨e, he, w3, hal3, hrun⟩
  ·have hnx : ∀ ty, (Instr.next (.pointer (some ⟨w1.heap.size, 0, none⟩)) false ty).run Tryz.prog (w2.alloc (.mapIter (some w.heap.size) clock seen clock)) = _ := fun _ => hrun
   go_wp2
   go_ret
   have hf : once = true := by
    rw [<- hall, List.all_eq_true]
    intro x hx
    exact decide_eq_true (hno x hx (all_seen es seen h0 x hx))
   rw [hf]
   exact ⟨rfl, El hbel hal htp (Nat.le_refl _)⟩
  ·have htp3 : w3.tape = w2.tape := (PI _ _ _ _ _ _ hrun :)
   obtain ⟨v', hval⟩ := hv e (mem_left he).1
   rw [hval] at hrun
   have hnx : ∀ ty, (Instr.next (.pointer (some ⟨w1.heap.size, 0, none⟩)) false ty).run Tryz.prog (w2.alloc (.mapIter (some w.heap.size) clock seen clock)) = _ := fun _ => hrun
   have hsz2 : w3.heap.size = w1.heap.size := by rw [hal3.1, hal.1]
   have hb3 : w3.heap[w.heap.size]? = some (.map es clock) := by rw [hal3.1]; exact hb2
   have hen := run_entry_map (P := Tryz.prog) w3 w.heap.size clock seen es clock e hb3 (mem_left he).1 hst.2
   rw [hsz2, hval] at hen
   have hal4 : w3.Alike w1 := ⟨hal3.1.trans hal.1, hal3.2.1.trans hal.2.1, hal3.2.2.trans hal.2.2⟩
   have htp4 : w3.tape = w1.tape := htp3.trans htp
   go_wp2
   ·rename_i hgt
    go_ret
    have hf : once = false := by
     rw [<- hall, List.all_eq_false]
     refine ⟨e, (mem_left he).1, ?_⟩
     rw [hval]
     simp only [valOf, decide_eq_true_eq]
     exact fun h => Int.not_le.2 hgt (of_decide_eq_true h)
    rw [hf]
    exact ⟨rfl, El hbel hal4 htp4 (Nat.le_refl _)⟩
   ·rename_i hle
    go_roundw
    case rel =>
     refine ⟨w3, seen.push e.born, hal4, htp4, rfl, fun x hx hc => ?_⟩
     rw [contains_push] at hc
     rcases Bool.or_eq_true _ _ ▸ hc with h1 | h1
     ·exact hno x hx h1
     ·have : x = e := born_inj hst.2 hx (mem_left he).1 (beq_iff_eq.1 h1)
      subst this
      rw [hval]
      simp only [valOf]
      omega
    case measure =>
     rw [<- hsz2, World.iterSeen_alloc, hsz2, <- hsz, World.iterSeen_alloc]
     exact left_shrinks es seen e he
open Go Go.Proofs Go.Shelf
def Kg : Ren := ⟨fun | 189 => 69 | 125 => 111 | 257 => 110 | 128 => 150 | 129 => 151 | 294 => 141 | 295 => 142 | 296 => 143 | 297 => 144 | 298 => 145 | 299 => 146 | 216 => 147 | 300 => 148 | 301 => 149 | 328 => 170 | 329 => 171 | 330 => 172 | 331 => 173 | 332 => 174 | 215 => 175 | 343 => 185 | n => n, fun | 28 => 25 | 3 => 3 | 46 => 135 | 0 => 0 | 51 => 167 | 53 => 57 | 4 => 4 | 183 => 159 | 182 => 158 | 131 => 164 | 5 => 5 | 9 => 9 | 218 => 180 | 222 => 184 | 228 => 188 | 229 => 136 | n => n, fun n => n⟩
theorem C9 : Lays.n189 Tryz.prog Kg := {
 mixed := by kernel_rfl,
 f125 := Tryz.func111.trans (congrArg some (by kernel_rfl)),
 f128 := Tryz.func150.trans (congrArg some (by kernel_rfl)),
 f129 := Tryz.func151.trans (congrArg some (by kernel_rfl)),
 f189 := Tryz.func69.trans (congrArg some (by kernel_rfl)),
 f215 := Tryz.func175.trans (congrArg some (by kernel_rfl)),
 f216 := Tryz.func147.trans (congrArg some (by kernel_rfl)),
 f257 := Tryz.func110.trans (congrArg some (by kernel_rfl)),
 f294 := Tryz.func141.trans (congrArg some (by kernel_rfl)),
 f295 := Tryz.func142.trans (congrArg some (by kernel_rfl)),
 f296 := Tryz.func143.trans (congrArg some (by kernel_rfl)),
 f297 := Tryz.func144.trans (congrArg some (by kernel_rfl)),
 f298 := Tryz.func145.trans (congrArg some (by kernel_rfl)),
 f299 := Tryz.func146.trans (congrArg some (by kernel_rfl)),
 f300 := Tryz.func148.trans (congrArg some (by kernel_rfl)),
 f301 := Tryz.func149.trans (congrArg some (by kernel_rfl)),
 f328 := Tryz.func170.trans (congrArg some (by kernel_rfl)),
 f329 := Tryz.func171.trans (congrArg some (by kernel_rfl)),
 f330 := Tryz.func172.trans (congrArg some (by kernel_rfl)),
 f331 := Tryz.func173.trans (congrArg some (by kernel_rfl)),
 f332 := Tryz.func174.trans (congrArg some (by kernel_rfl)),
 f343 := Tryz.func185.trans (congrArg some (by kernel_rfl)),
 t0 := Tryz.underlying0,
 a0 := Tryz.isAgg0,
 z0 := Tryz.sizeOf0,
 v0 := Tryz.zeroValue0,
 t3 := Tryz.underlying3,
 a3 := Tryz.isAgg3,
 z3 := Tryz.sizeOf3,
 v3 := Tryz.zeroValue3,
 t4 := Tryz.underlying4,
 a4 := Tryz.isAgg4,
 z4 := Tryz.sizeOf4,
 v4 := Tryz.zeroValue4,
 t5 := Tryz.underlying5,
 a5 := Tryz.isAgg5,
 z5 := Tryz.sizeOf5,
 v5 := Tryz.zeroValue5,
 t9 := Tryz.underlying9,
 a9 := Tryz.isAgg9,
 z9 := Tryz.sizeOf9,
 v9 := Tryz.zeroValue9,
 t28 := Tryz.underlying25,
 a28 := Tryz.isAgg25,
 z28 := Tryz.sizeOf25,
 v28 := Tryz.zeroValue25,
 t46 := Tryz.underlying135,
 a46 := Tryz.isAgg135,
 z46 := Tryz.sizeOf135,
 v46 := Tryz.zeroValue135,
 t51 := Tryz.underlying167,
 a51 := Tryz.isAgg167,
 z51 := Tryz.sizeOf167,
 v51 := Tryz.zeroValue167,
 t53 := Tryz.underlying57,
 a53 := Tryz.isAgg57,
 z53 := Tryz.sizeOf57,
 v53 := Tryz.zeroValue57,
 t131 := Tryz.underlying164,
 a131 := Tryz.isAgg164,
 z131 := Tryz.sizeOf164,
 v131 := Tryz.zeroValue164,
 t182 := Tryz.underlying158,
 a182 := Tryz.isAgg158,
 z182 := Tryz.sizeOf158,
 v182 := Tryz.zeroValue158,
 t183 := Tryz.underlying159,
 a183 := Tryz.isAgg159,
 z183 := Tryz.sizeOf159,
 v183 := Tryz.zeroValue159,
 t218 := Tryz.underlying180,
 a218 := Tryz.isAgg180,
 z218 := Tryz.sizeOf180,
 v218 := Tryz.zeroValue180,
 t222 := Tryz.underlying184,
 a222 := Tryz.isAgg184,
 z222 := Tryz.sizeOf184,
 v222 := Tryz.zeroValue184,
 t228 := Tryz.underlying188,
 a228 := Tryz.isAgg188,
 z228 := Tryz.sizeOf188,
 v228 := Tryz.zeroValue188,
 t229 := Tryz.underlying136,
 a229 := Tryz.isAgg136,
 z229 := Tryz.sizeOf136,
 v229 := Tryz.zeroValue136 }
def Ff : Ren := ⟨fun | 20 => 132 | n => n, fun | 22 => 25 | 3 => 3 | 4 => 4 | 0 => 0 | n => n, fun n => n⟩
theorem EC : Lays2.n20 Tryz.prog Ff := {
 mixed := by kernel_rfl,
 f20 := Tryz.func132.trans (congrArg some (by kernel_rfl)),
 t0 := Tryz.underlying0,
 a0 := Tryz.isAgg0,
 z0 := Tryz.sizeOf0,
 v0 := Tryz.zeroValue0,
 t3 := Tryz.underlying3,
 a3 := Tryz.isAgg3,
 z3 := Tryz.sizeOf3,
 v3 := Tryz.zeroValue3,
 t4 := Tryz.underlying4,
 a4 := Tryz.isAgg4,
 z4 := Tryz.sizeOf4,
 v4 := Tryz.zeroValue4,
 t22 := Tryz.underlying25,
 a22 := Tryz.isAgg25,
 z22 := Tryz.sizeOf25,
 v22 := Tryz.zeroValue25,
 i3 := by kernel_rfl }
end Ab.C
namespace Ab
open Go (IntKind BinOp UnOp)
inductive gu where
 | any | nil | full | tok (t : Nat)
 deriving DecidableEq, Inhabited
def gu.solid : gu -> Bool
 | .full | .tok _ => true
 | _ => false
inductive AV where
 | bool (b : Bool)
 | int (k : IntKind) (n : Int)
 | str (s : List UInt8)
 | nilp
 | ptr (i off : Nat)
 | rptr (x : AV) (off : Nat)
 | sl (own : gu) (sz : Nat) (xs : List AV)
 | raw (t sz n : Nat)
 | msl (i off sz len : Nat)
 | map (i : Option Nat)
 | fn (f : Nat) (first caps : List AV)
 | yield (i : Nat)
 | nilf
 | iface (t : Nat) (v : AV)
 | nilif
 | agg (cs : List AV)
 | tup (vs : List AV)
 | junk
 deriving Inhabited
mutual
def AV.beq : AV -> AV -> Bool
 | .bool a, .bool b => a == b
 | .int k a, .int l b => k == l && a == b
 | .str a, .str b => a == b
 | .nilp, .nilp => true
 | .ptr i o, .ptr j p => i == j && o == p
 | .rptr x o, .rptr y p => AV.beq x y && o == p
 | .sl o z xs, .sl p y ys => (o == p && z == y) && AV.beqL xs ys
 | .raw t z n, .raw u y m => (t == u && z == y) && n == m
 | .msl i o z n, .msl j p y m => (i == j && o == p) && (z == y && n == m)
 | .map i, .map j => i == j
 | .fn f a c, .fn g b d => f == g && AV.beqL a b && AV.beqL c d
 | .yield i, .yield j => i == j
 | .nilf, .nilf => true
 | .iface t v, .iface u w => t == u && AV.beq v w
 | .nilif, .nilif => true
 | .agg xs, .agg ys => AV.beqL xs ys
 | .tup xs, .tup ys => AV.beqL xs ys
 | .junk, .junk => true
 | _, _ => false
def AV.beqL : List AV -> List AV -> Bool
 | [], [] => true
 | x :: xs, y :: ys => AV.beq x y && AV.beqL xs ys
 | _, _ => false
end
mutual
theorem AV.beq_refl : ∀ x : AV, AV.beq x x = true
 | .bool _ | .int _ _ | .str _ | .nilp | .ptr _ _ | .raw _ _ _ | .msl _ _ _ _ | .map _ | .yield _ | .nilf | .nilif | .junk => by simp [AV.beq]
 | .rptr x _ => by simp [AV.beq, AV.beq_refl x]
 | .sl _ _ xs => by simp [AV.beq, AV.beqL_refl xs]
 | .fn _ a c => by simp [AV.beq, AV.beqL_refl a, AV.beqL_refl c]
 | .iface _ v => by simp [AV.beq, AV.beq_refl v]
 | .agg xs => by simp [AV.beq, AV.beqL_refl xs]
 | .tup xs => by simp [AV.beq, AV.beqL_refl xs]
theorem AV.beqL_refl : ∀ x : List AV, AV.beqL x x = true
 | [] => rfl
 | x :: xs => by simp [AV.beqL, AV.beq_refl x, AV.beqL_refl xs]
end
mutual
theorem AV.eq_of_beq : ∀ x y : AV, AV.beq x y = true -> x = y := by
 intro x y h
 cases x <;> cases y <;> simp [AV.beq] at h <;> first
  | exact congrArg _ h
  | rfl
  | (obtain ⟨h1, h2⟩ := h; subst h1; subst h2; rfl)
  | (obtain ⟨h1, h2⟩ := h; have := AV.eq_of_beq _ _ h1; subst this; subst h2; rfl)
  | (obtain ⟨h1, h2⟩ := h; have := AV.eqL_of_beq _ _ h2; subst this; subst h1; rfl)
  | (obtain ⟨h1, h2⟩ := h; have := AV.eq_of_beq _ _ h2; subst this; subst h1; rfl)
  | (obtain ⟨⟨h1, h2⟩, h3⟩ := h; subst h1; subst h2; subst h3; rfl)
  | (obtain ⟨⟨h1, h2⟩, h3, h4⟩ := h; subst h1; subst h2; subst h3; subst h4; rfl)
  | (obtain ⟨⟨h1, h2⟩, h3⟩ := h; have := AV.eqL_of_beq _ _ h2; have := AV.eqL_of_beq _ _ h3; subst_vars; rfl)
  | (have := AV.eqL_of_beq _ _ h; subst this; rfl)
  | (obtain ⟨⟨h1, h3⟩, h2⟩ := h; have := AV.eqL_of_beq _ _ h2; subst this; subst h1; subst h3; rfl)
theorem AV.eqL_of_beq : ∀ x y : List AV, AV.beqL x y = true -> x = y := by
 intro x y h
 cases x <;> cases y <;> simp [AV.beqL] at h
 ·rfl
 ·obtain ⟨h1, h2⟩ := h
  have := AV.eq_of_beq _ _ h1; have := AV.eqL_of_beq _ _ h2; subst_vars; rfl
end
instance : BEq AV := ⟨AV.beq⟩
instance : LawfulBEq AV where
 eq_of_beq := fun {a b} h => AV.eq_of_beq a b h
 rfl := fun {a} => AV.beq_refl a
instance : DecidableEq AV := fun a b => if h : AV.beq a b = true then .isTrue (AV.eq_of_beq a b h) else .isFalse fun e => h (e ▸ AV.beq_refl a)
def AV.cells? : AV -> Option (List AV)
 | .agg cs => some cs
 | .junk | .tup _ | .raw _ _ _ => none
 | v => some [v]
mutual
def AV.untok : AV -> AV
 | .sl (.tok _) z xs => .sl .any z xs
 | .raw _ _ _ => .junk
 | .agg cs => .agg (AV.untokL cs)
 | .tup cs => .tup (AV.untokL cs)
 | .iface t v => .iface t (AV.untok v)
 | .fn f a c => .fn f (AV.untokL a) (AV.untokL c)
 | v => v
def AV.untokL : List AV -> List AV
 | [] => []
 | x :: xs => AV.untok x :: AV.untokL xs
end
mutual
def AV.data : AV -> Bool
 | .bool _ | .int _ _ | .str _ | .nilp | .nilf | .nilif => true
 | .map none => true
 | .sl _ _ xs => AV.dataL xs
 | .rptr x _ => AV.data x
 | .iface _ v => AV.data v
 | .agg cs => AV.dataL cs
 | .tup cs => AV.dataL cs
 | .fn _ a c => AV.dataL a && AV.dataL c
 | _ => false
def AV.dataL : List AV -> Bool
 | [] => true
 | x :: xs => AV.data x && AV.dataL xs
end
mutual
def AV.plain : AV -> Bool
 | .bool _ | .int _ _ | .str _ | .nilp | .nilf | .nilif => true
 | .map none => true
 | .sl (.tok _) _ _ => false
 | .sl _ _ xs => AV.dataL xs
 | .rptr x _ => AV.data x
 | .iface _ v => AV.plain v
 | .agg cs => AV.plainL cs
 | .tup cs => AV.plainL cs
 | .fn _ a c => AV.plainL a && AV.plainL c
 | _ => false
def AV.plainL : List AV -> Bool
 | [] => true
 | x :: xs => AV.plain x && AV.plainL xs
end
abbrev bF := List (Nat × AV)
def bF.get : bF -> Nat -> AV
 | [], _ => .junk
 | (j, v) :: r, i => if i = j then v else bF.get r i
def bF.put : bF -> Nat -> AV -> bF
 | [], i, v => [(i, v)]
 | (j, u) :: r, i, v => if i = j then (i, v) :: r else if i < j then (i, v) :: (j, u) :: r else (j, u) :: bF.put r i v
def bF.kill (ks : List Nat) : bF -> bF
 | [] => []
 | (j, v) :: r => if ks.contains j then bF.kill ks r else (j, v) :: bF.kill ks r
inductive bN where
 | t (n : Nat)
 | c (v : AV)
 | g (n : Nat)
 deriving DecidableEq, Inhabited
inductive RQ where
 | val | bool | ptr | slice | map | func | iface | agg (n : Nat)
 deriving DecidableEq, Inhabited
inductive CV where
 | int (k : IntKind)
 | same
 | strBytes
 | bytesStr
 | intStr
 deriving DecidableEq, Inhabited
inductive MM where
 | min | max
 deriving DecidableEq, Inhabited
inductive LC where
 | str | slice | map
 deriving DecidableEq, Inhabited
inductive KC where
 | int | str | bool
 deriving DecidableEq, Inhabited
inductive vL where
 | mov (x : bN)
 | pick (c a b : bN)
 | alloc (z : List AV)
 | box (n : Nat) (x : bN)
 | build (z : List AV) (parts : List (Nat × Nat × bN))
 | bslice (sz : Nat) (z : List AV) (len : Nat) (parts : List (Nat × bN))
 | load (agg : Bool) (n : Nat) (a : bN)
 | store (n : Nat) (a v : bN)
 | nilchk (x : bN)
 | bin (op : BinOp) (cls : RQ) (x y : bN)
 | un (op : UnOp) (x : bN)
 | conv (c : CV) (x : bN)
 | mkif (t : Nat) (x : bN)
 | mkfn (f : Nat) (first caps : List bN)
 | mkmap
 | mkslice (sz : Nat) (z : List AV) (mu : Bool) (len cap : bN)
 | slice (sz : Nat) (x : bN) (lo hi mx : Option bN)
 | faddr (off : Nat) (x : bN)
 | field (off : Nat) (agg : Bool) (n : Nat) (x : bN)
 | iaddr (sz : Nat) (x i : bN)
 | aaddr (sz len : Nat) (x i : bN)
 | index (x i : bN)
 | aindex (sz len : Nat) (agg : Bool) (x i : bN)
 | lookup (c : KC) (z : AV) (m k : bN) (ok : Bool)
 | mapset (c : KC) (m k v : bN)
 | ranges (x : bN)
 | nexts (x : bN)
 | tassert (t : Nat) (z : AV) (ok : Bool) (x : bN)
 | ext (x : bN) (i : Nat)
 | len (c : LC) (x : bN)
 | cap (x : bN)
 | app (sz : Nat) (x y : bN)
 | appz (sz : Nat) (x n : bN)
 | appm (sz : Nat) (x y : bN)
 | mkms (sz : Nat) (z : List AV) (len cap : bN)
 | mm (m : MM) (xs : List bN)
 | del (c : KC) (m k : bN)
 | call (f : bN) (args : List bN)
 | defer (f : bN) (args : List bN)
 | panic (x : bN)
 | recover
 deriving DecidableEq, Inhabited
structure yk where
 agg : Bool
 n : Nat
 a : bN
 off : Option Nat := none
 deriving DecidableEq, Inhabited
structure aK where
 dst : Option Nat
 op : vL
 guard : Option (Nat × Bool) := none
 chk : List yk := []
 mp : Bool := false
 deriving DecidableEq, Inhabited
@[simp] def oN (d : Nat) (op : vL) : aK := ⟨some d, op, none, [], false⟩
@[simp] def oM (d : Nat) (op : vL) : aK := ⟨some d, op, none, [], true⟩
@[simp] def oG (d : Nat) (g : Option (Nat × Bool)) (op : vL) : aK := ⟨some d, op, g, [], false⟩
@[simp] def oU (op : vL) : aK := ⟨none, op, none, [], false⟩
inductive ae where
 | skip
 | region (ops : List aK) (keep : List Nat) (draw : Bool)
 | seq (a b : ae)
 | cond (c : bN) (a b : ae)
 | block (id : Nat) (b : ae)
 | loop (kill : List Nat) (b : ae)
 | rangeFn (f : bN) (ps : List Nat) (assign body : ae)
 | exit (id : Nat)
 | ret
 | alt (ord : List Nat) (p q : Nat) (bury : Bool) (ops : List aK) (keep : List Nat) (rest : ae) (kill : List Nat)
 deriving Inhabited
inductive FG where
 | pure | keep | thaw | eff
 deriving DecidableEq, Inhabited
inductive yl where
 | t (n : Nat)
 | cell (a : Nat) (agg : Bool) (n : Nat)
 deriving DecidableEq, Inhabited
structure bS where
 np : Nat
 body : ae
 res : List yl
 mode : FG
 deriving Inhabited
inductive Ek where
 | normal
 | exit (id : Nat)
 | ret
 | pan (v : AV)
 deriving DecidableEq, Inhabited
inductive RU where
 | exit (id : Nat)
 | ret
 deriving DecidableEq, Inhabited
inductive UX where
 | ready | busy | done | exhausted
 deriving DecidableEq, Inhabited
structure Cr where
 st : UX
 pend : Option RU
 env : bF
 ps : List Nat
 assign : ae
 body : ae
 deriving Inhabited
inductive AB where
 | cells (cs : List AV)
 | amap (es : List (AV × AV))
 | siter (s : List UInt8) (pos : Nat)
 | loop (l : Cr)
 | dead
 deriving Inhabited
structure St where
 bl : List AB
 tk : List Nat
 ro : Nat
 rt : Nat
 deriving Inhabited
structure Fr where
 env : bF
 defers : List (AV × List AV)
 rcv : Option AV
 recd : Bool
 rnd : Bool
 deriving Inhabited
structure ak where
 fns : Nat -> Option bS
 glob : Nat -> AV
 prim : Nat -> List AV -> Option AV
 eff : Nat -> Bool := fun _ => false
 prims : Nat -> List AV -> St -> Option (AV × St) := fun _ _ _ => none
def bN.ev (E : ak) (e : bF) : bN -> AV
 | .t n => e.get n
 | .c v => v
 | .g n => E.glob n
def aO : Nat := 1073741824
def St.push (s : St) (b : AB) : St := { s with bl := s.bl ++ [b] }
def St.setb (s : St) (i : Nat) (b : AB) : St := { s with bl := s.bl.set i b }
def St.cell? (s : St) (i : Nat) : Option (List AV) := match s.bl[i]? with | some (.cells cs) => some cs | _ => none
def St.map? (s : St) (i : Nat) : Option (List (AV × AV)) := match s.bl[i]? with | some (.amap cs) => some cs | _ => none
def xC (agg : Bool) (n off : Nat) (cs : List AV) : Option AV :=
 if agg then (if off + n <= cs.length then some (.agg ((cs.drop off).take n)) else none)
 else cs[off]?
def lV (s : St) (agg : Bool) (n : Nat) : AV -> Option AV
 | .ptr i off => match s.cell? i with
  | some cs => xC agg n off cs
  | none => none
 | .rptr x off => match x.cells? with
  | some cs => xC agg n off cs
  | none => none
 | _ => none
def KB (s : St) (n : Nat) (a v : AV) : Option St :=
 match a with
 | .ptr i off => match s.cell? i, v.cells? with
  | some cs, some vs => if s.ro <= i /\ vs.length = n /\ off + n <= cs.length then some (s.setb i (.cells (cs.take off ++ vs ++ cs.drop (off + n)))) else none
  | _, _ => none
 | _ => none
def IM : List AV -> List (Nat × Nat × AV) -> Option (List AV)
 | cs, [] => some cs
 | cs, (off, n, v) :: r => match v.cells? with
  | some vs => if vs.length = n /\ off + n <= cs.length then IM (cs.take off ++ vs ++ cs.drop (off + n)) r else none
  | none => none
def bE {α : Type} (x : α) : Nat -> List α
 | 0 => []
 | n + 1 => x :: bE x n
def ai (z : List AV) (one : Bool) : AV := if one then (match z with | [v] => v | _ => .junk) else .agg z
def az (sz : Nat) (v : AV) : Bool := match v.cells? with
 | some cs => cs.length == sz
 | none => false
def aq (sz : Nat) : List AV -> List (Nat × AV) -> Option (List AV)
 | xs, [] => some xs
 | xs, (i, v) :: r => if i < xs.length /\ az sz v = true then aq sz (xs.set i v) r else none
def HN : RQ -> AV -> AV -> Option Bool
 | .bool, .bool a, .bool b => some (a == b)
 | .ptr, .nilp, .nilp => some true
 | .ptr, .nilp, .ptr _ _ => some false
 | .ptr, .ptr _ _, .nilp => some false
 | .ptr, .ptr i o, .ptr j p => if i = j then some (o == p) else none
 | .slice, .sl .nil _ _, .sl .nil _ _ => some true
 | .slice, .sl .any _ _, .sl .nil _ _ => some false
 | .slice, .sl .full _ _, .sl .nil _ _ => some false
 | .slice, .sl (.tok _) _ _, .sl .nil _ _ => some false
 | .slice, .msl _ _ _ _, .sl .nil _ _ => some false
 | .map, .map none, .map none => some true
 | .map, .map (some _), .map none => some false
 | .func, .nilf, .nilf => some true
 | .func, .fn _ _ _, .nilf => some false
 | .func, .yield _, .nilf => some false
 | .iface, .nilif, .nilif => some true
 | .iface, .iface _ _, .nilif => some false
 | .iface, .nilif, .iface _ _ => some false
 | _, _, _ => none
def vO : Nat -> List AV -> List AV -> Option Bool
 | 0, [], [] => some true
 | n + 1, .int k a :: xs, .int l b :: ys => if k = l then (if a = b then vO n xs ys else some false) else none
 | _, _, _ => none
def MR (op : BinOp) (cls : RQ) (x y : AV) : Option AV :=
 match x, y with
 | .int k a, .int l b =>
  match op with
  | .shl => if 0 <= b then some (.int k (k.wrap (a * 2 ^ (min b.toNat k.bits)))) else none
  | .shr => if 0 <= b then some (.int k (a.fdiv (2 ^ (min b.toNat k.bits)))) else none
  | _ =>
   if k ≠ l then none else
   match op with
   | .add => some (.int k (k.wrap (a + b)))
   | .sub => some (.int k (k.wrap (a - b)))
   | .mul => some (.int k (k.wrap (a * b)))
   | .quo => if b = 0 then none else some (.int k (k.wrap (a.tdiv b)))
   | .rem => if b = 0 then none else some (.int k (a.tmod b))
   | .and => some (.int k (k.wrap (BitVec.ofInt k.bits a &&& BitVec.ofInt k.bits b).toNat))
   | .or => some (.int k (k.wrap (BitVec.ofInt k.bits a ||| BitVec.ofInt k.bits b).toNat))
   | .xor => some (.int k (k.wrap (BitVec.ofInt k.bits a ^^^ BitVec.ofInt k.bits b).toNat))
   | .andNot => some (.int k (k.wrap (BitVec.ofInt k.bits a &&& ~~~ BitVec.ofInt k.bits b).toNat))
   | .eql => some (.bool (a == b))
   | .neq => some (.bool (a != b))
   | .lss => some (.bool (decide (a < b)))
   | .leq => some (.bool (decide (a <= b)))
   | .gtr => some (.bool (decide (a > b)))
   | .geq => some (.bool (decide (a >= b)))
   | _ => none
 | .str a, .str b =>
  match op with
  | .add => if a.length + b.length <= aO then some (.str (a ++ b)) else none
  | .eql => some (.bool (a == b))
  | .neq => some (.bool (!(a == b)))
  | .lss => some (.bool (Go.Op.bytesLess a b))
  | .leq => some (.bool (Go.Op.bytesLess a b || a == b))
  | .gtr => some (.bool !(Go.Op.bytesLess a b || a == b))
  | .geq => some (.bool !(Go.Op.bytesLess a b))
  | _ => none
 | .agg xs, .agg ys =>
  match cls, op with
  | .agg n, .eql => (vO n xs ys).map .bool
  | .agg n, .neq => (vO n xs ys).map fun b => .bool (!b)
  | _, _ => none
 | x, y =>
  match op with
  | .eql => match HN cls x y with | some b => some (.bool b) | none => none
  | .neq => match HN cls x y with | some b => some (.bool (!b)) | none => none
  | _ => none
def U3 (op : UnOp) (x : AV) : Option AV :=
 match op, x with
 | .neg, .int k n => some (.int k (k.wrap (0 - n)))
 | .not, .bool b => some (.bool (!b))
 | _, _ => none
def oD (s : List UInt8) : List AV := s.map fun b => .int .u8 b.toNat
def Ju : List AV -> Option (List UInt8)
 | [] => some []
 | .int .u8 n :: r => match Ju r with
  | some s => some (UInt8.ofNat n.toNat :: s)
  | none => none
 | _ => none
def Lj (c : CV) (x : AV) : Option AV :=
 match c, x with
 | .int k, .int _ n => some (.int k (k.wrap n))
 | .same, .str s => some (.str s)
 | .strBytes, .str s => some (.sl .any 1 (oD s))
 | .bytesStr, .sl _ 1 xs => (Ju xs).map .str
 | .intStr, .int _ n => if 0 <= n /\ n < 128 then some (.str [UInt8.ofNat n.toNat]) else none
 | _, _ => none
def et (i : AV) (n : Nat) : Option Nat :=
 match i with
 | .int _ i => if 0 <= i /\ i < n then some i.toNat else none
 | _ => none
def mE (i : Option AV) (dflt aO : Nat) : Option Nat :=
 match i with
 | none => some dflt
 | some (.int _ i) => if 0 <= i /\ i <= aO then some i.toNat else none
 | _ => none
def sK (tk : List Nat) (sz : Nat) (x : AV) (lo hi mx : Option AV) : Option AV :=
 match x with
 | .str s =>
  if mx.isSome \/ sz ≠ 0 then none else
  match mE hi s.length s.length with
  | none => none
  | some h => match mE lo 0 h with
   | none => none
   | some l => some (.str ((s.take h).drop l))
 | .sl own z xs =>
  if z ≠ sz \/ sz = 0 then none else
  match mE mx xs.length xs.length with
  | none => none
  | some m => match mE hi xs.length m with
   | none => none
   | some h => match mE lo 0 h with
    | none => none
    | some l =>
     if mx.isSome then
      (if m = h /\ own.solid = true /\ hi.isSome then some (.sl .full z ((xs.take h).drop l)) else none)
     else some (.sl (if l = 0 /\ h = xs.length then own else if own = .full /\ h = xs.length then .full else if own = .nil then .nil else .any) z ((xs.take h).drop l))
 | .msl i off z n =>
  if mx.isSome \/ (z ≠ sz \/ sz = 0) then none else
  match mE hi n n with
  | none => none
  | some h => match mE lo 0 h with
   | none => none
   | some l => some (.msl i (off + l * z) z (h - l))
 | .raw t z n =>
  if mx.isSome \/ (z ≠ sz \/ sz = 0) \/ tk[t]? ≠ some 0 then none else
  match mE hi n 0, mE lo 0 0 with
  | some 0, some 0 => some (.sl (.tok t) z [])
  | _, _ => none
 | _ => none
def oZ (sz : Nat) (y : AV) : Option (List AV) :=
 match y with
 | .sl _ z ys => if z = sz then some (AV.untokL ys) else none
 | .str b => if 1 = sz then some (oD b) else none
 | _ => none
def AV.chunk (sz : Nat) : Nat -> List AV -> List AV
 | 0, _ => []
 | n + 1, cs => (if sz = 1 then cs.headD .junk else .agg (cs.take sz)) :: AV.chunk sz n (cs.drop sz)
def ug (s : St) : AV -> Option (List AV)
 | .msl i off sz n => match s.cell? i with
  | some cs => if off + n * sz <= cs.length /\ 0 < sz then some (AV.chunk sz n (cs.drop off)) else none
  | none => none
 | _ => none
def Te (s : St) (sz : Nat) (y : AV) : Option (List AV) :=
 match y with
 | .msl i off z n => if z = sz then (ug s (.msl i off z n)).map AV.untokL else none
 | y => oZ sz y
def oT : List AV -> Option (List AV)
 | [] => some []
 | x :: r => match x.cells?, oT r with
  | some a, some b => some (a ++ b)
  | _, _ => none
def xZ (s : St) (sz : Nat) (x y : AV) : Option (AV × St) :=
 match x, Te s sz y with
 | .sl own z xs, some ys =>
  if z = sz /\ xs.length + ys.length <= aO /\ (own = .nil \/ own = .full) then
   match ys with
   | [] => some (.sl own z xs, s)
   | _ :: _ => match oT (xs ++ ys) with
    | some cs => some (.msl s.bl.length 0 z (xs.length + ys.length), s.push (.cells cs))
    | none => none
  else none
 | .msl i off z n, some ys => match s.cell? i with
  | some cs => if ((z = sz /\ 0 < sz) /\ off = 0 /\ s.ro <= i) /\ cs.length = n * z /\ n + ys.length <= aO /\ 0 < ys.length then
    (match oT ys with
    | some ds => some (.msl s.bl.length 0 z (n + ys.length), (s.setb i .dead).push (.cells (cs ++ ds)))
    | none => none)
   else none
  | none => none
 | _, _ => none
def frz (s : St) (lo : Nat) : Nat -> AV -> AV
 | 0, v => v
 | k + 1, v => match v with
  | .msl i off sz n => if lo <= i then (match ug s (.msl i off sz n) with
   | some xs => .sl .any sz (AV.untokL (xs.map (frz s lo k)))
   | none => v) else v
  | .agg cs => .agg (cs.map (frz s lo k))
  | .tup cs => .tup (cs.map (frz s lo k))
  | .iface t u => .iface t (frz s lo k u)
  | v => v
def oc (s : St) (sz : Nat) (x y : AV) : Option (AV × St) :=
 match x, Te s sz y with
 | .sl own z xs, some ys =>
  if z = sz /\ xs.length + ys.length <= aO then
   match ys with
   | [] => some (.sl own z xs, s)
   | _ :: _ =>
    match own with
    | .any => none
    | .nil | .full => some (.sl (.tok s.tk.length) z (xs ++ ys), { s with tk := s.tk ++ [xs.length + ys.length] })
    | .tok t => if s.rt <= t /\ s.tk[t]? = some xs.length then some (.sl (.tok t) z (xs ++ ys), { s with tk := s.tk.set t (xs.length + ys.length) }) else none
  else none
 | _, _ => none
def wq : AV -> AV -> Option Bool
 | .str a, .str b => some (a == b)
 | .int k a, .int l b => if k = l then some (a == b) else none
 | .bool a, .bool b => some (a == b)
 | _, _ => none
def CR (k : AV) : List (AV × AV) -> Option (Option AV)
 | [] => some none
 | (j, v) :: r => match wq k j with
  | some true => some (some v)
  | some false => CR k r
  | none => none
def Hf (k v : AV) : List (AV × AV) -> Option (List (AV × AV))
 | [] => some [(k, v)]
 | (j, u) :: r => match wq k j with
  | some true => some ((k, v) :: r)
  | some false => match Hf k v r with
   | some r' => some ((j, u) :: r')
   | none => none
  | none => none
def Qz (k : AV) : List (AV × AV) -> Option (List (AV × AV))
 | [] => some []
 | (j, u) :: r => match wq k j with
  | some true => some r
  | some false => match Qz k r with
   | some r' => some ((j, u) :: r')
   | none => none
  | none => none
def mH : KC -> AV -> Bool
 | .str, .str _ => true
 | .int, .int _ _ => true
 | .bool, .bool _ => true
 | _, _ => false
def RM (m : MM) (x y : AV) : Option AV :=
 match x, y with
 | .int k a, .int l b => if k = l then (match m with
  | .max => some (.int k (if b > a then b else a))
  | .min => some (.int k (if b < a then b else a))) else none
 | _, _ => none
def wv (m : MM) : AV -> List AV -> Option AV
 | x, [] => some x
 | x, y :: r => match RM m x y with
  | some z => wv m z r
  | none => none
def ew (o : Option AV) (s : St) : Option (AV × St) := match o with | some v => some (v, s) | none => none
def iS (ev : bN -> AV) (s : St) : vL -> Option (AV × St)
 | .mov x => some (ev x, s)
 | .pick c a b => match ev c with
  | .bool t => some (if t then ev a else ev b, s)
  | _ => none
 | .alloc z => some (.ptr s.bl.length 0, s.push (.cells z))
 | .box n x => match (ev x).cells? with
  | some cs => if cs.length = n then some (.ptr s.bl.length 0, s.push (.cells cs)) else none
  | none => none
 | .build z parts => match IM z (parts.map fun (o, n, x) => (o, n, ev x)) with
  | some cs => some (.agg cs, s)
  | none => none
 | .bslice sz z len parts => match aq sz (bE (ai z (z.length == 1)) len) (parts.map fun (i, x) => (i, (ev x).untok)) with
  | some xs => some (.sl .full sz xs, s)
  | none => none
 | .load agg n a => ew (lV s agg n (ev a)) s
 | .store n a v => match KB s n (ev a) (ev v) with
  | some s' => some (.tup [], s')
  | none => none
 | .nilchk x => match ev x with
  | .nilp | .nilif | .nilf | .junk | .raw _ _ _ => none
  | v => some (v, s)
 | .bin op cls x y => ew (MR op cls (ev x) (ev y)) s
 | .un op x => ew (U3 op (ev x)) s
 | .conv c x => ew (Lj c (ev x)) s
 | .mkif t x => some (.iface t (ev x), s)
 | .mkfn f a c => some (.fn f (a.map ev) (c.map ev), s)
 | .mkmap => some (.map (some s.bl.length), s.push (.amap []))
 | .mkslice _ _ _ _ _ => none
 | .slice sz x lo hi mx => ew (sK s.tk sz (ev x) (lo.map ev) (hi.map ev) (mx.map ev)) s
 | .faddr off x => match ev x with
  | .ptr i o => some (.ptr i (o + off), s)
  | .rptr y o => some (.rptr y (o + off), s)
  | _ => none
 | .field off agg n x => match ev x with
  | .agg cs => ew (xC agg n off cs) s
  | _ => none
 | .iaddr sz x i => match ev x with
  | .sl _ z xs => if z ≠ sz then none else match et (ev i) xs.length with
   | some k => some (.rptr (xs.getD k .junk) 0, s)
   | none => none
  | .msl b off z n => if z ≠ sz then none else match et (ev i) n with
   | some k => some (.ptr b (off + k * sz), s)
   | none => none
  | _ => none
 | .aaddr sz len x i => match ev x with
  | .ptr b off => match et (ev i) len with
   | some k => some (.ptr b (off + k * sz), s)
   | none => none
  | .rptr y off => match et (ev i) len with
   | some k => some (.rptr y (off + k * sz), s)
   | none => none
  | _ => none
 | .index x i => match ev x with
  | .str b => match et (ev i) b.length with
   | some k => some (.int .u8 (b.getD k 0).toNat, s)
   | none => none
  | _ => none
 | .aindex sz len agg x i => match ev x with
  | .agg cs => match et (ev i) len with
   | some k => ew (xC agg sz (k * sz) cs) s
   | none => none
  | _ => none
 | .lookup c z m k ok =>
  if mH c (ev k) then
   match (match ev m with
    | .map none => some []
    | .map (some i) => s.map? i
    | _ => none) with
   | none => none
   | some es => match CR (ev k) es with
    | none => none
    | some (some v) => some (if ok then .tup [v, .bool true] else v, s)
    | some none => some (if ok then .tup [z, .bool false] else z, s)
  else none
 | .mapset c m k v =>
  if mH c (ev k) then
   match ev m with
   | .map (some i) => match s.map? i with
    | some es => match Hf (ev k) (ev v) es with
     | some es' => if s.ro <= i then some (.tup [], s.setb i (.amap es')) else none
     | none => none
    | none => none
   | _ => none
  else none
 | .ranges x => match ev x with
  | .str b => some (.ptr s.bl.length 0, s.push (.siter b 0))
  | _ => none
 | .nexts x => match ev x with
  | .ptr i 0 => match s.bl[i]? with
   | some (.siter b pos) =>
    if pos < b.length then
     (if s.ro <= i then some (.tup [.bool true, .int .i64 pos, .int .i32 (Go.Utf8.decode ⟨b.toArray⟩ pos).1], s.setb i (.siter b (pos + (Go.Utf8.decode ⟨b.toArray⟩ pos).2))) else none)
    else some (.tup [.bool false], s)
   | _ => none
  | _ => none
 | .tassert t z ok x => match ev x with
  | .iface u v => if t = u then some (if ok then .tup [v, .bool true] else v, s) else if ok then some (.tup [z, .bool false], s) else none
  | .nilif => if ok then some (.tup [z, .bool false], s) else none
  | _ => none
 | .ext x i => match ev x with
  | .tup vs => match vs[i]? with
   | some v => some (v, s)
   | none => none
  | _ => none
 | .len c x => match c, ev x with
  | .slice, .sl _ _ xs => some (.int .i64 xs.length, s)
  | .slice, .msl _ _ _ n => some (.int .i64 n, s)
  | .str, .str b => some (.int .i64 b.length, s)
  | .map, .map none => some (.int .i64 0, s)
  | .map, .map (some i) => match s.map? i with
   | some es => some (.int .i64 es.length, s)
   | none => none
  | _, _ => none
 | .cap x => match ev x with
  | .sl .nil _ _ => some (.int .i64 0, s)
  | .sl .full _ xs => some (.int .i64 xs.length, s)
  | _ => none
 | .app sz x y => oc s sz (ev x) (ev y)
 | .appm sz x y => xZ s sz (ev x) (ev y)
 | .mkms sz z len cap => match ev len, ev cap with
  | .int _ n, .int _ m => if (0 <= n /\ n <= m) /\ m <= aO then some (.msl s.bl.length 0 sz n.toNat, s.push (.cells (bE z m.toNat).flatten)) else none
  | _, _ => none
 | .appz sz x n => match ev x, ev n with
  | .sl .nil _ _, .int _ n => if 0 < n /\ n <= aO then some (.raw s.tk.length sz n.toNat, { s with tk := s.tk ++ [0] }) else none
  | _, _ => none
 | .mm m xs => match xs.map ev with
  | [] => none
  | x :: r => ew (wv m x r) s
 | .del c m k =>
  if mH c (ev k) then
   match ev m with
   | .map (some i) => match s.map? i with
    | some es => match Qz (ev k) es with
     | some es' => if s.ro <= i then some (.tup [], s.setb i (.amap es')) else none
     | none => none
    | none => none
   | _ => none
  else none
 | .call _ _ | .defer _ _ | .panic _ | .recover => none
inductive Qf where
 | ret (v : AV)
 | pan (v : AV)
 deriving DecidableEq, Inhabited
abbrev en := Option AV -> AV -> List AV -> St -> Option (Qf × Bool × St)
abbrev R := Option (Ek × Fr × St)
def yk.addr (ev : bN -> AV) (c : yk) : AV := match c.off with
 | none => ev c.a
 | some o => match ev c.a with
  | .ptr i p => .ptr i (p + o)
  | .rptr y p => .rptr y (p + o)
  | _ => .junk
def BI (s : St) (agg : Bool) (n : Nat) (v : AV) : Option AV := match v with
 | .msl i _ _ _ => (s.cell? i).map AV.agg
 | v => lV s agg n v
def v8 (ev : bN -> AV) (s s' : St) : List yk -> Bool
 | [] => true
 | c :: r => (BI s c.agg c.n (c.addr ev) == BI s' c.agg c.n (c.addr ev)) && v8 ev s s' r
def If (ev : bN -> AV) (agg : Bool) (n : Nat) (a : AV) (c : yk) : Bool := match c.a with
 | .c .nilp => (match a with | .rptr _ _ => true | _ => false)
 | _ => (c.agg == agg && c.n == n && c.addr ev == a) || (match c.addr ev, a with | .msl i _ _ _, .ptr j _ => i == j | _, _ => false)
def BM (ev : bN -> AV) (o : aK) : Bool := match o.op with
 | .load agg n a => o.chk.all fun c => If ev agg n (ev a) c
 | _ => true
def calm (E : ak) : AV -> Bool
 | .fn f _ _ => match E.fns f with
  | some F => (match F.mode with | .pure | .thaw => true | _ => false)
  | none => !E.eff f
 | _ => false
def aK.pl (o : aK) : Bool := o.mp && !o.chk.isEmpty
def jO (tgt : AV) (args : List AV) : Bool := match tgt with
 | .fn _ a c => AV.plainL (a ++ args ++ c)
 | _ => false
def Le (ev : bN -> AV) (s : St) (cs : List yk) : Option (AV × St) -> Option (AV × St)
 | some (v, s') => if v8 ev s s' cs then some (v, s') else none
 | none => none
def kN (ev : bN -> AV) (s : St) (o : aK) (q : Option (AV × St)) : Option (AV × St) := match o.op with
 | .store _ _ _ => Le ev s o.chk q
 | _ => q
theorem L6 {ev : bN -> AV} {s : St} {o : aK} {q : Option (AV × St)} {x : AV × St} (h : kN ev s o q = some x) : q = some x := by
 unfold kN at h
 split at h
 ·cases q with
  | none => cases h
  | some y =>
   simp only [Le] at h
   split at h
   ·exact h
   ·cases h
 ·exact h
def zJ (g : Option (Nat × Bool)) (e : bF) : Option Bool :=
 match g with
 | none => some true
 | some (i, want) => match e.get i with
  | .bool b => some (b == want)
  | .tup [] => some false
  | _ => none
def Qb (E : ak) (o : aK) (e : bF) : Option Bool :=
 match zJ o.guard e with
 | some true => if BM (bN.ev E e) o then some true else none
 | x => x
def CQ (o : aK) (v : AV) (f : Fr) (e : bF) (s : St) : Option (Option AV × Fr × bF × St) :=
 match o.dst with
 | some d => some (none, f, (d, v) :: e, s)
 | none => some (none, f, e, s)
def Re (E : ak) (call : en) (draw : Bool) (o : aK) (f : Fr) (e : bF) (s : St) : Option (Option AV × Fr × bF × St) :=
 match o.op with
 | .call g args =>
  if o.mp && !calm E (g.ev E e) then none else
  if o.pl && !jO (g.ev E e) (args.map (bN.ev E e)) then none else
  match call none (g.ev E e) (args.map (bN.ev E e)) s with
  | some (.ret v, _, s') => if v8 (bN.ev E e) s s' o.chk then CQ o v f e s' else none
  | some (.pan v, _, s') => if draw then none else some (some v, f, e, s')
  | none => none
 | .defer g args => if f.rnd || draw then none else (match g.ev E e with
  | .fn q a c => CQ o (.tup []) { f with defers := (.fn q a c, args.map (bN.ev E e)) :: f.defers } e s
  | _ => none)
 | .panic x => if draw then none else (match x.ev E e with
  | .iface t v => some (some (.iface t v), f, e, s)
  | _ => none)
 | .recover => if f.rnd || draw then none else (match f.rcv with
  | some v => CQ o v { f with rcv := none, recd := true } e s
  | none => CQ o .nilif f e s)
 | op => match kN (bN.ev E e) s o (iS (bN.ev E e) s op) with
  | some (v, s') => CQ o v f e s'
  | none => none
def EV (E : ak) (call : en) (draw : Bool) (o : aK) (f : Fr) (e : bF) (s : St) : Option (Option AV × Fr × bF × St) :=
 match Qb E o e with
 | none => none
 | some false => CQ o (.tup []) f e s
 | some true => Re E call draw o f e s
def pD (E : ak) (call : en) (draw : Bool) : List aK -> Fr -> bF -> St -> Option (Option AV × Fr × bF × St)
 | [], f, e, s => some (none, f, e, s)
 | o :: r, f, e, s => match EV E call draw o f e s with
  | some (none, f', e', s') => pD E call draw r f' e' s'
  | x => x
def om (loc : bF) : List Nat -> bF -> bF
 | [], e => e
 | k :: r, e => om loc r (e.put k (loc.get k))
def BG (body : Fr -> St -> R) (ks : List Nat) : Nat -> Fr -> St -> R
 | 0, _, _ => none
 | n + 1, f, s => match body { f with env := f.env.kill ks } s with
  | some (.normal, f', s') => BG body ks n f' s'
  | r => r
def AB.isCells : AB -> Bool
 | .cells _ | .dead => true
 | _ => false
def AB.same : AB -> AB -> Bool
 | .cells x, .cells y => x == y
 | .dead, .dead => true
 | _, _ => false
def AB.sameL : List AB -> List AB -> Bool
 | [], [] => true
 | x :: r, y :: q => AB.same x y && AB.sameL r q
 | _, _ => false
def Fh (keep : List Nat) (e : bF) : Option (Option AV × Fr × bF × St) -> R
 | some (none, f, loc, s) => some (.normal, { f with env := om loc keep e }, s)
 | some (some v, f, loc, s) => some (.pan v, { f with env := om loc keep e }, s)
 | none => none
def Do (b : Fr -> St -> R) : R -> R
 | some (.normal, f, s) => b f s
 | r => r
def OA (bury : Bool) (ks : List Nat) (rnd : Bool) (s : St) : R -> R -> R
 | some (o, f1, s1), some (o2, f2, s2) =>
  if ((o = o2 /\ f1.env.kill ks = f2.env.kill ks) /\ (f1.defers = f2.defers /\ f1.rcv = f2.rcv /\ f1.recd = f2.recd)) /\ (s1.bl.length = s2.bl.length /\ s1.tk = s2.tk) /\
      (if bury then (s1.bl.drop s.bl.length).all AB.isCells && (s2.bl.drop s.bl.length).all AB.isCells else AB.sameL (s1.bl.drop s.bl.length) (s2.bl.drop s.bl.length)) = true then
   some (o, { f1 with env := f1.env.kill ks, rnd }, { s with bl := s.bl ++ (if bury then (s1.bl.drop s.bl.length).map fun _ => .dead else s1.bl.drop s.bl.length), tk := s1.tk }) else none
 | _, _ => none
def wo (ord : List Nat) (ops : List aK) : List aK := ord.map fun i => ops.getD i default
def bj (E : ak) (call : en) (n : Nat) : ae -> Fr -> St -> R
 | .skip, f, s => some (.normal, f, s)
 | .region ops keep draw, f, s => match pD E call draw ops f f.env s with
  | some (none, f', loc, s') => some (.normal, { f' with env := om loc keep f.env }, s')
  | some (some v, f', loc, s') => some (.pan v, { f' with env := om loc keep f.env }, s')
  | none => none
 | .seq a b, f, s => match bj E call n a f s with
  | some (.normal, f', s') => bj E call n b f' s'
  | r => r
 | .cond c a b, f, s => match c.ev E f.env with
  | .bool true => bj E call n a f s
  | .bool false => bj E call n b f s
  | _ => none
 | .block id b, f, s => match bj E call n b f s with
  | some (.exit j, f', s') => if j = id then some (.normal, f', s') else some (.exit j, f', s')
  | r => r
 | .loop ks b, f, s => BG (bj E call n b) ks n f s
 | .rangeFn g ps assign body, f, s =>
  let i := s.bl.length
  match call none (g.ev E f.env) [.yield i] (s.push (.loop { st := .ready, pend := none, env := f.env, ps, assign, body })) with
  | some (.ret _, _, s') => match s'.bl[i]? with
   | some (.loop L) => if L.st = .busy then none else
    (match L.pend with
     | none => some (.normal, f, s'.setb i (.loop { L with st := .exhausted }))
     | some (.exit id) => some (.exit id, f, s'.setb i (.loop { L with st := .exhausted }))
     | some .ret => some (.ret, f, s'.setb i (.loop { L with st := .exhausted })))
   | _ => none
  | some (.pan v, _, s') => some (.pan v, f, s')
  | none => none
 | .exit id, f, s => some (.exit id, f, s)
 | .ret, f, s => some (.ret, f, s)
 | .alt ord _ _ bury ops keep rest ks, f, s =>
  OA bury ks f.rnd s (Do (bj E call n rest) (Fh keep f.env (pD E call true ops f f.env { s with ro := s.bl.length })))
   (Do (bj E call n rest) (Fh keep f.env (pD E call true (wo ord ops) f f.env { s with ro := s.bl.length })))
def EL (E : ak) : AV -> Bool
 | .fn f _ _ => (E.fns f).isSome
 | _ => true
def hJ (E : ak) (call : en) : List (AV × List AV) -> Option AV -> St -> Option (Option AV × St)
 | [], p, s => some (p, s)
 | (g, args) :: ds, p, s => if EL E g then (match call p g args s with
  | some (.ret _, recd, s') => hJ E call ds (if recd then none else p) s'
  | _ => none) else none
def uU (e : bF) (s : St) : List yl -> Option (List AV)
 | [] => some []
 | .t n :: r => match uU e s r with
  | some vs => some (e.get n :: vs)
  | none => none
 | .cell a agg n :: r => match lV s agg n (e.get a), uU e s r with
  | some v, some vs => some (v :: vs)
  | _, _ => none
def fo : List AV -> AV
 | [v] => v
 | vs => .tup vs
def pj : Nat -> List AV -> bF
 | _, [] => []
 | i, v :: r => (i, v) :: pj (i + 1) r
def cD (m : FG) (lo : Nat) (s s' : St) (v : AV) : Option (AV × St) :=
 match m with
 | .eff => some (v, s')
 | .pure | .thaw => if v.data then some (v.untok, s) else if (frz s' lo 8 v).data then some ((frz s' lo 8 v).untok, s) else none
 | .keep => if v.data then (match v with
  | .sl (.tok t) z xs => if s.tk.length <= t /\ s'.tk[t]? = some xs.length then some (.sl (.tok s.tk.length) z xs, { s with tk := s.tk ++ [xs.length] }) else some (.sl .any z xs, s)
  | _ => some (v.untok, s)) else if (frz s' lo 8 v).data then some ((frz s' lo 8 v).untok, s) else none
def jk (m : FG) (s : St) : St := match m with | .eff => s | _ => { s with ro := s.bl.length, rt := s.tk.length }
def z8 : FG -> Bool
 | .pure | .thaw => true
 | _ => false
def gc (m : FG) (pn : Option AV) (args : List AV) (s : St) : St := if z8 m && pn.isNone && AV.plainL args then { bl := [], tk := [], ro := 0, rt := 0 } else jk m s
def rz : Ek -> Option (Option AV)
 | .normal | .ret => some none
 | .pan v => some (some v)
 | .exit _ => none
def wA (E : ak) (call : en) (n : Nat) (F : bS) (pn : Option AV) (args : List AV) (s : St) : Option (Qf × Bool × St) :=
 if args.length ≠ F.np then none else
 match bj E call n F.body { env := pj 0 args, defers := [], rcv := pn, recd := false, rnd := false } (gc F.mode pn args s) with
 | none => none
 | some (o, f, s1) =>
  match rz o with
  | none => none
  | some p => match hJ E call f.defers p s1 with
   | none => none
   | some (some v, s2) => match cD F.mode (gc F.mode pn args s).bl.length s s2 v with
    | some (v', s') => some (.pan v', f.recd, { s' with ro := s.ro, rt := s.rt })
    | none => none
   | some (none, s2) => match uU f.env s2 F.res with
    | none => none
    | some vs => match cD F.mode (gc F.mode pn args s).bl.length s s2 (fo vs) with
     | some (v', s') => some (.ret v', f.recd, { s' with ro := s.ro, rt := s.rt })
     | none => none
def nn : List Nat -> List AV -> bF -> bF
 | p :: ps, v :: vs, e => nn ps vs (e.put p v)
 | _, _, e => e
def D3 (E : ak) (call : en) (n : Nat) (i : Nat) (args : List AV) (s : St) : Option (Qf × Bool × St) :=
 match s.bl[i]? with
 | some (.loop L) =>
  if args.length = L.ps.length /\ s.ro <= i then
   match bj E call n L.assign { env := nn L.ps args L.env, defers := [], rcv := none, recd := false, rnd := true } s with
   | some (.normal, f, s1) => match s1.bl[i]? with
    | some (.loop L1) => if L1.st = .ready then
     (match bj E call n L.body f (s1.setb i (.loop { L1 with st := .busy })) with
     | some (o, f2, s2) => match s2.bl[i]? with
      | some (.loop L2) => (match o with
       | .normal => some (.ret (.bool true), false, s2.setb i (.loop { L2 with st := .ready, pend := none }))
       | .exit id => some (.ret (.bool false), false, s2.setb i (.loop { L2 with st := .done, pend := some (.exit id) }))
       | .ret => some (.ret (.bool false), false, s2.setb i (.loop { L2 with st := .done, pend := some .ret }))
       | .pan v => if f2.defers.isEmpty then some (.pan v, false, s2) else none)
      | _ => none
     | none => none) else none
    | _ => none
   | _ => none
  else none
 | _ => none
def au (E : ak) : Nat -> en
 | 0, _, _, _, _ => none
 | n + 1, pn, tgt, args, s => match tgt with
  | .fn f first caps => match E.fns f with
   | some F => wA E (au E n) n F pn (first ++ args ++ caps) s
   | none => if pn.isSome then none else if E.eff f then (match E.prims f (first ++ args ++ caps) s with
    | some (v, s') => some (.ret v, false, s')
    | none => none) else match E.prim f (first ++ args ++ caps) with
    | some v => some (.ret v, false, s)
    | none => none
  | .yield i => if pn.isSome then none else D3 E (au E n) n i args s
  | _ => none
end Ab
