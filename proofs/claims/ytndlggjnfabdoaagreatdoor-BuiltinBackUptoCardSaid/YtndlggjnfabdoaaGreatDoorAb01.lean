/- The numbers of strings.Builder's functions in the seat. No condition. -/
import Derived.Test.YtndlggjnfabdoaaGreatDoorProg
import Derived.Shelf.Strings.Builder1
import Derived.KernelRfl
import Derived.WalkKit
import Derived.Lib.Walk
import Derived.Lib.SliceRun
import Derived.BigCall
import GoSem.Dispatch
set_option linter.all false
namespace Ab.U
open Go Go.Proofs Go.Shelf
set_option linter.all false
set_option maxRecDepth 100000
def laysW_ren : Ren := ⟨fun | 166 => 157 | 240 => 187 | 276 => 204 | 169 => 145 | n => n, fun | 0 => 0 | 3 => 3 | 4 => 4 | 5 => 5 | 9 => 9 | 20 => 20 | 37 => 134 | 70 => 153 | 72 => 155 | 75 => 101 | 80 => 96 | 127 => 192 | 164 => 213 | n => n, fun n => n⟩
theorem laysW : Lays.n166 Tryz.prog laysW_ren := {
  mixed := by kernel_rfl,
  f166 := Tryz.func157.trans (congrArg some (by kernel_rfl)),
  f240 := Tryz.func187.trans (congrArg some (by kernel_rfl)),
  f276 := Tryz.func204.trans (congrArg some (by kernel_rfl)),
  t0 := Tryz.underlying0,
  a0 := Tryz.isAgg0,
  z0 := Tryz.sizeOf0,
  v0 := Tryz.zeroValue0,
  t3 := Tryz.underlying3,
  a3 := Tryz.isAgg3,
  z3 := Tryz.sizeOf3,
  v3 := Tryz.zeroValue3,
  t4 := Tryz.underlying4,
  a4 := Tryz.isAgg4,
  z4 := Tryz.sizeOf4,
  v4 := Tryz.zeroValue4,
  t9 := Tryz.underlying9,
  a9 := Tryz.isAgg9,
  z9 := Tryz.sizeOf9,
  v9 := Tryz.zeroValue9,
  t20 := Tryz.underlying20,
  a20 := Tryz.isAgg20,
  z20 := Tryz.sizeOf20,
  v20 := Tryz.zeroValue20,
  t37 := Tryz.underlying134,
  a37 := Tryz.isAgg134,
  z37 := Tryz.sizeOf134,
  v37 := Tryz.zeroValue134,
  t70 := Tryz.underlying153,
  a70 := Tryz.isAgg153,
  z70 := Tryz.sizeOf153,
  v70 := Tryz.zeroValue153,
  t72 := Tryz.underlying155,
  a72 := Tryz.isAgg155,
  z72 := Tryz.sizeOf155,
  v72 := Tryz.zeroValue155,
  t75 := Tryz.underlying101,
  a75 := Tryz.isAgg101,
  z75 := Tryz.sizeOf101,
  v75 := Tryz.zeroValue101,
  t164 := Tryz.underlying213,
  a164 := Tryz.isAgg213,
  z164 := Tryz.sizeOf213,
  v164 := Tryz.zeroValue213 }
theorem laysS : Lays.n169 Tryz.prog laysW_ren := {
  mixed := by kernel_rfl,
  f169 := Tryz.func145.trans (congrArg some (by kernel_rfl)),
  t0 := Tryz.underlying0,
  a0 := Tryz.isAgg0,
  z0 := Tryz.sizeOf0,
  v0 := Tryz.zeroValue0,
  t3 := Tryz.underlying3,
  a3 := Tryz.isAgg3,
  z3 := Tryz.sizeOf3,
  v3 := Tryz.zeroValue3,
  t9 := Tryz.underlying9,
  a9 := Tryz.isAgg9,
  z9 := Tryz.sizeOf9,
  v9 := Tryz.zeroValue9,
  t37 := Tryz.underlying134,
  a37 := Tryz.isAgg134,
  z37 := Tryz.sizeOf134,
  v37 := Tryz.zeroValue134,
  t70 := Tryz.underlying153,
  a70 := Tryz.isAgg153,
  z70 := Tryz.sizeOf153,
  v70 := Tryz.zeroValue153,
  t72 := Tryz.underlying155,
  a72 := Tryz.isAgg155,
  z72 := Tryz.sizeOf155,
  v72 := Tryz.zeroValue155,
  t127 := Tryz.underlying192,
  a127 := Tryz.isAgg192,
  z127 := Tryz.sizeOf192,
  v127 := Tryz.zeroValue192 }
theorem bldX : Builder.Extra Tryz.prog laysW_ren := {
  sizeBuilder := by kernel_rfl,
  liesBuilder := by kernel_rfl,
  t5 := Tryz.underlying5,
  a5 := Tryz.isAgg5,
  z5 := Tryz.sizeOf5,
  v5 := Tryz.zeroValue5,
  infoByte := by kernel_rfl,
  cellsByte := by kernel_rfl,
  sizeByte := by kernel_rfl,
  neB5 := by decide }
end Ab.U

/- term.String of characters, walked. Its condition: what 'term.right' answers. -/
namespace Ab.U
open Go Go.Proofs Go.RowKit Go.Shelf Go.Lib
set_option linter.all false
theorem bld_below {T e : TypeId} {B b : Nat} {bs : List Value} {w w' : World} (h : IsBuilder T e B b bs w) (hb : Below w.heap.size w w') : IsBuilder T e B b bs w' := by
  have key : ∀ p, BuilderAt T e B b p bs w → BuilderAt T e B b p bs w' := by
    rintro p h
    have hlt := h.lt
    obtain ⟨hB, v, h1, h2, h3⟩ := h
    refine ⟨hB, v, by rw [hb.block b hlt]; exact h1, h2.kept (row := none) ⟨hb.os, hb.tape, hb.output, hb.size, fun k hk _ => hb.block k hk⟩ ?_, h3⟩
    cases hv : v.ownBlock with
    | none => exact .inl rfl
    | some k => exact .inr (by simp)
  rcases h with h | h
  · exact .inl (key _ h)
  · exact .inr (key _ h)
theorem bldW (B b : Nat) (bs : List Value) (s : ByteArray) (w : World) (h : IsBuilder 155 5 B b bs w) (hlen : bs.length + s.size ≤ 140737488355328) (hBw : B ≤ w.heap.size) :
    Calls Tryz.prog 157 #[.pointer (some ⟨b, 0, none⟩), .string s] w fun e w' => e = .returned (.tuple #[.int .i64 s.size, .nilIface]) ∧ IsBuilder 155 5 B b (bs ++ strCells s) w' ∧ Below B w w' :=
  (Any.Builder_WriteString laysW bldX B b bs s w h hlen hBw).mono fun e w' h => ⟨h.1, .inr h.2.1, h.2.2⟩
theorem bldS (B b : Nat) (l : List UInt8) (w : World) (h : IsBuilder 155 5 B b (byteCells l) w) (hBw : B ≤ w.heap.size) (hl : l ≠ []) :
    Calls Tryz.prog 145 #[.pointer (some ⟨b, 0, none⟩)] w fun e w' => e = .returned (.string ⟨l.toArray⟩) ∧ Below B w w' :=
  Any.Builder_String laysS bldX B b l w h hl
/- the cells of the i-th character -/
def chC (c : UInt8) (k : Option Addr × Nat) : List Value := [.int .i64 1, .string ⟨#[c]⟩, .slice k.1 0 k.2]
set_option maxHeartbeats 4000000 in
set_option maxRecDepth 100000 in
theorem str_walk (pb po cap : Nat) (x : List UInt8) (ks : List (Option Addr × Nat)) (w : World) (hx : x ≠ []) (hl : x.length ≤ 1000) (hc : x.length ≤ cap) (hk : ks.length = x.length)
    (hcell : ∀ i c k, x[i]? = some c → ks[i]? = some k → ∀ j u, (chC c k)[j]? = some u → w.cell? ⟨pb, po + (i * 3 + j), none⟩ = some u) (hpb : pb < w.heap.size)
    (hright : ∀ c k, k ∈ ks → ∀ W : World, Calls Tryz.prog 26 #[.agg #[.int .i64 1, .string ⟨#[c]⟩, .slice k.1 0 k.2]] W fun e W' => e = .returned (.bool true) ∧ Below W.heap.size W W') :
    Calls Tryz.prog 120 #[.slice (some ⟨pb, po, none⟩) x.length cap] w fun e w' => e = .returned (.tuple #[.string ⟨x.toArray⟩, .bool true]) ∧ Below w.heap.size w w' := by
  obtain ⟨B, hB⟩ : ∃ B, B = w.heap.size := ⟨_, rfl⟩
  go_enter Tryz.func120, Tryz.ntmps120
  go_wp2_with fail
  go_loopw [10] (fun i wr => ∃ k : Nat, k ≤ x.length ∧ i = .int .i64 k ∧ IsBuilder 155 5 B B (byteCells (x.take k)) wr ∧ Below B w wr) (fun i _ => x.length - (RowKit.intOf i).toNat)
  case atStart =>
    refine ⟨0, by omega, rfl, ?_, ?_⟩
    · rw [hB]; exact fresh_isBuilder 155 5 w
    · rw [hB]; exact (Below.refl _ w).alloc (Nat.le_refl _) _
  case round =>
    obtain ⟨k, hk', rfl, hbld, hbel⟩ := hrel
    by_cases hlt : k < x.length
    · obtain ⟨c, hxc⟩ : ∃ c, x[k]? = some c := ⟨_, List.getElem?_eq_getElem hlt⟩
      obtain ⟨kk, hkk⟩ : ∃ kk, ks[k]? = some kk := ⟨_, List.getElem?_eq_getElem (by omega)⟩
      have hcl : ∀ j u, (chC c kk)[j]? = some u → wr.cell? ⟨pb, po + (k * 3 + j), none⟩ = some u := fun j u hj => by
        rw [hbel.cell (p := ⟨pb, po + (k * 3 + j), none⟩) (by rw [hB]; exact hpb)]
        exact hcell k c kk hxc hkk j u hj
      have h0 : wr.cell? ⟨pb, po + k * 3, none⟩ = some (.int .i64 1) := hcl 0 _ rfl
      have h1 : wr.cell? ⟨pb, po + k * 3 + 1, none⟩ = some (.string ⟨#[c]⟩) := by rw [Nat.add_assoc]; exact hcl 1 _ rfl
      have h2 : wr.cell? ⟨pb, po + k * 3 + 2, none⟩ = some (.slice kk.1 0 kk.2) := by rw [Nat.add_assoc]; exact hcl 2 _ rfl
      clear hcl
      have hlti : (k : Int) < (x.length : Int) := by omega
      clear hcell
      have hal : Below wr.heap.size wr (wr.alloc (.cells #[.int .i64 1, .string ⟨#[c]⟩, .slice kk.1 0 kk.2] 37)) := (Below.refl _ wr).alloc (Nat.le_refl _) _
      have hbl1 := bld_below hbld hal
      have hnew : (wr.alloc (.cells #[.int .i64 1, .string ⟨#[c]⟩, .slice kk.1 0 kk.2] 37)).heap[wr.heap.size]? = some (.cells #[.int .i64 1, .string ⟨#[c]⟩, .slice kk.1 0 kk.2] 37) := heap_alloc_new wr _
      have hszn : (wr.alloc (.cells #[.int .i64 1, .string ⟨#[c]⟩, .slice kk.1 0 kk.2] 37)).heap.size = wr.heap.size + 1 := by simp
      go_wp2_with fail
      refine (hright c kk (List.mem_of_getElem? hkk) _).mono ?_
      rintro e w1 ⟨rfl, hb1⟩
      have hbl2 := bld_below hbl1 hb1
      have hn1 : w1.heap[wr.heap.size]? = some (.cells #[.int .i64 1, .string ⟨#[c]⟩, .slice kk.1 0 kk.2] 37) := by rw [hb1.block _ (by rw [hszn]; omega)]; exact hnew
      have g1 : w1.cell? ⟨wr.heap.size, 1, none⟩ = some (.string ⟨#[c]⟩) := by rw [Lib.cell_of_heap hn1]; rfl
      have hs1 := hb1.size
      rw [hszn] at hs1
      have hs2 := hbel.size
      have hbelA : Below B w w1 := (hbel.trans ⟨hal.os, hal.tape, hal.output, hal.size, fun j hj => hal.block j (by omega)⟩).trans ⟨hb1.os, hb1.tape, hb1.output, hb1.size, fun j hj => hb1.block j (by rw [hszn]; omega)⟩
      have hbl3 : IsBuilder 155 5 B B (byteCells (x.take k)) w1 := hbl2
      clear hbl1 hbl2 hal hnew hn1 hbld
      go_wp2_with fail
      have hbl4 : IsBuilder 155 5 w.heap.size w.heap.size (byteCells (x.take k)) w1 := by rw [← hB]; exact hbl3
      refine (bldW w.heap.size w.heap.size _ ⟨#[c]⟩ _ hbl4 (by rw [byteCells_length, List.length_take]; show _ + 1 ≤ _; omega) (by omega)).mono ?_
      rintro e w2 ⟨rfl, hbl5, hb2⟩
      have htk : byteCells (x.take k) ++ strCells ⟨#[c]⟩ = byteCells (x.take (k + 1)) := by
        rw [List.take_succ, hxc, byteCells_append]; rfl
      rw [htk] at hbl5
      clear hbl3 hbl4
      go_wp2_with fail
      refine ⟨⟨k + 1, by omega, by simp, ?_, hbelA.trans (by rw [hB]; exact hb2)⟩, by simp only [RowKit.intOf]; omega⟩
      rw [hB]; exact hbl5
    · have hke : k = x.length := by omega
      subst hke
      rw [List.take_length] at hbld
      go_wp2_with fail
      have hbl4 : IsBuilder 155 5 w.heap.size w.heap.size (byteCells x) wr := by rw [← hB]; exact hbld
      have hs2 := hbel.size
      refine (bldS w.heap.size w.heap.size x _ hbl4 (by omega) hx).mono ?_
      rintro e w2 ⟨rfl, hb2⟩
      go_wp2_with fail
      go_ret2
      exact ⟨rfl, by rw [hB] at hbel; exact hbel.trans hb2⟩
end Ab.U

/- The abstract language, its values and its run: what a Go function comes to when slices are lists. No condition. -/
namespace Ab
open Go (IntKind BinOp UnOp)

inductive Own where
  | any | nil | full | tok (t : Nat)
  deriving DecidableEq, Inhabited

def Own.solid : Own → Bool
  | .full | .tok _ => true
  | _ => false

inductive AV where
  | bool (b : Bool)
  | int (k : IntKind) (n : Int)
  | str (s : List UInt8)
  | nilp
  | ptr (i off : Nat)
  | rptr (x : AV) (off : Nat)
  | sl (own : Own) (sz : Nat) (xs : List AV)
  | raw (t sz n : Nat)
  | msl (i off sz len : Nat)
  | map (i : Option Nat)
  | fn (f : Nat) (first caps : List AV)
  | yield (i : Nat)
  | nilf
  | iface (t : Nat) (v : AV)
  | nilif
  | agg (cs : List AV)
  | tup (vs : List AV)
  | junk
  deriving Inhabited

mutual
def AV.beq : AV → AV → Bool
  | .bool a, .bool b => a == b
  | .int k a, .int l b => k == l && a == b
  | .str a, .str b => a == b
  | .nilp, .nilp => true
  | .ptr i o, .ptr j p => i == j && o == p
  | .rptr x o, .rptr y p => AV.beq x y && o == p
  | .sl o z xs, .sl p y ys => (o == p && z == y) && AV.beqL xs ys
  | .raw t z n, .raw u y m => (t == u && z == y) && n == m
  | .msl i o z n, .msl j p y m => (i == j && o == p) && (z == y && n == m)
  | .map i, .map j => i == j
  | .fn f a c, .fn g b d => f == g && AV.beqL a b && AV.beqL c d
  | .yield i, .yield j => i == j
  | .nilf, .nilf => true
  | .iface t v, .iface u w => t == u && AV.beq v w
  | .nilif, .nilif => true
  | .agg xs, .agg ys => AV.beqL xs ys
  | .tup xs, .tup ys => AV.beqL xs ys
  | .junk, .junk => true
  | _, _ => false
def AV.beqL : List AV → List AV → Bool
  | [], [] => true
  | x :: xs, y :: ys => AV.beq x y && AV.beqL xs ys
  | _, _ => false
end

mutual
theorem AV.beq_refl : ∀ x : AV, AV.beq x x = true
  | .bool _ | .int _ _ | .str _ | .nilp | .ptr _ _ | .raw _ _ _ | .msl _ _ _ _ | .map _ | .yield _ | .nilf | .nilif | .junk => by simp [AV.beq]
  | .rptr x _ => by simp [AV.beq, AV.beq_refl x]
  | .sl _ _ xs => by simp [AV.beq, AV.beqL_refl xs]
  | .fn _ a c => by simp [AV.beq, AV.beqL_refl a, AV.beqL_refl c]
  | .iface _ v => by simp [AV.beq, AV.beq_refl v]
  | .agg xs => by simp [AV.beq, AV.beqL_refl xs]
  | .tup xs => by simp [AV.beq, AV.beqL_refl xs]
theorem AV.beqL_refl : ∀ x : List AV, AV.beqL x x = true
  | [] => rfl
  | x :: xs => by simp [AV.beqL, AV.beq_refl x, AV.beqL_refl xs]
end

mutual
theorem AV.eq_of_beq : ∀ x y : AV, AV.beq x y = true → x = y := by
  intro x y h
  cases x <;> cases y <;> simp [AV.beq] at h <;> first
    | exact congrArg _ h
    | rfl
    | (obtain ⟨h1, h2⟩ := h; subst h1; subst h2; rfl)
    | (obtain ⟨h1, h2⟩ := h; have := AV.eq_of_beq _ _ h1; subst this; subst h2; rfl)
    | (obtain ⟨h1, h2⟩ := h; have := AV.eqL_of_beq _ _ h2; subst this; subst h1; rfl)
    | (obtain ⟨h1, h2⟩ := h; have := AV.eq_of_beq _ _ h2; subst this; subst h1; rfl)
    | (obtain ⟨⟨h1, h2⟩, h3⟩ := h; subst h1; subst h2; subst h3; rfl)
    | (obtain ⟨⟨h1, h2⟩, h3, h4⟩ := h; subst h1; subst h2; subst h3; subst h4; rfl)
    | (obtain ⟨⟨h1, h2⟩, h3⟩ := h; have := AV.eqL_of_beq _ _ h2; have := AV.eqL_of_beq _ _ h3; subst_vars; rfl)
    | (have := AV.eqL_of_beq _ _ h; subst this; rfl)
    | (obtain ⟨⟨h1, h3⟩, h2⟩ := h; have := AV.eqL_of_beq _ _ h2; subst this; subst h1; subst h3; rfl)
theorem AV.eqL_of_beq : ∀ x y : List AV, AV.beqL x y = true → x = y := by
  intro x y h
  cases x <;> cases y <;> simp [AV.beqL] at h
  · rfl
  · obtain ⟨h1, h2⟩ := h
    have := AV.eq_of_beq _ _ h1; have := AV.eqL_of_beq _ _ h2; subst_vars; rfl
end

instance : BEq AV := ⟨AV.beq⟩
instance : LawfulBEq AV where
  eq_of_beq := fun {a b} h => AV.eq_of_beq a b h
  rfl := fun {a} => AV.beq_refl a
instance : DecidableEq AV := fun a b => if h : AV.beq a b = true then .isTrue (AV.eq_of_beq a b h) else .isFalse fun e => h (e ▸ AV.beq_refl a)

/- the cells of a value -/
def AV.cells? : AV → Option (List AV)
  | .agg cs => some cs
  | .junk | .tup _ | .raw _ _ _ => none
  | v => some [v]

/- tokens taken away, but for what lies inside a slice, where there are none -/
mutual
def AV.untok : AV → AV
  | .sl (.tok _) z xs => .sl .any z xs
  | .raw _ _ _ => .junk
  | .agg cs => .agg (AV.untokL cs)
  | .tup cs => .tup (AV.untokL cs)
  | .iface t v => .iface t (AV.untok v)
  | .fn f a c => .fn f (AV.untokL a) (AV.untokL c)
  | v => v
def AV.untokL : List AV → List AV
  | [] => []
  | x :: xs => AV.untok x :: AV.untokL xs
end

/- is it data alone: nothing that names a block -/
mutual
def AV.data : AV → Bool
  | .bool _ | .int _ _ | .str _ | .nilp | .nilf | .nilif => true
  | .map none => true
  | .sl _ _ xs => AV.dataL xs
  | .rptr x _ => AV.data x
  | .iface _ v => AV.data v
  | .agg cs => AV.dataL cs
  | .tup cs => AV.dataL cs
  | .fn _ a c => AV.dataL a && AV.dataL c
  | _ => false
def AV.dataL : List AV → Bool
  | [] => true
  | x :: xs => AV.data x && AV.dataL xs
end

/- data without tokens -/
mutual
def AV.plain : AV → Bool
  | .bool _ | .int _ _ | .str _ | .nilp | .nilf | .nilif => true
  | .map none => true
  | .sl (.tok _) _ _ => false
  | .sl _ _ xs => AV.dataL xs
  | .rptr x _ => AV.data x
  | .iface _ v => AV.plain v
  | .agg cs => AV.plainL cs
  | .tup cs => AV.plainL cs
  | .fn _ a c => AV.plainL a && AV.plainL c
  | _ => false
def AV.plainL : List AV → Bool
  | [] => true
  | x :: xs => AV.plain x && AV.plainL xs
end

/- the environment of one call: slots and values, ascending -/
abbrev Env := List (Nat × AV)
def Env.get : Env → Nat → AV
  | [], _ => .junk
  | (j, v) :: r, i => if i = j then v else Env.get r i
def Env.put : Env → Nat → AV → Env
  | [], i, v => [(i, v)]
  | (j, u) :: r, i, v => if i = j then (i, v) :: r else if i < j then (i, v) :: (j, u) :: r else (j, u) :: Env.put r i v
def Env.kill (ks : List Nat) : Env → Env
  | [] => []
  | (j, v) :: r => if ks.contains j then Env.kill ks r else (j, v) :: Env.kill ks r

inductive Opd where
  | t (n : Nat)
  | c (v : AV)
  | g (n : Nat)
  deriving DecidableEq, Inhabited

/- what '==' is asked of -/
inductive Cls where
  | val | bool | ptr | slice | map | func | iface | agg (n : Nat)
  deriving DecidableEq, Inhabited

inductive CV where
  | int (k : IntKind)
  | same
  | strBytes
  | bytesStr
  | intStr
  deriving DecidableEq, Inhabited

inductive MM where
  | min | max
  deriving DecidableEq, Inhabited

inductive LC where
  | str | slice | map
  deriving DecidableEq, Inhabited

inductive KC where
  | int | str | bool
  deriving DecidableEq, Inhabited

inductive IOp where
  | mov (x : Opd)
  | pick (c a b : Opd)
  | alloc (z : List AV)
  | box (n : Nat) (x : Opd)
  | build (z : List AV) (parts : List (Nat × Nat × Opd))
  | bslice (sz : Nat) (z : List AV) (len : Nat) (parts : List (Nat × Opd))
  | load (agg : Bool) (n : Nat) (a : Opd)
  | store (n : Nat) (a v : Opd)
  | nilchk (x : Opd)
  | bin (op : BinOp) (cls : Cls) (x y : Opd)
  | un (op : UnOp) (x : Opd)
  | conv (c : CV) (x : Opd)
  | mkif (t : Nat) (x : Opd)
  | mkfn (f : Nat) (first caps : List Opd)
  | mkmap
  | mkslice (sz : Nat) (z : List AV) (mu : Bool) (len cap : Opd)
  | slice (sz : Nat) (x : Opd) (lo hi mx : Option Opd)
  | faddr (off : Nat) (x : Opd)
  | field (off : Nat) (agg : Bool) (n : Nat) (x : Opd)
  | iaddr (sz : Nat) (x i : Opd)
  | aaddr (sz len : Nat) (x i : Opd)
  | index (x i : Opd)
  | aindex (sz len : Nat) (agg : Bool) (x i : Opd)
  | lookup (c : KC) (z : AV) (m k : Opd) (ok : Bool)
  | mapset (c : KC) (m k v : Opd)
  | ranges (x : Opd)
  | nexts (x : Opd)
  | tassert (t : Nat) (z : AV) (ok : Bool) (x : Opd)
  | ext (x : Opd) (i : Nat)
  | len (c : LC) (x : Opd)
  | cap (x : Opd)
  | app (sz : Nat) (x y : Opd)
  | appz (sz : Nat) (x n : Opd)
  | appm (sz : Nat) (x y : Opd)
  | mkms (sz : Nat) (z : List AV) (len cap : Opd)
  | mm (m : MM) (xs : List Opd)
  | del (c : KC) (m k : Opd)
  | call (f : Opd) (args : List Opd)
  | defer (f : Opd) (args : List Opd)
  | panic (x : Opd)
  | recover
  deriving DecidableEq, Inhabited

/- a load that may come before or behind a call: what it takes and the address -/
structure IChk where
  agg : Bool
  n : Nat
  a : Opd
  off : Option Nat := none
  deriving DecidableEq, Inhabited

structure IOper where
  dst : Option Nat
  op : IOp
  guard : Option (Nat × Bool) := none
  chk : List IChk := []
  mp : Bool := false
  deriving DecidableEq, Inhabited

/- short forms -/
@[simp] def oN (d : Nat) (op : IOp) : IOper := ⟨some d, op, none, [], false⟩
@[simp] def oM (d : Nat) (op : IOp) : IOper := ⟨some d, op, none, [], true⟩
@[simp] def oG (d : Nat) (g : Option (Nat × Bool)) (op : IOp) : IOper := ⟨some d, op, g, [], false⟩
@[simp] def oU (op : IOp) : IOper := ⟨none, op, none, [], false⟩

inductive ICode where
  | skip
  | region (ops : List IOper) (keep : List Nat) (draw : Bool)
  | seq (a b : ICode)
  | cond (c : Opd) (a b : ICode)
  | block (id : Nat) (b : ICode)
  | loop (kill : List Nat) (b : ICode)
  | rangeFn (f : Opd) (ps : List Nat) (assign body : ICode)
  | exit (id : Nat)
  | ret
  | alt (ord : List Nat) (p q : Nat) (bury : Bool) (ops : List IOper) (keep : List Nat) (rest : ICode) (kill : List Nat)
  deriving Inhabited

inductive Mode where
  | pure | keep | thaw | eff
  deriving DecidableEq, Inhabited

inductive IRes where
  | t (n : Nat)
  | cell (a : Nat) (agg : Bool) (n : Nat)
  deriving DecidableEq, Inhabited

structure IFn where
  np : Nat
  body : ICode
  res : List IRes
  mode : Mode
  deriving Inhabited

inductive Out where
  | normal
  | exit (id : Nat)
  | ret
  | pan (v : AV)
  deriving DecidableEq, Inhabited

inductive Pend where
  | exit (id : Nat)
  | ret
  deriving DecidableEq, Inhabited

inductive LSt where
  | ready | busy | done | exhausted
  deriving DecidableEq, Inhabited

structure ALoop where
  st : LSt
  pend : Option Pend
  env : Env
  ps : List Nat
  assign : ICode
  body : ICode
  deriving Inhabited

inductive AB where
  | cells (cs : List AV)
  | amap (es : List (AV × AV))
  | siter (s : List UInt8) (pos : Nat)
  | loop (l : ALoop)
  | dead
  deriving Inhabited

structure St where
  bl : List AB
  tk : List Nat
  ro : Nat
  rt : Nat
  deriving Inhabited

structure Fr where
  env : Env
  defers : List (AV × List AV)
  rcv : Option AV
  recd : Bool
  rnd : Bool
  deriving Inhabited

/- what a run needs beside: functions, globals, hand-proved functions -/
structure IEnv where
  fns : Nat → Option IFn
  glob : Nat → AV
  prim : Nat → List AV → Option AV
  /- hand-proved functions that may turn the state -/
  eff : Nat → Bool := fun _ => false
  prims : Nat → List AV → St → Option (AV × St) := fun _ _ _ => none

def Opd.ev (E : IEnv) (e : Env) : Opd → AV
  | .t n => e.get n
  | .c v => v
  | .g n => E.glob n

/- the most elements that a slice is grown to -/
def most : Nat := 1073741824

def St.push (s : St) (b : AB) : St := { s with bl := s.bl ++ [b] }
def St.setb (s : St) (i : Nat) (b : AB) : St := { s with bl := s.bl.set i b }
def St.cell? (s : St) (i : Nat) : Option (List AV) := match s.bl[i]? with | some (.cells cs) => some cs | _ => none
def St.map? (s : St) (i : Nat) : Option (List (AV × AV)) := match s.bl[i]? with | some (.amap cs) => some cs | _ => none

/- the cells at a place of a value, as one value -/
def partOf (agg : Bool) (n off : Nat) (cs : List AV) : Option AV :=
  if agg then (if off + n ≤ cs.length then some (.agg ((cs.drop off).take n)) else none)
  else cs[off]?

def loadA (s : St) (agg : Bool) (n : Nat) : AV → Option AV
  | .ptr i off => match s.cell? i with
    | some cs => partOf agg n off cs
    | none => none
  | .rptr x off => match x.cells? with
    | some cs => partOf agg n off cs
    | none => none
  | _ => none

def storeA (s : St) (n : Nat) (a v : AV) : Option St :=
  match a with
  | .ptr i off => match s.cell? i, v.cells? with
    | some cs, some vs => if s.ro ≤ i ∧ vs.length = n ∧ off + n ≤ cs.length then some (s.setb i (.cells (cs.take off ++ vs ++ cs.drop (off + n)))) else none
    | _, _ => none
  | _ => none

def fillA : List AV → List (Nat × Nat × AV) → Option (List AV)
  | cs, [] => some cs
  | cs, (off, n, v) :: r => match v.cells? with
    | some vs => if vs.length = n ∧ off + n ≤ cs.length then fillA (cs.take off ++ vs ++ cs.drop (off + n)) r else none
    | none => none

def repl {α : Type} (x : α) : Nat → List α
  | 0 => []
  | n + 1 => x :: repl x n

/- the elements of a literal: z the zero cells of one; each element's place is set at most once by a whole value -/
def elemOfCells (z : List AV) (one : Bool) : AV := if one then (match z with | [v] => v | _ => .junk) else .agg z
def hasSize (sz : Nat) (v : AV) : Bool := match v.cells? with
  | some cs => cs.length == sz
  | none => false
def setElems (sz : Nat) : List AV → List (Nat × AV) → Option (List AV)
  | xs, [] => some xs
  | xs, (i, v) :: r => if i < xs.length ∧ hasSize sz v = true then setElems sz (xs.set i v) r else none

def aeq : Cls → AV → AV → Option Bool
  | .bool, .bool a, .bool b => some (a == b)
  | .ptr, .nilp, .nilp => some true
  | .ptr, .nilp, .ptr _ _ => some false
  | .ptr, .ptr _ _, .nilp => some false
  | .ptr, .ptr i o, .ptr j p => if i = j then some (o == p) else none
  | .slice, .sl .nil _ _, .sl .nil _ _ => some true
  | .slice, .sl .any _ _, .sl .nil _ _ => some false
  | .slice, .sl .full _ _, .sl .nil _ _ => some false
  | .slice, .sl (.tok _) _ _, .sl .nil _ _ => some false
  | .slice, .msl _ _ _ _, .sl .nil _ _ => some false
  | .map, .map none, .map none => some true
  | .map, .map (some _), .map none => some false
  | .func, .nilf, .nilf => some true
  | .func, .fn _ _ _, .nilf => some false
  | .func, .yield _, .nilf => some false
  | .iface, .nilif, .nilif => some true
  | .iface, .iface _ _, .nilif => some false
  | .iface, .nilif, .iface _ _ => some false
  | _, _, _ => none

/- arrays of numbers: cell by cell -/
def aggEq : Nat → List AV → List AV → Option Bool
  | 0, [], [] => some true
  | n + 1, .int k a :: xs, .int l b :: ys => if k = l then (if a = b then aggEq n xs ys else some false) else none
  | _, _, _ => none

def binA (op : BinOp) (cls : Cls) (x y : AV) : Option AV :=
  match x, y with
  | .int k a, .int l b =>
    match op with
    | .shl => if 0 ≤ b then some (.int k (k.wrap (a * 2 ^ (min b.toNat k.bits)))) else none
    | .shr => if 0 ≤ b then some (.int k (a.fdiv (2 ^ (min b.toNat k.bits)))) else none
    | _ =>
      if k ≠ l then none else
      match op with
      | .add => some (.int k (k.wrap (a + b)))
      | .sub => some (.int k (k.wrap (a - b)))
      | .mul => some (.int k (k.wrap (a * b)))
      | .quo => if b = 0 then none else some (.int k (k.wrap (a.tdiv b)))
      | .rem => if b = 0 then none else some (.int k (a.tmod b))
      | .and => some (.int k (k.wrap (BitVec.ofInt k.bits a &&& BitVec.ofInt k.bits b).toNat))
      | .or => some (.int k (k.wrap (BitVec.ofInt k.bits a ||| BitVec.ofInt k.bits b).toNat))
      | .xor => some (.int k (k.wrap (BitVec.ofInt k.bits a ^^^ BitVec.ofInt k.bits b).toNat))
      | .andNot => some (.int k (k.wrap (BitVec.ofInt k.bits a &&& ~~~ BitVec.ofInt k.bits b).toNat))
      | .eql => some (.bool (a == b))
      | .neq => some (.bool (a != b))
      | .lss => some (.bool (decide (a < b)))
      | .leq => some (.bool (decide (a ≤ b)))
      | .gtr => some (.bool (decide (a > b)))
      | .geq => some (.bool (decide (a ≥ b)))
      | _ => none
  | .str a, .str b =>
    match op with
    | .add => if a.length + b.length ≤ most then some (.str (a ++ b)) else none
    | .eql => some (.bool (a == b))
    | .neq => some (.bool (!(a == b)))
    | .lss => some (.bool (Go.Op.bytesLess a b))
    | .leq => some (.bool (Go.Op.bytesLess a b || a == b))
    | .gtr => some (.bool !(Go.Op.bytesLess a b || a == b))
    | .geq => some (.bool !(Go.Op.bytesLess a b))
    | _ => none
  | .agg xs, .agg ys =>
    match cls, op with
    | .agg n, .eql => (aggEq n xs ys).map .bool
    | .agg n, .neq => (aggEq n xs ys).map fun b => .bool (!b)
    | _, _ => none
  | x, y =>
    match op with
    | .eql => match aeq cls x y with | some b => some (.bool b) | none => none
    | .neq => match aeq cls x y with | some b => some (.bool (!b)) | none => none
    | _ => none

def unA (op : UnOp) (x : AV) : Option AV :=
  match op, x with
  | .neg, .int k n => some (.int k (k.wrap (0 - n)))
  | .not, .bool b => some (.bool (!b))
  | _, _ => none

def bytesOf (s : List UInt8) : List AV := s.map fun b => .int .u8 b.toNat
def strOf : List AV → Option (List UInt8)
  | [] => some []
  | .int .u8 n :: r => match strOf r with
    | some s => some (UInt8.ofNat n.toNat :: s)
    | none => none
  | _ => none

def convA (c : CV) (x : AV) : Option AV :=
  match c, x with
  | .int k, .int _ n => some (.int k (k.wrap n))
  | .same, .str s => some (.str s)
  | .strBytes, .str s => some (.sl .any 1 (bytesOf s))
  | .bytesStr, .sl _ 1 xs => (strOf xs).map .str
  | .intStr, .int _ n => if 0 ≤ n ∧ n < 128 then some (.str [UInt8.ofNat n.toNat]) else none
  | _, _ => none

/- an index in bounds, as a number -/
def idx (i : AV) (n : Nat) : Option Nat :=
  match i with
  | .int _ i => if 0 ≤ i ∧ i < n then some i.toNat else none
  | _ => none
def bound (i : Option AV) (dflt most : Nat) : Option Nat :=
  match i with
  | none => some dflt
  | some (.int _ i) => if 0 ≤ i ∧ i ≤ most then some i.toNat else none
  | _ => none

def sliceA (tk : List Nat) (sz : Nat) (x : AV) (lo hi mx : Option AV) : Option AV :=
  match x with
  | .str s =>
    if mx.isSome ∨ sz ≠ 0 then none else
    match bound hi s.length s.length with
    | none => none
    | some h => match bound lo 0 h with
      | none => none
      | some l => some (.str ((s.take h).drop l))
  | .sl own z xs =>
    if z ≠ sz ∨ sz = 0 then none else
    match bound mx xs.length xs.length with
    | none => none
    | some m => match bound hi xs.length m with
      | none => none
      | some h => match bound lo 0 h with
        | none => none
        | some l =>
          if mx.isSome then
            (if m = h ∧ own.solid = true ∧ hi.isSome then some (.sl .full z ((xs.take h).drop l)) else none)
          else some (.sl (if l = 0 ∧ h = xs.length then own else if own = .full ∧ h = xs.length then .full else if own = .nil then .nil else .any) z ((xs.take h).drop l))
  | .msl i off z n =>
    if mx.isSome ∨ (z ≠ sz ∨ sz = 0) then none else
    match bound hi n n with
    | none => none
    | some h => match bound lo 0 h with
      | none => none
      | some l => some (.msl i (off + l * z) z (h - l))
  | .raw t z n =>
    if mx.isSome ∨ (z ≠ sz ∨ sz = 0) ∨ tk[t]? ≠ some 0 then none else
    match bound hi n 0, bound lo 0 0 with
    | some 0, some 0 => some (.sl (.tok t) z [])
    | _, _ => none
  | _ => none

def ysOf (sz : Nat) (y : AV) : Option (List AV) :=
  match y with
  | .sl _ z ys => if z = sz then some (AV.untokL ys) else none
  | .str b => if 1 = sz then some (bytesOf b) else none
  | _ => none

/- what lies in a block of the call's own, as elements -/
def AV.chunk (sz : Nat) : Nat → List AV → List AV
  | 0, _ => []
  | n + 1, cs => (if sz = 1 then cs.headD .junk else .agg (cs.take sz)) :: AV.chunk sz n (cs.drop sz)

/- the elements of a slice that is written into -/
def elemsA (s : St) : AV → Option (List AV)
  | .msl i off sz n => match s.cell? i with
    | some cs => if off + n * sz ≤ cs.length ∧ 0 < sz then some (AV.chunk sz n (cs.drop off)) else none
    | none => none
  | _ => none

def ysS (s : St) (sz : Nat) (y : AV) : Option (List AV) :=
  match y with
  | .msl i off z n => if z = sz then (elemsA s (.msl i off z n)).map AV.untokL else none
  | y => ysOf sz y

def cellsL : List AV → Option (List AV)
  | [] => some []
  | x :: r => match x.cells?, cellsL r with
    | some a, some b => some (a ++ b)
    | _, _ => none

/- an append whose result is written into -/
def appmA (s : St) (sz : Nat) (x y : AV) : Option (AV × St) :=
  match x, ysS s sz y with
  | .sl own z xs, some ys =>
    if z = sz ∧ xs.length + ys.length ≤ most ∧ (own = .nil ∨ own = .full) then
      match ys with
      | [] => some (.sl own z xs, s)
      | _ :: _ => match cellsL (xs ++ ys) with
        | some cs => some (.msl s.bl.length 0 z (xs.length + ys.length), s.push (.cells cs))
        | none => none
    else none
  | .msl i off z n, some ys => match s.cell? i with
    | some cs => if ((z = sz ∧ 0 < sz) ∧ off = 0 ∧ s.ro ≤ i) ∧ cs.length = n * z ∧ n + ys.length ≤ most ∧ 0 < ys.length then
        (match cellsL ys with
        | some ds => some (.msl s.bl.length 0 z (n + ys.length), (s.setb i .dead).push (.cells (cs ++ ds)))
        | none => none)
      else none
    | none => none
  | _, _ => none

/- what a slice that is written into becomes when nobody can write any longer: blocks from lo on -/
def frz (s : St) (lo : Nat) : Nat → AV → AV
  | 0, v => v
  | k + 1, v => match v with
    | .msl i off sz n => if lo ≤ i then (match elemsA s (.msl i off sz n) with
      | some xs => .sl .any sz (AV.untokL (xs.map (frz s lo k)))
      | none => v) else v
    | .agg cs => .agg (cs.map (frz s lo k))
    | .tup cs => .tup (cs.map (frz s lo k))
    | .iface t u => .iface t (frz s lo k u)
    | v => v

def appA (s : St) (sz : Nat) (x y : AV) : Option (AV × St) :=
  match x, ysS s sz y with
  | .sl own z xs, some ys =>
    if z = sz ∧ xs.length + ys.length ≤ most then
      match ys with
      | [] => some (.sl own z xs, s)
      | _ :: _ =>
        match own with
        | .any => none
        | .nil | .full => some (.sl (.tok s.tk.length) z (xs ++ ys), { s with tk := s.tk ++ [xs.length + ys.length] })
        | .tok t => if s.rt ≤ t ∧ s.tk[t]? = some xs.length then some (.sl (.tok t) z (xs ++ ys), { s with tk := s.tk.set t (xs.length + ys.length) }) else none
    else none
  | _, _ => none

def keyEq : AV → AV → Option Bool
  | .str a, .str b => some (a == b)
  | .int k a, .int l b => if k = l then some (a == b) else none
  | .bool a, .bool b => some (a == b)
  | _, _ => none
def findA (k : AV) : List (AV × AV) → Option (Option AV)
  | [] => some none
  | (j, v) :: r => match keyEq k j with
    | some true => some (some v)
    | some false => findA k r
    | none => none
def setA (k v : AV) : List (AV × AV) → Option (List (AV × AV))
  | [] => some [(k, v)]
  | (j, u) :: r => match keyEq k j with
    | some true => some ((k, v) :: r)
    | some false => match setA k v r with
      | some r' => some ((j, u) :: r')
      | none => none
    | none => none
def delA (k : AV) : List (AV × AV) → Option (List (AV × AV))
  | [] => some []
  | (j, u) :: r => match keyEq k j with
    | some true => some r
    | some false => match delA k r with
      | some r' => some ((j, u) :: r')
      | none => none
    | none => none
def isKey : KC → AV → Bool
  | .str, .str _ => true
  | .int, .int _ _ => true
  | .bool, .bool _ => true
  | _, _ => false

def mmA (m : MM) (x y : AV) : Option AV :=
  match x, y with
  | .int k a, .int l b => if k = l then (match m with
    | .max => some (.int k (if b > a then b else a))
    | .min => some (.int k (if b < a then b else a))) else none
  | _, _ => none
def mmAll (m : MM) : AV → List AV → Option AV
  | x, [] => some x
  | x, y :: r => match mmA m x y with
    | some z => mmAll m z r
    | none => none

def valStep (o : Option AV) (s : St) : Option (AV × St) := match o with | some v => some (v, s) | none => none

/- an operation that is no call -/
def opA (ev : Opd → AV) (s : St) : IOp → Option (AV × St)
  | .mov x => some (ev x, s)
  | .pick c a b => match ev c with
    | .bool t => some (if t then ev a else ev b, s)
    | _ => none
  | .alloc z => some (.ptr s.bl.length 0, s.push (.cells z))
  | .box n x => match (ev x).cells? with
    | some cs => if cs.length = n then some (.ptr s.bl.length 0, s.push (.cells cs)) else none
    | none => none
  | .build z parts => match fillA z (parts.map fun (o, n, x) => (o, n, ev x)) with
    | some cs => some (.agg cs, s)
    | none => none
  | .bslice sz z len parts => match setElems sz (repl (elemOfCells z (z.length == 1)) len) (parts.map fun (i, x) => (i, (ev x).untok)) with
    | some xs => some (.sl .full sz xs, s)
    | none => none
  | .load agg n a => valStep (loadA s agg n (ev a)) s
  | .store n a v => match storeA s n (ev a) (ev v) with
    | some s' => some (.tup [], s')
    | none => none
  | .nilchk x => match ev x with
    | .nilp | .nilif | .nilf | .junk | .raw _ _ _ => none
    | v => some (v, s)
  | .bin op cls x y => valStep (binA op cls (ev x) (ev y)) s
  | .un op x => valStep (unA op (ev x)) s
  | .conv c x => valStep (convA c (ev x)) s
  | .mkif t x => some (.iface t (ev x), s)
  | .mkfn f a c => some (.fn f (a.map ev) (c.map ev), s)
  | .mkmap => some (.map (some s.bl.length), s.push (.amap []))
  | .mkslice _ _ _ _ _ => none
  | .slice sz x lo hi mx => valStep (sliceA s.tk sz (ev x) (lo.map ev) (hi.map ev) (mx.map ev)) s
  | .faddr off x => match ev x with
    | .ptr i o => some (.ptr i (o + off), s)
    | .rptr y o => some (.rptr y (o + off), s)
    | _ => none
  | .field off agg n x => match ev x with
    | .agg cs => valStep (partOf agg n off cs) s
    | _ => none
  | .iaddr sz x i => match ev x with
    | .sl _ z xs => if z ≠ sz then none else match idx (ev i) xs.length with
      | some k => some (.rptr (xs.getD k .junk) 0, s)
      | none => none
    | .msl b off z n => if z ≠ sz then none else match idx (ev i) n with
      | some k => some (.ptr b (off + k * sz), s)
      | none => none
    | _ => none
  | .aaddr sz len x i => match ev x with
    | .ptr b off => match idx (ev i) len with
      | some k => some (.ptr b (off + k * sz), s)
      | none => none
    | .rptr y off => match idx (ev i) len with
      | some k => some (.rptr y (off + k * sz), s)
      | none => none
    | _ => none
  | .index x i => match ev x with
    | .str b => match idx (ev i) b.length with
      | some k => some (.int .u8 (b.getD k 0).toNat, s)
      | none => none
    | _ => none
  | .aindex sz len agg x i => match ev x with
    | .agg cs => match idx (ev i) len with
      | some k => valStep (partOf agg sz (k * sz) cs) s
      | none => none
    | _ => none
  | .lookup c z m k ok =>
    if isKey c (ev k) then
      match (match ev m with
        | .map none => some []
        | .map (some i) => s.map? i
        | _ => none) with
      | none => none
      | some es => match findA (ev k) es with
        | none => none
        | some (some v) => some (if ok then .tup [v, .bool true] else v, s)
        | some none => some (if ok then .tup [z, .bool false] else z, s)
    else none
  | .mapset c m k v =>
    if isKey c (ev k) then
      match ev m with
      | .map (some i) => match s.map? i with
        | some es => match setA (ev k) (ev v) es with
          | some es' => if s.ro ≤ i then some (.tup [], s.setb i (.amap es')) else none
          | none => none
        | none => none
      | _ => none
    else none
  | .ranges x => match ev x with
    | .str b => some (.ptr s.bl.length 0, s.push (.siter b 0))
    | _ => none
  | .nexts x => match ev x with
    | .ptr i 0 => match s.bl[i]? with
      | some (.siter b pos) =>
        if pos < b.length then
          (if s.ro ≤ i then some (.tup [.bool true, .int .i64 pos, .int .i32 (Go.Utf8.decode ⟨b.toArray⟩ pos).1], s.setb i (.siter b (pos + (Go.Utf8.decode ⟨b.toArray⟩ pos).2))) else none)
        else some (.tup [.bool false], s)
      | _ => none
    | _ => none
  | .tassert t z ok x => match ev x with
    | .iface u v => if t = u then some (if ok then .tup [v, .bool true] else v, s) else if ok then some (.tup [z, .bool false], s) else none
    | .nilif => if ok then some (.tup [z, .bool false], s) else none
    | _ => none
  | .ext x i => match ev x with
    | .tup vs => match vs[i]? with
      | some v => some (v, s)
      | none => none
    | _ => none
  | .len c x => match c, ev x with
    | .slice, .sl _ _ xs => some (.int .i64 xs.length, s)
    | .slice, .msl _ _ _ n => some (.int .i64 n, s)
    | .str, .str b => some (.int .i64 b.length, s)
    | .map, .map none => some (.int .i64 0, s)
    | .map, .map (some i) => match s.map? i with
      | some es => some (.int .i64 es.length, s)
      | none => none
    | _, _ => none
  | .cap x => match ev x with
    | .sl .nil _ _ => some (.int .i64 0, s)
    | .sl .full _ xs => some (.int .i64 xs.length, s)
    | _ => none
  | .app sz x y => appA s sz (ev x) (ev y)
  | .appm sz x y => appmA s sz (ev x) (ev y)
  | .mkms sz z len cap => match ev len, ev cap with
    | .int _ n, .int _ m => if (0 ≤ n ∧ n ≤ m) ∧ m ≤ most then some (.msl s.bl.length 0 sz n.toNat, s.push (.cells (repl z m.toNat).flatten)) else none
    | _, _ => none
  | .appz sz x n => match ev x, ev n with
    | .sl .nil _ _, .int _ n => if 0 < n ∧ n ≤ most then some (.raw s.tk.length sz n.toNat, { s with tk := s.tk ++ [0] }) else none
    | _, _ => none
  | .mm m xs => match xs.map ev with
    | [] => none
    | x :: r => valStep (mmAll m x r) s
  | .del c m k =>
    if isKey c (ev k) then
      match ev m with
      | .map (some i) => match s.map? i with
        | some es => match delA (ev k) es with
          | some es' => if s.ro ≤ i then some (.tup [], s.setb i (.amap es')) else none
          | none => none
        | none => none
      | _ => none
    else none
  | .call _ _ | .defer _ _ | .panic _ | .recover => none

inductive CRes where
  | ret (v : AV)
  | pan (v : AV)
  deriving DecidableEq, Inhabited

/- a call: the panic that a deferred function may recover, the function, its arguments -/
abbrev Caller := Option AV → AV → List AV → St → Option (CRes × Bool × St)
abbrev R := Option (Out × Fr × St)

def IChk.addr (ev : Opd → AV) (c : IChk) : AV := match c.off with
  | none => ev c.a
  | some o => match ev c.a with
    | .ptr i p => .ptr i (p + o)
    | .rptr y p => .rptr y (p + o)
    | _ => .junk
/- what lies at an address; of a row: all its cells -/
def loadC (s : St) (agg : Bool) (n : Nat) (v : AV) : Option AV := match v with
  | .msl i _ _ _ => (s.cell? i).map AV.agg
  | v => loadA s agg n v
def chkOk (ev : Opd → AV) (s s' : St) : List IChk → Bool
  | [] => true
  | c :: r => (loadC s c.agg c.n (c.addr ev) == loadC s' c.agg c.n (c.addr ev)) && chkOk ev s s' r
/- a load that says by which chk it can be known: is it so? (nil stands for: it looks at no state; a row: at one of its cells) -/
def pinC (ev : Opd → AV) (agg : Bool) (n : Nat) (a : AV) (c : IChk) : Bool := match c.a with
  | .c .nilp => (match a with | .rptr _ _ => true | _ => false)
  | _ => (c.agg == agg && c.n == n && c.addr ev == a) || (match c.addr ev, a with | .msl i _ _ _, .ptr j _ => i == j | _, _ => false)
def pinOk (ev : Opd → AV) (o : IOper) : Bool := match o.op with
  | .load agg n a => o.chk.all fun c => pinC ev agg n (ev a) c
  | _ => true

def calm (E : IEnv) : AV → Bool
  | .fn f _ _ => match E.fns f with
    | some F => (match F.mode with | .pure | .thaw => true | _ => false)
    | none => !E.eff f
  | _ => false

/- a calm call whose arguments are plain: what it answers does not hang on the state -/
def IOper.pl (o : IOper) : Bool := o.mp && !o.chk.isEmpty
def plainCall (tgt : AV) (args : List AV) : Bool := match tgt with
  | .fn _ a c => AV.plainL (a ++ args ++ c)
  | _ => false

/- a store tells what it leaves as it is -/
def chkSt (ev : Opd → AV) (s : St) (cs : List IChk) : Option (AV × St) → Option (AV × St)
  | some (v, s') => if chkOk ev s s' cs then some (v, s') else none
  | none => none
def keepSt (ev : Opd → AV) (s : St) (o : IOper) (q : Option (AV × St)) : Option (AV × St) := match o.op with
  | .store _ _ _ => chkSt ev s o.chk q
  | _ => q
theorem keepSt_some {ev : Opd → AV} {s : St} {o : IOper} {q : Option (AV × St)} {x : AV × St} (h : keepSt ev s o q = some x) : q = some x := by
  unfold keepSt at h
  split at h
  · cases q with
    | none => cases h
    | some y =>
      simp only [chkSt] at h
      split at h
      · exact h
      · cases h
  · exact h

/- is it carried out? none: not known -/
def guardA (g : Option (Nat × Bool)) (e : Env) : Option Bool :=
  match g with
  | none => some true
  | some (i, want) => match e.get i with
    | .bool b => some (b == want)
    | .tup [] => some false
    | _ => none

def goA (E : IEnv) (o : IOper) (e : Env) : Option Bool :=
  match guardA o.guard e with
  | some true => if pinOk (Opd.ev E e) o then some true else none
  | x => x

def finO (o : IOper) (v : AV) (f : Fr) (e : Env) (s : St) : Option (Option AV × Fr × Env × St) :=
  match o.dst with
  | some d => some (none, f, (d, v) :: e, s)
  | none => some (none, f, e, s)

def runO (E : IEnv) (call : Caller) (draw : Bool) (o : IOper) (f : Fr) (e : Env) (s : St) : Option (Option AV × Fr × Env × St) :=
  match o.op with
  | .call g args =>
    if o.mp && !calm E (g.ev E e) then none else
    if o.pl && !plainCall (g.ev E e) (args.map (Opd.ev E e)) then none else
    match call none (g.ev E e) (args.map (Opd.ev E e)) s with
    | some (.ret v, _, s') => if chkOk (Opd.ev E e) s s' o.chk then finO o v f e s' else none
    | some (.pan v, _, s') => if draw then none else some (some v, f, e, s')
    | none => none
  | .defer g args => if f.rnd || draw then none else (match g.ev E e with
    | .fn q a c => finO o (.tup []) { f with defers := (.fn q a c, args.map (Opd.ev E e)) :: f.defers } e s
    | _ => none)
  | .panic x => if draw then none else (match x.ev E e with
    | .iface t v => some (some (.iface t v), f, e, s)
    | _ => none)
  | .recover => if f.rnd || draw then none else (match f.rcv with
    | some v => finO o v { f with rcv := none, recd := true } e s
    | none => finO o .nilif f e s)
  | op => match keepSt (Opd.ev E e) s o (opA (Opd.ev E e) s op) with
    | some (v, s') => finO o v f e s'
    | none => none

/- one operation of a region; e: the environment as it grows inside it -/
def stepA (E : IEnv) (call : Caller) (draw : Bool) (o : IOper) (f : Fr) (e : Env) (s : St) : Option (Option AV × Fr × Env × St) :=
  match goA E o e with
  | none => none
  | some false => finO o (.tup []) f e s
  | some true => runO E call draw o f e s

def opsA (E : IEnv) (call : Caller) (draw : Bool) : List IOper → Fr → Env → St → Option (Option AV × Fr × Env × St)
  | [], f, e, s => some (none, f, e, s)
  | o :: r, f, e, s => match stepA E call draw o f e s with
    | some (none, f', e', s') => opsA E call draw r f' e' s'
    | x => x

def keepA (loc : Env) : List Nat → Env → Env
  | [], e => e
  | k :: r, e => keepA loc r (e.put k (loc.get k))

def iterA (body : Fr → St → R) (ks : List Nat) : Nat → Fr → St → R
  | 0, _, _ => none
  | n + 1, f, s => match body { f with env := f.env.kill ks } s with
    | some (.normal, f', s') => iterA body ks n f' s'
    | r => r

def AB.isCells : AB → Bool
  | .cells _ | .dead => true
  | _ => false
def AB.same : AB → AB → Bool
  | .cells x, .cells y => x == y
  | .dead, .dead => true
  | _, _ => false
def AB.sameL : List AB → List AB → Bool
  | [], [] => true
  | x :: r, y :: q => AB.same x y && AB.sameL r q
  | _, _ => false
def regR (keep : List Nat) (e : Env) : Option (Option AV × Fr × Env × St) → R
  | some (none, f, loc, s) => some (.normal, { f with env := keepA loc keep e }, s)
  | some (some v, f, loc, s) => some (.pan v, { f with env := keepA loc keep e }, s)
  | none => none
def thenR (b : Fr → St → R) : R → R
  | some (.normal, f, s) => b f s
  | r => r
/- two orders of a region, and what comes behind: what both come to -/
def joinR (bury : Bool) (ks : List Nat) (rnd : Bool) (s : St) : R → R → R
  | some (o, f1, s1), some (o2, f2, s2) =>
    if ((o = o2 ∧ f1.env.kill ks = f2.env.kill ks) ∧ (f1.defers = f2.defers ∧ f1.rcv = f2.rcv ∧ f1.recd = f2.recd)) ∧ (s1.bl.length = s2.bl.length ∧ s1.tk = s2.tk) ∧
        (if bury then (s1.bl.drop s.bl.length).all AB.isCells && (s2.bl.drop s.bl.length).all AB.isCells else AB.sameL (s1.bl.drop s.bl.length) (s2.bl.drop s.bl.length)) = true then
      some (o, { f1 with env := f1.env.kill ks, rnd }, { s with bl := s.bl ++ (if bury then (s1.bl.drop s.bl.length).map fun _ => .dead else s1.bl.drop s.bl.length), tk := s1.tk }) else none
  | _, _ => none
/- a region's operations in another order -/
def inOrd (ord : List Nat) (ops : List IOper) : List IOper := ord.map fun i => ops.getD i default

def codeA (E : IEnv) (call : Caller) (n : Nat) : ICode → Fr → St → R
  | .skip, f, s => some (.normal, f, s)
  | .region ops keep draw, f, s => match opsA E call draw ops f f.env s with
    | some (none, f', loc, s') => some (.normal, { f' with env := keepA loc keep f.env }, s')
    | some (some v, f', loc, s') => some (.pan v, { f' with env := keepA loc keep f.env }, s')
    | none => none
  | .seq a b, f, s => match codeA E call n a f s with
    | some (.normal, f', s') => codeA E call n b f' s'
    | r => r
  | .cond c a b, f, s => match c.ev E f.env with
    | .bool true => codeA E call n a f s
    | .bool false => codeA E call n b f s
    | _ => none
  | .block id b, f, s => match codeA E call n b f s with
    | some (.exit j, f', s') => if j = id then some (.normal, f', s') else some (.exit j, f', s')
    | r => r
  | .loop ks b, f, s => iterA (codeA E call n b) ks n f s
  | .rangeFn g ps assign body, f, s =>
    let i := s.bl.length
    match call none (g.ev E f.env) [.yield i] (s.push (.loop { st := .ready, pend := none, env := f.env, ps, assign, body })) with
    | some (.ret _, _, s') => match s'.bl[i]? with
      | some (.loop L) => if L.st = .busy then none else
        (match L.pend with
          | none => some (.normal, f, s'.setb i (.loop { L with st := .exhausted }))
          | some (.exit id) => some (.exit id, f, s'.setb i (.loop { L with st := .exhausted }))
          | some .ret => some (.ret, f, s'.setb i (.loop { L with st := .exhausted })))
      | _ => none
    | some (.pan v, _, s') => some (.pan v, f, s')
    | none => none
  | .exit id, f, s => some (.exit id, f, s)
  | .ret, f, s => some (.ret, f, s)
  | .alt ord _ _ bury ops keep rest ks, f, s =>
    joinR bury ks f.rnd s (thenR (codeA E call n rest) (regR keep f.env (opsA E call true ops f f.env { s with ro := s.bl.length })))
      (thenR (codeA E call n rest) (regR keep f.env (opsA E call true (inOrd ord ops) f f.env { s with ro := s.bl.length })))

/- is it no call of a hand-proved function? -/
def ownFn (E : IEnv) : AV → Bool
  | .fn f _ _ => (E.fns f).isSome
  | _ => true

/- the deferred calls; what is left of a panic -/
def unwindA (E : IEnv) (call : Caller) : List (AV × List AV) → Option AV → St → Option (Option AV × St)
  | [], p, s => some (p, s)
  | (g, args) :: ds, p, s => if ownFn E g then (match call p g args s with
    | some (.ret _, recd, s') => unwindA E call ds (if recd then none else p) s'
    | _ => none) else none

def resA (e : Env) (s : St) : List IRes → Option (List AV)
  | [] => some []
  | .t n :: r => match resA e s r with
    | some vs => some (e.get n :: vs)
    | none => none
  | .cell a agg n :: r => match loadA s agg n (e.get a), resA e s r with
    | some v, some vs => some (v :: vs)
    | _, _ => none
def resOne : List AV → AV
  | [v] => v
  | vs => .tup vs

def envOf : Nat → List AV → Env
  | _, [] => []
  | i, v :: r => (i, v) :: envOf (i + 1) r

def finA (m : Mode) (lo : Nat) (s s' : St) (v : AV) : Option (AV × St) :=
  match m with
  | .eff => some (v, s')
  | .pure | .thaw => if v.data then some (v.untok, s) else if (frz s' lo 8 v).data then some ((frz s' lo 8 v).untok, s) else none
  | .keep => if v.data then (match v with
    | .sl (.tok t) z xs => if s.tk.length ≤ t ∧ s'.tk[t]? = some xs.length then some (.sl (.tok s.tk.length) z xs, { s with tk := s.tk ++ [xs.length] }) else some (.sl .any z xs, s)
    | _ => some (v.untok, s)) else if (frz s' lo 8 v).data then some ((frz s' lo 8 v).untok, s) else none

/- how the state is shut to a callee -/
def s0Of (m : Mode) (s : St) : St := match m with | .eff => s | _ => { s with ro := s.bl.length, rt := s.tk.length }

def isPure : Mode → Bool
  | .pure | .thaw => true
  | _ => false
/- the state in which a body starts: with plain arguments a pure one sees nothing of the caller's -/
def startA (m : Mode) (pn : Option AV) (args : List AV) (s : St) : St := if isPure m && pn.isNone && AV.plainL args then { bl := [], tk := [], ro := 0, rt := 0 } else s0Of m s

/- what is left of a body: nothing, a panic -/
def outPan : Out → Option (Option AV)
  | .normal | .ret => some none
  | .pan v => some (some v)
  | .exit _ => none

def runA (E : IEnv) (call : Caller) (n : Nat) (F : IFn) (pn : Option AV) (args : List AV) (s : St) : Option (CRes × Bool × St) :=
  if args.length ≠ F.np then none else
  match codeA E call n F.body { env := envOf 0 args, defers := [], rcv := pn, recd := false, rnd := false } (startA F.mode pn args s) with
  | none => none
  | some (o, f, s1) =>
    match outPan o with
    | none => none
    | some p => match unwindA E call f.defers p s1 with
      | none => none
      | some (some v, s2) => match finA F.mode (startA F.mode pn args s).bl.length s s2 v with
        | some (v', s') => some (.pan v', f.recd, { s' with ro := s.ro, rt := s.rt })
        | none => none
      | some (none, s2) => match resA f.env s2 F.res with
        | none => none
        | some vs => match finA F.mode (startA F.mode pn args s).bl.length s s2 (resOne vs) with
          | some (v', s') => some (.ret v', f.recd, { s' with ro := s.ro, rt := s.rt })
          | none => none

def putAll : List Nat → List AV → Env → Env
  | p :: ps, v :: vs, e => putAll ps vs (e.put p v)
  | _, _, e => e

def roundA (E : IEnv) (call : Caller) (n : Nat) (i : Nat) (args : List AV) (s : St) : Option (CRes × Bool × St) :=
  match s.bl[i]? with
  | some (.loop L) =>
    if args.length = L.ps.length ∧ s.ro ≤ i then
      match codeA E call n L.assign { env := putAll L.ps args L.env, defers := [], rcv := none, recd := false, rnd := true } s with
      | some (.normal, f, s1) => match s1.bl[i]? with
        | some (.loop L1) => if L1.st = .ready then
          (match codeA E call n L.body f (s1.setb i (.loop { L1 with st := .busy })) with
          | some (o, f2, s2) => match s2.bl[i]? with
            | some (.loop L2) => (match o with
              | .normal => some (.ret (.bool true), false, s2.setb i (.loop { L2 with st := .ready, pend := none }))
              | .exit id => some (.ret (.bool false), false, s2.setb i (.loop { L2 with st := .done, pend := some (.exit id) }))
              | .ret => some (.ret (.bool false), false, s2.setb i (.loop { L2 with st := .done, pend := some .ret }))
              | .pan v => if f2.defers.isEmpty then some (.pan v, false, s2) else none)
            | _ => none
          | none => none) else none
        | _ => none
      | _ => none
    else none
  | _ => none

def callA (E : IEnv) : Nat → Caller
  | 0, _, _, _, _ => none
  | n + 1, pn, tgt, args, s => match tgt with
    | .fn f first caps => match E.fns f with
      | some F => runA E (callA E n) n F pn (first ++ args ++ caps) s
      | none => if pn.isSome then none else if E.eff f then (match E.prims f (first ++ args ++ caps) s with
        | some (v, s') => some (.ret v, false, s')
        | none => none) else match E.prim f (first ++ args ++ caps) with
        | some v => some (.ret v, false, s)
        | none => none
    | .yield i => if pn.isSome then none else roundA E (callA E n) n i args s
    | _ => none

end Ab
