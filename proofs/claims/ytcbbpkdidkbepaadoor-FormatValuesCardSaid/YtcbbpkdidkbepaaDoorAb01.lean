/- The abstract language, its values and its run: what a Go function comes to when slices are lists. No condition. -/
import GoSem.Dispatch
import Derived.Calls
import Derived.Below
set_option linter.all false
namespace Ab
open Go (IntKind BinOp UnOp)

inductive Own where
  | any | nil | full | tok (t : Nat)
  deriving DecidableEq, Inhabited

def Own.solid : Own → Bool
  | .full | .tok _ => true
  | _ => false

inductive AV where
  | bool (b : Bool)
  | int (k : IntKind) (n : Int)
  | str (s : List UInt8)
  | nilp
  | ptr (i off : Nat)
  | rptr (x : AV) (off : Nat)
  | sl (own : Own) (sz : Nat) (xs : List AV)
  | raw (t sz n : Nat)
  | msl (i off len : Nat)
  | map (i : Option Nat)
  | fn (f : Nat) (first caps : List AV)
  | yield (i : Nat)
  | nilf
  | iface (t : Nat) (v : AV)
  | nilif
  | agg (cs : List AV)
  | tup (vs : List AV)
  | junk
  deriving Inhabited

mutual
def AV.beq : AV → AV → Bool
  | .bool a, .bool b => a == b
  | .int k a, .int l b => k == l && a == b
  | .str a, .str b => a == b
  | .nilp, .nilp => true
  | .ptr i o, .ptr j p => i == j && o == p
  | .rptr x o, .rptr y p => AV.beq x y && o == p
  | .sl o z xs, .sl p y ys => (o == p && z == y) && AV.beqL xs ys
  | .raw t z n, .raw u y m => (t == u && z == y) && n == m
  | .msl i o n, .msl j p m => i == j && o == p && n == m
  | .map i, .map j => i == j
  | .fn f a c, .fn g b d => f == g && AV.beqL a b && AV.beqL c d
  | .yield i, .yield j => i == j
  | .nilf, .nilf => true
  | .iface t v, .iface u w => t == u && AV.beq v w
  | .nilif, .nilif => true
  | .agg xs, .agg ys => AV.beqL xs ys
  | .tup xs, .tup ys => AV.beqL xs ys
  | .junk, .junk => true
  | _, _ => false
def AV.beqL : List AV → List AV → Bool
  | [], [] => true
  | x :: xs, y :: ys => AV.beq x y && AV.beqL xs ys
  | _, _ => false
end

mutual
theorem AV.beq_refl : ∀ x : AV, AV.beq x x = true
  | .bool _ | .int _ _ | .str _ | .nilp | .ptr _ _ | .raw _ _ _ | .msl _ _ _ | .map _ | .yield _ | .nilf | .nilif | .junk => by simp [AV.beq]
  | .rptr x _ => by simp [AV.beq, AV.beq_refl x]
  | .sl _ _ xs => by simp [AV.beq, AV.beqL_refl xs]
  | .fn _ a c => by simp [AV.beq, AV.beqL_refl a, AV.beqL_refl c]
  | .iface _ v => by simp [AV.beq, AV.beq_refl v]
  | .agg xs => by simp [AV.beq, AV.beqL_refl xs]
  | .tup xs => by simp [AV.beq, AV.beqL_refl xs]
theorem AV.beqL_refl : ∀ x : List AV, AV.beqL x x = true
  | [] => rfl
  | x :: xs => by simp [AV.beqL, AV.beq_refl x, AV.beqL_refl xs]
end

mutual
theorem AV.eq_of_beq : ∀ x y : AV, AV.beq x y = true → x = y := by
  intro x y h
  cases x <;> cases y <;> simp [AV.beq] at h <;> first
    | exact congrArg _ h
    | rfl
    | (obtain ⟨h1, h2⟩ := h; subst h1; subst h2; rfl)
    | (obtain ⟨h1, h2⟩ := h; have := AV.eq_of_beq _ _ h1; subst this; subst h2; rfl)
    | (obtain ⟨h1, h2⟩ := h; have := AV.eqL_of_beq _ _ h2; subst this; subst h1; rfl)
    | (obtain ⟨h1, h2⟩ := h; have := AV.eq_of_beq _ _ h2; subst this; subst h1; rfl)
    | (obtain ⟨⟨h1, h2⟩, h3⟩ := h; subst h1; subst h2; subst h3; rfl)
    | (obtain ⟨⟨h1, h2⟩, h3⟩ := h; have := AV.eqL_of_beq _ _ h2; have := AV.eqL_of_beq _ _ h3; subst_vars; rfl)
    | (have := AV.eqL_of_beq _ _ h; subst this; rfl)
    | (obtain ⟨⟨h1, h3⟩, h2⟩ := h; have := AV.eqL_of_beq _ _ h2; subst this; subst h1; subst h3; rfl)
theorem AV.eqL_of_beq : ∀ x y : List AV, AV.beqL x y = true → x = y := by
  intro x y h
  cases x <;> cases y <;> simp [AV.beqL] at h
  · rfl
  · obtain ⟨h1, h2⟩ := h
    have := AV.eq_of_beq _ _ h1; have := AV.eqL_of_beq _ _ h2; subst_vars; rfl
end

instance : BEq AV := ⟨AV.beq⟩
instance : LawfulBEq AV where
  eq_of_beq := fun {a b} h => AV.eq_of_beq a b h
  rfl := fun {a} => AV.beq_refl a
instance : DecidableEq AV := fun a b => if h : AV.beq a b = true then .isTrue (AV.eq_of_beq a b h) else .isFalse fun e => h (e ▸ AV.beq_refl a)

/- the cells of a value -/
def AV.cells? : AV → Option (List AV)
  | .agg cs => some cs
  | .junk | .tup _ | .raw _ _ _ => none
  | v => some [v]

/- tokens taken away, but for what lies inside a slice, where there are none -/
mutual
def AV.untok : AV → AV
  | .sl (.tok _) z xs => .sl .any z xs
  | .raw _ _ _ => .junk
  | .agg cs => .agg (AV.untokL cs)
  | .tup cs => .tup (AV.untokL cs)
  | .iface t v => .iface t (AV.untok v)
  | .fn f a c => .fn f (AV.untokL a) (AV.untokL c)
  | v => v
def AV.untokL : List AV → List AV
  | [] => []
  | x :: xs => AV.untok x :: AV.untokL xs
end

/- is it data alone: nothing that names a block -/
mutual
def AV.data : AV → Bool
  | .bool _ | .int _ _ | .str _ | .nilp | .nilf | .nilif => true
  | .map none => true
  | .sl _ _ xs => AV.dataL xs
  | .rptr x _ => AV.data x
  | .iface _ v => AV.data v
  | .agg cs => AV.dataL cs
  | .tup cs => AV.dataL cs
  | .fn _ a c => AV.dataL a && AV.dataL c
  | _ => false
def AV.dataL : List AV → Bool
  | [] => true
  | x :: xs => AV.data x && AV.dataL xs
end

/- the environment of one call: slots and values, ascending -/
abbrev Env := List (Nat × AV)
def Env.get : Env → Nat → AV
  | [], _ => .junk
  | (j, v) :: r, i => if i = j then v else Env.get r i
def Env.put : Env → Nat → AV → Env
  | [], i, v => [(i, v)]
  | (j, u) :: r, i, v => if i = j then (i, v) :: r else if i < j then (i, v) :: (j, u) :: r else (j, u) :: Env.put r i v
def Env.kill (ks : List Nat) : Env → Env
  | [] => []
  | (j, v) :: r => if ks.contains j then Env.kill ks r else (j, v) :: Env.kill ks r

inductive Opd where
  | t (n : Nat)
  | c (v : AV)
  | g (n : Nat)
  deriving DecidableEq, Inhabited

/- what '==' is asked of -/
inductive Cls where
  | val | bool | ptr | slice | map | func | iface | agg (n : Nat)
  deriving DecidableEq, Inhabited

inductive CV where
  | int (k : IntKind)
  | same
  | strBytes
  | bytesStr
  | intStr
  deriving DecidableEq, Inhabited

inductive MM where
  | min | max
  deriving DecidableEq, Inhabited

inductive LC where
  | str | slice | map
  deriving DecidableEq, Inhabited

inductive KC where
  | int | str | bool
  deriving DecidableEq, Inhabited

inductive IOp where
  | mov (x : Opd)
  | pick (c a b : Opd)
  | alloc (z : List AV)
  | box (n : Nat) (x : Opd)
  | build (z : List AV) (parts : List (Nat × Nat × Opd))
  | bslice (sz : Nat) (z : List AV) (len : Nat) (parts : List (Nat × Opd))
  | load (agg : Bool) (n : Nat) (a : Opd)
  | store (n : Nat) (a v : Opd)
  | nilchk (x : Opd)
  | bin (op : BinOp) (cls : Cls) (x y : Opd)
  | un (op : UnOp) (x : Opd)
  | conv (c : CV) (x : Opd)
  | mkif (t : Nat) (x : Opd)
  | mkfn (f : Nat) (first caps : List Opd)
  | mkmap
  | mkslice (sz : Nat) (z : List AV) (mu : Bool) (len cap : Opd)
  | slice (sz : Nat) (x : Opd) (lo hi mx : Option Opd)
  | faddr (off : Nat) (x : Opd)
  | field (off : Nat) (agg : Bool) (n : Nat) (x : Opd)
  | iaddr (sz : Nat) (x i : Opd)
  | aaddr (sz len : Nat) (x i : Opd)
  | index (x i : Opd)
  | aindex (sz len : Nat) (agg : Bool) (x i : Opd)
  | lookup (c : KC) (z : AV) (m k : Opd) (ok : Bool)
  | mapset (c : KC) (m k v : Opd)
  | ranges (x : Opd)
  | nexts (x : Opd)
  | tassert (t : Nat) (z : AV) (ok : Bool) (x : Opd)
  | ext (x : Opd) (i : Nat)
  | len (c : LC) (x : Opd)
  | cap (x : Opd)
  | app (sz : Nat) (x y : Opd)
  | appz (sz : Nat) (x n : Opd)
  | mm (m : MM) (xs : List Opd)
  | del (c : KC) (m k : Opd)
  | call (f : Opd) (args : List Opd)
  | defer (f : Opd) (args : List Opd)
  | panic (x : Opd)
  | recover
  deriving DecidableEq, Inhabited

/- a load that may come before or behind a call: what it takes and the address -/
structure IChk where
  agg : Bool
  n : Nat
  a : Opd
  off : Option Nat := none
  deriving DecidableEq, Inhabited

structure IOper where
  dst : Option Nat
  op : IOp
  guard : Option (Nat × Bool) := none
  chk : List IChk := []
  mp : Bool := false
  deriving DecidableEq, Inhabited

inductive ICode where
  | skip
  | region (ops : List IOper) (keep : List Nat) (draw : Bool)
  | seq (a b : ICode)
  | cond (c : Opd) (a b : ICode)
  | block (id : Nat) (b : ICode)
  | loop (kill : List Nat) (b : ICode)
  | rangeFn (f : Opd) (ps : List Nat) (assign body : ICode)
  | exit (id : Nat)
  | ret
  deriving Inhabited

inductive Mode where
  | pure | keep | thaw | eff
  deriving DecidableEq, Inhabited

inductive IRes where
  | t (n : Nat)
  | cell (a : Nat) (agg : Bool) (n : Nat)
  deriving DecidableEq, Inhabited

structure IFn where
  np : Nat
  body : ICode
  res : List IRes
  mode : Mode
  deriving Inhabited

inductive Out where
  | normal
  | exit (id : Nat)
  | ret
  | pan (v : AV)
  deriving DecidableEq, Inhabited

inductive Pend where
  | exit (id : Nat)
  | ret
  deriving DecidableEq, Inhabited

inductive LSt where
  | ready | busy | done | exhausted
  deriving DecidableEq, Inhabited

structure ALoop where
  st : LSt
  pend : Option Pend
  env : Env
  ps : List Nat
  assign : ICode
  body : ICode
  deriving Inhabited

inductive AB where
  | cells (cs : List AV)
  | amap (es : List (AV × AV))
  | siter (s : List UInt8) (pos : Nat)
  | loop (l : ALoop)
  deriving Inhabited

structure St where
  bl : List AB
  tk : List Nat
  ro : Nat
  rt : Nat
  deriving Inhabited

structure Fr where
  env : Env
  defers : List (AV × List AV)
  rcv : Option AV
  recd : Bool
  rnd : Bool
  deriving Inhabited

/- what a run needs beside: functions, globals, hand-proved functions -/
structure IEnv where
  fns : Nat → Option IFn
  glob : Nat → AV
  prim : Nat → List AV → Option AV

def Opd.ev (E : IEnv) (e : Env) : Opd → AV
  | .t n => e.get n
  | .c v => v
  | .g n => E.glob n

/- the most elements that a slice is grown to -/
def most : Nat := 1073741824

def St.push (s : St) (b : AB) : St := { s with bl := s.bl ++ [b] }
def St.setb (s : St) (i : Nat) (b : AB) : St := { s with bl := s.bl.set i b }
def St.cell? (s : St) (i : Nat) : Option (List AV) := match s.bl[i]? with | some (.cells cs) => some cs | _ => none
def St.map? (s : St) (i : Nat) : Option (List (AV × AV)) := match s.bl[i]? with | some (.amap cs) => some cs | _ => none

/- the cells at a place of a value, as one value -/
def partOf (agg : Bool) (n off : Nat) (cs : List AV) : Option AV :=
  if agg then (if off + n ≤ cs.length then some (.agg ((cs.drop off).take n)) else none)
  else cs[off]?

def loadA (s : St) (agg : Bool) (n : Nat) : AV → Option AV
  | .ptr i off => match s.cell? i with
    | some cs => partOf agg n off cs
    | none => none
  | .rptr x off => match x.cells? with
    | some cs => partOf agg n off cs
    | none => none
  | _ => none

def storeA (s : St) (n : Nat) (a v : AV) : Option St :=
  match a with
  | .ptr i off => match s.cell? i, v.cells? with
    | some cs, some vs => if s.ro ≤ i ∧ vs.length = n ∧ off + n ≤ cs.length then some (s.setb i (.cells (cs.take off ++ vs ++ cs.drop (off + n)))) else none
    | _, _ => none
  | _ => none

def fillA : List AV → List (Nat × Nat × AV) → Option (List AV)
  | cs, [] => some cs
  | cs, (off, n, v) :: r => match v.cells? with
    | some vs => if vs.length = n ∧ off + n ≤ cs.length then fillA (cs.take off ++ vs ++ cs.drop (off + n)) r else none
    | none => none

def repl (x : AV) : Nat → List AV
  | 0 => []
  | n + 1 => x :: repl x n

/- the elements of a literal: z the zero cells of one; each element's place is set at most once by a whole value -/
def elemOfCells (z : List AV) (one : Bool) : AV := if one then (match z with | [v] => v | _ => .junk) else .agg z
def hasSize (sz : Nat) (v : AV) : Bool := match v.cells? with
  | some cs => cs.length == sz
  | none => false
def setElems (sz : Nat) : List AV → List (Nat × AV) → Option (List AV)
  | xs, [] => some xs
  | xs, (i, v) :: r => if i < xs.length ∧ hasSize sz v = true then setElems sz (xs.set i v) r else none

def aeq : Cls → AV → AV → Option Bool
  | .bool, .bool a, .bool b => some (a == b)
  | .ptr, .nilp, .nilp => some true
  | .ptr, .nilp, .ptr _ _ => some false
  | .ptr, .ptr _ _, .nilp => some false
  | .ptr, .ptr i o, .ptr j p => some (i == j && o == p)
  | .slice, .sl .nil _ _, .sl .nil _ _ => some true
  | .slice, .sl .any _ _, .sl .nil _ _ => some false
  | .slice, .sl .full _ _, .sl .nil _ _ => some false
  | .slice, .sl (.tok _) _ _, .sl .nil _ _ => some false
  | .slice, .msl _ _ _, .sl .nil _ _ => some false
  | .map, .map none, .map none => some true
  | .map, .map (some _), .map none => some false
  | .func, .nilf, .nilf => some true
  | .func, .fn _ _ _, .nilf => some false
  | .func, .yield _, .nilf => some false
  | .iface, .nilif, .nilif => some true
  | .iface, .iface _ _, .nilif => some false
  | .iface, .nilif, .iface _ _ => some false
  | _, _, _ => none

def binA (op : BinOp) (cls : Cls) (x y : AV) : Option AV :=
  match x, y with
  | .int k a, .int l b =>
    match op with
    | .shl => if 0 ≤ b then some (.int k (k.wrap (a * 2 ^ (min b.toNat k.bits)))) else none
    | .shr => if 0 ≤ b then some (.int k (a.fdiv (2 ^ (min b.toNat k.bits)))) else none
    | _ =>
      if k ≠ l then none else
      match op with
      | .add => some (.int k (k.wrap (a + b)))
      | .sub => some (.int k (k.wrap (a - b)))
      | .mul => some (.int k (k.wrap (a * b)))
      | .quo => if b = 0 then none else some (.int k (k.wrap (a.tdiv b)))
      | .rem => if b = 0 then none else some (.int k (a.tmod b))
      | .and => some (.int k (k.wrap (BitVec.ofInt k.bits a &&& BitVec.ofInt k.bits b).toNat))
      | .or => some (.int k (k.wrap (BitVec.ofInt k.bits a ||| BitVec.ofInt k.bits b).toNat))
      | .xor => some (.int k (k.wrap (BitVec.ofInt k.bits a ^^^ BitVec.ofInt k.bits b).toNat))
      | .andNot => some (.int k (k.wrap (BitVec.ofInt k.bits a &&& ~~~ BitVec.ofInt k.bits b).toNat))
      | .eql => some (.bool (a == b))
      | .neq => some (.bool (a != b))
      | .lss => some (.bool (decide (a < b)))
      | .leq => some (.bool (decide (a ≤ b)))
      | .gtr => some (.bool (decide (a > b)))
      | .geq => some (.bool (decide (a ≥ b)))
      | _ => none
  | .str a, .str b =>
    match op with
    | .add => if a.length + b.length ≤ most then some (.str (a ++ b)) else none
    | .eql => some (.bool (a == b))
    | .neq => some (.bool (!(a == b)))
    | .lss => some (.bool (Go.Op.bytesLess a b))
    | .leq => some (.bool (Go.Op.bytesLess a b || a == b))
    | .gtr => some (.bool !(Go.Op.bytesLess a b || a == b))
    | .geq => some (.bool !(Go.Op.bytesLess a b))
    | _ => none
  | x, y =>
    match op with
    | .eql => match aeq cls x y with | some b => some (.bool b) | none => none
    | .neq => match aeq cls x y with | some b => some (.bool (!b)) | none => none
    | _ => none

def unA (op : UnOp) (x : AV) : Option AV :=
  match op, x with
  | .neg, .int k n => some (.int k (k.wrap (0 - n)))
  | .not, .bool b => some (.bool (!b))
  | _, _ => none

def bytesOf (s : List UInt8) : List AV := s.map fun b => .int .u8 b.toNat
def strOf : List AV → Option (List UInt8)
  | [] => some []
  | .int .u8 n :: r => match strOf r with
    | some s => some (UInt8.ofNat n.toNat :: s)
    | none => none
  | _ => none

def convA (c : CV) (x : AV) : Option AV :=
  match c, x with
  | .int k, .int _ n => some (.int k (k.wrap n))
  | .same, .str s => some (.str s)
  | .strBytes, .str s => some (.sl .any 1 (bytesOf s))
  | .bytesStr, .sl _ 1 xs => (strOf xs).map .str
  | _, _ => none

/- an index in bounds, as a number -/
def idx (i : AV) (n : Nat) : Option Nat :=
  match i with
  | .int _ i => if 0 ≤ i ∧ i < n then some i.toNat else none
  | _ => none
def bound (i : Option AV) (dflt most : Nat) : Option Nat :=
  match i with
  | none => some dflt
  | some (.int _ i) => if 0 ≤ i ∧ i ≤ most then some i.toNat else none
  | _ => none

def sliceA (tk : List Nat) (sz : Nat) (x : AV) (lo hi mx : Option AV) : Option AV :=
  match x with
  | .str s =>
    if mx.isSome ∨ sz ≠ 0 then none else
    match bound hi s.length s.length with
    | none => none
    | some h => match bound lo 0 h with
      | none => none
      | some l => some (.str ((s.take h).drop l))
  | .sl own z xs =>
    if z ≠ sz ∨ sz = 0 then none else
    match bound mx xs.length xs.length with
    | none => none
    | some m => match bound hi xs.length m with
      | none => none
      | some h => match bound lo 0 h with
        | none => none
        | some l =>
          if mx.isSome then
            (if m = h ∧ own.solid = true ∧ hi.isSome then some (.sl .full z ((xs.take h).drop l)) else none)
          else some (.sl (if l = 0 ∧ h = xs.length then own else if own = .full ∧ h = xs.length then .full else if own = .nil then .nil else .any) z ((xs.take h).drop l))
  | .raw t z n =>
    if mx.isSome ∨ (z ≠ sz ∨ sz = 0) ∨ tk[t]? ≠ some 0 then none else
    match bound hi n 0, bound lo 0 0 with
    | some 0, some 0 => some (.sl (.tok t) z [])
    | _, _ => none
  | _ => none

def ysOf (sz : Nat) (y : AV) : Option (List AV) :=
  match y with
  | .sl _ z ys => if z = sz then some (AV.untokL ys) else none
  | .str b => if 1 = sz then some (bytesOf b) else none
  | _ => none

def appA (s : St) (sz : Nat) (x y : AV) : Option (AV × St) :=
  match x, ysOf sz y with
  | .sl own z xs, some ys =>
    if z = sz ∧ xs.length + ys.length ≤ most then
      match ys with
      | [] => some (.sl own z xs, s)
      | _ :: _ =>
        match own with
        | .any => none
        | .nil | .full => some (.sl (.tok s.tk.length) z (xs ++ ys), { s with tk := s.tk ++ [xs.length + ys.length] })
        | .tok t => if s.rt ≤ t ∧ s.tk[t]? = some xs.length then some (.sl (.tok t) z (xs ++ ys), { s with tk := s.tk.set t (xs.length + ys.length) }) else none
    else none
  | _, _ => none

def keyEq : AV → AV → Option Bool
  | .str a, .str b => some (a == b)
  | .int k a, .int l b => if k = l then some (a == b) else none
  | .bool a, .bool b => some (a == b)
  | _, _ => none
def findA (k : AV) : List (AV × AV) → Option (Option AV)
  | [] => some none
  | (j, v) :: r => match keyEq k j with
    | some true => some (some v)
    | some false => findA k r
    | none => none
def setA (k v : AV) : List (AV × AV) → Option (List (AV × AV))
  | [] => some [(k, v)]
  | (j, u) :: r => match keyEq k j with
    | some true => some ((k, v) :: r)
    | some false => match setA k v r with
      | some r' => some ((j, u) :: r')
      | none => none
    | none => none
def delA (k : AV) : List (AV × AV) → Option (List (AV × AV))
  | [] => some []
  | (j, u) :: r => match keyEq k j with
    | some true => some r
    | some false => match delA k r with
      | some r' => some ((j, u) :: r')
      | none => none
    | none => none
def isKey : KC → AV → Bool
  | .str, .str _ => true
  | .int, .int _ _ => true
  | .bool, .bool _ => true
  | _, _ => false

def mmA (m : MM) (x y : AV) : Option AV :=
  match x, y with
  | .int k a, .int l b => if k = l then (match m with
    | .max => some (.int k (if b > a then b else a))
    | .min => some (.int k (if b < a then b else a))) else none
  | _, _ => none
def mmAll (m : MM) : AV → List AV → Option AV
  | x, [] => some x
  | x, y :: r => match mmA m x y with
    | some z => mmAll m z r
    | none => none

def valStep (o : Option AV) (s : St) : Option (AV × St) := match o with | some v => some (v, s) | none => none

/- an operation that is no call -/
def opA (ev : Opd → AV) (s : St) : IOp → Option (AV × St)
  | .mov x => some (ev x, s)
  | .pick c a b => match ev c with
    | .bool t => some (if t then ev a else ev b, s)
    | _ => none
  | .alloc z => some (.ptr s.bl.length 0, s.push (.cells z))
  | .box n x => match (ev x).cells? with
    | some cs => if cs.length = n then some (.ptr s.bl.length 0, s.push (.cells cs)) else none
    | none => none
  | .build z parts => match fillA z (parts.map fun (o, n, x) => (o, n, ev x)) with
    | some cs => some (.agg cs, s)
    | none => none
  | .bslice sz z len parts => match setElems sz (repl (elemOfCells z (z.length == 1)) len) (parts.map fun (i, x) => (i, (ev x).untok)) with
    | some xs => some (.sl .full sz xs, s)
    | none => none
  | .load agg n a => valStep (loadA s agg n (ev a)) s
  | .store n a v => match storeA s n (ev a) (ev v) with
    | some s' => some (.tup [], s')
    | none => none
  | .nilchk x => match ev x with
    | .nilp | .nilif | .nilf | .junk | .raw _ _ _ => none
    | v => some (v, s)
  | .bin op cls x y => valStep (binA op cls (ev x) (ev y)) s
  | .un op x => valStep (unA op (ev x)) s
  | .conv c x => valStep (convA c (ev x)) s
  | .mkif t x => some (.iface t (ev x), s)
  | .mkfn f a c => some (.fn f (a.map ev) (c.map ev), s)
  | .mkmap => some (.map (some s.bl.length), s.push (.amap []))
  | .mkslice _ _ _ _ _ => none
  | .slice sz x lo hi mx => valStep (sliceA s.tk sz (ev x) (lo.map ev) (hi.map ev) (mx.map ev)) s
  | .faddr off x => match ev x with
    | .ptr i o => some (.ptr i (o + off), s)
    | .rptr y o => some (.rptr y (o + off), s)
    | _ => none
  | .field off agg n x => match ev x with
    | .agg cs => valStep (partOf agg n off cs) s
    | _ => none
  | .iaddr sz x i => match ev x with
    | .sl _ z xs => if z ≠ sz then none else match idx (ev i) xs.length with
      | some k => some (.rptr (xs.getD k .junk) 0, s)
      | none => none
    | .msl b off n => match idx (ev i) n with
      | some k => some (.ptr b (off + k * sz), s)
      | none => none
    | _ => none
  | .aaddr sz len x i => match ev x with
    | .ptr b off => match idx (ev i) len with
      | some k => some (.ptr b (off + k * sz), s)
      | none => none
    | .rptr y off => match idx (ev i) len with
      | some k => some (.rptr y (off + k * sz), s)
      | none => none
    | _ => none
  | .index x i => match ev x with
    | .str b => match idx (ev i) b.length with
      | some k => some (.int .u8 (b.getD k 0).toNat, s)
      | none => none
    | _ => none
  | .aindex sz len agg x i => match ev x with
    | .agg cs => match idx (ev i) len with
      | some k => valStep (partOf agg sz (k * sz) cs) s
      | none => none
    | _ => none
  | .lookup c z m k ok =>
    if isKey c (ev k) then
      match (match ev m with
        | .map none => some []
        | .map (some i) => s.map? i
        | _ => none) with
      | none => none
      | some es => match findA (ev k) es with
        | none => none
        | some (some v) => some (if ok then .tup [v, .bool true] else v, s)
        | some none => some (if ok then .tup [z, .bool false] else z, s)
    else none
  | .mapset c m k v =>
    if isKey c (ev k) then
      match ev m with
      | .map (some i) => match s.map? i with
        | some es => match setA (ev k) (ev v) es with
          | some es' => if s.ro ≤ i then some (.tup [], s.setb i (.amap es')) else none
          | none => none
        | none => none
      | _ => none
    else none
  | .ranges x => match ev x with
    | .str b => some (.ptr s.bl.length 0, s.push (.siter b 0))
    | _ => none
  | .nexts x => match ev x with
    | .ptr i 0 => match s.bl[i]? with
      | some (.siter b pos) =>
        if pos < b.length then
          (if s.ro ≤ i then some (.tup [.bool true, .int .i64 pos, .int .i32 (Go.Utf8.decode ⟨b.toArray⟩ pos).1], s.setb i (.siter b (pos + (Go.Utf8.decode ⟨b.toArray⟩ pos).2))) else none)
        else some (.tup [.bool false], s)
      | _ => none
    | _ => none
  | .tassert t z ok x => match ev x with
    | .iface u v => if t = u then some (if ok then .tup [v, .bool true] else v, s) else if ok then some (.tup [z, .bool false], s) else none
    | .nilif => if ok then some (.tup [z, .bool false], s) else none
    | _ => none
  | .ext x i => match ev x with
    | .tup vs => match vs[i]? with
      | some v => some (v, s)
      | none => none
    | _ => none
  | .len c x => match c, ev x with
    | .slice, .sl _ _ xs => some (.int .i64 xs.length, s)
    | .slice, .msl _ _ n => some (.int .i64 n, s)
    | .str, .str b => some (.int .i64 b.length, s)
    | .map, .map none => some (.int .i64 0, s)
    | .map, .map (some i) => match s.map? i with
      | some es => some (.int .i64 es.length, s)
      | none => none
    | _, _ => none
  | .cap x => match ev x with
    | .sl .nil _ _ => some (.int .i64 0, s)
    | .sl .full _ xs => some (.int .i64 xs.length, s)
    | _ => none
  | .app sz x y => appA s sz (ev x) (ev y)
  | .appz sz x n => match ev x, ev n with
    | .sl .nil _ _, .int _ n => if 0 < n ∧ n ≤ most then some (.raw s.tk.length sz n.toNat, { s with tk := s.tk ++ [0] }) else none
    | _, _ => none
  | .mm m xs => match xs.map ev with
    | [] => none
    | x :: r => valStep (mmAll m x r) s
  | .del c m k =>
    if isKey c (ev k) then
      match ev m with
      | .map (some i) => match s.map? i with
        | some es => match delA (ev k) es with
          | some es' => if s.ro ≤ i then some (.tup [], s.setb i (.amap es')) else none
          | none => none
        | none => none
      | _ => none
    else none
  | .call _ _ | .defer _ _ | .panic _ | .recover => none

inductive CRes where
  | ret (v : AV)
  | pan (v : AV)
  deriving DecidableEq, Inhabited

/- a call: the panic that a deferred function may recover, the function, its arguments -/
abbrev Caller := Option AV → AV → List AV → St → Option (CRes × Bool × St)
abbrev R := Option (Out × Fr × St)

def IChk.addr (ev : Opd → AV) (c : IChk) : AV := match c.off with
  | none => ev c.a
  | some o => match ev c.a with
    | .ptr i p => .ptr i (p + o)
    | .rptr y p => .rptr y (p + o)
    | _ => .junk
def chkOk (ev : Opd → AV) (s s' : St) : List IChk → Bool
  | [] => true
  | c :: r => (loadA s c.agg c.n (c.addr ev) == loadA s' c.agg c.n (c.addr ev)) && chkOk ev s s' r
/- a load that says by which chk it can be known: is it so? -/
def pinOk (ev : Opd → AV) (o : IOper) : Bool := match o.op with
  | .load agg n a => o.chk.all fun c => c.agg == agg && c.n == n && c.addr ev == ev a
  | _ => true

def calm (E : IEnv) : AV → Bool
  | .fn f _ _ => match E.fns f with
    | some F => (match F.mode with | .pure | .thaw => true | _ => false)
    | none => true
  | _ => false

/- is it carried out? none: not known -/
def guardA (g : Option (Nat × Bool)) (e : Env) : Option Bool :=
  match g with
  | none => some true
  | some (i, want) => match e.get i with
    | .bool b => some (b == want)
    | .tup [] => some false
    | _ => none

def goA (E : IEnv) (o : IOper) (e : Env) : Option Bool :=
  match guardA o.guard e with
  | some true => if pinOk (Opd.ev E e) o then some true else none
  | x => x

def finO (o : IOper) (v : AV) (f : Fr) (e : Env) (s : St) : Option (Option AV × Fr × Env × St) :=
  match o.dst with
  | some d => some (none, f, (d, v) :: e, s)
  | none => some (none, f, e, s)

def runO (E : IEnv) (call : Caller) (draw : Bool) (o : IOper) (f : Fr) (e : Env) (s : St) : Option (Option AV × Fr × Env × St) :=
  match o.op with
  | .call g args =>
    if o.mp && !calm E (g.ev E e) then none else
    match call none (g.ev E e) (args.map (Opd.ev E e)) s with
    | some (.ret v, _, s') => if chkOk (Opd.ev E e) s s' o.chk then finO o v f e s' else none
    | some (.pan v, _, s') => if draw then none else some (some v, f, e, s')
    | none => none
  | .defer g args => if f.rnd || draw then none else (match g.ev E e with
    | .fn q a c => finO o (.tup []) { f with defers := (.fn q a c, args.map (Opd.ev E e)) :: f.defers } e s
    | _ => none)
  | .panic x => if draw then none else (match x.ev E e with
    | .iface t v => some (some (.iface t v), f, e, s)
    | _ => none)
  | .recover => if f.rnd || draw then none else (match f.rcv with
    | some v => finO o v { f with rcv := none, recd := true } e s
    | none => finO o .nilif f e s)
  | op => match opA (Opd.ev E e) s op with
    | some (v, s') => finO o v f e s'
    | none => none

/- one operation of a region; e: the environment as it grows inside it -/
def stepA (E : IEnv) (call : Caller) (draw : Bool) (o : IOper) (f : Fr) (e : Env) (s : St) : Option (Option AV × Fr × Env × St) :=
  match goA E o e with
  | none => none
  | some false => finO o (.tup []) f e s
  | some true => runO E call draw o f e s

def opsA (E : IEnv) (call : Caller) (draw : Bool) : List IOper → Fr → Env → St → Option (Option AV × Fr × Env × St)
  | [], f, e, s => some (none, f, e, s)
  | o :: r, f, e, s => match stepA E call draw o f e s with
    | some (none, f', e', s') => opsA E call draw r f' e' s'
    | x => x

def keepA (loc : Env) : List Nat → Env → Env
  | [], e => e
  | k :: r, e => keepA loc r (e.put k (loc.get k))

def iterA (body : Fr → St → R) (ks : List Nat) : Nat → Fr → St → R
  | 0, _, _ => none
  | n + 1, f, s => match body { f with env := f.env.kill ks } s with
    | some (.normal, f', s') => iterA body ks n f' s'
    | r => r

def codeA (E : IEnv) (call : Caller) (n : Nat) : ICode → Fr → St → R
  | .skip, f, s => some (.normal, f, s)
  | .region ops keep draw, f, s => match opsA E call draw ops f f.env s with
    | some (none, f', loc, s') => some (.normal, { f' with env := keepA loc keep f.env }, s')
    | some (some v, f', loc, s') => some (.pan v, { f' with env := keepA loc keep f.env }, s')
    | none => none
  | .seq a b, f, s => match codeA E call n a f s with
    | some (.normal, f', s') => codeA E call n b f' s'
    | r => r
  | .cond c a b, f, s => match c.ev E f.env with
    | .bool true => codeA E call n a f s
    | .bool false => codeA E call n b f s
    | _ => none
  | .block id b, f, s => match codeA E call n b f s with
    | some (.exit j, f', s') => if j = id then some (.normal, f', s') else some (.exit j, f', s')
    | r => r
  | .loop ks b, f, s => iterA (codeA E call n b) ks n f s
  | .rangeFn g ps assign body, f, s =>
    let i := s.bl.length
    match call none (g.ev E f.env) [.yield i] (s.push (.loop { st := .ready, pend := none, env := f.env, ps, assign, body })) with
    | some (.ret _, _, s') => match s'.bl[i]? with
      | some (.loop L) => if L.st = .busy then none else
        (match L.pend with
          | none => some (.normal, f, s'.setb i (.loop { L with st := .exhausted }))
          | some (.exit id) => some (.exit id, f, s'.setb i (.loop { L with st := .exhausted }))
          | some .ret => some (.ret, f, s'.setb i (.loop { L with st := .exhausted })))
      | _ => none
    | some (.pan v, _, s') => some (.pan v, f, s')
    | none => none
  | .exit id, f, s => some (.exit id, f, s)
  | .ret, f, s => some (.ret, f, s)

/- is it no call of a hand-proved function? -/
def ownFn (E : IEnv) : AV → Bool
  | .fn f _ _ => (E.fns f).isSome
  | _ => true

/- the deferred calls; what is left of a panic -/
def unwindA (E : IEnv) (call : Caller) : List (AV × List AV) → Option AV → St → Option (Option AV × St)
  | [], p, s => some (p, s)
  | (g, args) :: ds, p, s => if ownFn E g then (match call p g args s with
    | some (.ret _, recd, s') => unwindA E call ds (if recd then none else p) s'
    | _ => none) else none

def resA (e : Env) (s : St) : List IRes → Option (List AV)
  | [] => some []
  | .t n :: r => match resA e s r with
    | some vs => some (e.get n :: vs)
    | none => none
  | .cell a agg n :: r => match loadA s agg n (e.get a), resA e s r with
    | some v, some vs => some (v :: vs)
    | _, _ => none
def resOne : List AV → AV
  | [v] => v
  | vs => .tup vs

def envOf : Nat → List AV → Env
  | _, [] => []
  | i, v :: r => (i, v) :: envOf (i + 1) r

/- what lies in a block of the call's own, as a slice that is never written again -/
def AV.chunk (sz : Nat) : Nat → List AV → List AV
  | 0, _ => []
  | n + 1, cs => (if sz = 1 then cs.headD .junk else .agg (cs.take sz)) :: AV.chunk sz n (cs.drop sz)

def finA (m : Mode) (s s' : St) (v : AV) : Option (AV × St) :=
  match m with
  | .eff => some (v, s')
  | .pure | .thaw => if v.data then some (v.untok, s) else none
  | .keep => if v.data then (match v with
    | .sl (.tok t) z xs => if s.tk.length ≤ t ∧ s'.tk[t]? = some xs.length then some (.sl (.tok s.tk.length) z xs, { s with tk := s.tk ++ [xs.length] }) else some (.sl .any z xs, s)
    | _ => some (v.untok, s)) else none

/- how the state is shut to a callee -/
def s0Of (m : Mode) (s : St) : St := match m with | .eff => s | _ => { s with ro := s.bl.length, rt := s.tk.length }

/- what is left of a body: nothing, a panic -/
def outPan : Out → Option (Option AV)
  | .normal | .ret => some none
  | .pan v => some (some v)
  | .exit _ => none

def runA (E : IEnv) (call : Caller) (n : Nat) (F : IFn) (pn : Option AV) (args : List AV) (s : St) : Option (CRes × Bool × St) :=
  if args.length ≠ F.np then none else
  match codeA E call n F.body { env := envOf 0 args, defers := [], rcv := pn, recd := false, rnd := false } (s0Of F.mode s) with
  | none => none
  | some (o, f, s1) =>
    match outPan o with
    | none => none
    | some p => match unwindA E call f.defers p s1 with
      | none => none
      | some (some v, s2) => match finA F.mode s s2 v with
        | some (v', s') => some (.pan v', f.recd, { s' with ro := s.ro, rt := s.rt })
        | none => none
      | some (none, s2) => match resA f.env s2 F.res with
        | none => none
        | some vs => match finA F.mode s s2 (resOne vs) with
          | some (v', s') => some (.ret v', f.recd, { s' with ro := s.ro, rt := s.rt })
          | none => none

def putAll : List Nat → List AV → Env → Env
  | p :: ps, v :: vs, e => putAll ps vs (e.put p v)
  | _, _, e => e

def roundA (E : IEnv) (call : Caller) (n : Nat) (i : Nat) (args : List AV) (s : St) : Option (CRes × Bool × St) :=
  match s.bl[i]? with
  | some (.loop L) =>
    if args.length = L.ps.length ∧ s.ro ≤ i then
      match codeA E call n L.assign { env := putAll L.ps args L.env, defers := [], rcv := none, recd := false, rnd := true } s with
      | some (.normal, f, s1) => match s1.bl[i]? with
        | some (.loop L1) => if L1.st = .ready then
          (match codeA E call n L.body f (s1.setb i (.loop { L1 with st := .busy })) with
          | some (o, f2, s2) => match s2.bl[i]? with
            | some (.loop L2) => (match o with
              | .normal => some (.ret (.bool true), false, s2.setb i (.loop { L2 with st := .ready, pend := none }))
              | .exit id => some (.ret (.bool false), false, s2.setb i (.loop { L2 with st := .done, pend := some (.exit id) }))
              | .ret => some (.ret (.bool false), false, s2.setb i (.loop { L2 with st := .done, pend := some .ret }))
              | .pan v => if f2.defers.isEmpty then some (.pan v, false, s2) else none)
            | _ => none
          | none => none) else none
        | _ => none
      | _ => none
    else none
  | _ => none

def callA (E : IEnv) : Nat → Caller
  | 0, _, _, _, _ => none
  | n + 1, pn, tgt, args, s => match tgt with
    | .fn f first caps => match E.fns f with
      | some F => runA E (callA E n) n F pn (first ++ args ++ caps) s
      | none => if pn.isSome then none else match E.prim f (first ++ args ++ caps) with
        | some v => some (.ret v, false, s)
        | none => none
    | .yield i => if pn.isSome then none else roundA E (callA E n) n i args s
    | _ => none

end Ab

/- What it means that a machine's value, block and world stand for abstract ones; and that this stays as the world grows. No condition. -/
namespace Ab
open Go

structure Lk where
  fnOf : Nat → Nat
  tyOf : Nat → Nat

structure TokI where
  a : Addr
  cap : Nat
  sz : Nat
  top : Nat

structure Gh where
  bl : List Nat
  tk : List TokI
  imm : Nat → Nat → Prop
  base : Nat
  dfr : List Nat
  lps : List Nat

def oneCell : Value → Prop
  | .agg _ | .tuple _ => False
  | _ => True

/- cells that lie in memory that is never written again -/
def Lies (g : Gh) (w : World) (b o : Nat) (cs : List Value) : Prop :=
  ∀ j c, cs[j]? = some c → g.imm b (o + j) ∧ w.cell? ⟨b, o + j, none⟩ = some c

def Sized (sz : Nat) (u : Value) : Prop := u.cells.size = sz ∧ ∀ c ∈ u.cells.toList, oneCell c

def flat (vs : List Value) : List Value := vs.flatMap fun v => v.cells.toList

def OwnOk (g : Gh) (own : Own) (sz : Nat) (a : Option Addr) (len cap : Nat) : Prop :=
  match own with
  | .any => a.isSome = true
  | .nil => a = none ∧ len = 0 ∧ cap = 0
  | .full => a.isSome = true ∧ cap = len
  | .tok t => a.isSome = true ∧ ∃ T, g.tk[t]? = some T ∧ len ≤ T.top ∧ (T.top = len → a = some T.a ∧ cap = T.cap ∧ sz = T.sz)

mutual
def Rep (L : Lk) (g : Gh) (w : World) : AV → Value → Prop
  | .bool b, v => v = .bool b
  | .int k n, v => v = .int k n
  | .str s, v => v = .string ⟨s.toArray⟩
  | .nilp, v => v = .pointer none
  | .ptr i off, v => ∃ b, g.bl[i]? = some b ∧ v = .pointer (some ⟨b, off, none⟩)
  | .rptr x off, v => ∃ b o xv, v = .pointer (some ⟨b, o + off, none⟩) ∧ x.untok = x ∧ Rep L g w x xv ∧ Lies g w b o xv.cells.toList
  | .sl own sz xs, v => ∃ a cap vs, v = .slice a xs.length cap ∧ xs.length ≤ cap ∧ AV.untokL xs = xs ∧ RepL L g w xs vs ∧
      (∀ u ∈ vs, Sized sz u) ∧ (match (a : Option Addr) with | none => xs = [] ∧ cap = 0 | some p => (xs ≠ [] → p.spot = none) ∧ Lies g w p.block p.off (flat vs)) ∧ OwnOk g own sz a xs.length cap
  | .raw t sz n, v => ∃ T, g.tk[t]? = some T ∧ (T.top = 0 → v = .slice (some T.a) n T.cap ∧ n ≤ T.cap ∧ T.sz = sz)
  | .msl i off n, v => ∃ b cap, g.bl[i]? = some b ∧ v = .slice (some ⟨b, off, none⟩) n cap ∧ n ≤ cap
  | .map none, v => v = .map none
  | .map (some i), v => ∃ b, g.bl[i]? = some b ∧ v = .map (some b)
  | .fn f first caps, v => ∃ fs cs, v = .func (.func (L.fnOf f)) fs.toArray cs.toArray ∧ RepL L g w first fs ∧ RepL L g w caps cs
  | .yield i, v => ∃ b, g.bl[i]? = some b ∧ v = .func (.yield b) #[] #[]
  | .nilf, v => v = .nilFunc
  | .iface t x, v => ∃ u, v = .iface (L.tyOf t) u ∧ Rep L g w x u
  | .nilif, v => v = .nilIface
  | .agg cs, v => ∃ vs, v = .agg vs.toArray ∧ RepL L g w cs vs ∧ ∀ u ∈ vs, oneCell u
  | .tup xs, v => ∃ vs, v = .tuple vs.toArray ∧ RepL L g w xs vs
  | .junk, _ => True
def RepL (L : Lk) (g : Gh) (w : World) : List AV → List Value → Prop
  | [], vs => vs = []
  | x :: xs, vs => ∃ v r, vs = v :: r ∧ Rep L g w x v ∧ RepL L g w xs r
end

/- the world grows; what was told stays told -/
structure GE (g : Gh) (w : World) (g' : Gh) (w' : World) : Prop where
  bl : ∀ (i b : Nat), g.bl[i]? = some b → g'.bl[i]? = some b
  tk : ∀ (t : Nat) (T : TokI), g.tk[t]? = some T → ∃ T', g'.tk[t]? = some T' ∧ T.top ≤ T'.top ∧ (T'.top = T.top → T' = T)
  imm : ∀ b o, g.imm b o → g'.imm b o ∧ w'.cell? ⟨b, o, none⟩ = w.cell? ⟨b, o, none⟩
  lps : ∀ d, d ∈ g.lps → d ∈ g'.lps

theorem GE.refl (g : Gh) (w : World) : GE g w g w := ⟨fun _ _ h => h, fun _ T h => ⟨T, h, Nat.le_refl _, fun _ => rfl⟩, fun _ _ h => ⟨h, rfl⟩, fun _ h => h⟩

theorem GE.trans {g g1 g2 : Gh} {w w1 w2 : World} (h : GE g w g1 w1) (h' : GE g1 w1 g2 w2) : GE g w g2 w2 where
  bl i b hb := h'.bl i b (h.bl i b hb)
  tk t T hT := by
    obtain ⟨T1, h1, l1, e1⟩ := h.tk t T hT
    obtain ⟨T2, h2, l2, e2⟩ := h'.tk t T1 h1
    exact ⟨T2, h2, Nat.le_trans l1 l2, fun e => by
      have : T1.top = T.top := by omega
      have a := e1 this
      rw [e2 (by omega), a]⟩
  imm b o hb := by
    obtain ⟨a1, a2⟩ := h.imm b o hb
    obtain ⟨b1, b2⟩ := h'.imm b o a1
    exact ⟨b1, b2.trans a2⟩
  lps d hd := h'.lps d (h.lps d hd)

theorem Lies.mono {g g' : Gh} {w w' : World} (h : GE g w g' w') {b o : Nat} {cs : List Value} (hl : Lies g w b o cs) : Lies g' w' b o cs :=
  fun j c hj => by
    obtain ⟨h1, h2⟩ := hl j c hj
    obtain ⟨h3, h4⟩ := h.imm b (o + j) h1
    exact ⟨h3, h4.trans h2⟩

theorem OwnOk.mono {g g' : Gh} {w w' : World} (h : GE g w g' w') {own : Own} {sz : Nat} {a : Option Addr} {len cap : Nat} (hl : OwnOk g own sz a len cap) : OwnOk g' own sz a len cap := by
  cases own with
  | any => exact hl
  | nil => exact hl
  | full => exact hl
  | tok t =>
    obtain ⟨hs, T, hT, hle, he⟩ := hl
    obtain ⟨T', hT', hle', he'⟩ := h.tk t T hT
    refine ⟨hs, T', hT', by omega, fun e => ?_⟩
    have : T' = T := he' (by omega)
    subst this
    exact he e

mutual
theorem Rep.mono {L : Lk} {g g' : Gh} {w w' : World} (h : GE g w g' w') : ∀ (x : AV) (v : Value), Rep L g w x v → Rep L g' w' x v
  | .bool _, _, r | .int _ _, _, r | .str _, _, r | .nilp, _, r | .nilf, _, r | .nilif, _, r | .map none, _, r => by simpa [Rep] using r
  | .junk, _, _ => by simp [Rep]
  | .ptr i off, v, r => by
    simp only [Rep] at r ⊢
    obtain ⟨b, hb, hv⟩ := r
    exact ⟨b, h.bl _ _ hb, hv⟩
  | .map (some i), v, r => by
    simp only [Rep] at r ⊢
    obtain ⟨b, hb, hv⟩ := r
    exact ⟨b, h.bl _ _ hb, hv⟩
  | .yield i, v, r => by
    simp only [Rep] at r ⊢
    obtain ⟨b, hb, hv⟩ := r
    exact ⟨b, h.bl _ _ hb, hv⟩
  | .msl i off n, v, r => by
    simp only [Rep] at r ⊢
    obtain ⟨b, c, hb, hv⟩ := r
    exact ⟨b, c, h.bl _ _ hb, hv⟩
  | .rptr x off, v, r => by
    simp only [Rep] at r ⊢
    obtain ⟨b, o, xv, hv, hu, hr, hl⟩ := r
    exact ⟨b, o, xv, hv, hu, Rep.mono h x xv hr, hl.mono h⟩
  | .sl own sz xs, v, r => by
    simp only [Rep] at r ⊢
    obtain ⟨a, cap, vs, hv, hc, hu, hr, hs, hl, ho⟩ := r
    cases a with
    | none => exact ⟨none, cap, vs, hv, hc, hu, RepL.mono h xs vs hr, hs, hl, ho.mono h⟩
    | some p => exact ⟨some p, cap, vs, hv, hc, hu, RepL.mono h xs vs hr, hs, ⟨hl.1, hl.2.mono h⟩, ho.mono h⟩
  | .raw t sz n, v, r => by
    simp only [Rep] at r ⊢
    obtain ⟨T, hT, hv⟩ := r
    obtain ⟨T', hT', hle, he⟩ := h.tk t T hT
    refine ⟨T', hT', fun e => ?_⟩
    have : T' = T := he (by omega)
    subst this
    exact hv e
  | .fn f first caps, v, r => by
    simp only [Rep] at r ⊢
    obtain ⟨fs, cs, hv, h1, h2⟩ := r
    exact ⟨fs, cs, hv, RepL.mono h first fs h1, RepL.mono h caps cs h2⟩
  | .iface t x, v, r => by
    simp only [Rep] at r ⊢
    obtain ⟨u, hv, h1⟩ := r
    exact ⟨u, hv, Rep.mono h x u h1⟩
  | .agg cs, v, r => by
    simp only [Rep] at r ⊢
    obtain ⟨vs, hv, h1, h2⟩ := r
    exact ⟨vs, hv, RepL.mono h cs vs h1, h2⟩
  | .tup cs, v, r => by
    simp only [Rep] at r ⊢
    obtain ⟨vs, hv, h1⟩ := r
    exact ⟨vs, hv, RepL.mono h cs vs h1⟩
theorem RepL.mono {L : Lk} {g g' : Gh} {w w' : World} (h : GE g w g' w') : ∀ (x : List AV) (v : List Value), RepL L g w x v → RepL L g' w' x v
  | [], _, r => by simpa [RepL] using r
  | x :: xs, vs, r => by
    simp only [RepL] at r ⊢
    obtain ⟨v, t, hv, h1, h2⟩ := r
    exact ⟨v, t, hv, Rep.mono h x v h1, RepL.mono h xs t h2⟩
end

/- lists -/
theorem RepL.length {L : Lk} {g : Gh} {w : World} : ∀ {xs : List AV} {vs : List Value}, RepL L g w xs vs → vs.length = xs.length
  | [], _, h => by simp only [RepL] at h; simp [h]
  | x :: xs, _, h => by
    simp only [RepL] at h
    obtain ⟨v, r, rfl, _, h2⟩ := h
    simp [RepL.length h2]

theorem RepL.get {L : Lk} {g : Gh} {w : World} : ∀ {xs : List AV} {vs : List Value} {i : Nat} {x : AV}, RepL L g w xs vs → xs[i]? = some x → ∃ v, vs[i]? = some v ∧ Rep L g w x v
  | [], _, _, _, _, h => by simp at h
  | y :: ys, _, i, x, h, hi => by
    simp only [RepL] at h
    obtain ⟨v, r, rfl, h1, h2⟩ := h
    cases i with
    | zero => simp at hi; subst hi; exact ⟨v, rfl, h1⟩
    | succ i => simp at hi; simpa using RepL.get h2 hi

theorem RepL.get' {L : Lk} {g : Gh} {w : World} : ∀ {xs : List AV} {vs : List Value} {i : Nat} {v : Value}, RepL L g w xs vs → vs[i]? = some v → ∃ x, xs[i]? = some x ∧ Rep L g w x v
  | [], _, _, _, h, hi => by simp only [RepL] at h; subst h; simp at hi
  | y :: ys, _, i, x, h, hi => by
    simp only [RepL] at h
    obtain ⟨v, r, rfl, h1, h2⟩ := h
    cases i with
    | zero => simp at hi; subst hi; exact ⟨y, rfl, h1⟩
    | succ i => simp at hi; simpa using RepL.get' h2 hi

theorem RepL.append {L : Lk} {g : Gh} {w : World} : ∀ {xs : List AV} {vs : List Value} {ys : List AV} {us : List Value}, RepL L g w xs vs → RepL L g w ys us → RepL L g w (xs ++ ys) (vs ++ us)
  | [], _, _, _, h, h' => by simp only [RepL] at h; subst h; simpa using h'
  | x :: xs, _, _, _, h, h' => by
    simp only [RepL] at h
    obtain ⟨v, r, rfl, h1, h2⟩ := h
    simp only [List.cons_append, RepL]
    exact ⟨v, _, rfl, h1, RepL.append h2 h'⟩

theorem RepL.of_get {L : Lk} {g : Gh} {w : World} : ∀ {xs : List AV} {vs : List Value}, xs.length = vs.length → (∀ (i : Nat) (x : AV) (v : Value), xs[i]? = some x → vs[i]? = some v → Rep L g w x v) → RepL L g w xs vs
  | [], [], _, _ => by simp [RepL]
  | [], _ :: _, h, _ => by simp at h
  | _ :: _, [], h, _ => by simp at h
  | x :: xs, v :: vs, h, hg => by
    simp only [RepL]
    refine ⟨v, vs, rfl, hg 0 x v rfl rfl, RepL.of_get (by simpa using h) fun i y u h1 h2 => hg (i + 1) y u (by simpa using h1) (by simpa using h2)⟩

theorem RepL.take {L : Lk} {g : Gh} {w : World} {xs : List AV} {vs : List Value} (n : Nat) (h : RepL L g w xs vs) : RepL L g w (xs.take n) (vs.take n) :=
  RepL.of_get (by simp [h.length]) fun i x v h1 h2 => by
    rw [List.getElem?_take] at h1 h2
    split at h1
    · rename_i hi
      simp only [hi, if_true] at h2
      obtain ⟨u, hu, hr⟩ := h.get h1
      rw [hu] at h2; cases h2; exact hr
    · cases h1

theorem RepL.drop {L : Lk} {g : Gh} {w : World} {xs : List AV} {vs : List Value} (n : Nat) (h : RepL L g w xs vs) : RepL L g w (xs.drop n) (vs.drop n) :=
  RepL.of_get (by simp [h.length]) fun i x v h1 h2 => by
    rw [List.getElem?_drop] at h1 h2
    obtain ⟨u, hu, hr⟩ := h.get h1
    rw [hu] at h2; cases h2; exact hr

theorem RepL.set {L : Lk} {g : Gh} {w : World} {xs : List AV} {vs : List Value} {i : Nat} {x : AV} {v : Value} (h : RepL L g w xs vs) (hx : Rep L g w x v) : RepL L g w (xs.set i x) (vs.set i v) :=
  RepL.of_get (by simp [h.length]) fun j y u h1 h2 => by
    rw [List.getElem?_set] at h1 h2
    by_cases e : i = j
    · subst e
      simp only [if_true] at h1 h2
      split at h1
      · split at h2
        · cases h1; cases h2; exact hx
        · cases h2
      · cases h1
    · simp only [e, if_false] at h1 h2
      obtain ⟨u', hu, hr⟩ := h.get h1
      rw [hu] at h2; cases h2; exact hr

theorem RepL.singleton {L : Lk} {g : Gh} {w : World} {x : AV} {v : Value} (h : Rep L g w x v) : RepL L g w [x] [v] := by
  simp only [RepL]; exact ⟨v, [], rfl, h, rfl⟩

theorem RepL.map {L : Lk} {g : Gh} {w : World} {α : Type} (f : α → AV) (h : α → Value) : ∀ (l : List α), (∀ x ∈ l, Rep L g w (f x) (h x)) → RepL L g w (l.map f) (l.map h)
  | [], _ => by simp [RepL]
  | x :: l, hx => by
    simp only [List.map_cons, RepL]
    exact ⟨_, _, rfl, hx x (by simp), RepL.map f h l fun y hy => hx y (by simp [hy])⟩

/- a value's cells -/
theorem Rep.cells {L : Lk} {g : Gh} {w : World} {x : AV} {v : Value} {cs : List AV} (h : Rep L g w x v) (hc : x.cells? = some cs) :
    RepL L g w cs v.cells.toList ∧ (∀ u ∈ v.cells.toList, oneCell u) ∧ v.cells.size = cs.length := by
  have one : ∀ {u : Value}, u = v → oneCell u → v.cells = #[v] → cs = [x] → RepL L g w cs v.cells.toList ∧ (∀ u ∈ v.cells.toList, oneCell u) ∧ v.cells.size = cs.length := by
    intro u hu ho he hcs
    subst hcs; subst hu; rw [he]
    exact ⟨by simpa using RepL.singleton h, by simpa using ho, rfl⟩
  cases x with
  | agg l =>
    simp only [AV.cells?, Option.some.injEq] at hc
    subst hc
    simp only [Rep] at h
    obtain ⟨vs, rfl, hr, ho⟩ := h
    exact ⟨by simpa [Value.cells] using hr, by simpa [Value.cells] using ho, by simp [Value.cells, hr.length]⟩
  | junk => simp [AV.cells?] at hc
  | tup _ => simp [AV.cells?] at hc
  | map i =>
    simp only [AV.cells?, Option.some.injEq] at hc
    cases i <;> simp only [Rep] at h
    · subst h; exact one rfl trivial rfl hc.symm
    · obtain ⟨b, _, rfl⟩ := h; exact one rfl trivial rfl hc.symm
  | bool _ => simp only [AV.cells?, Option.some.injEq, Rep] at hc h; subst h; exact one rfl trivial rfl hc.symm
  | int _ _ => simp only [AV.cells?, Option.some.injEq, Rep] at hc h; subst h; exact one rfl trivial rfl hc.symm
  | str _ => simp only [AV.cells?, Option.some.injEq, Rep] at hc h; subst h; exact one rfl trivial rfl hc.symm
  | nilp => simp only [AV.cells?, Option.some.injEq, Rep] at hc h; subst h; exact one rfl trivial rfl hc.symm
  | nilf => simp only [AV.cells?, Option.some.injEq, Rep] at hc h; subst h; exact one rfl trivial rfl hc.symm
  | nilif => simp only [AV.cells?, Option.some.injEq, Rep] at hc h; subst h; exact one rfl trivial rfl hc.symm
  | ptr _ _ => simp only [AV.cells?, Option.some.injEq, Rep] at hc h; obtain ⟨_, _, rfl⟩ := h; exact one rfl trivial rfl hc.symm
  | rptr _ _ => simp only [AV.cells?, Option.some.injEq, Rep] at hc h; obtain ⟨_, _, _, rfl, _⟩ := h; exact one rfl trivial rfl hc.symm
  | sl _ _ _ => simp only [AV.cells?, Option.some.injEq, Rep] at hc h; obtain ⟨_, _, _, rfl, _⟩ := h; exact one rfl trivial rfl hc.symm
  | raw _ _ _ => simp [AV.cells?] at hc
  | msl _ _ _ => simp only [AV.cells?, Option.some.injEq, Rep] at hc h; obtain ⟨_, _, _, rfl, _⟩ := h; exact one rfl trivial rfl hc.symm
  | fn _ _ _ => simp only [AV.cells?, Option.some.injEq, Rep] at hc h; obtain ⟨_, _, rfl, _⟩ := h; exact one rfl trivial rfl hc.symm
  | yield _ => simp only [AV.cells?, Option.some.injEq, Rep] at hc h; obtain ⟨_, _, rfl⟩ := h; exact one rfl trivial rfl hc.symm
  | iface _ _ => simp only [AV.cells?, Option.some.injEq, Rep] at hc h; obtain ⟨_, rfl, _⟩ := h; exact one rfl trivial rfl hc.symm
end Ab

/- Tokens taken away; the relation of states; what stays from state to state. No condition. -/
namespace Ab
open Go

mutual
theorem AV.untok_idem : ∀ x : AV, x.untok.untok = x.untok
  | .bool _ | .int _ _ | .str _ | .nilp | .ptr _ _ | .raw _ _ _ | .msl _ _ _ | .map _ | .yield _ | .nilf | .nilif | .junk | .rptr _ _ => by simp [AV.untok]
  | .sl o z xs => by cases o <;> simp [AV.untok]
  | .fn _ a c => by simp [AV.untok, AV.untokL_idem a, AV.untokL_idem c]
  | .iface _ v => by simp [AV.untok, AV.untok_idem v]
  | .agg xs => by simp [AV.untok, AV.untokL_idem xs]
  | .tup xs => by simp [AV.untok, AV.untokL_idem xs]
theorem AV.untokL_idem : ∀ x : List AV, AV.untokL (AV.untokL x) = AV.untokL x
  | [] => rfl
  | x :: xs => by simp [AV.untokL, AV.untok_idem x, AV.untokL_idem xs]
end

theorem AV.untokL_eq (xs : List AV) : AV.untokL xs = xs.map AV.untok := by
  induction xs with
  | nil => rfl
  | cons x xs ih => simp [AV.untokL, ih]
theorem AV.untokL_append (xs ys : List AV) : AV.untokL (xs ++ ys) = AV.untokL xs ++ AV.untokL ys := by simp [AV.untokL_eq]
theorem AV.untokL_length (xs : List AV) : (AV.untokL xs).length = xs.length := by simp [AV.untokL_eq]

mutual
theorem Rep.untok {L : Lk} {g g' : Gh} {w w' : World} (d : Bool) (hb : d = false → ∀ (i b : Nat), g.bl[i]? = some b → g'.bl[i]? = some b)
    (hi : ∀ b o, g.imm b o → g'.imm b o ∧ w'.cell? ⟨b, o, none⟩ = w.cell? ⟨b, o, none⟩) : ∀ (x : AV) (v : Value), (d = true → x.data = true) → Rep L g w x v → Rep L g' w' x.untok v
  | .bool _, _, _, r | .int _ _, _, _, r | .str _, _, _, r | .nilp, _, _, r | .nilf, _, _, r | .nilif, _, _, r | .map none, _, _, r => by simpa [Rep, AV.untok] using r
  | .junk, _, _, _ => by simp [Rep, AV.untok]
  | .raw _ _ _, _, _, _ => by simp [Rep, AV.untok]
  | .ptr i off, v, hd, r => by
    cases d
    · simp only [Rep, AV.untok] at r ⊢
      obtain ⟨b, hb', hv⟩ := r
      exact ⟨b, hb rfl _ _ hb', hv⟩
    · exact absurd (hd rfl) (by simp [AV.data])
  | .map (some i), v, hd, r => by
    cases d
    · simp only [Rep, AV.untok] at r ⊢
      obtain ⟨b, hb', hv⟩ := r
      exact ⟨b, hb rfl _ _ hb', hv⟩
    · exact absurd (hd rfl) (by simp [AV.data])
  | .yield i, v, hd, r => by
    cases d
    · simp only [Rep, AV.untok] at r ⊢
      obtain ⟨b, hb', hv⟩ := r
      exact ⟨b, hb rfl _ _ hb', hv⟩
    · exact absurd (hd rfl) (by simp [AV.data])
  | .msl i off n, v, hd, r => by
    cases d
    · simp only [Rep, AV.untok] at r ⊢
      obtain ⟨b, c, hb', hv⟩ := r
      exact ⟨b, c, hb rfl _ _ hb', hv⟩
    · exact absurd (hd rfl) (by simp [AV.data])
  | .rptr x off, v, hd, r => by
    simp only [Rep, AV.untok] at r ⊢
    obtain ⟨b, o, xv, hv, hu, hr, hl⟩ := r
    refine ⟨b, o, xv, hv, hu, ?_, fun j c hj => ?_⟩
    · have := Rep.untok d hb hi x xv (fun e => by simpa [AV.data] using hd e) hr
      rwa [hu] at this
    · obtain ⟨h1, h2⟩ := hl j c hj
      obtain ⟨h3, h4⟩ := hi _ _ h1
      exact ⟨h3, h4.trans h2⟩
  | .sl own sz xs, v, hd, r => by
    have key : ∀ own' : Own, (∀ a len cap, OwnOk g own sz a len cap → OwnOk g' own' sz a len cap) → Rep L g w (.sl own sz xs) v → Rep L g' w' (.sl own' sz xs) v := by
      intro own' ho' r
      simp only [Rep] at r ⊢
      obtain ⟨a, cap, vs, hv, hc, hu, hr, hs, hl, ho⟩ := r
      have hr' := RepL.untok d hb hi xs vs (fun e => by simpa [AV.data] using hd e) hr
      rw [hu] at hr'
      cases a with
      | none => exact ⟨none, cap, vs, hv, hc, hu, hr', hs, hl, ho' _ _ _ ho⟩
      | some p =>
        refine ⟨some p, cap, vs, hv, hc, hu, hr', hs, ⟨hl.1, fun j c hj => ?_⟩, ho' _ _ _ ho⟩
        obtain ⟨h1, h2⟩ := hl.2 j c hj
        obtain ⟨h3, h4⟩ := hi _ _ h1
        exact ⟨h3, h4.trans h2⟩
    cases own with
    | tok t => simp only [AV.untok]; exact key .any (fun _ _ _ h => h.1) r
    | any => simp only [AV.untok]; exact key .any (fun _ _ _ h => h) r
    | nil => simp only [AV.untok]; exact key .nil (fun _ _ _ h => h) r
    | full => simp only [AV.untok]; exact key .full (fun _ _ _ h => h) r
  | .fn f first caps, v, hd, r => by
    simp only [Rep, AV.untok] at r ⊢
    obtain ⟨fs, cs, hv, h1, h2⟩ := r
    exact ⟨fs, cs, hv, RepL.untok d hb hi first fs (fun e => by have := hd e; simp [AV.data] at this; exact this.1) h1,
      RepL.untok d hb hi caps cs (fun e => by have := hd e; simp [AV.data] at this; exact this.2) h2⟩
  | .iface t x, v, hd, r => by
    simp only [Rep, AV.untok] at r ⊢
    obtain ⟨u, hv, h1⟩ := r
    exact ⟨u, hv, Rep.untok d hb hi x u (fun e => by simpa [AV.data] using hd e) h1⟩
  | .agg cs, v, hd, r => by
    simp only [Rep, AV.untok] at r ⊢
    obtain ⟨vs, hv, h1, h2⟩ := r
    exact ⟨vs, hv, RepL.untok d hb hi cs vs (fun e => by simpa [AV.data] using hd e) h1, h2⟩
  | .tup cs, v, hd, r => by
    simp only [Rep, AV.untok] at r ⊢
    obtain ⟨vs, hv, h1⟩ := r
    exact ⟨vs, hv, RepL.untok d hb hi cs vs (fun e => by simpa [AV.data] using hd e) h1⟩
theorem RepL.untok {L : Lk} {g g' : Gh} {w w' : World} (d : Bool) (hb : d = false → ∀ (i b : Nat), g.bl[i]? = some b → g'.bl[i]? = some b)
    (hi : ∀ b o, g.imm b o → g'.imm b o ∧ w'.cell? ⟨b, o, none⟩ = w.cell? ⟨b, o, none⟩) : ∀ (x : List AV) (v : List Value), (d = true → AV.dataL x = true) → RepL L g w x v → RepL L g' w' (AV.untokL x) v
  | [], _, _, r => by simpa [RepL, AV.untokL] using r
  | x :: xs, vs, hd, r => by
    simp only [RepL, AV.untokL] at r ⊢
    obtain ⟨v, t, hv, h1, h2⟩ := r
    exact ⟨v, t, hv, Rep.untok d hb hi x v (fun e => by have := hd e; simp [AV.dataL] at this; exact this.1) h1,
      RepL.untok d hb hi xs t (fun e => by have := hd e; simp [AV.dataL] at this; exact this.2) h2⟩
end

theorem Rep.untok_same {L : Lk} {g : Gh} {w : World} {x : AV} {v : Value} (h : Rep L g w x v) : Rep L g w x.untok v :=
  Rep.untok false (fun _ _ _ h => h) (fun _ _ h => ⟨h, rfl⟩) x v (fun e => by cases e) h
theorem RepL.untok_same {L : Lk} {g : Gh} {w : World} {x : List AV} {v : List Value} (h : RepL L g w x v) : RepL L g w (AV.untokL x) v :=
  RepL.untok false (fun _ _ _ h => h) (fun _ _ h => ⟨h, rfl⟩) x v (fun e => by cases e) h

/- entries of a map, as they lie -/
def RepM (L : Lk) (g : Gh) (w : World) (es : List (AV × AV)) (cs : List MapEntry) : Prop :=
  es.length = cs.length ∧ ∀ (i : Nat) (k v : AV) (e : MapEntry), es[i]? = some (k, v) → cs[i]? = some e → Rep L g w k e.key ∧ Rep L g w v e.val

def PendRep : Option Pend → Option Code → Prop
  | none, c => c = none
  | some (.exit id), c => c = some (.exit id)
  | some .ret, c => c = some .ret
def LStRep : LSt → LoopState → Prop
  | .ready, s => s = .ready
  | .busy, s => s = .busy
  | .done, s => s = .done
  | .exhausted, s => s = .exhausted

/- the slots of a frame -/
def EnvR (L : Lk) (g : Gh) (w : World) (e : Env) (tm : Array Value) : Prop := ∀ i, Rep L g w (e.get i) (tm.getD i undef)

/- how a code of the machine is checked against an abstract one: given with the frame's number of slots -/
abbrev CodeR := Nat → List Nat → ICode → Code → Prop

/- the slots that an environment names -/
def EnvD (vars : List Nat) (e : Env) : Prop := ∀ p, p ∈ e → vars.contains p.1 = true

def BRel (L : Lk) (C : CodeR) (g : Gh) (w : World) : AB → Nat → Prop
  | .cells cs, b => ∃ vs e, w.heap[b]? = some (.cells vs.toArray e (0, 0)) ∧ RepL L g w cs vs ∧ ∀ u ∈ vs, oneCell u
  | .amap es, b => ∃ cs clock, w.heap[b]? = some (.map cs clock) ∧ RepM L g w es cs.toList
  | .siter s p, b => w.heap[b]? = some (.stringIter ⟨s.toArray⟩ p)
  | .loop l, b => b ∈ g.lps ∧ ∃ lp N vars, w.heap[b]? = some (.loop lp) ∧ LStRep l.st lp.state ∧ PendRep l.pend lp.pending ∧ lp.params = l.ps.toArray ∧ N ≤ lp.tmps.size ∧
      C N vars l.assign lp.assign ∧ C N vars l.body lp.body ∧ EnvR L g w l.env lp.tmps ∧ EnvD vars l.env ∧ (∀ p ∈ l.ps, p < N ∧ vars.contains p = true)

structure TokOk (g : Gh) (w : World) (T : TokI) : Prop where
  spot : T.a.spot = none
  space : ∃ c e fz, w.heap[T.a.block]? = some (.cells c e fz) ∧ T.a.off + T.cap * T.sz ≤ c.size ∧ (∀ o, o < c.size → ¬ (fz.1 ≤ o ∧ o < fz.2))
  top : T.top ≤ T.cap
  free : ∀ o, T.a.off + T.top * T.sz ≤ o → ¬ g.imm T.a.block o
  own : T.a.block ∉ g.bl
  base : g.base ≤ T.a.block

structure StR (L : Lk) (C : CodeR) (g : Gh) (s : St) (w : World) : Prop where
  bl : g.bl.length = s.bl.length
  tk : g.tk.map (·.top) = s.tk
  blocks : ∀ (i b : Nat) (x : AB), g.bl[i]? = some b → s.bl[i]? = some x → BRel L C g w x b
  inj : ∀ (i j b : Nat), g.bl[i]? = some b → g.bl[j]? = some b → i = j
  sep : ∀ (i b o : Nat), g.bl[i]? = some b → ¬ g.imm b o
  blBase : ∀ (i b : Nat), g.bl[i]? = some b → g.base ≤ b
  toks : ∀ (t : Nat) (T : TokI), g.tk[t]? = some T → TokOk g w T
  tokInj : ∀ (t u : Nat) (T U : TokI), g.tk[t]? = some T → g.tk[u]? = some U → T.a.block = U.a.block → t = u
  immIn : ∀ b o, g.imm b o → b < w.heap.size
  baseIn : g.base ≤ w.heap.size
  dfr : ∀ d, d ∈ g.dfr → w.heap[d]? = some (.deferred (some [])) ∧ g.base ≤ d
  lps : ∀ d, d ∈ g.lps → ∃ lp, w.heap[d]? = some (.loop lp)
  ro : s.ro ≤ s.bl.length
  rt : s.rt ≤ s.tk.length

structure Ext (g : Gh) (s : St) (w : World) (g' : Gh) (s' : St) (w' : World) : Prop where
  ge : GE g w g' w'
  dfr : ∀ d, d ∈ g.dfr → d ∈ g'.dfr
  base : g'.base = g.base
  old : ∀ b, b < g.base → w'.heap[b]? = w.heap[b]?
  size : w.heap.size ≤ w'.heap.size
  os : w'.os = w.os
  out : w'.output = w.output
  tape : w'.tape = w.tape
  ro : s'.ro = s.ro
  rt : s'.rt = s.rt
  bls : ∀ i, i < s.ro → s'.bl[i]? = s.bl[i]?
  tks : ∀ i, i < s.rt → s'.tk[i]? = s.tk[i]?
  hp : ∀ (i b : Nat), i < s.ro → g.bl[i]? = some b → w'.heap[b]? = w.heap[b]?

theorem Ext.refl (g : Gh) (s : St) (w : World) : Ext g s w g s w := ⟨.refl _ _, fun _ h => h, rfl, fun _ _ => rfl, Nat.le_refl _, rfl, rfl, rfl, rfl, rfl, fun _ _ => rfl, fun _ _ => rfl, fun _ _ _ _ => rfl⟩

theorem Ext.trans {g g1 g2 : Gh} {s s1 s2 : St} {w w1 w2 : World} (h : Ext g s w g1 s1 w1) (h' : Ext g1 s1 w1 g2 s2 w2) : Ext g s w g2 s2 w2 where
  ge := h.ge.trans h'.ge
  dfr d hd := h'.dfr d (h.dfr d hd)
  base := h'.base.trans h.base
  old b hb := (h'.old b (by rw [h.base]; exact hb)).trans (h.old b hb)
  size := Nat.le_trans h.size h'.size
  os := h'.os.trans h.os
  out := h'.out.trans h.out
  tape := h'.tape.trans h.tape
  ro := h'.ro.trans h.ro
  rt := h'.rt.trans h.rt
  bls i hi := (h'.bls i (by rw [h.ro]; exact hi)).trans (h.bls i hi)
  tks i hi := (h'.tks i (by rw [h.rt]; exact hi)).trans (h.tks i hi)
  hp i b hi hb := (h'.hp i b (by rw [h.ro]; exact hi) (h.ge.bl i b hb)).trans (h.hp i b hi hb)

theorem EnvR.mono {L : Lk} {g g' : Gh} {w w' : World} (h : GE g w g' w') {e : Env} {tm : Array Value} (r : EnvR L g w e tm) : EnvR L g' w' e tm := fun i => Rep.mono h _ _ (r i)

theorem RepM.mono {L : Lk} {g g' : Gh} {w w' : World} (h : GE g w g' w') {es : List (AV × AV)} {cs : List MapEntry} (r : RepM L g w es cs) : RepM L g' w' es cs :=
  ⟨r.1, fun i k v e h1 h2 => ⟨Rep.mono h _ _ (r.2 i k v e h1 h2).1, Rep.mono h _ _ (r.2 i k v e h1 h2).2⟩⟩

theorem BRel.mono {L : Lk} {C : CodeR} {g g' : Gh} {w w' : World} (h : GE g w g' w') {x : AB} {b : Nat} (hb : w'.heap[b]? = w.heap[b]?) (r : BRel L C g w x b) : BRel L C g' w' x b := by
  cases x with
  | cells cs =>
    obtain ⟨vs, e, h1, h2, h3⟩ := r
    exact ⟨vs, e, hb.trans h1, RepL.mono h _ _ h2, h3⟩
  | amap es =>
    obtain ⟨cs, cl, h1, h2⟩ := r
    exact ⟨cs, cl, hb.trans h1, h2.mono h⟩
  | siter s p => exact hb.trans r
  | loop l =>
    obtain ⟨h0, lp, N, vars, h1, h2, h3, h4, h5, h6, h7, h8, h9, h10⟩ := r
    exact ⟨h.lps _ h0, lp, N, vars, hb.trans h1, h2, h3, h4, h5, h6, h7, h8.mono h, h9, h10⟩
end Ab

/- The steps of a state: nothing, a new block, a new row that is never written, a row that grows, a store. No condition. -/
namespace Ab
open Go

structure Same (w w' : World) : Prop where
  os : w'.os = w.os
  out : w'.output = w.output
  tape : w'.tape = w.tape

theorem cell?_congr {w w' : World} {b : Nat} (h : w'.heap[b]? = w.heap[b]?) (o : Nat) : w'.cell? ⟨b, o, none⟩ = w.cell? ⟨b, o, none⟩ := by
  simp only [World.cell?, h]

theorem cell?_of {w : World} {b o : Nat} {c : Array Value} {e : TypeId} {fz : Nat × Nat} (h : w.heap[b]? = some (.cells c e fz)) : w.cell? ⟨b, o, none⟩ = c[o]? := by
  simp [World.cell?, h]

theorem lt_of_heap {w : World} {b : Nat} {o : Obj} (h : w.heap[b]? = some o) : b < w.heap.size := (Array.getElem?_eq_some_iff.1 h).1

theorem TokOk.same {g : Gh} {w w' : World} {T : TokI} (h : TokOk g w T) (hh : w'.heap[T.a.block]? = w.heap[T.a.block]?) : TokOk g w' T :=
  ⟨h.spot, by obtain ⟨c, e, fz, h1, h2⟩ := h.space; exact ⟨c, e, fz, hh.trans h1, h2⟩, h.top, h.free, h.own, h.base⟩

theorem BRel.lt {L : Lk} {C : CodeR} {g : Gh} {w : World} {x : AB} {b : Nat} (h : BRel L C g w x b) : ∃ o, w.heap[b]? = some o ∧ b < w.heap.size := by
  cases x with
  | cells cs => obtain ⟨vs, e, h1, _⟩ := h; exact ⟨_, h1, lt_of_heap h1⟩
  | amap es => obtain ⟨cs, cl, h1, _⟩ := h; exact ⟨_, h1, lt_of_heap h1⟩
  | siter s p => exact ⟨_, h, lt_of_heap h⟩
  | loop l => obtain ⟨_, lp, _, _, h1, _⟩ := h; exact ⟨_, h1, lt_of_heap h1⟩

theorem BRel.notDeferred {L : Lk} {C : CodeR} {g : Gh} {w : World} {x : AB} {b : Nat} (h : BRel L C g w x b) {r} (hd : w.heap[b]? = some (.deferred r)) : False := by
  cases x with
  | cells cs => obtain ⟨vs, e, h1, _⟩ := h; rw [h1] at hd; cases hd
  | amap es => obtain ⟨cs, cl, h1, _⟩ := h; rw [h1] at hd; cases hd
  | siter s p => rw [show w.heap[b]? = _ from h] at hd; cases hd
  | loop l => obtain ⟨_, lp, _, _, h1, _⟩ := h; rw [h1] at hd; cases hd

section
variable {L : Lk} {C : CodeR} {g : Gh} {s : St} {w w' : World}

theorem StR.bl? (h : StR L C g s w) {i : Nat} {x : AB} (hx : s.bl[i]? = some x) : ∃ b, g.bl[i]? = some b ∧ BRel L C g w x b := by
  have hi : i < g.bl.length := by rw [h.bl]; exact (List.getElem?_eq_some_iff.1 hx).1
  exact ⟨g.bl[i], List.getElem?_eq_getElem hi, h.blocks i _ x (List.getElem?_eq_getElem hi) hx⟩

theorem StR.ab? (h : StR L C g s w) {i b : Nat} (hb : g.bl[i]? = some b) : ∃ x, s.bl[i]? = some x ∧ BRel L C g w x b := by
  have hi : i < s.bl.length := by rw [← h.bl]; exact (List.getElem?_eq_some_iff.1 hb).1
  exact ⟨s.bl[i], List.getElem?_eq_getElem hi, h.blocks i b _ hb (List.getElem?_eq_getElem hi)⟩

theorem StR.lt (h : StR L C g s w) {i b : Nat} (hb : g.bl[i]? = some b) : b < w.heap.size := by
  obtain ⟨x, _, hx⟩ := h.ab? hb
  exact hx.lt.elim fun _ hx => hx.2

/- nothing in memory changes -/
theorem StR.same (h : StR L C g s w) (hh : w'.heap = w.heap) (hs : Same w w') : StR L C g s w' ∧ Ext g s w g s w' := by
  have hge : GE g w g w' := ⟨fun _ _ h => h, fun _ T h => ⟨T, h, Nat.le_refl _, fun _ => rfl⟩, fun _ _ hb => ⟨hb, cell?_congr (by rw [hh]) _⟩, fun _ h => h⟩
  refine ⟨⟨h.bl, h.tk, fun i b x hb hx => (h.blocks i b x hb hx).mono hge (by rw [hh]), h.inj, h.sep, h.blBase, fun t T hT => (h.toks t T hT).same (by rw [hh]), h.tokInj,
    by rw [hh]; exact h.immIn, by rw [hh]; exact h.baseIn, by rw [hh]; exact h.dfr, by rw [hh]; exact h.lps, h.ro, h.rt⟩,
    ⟨hge, fun _ h => h, rfl, fun b _ => by rw [hh], by rw [hh]; exact Nat.le_refl _, hs.os, hs.out, hs.tape, rfl, rfl, fun _ _ => rfl, fun _ _ => rfl, fun _ _ _ _ => by rw [hh]⟩⟩

theorem push_old {w w' : World} {o : Obj} (hw : w'.heap = w.heap.push o) {b : Nat} (hb : b < w.heap.size) : w'.heap[b]? = w.heap[b]? := by
  rw [hw, Array.getElem?_push]; simp [Nat.ne_of_lt hb]
theorem push_new {w w' : World} {o : Obj} (hw : w'.heap = w.heap.push o) : w'.heap[w.heap.size]? = some o := by
  rw [hw, Array.getElem?_push]; simp

/- what all steps with a new block share: g' agrees with g on blocks, tokens keep, what is never written grows by cells of the new block alone -/
theorem GE.fresh (h : StR L C g s w) {o : Obj} (hw : w'.heap = w.heap.push o) {g' : Gh} (hbl : ∀ (i b : Nat), g.bl[i]? = some b → g'.bl[i]? = some b)
    (htk : ∀ (t : Nat) (T : TokI), g.tk[t]? = some T → ∃ T', g'.tk[t]? = some T' ∧ T.top ≤ T'.top ∧ (T'.top = T.top → T' = T)) (himm : ∀ b o, g.imm b o → g'.imm b o)
    (hl : ∀ d, d ∈ g.lps → d ∈ g'.lps) : GE g w g' w' :=
  ⟨hbl, htk, fun b o hb => ⟨himm b o hb, cell?_congr (push_old hw (h.immIn b o hb)) _⟩, hl⟩

theorem StR.push (h : StR L C g s w) {o : Obj} {ab : AB} (hw : w'.heap = w.heap.push o) (hs : Same w w') (ls : List Nat)
    (hls : ∀ d ∈ ls, d = w.heap.size ∧ ∃ lp, o = .loop lp)
    (hb : GE g w { g with bl := g.bl ++ [w.heap.size], lps := ls ++ g.lps } w' → BRel L C { g with bl := g.bl ++ [w.heap.size], lps := ls ++ g.lps } w' ab w.heap.size) :
    StR L C { g with bl := g.bl ++ [w.heap.size], lps := ls ++ g.lps } (s.push ab) w' ∧ Ext g s w { g with bl := g.bl ++ [w.heap.size], lps := ls ++ g.lps } (s.push ab) w' := by
  have hge : GE g w { g with bl := g.bl ++ [w.heap.size], lps := ls ++ g.lps } w' :=
    GE.fresh h hw (fun i b hi => by rw [List.getElem?_append_left (List.getElem?_eq_some_iff.1 hi).1]; exact hi) (fun _ T hT => ⟨T, hT, Nat.le_refl _, fun _ => rfl⟩) (fun _ _ h => h)
      (fun _ h => List.mem_append_right _ h)
  have hsz : w'.heap.size = w.heap.size + 1 := by rw [hw]; simp
  have hcase : ∀ (i b : Nat), (g.bl ++ [w.heap.size])[i]? = some b → (g.bl[i]? = some b ∧ i < g.bl.length) ∨ (i = g.bl.length ∧ b = w.heap.size) := by
    intro i b hi
    by_cases hlt : i < g.bl.length
    · rw [List.getElem?_append_left hlt] at hi; exact .inl ⟨hi, hlt⟩
    · rw [List.getElem?_append_right (by omega)] at hi
      have : i - g.bl.length = 0 := by
        rcases Nat.eq_zero_or_pos (i - g.bl.length) with h0 | h0
        · exact h0
        · rw [List.getElem?_eq_none (by simp; omega)] at hi; cases hi
      rw [this] at hi; simp at hi
      exact .inr ⟨by omega, hi.symm⟩
  refine ⟨⟨by simp [St.push, h.bl], h.tk, ?_, ?_, ?_, ?_, ?_, h.tokInj, ?_, by have := h.baseIn; simp only [hsz]; omega, ?_, ?_, ?_, h.rt⟩, ?_⟩
  · intro i b x hi hx
    rcases hcase i b hi with ⟨hi', hlt⟩ | ⟨rfl, rfl⟩
    · have hx' : s.bl[i]? = some x := by simpa [St.push, List.getElem?_append_left (show i < s.bl.length by rw [← h.bl]; exact hlt)] using hx
      exact (h.blocks i b x hi' hx').mono hge (push_old hw (h.lt hi'))
    · simp only [St.push, h.bl, List.getElem?_concat_length, Option.some.injEq] at hx
      subst hx; exact hb hge
  · intro i j b hi hj
    rcases hcase i b hi with ⟨hi', hlt⟩ | ⟨hi1, hi2⟩ <;> rcases hcase j b hj with ⟨hj', hlt'⟩ | ⟨hj1, hj2⟩
    · exact h.inj i j b hi' hj'
    · have := h.lt hi'; omega
    · have := h.lt hj'; omega
    · omega
  · intro i b o hi himm
    rcases hcase i b hi with ⟨hi', hlt⟩ | ⟨hi1, hi2⟩
    · exact h.sep i b o hi' himm
    · have := h.immIn b o himm; omega
  · intro i b hi
    rcases hcase i b hi with ⟨hi', hlt⟩ | ⟨hi1, hi2⟩
    · exact h.blBase i b hi'
    · have := h.baseIn; show g.base ≤ b; omega
  · intro t T hT
    have hT' := h.toks t T hT
    obtain ⟨c, e, fz, h1, _⟩ := hT'.space
    have hlt := lt_of_heap h1
    have := hT'.same (push_old hw hlt)
    exact ⟨this.spot, this.space, this.top, this.free, by
      intro hm
      rcases List.mem_append.1 hm with hm | hm
      · exact hT'.own hm
      · simp at hm; omega, this.base⟩
  · intro b o hb'; have := h.immIn b o hb'; simp only [hsz]; omega
  · intro d hd
    obtain ⟨h1, h2⟩ := h.dfr d hd
    exact ⟨by rw [push_old hw (lt_of_heap h1)]; exact h1, h2⟩
  · intro d hd
    rcases List.mem_append.1 hd with hd | hd
    · obtain ⟨rfl, lp, rfl⟩ := hls d hd
      exact ⟨lp, push_new hw⟩
    · obtain ⟨lp, h1⟩ := h.lps d hd
      exact ⟨lp, by rw [push_old hw (lt_of_heap h1)]; exact h1⟩
  · have := h.ro; simp only [St.push, List.length_append, List.length_singleton]; omega
  · refine ⟨hge, fun _ h => h, rfl, fun b hb' => push_old hw (by have := h.baseIn; omega), by omega, hs.os, hs.out, hs.tape, rfl, rfl, ?_, fun _ _ => rfl, fun i b hi hb' => push_old hw (h.lt hb')⟩
    intro i hi
    have := h.ro
    show (s.bl ++ [ab])[i]? = _
    rw [List.getElem?_append_left (by omega)]

/- a new object among the deferred ones -/
theorem StR.pushDfr (h : StR L C g s w) (hw : w'.heap = w.heap.push (.deferred (some []))) (hs : Same w w') :
    StR L C { g with dfr := w.heap.size :: g.dfr } s w' ∧ Ext g s w { g with dfr := w.heap.size :: g.dfr } s w' := by
  have hge : GE g w { g with dfr := w.heap.size :: g.dfr } w' :=
    GE.fresh h hw (fun _ _ h => h) (fun _ T hT => ⟨T, hT, Nat.le_refl _, fun _ => rfl⟩) (fun _ _ h => h) (fun _ h => h)
  have hsz : w'.heap.size = w.heap.size + 1 := by rw [hw]; simp
  refine ⟨⟨h.bl, h.tk, fun i b x hi hx => (h.blocks i b x hi hx).mono hge (push_old hw (h.lt hi)), h.inj, h.sep, h.blBase, ?_, h.tokInj, ?_, by have := h.baseIn; simp only [hsz]; omega, ?_, ?_, h.ro, h.rt⟩, ?_⟩
  · intro t T hT
    have hT' := h.toks t T hT
    obtain ⟨c, e, fz, h1, _⟩ := hT'.space
    have := hT'.same (push_old hw (lt_of_heap h1))
    exact ⟨this.spot, this.space, this.top, this.free, this.own, this.base⟩
  · intro b o hb'; have := h.immIn b o hb'; simp only [hsz]; omega
  · intro d hd
    rcases List.mem_cons.1 hd with rfl | hd
    · exact ⟨push_new hw, h.baseIn⟩
    · obtain ⟨h1, h2⟩ := h.dfr d hd
      exact ⟨by rw [push_old hw (lt_of_heap h1)]; exact h1, h2⟩
  · intro d hd
    obtain ⟨lp, h1⟩ := h.lps d hd
    exact ⟨lp, by rw [push_old hw (lt_of_heap h1)]; exact h1⟩
  · exact ⟨hge, fun _ h => List.mem_cons_of_mem _ h, rfl, fun b hb' => push_old hw (by have := h.baseIn; omega), by omega, hs.os, hs.out, hs.tape, rfl, rfl, fun _ _ => rfl, fun _ _ => rfl, fun i b hi hb' => push_old hw (h.lt hb')⟩

/- a new row, all of it or its first cells never written again; with or without a token -/
theorem StR.newRow (h : StR L C g s w) {c : Array Value} {e : TypeId} {fz : Nat × Nat} (hw : w'.heap = w.heap.push (.cells c e fz)) (hs : Same w w') (n : Nat)
    (tk' : List TokI) (hlen : ∀ (t : Nat) (T : TokI), g.tk[t]? = some T → ∃ T', tk'[t]? = some T' ∧ T.top ≤ T'.top ∧ (T'.top = T.top → T' = T))
    (hnew : ∀ (t : Nat) (T : TokI), tk'[t]? = some T → g.tk[t]? = some T ∨ (T.a = ⟨w.heap.size, 0, none⟩ ∧ T.cap * T.sz ≤ c.size ∧ T.top ≤ T.cap ∧ n ≤ T.top * T.sz ∧ (∀ o, o < c.size → ¬ (fz.1 ≤ o ∧ o < fz.2))))
    (hone : ∀ (t u : Nat) (T U : TokI), tk'[t]? = some T → tk'[u]? = some U → T.a.block = w.heap.size → U.a.block = w.heap.size → t = u)
    (hrt : ∀ t, t < s.rt → tk'[t]? = g.tk[t]?) :
    StR L C { g with tk := tk', imm := fun b o => g.imm b o ∨ (b = w.heap.size ∧ o < n) } { s with tk := tk'.map (·.top) } w' ∧
    Ext g s w { g with tk := tk', imm := fun b o => g.imm b o ∨ (b = w.heap.size ∧ o < n) } { s with tk := tk'.map (·.top) } w' := by
  have hge : GE g w { g with tk := tk', imm := fun b o => g.imm b o ∨ (b = w.heap.size ∧ o < n) } w' :=
    GE.fresh h hw (fun _ _ h => h) hlen (fun _ _ h => .inl h) (fun _ h => h)
  have hsz : w'.heap.size = w.heap.size + 1 := by rw [hw]; simp
  have hlt : ∀ (t : Nat) (T : TokI), g.tk[t]? = some T → T.a.block < w.heap.size := by
    intro t T hT
    obtain ⟨c', e', fz', h1, _⟩ := (h.toks t T hT).space
    exact lt_of_heap h1
  have hlen' : s.tk.length ≤ tk'.length := by
    rw [← h.tk, List.length_map]
    rcases Nat.lt_or_ge tk'.length g.tk.length with hlt' | hge'
    · obtain ⟨T', hT', _⟩ := hlen tk'.length g.tk[tk'.length] (List.getElem?_eq_getElem hlt')
      simp at hT'
    · exact hge'
  refine ⟨⟨h.bl, rfl, fun i b x hi hx => (h.blocks i b x hi hx).mono hge (push_old hw (h.lt hi)), h.inj, ?_, h.blBase, ?_, ?_, ?_, by have := h.baseIn; simp only [hsz]; omega, ?_, ?_, h.ro, ?_⟩, ?_⟩
  · rintro i b o hi (hb | ⟨rfl, _⟩)
    · exact h.sep i b o hi hb
    · have := h.lt hi; omega
  · intro t T hT
    rcases hnew t T hT with hT' | ⟨ha, hc, ht, hn, hf⟩
    · have h0 := h.toks t T hT'
      have h1 := h0.same (push_old hw (hlt t T hT'))
      refine ⟨h1.spot, h1.space, h1.top, ?_, h1.own, h1.base⟩
      rintro o ho (hb | ⟨hb, _⟩)
      · exact h1.free o ho hb
      · have := hlt t T hT'; omega
    · refine ⟨by rw [ha], ⟨c, e, fz, by rw [ha]; exact push_new hw, by rw [ha]; simpa using hc, hf⟩, ht, ?_, ?_, by rw [ha]; exact h.baseIn⟩
      · rintro o ho (hb | ⟨_, hb⟩)
        · rw [ha] at hb; have := h.immIn _ _ hb; simp at this
        · rw [ha] at ho; simp at ho; omega
      · rw [ha]; intro hm
        obtain ⟨i, hi⟩ := List.mem_iff_getElem?.1 hm
        have := h.lt hi; simp at this
  · intro t u T U hT hU he
    rcases hnew t T hT with hT' | ⟨ha, _⟩ <;> rcases hnew u U hU with hU' | ⟨ha', _⟩
    · exact h.tokInj t u T U hT' hU' he
    · have := hlt t T hT'; rw [ha'] at he; simp at he; omega
    · have := hlt u U hU'; rw [ha] at he; simp at he; omega
    · exact hone t u T U hT hU (by rw [ha]) (by rw [ha'])
  · rintro b o (hb | ⟨rfl, _⟩)
    · have := h.immIn b o hb; simp only [hsz]; omega
    · simp only [hsz]; omega
  · intro d hd
    obtain ⟨h1, h2⟩ := h.dfr d hd
    exact ⟨by rw [push_old hw (lt_of_heap h1)]; exact h1, h2⟩
  · intro d hd
    obtain ⟨lp, h1⟩ := h.lps d hd
    exact ⟨lp, by rw [push_old hw (lt_of_heap h1)]; exact h1⟩
  · have := h.rt; simp only [List.length_map]; omega
  · refine ⟨hge, fun _ h => h, rfl, fun b hb' => push_old hw (by have := h.baseIn; omega), by omega, hs.os, hs.out, hs.tape, rfl, rfl, fun _ _ => rfl, ?_, fun i b hi hb' => push_old hw (h.lt hb')⟩
    intro t ht
    simp only [List.getElem?_map, hrt t ht, ← h.tk]

/- a block of the call's own gets another content -/
theorem StR.setb (h : StR L C g s w) {i b : Nat} (hb : g.bl[i]? = some b) (hro : s.ro ≤ i) {o : Obj} {ab : AB} (hb' : w'.heap[b]? = some o) (hoth : ∀ c, c ≠ b → w'.heap[c]? = w.heap[c]?)
    (hsz : w'.heap.size = w.heap.size) (hs : Same w w') (hnew : GE g w g w' → BRel L C g w' ab b) (hlp : b ∈ g.lps → ∃ lp, o = .loop lp) :
    StR L C g (s.setb i ab) w' ∧ Ext g s w g (s.setb i ab) w' := by
  have hne : ∀ b' o', g.imm b' o' → b' ≠ b := fun b' o' hi e => by subst e; exact h.sep i b' o' hb hi
  have hge : GE g w g w' := ⟨fun _ _ h => h, fun _ T h => ⟨T, h, Nat.le_refl _, fun _ => rfl⟩, fun b' o' hi => ⟨hi, cell?_congr (hoth b' (hne b' o' hi)) _⟩, fun _ h => h⟩
  refine ⟨⟨by simp [St.setb, h.bl], h.tk, ?_, h.inj, h.sep, h.blBase, ?_, h.tokInj, by rw [hsz]; exact h.immIn, by rw [hsz]; exact h.baseIn, ?_, ?_, by simpa [St.setb] using h.ro, h.rt⟩, ?_⟩
  · intro j c x hj hx
    by_cases e : j = i
    · subst e
      rw [hb] at hj; cases hj
      have hx2 : (s.bl.set j ab)[j]? = some x := hx
      rw [List.getElem?_set] at hx2
      simp only [if_true] at hx2
      split at hx2
      · cases hx2; exact hnew hge
      · cases hx2
    · simp only [St.setb, List.getElem?_set_ne (Ne.symm e)] at hx
      exact (h.blocks j c x hj hx).mono hge (hoth c fun ec => e (h.inj j i c hj (by rw [ec]; exact hb)))
  · intro t T hT
    have hT' := h.toks t T hT
    exact hT'.same (hoth _ fun e => hT'.own (by rw [e]; exact List.mem_of_getElem? hb))
  · intro d hd
    obtain ⟨h1, h2⟩ := h.dfr d hd
    refine ⟨?_, h2⟩
    rw [hoth d]
    · exact h1
    · intro e; subst e
      obtain ⟨x, _, hx⟩ := h.ab? hb
      exact hx.notDeferred h1
  · intro d hd
    by_cases e : d = b
    · subst e
      obtain ⟨lp, rfl⟩ := hlp hd
      exact ⟨lp, hb'⟩
    · obtain ⟨lp, h1⟩ := h.lps d hd
      exact ⟨lp, by rw [hoth d e]; exact h1⟩
  · refine ⟨hge, fun _ h => h, rfl, ?_, by rw [hsz]; exact Nat.le_refl _, hs.os, hs.out, hs.tape, rfl, rfl, ?_, fun _ _ => rfl, ?_⟩
    · intro c hc; exact hoth c (by have := h.blBase i b hb; omega)
    · intro j hj; simp only [St.setb]; rw [List.getElem?_set_ne (by omega)]
    · intro j c hj hc
      exact hoth c fun e => by
        have := h.inj j i c hc (by rw [e]; exact hb)
        omega

/- a row of the call's own gets cells behind its end -/
theorem StR.growRow (h : StR L C g s w) {t : Nat} {T : TokI} (hT : g.tk[t]? = some T) (hrt : s.rt ≤ t) (m : Nat) (hm : 0 < m) (hcap : T.top + m ≤ T.cap) {c c' : Array Value} {e : TypeId} {fz : Nat × Nat}
    (hc : w.heap[T.a.block]? = some (.cells c e fz)) (hc' : w'.heap[T.a.block]? = some (.cells c' e fz)) (hsize : c'.size = c.size)
    (hkeep : ∀ o, o < T.a.off + T.top * T.sz → c'[o]? = c[o]?) (hoth : ∀ b, b ≠ T.a.block → w'.heap[b]? = w.heap[b]?) (hsz : w'.heap.size = w.heap.size) (hs : Same w w') :
    StR L C { g with tk := g.tk.set t { T with top := T.top + m }, imm := fun b o => g.imm b o ∨ (b = T.a.block ∧ o < T.a.off + (T.top + m) * T.sz) } { s with tk := s.tk.set t (T.top + m) } w' ∧
    Ext g s w { g with tk := g.tk.set t { T with top := T.top + m }, imm := fun b o => g.imm b o ∨ (b = T.a.block ∧ o < T.a.off + (T.top + m) * T.sz) } { s with tk := s.tk.set t (T.top + m) } w' := by
  have hT0 := h.toks t T hT
  have hlt : t < g.tk.length := (List.getElem?_eq_some_iff.1 hT).1
  have hcase : ∀ (u : Nat) (U : TokI), (g.tk.set t { T with top := T.top + m })[u]? = some U → (u = t ∧ U = { T with top := T.top + m }) ∨ (u ≠ t ∧ g.tk[u]? = some U) := by
    intro u U hU
    by_cases e : u = t
    · subst e; rw [List.getElem?_set_self hlt] at hU; cases hU; exact .inl ⟨rfl, rfl⟩
    · rw [List.getElem?_set_ne (Ne.symm e)] at hU; exact .inr ⟨e, hU⟩
  have hge : GE g w { g with tk := g.tk.set t { T with top := T.top + m }, imm := fun b o => g.imm b o ∨ (b = T.a.block ∧ o < T.a.off + (T.top + m) * T.sz) } w' := by
    refine ⟨fun _ _ h => h, ?_, ?_, fun _ h => h⟩
    · intro u U hU
      by_cases e : u = t
      · subst e; rw [hT] at hU; cases hU
        exact ⟨_, List.getElem?_set_self hlt, by simp, fun e => by simp at e; omega⟩
      · exact ⟨U, by show (g.tk.set t _)[u]? = _; rw [List.getElem?_set_ne (Ne.symm e)]; exact hU, Nat.le_refl _, fun _ => rfl⟩
    · intro b o hb
      refine ⟨.inl hb, ?_⟩
      by_cases e : b = T.a.block
      · subst e
        have ho : o < T.a.off + T.top * T.sz := by
          rcases Nat.lt_or_ge o (T.a.off + T.top * T.sz) with h1 | h1
          · exact h1
          · exact absurd hb (hT0.free o h1)
        rw [cell?_of hc', cell?_of hc, hkeep o ho]
      · exact cell?_congr (hoth b e) _
  have hnb : ∀ (i b : Nat), g.bl[i]? = some b → b ≠ T.a.block := fun i b hb e => hT0.own (by rw [← e]; exact List.mem_of_getElem? hb)
  refine ⟨⟨h.bl, ?_, fun i b x hi hx => (h.blocks i b x hi hx).mono hge (hoth b (hnb i b hi)), h.inj, ?_, h.blBase, ?_, ?_, ?_, by rw [hsz]; exact h.baseIn, ?_, ?_, h.ro, by simpa using h.rt⟩, ?_⟩
  · simp only [List.map_set, h.tk]
  · rintro i b o hi (hb | ⟨rfl, _⟩)
    · exact h.sep i b o hi hb
    · exact hnb i _ hi rfl
  · intro u U hU
    rcases hcase u U hU with ⟨rfl, rfl⟩ | ⟨hne, hU'⟩
    · refine ⟨hT0.spot, ?_, hcap, ?_, hT0.own, hT0.base⟩
      · obtain ⟨c1, e1, fz1, h1, h2, h3⟩ := hT0.space
        rw [hc] at h1; cases h1
        exact ⟨c', e, fz, hc', by rw [hsize]; exact h2, by rw [hsize]; exact h3⟩
      · rintro o ho (hb | ⟨_, hb⟩)
        · refine hT0.free o ?_ hb
          have : T.top * T.sz ≤ (T.top + m) * T.sz := Nat.mul_le_mul_right _ (by omega)
          have ho' : T.a.off + (T.top + m) * T.sz ≤ o := ho
          omega
        · have ho' : T.a.off + (T.top + m) * T.sz ≤ o := ho
          omega
    · have h0 := h.toks u U hU'
      have hbne : U.a.block ≠ T.a.block := fun e => hne (h.tokInj u t U T hU' hT e)
      have h1 := h0.same (hoth _ hbne)
      exact ⟨h1.spot, h1.space, h1.top, by
        rintro o ho (hb | ⟨hb, _⟩)
        · exact h1.free o ho hb
        · exact hbne hb, h1.own, h1.base⟩
  · intro u v U V hU hV he
    rcases hcase u U hU with ⟨rfl, rfl⟩ | ⟨hne, hU'⟩ <;> rcases hcase v V hV with ⟨rfl, rfl⟩ | ⟨hne', hV'⟩
    · rfl
    · exact h.tokInj u v T V hT hV' he
    · exact h.tokInj u v U T hU' hT he
    · exact h.tokInj u v U V hU' hV' he
  · rintro b o (hb | ⟨rfl, _⟩)
    · rw [hsz]; exact h.immIn b o hb
    · exact lt_of_heap hc'
  · intro d hd
    obtain ⟨h1, h2⟩ := h.dfr d hd
    refine ⟨?_, h2⟩
    rw [hoth d fun e => by subst e; rw [hc] at h1; cases h1]; exact h1
  · intro d hd
    obtain ⟨lp, h1⟩ := h.lps d hd
    refine ⟨lp, ?_⟩
    rw [hoth d fun e => by subst e; rw [hc] at h1; cases h1]; exact h1
  · refine ⟨hge, fun _ h => h, rfl, ?_, by rw [hsz]; exact Nat.le_refl _, hs.os, hs.out, hs.tape, rfl, rfl, fun _ _ => rfl, ?_, ?_⟩
    · intro b hb; exact hoth b (by have := hT0.base; omega)
    · intro u hu; show (s.tk.set t _)[u]? = _; rw [List.getElem?_set_ne (by omega)]
    · intro i b _ hb; exact hoth b (hnb i b hb)
end
end Ab
