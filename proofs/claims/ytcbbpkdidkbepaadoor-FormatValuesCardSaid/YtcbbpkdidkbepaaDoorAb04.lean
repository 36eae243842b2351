/- All operations that are no calls: what the check lets by is done as the abstract run says. Its condition: types have numbers of their own. -/
import Derived.Test.YtcbbpkdidkbepaaDoorAb03
import Derived.Defers
import Derived.Orders
set_option linter.all false
namespace Ab
open Go
section
variable {P : Program} {L : Link} {C : CodeR} {g : Gh} {s : St} {w : World} {ρ : Operand → Value} {ev : Opd → AV}

theorem arr1 {α : Type} {a : Array α} {x : α} (h : a.toList = [x]) : a = #[x] := by cases a; simp_all
theorem arr2 {α : Type} {a : Array α} {x y : α} (h : a.toList = [x, y]) : a = #[x, y] := by cases a; simp_all

theorem run_builtin {o : Oper} {b : Builtin} {args : Array Operand} {ts : Array TypeId} (ho : o.op = .call { callee := .builtin b, args, argTypes := ts }) {R : Sem Value} (hR : ∀ consts, builtin b ts o.type consts (args.map ρ) = (do pure (.value (← R)))) :
    (execOp ρ o).run P w = (R.run P w).andThen fun a w' => .ok (.value a) w' := by
  simp only [execOp, ho, resolve, Sem.run_bind, Sem.run_pure, Result.andThen_ok, invoke, hR]

theorem blt_sound (hs : StR L.toLk C g s w) (he : Evs L g w ρ ev) {o : Oper} {b : Builtin} {args : Array Operand} {ts : Array TypeId} (ho : o.op = .call { callee := .builtin b, args, argTypes := ts }) {io : IOp} (hb : bltOk P L b args.toList ts.toList io = true)
    {r : AV × St} (h : opA ev s io = some r) : OpRes P L C g s w r ((execOp ρ o).run P w) := by
  unfold bltOk at hb
  split at hb
  · split at hb
    · rename_i a t h1 h2
      simp only [Bool.and_eq_true] at hb
      refine len_sound hs he hb.1 hb.2 h (run_builtin ho fun _ => ?_) (ty := o.type)
      rw [arr1 h1, arr1 h2]; simp [builtin]
    · cases hb
  · split at hb
    · rename_i a t h1 h2
      simp only [Bool.and_eq_true] at hb
      obtain ⟨h3, h4⟩ := hb
      split at h4
      · rename_i e hu
        refine cap_sound hs he h3 hu h (run_builtin ho fun _ => ?_) (ty := o.type)
        rw [arr1 h1, arr1 h2]; simp [builtin]
      · cases h4
    · cases hb
  · split at hb
    · rename_i a c t u h1 h2
      simp only [Bool.and_eq_true, decide_eq_true_eq] at hb
      obtain ⟨⟨⟨⟨⟨h3, h4⟩, h5⟩, h6⟩, h7⟩, h8⟩ := hb
      obtain ⟨e, i, z, hR⟩ := rowInfo h5 h7 h8
      rw [run_builtin ho (R := Builtin.append_ #[t, u] o.type #[ρ a, ρ c]) (fun _ => by rw [arr2 h1, arr2 h2]; simp [builtin])]
      simp only [opA] at h
      obtain ⟨v, s'⟩ := r
      obtain ⟨g', w', cv, a1, a2, a3, a4⟩ := appA_sound (ty := o.type) hs hR h6 (he.rep _ _ h3) (he.rep _ _ h4) h
      exact ⟨g', w', _, cv, by rw [a1]; rfl, .inl rfl, a2, a3, a4⟩
    · cases hb
  · split at hb
    · rename_i a c t u h1 h2
      simp only [Bool.and_eq_true, decide_eq_true_eq] at hb
      obtain ⟨⟨⟨⟨⟨h3, h4⟩, h5⟩, h6⟩, h7⟩, h8⟩ := hb
      obtain ⟨e, i, z, hR⟩ := rowInfo h5 h7 h8
      refine appz_sound hs he hR h6 h3 h4 h (run_builtin ho fun _ => ?_) (ty := o.type)
      rw [arr2 h1, arr2 h2]; simp [builtin]
    · cases hb
  · refine mm_sound (m := .max) (ts := ts) (ty := o.type) hs he hb h (run_builtin ho fun _ => ?_)
    simp only [builtin]
    congr 2
    apply Array.ext'; simp
  · refine mm_sound (m := .min) (ts := ts) (ty := o.type) hs he hb h (run_builtin ho fun _ => ?_)
    simp only [builtin]
    congr 2
    apply Array.ext'; simp
  · split at hb
    · rename_i a c t tr h1 h2
      simp only [Bool.and_eq_true] at hb
      obtain ⟨⟨h3, h4⟩, h5⟩ := hb
      split at h5
      · rename_i kt e hu
        refine del_sound (ts := tr) (ty := o.type) hs he h3 h4 hu h5 h (run_builtin ho fun _ => ?_)
        have h2' : ts = (t :: tr).toArray := by rw [← h2]
        rw [arr2 h1, h2']; simp [builtin]
      · cases h5
    · cases hb
  · cases hb

theorem op_sound (hinj : ∀ a b, L.tyOf a = L.tyOf b → a = b) (hs : StR L.toLk C g s w) (he : Evs L g w ρ ev) {o : Oper} {io : IOp} (hok : opOk P L o.op io = true) {r : AV × St} (h : opA ev s io = some r) : OpRes P L C g s w r ((execOp ρ o).run P w) := by
  generalize hop : o.op = op at hok
  unfold opOk at hok
  split at hok <;> try simp only [Bool.and_eq_true, beq_iff_eq, decide_eq_true_eq] at hok
  · simp only [opA, Option.some.injEq] at h; subst h
    exact OpRes.val hs (by simp [execOp, hop]) (he.rep _ _ hok)
  · simp only [opA, Option.some.injEq] at h; subst h
    exact OpRes.val hs (by simp [execOp, hop]) (he.rep _ _ hok)
  · exact pick_sound hs he hop hok.1.1 hok.1.2 hok.2 h
  · exact alloc_sound hs hop hok h
  · exact box_sound hs he hop hok h
  · obtain ⟨h1, h2⟩ := hok
    split at h2
    · rename_i pl hpl
      exact build_sound hs he hop h1 hpl h2 h
    · cases h2
  · obtain ⟨⟨⟨⟨⟨h1, h2⟩, h3⟩, h4⟩, h5⟩, h6⟩ := hok
    subst h1
    split at h3
    · rename_i e hu
      simp only [Bool.and_eq_true, beq_iff_eq] at h3
      unfold elemIs at h2
      rw [hu] at h2
      simp only [beq_iff_eq] at h2
      exact bslice_sound hs he hop hu h2 h3.1 h4 h5 h
    · cases h3
  · obtain ⟨⟨⟨h1, h2⟩, h3⟩, h4⟩ := hok
    simp only [opA, valStep] at h
    split at h
    · rename_i v hv
      cases h
      simp only [Bool.or_eq_true, beq_iff_eq] at h4
      obtain ⟨cv, a1, a2⟩ := loadA_sound hs h1 h2 h4 (he.rep _ _ h3) hv
      exact OpRes.val hs (by simp [execOp, hop, a1]) a2
    · cases h
  · obtain ⟨⟨h1, h2⟩, h3⟩ := hok
    simp only [opA] at h
    split at h
    · rename_i s' hs'
      cases h
      obtain ⟨w', a1, a2, a3⟩ := storeA_sound hs h1 (he.rep _ _ h2) (he.rep _ _ h3) hs'
      exact ⟨g, w', .skip, undef, by simp [execOp, hop, a1], .inr ⟨rfl, rfl⟩, undef_rep _ _ _, a2, a3⟩
    · cases h
  · exact nilchk_sound hs he hop hok h
  · obtain ⟨⟨⟨rfl, h2⟩, h3⟩, h4⟩ := hok
    exact bin_sound hs he hop h2 h3 h4 h
  · obtain ⟨rfl, h2⟩ := hok
    exact un_sound hs he hop h2 h
  · exact conv_sound hs he hop hok.1 hok.2 h
  · obtain ⟨⟨h1, h2⟩, h3⟩ := hok
    cases hu : P.underlying _ with
    | none => rw [hu] at h3; cases h3
    | some d =>
      rw [hu] at h3
      exact mkif_sound hs he hop h1 h2 hu (by cases d <;> first | rfl | cases h3) h
  · obtain ⟨⟨h1, h2⟩, h3⟩ := hok
    exact mkfn_sound hs he hop h1 h2 h3 h
  · exact mkmap_sound hs hop h
  · obtain ⟨⟨⟨⟨h1, h2⟩, h3⟩, h4⟩, h5⟩ := hok
    exact slice_sound hs he hop h1 h2 h3 h4 h5 h
  · obtain ⟨h1, h2⟩ := hok
    split at h2
    · rename_i fd hf
      simp only [Bool.and_eq_true, beq_iff_eq] at h2
      obtain ⟨h2, h3⟩ := h2
      split at h3
      · rename_i n hn
        simp only [ne_eq, decide_eq_true_eq] at h3
        exact faddr_sound hs he hop h1 hf h2 hn h3 h
      · cases h3
    · cases h2
  · obtain ⟨h1, h2⟩ := hok
    split at h2
    · rename_i fd hf
      simp only [Bool.and_eq_true, beq_iff_eq, Bool.or_eq_true] at h2
      obtain ⟨⟨⟨h2, h3⟩, h4⟩, h5⟩ := h2
      exact field_sound hs he hop h1 hf h2 h3 h4 h5 h
    · cases h2
  · exact iaddr_sound hs he hop hok.1.1 hok.1.2 hok.2 h
  · obtain ⟨⟨h1, h2⟩, h3⟩ := hok
    split at h3
    · rename_i n e hu
      simp only [Bool.and_eq_true, beq_iff_eq] at h3
      obtain ⟨rfl, h4⟩ := h3
      exact aaddr_sound hs he hop h1 h2 hu h4 h
    · cases h3
  · obtain ⟨⟨h1, h2⟩, h3⟩ := hok
    split at h3
    · rename_i hu
      exact index_sound hs he hop h1 h2 hu h
    · cases h3
  · obtain ⟨⟨h1, h2⟩, h3⟩ := hok
    split at h3
    · rename_i n e hu
      simp only [Bool.and_eq_true, beq_iff_eq, Bool.or_eq_true] at h3
      obtain ⟨⟨⟨rfl, h4⟩, h5⟩, h6⟩ := h3
      exact aindex_sound hs he hop h1 h2 hu h5 h4 h6 h
    · cases h3
  · obtain ⟨⟨⟨rfl, h2⟩, h3⟩, h4⟩ := hok
    split at h4
    · rename_i kt e hu
      simp only [Bool.and_eq_true] at h4
      obtain ⟨h5, h6⟩ := h4
      split at h6
      · rename_i i hi
        split at h6
        · rename_i zv hzv
          exact lookup_sound hs he hop h2 h3 hu h5 hi hzv h6 h
        · cases h6
      · cases h6
    · cases h4
  · obtain ⟨⟨⟨h1, h2⟩, h3⟩, h4⟩ := hok
    split at h4
    · rename_i kt e hu
      exact mapset_sound hs he (.inl hop) h1 h2 h3 hu h4 h
    · cases h4
  · obtain ⟨⟨⟨h1, h2⟩, h3⟩, h4⟩ := hok
    split at h4
    · rename_i kt e hu
      exact mapset_sound hs he (.inr hop) h1 h2 h3 hu h4 h
    · cases h4
  · obtain ⟨h1, h2⟩ := hok
    split at h2
    · rename_i hu
      exact ranges_sound hs he hop h1 hu h
    · cases h2
  · exact nexts_sound hs he hop hok h
  · obtain ⟨⟨⟨⟨rfl, h2⟩, h3⟩, h4⟩, h5⟩ := hok
    split at h5
    · rename_i i hi
      split at h5
      · rename_i zv hzv
        cases hu : P.underlying _ with
        | none => rw [hu] at h4; cases h4
        | some d =>
          rw [hu] at h4
          exact tassert_sound hinj hs he hop h2 h3 hu (by cases d <;> first | rfl | cases h4) hi hzv h5 h
      · cases h5
    · cases h5
  · obtain ⟨rfl, h2⟩ := hok
    exact ext_sound hs he hop h2 h
  · simp [opA] at h
  · exact blt_sound hs he hop hok h
  · cases hok
end
end Ab

/- The check of a machine's code against an abstract one; the machine's steps in any frame. No condition. -/
namespace Ab
open Go

def ckOper (P : Program) (L : Link) (N : Nat) (cops : Array Oper) (o : Oper) (io : IOper) : Bool :=
  o.dst == io.dst && (match io.dst with | some d => decide (d < N) | none => true) &&
  (match o.guard, io.guard with
    | none, none => true
    | some (j, a), some (g, b) => a == b && ((cops[j]?).bind (·.dst)) == some g
    | _, _ => false) &&
  (match o.op, io.op with
    | .call { callee := .value f, args, .. }, .call f' args' => odOk L f f' && odsOk L args.toList args'
    | .call { callee := .builtin .recover, args, .. }, .recover => args.isEmpty
    | .defer { callee := .value f, args, .. }, .defer f' args' => odOk L f f' && odsOk L args.toList args'
    | .panic x, .panic y => odOk L x y
    | op, io => opOk P L op io)

def ckOpers (P : Program) (L : Link) (N : Nat) (cops : Array Oper) : List Oper → List IOper → Bool
  | [], [] => true
  | o :: os, i :: is => ckOper P L N cops o i && ckOpers P L N cops os is
  | _, _ => false

/- what an operation reads of the frame -/
def Opd.slots : Opd → List Nat
  | .t n => [n]
  | _ => []
def odsSlots : List Opd → List Nat
  | [] => []
  | x :: r => x.slots ++ odsSlots r
def optSlots : Option Opd → List Nat
  | some x => x.slots
  | none => []
def IOp.slots : IOp → List Nat
  | .mov x | .box _ x | .load _ _ x | .nilchk x | .un _ x | .conv _ x | .mkif _ x | .faddr _ x | .field _ _ _ x | .ranges x | .nexts x | .tassert _ _ _ x | .ext x _ | .len _ x | .cap x | .panic x => x.slots
  | .pick a b c => a.slots ++ b.slots ++ c.slots
  | .alloc _ | .mkmap | .recover => []
  | .build _ ps => odsSlots (ps.map fun p => p.2.2)
  | .bslice _ _ _ ps => odsSlots (ps.map fun p => p.2)
  | .store _ a b | .bin _ _ a b | .iaddr _ a b | .aaddr _ _ a b | .index a b | .aindex _ _ _ a b | .lookup _ _ a b _ | .app _ a b | .appz _ a b | .del _ a b => a.slots ++ b.slots
  | .mkslice _ _ _ a b => a.slots ++ b.slots
  | .mapset _ a b c => a.slots ++ b.slots ++ c.slots
  | .mkfn _ a b => odsSlots a ++ odsSlots b
  | .slice _ a b c d => a.slots ++ optSlots b ++ optSlots c ++ optSlots d
  | .mm _ xs => odsSlots xs
  | .call f xs | .defer f xs => f.slots ++ odsSlots xs
def IOper.reads (o : IOper) : List Nat := o.op.slots ++ (match o.guard with | some (g, _) => [g] | none => []) ++ (o.chk.flatMap fun c => c.a.slots)

/- neither looks at the state nor changes it -/
def IOp.quiet : IOp → Bool
  | .mov _ | .pick _ _ _ | .build _ _ | .bslice _ _ _ _ | .nilchk _ | .bin _ _ _ _ | .un _ _ | .conv _ _ | .mkif _ _ | .mkfn _ _ _ | .faddr _ _ | .field _ _ _ _ | .iaddr _ _ _ | .aaddr _ _ _ _ | .index _ _ | .aindex _ _ _ _ _
  | .ext _ _ | .cap _ | .mm _ _ => true
  | .len c _ => c != .map
  | .tassert _ _ _ _ => true
  | _ => false
def IOp.isLoad : IOp → Bool
  | .load _ _ _ => true
  | _ => false
def IOp.isCall : IOp → Bool
  | .call _ _ => true
  | _ => false

def apartO (a b : IOper) : Bool :=
  (match a.dst with | some d => !b.reads.contains d && b.dst != some d | none => true) &&
  (match b.dst with | some d => !a.reads.contains d && a.dst != some d | none => true)

/- it leaves the state as it is -/
def IOper.still (o : IOper) : Bool :=
  o.op.quiet || o.op.isLoad || (match o.op with
    | .slice _ _ _ _ _ | .lookup _ _ _ _ _ | .len _ _ => true
    | .call _ _ => o.mp
    | _ => false)

/- a call that a load may pass: the load is looked at ahead and behind -/
def passes (c l : IOper) : Bool :=
  match l.op with
  | .load agg n a => c.chk.contains { agg, n, a } || l.chk.any fun x => c.chk.contains x
  | _ => false

/- a (earlier in the text) and b may change places -/
def swapOk (a b : IOper) : Bool :=
  apartO a b && (a.op.quiet || b.op.quiet || (a.still && b.still) || (a.op.isLoad && b.op.isCall && passes b a) || (a.op.isCall && b.op.isLoad && passes a b))

/- the operations that come straight ahead of one -/
def preds (o : Oper) : List Nat := (o.after.toList.filter (Region.binds .any ·)).map (·.on)

/- which operations must come ahead of each one -/
def aheadOf (cops : List Oper) : List (List Nat) :=
  cops.foldl (fun acc o => acc ++ [(preds o).flatMap fun d => d :: acc.getD d []]) []

def aheadOk (ah : List (List Nat)) : Nat → List Oper → Bool
  | _, [] => true
  | i, o :: r => (ah.getD i []).all (fun j => (preds o).contains j || (preds o).any fun d => (ah.getD d []).contains j) && aheadOk ah (i + 1) r

/- edges lead back -/
def edgesOk : Nat → List Oper → Bool
  | _, [] => true
  | i, o :: r => (preds o).all (fun j => decide (j < i)) && edgesOk (i + 1) r

def swapsOk (ah : List (List Nat)) (ios : List IOper) : Bool :=
  (List.range ios.length).all fun j => (List.range j).all fun i => (ah.getD j []).contains i || swapOk (ios.getD i default) (ios.getD j default)

def drawOk (cops : List Oper) (ios : List IOper) : Bool :=
  edgesOk 0 cops && aheadOk (aheadOf cops) 0 cops && swapsOk (aheadOf cops) ios

def ckCode (P : Program) (L : Link) (N : Nat) (vars : List Nat) (ic : ICode) (c : Code) : Bool :=
  match c with
  | .skip | .label _ => (match ic with | .skip => true | _ => false)
  | .region _ cops draw => (match ic with
    | .region ops keep draw' => draw == draw' && ckOpers P L N cops cops.toList ops && keep.all (vars.contains ·) && ops.all (fun o => match o.dst with | some d => keep.contains d || !vars.contains d | none => true) &&
        (!draw || (P.follows .mixedOrders && drawOk cops.toList ops))
    | _ => false)
  | .seq a b => (match ic with | .seq a' b' => ckCode P L N vars a' a && ckCode P L N vars b' b | _ => false)
  | .cond x a b => (match ic with | .cond x' a' b' => odOk L x x' && ckCode P L N vars a' a && ckCode P L N vars b' b | _ => false)
  | .block id b => (match ic with | .block id' b' => id == id' && ckCode P L N vars b' b | _ => false)
  | .loop b => (match ic with | .loop _ b' => ckCode P L N vars b' b | _ => false)
  | .rangeFunc f ps a b => (match ic with
    | .rangeFn f' ps' a' b' => odOk L f f' && ps.toList == ps' && ps'.all (fun p => decide (p < N) && vars.contains p) && ckCode P L N vars a' a && ckCode P L N vars b' b
    | _ => false)
  | .exit id => (match ic with | .exit id' => id == id' | _ => false)
  | .ret => (match ic with | .ret => true | _ => false)
  | .scope b => ckCode P L N vars ic b
  | .goto _ | .refuse _ => false

def CkR (P : Program) (L : Link) : CodeR := fun N vars ic c => ckCode P L N vars ic c = true

/- a frame at some place -/
def mkF (B : Frame) (tm : Array Value) (df : List Deferred) (todo : List Item) : Frame := { B with tmps := tm, defers := df, todo := todo, mode := .run }

section steps
variable {P : Program} {B : Frame} {tm : Array Value} {df : List Deferred} {k : List Item} {cs : List Frame} {w : World}

theorem mkF_eval (x : Operand) : (mkF B tm df k).eval x = (match x with | .tmp t => tm.getD t undef | .const v => v | .global g => .pointer (some ⟨g, 0, none⟩) | .func f => .func (.func f) #[] #[]) := by
  cases x <;> rfl

def rhoOf (tm : Array Value) : Operand → Value
  | .tmp t => tm.getD t undef
  | .const v => v
  | .global g => .pointer (some ⟨g, 0, none⟩)
  | .func f => .func (.func f) #[] #[]
theorem mkF_eval' : (mkF B tm df k).eval = rhoOf tm := by funext x; cases x <;> rfl

theorem s_skip : step P (lone (mkF B tm df (.code .skip :: k)) cs w) = .next (lone (mkF B tm df k) cs w) := step_lone_go (by simp [stepG, stepG.exec, mkF])
theorem s_label {l : Nat} : step P (lone (mkF B tm df (.code (.label l) :: k)) cs w) = .next (lone (mkF B tm df k) cs w) := step_lone_go (by simp [stepG, stepG.exec, mkF])
theorem s_inBlock {id : Nat} : step P (lone (mkF B tm df (.inBlock id :: k)) cs w) = .next (lone (mkF B tm df k) cs w) := step_lone_go (by simp [stepG, stepG.exec, mkF])
theorem s_inScope {b : Code} : step P (lone (mkF B tm df (.inScope b :: k)) cs w) = .next (lone (mkF B tm df k) cs w) := step_lone_go (by simp [stepG, stepG.exec, mkF])
theorem s_seq {x y : Code} : step P (lone (mkF B tm df (.code (.seq x y) :: k)) cs w) = .next (lone (mkF B tm df (.code x :: .code y :: k)) cs w) := step_lone_go (by simp [stepG, stepG.exec, mkF])
theorem s_cond {c : Operand} {x y : Code} {t : Bool} (h : rhoOf tm c = .bool t) :
    step P (lone (mkF B tm df (.code (.cond c x y) :: k)) cs w) = .next (lone (mkF B tm df (.code (if t then x else y) :: k)) cs w) :=
  step_lone_go (by
    have := congrFun (mkF_eval' (B := B) (tm := tm) (df := df) (k := .code (.cond c x y) :: k)) c
    simp only [mkF] at this
    simp [stepG, stepG.exec, mkF, this, h])
theorem s_block {id : Nat} {c : Code} : step P (lone (mkF B tm df (.code (.block id c) :: k)) cs w) = .next (lone (mkF B tm df (.code c :: .inBlock id :: k)) cs w) := step_lone_go (by simp [stepG, stepG.exec, mkF])
theorem s_loop {c : Code} : step P (lone (mkF B tm df (.code (.loop c) :: k)) cs w) = .next (lone (mkF B tm df (.code c :: .inLoop c :: k)) cs w) := step_lone_go (by simp [stepG, stepG.exec, mkF])
theorem s_inLoop {c : Code} : step P (lone (mkF B tm df (.inLoop c :: k)) cs w) = .next (lone (mkF B tm df (.code c :: .inLoop c :: k)) cs w) := step_lone_go (by simp [stepG, stepG.exec, mkF])
theorem s_scope {c : Code} : step P (lone (mkF B tm df (.code (.scope c) :: k)) cs w) = .next (lone (mkF B tm df (.code c :: .inScope c :: k)) cs w) := step_lone_go (by simp [stepG, stepG.exec, mkF])
theorem s_exit {id : Nat} {k' : List Item} (h : exitTo id k = some k') : step P (lone (mkF B tm df (.code (.exit id) :: k)) cs w) = .next (lone (mkF B tm df k') cs w) := step_lone_go (by simp [stepG, stepG.exec, mkF, h])
theorem s_region {id : Nat} {ops : Array Oper} : step P (lone (mkF B tm df (.code (.region id ops false) :: k)) cs w) = .next (lone (mkF B tm df (.inRegion ops (List.range ops.size) :: k)) cs w) :=
  step_lone_go (by simp [stepG, stepG.exec, mkF])
theorem s_region_draw {id : Nat} {ops : Array Oper} : step P (lone (mkF B tm df (.code (.region id ops true) :: k)) cs w) =
    .next (lone (mkF B tm df (.inRegion ops (Region.schedule (P.follows .mixedOrders) ops (w.tape w.drawn (.order B.fn id))) :: k)) cs { w with drawn := w.drawn + 1 }) :=
  step_lone_go (by simp [stepG, stepG.exec, mkF, choose, Sem.run, Question.forced, Question.cut])
theorem s_region_end {ops : Array Oper} : step P (lone (mkF B tm df (.inRegion ops [] :: k)) cs w) = .next (lone (mkF B tm df k) cs w) := step_lone_go (by simp [stepG, stepG.exec, mkF])

def putT (tm : Array Value) (d : Option Nat) (v : Value) : Array Value := match d with | some d => tm.setIfInBounds d v | none => tm

theorem finish_mkF {ops : Array Oper} {i : Nat} {rest : List Nat} {o : Oper} (ho : ops[i]? = some o) (v : Value) :
    (mkF B tm df (.inRegion ops (i :: rest) :: k)).finish v = mkF B (putT tm o.dst v) df (.inRegion ops rest :: k) := by
  simp only [Frame.finish, mkF, ho, Option.bind_some, putT]
  cases o.dst <;> rfl

theorem s_op_skip {ops : Array Oper} {i : Nat} {rest : List Nat} {o : Oper} (ho : ops[i]? = some o) (hw : Region.wanted o (yielded ops tm) = false) :
    step P (lone (mkF B tm df (.inRegion ops (i :: rest) :: k)) cs w) = .next (lone (mkF B (putT tm o.dst undef) df (.inRegion ops rest :: k)) cs w) := by
  rw [← finish_mkF ho]
  exact step_lone_go (by simp [stepG, stepG.exec, mkF, ho, hw])

theorem s_op {ops : Array Oper} {i : Nat} {rest : List Nat} {o : Oper} (ho : ops[i]? = some o) (hw : Region.wanted o (yielded ops tm) = true) (hd : B.roundOf = none ∨ ∀ c, o.op ≠ .defer c) :
    stepG P true { frame := mkF B tm df (.inRegion ops (i :: rest) :: k), callers := cs, status := .running, dying := none } w =
      stepG.apply P true (mkF B tm df (.inRegion ops (i :: rest) :: k)) cs none (execOp (rhoOf tm) o) w := by
  have he := mkF_eval' (B := B) (tm := tm) (df := df) (k := .inRegion ops (i :: rest) :: k)
  simp only [mkF] at he
  have hop : (mkF B tm df (.inRegion ops (i :: rest) :: k)).oper? = some o := by simp [Frame.oper?, mkF, ho]
  simp only [mkF] at hop
  simp only [stepG, stepG.exec, mkF, ho, Option.map_some, hw, Option.getD_some, if_true, stepG.oper, hop, he]
  rcases hd with hd | hd
  · rw [hd]
  · split
    · rename_i c h1 h2; exact absurd h2 (hd c)
    · rfl

theorem s_op_value {ops : Array Oper} {i : Nat} {rest : List Nat} {o : Oper} (ho : ops[i]? = some o) (hw : Region.wanted o (yielded ops tm) = true) (hd : B.roundOf = none ∨ ∀ c, o.op ≠ .defer c) {nx : Next} {v : Value} {w' : World}
    (hr : (execOp (rhoOf tm) o).run P w = .ok nx w') (hn : nx = .value v ∨ (nx = .skip ∧ v = undef)) :
    step P (lone (mkF B tm df (.inRegion ops (i :: rest) :: k)) cs w) = .next (lone (mkF B (putT tm o.dst v) df (.inRegion ops rest :: k)) cs w') := by
  rw [← finish_mkF ho]
  refine step_lone_go ?_
  rw [s_op ho hw hd]
  rcases hn with rfl | ⟨rfl, rfl⟩ <;> simp [stepG.apply, hr]

theorem s_op_enter {ops : Array Oper} {i : Nat} {rest : List Nat} {o : Oper} (ho : ops[i]? = some o) (hw : Region.wanted o (yielded ops tm) = true) (hd : B.roundOf = none ∨ ∀ c, o.op ≠ .defer c) {f : FuncId} {args : Array Value} {w' : World}
    (hr : (execOp (rhoOf tm) o).run P w = .ok (.enter f args) w') :
    step P (lone (mkF B tm df (.inRegion ops (i :: rest) :: k)) cs w) = .next (lone (Frame.enter P f args .normal) (mkF B tm df (.inRegion ops (i :: rest) :: k) :: cs) w') := by
  refine step_lone_go ?_
  rw [s_op ho hw hd]
  simp [stepG.apply, hr, mkF]

theorem s_op_round {ops : Array Oper} {i : Nat} {rest : List Nat} {o : Oper} (ho : ops[i]? = some o) (hw : Region.wanted o (yielded ops tm) = true) (hd : B.roundOf = none ∨ ∀ c, o.op ≠ .defer c) {l : Nat} {f : FuncId} {tms : Array Value} {a b : Code} {w' : World}
    (hr : (execOp (rhoOf tm) o).run P w = .ok (.round l f tms a b) w') :
    step P (lone (mkF B tm df (.inRegion ops (i :: rest) :: k)) cs w) = .next (lone (Frame.round l f tms a b .normal) (mkF B tm df (.inRegion ops (i :: rest) :: k) :: cs) w') := by
  refine step_lone_go ?_
  rw [s_op ho hw hd]
  simp [stepG.apply, hr]

theorem s_op_panic {ops : Array Oper} {i : Nat} {rest : List Nat} {o : Oper} (ho : ops[i]? = some o) (hw : Region.wanted o (yielded ops tm) = true) (hd : B.roundOf = none ∨ ∀ c, o.op ≠ .defer c) {v : Value} {w' : World}
    (hr : (execOp (rhoOf tm) o).run P w = .halt (.panic v) w') :
    step P (lone (mkF B tm df (.inRegion ops (i :: rest) :: k)) cs w) = .next (lone { mkF B tm df (.inRegion ops (i :: rest) :: k) with mode := .panicking [{ v, recovered := false }] } cs w') := by
  refine step_lone_go ?_
  rw [s_op ho hw hd]
  simp [stepG.apply, hr, mkF, Frame.raise]

theorem s_op_defer {ops : Array Oper} {i : Nat} {rest : List Nat} {o : Oper} (ho : ops[i]? = some o) (hw : Region.wanted o (yielded ops tm) = true) (hd : B.roundOf = none) {d : Deferred} {w' : World}
    (hr : (execOp (rhoOf tm) o).run P w = .ok (.defer d) w') :
    step P (lone (mkF B tm df (.inRegion ops (i :: rest) :: k)) cs w) = .next (lone (mkF B (putT tm o.dst undef) (d :: df) (.inRegion ops rest :: k)) cs w') := by
  rw [← finish_mkF ho]
  refine step_lone_go ?_
  rw [s_op ho hw (.inl hd)]
  simp only [stepG.apply, Sem.runT_eq, hr, if_true, GStep.bare_after, GStep.bare_go]
  rfl
end steps
end Ab

/- One operation of a region, and the operations of a region one after the other. Its condition: calls do what the abstract run says. -/
namespace Ab
open Go

/- the calls that a frame has put off; marks of loops lie at lo or behind it -/
inductive DRel (L : Lk) (g : Gh) (w : World) (lo : Nat) : List (AV × List AV) → List Deferred → Prop
  | nil : DRel L g w lo [] []
  | coll (d : Nat) (ds : List (AV × List AV)) (cs : List Deferred) (h : d ∈ g.dfr) (hlo : lo ≤ d) (hn : ∀ c ∈ cs, c.target ≠ .collected d) (r : DRel L g w lo ds cs) : DRel L g w lo ds ({ target := .collected d, args := #[] } :: cs)
  | call (tgt : AV) (args : List AV) (fv : Fn) (first cap : Array Value) (cargs : List Value) (ds : List (AV × List AV)) (cs : List Deferred) (h : Rep L g w tgt (.func fv first cap)) (ha : RepL L g w args cargs) (r : DRel L g w lo ds cs) :
      DRel L g w lo ((tgt, args) :: ds) ({ target := .fn fv cap, args := first ++ cargs.toArray } :: cs)

theorem DRel.mono' {L : Lk} {g g' : Gh} {w w' : World} {lo : Nat} (hg : GE g w g' w') {ds : List (AV × List AV)} {cs : List Deferred} (h : DRel L g w lo ds cs) : (∀ c ∈ cs, ∀ d, c.target = .collected d → d ∈ g.dfr → d ∈ g'.dfr) → DRel L g' w' lo ds cs := by
  induction h with
  | nil => intro _; exact .nil
  | coll d ds cs h hlo hn _ ih => intro hd; exact .coll d ds cs (hd _ (List.mem_cons_self ..) d rfl h) hlo hn (ih fun c hc => hd c (List.mem_cons_of_mem _ hc))
  | call tgt args fv first cap cargs ds cs h ha _ ih => intro hd; exact .call tgt args fv first cap cargs ds cs (Rep.mono hg _ _ h) (RepL.mono hg _ _ ha) (ih fun c hc => hd c (List.mem_cons_of_mem _ hc))

theorem DRel.mono {L : Lk} {g g' : Gh} {w w' : World} {lo : Nat} (hg : GE g w g' w') (hd : ∀ d, d ∈ g.dfr → d ∈ g'.dfr) {ds : List (AV × List AV)} {cs : List Deferred} (h : DRel L g w lo ds cs) : DRel L g' w' lo ds cs :=
  h.mono' hg fun _ _ d _ => hd d

theorem DRel.marks {L : Lk} {g : Gh} {w : World} {lo : Nat} {ds : List (AV × List AV)} {cs : List Deferred} (h : DRel L g w lo ds cs) : ∀ c ∈ cs, ∀ d, c.target = .collected d → d ∈ g.dfr := by
  induction h with
  | nil => intro c hc; cases hc
  | coll d ds cs h _ _ _ ih =>
    intro c hc d' hd
    rcases List.mem_cons.1 hc with rfl | hc
    · cases hd; exact h
    · exact ih c hc d' hd
  | call tgt args fv first cap cargs ds cs h ha _ ih =>
    intro c hc d' hd
    rcases List.mem_cons.1 hc with rfl | hc
    · cases hd
    · exact ih c hc d' hd

structure FrR (L : Lk) (N : Nat) (vars : List Nat) (lo : Nat) (g : Gh) (w : World) (f : Fr) (tm : Array Value) (df : List Deferred) : Prop where
  env : EnvR L g w f.env tm
  dom : EnvD vars f.env
  size : N ≤ tm.size
  dfr : DRel L g w lo f.defers df
  lo : lo ≤ w.heap.size

/- at no call of a value that the machine itself asked for -/
def NoCall : List Item → Prop
  | .call _ _ _ _ :: _ => False
  | _ => True

def csAt (recd : Bool) (cs : List Frame) : List Frame :=
  match recd, cs with
  | true, c :: r => { c with mode := (match c.mode with
    | .panicking ({ v, recovered := false, goexit := false } :: older) => .panicking ({ v, recovered := true } :: older)
    | m => m) } :: r
  | _, cs => cs

def RcvR (L : Lk) (g : Gh) (w : World) (f : Fr) (B : Frame) (cs0 : List Frame) : Prop :=
  f.rnd = B.roundOf.isSome ∧ (∀ l, B.roundOf = some l → l ∈ g.lps) ∧
  match f.rcv, f.recd with
  | none, false => f.rnd = true ∨ B.kind = .normal ∨ (B.kind = .deferred ∧ ∃ c r, cs0 = c :: r ∧ c.mode = .returning)
  | some v, false => B.kind = .deferred ∧ ∃ c r pv, cs0 = c :: r ∧ c.mode = .panicking [{ v := pv, recovered := false }] ∧ Rep L g w v pv
  | none, true => B.kind = .deferred ∧ ∃ c r pv, cs0 = c :: r ∧ c.mode = .panicking [{ v := pv, recovered := false }]
  | some _, true => False

theorem RcvR.mono {L : Lk} {g g' : Gh} {w w' : World} (hg : GE g w g' w') {f : Fr} {B : Frame} {cs0 : List Frame} (h : RcvR L g w f B cs0) : RcvR L g' w' f B cs0 := by
  obtain ⟨h1, h2, h3⟩ := h
  refine ⟨h1, fun l hl => hg.lps l (h2 l hl), ?_⟩
  cases hr : f.rcv <;> cases hd : f.recd <;> simp only [hr, hd] at h3 ⊢
  · exact h3
  · exact h3
  · obtain ⟨a, c, r, pv, h4, h5, h6⟩ := h3
    exact ⟨a, c, r, pv, h4, h5, Rep.mono hg _ _ h6⟩

def StartsBy (P : Program) (nx : Next) (F : CallKind → Frame) : Prop :=
  (∃ f a, nx = .enter f a ∧ F = fun k => Frame.enter P f a k) ∨ (∃ l f tm a b, nx = .round l f tm a b ∧ F = fun k => Frame.round l f tm a b k)

/- globals: what is known of package-level variables; the world at the start -/
structure GlR (L : Link) (E : IEnv) (g : Gh) (w : World) : Prop where
  glob : ∀ n, Rep L.toLk g w (E.glob n) (.pointer (some ⟨L.glOf n, 0, none⟩))
  base : g.base = L.w0.heap.size
  below : RowKit.Below g.base L.w0 w
theorem GlR.mono' {L : Link} {E : IEnv} {g g' : Gh} {w w' : World} (hg : GE g w g' w') (hb : g'.base = g.base) (hw : RowKit.Below g.base w w') (h : GlR L E g w) : GlR L E g' w' :=
  ⟨fun n => Rep.mono hg _ _ (h.glob n), hb.trans h.base, by rw [hb]; exact h.below.trans hw⟩
theorem GlR.ext {L : Link} {E : IEnv} {g g' : Gh} {s s' : St} {w w' : World} (h : GlR L E g w) (x : Ext g s w g' s' w') : GlR L E g' w' :=
  h.mono' x.ge x.base ⟨x.os, x.tape, x.out, x.size, x.old⟩

structure Invoked (P : Program) (w : World) (ctgt : Value) (cargs : List Value) (F : CallKind → Frame) : Prop where
  out : ∃ fv first cap nx, ctgt = .func fv first cap ∧ (invoke (.fn fv cap) (first ++ cargs.toArray)).run P w = .ok nx w ∧ StartsBy P nx F

def CallSim (P : Program) (L : Link) (E : IEnv) (call : Caller) : Prop :=
  ∀ pn tgt args s r recd s', call pn tgt args s = some (r, recd, s') → ∀ g w ctgt cargs, StR L.toLk (CkR P L) g s w → GlR L E g w → Rep L.toLk g w tgt ctgt → RepL L.toLk g w args cargs →
    ∃ F, Invoked P w ctgt cargs F ∧
    (pn = none → ∀ c cs, ∃ g' w' cv, StR L.toLk (CkR P L) g' s' w' ∧ Ext g s w g' s' w' ∧ (match r with
      | .ret v => Rep L.toLk g' w' v cv ∧ Steps P (lone (F .normal) (c :: cs) w) (lone (c.finish cv) cs w')
      | .pan v => Rep L.toLk g' w' v cv ∧ Steps P (lone (F .normal) (c :: cs) w) (lone (c.raise [{ v := cv, recovered := false }]) cs w'))) ∧
    (ownFn E tgt = true → ∀ c cs, (match pn with | none => c.mode = .returning | some v => ∃ pv, c.mode = .panicking [{ v := pv, recovered := false }] ∧ Rep L.toLk g w v pv) →
      ∃ g' w', StR L.toLk (CkR P L) g' s' w' ∧ Ext g s w g' s' w' ∧ (match r with
      | .ret _ => Steps P (lone (F .deferred) (c :: cs) w) (lone { c with mode := if recd then .returning else c.mode } cs w')
      | .pan _ => True))

section
variable {P : Program} {L : Link} {E : IEnv} {call : Caller} {g : Gh} {s : St} {w : World}

theorem get_put (tm : Array Value) (d i : Nat) (v : Value) (h : d < tm.size) : (tm.setIfInBounds d v).getD i undef = if i = d then v else tm.getD i undef := by
  simp only [Array.getD_eq_getD_getElem?, Array.getElem?_setIfInBounds]
  by_cases hi : d = i
  · subst hi; simp [h]
  · simp [hi, Ne.symm hi]

theorem EnvR.push {L : Lk} {e : Env} {tm : Array Value} {N : Nat} {d : Nat} {v : AV} {cv : Value} (h : EnvR L g w e tm) (hs : N ≤ tm.size) (hd : d < N) (hv : Rep L g w v cv) : EnvR L g w ((d, v) :: e) (tm.setIfInBounds d cv) := by
  intro i
  rw [get_put _ _ _ _ (by omega)]
  simp only [Env.get]
  by_cases hi : i = d
  · rw [if_pos hi, if_pos hi]; exact hv
  · rw [if_neg hi, if_neg hi]; exact h i

theorem putT_size (tm : Array Value) (d : Option Nat) (v : Value) : (putT tm d v).size = tm.size := by cases d <;> simp [putT]

theorem evs_of {e : Env} {tm : Array Value} (h : EnvR L.toLk g w e tm) (hg : GlR L E g w) : Evs L g w (rhoOf tm) (Opd.ev E e) := by
  refine ⟨fun x y hxy => ?_⟩
  unfold odOk at hxy
  split at hxy
  · simp only [beq_iff_eq] at hxy; subst hxy; exact h _
  · exact vOk_rep hxy _ _
  · simp only [beq_iff_eq] at hxy; subst hxy
    simp only [Opd.ev, rhoOf, Rep]
    exact ⟨[], [], rfl, by simp [RepL], by simp [RepL]⟩
  · simp only [beq_iff_eq] at hxy; subst hxy; exact hg.glob _
  · cases hxy

theorem guard_sound {e : Env} {tm : Array Value} (h : EnvR L.toLk g w e tm) {cops : Array Oper} {o : Oper} {io : IOper} (hg : (match o.guard, io.guard with
    | none, none => true
    | some (j, a), some (q, b) => a == b && ((cops[j]?).bind (·.dst)) == some q
    | _, _ => false) = true) {b : Bool} (hb : guardA io.guard e = some b) : Region.wanted o (yielded cops tm) = b := by
  unfold guardA at hb
  unfold Region.wanted
  cases hog : o.guard with
  | none =>
    cases hig : io.guard with
    | none => simp only [hig, Option.some.injEq] at hb; subst hb; rfl
    | some p => simp [hog, hig] at hg
  | some p =>
    obtain ⟨j, a⟩ := p
    cases hig : io.guard with
    | none => simp [hog, hig] at hg
    | some q =>
      obtain ⟨q, a'⟩ := q
      simp only [hog, hig, Bool.and_eq_true, beq_iff_eq] at hg
      obtain ⟨rfl, hq⟩ := hg
      simp only [hig] at hb
      have hr := h q
      simp only [yielded, hq, Option.bind_some]
      split at hb
      · rename_i v hv
        rw [hv] at hr
        simp only [Rep] at hr
        have ht : tm[q]? = some (.bool v) := by
          rw [Array.getD_eq_getD_getElem?] at hr
          cases htq : tm[q]? with
          | none => rw [htq] at hr; simp [undef] at hr
          | some x => rw [htq] at hr; simp at hr; rw [hr]
        simp only [Option.some.injEq] at hb
        rw [ht]
        simp only
        rw [← hb]
        cases v <;> cases a <;> rfl
      · rename_i hv
        rw [hv] at hr
        simp only [Option.some.injEq] at hb
        subst hb
        simp only [Rep, RepL] at hr
        obtain ⟨vs, hr, rfl⟩ := hr
        cases htq : tm[q]? with
        | none => rfl
        | some x =>
          rw [Array.getD_eq_getD_getElem?, htq] at hr
          simp at hr
          subst hr
          rfl
      · cases hb
end
end Ab

/- One operation of a region; and the operations of a region one after the other, in any order that is given. Its condition: calls do what the abstract run says. -/
namespace Ab
open Go
section
variable {P : Program} {L : Link} {E : IEnv} {call : Caller} {g : Gh} {s : St} {w : World}

theorem putEnv {N : Nat} {e : Env} {tm : Array Value} {io : IOper} {v : AV} {cv : Value} (h : EnvR L.toLk g w e tm) (hs : N ≤ tm.size) (hd : (match io.dst with | some d => decide (d < N) | none => true) = true) (hv : Rep L.toLk g w v cv)
    {f : Fr} {p : Option AV} {f' : Fr} {e' : Env} {s' : St} (hf : finO io v f e s = some (p, f', e', s')) : p = none ∧ f' = f ∧ s' = s ∧ EnvR L.toLk g w e' (putT tm io.dst cv) := by
  unfold finO at hf
  cases hdst : io.dst with
  | none =>
    simp only [hdst, Option.some.injEq, Prod.mk.injEq] at hf
    obtain ⟨rfl, rfl, rfl, rfl⟩ := hf
    exact ⟨rfl, rfl, rfl, h⟩
  | some d =>
    simp only [hdst, Option.some.injEq, Prod.mk.injEq] at hf
    obtain ⟨rfl, rfl, rfl, rfl⟩ := hf
    rw [hdst] at hd
    simp only [decide_eq_true_eq] at hd
    exact ⟨rfl, rfl, rfl, h.push hs hd hv⟩

/- where a step of a region comes to -/
def Came (P : Program) (L : Link) (M : Machine) (B : Frame) (tm : Array Value) (df : List Deferred) (todo : List Item) (cs : List Frame) (g : Gh) (w : World) : Option AV → Prop
  | none => Steps P M (lone (mkF B tm df todo) cs w)
  | some v => ∃ cv td, Rep L.toLk g w v cv ∧ NoCall td ∧ Steps P M (lone { mkF B tm df td with mode := .panicking [{ v := cv, recovered := false }] } cs w)

theorem run_call_op {tm : Array Value} {o : Oper} {q : Operand} {args : Array Operand} {ts : Array TypeId} (ho : o.op = .call { callee := .value q, args, argTypes := ts }) {fv : Fn} {first cap : Array Value} (hq : rhoOf tm q = .func fv first cap) :
    (execOp (rhoOf tm) o).run P w = (invoke (.fn fv cap) (first ++ (args.toList.map (rhoOf tm)).toArray)).run P w := by
  have e1 : args.map (rhoOf tm) = (args.toList.map (rhoOf tm)).toArray := by apply Array.ext'; simp
  simp only [execOp, ho, resolve, hq, Deferred.ofValue, Sem.run_bind, Sem.run_pure, Result.andThen_ok, e1]

theorem goA_guard {E : IEnv} {o : IOper} {e : Env} {b : Bool} (h : goA E o e = some b) : guardA o.guard e = some b := by
  unfold goA at h
  split at h
  · rename_i hg
    split at h
    · cases h; exact hg
    · cases h
  · exact h

theorem step_sound (hinj : ∀ a b, L.tyOf a = L.tyOf b → a = b) (hcall : CallSim P L E call) {draw : Bool} {io : IOper} {o : Oper} {cops : Array Oper} {N : Nat} (hck : ckOper P L N cops o io = true) {f f' : Fr} {e e' : Env} {s' : St} {p : Option AV}
    (h : stepA E call draw io f e s = some (p, f', e', s')) (hs : StR L.toLk (CkR P L) g s w) (hgl : GlR L E g w) {lo : Nat} {tm : Array Value} {df : List Deferred} (he : EnvR L.toLk g w e tm) (hN : N ≤ tm.size) (hdf : DRel L.toLk g w lo f.defers df)
    {B : Frame} {cs0 : List Frame} (hrc : RcvR L.toLk g w f B cs0) {i : Nat} (hi : cops[i]? = some o) (rest : List Nat) (k : List Item) :
    ∃ g' w' tm' df', StR L.toLk (CkR P L) g' s' w' ∧ Ext g s w g' s' w' ∧ EnvR L.toLk g' w' e' tm' ∧ N ≤ tm'.size ∧ DRel L.toLk g' w' lo f'.defers df' ∧ RcvR L.toLk g' w' f' B cs0 ∧ f'.rnd = f.rnd ∧ f'.env = f.env ∧
      Came P L (lone (mkF B tm df (.inRegion cops (i :: rest) :: k)) (csAt f.recd cs0) w) B tm' df' (.inRegion cops rest :: k) (csAt f'.recd cs0) g' w' p := by
  unfold ckOper at hck
  simp only [Bool.and_eq_true, beq_iff_eq] at hck
  obtain ⟨⟨⟨hdst, hd⟩, hgd⟩, hop⟩ := hck
  unfold stepA at h
  have hev := evs_of (E := E) he hgl
  -- a value that goes into the frame, nothing else changed
  split at h
  · cases h
  · rename_i hg
    have hw := guard_sound he hgd (goA_guard hg)
    obtain ⟨rfl, rfl, rfl, h4⟩ := putEnv he hN hd (undef_rep L.toLk g w) h
    refine ⟨g, w, putT tm io.dst undef, df, hs, .refl _ _ _, h4, by rw [putT_size]; exact hN, hdf, hrc, rfl, rfl, ?_⟩
    simp only [Came]
    rw [← hdst]
    exact .one (s_op_skip hi hw)
  · rename_i hg
    have hw := guard_sound he hgd (goA_guard hg)
    have plain : ∀ (v : AV) (s2 : St), opA (Opd.ev E e) s io.op = some (v, s2) → opOk P L o.op io.op = true → (∀ c, o.op ≠ .defer c) → finO io v f e s2 = some (p, f', e', s') → ∃ g' w' tm' df', StR L.toLk (CkR P L) g' s' w' ∧ Ext g s w g' s' w' ∧ EnvR L.toLk g' w' e' tm' ∧ N ≤ tm'.size ∧ DRel L.toLk g' w' lo f'.defers df' ∧ RcvR L.toLk g' w' f' B cs0 ∧ f'.rnd = f.rnd ∧ f'.env = f.env ∧
        Came P L (lone (mkF B tm df (.inRegion cops (i :: rest) :: k)) (csAt f.recd cs0) w) B tm' df' (.inRegion cops rest :: k) (csAt f'.recd cs0) g' w' p := by
      intro v s2 hv hok hnd hfin
      obtain ⟨g', w', nx, cv, h1, h2, h3, h4, h5⟩ := op_sound (C := CkR P L) hinj hs hev hok hv
      obtain ⟨rfl, rfl, rfl, h6⟩ := putEnv (he.mono h5.ge) hN hd h3 hfin
      refine ⟨g', w', putT tm io.dst cv, df, h4, h5, h6, by rw [putT_size]; exact hN, hdf.mono h5.ge h5.dfr, hrc.mono h5.ge, rfl, rfl, ?_⟩
      simp only [Came]
      rw [← hdst]
      exact .one (s_op_value hi hw (.inr hnd) h1 h2)
    unfold runO at h
    split at h
    · -- a call
      rename_i q args hio
      rw [hio] at hop
      cases hoo : o.op with
      | call c =>
        obtain ⟨callee, cargs, ts⟩ := c
        cases callee with
        | value cf =>
          rw [hoo] at hop
          simp only [Bool.and_eq_true] at hop
          obtain ⟨hq, hargs⟩ := hop
          split at h
          · cases h
          · have hrq := hev.rep _ _ hq
            have hra := hev.reps hargs
            split at h
            · rename_i v rd s2 hc
              obtain ⟨F, ⟨fv, first, cap, nx, hfun, hinv, hst⟩, hn, _⟩ := hcall _ _ _ _ _ _ _ hc g w _ _ hs hgl hrq hra
              obtain ⟨g', w', cv, h1, h2, h3, h4⟩ := hn rfl (mkF B tm df (.inRegion cops (i :: rest) :: k)) (csAt f.recd cs0)
              split at h
              · obtain ⟨rfl, rfl, rfl, h6⟩ := putEnv (he.mono h2.ge) hN hd h3 h
                refine ⟨g', w', putT tm io.dst cv, df, h1, h2, h6, by rw [putT_size]; exact hN, hdf.mono h2.ge h2.dfr, hrc.mono h2.ge, rfl, rfl, ?_⟩
                simp only [Came]
                rw [finish_mkF hi, hdst] at h4
                refine .head ?_ h4
                have hrun := run_call_op (P := P) (w := w) hoo hfun
                rw [hinv] at hrun
                rcases hst with ⟨cf', a', rfl, rfl⟩ | ⟨l, cf', tms, a, b, rfl, rfl⟩
                · exact s_op_enter hi hw (.inr fun c hc => by rw [hoo] at hc; cases hc) hrun
                · exact s_op_round hi hw (.inr fun c hc => by rw [hoo] at hc; cases hc) hrun
              · cases h
            · rename_i v rd s2 hc
              split at h
              · cases h
              · simp only [Option.some.injEq, Prod.mk.injEq] at h
                obtain ⟨rfl, rfl, rfl, rfl⟩ := h
                obtain ⟨F, ⟨fv, first, cap, nx, hfun, hinv, hst⟩, hn, _⟩ := hcall _ _ _ _ _ _ _ hc g w _ _ hs hgl hrq hra
                obtain ⟨g', w', cv, h1, h2, h3, h4⟩ := hn rfl (mkF B tm df (.inRegion cops (i :: rest) :: k)) (csAt f.recd cs0)
                refine ⟨g', w', tm, df, h1, h2, he.mono h2.ge, hN, hdf.mono h2.ge h2.dfr, hrc.mono h2.ge, rfl, rfl, ?_⟩
                simp only [Came]
                refine ⟨cv, (.inRegion cops (i :: rest) :: k), h3, trivial, .head ?_ h4⟩
                have hrun := run_call_op (P := P) (w := w) hoo hfun
                rw [hinv] at hrun
                rcases hst with ⟨cf', a', rfl, rfl⟩ | ⟨l, cf', tms, a, b, rfl, rfl⟩
                · exact s_op_enter hi hw (.inr fun c hc => by rw [hoo] at hc; cases hc) hrun
                · exact s_op_round hi hw (.inr fun c hc => by rw [hoo] at hc; cases hc) hrun
            · cases h
        | invoke r m => rw [hoo] at hop; simp only at hop; simp [opOk] at hop
        | builtin b => rw [hoo] at hop; cases b <;> simp [opOk, bltOk] at hop
      | _ => rw [hoo] at hop; simp [opOk] at hop
    · -- a deferred call
      rename_i q args hio
      rw [hio] at hop
      split at h
      · cases h
      · rename_i hcond
        simp only [Bool.or_eq_true, not_or, Bool.not_eq_true] at hcond
        have hround : B.roundOf = none := by
          have := hrc.1
          rw [hcond.1] at this
          cases hb : B.roundOf with
          | none => rfl
          | some l => rw [hb] at this; cases this
        cases hoo : o.op with
        | defer c =>
          obtain ⟨callee, cargs, ts⟩ := c
          cases callee with
          | value cf =>
            rw [hoo] at hop
            simp only [Bool.and_eq_true] at hop
            obtain ⟨hq, hargs⟩ := hop
            have hrq := hev.rep _ _ hq
            have hra := hev.reps hargs
            split at h
            · rename_i qf qa qc hqv
              rw [hqv] at hrq
              have hrq' := hrq
              simp only [Rep] at hrq
              obtain ⟨fs, cps, hfun, _, _⟩ := hrq
              have e1 : cargs.map (rhoOf tm) = (cargs.toList.map (rhoOf tm)).toArray := by apply Array.ext'; simp
              have hrun : (execOp (rhoOf tm) o).run P w = .ok (.defer { target := .fn (.func (L.fnOf qf)) cps.toArray, args := fs.toArray ++ (cargs.toList.map (rhoOf tm)).toArray }) w := by
                simp only [execOp, hoo, resolve, hfun, Deferred.ofValue, Sem.run_bind, Sem.run_pure, Result.andThen_ok, e1]
              obtain ⟨rfl, h7, rfl, h6⟩ := putEnv he hN hd (undef_rep L.toLk g w) h
              subst h7
              refine ⟨g, w, putT tm io.dst undef, _, hs, .refl _ _ _, h6, by rw [putT_size]; exact hN, .call (.fn qf qa qc) _ _ _ _ _ _ _ (by rw [hfun] at hrq'; exact hrq') hra hdf, hrc, rfl, rfl, ?_⟩
              simp only [Came]
              rw [← hdst]
              exact .one (s_op_defer hi hw hround hrun)
            · cases h
          | invoke r m => rw [hoo] at hop; simp [opOk] at hop
          | builtin b => rw [hoo] at hop; simp [opOk] at hop
        | call c =>
          obtain ⟨callee, cargs, ts⟩ := c
          cases callee with
          | builtin b => rw [hoo] at hop; cases b <;> simp [opOk, bltOk] at hop
          | value cf => rw [hoo] at hop; simp [opOk] at hop
          | invoke r m => rw [hoo] at hop; simp [opOk] at hop
        | _ => rw [hoo] at hop; simp [opOk] at hop
    · -- a panic
      rename_i x hio
      rw [hio] at hop
      split at h
      · cases h
      · cases hoo : o.op with
        | panic y =>
          rw [hoo] at hop
          simp only at hop
          have hrx := hev.rep _ _ hop
          split at h
          · rename_i t v hv
            simp only [Option.some.injEq, Prod.mk.injEq] at h
            obtain ⟨rfl, rfl, rfl, rfl⟩ := h
            rw [hv] at hrx
            have hrx' := hrx
            simp only [Rep] at hrx
            obtain ⟨u, hρ, _⟩ := hrx
            refine ⟨g, w, tm, df, hs, .refl _ _ _, he, hN, hdf, hrc, rfl, rfl, ?_⟩
            simp only [Came]
            refine ⟨rhoOf tm y, (.inRegion cops (i :: rest) :: k), hrx', trivial, .one ?_⟩
            refine s_op_panic hi hw (.inr fun c hc => by rw [hoo] at hc; cases hc) ?_
            simp only [execOp, hoo, hρ, Instr.panic, Sem.run_bind, run_goPanic, Result.andThen_halt]
          · cases h
        | call c =>
          obtain ⟨callee, cargs, ts⟩ := c
          cases callee with
          | builtin b => rw [hoo] at hop; cases b <;> simp [opOk, bltOk] at hop
          | value cf => rw [hoo] at hop; simp [opOk] at hop
          | invoke r m => rw [hoo] at hop; simp [opOk] at hop
        | _ => rw [hoo] at hop; simp [opOk] at hop
    · -- recover
      rename_i hio
      rw [hio] at hop
      split at h
      · cases h
      · rename_i hcond
        simp only [Bool.or_eq_true, not_or, Bool.not_eq_true] at hcond
        have hround : B.roundOf = none := by
          have := hrc.1
          rw [hcond.1] at this
          cases hb : B.roundOf with
          | none => rfl
          | some l => rw [hb] at this; cases this
        cases hoo : o.op with
        | call c =>
          obtain ⟨callee, cargs, ts⟩ := c
          cases callee with
          | builtin b =>
            cases b <;> rw [hoo] at hop <;> first | (simp [opOk, bltOk] at hop; done) | skip
            have hrun : (execOp (rhoOf tm) o).run P w = .ok .recover w := by
              simp only [execOp, hoo, resolve, Sem.run_bind, Sem.run_pure, Result.andThen_ok, invoke, builtin]
            have hstep : ∀ {v : Value} {cs cs' : List Frame}, (match tryRecover (mkF B tm df (.inRegion cops (i :: rest) :: k)) cs with | some (x, q) => x = v ∧ q = cs' | none => v = .nilIface ∧ cs = cs') →
                step P (lone (mkF B tm df (.inRegion cops (i :: rest) :: k)) cs w) = .next (lone (mkF B (putT tm o.dst v) df (.inRegion cops rest :: k)) cs' w) := by
              intro v cs cs' hm
              rw [← finish_mkF hi]
              refine step_lone_go ?_
              rw [s_op hi hw (.inl hround)]
              have hro : (mkF B tm df (.inRegion cops (i :: rest) :: k)).roundOf = none := hround
              simp only [stepG.apply, Sem.runT_eq, hrun, if_true, GStep.bare_after, hro]
              cases ht : tryRecover (mkF B tm df (.inRegion cops (i :: rest) :: k)) cs with
              | none => rw [ht] at hm; obtain ⟨rfl, rfl⟩ := hm; rfl
              | some q => obtain ⟨x, q⟩ := q; rw [ht] at hm; obtain ⟨rfl, rfl⟩ := hm; rfl
            obtain ⟨hr1, hr2, hr3⟩ := hrc
            split at h
            · rename_i v hv
              cases hrd : f.recd with
              | true => rw [hv, hrd] at hr3; exact hr3.elim
              | false =>
                rw [hv, hrd] at hr3
                obtain ⟨hk, c, r, pv, rfl, hcm, hrv⟩ := hr3
                obtain ⟨rfl, h7, rfl, h6⟩ := putEnv he hN hd hrv h
                subst h7
                refine ⟨g, w, putT tm io.dst pv, df, hs, .refl _ _ _, h6, by rw [putT_size]; exact hN, hdf, ⟨hr1, hr2, hk, c, r, pv, rfl, hcm⟩, rfl, rfl, ?_⟩
                simp only [Came]
                rw [← hdst]
                refine .one (hstep ?_)
                have hk' : (mkF B tm df (.inRegion cops (i :: rest) :: k)).kind = .deferred := hk
                simp only [csAt, tryRecover, hk', hcm]
                exact ⟨trivial, trivial⟩
            · rename_i hv
              obtain ⟨rfl, rfl, rfl, h6⟩ := putEnv (cv := .nilIface) (v := .nilif) he hN hd (by simp [Rep]) h
              refine ⟨g, w, putT tm io.dst .nilIface, df, hs, .refl _ _ _, h6, by rw [putT_size]; exact hN, hdf, ⟨hr1, hr2, hr3⟩, rfl, rfl, ?_⟩
              simp only [Came]
              rw [← hdst]
              refine .one (hstep ?_)
              have hnone : tryRecover (mkF B tm df (.inRegion cops (i :: rest) :: k)) (csAt f'.recd cs0) = none := by
                cases hrd : f'.recd with
                | false =>
                  rw [hv, hrd] at hr3
                  rcases hr3 with h8 | h8 | ⟨h8, c, r, rfl, h9⟩
                  · rw [hcond.1] at h8; cases h8
                  · have h8' : (mkF B tm df (.inRegion cops (i :: rest) :: k)).kind = .normal := h8
                    simp [tryRecover, h8']
                  · have h8' : (mkF B tm df (.inRegion cops (i :: rest) :: k)).kind = .deferred := h8
                    simp [tryRecover, h8', csAt, h9]
                | true =>
                  rw [hv, hrd] at hr3
                  obtain ⟨h8, c, r, pv, rfl, h9⟩ := hr3
                  have h8' : (mkF B tm df (.inRegion cops (i :: rest) :: k)).kind = .deferred := h8
                  simp [tryRecover, h8', csAt, h9]
              rw [hnone]
              exact ⟨rfl, rfl⟩
          | value cf => rw [hoo] at hop; simp [opOk] at hop
          | invoke r m => rw [hoo] at hop; simp [opOk] at hop
        | _ => rw [hoo] at hop; simp [opOk] at hop
    · -- the others
      rename_i hn1 hn2 hn3 hn4
      split at h
      · rename_i v s2 hv
        have hok : opOk P L o.op io.op = true := by
          split at hop
          · exact absurd ‹_› (hn1 _ _)
          · exact absurd ‹_› hn4
          · exact absurd ‹_› (hn2 _ _)
          · exact absurd ‹_› (hn3 _)
          · exact hop
        refine plain v s2 hv hok (fun c hc => ?_) h
        rw [hc] at hok
        simp [opOk] at hok
      · cases h
end
end Ab

/- Environments; the operations of a region in a given order. Its condition: calls do what the abstract run says. -/
namespace Ab
open Go

theorem Env.get_put (e : Env) (i j : Nat) (v : AV) : (e.put i v).get j = if j = i then v else e.get j := by
  induction e with
  | nil => simp [Env.put, Env.get]
  | cons p r ih =>
    obtain ⟨k, u⟩ := p
    simp only [Env.put]
    by_cases h1 : i = k
    · subst h1
      rw [if_pos rfl]
      simp only [Env.get]
      by_cases h2 : j = i
      · rw [if_pos h2, if_pos h2]
      · rw [if_neg h2, if_neg h2, if_neg h2]
    · rw [if_neg h1]
      by_cases h3 : i < k
      · rw [if_pos h3]; simp only [Env.get]
      · rw [if_neg h3]
        simp only [Env.get, ih]
        by_cases h2 : j = k
        · rw [if_pos h2, if_pos h2, if_neg (by omega)]
        · rw [if_neg h2, if_neg h2]

theorem Env.get_kill (e : Env) (ks : List Nat) (j : Nat) : (e.kill ks).get j = if ks.contains j then .junk else e.get j := by
  induction e with
  | nil => simp [Env.kill, Env.get]
  | cons p r ih =>
    obtain ⟨k, u⟩ := p
    simp only [Env.kill]
    by_cases h1 : ks.contains k = true
    · rw [if_pos h1, ih]
      by_cases h2 : j = k
      · subst h2; rw [if_pos h1, if_pos h1]
      · simp only [Env.get, if_neg h2]
    · rw [if_neg h1]
      simp only [Env.get, ih]
      by_cases h2 : j = k
      · subst h2; rw [if_pos rfl, if_pos rfl, if_neg h1]
      · rw [if_neg h2, if_neg h2]

theorem keepA_get (loc : Env) (j : Nat) : ∀ (ks : List Nat) (e : Env), (keepA loc ks e).get j = if ks.contains j then loc.get j else e.get j
  | [], e => by simp [keepA]
  | k :: r, e => by
    simp only [keepA, keepA_get loc j r, Env.get_put]
    by_cases h1 : r.contains j = true
    · have : (k :: r).contains j = true := by simp at h1 ⊢; exact .inr h1
      rw [if_pos h1, if_pos this]
    · rw [if_neg h1]
      by_cases h2 : j = k
      · subst h2
        have : (j :: r).contains j = true := by simp
        rw [if_pos rfl, if_pos this]
      · have : ¬ (k :: r).contains j = true := by simp at h1 ⊢; exact ⟨h2, h1⟩
        rw [if_neg h2, if_neg this]

theorem EnvD.put {vars : List Nat} {e : Env} (h : EnvD vars e) {i : Nat} (hi : vars.contains i = true) (v : AV) : EnvD vars (e.put i v) := by
  induction e with
  | nil => intro p hp; simp [Env.put] at hp; subst hp; exact hi
  | cons q r ih =>
    obtain ⟨k, u⟩ := q
    have hr : EnvD vars r := fun p hp => h p (List.mem_cons_of_mem _ hp)
    simp only [Env.put]
    split
    · intro p hp
      rcases List.mem_cons.1 hp with rfl | hp
      · exact hi
      · exact hr p hp
    · split
      · intro p hp
        rcases List.mem_cons.1 hp with rfl | hp
        · exact hi
        · exact h p hp
      · intro p hp
        rcases List.mem_cons.1 hp with rfl | hp
        · exact h _ (List.mem_cons_self ..)
        · exact ih hr p hp

theorem EnvD.kill {vars : List Nat} {e : Env} (h : EnvD vars e) (ks : List Nat) : EnvD vars (e.kill ks) := by
  induction e with
  | nil => simpa [Env.kill] using h
  | cons q r ih =>
    obtain ⟨k, u⟩ := q
    have hr : EnvD vars r := fun p hp => h p (List.mem_cons_of_mem _ hp)
    simp only [Env.kill]
    split
    · exact ih hr
    · intro p hp
      rcases List.mem_cons.1 hp with rfl | hp
      · exact h _ (List.mem_cons_self ..)
      · exact ih hr p hp

theorem EnvD.keep {vars : List Nat} {loc : Env} : ∀ {ks : List Nat} {e : Env}, EnvD vars e → ks.all (vars.contains ·) = true → EnvD vars (keepA loc ks e)
  | [], _, h, _ => h
  | k :: r, e, h, hk => by
    simp only [List.all_cons, Bool.and_eq_true] at hk
    show EnvD vars (keepA loc r (e.put k (loc.get k)))
    exact EnvD.keep (h.put hk.1 _) hk.2

theorem EnvD.get_junk {vars : List Nat} {e : Env} (h : EnvD vars e) {i : Nat} (hi : vars.contains i = false) : e.get i = .junk := by
  induction e with
  | nil => rfl
  | cons q r ih =>
    obtain ⟨k, u⟩ := q
    simp only [Env.get]
    have hk := h (k, u) (List.mem_cons_self ..)
    rw [if_neg (by rintro rfl; rw [hi] at hk; cases hk)]
    exact ih fun p hp => h p (List.mem_cons_of_mem _ hp)

theorem EnvR.kill {L : Lk} {g : Gh} {w : World} {e : Env} {tm : Array Value} (h : EnvR L g w e tm) (ks : List Nat) : EnvR L g w (e.kill ks) tm := by
  intro i
  rw [Env.get_kill]
  split
  · simp [Rep]
  · exact h i

/- slots that no operation sets -/
theorem finO_get {o : IOper} {v : AV} {f : Fr} {e : Env} {s : St} {p : Option AV} {f' : Fr} {e' : Env} {s' : St} (h : finO o v f e s = some (p, f', e', s')) {i : Nat} (hi : o.dst ≠ some i) : e'.get i = e.get i := by
  unfold finO at h
  split at h
  · rename_i d hd
    simp only [Option.some.injEq, Prod.mk.injEq] at h
    obtain ⟨_, _, rfl, _⟩ := h
    simp only [Env.get]
    rw [if_neg]
    rintro rfl; exact hi hd
  · simp only [Option.some.injEq, Prod.mk.injEq] at h
    obtain ⟨_, _, rfl, _⟩ := h
    rfl

theorem stepA_get {E : IEnv} {call : Caller} {draw : Bool} {o : IOper} {f : Fr} {e : Env} {s : St} {p : Option AV} {f' : Fr} {e' : Env} {s' : St} (h : stepA E call draw o f e s = some (p, f', e', s')) {i : Nat} (hi : o.dst ≠ some i) : e'.get i = e.get i := by
  unfold stepA at h
  split at h
  · cases h
  · exact finO_get h hi
  · unfold runO at h
    split at h
    · split at h
      · cases h
      · split at h
        · split at h
          · exact finO_get h hi
          · cases h
        · split at h
          · cases h
          · simp only [Option.some.injEq, Prod.mk.injEq] at h
            obtain ⟨_, _, rfl, _⟩ := h; rfl
        · cases h
    · split at h
      · cases h
      · split at h
        · exact finO_get h hi
        · cases h
    · split at h
      · cases h
      · split at h
        · simp only [Option.some.injEq, Prod.mk.injEq] at h
          obtain ⟨_, _, rfl, _⟩ := h; rfl
        · cases h
    · split at h
      · cases h
      · split at h
        · exact finO_get h hi
        · exact finO_get h hi
    · split at h
      · exact finO_get h hi
      · cases h

theorem opsA_get {E : IEnv} {call : Caller} {draw : Bool} : ∀ {os : List IOper} {f : Fr} {e : Env} {s : St} {p : Option AV} {f' : Fr} {e' : Env} {s' : St} (_ : opsA E call draw os f e s = some (p, f', e', s')) {i : Nat} (_ : ∀ o ∈ os, o.dst ≠ some i), e'.get i = e.get i
  | [], f, e, s, p, f', e', s', h, i, hi => by
    simp only [opsA, Option.some.injEq, Prod.mk.injEq] at h
    obtain ⟨_, _, rfl, _⟩ := h; rfl
  | o :: r, f, e, s, p, f', e', s', h, i, hi => by
    simp only [opsA] at h
    split at h
    · rename_i f1 e1 s1 h1
      exact (opsA_get h fun o ho => hi o (List.mem_cons_of_mem _ ho)).trans (stepA_get h1 (hi o (List.mem_cons_self ..)))
    · exact stepA_get h (hi o (List.mem_cons_self ..))

def Paired (P : Program) (L : Link) (N : Nat) (cops : Array Oper) : List Nat → List IOper → Prop
  | [], [] => True
  | i :: is, io :: os => (∃ o, cops[i]? = some o ∧ ckOper P L N cops o io = true) ∧ Paired P L N cops is os
  | _, _ => False

section
variable {P : Program} {L : Link} {E : IEnv} {call : Caller}

theorem Came.head {M M' : Machine} {B : Frame} {tm : Array Value} {df : List Deferred} {todo : List Item} {cs : List Frame} {g : Gh} {w : World} {p : Option AV} (h : Steps P M M') (h' : Came P L M' B tm df todo cs g w p) : Came P L M B tm df todo cs g w p := by
  cases p with
  | none => exact h.trans h'
  | some v => obtain ⟨cv, td, h1, h0, h2⟩ := h'; exact ⟨cv, td, h1, h0, h.trans h2⟩

theorem ops_sound (hinj : ∀ a b, L.tyOf a = L.tyOf b → a = b) (hcall : CallSim P L E call) {draw : Bool} {cops : Array Oper} {N : Nat} {lo : Nat} : ∀ {is : List Nat} {os : List IOper} (_ : Paired P L N cops is os) {f f' : Fr} {e e' : Env} {s s' : St} {p : Option AV}
    (_ : opsA E call draw os f e s = some (p, f', e', s')) {g : Gh} {w : World} (_ : StR L.toLk (CkR P L) g s w) (_ : GlR L E g w) {tm : Array Value} {df : List Deferred} (_ : EnvR L.toLk g w e tm) (_ : N ≤ tm.size) (_ : DRel L.toLk g w lo f.defers df)
    {B : Frame} {cs0 : List Frame} (_ : RcvR L.toLk g w f B cs0) (k : List Item),
    ∃ g' w' tm' df', StR L.toLk (CkR P L) g' s' w' ∧ Ext g s w g' s' w' ∧ EnvR L.toLk g' w' e' tm' ∧ N ≤ tm'.size ∧ DRel L.toLk g' w' lo f'.defers df' ∧ RcvR L.toLk g' w' f' B cs0 ∧ f'.rnd = f.rnd ∧ f'.env = f.env ∧
      Came P L (lone (mkF B tm df (.inRegion cops is :: k)) (csAt f.recd cs0) w) B tm' df' k (csAt f'.recd cs0) g' w' p
  | [], [], _, f, f', e, e', s, s', p, h, g, w, hs, hgl, tm, df, he, hN, hdf, B, cs0, hrc, k => by
    simp only [opsA, Option.some.injEq, Prod.mk.injEq] at h
    obtain ⟨rfl, rfl, rfl, rfl⟩ := h
    exact ⟨g, w, tm, df, hs, .refl _ _ _, he, hN, hdf, hrc, rfl, rfl, .one s_region_end⟩
  | [], _ :: _, hp, _, _, _, _, _, _, _, _, _, _, _, _, _, _, _, _, _, _, _, _, _ => hp.elim
  | _ :: _, [], hp, _, _, _, _, _, _, _, _, _, _, _, _, _, _, _, _, _, _, _, _, _ => hp.elim
  | i :: is, io :: os, hp, f, f', e, e', s, s', p, h, g, w, hs, hgl, tm, df, he, hN, hdf, B, cs0, hrc, k => by
    obtain ⟨⟨o, hi, hck⟩, hp'⟩ := hp
    simp only [opsA] at h
    split at h
    · rename_i f1 e1 s1 h1
      obtain ⟨g1, w1, tm1, df1, a1, a2, a3, a4, a5, a6, a7, a8, a9⟩ := step_sound hinj hcall hck h1 hs hgl he hN hdf hrc hi is k
      obtain ⟨g2, w2, tm2, df2, b1, b2, b3, b4, b5, b6, b7, b8, b9⟩ := ops_sound hinj hcall hp' h a1 (hgl.ext a2) a3 a4 a5 a6 k
      exact ⟨g2, w2, tm2, df2, b1, a2.trans b2, b3, b4, b5, b6, b7.trans a7, b8.trans a8, Came.head a9 b9⟩
    · rename_i hne
      cases p with
      | none => exact absurd h (hne _ _ _)
      | some v =>
        obtain ⟨g1, w1, tm1, df1, a1, a2, a3, a4, a5, a6, a7, a8, a9⟩ := step_sound hinj hcall hck h hs hgl he hN hdf hrc hi is k
        refine ⟨g1, w1, tm1, df1, a1, a2, a3, a4, a5, a6, a7, a8, ?_⟩
        obtain ⟨cv, td, h1, h0, h2⟩ := a9
        exact ⟨cv, td, h1, h0, h2⟩

theorem paired_of_ck {N : Nat} {cops : Array Oper} : ∀ {os : List Oper} {ios : List IOper} (n : Nat), ckOpers P L N cops os ios = true → os = cops.toList.drop n → Paired P L N cops (List.range' n os.length) ios
  | [], [], _, _, _ => trivial
  | [], _ :: _, _, h, _ => by simp [ckOpers] at h
  | _ :: _, [], _, h, _ => by simp [ckOpers] at h
  | o :: os, io :: ios, n, h, hd => by
    simp only [ckOpers, Bool.and_eq_true] at h
    simp only [List.length_cons, List.range'_succ, Paired]
    refine ⟨⟨o, ?_, h.1⟩, paired_of_ck (n + 1) h.2 ?_⟩
    · have : (cops.toList.drop n)[0]? = some o := by rw [← hd]; rfl
      rw [List.getElem?_drop] at this
      simpa using this
    · have : (cops.toList.drop n).drop 1 = os := by rw [← hd]; rfl
      rw [List.drop_drop] at this
      exact this.symm
end
end Ab

/- Regions whose order is drawn: each order that the machine may take comes to what the text's order comes to. Its condition: calm calls leave the blocks as they are. -/
namespace Ab
open Go

def EnvEq (e e' : Env) : Prop := ∀ i, e.get i = e'.get i
def bindE (d : Option Nat) (v : AV) (e : Env) : Env := match d with | some d => (d, v) :: e | none => e

section
variable {E : IEnv} {e e' : Env}

theorem Opd.ev_congr : ∀ {x : Opd}, (∀ i ∈ x.slots, e.get i = e'.get i) → x.ev E e = x.ev E e'
  | .t n, h => h n (by simp [Opd.slots])
  | .c _, _ => rfl
  | .g _, _ => rfl

theorem Opd.ev_all (h : EnvEq e e') : Opd.ev E e = Opd.ev E e' := by funext x; exact Opd.ev_congr fun i _ => h i

theorem evs_congr : ∀ {xs : List Opd}, (∀ i ∈ odsSlots xs, e.get i = e'.get i) → xs.map (Opd.ev E e) = xs.map (Opd.ev E e')
  | [], _ => rfl
  | x :: r, h => by
    simp only [List.map_cons]
    rw [Opd.ev_congr (x := x) fun i hi => h i (by simp [odsSlots, hi]), evs_congr (xs := r) fun i hi => h i (by simp [odsSlots, hi])]

theorem opt_congr {x : Option Opd} (h : ∀ i ∈ optSlots x, e.get i = e'.get i) : x.map (Opd.ev E e) = x.map (Opd.ev E e') := by
  cases x with
  | none => rfl
  | some x => simp only [Option.map_some]; rw [Opd.ev_congr h]

theorem build_congr : ∀ {ps : List (Nat × Nat × Opd)}, (∀ i ∈ odsSlots (ps.map fun p => p.2.2), e.get i = e'.get i) →
    ps.map (fun (o, n, x) => (o, n, Opd.ev E e x)) = ps.map (fun (o, n, x) => (o, n, Opd.ev E e' x))
  | [], _ => rfl
  | (o, n, x) :: r, h => by
    simp only [List.map_cons]
    rw [Opd.ev_congr (x := x) fun i hi => h i (by simp [odsSlots, hi]), build_congr (ps := r) fun i hi => h i (by simp only [List.map_cons, odsSlots]; exact List.mem_append_right _ hi)]

theorem bslice_congr : ∀ {ps : List (Nat × Opd)}, (∀ i ∈ odsSlots (ps.map fun p => p.2), e.get i = e'.get i) →
    ps.map (fun (i, x) => (i, (Opd.ev E e x).untok)) = ps.map (fun (i, x) => (i, (Opd.ev E e' x).untok))
  | [], _ => rfl
  | (n, x) :: r, h => by
    simp only [List.map_cons]
    rw [Opd.ev_congr (x := x) fun i hi => h i (by simp [odsSlots, hi]), bslice_congr (ps := r) fun i hi => h i (by simp only [List.map_cons, odsSlots]; exact List.mem_append_right _ hi)]

theorem opA_congr (io : IOp) (h : ∀ i ∈ io.slots, e.get i = e'.get i) (s : St) : opA (Opd.ev E e) s io = opA (Opd.ev E e') s io := by
  have key : ∀ x : Opd, (∀ i, i ∈ x.slots → i ∈ io.slots) → Opd.ev E e x = Opd.ev E e' x := fun x hx => Opd.ev_congr fun i hi => h i (hx i hi)
  have keyL : ∀ xs : List Opd, (∀ i, i ∈ odsSlots xs → i ∈ io.slots) → xs.map (Opd.ev E e) = xs.map (Opd.ev E e') := fun x hx => evs_congr fun i hi => h i (hx i hi)
  have keyO : ∀ x : Option Opd, (∀ i, i ∈ optSlots x → i ∈ io.slots) → x.map (Opd.ev E e) = x.map (Opd.ev E e') := fun x hx => opt_congr fun i hi => h i (hx i hi)
  cases io with
  | mov x | box _ x | load _ _ x | nilchk x | un _ x | conv _ x | mkif _ x | faddr _ x | field _ _ _ x | ranges x | nexts x | tassert _ _ _ x | ext x _ | len _ x | cap x =>
    simp only [opA, key x (fun i hi => hi)]
  | pick a b c => simp only [opA, key a (fun i hi => by simp [IOp.slots, hi]), key b (fun i hi => by simp [IOp.slots, hi]), key c (fun i hi => by simp [IOp.slots, hi])]
  | store _ a b | bin _ _ a b | iaddr _ a b | aaddr _ _ a b | index a b | aindex _ _ _ a b | lookup _ _ a b _ | app _ a b | appz _ a b | del _ a b =>
    simp only [opA, key a (fun i hi => by simp [IOp.slots, hi]), key b (fun i hi => by simp [IOp.slots, hi])]
  | mapset _ a b c => simp only [opA, key a (fun i hi => by simp [IOp.slots, hi]), key b (fun i hi => by simp [IOp.slots, hi]), key c (fun i hi => by simp [IOp.slots, hi])]
  | build z ps => simp only [opA]; rw [build_congr h]
  | bslice sz z len ps => simp only [opA]; rw [bslice_congr h]
  | mkfn f a b => simp only [opA]; rw [keyL a (fun i hi => by simp [IOp.slots, hi]), keyL b (fun i hi => by simp [IOp.slots, hi])]
  | slice sz a b c d => simp only [opA]; rw [key a (fun i hi => by simp [IOp.slots, hi]), keyO b (fun i hi => by simp [IOp.slots, hi]), keyO c (fun i hi => by simp [IOp.slots, hi]), keyO d (fun i hi => by simp [IOp.slots, hi])]
  | mm m xs => simp only [opA]; rw [keyL xs (fun i hi => hi)]
  | alloc _ | mkmap | recover | panic _ | mkslice _ _ _ _ _ | call _ _ | defer _ _ => rfl

theorem opA_quiet {ev : Opd → AV} {io : IOp} (hq : io.quiet = true) (s s0 : St) : opA ev s io = valStep ((opA ev s0 io).map (·.1)) s := by
  cases io <;> simp only [IOp.quiet] at hq <;> (try cases hq) <;> simp only [opA] <;> (try rfl) <;> repeat' split
  all_goals first
    | rfl
    | (simp_all [valStep]; done)
    | (simp only [valStep]; repeat' split) <;> simp_all
end

section
variable {E : IEnv} {call : Caller}

def outA (E : IEnv) (call : Caller) (o : IOper) (e : Env) (s : St) : Option (AV × St) :=
  match goA E o e with
  | none => none
  | some false => some (.tup [], s)
  | some true => match o.op with
    | .call g args => if o.mp && !calm E (g.ev E e) then none else
      match call none (g.ev E e) (args.map (Opd.ev E e)) s with
      | some (.ret v, _, s') => if chkOk (Opd.ev E e) s s' o.chk then some (v, s') else none
      | _ => none
    | .defer _ _ | .panic _ | .recover => none
    | op => opA (Opd.ev E e) s op

theorem finO_eq (o : IOper) (v : AV) (f : Fr) (e : Env) (s : St) : finO o v f e s = some (none, f, bindE o.dst v e, s) := by
  unfold finO bindE
  split <;> rename_i h <;> simp [h]

theorem stepA_draw (o : IOper) (f : Fr) (e : Env) (s : St) :
    stepA E call true o f e s = (match outA E call o e s with | some (v, s') => some (none, f, bindE o.dst v e, s') | none => none) := by
  unfold stepA outA
  cases goA E o e with
  | none => rfl
  | some b =>
    cases b with
    | false => simp only [finO_eq]
    | true =>
      simp only [runO]
      cases o.op with
      | call g args =>
        simp only
        split
        · rfl
        · cases call none (g.ev E e) (args.map (Opd.ev E e)) s with
          | none => rfl
          | some q =>
            obtain ⟨r, b, s'⟩ := q
            cases r with
            | ret v => simp only; split <;> simp only [finO_eq]
            | pan v => rfl
      | defer g args => simp
      | panic x => simp
      | recover => simp
      | _ =>
        simp only [finO_eq]
        generalize opA _ _ _ = q
        cases q <;> rfl

def outsA (E : IEnv) (call : Caller) : List IOper → Env → St → Option (Env × St)
  | [], e, s => some (e, s)
  | o :: r, e, s => match outA E call o e s with
    | some (v, s') => outsA E call r (bindE o.dst v e) s'
    | none => none

theorem opsA_draw : ∀ (os : List IOper) (f : Fr) (e : Env) (s : St),
    opsA E call true os f e s = (match outsA E call os e s with | some (e', s') => some (none, f, e', s') | none => none)
  | [], _, _, _ => rfl
  | o :: r, f, e, s => by
    simp only [opsA, outsA, stepA_draw]
    cases outA E call o e s with
    | none => rfl
    | some q => obtain ⟨v, s'⟩ := q; simp only [opsA_draw r]

theorem outA_congr {o : IOper} {e e' : Env} (h : ∀ i ∈ o.reads, e.get i = e'.get i) (s : St) : outA E call o e s = outA E call o e' s := by
  have hg : guardA o.guard e = guardA o.guard e' := by
    unfold guardA
    cases hg : o.guard with
    | none => rfl
    | some p => obtain ⟨i, b⟩ := p; simp only; rw [h i (by simp [IOper.reads, hg])]
  have hop : ∀ i ∈ o.op.slots, e.get i = e'.get i := fun i hi => h i (by simp [IOper.reads, hi])
  have hch : ∀ (cs : List IChk) (s s' : St), (∀ i ∈ (cs.flatMap fun c => c.a.slots), e.get i = e'.get i) → chkOk (Opd.ev E e) s s' cs = chkOk (Opd.ev E e') s s' cs := by
    intro cs s s'
    induction cs with
    | nil => intro _; rfl
    | cons c r ih =>
      intro hc
      simp only [chkOk, IChk.addr]
      rw [Opd.ev_congr (x := c.a) fun i hi => hc i (by simp [hi]), ih fun i hi => hc i (by rw [List.flatMap_cons]; exact List.mem_append_right _ hi)]
  have hch' := fun s s' => hch o.chk s s' fun i hi => h i (by simp only [IOper.reads]; exact List.mem_append_right _ hi)
  have hpin : pinOk (Opd.ev E e) o = pinOk (Opd.ev E e') o := by
    unfold pinOk
    cases ho : o.op with
    | load agg n a =>
      rw [ho] at hop
      simp only
      rw [Opd.ev_congr (x := a) fun i hi => hop i hi]
      have : ∀ cs : List IChk, (∀ i ∈ (cs.flatMap fun c => c.a.slots), e.get i = e'.get i) → (cs.all fun c => c.agg == agg && c.n == n && c.addr (Opd.ev E e) == Opd.ev E e' a) = (cs.all fun c => c.agg == agg && c.n == n && c.addr (Opd.ev E e') == Opd.ev E e' a) := by
        intro cs
        induction cs with
        | nil => intro _; rfl
        | cons c r ih =>
          intro hc
          simp only [List.all_cons, IChk.addr]
          simp only [IChk.addr] at ih
          rw [Opd.ev_congr (x := c.a) fun i hi => hc i (by simp [hi]), ih fun i hi => hc i (by rw [List.flatMap_cons]; exact List.mem_append_right _ hi)]
      exact this o.chk fun i hi => h i (by simp only [IOper.reads]; exact List.mem_append_right _ hi)
    | _ => rfl
  have hgo : goA E o e = goA E o e' := by unfold goA; rw [hg, hpin]
  unfold outA
  rw [hgo]
  cases goA E o e' with
  | none => rfl
  | some b =>
    cases b with
    | false => rfl
    | true =>
      simp only
      cases ho : o.op with
      | call g args =>
        rw [ho] at hop
        simp only [IOp.slots, List.mem_append] at hop
        simp only
        rw [Opd.ev_congr (x := g) fun i hi => hop i (.inl hi), evs_congr (xs := args) fun i hi => hop i (.inr hi)]
        simp only [hch']
      | defer _ _ | panic _ | recover => rfl
      | _ => simp only; rw [ho] at hop; exact opA_congr _ hop s

theorem outA_env {o : IOper} {e e' : Env} (h : EnvEq e e') (s : St) : outA E call o e s = outA E call o e' s := outA_congr (fun i _ => h i) s

theorem EnvEq.bind {e e' : Env} (h : EnvEq e e') (d : Option Nat) (v : AV) : EnvEq (bindE d v e) (bindE d v e') := by
  intro i
  cases d with
  | none => exact h i
  | some d => simp only [bindE, Env.get, h i]

theorem outsA_env : ∀ {os : List IOper} {e e' : Env} {s : St} {e1 : Env} {s1 : St}, EnvEq e e' → outsA E call os e s = some (e1, s1) → ∃ e1', outsA E call os e' s = some (e1', s1) ∧ EnvEq e1 e1'
  | [], e, e', s, e1, s1, h, ho => by
    simp only [outsA, Option.some.injEq, Prod.mk.injEq] at ho ⊢
    obtain ⟨rfl, rfl⟩ := ho
    exact ⟨e', ⟨rfl, rfl⟩, h⟩
  | o :: r, e, e', s, e1, s1, h, ho => by
    simp only [outsA] at ho ⊢
    rw [outA_env h] at ho
    cases hq : outA E call o e' s with
    | none => rw [hq] at ho; cases ho
    | some q =>
      obtain ⟨v, s'⟩ := q
      rw [hq] at ho
      exact outsA_env (h.bind o.dst v) ho

/- calm calls leave the state as it is -/
def CalmOk (E : IEnv) (call : Caller) : Prop := ∀ tgt args s v rd s', calm E tgt = true → call none tgt args s = some (.ret v, rd, s') → s' = s

theorem outA_quiet {o : IOper} (hq : o.op.quiet = true) {e : Env} {s s1 : St} {v : AV} (h : outA E call o e s = some (v, s1)) : s1 = s ∧ ∀ s', outA E call o e s' = some (v, s') := by
  unfold outA at h ⊢
  split at h
  · cases h
  · cases h; exact ⟨rfl, fun _ => rfl⟩
  · cases ho : o.op <;> rw [ho] at hq <;> have hq2 := hq <;> (try cases hq2) <;> simp only [ho] at h ⊢ <;>
      first
      | (rw [opA_quiet hq s s] at h
         simp only [valStep] at h
         split at h
         · rename_i u hu
           cases h
           refine ⟨rfl, fun s' => ?_⟩
           rw [opA_quiet hq s' s, hu]; rfl
         · cases h)

theorem goA_pin {o : IOper} {e : Env} (h : goA E o e = some true) : pinOk (Opd.ev E e) o = true := by
  unfold goA at h
  split at h
  · split at h
    · assumption
    · cases h
  · rename_i hx; exact absurd h hx

theorem outA_load {o : IOper} (hq : o.op.isLoad = true) {e : Env} {s s1 : St} {v : AV} (h : outA E call o e s = some (v, s1)) :
    s1 = s ∧ ∀ s', (∀ agg n a, o.op = .load agg n a → pinOk (Opd.ev E e) o = true → loadA s' agg n (a.ev E e) = loadA s agg n (a.ev E e)) → outA E call o e s' = some (v, s') := by
  unfold outA at h ⊢
  split at h
  · cases h
  · cases h; exact ⟨rfl, fun _ _ => rfl⟩
  · rename_i hgo
    have hpin := goA_pin hgo
    cases ho : o.op with
    | load agg n a =>
      simp only [ho, opA] at h ⊢
      simp only [valStep] at h ⊢
      split at h
      · rename_i u hu
        cases h
        refine ⟨rfl, fun s' hl => ?_⟩
        rw [hl agg n a rfl hpin, hu]
      · cases h
    | _ => rw [ho] at hq; cases hq

theorem chkOk_mem {ev : Opd → AV} {s s' : St} : ∀ {cs : List IChk} {c : IChk}, chkOk ev s s' cs = true → c ∈ cs → loadA s c.agg c.n (c.addr ev) = loadA s' c.agg c.n (c.addr ev)
  | [], _, _, h => by cases h
  | d :: r, c, h, hm => by
    simp only [chkOk, Bool.and_eq_true, beq_iff_eq] at h
    rcases List.mem_cons.1 hm with rfl | hm
    · exact h.1
    · exact chkOk_mem h.2 hm

theorem outA_call {o l : IOper} (hp : passes o l = true) (hcl : o.op.isCall = true) {e : Env} {s s1 : St} {v : AV} (h : outA E call o e s = some (v, s1)) :
    ∀ agg n a, l.op = .load agg n a → pinOk (Opd.ev E e) l = true → loadA s1 agg n (a.ev E e) = loadA s agg n (a.ev E e) := by
  intro agg n a hl hpin
  unfold outA at h
  split at h
  · cases h
  · cases h; rfl
  · cases ho : o.op with
    | call g args =>
      simp only [ho] at h
      split at h
      · cases h
      · split at h
        · rename_i v' rd s2 hcall
          split at h
          · rename_i hch
            cases h
            simp only [passes, hl, Bool.or_eq_true, List.any_eq_true, List.contains_iff_mem] at hp
            rcases hp with hp | ⟨x, hx, hp⟩
            · exact (chkOk_mem hch hp).symm
            · simp only [pinOk, hl, List.all_eq_true, Bool.and_eq_true, beq_iff_eq] at hpin
              obtain ⟨⟨h1, h2⟩, h3⟩ := hpin x hx
              have := (chkOk_mem hch hp).symm
              rw [h1, h2, h3] at this
              exact this
          · cases h
        · cases h
    | _ => rw [ho] at hcl; cases hcl

theorem outA_still (hc : CalmOk E call) {o : IOper} (hp : o.still = true) {e : Env} {s s1 : St} {v : AV} (h : outA E call o e s = some (v, s1)) : s1 = s := by
  unfold IOper.still at hp
  simp only [Bool.or_eq_true] at hp
  rcases hp with (hp | hp) | hp
  · exact (outA_quiet hp h).1
  · exact (outA_load hp h).1
  · unfold outA at h
    split at h
    · cases h
    · cases h; rfl
    · cases ho : o.op with
      | call g args =>
        rw [ho] at hp
        simp only [ho] at h
        split at h
        · cases h
        · rename_i hmp
          split at h
          · rename_i v' rd s2 hcall
            split at h
            · cases h
              simp only at hp
              rw [hp] at hmp
              simp only [Bool.true_and, Bool.not_eq_true', Bool.not_eq_false] at hmp
              exact hc _ _ _ _ _ _ hmp hcall
            · cases h
          · cases h
      | slice sz x lo hi mx =>
        simp only [ho, opA, valStep] at h
        split at h
        · cases h; rfl
        · cases h
      | lookup c z m k ok =>
        simp only [ho, opA] at h
        split at h
        · split at h
          · cases h
          · split at h
            · cases h
            · cases h; rfl
            · cases h; rfl
        · cases h
      | len c x =>
        simp only [ho, opA] at h
        split at h <;> first | (cases h; rfl) | skip
        · split at h
          · cases h; rfl
          · cases h
        · cases h
      | _ => rw [ho] at hp; cases hp

theorem apartO_spec {a b : IOper} (h : apartO a b = true) : (∀ d, a.dst = some d → d ∉ b.reads ∧ b.dst ≠ some d) ∧ (∀ d, b.dst = some d → d ∉ a.reads ∧ a.dst ≠ some d) := by
  unfold apartO at h
  simp only [Bool.and_eq_true] at h
  refine ⟨fun d hd => ?_, fun d hd => ?_⟩
  · have := h.1; rw [hd] at this; simp at this; exact this
  · have := h.2; rw [hd] at this; simp at this; exact this

theorem bindE_congr {o : IOper} {d : Option Nat} (h : ∀ x, d = some x → x ∉ o.reads) (v : AV) (e : Env) (s : St) : outA E call o (bindE d v e) s = outA E call o e s := by
  refine outA_congr (fun i hi => ?_) s
  cases d with
  | none => rfl
  | some d =>
    simp only [bindE, Env.get]
    rw [if_neg]
    rintro rfl
    exact h i rfl hi

theorem swap_state (hc : CalmOk E call) {a b : IOper} (hs : swapOk a b = true) {e : Env} {s s1 s2 : St} {va vb : AV} (ha : outA E call a e s = some (va, s1)) (hb : outA E call b e s1 = some (vb, s2)) :
    ∃ s1', outA E call b e s = some (vb, s1') ∧ outA E call a e s1' = some (va, s2) := by
  unfold swapOk at hs
  simp only [Bool.and_eq_true, Bool.or_eq_true] at hs
  rcases hs.2 with (((hq | hq) | hq) | hq) | hq
  · obtain ⟨rfl, h⟩ := outA_quiet hq ha
    exact ⟨s2, hb, h s2⟩
  · obtain ⟨rfl, h⟩ := outA_quiet hq hb
    exact ⟨s, h s, ha⟩
  · have h1 := outA_still hc hq.1 ha
    have h2 := outA_still hc hq.2 hb
    subst h1; subst h2
    exact ⟨_, hb, ha⟩
  · obtain ⟨rfl, h⟩ := outA_load hq.1.1 ha
    exact ⟨s2, hb, h s2 fun agg n x hx hp => outA_call hq.2 hq.1.2 hb agg n x hx hp⟩
  · obtain ⟨rfl, h⟩ := outA_load hq.1.2 hb
    exact ⟨s, h s fun agg n x hx hp => (outA_call hq.2 hq.1.1 ha agg n x hx hp).symm, ha⟩

theorem swap_two (hc : CalmOk E call) {a b : IOper} (hs : swapOk a b = true) {r : List IOper} {e : Env} {s : St} {e' : Env} {s' : St} (h : outsA E call (a :: b :: r) e s = some (e', s')) :
    ∃ e'', outsA E call (b :: a :: r) e s = some (e'', s') ∧ EnvEq e' e'' := by
  have hap := apartO_spec (a := a) (b := b) (by unfold swapOk at hs; simp only [Bool.and_eq_true] at hs; exact hs.1)
  simp only [outsA] at h ⊢
  cases ha : outA E call a e s with
  | none => rw [ha] at h; cases h
  | some q =>
    obtain ⟨va, s1⟩ := q
    rw [ha] at h
    simp only at h
    rw [bindE_congr (fun x hx => (hap.1 x hx).1)] at h
    cases hb : outA E call b e s1 with
    | none => rw [hb] at h; cases h
    | some q =>
      obtain ⟨vb, s2⟩ := q
      rw [hb] at h
      simp only at h
      obtain ⟨s1', h1, h2⟩ := swap_state hc hs ha hb
      rw [h1]
      simp only
      rw [bindE_congr (fun x hx => (hap.2 x hx).1), h2]
      refine outsA_env (fun i => ?_) h
      cases had : a.dst with
      | none => rfl
      | some d =>
        cases hbd : b.dst with
        | none => rfl
        | some d' =>
          have hne : d' ≠ d := by
            have := (hap.1 d had).2
            rw [hbd] at this
            simpa using this
          simp only [bindE, Env.get]
          by_cases h1 : i = d
          · subst h1; rw [if_pos rfl, if_pos rfl, if_neg (Ne.symm hne)]
          · rw [if_neg h1, if_neg h1]

theorem outsA_append {l r : List IOper} : ∀ {e : Env} {s : St}, outsA E call (l ++ r) e s = (match outsA E call l e s with | some (e', s') => outsA E call r e' s' | none => none) := by
  induction l with
  | nil => intro e s; rfl
  | cons o l ih =>
    intro e s
    simp only [List.cons_append, outsA]
    cases outA E call o e s with
    | none => rfl
    | some q => exact ih

theorem front (hc : CalmOk E call) {b : IOper} {r : List IOper} : ∀ {l : List IOper} (_ : ∀ a ∈ l, swapOk a b = true) {e : Env} {s : St} {e' : Env} {s' : St} (_ : outsA E call (l ++ b :: r) e s = some (e', s')),
    ∃ e'', outsA E call (b :: (l ++ r)) e s = some (e'', s') ∧ EnvEq e' e''
  | [], _, _, _, e', _, h => ⟨e', h, fun _ => rfl⟩
  | a :: l, hl, e, s, e', s', h => by
    simp only [List.cons_append, outsA] at h
    cases ha : outA E call a e s with
    | none => rw [ha] at h; cases h
    | some q =>
      obtain ⟨va, s1⟩ := q
      rw [ha] at h
      obtain ⟨e1, h1, q1⟩ := front hc (fun x hx => hl x (List.mem_cons_of_mem _ hx)) h
      have h2 : outsA E call (a :: b :: (l ++ r)) e s = some (e1, s') := by
        simp only [outsA, ha] at h1 ⊢
        exact h1
      obtain ⟨e2, h3, q2⟩ := swap_two hc (hl a (List.mem_cons_self ..)) h2
      exact ⟨e2, h3, fun i => (q1 i).trans (q2 i)⟩
end
end Ab
