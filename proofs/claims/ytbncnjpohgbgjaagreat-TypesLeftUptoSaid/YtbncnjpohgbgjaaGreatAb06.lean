/- Parts of the proof, made small by program. No condition but what is told. -/
import Derived.Test.YtbncnjpohgbgjaaGreatAb05
import Derived.Orders
import Derived.RangeFuncNested
set_option linter.all false
set_option maxHeartbeats 8000000
namespace Ab
open Go
inductive tK (L : Lk) (g : Gh) (w : World) (lo : Nat) : List (AV × List AV) -> List Deferred -> Prop
 | nil : tK L g w lo [] []
 | coll (d : Nat) (ds : List (AV × List AV)) (cs : List Deferred) (h : d ∈ g.dfr) (hlo : lo <= d) (hn : ∀ c ∈ cs, c.target ≠ .collected d) (r : tK L g w lo ds cs) : tK L g w lo ds ({ target := .collected d, args := #[] } :: cs)
 | call (tgt : AV) (args : List AV) (fv : Fn) (first cap : Array Value) (cargs : List Value) (ds : List (AV × List AV)) (cs : List Deferred) (h : ay L g w tgt (.func fv first cap)) (ha : aw L g w args cargs) (r : tK L g w lo ds cs) :
   tK L g w lo ((tgt, args) :: ds) ({ target := .fn fv cap, args := first ++ cargs.toArray } :: cs)
theorem tK.mono' {L : Lk} {g g' : Gh} {w w' : World} {lo : Nat} (hg : GE g w g' w') {ds : List (AV × List AV)} {cs : List Deferred} (h : tK L g w lo ds cs) : (∀ c ∈ cs, ∀ d, c.target = .collected d -> d ∈ g.dfr -> d ∈ g'.dfr) -> tK L g' w' lo ds cs := by
 induction h with
 | nil => intro _; exact .nil
 | coll d ds cs h hlo hn _ ih => intro hd; exact .coll d ds cs (hd _ (List.mem_cons_self ..) d rfl h) hlo hn (ih fun c hc => hd c (List.mem_cons_of_mem _ hc))
 | call tgt args fv first cap cargs ds cs h ha _ ih => intro hd; exact .call tgt args fv first cap cargs ds cs (ay.mono hg _ _ h) (aw.mono hg _ _ ha) (ih fun c hc => hd c (List.mem_cons_of_mem _ hc))
theorem tK.mono {L : Lk} {g g' : Gh} {w w' : World} {lo : Nat} (hg : GE g w g' w') (hd : ∀ d, d ∈ g.dfr -> d ∈ g'.dfr) {ds : List (AV × List AV)} {cs : List Deferred} (h : tK L g w lo ds cs) : tK L g' w' lo ds cs :=
 h.mono' hg fun _ _ d _ => hd d
theorem tK.marks {L : Lk} {g : Gh} {w : World} {lo : Nat} {ds : List (AV × List AV)} {cs : List Deferred} (h : tK L g w lo ds cs) : ∀ c ∈ cs, ∀ d, c.target = .collected d -> d ∈ g.dfr := by
 induction h with
 | nil => intro c hc; cases hc
 | coll d ds cs h _ _ _ ih =>
  intro c hc d' hd
  rcases List.mem_cons.1 hc with rfl | hc
  ·cases hd; exact h
  ·exact ih c hc d' hd
 | call tgt args fv first cap cargs ds cs h ha _ ih =>
  intro c hc d' hd
  rcases List.mem_cons.1 hc with rfl | hc
  ·cases hd
  ·exact ih c hc d' hd
structure MF (L : Lk) (N : Nat) (vars : List Nat) (lo : Nat) (g : Gh) (w : World) (f : Fr) (tm : Array Value) (df : List Deferred) : Prop where
 env : pw L g w f.env tm
 dom : vM vars f.env
 size : N <= tm.size
 dfr : tK L g w lo f.defers df
 lo : lo <= w.heap.size
def FH : List Item -> Prop
 | .call _ _ _ _ :: _ => False
 | _ => True
def oh (recd : Bool) (cs : List Frame) : List Frame :=
 match recd, cs with
 | true, c :: r => { c with mode := (match c.mode with
  | .panicking ({ v, recovered := false, goexit := false } :: older) => .panicking ({ v, recovered := true } :: older)
  | m => m) } :: r
 | _, cs => cs
def ym (L : Lk) (g : Gh) (w : World) (f : Fr) (B : Frame) (cs0 : List Frame) : Prop :=
 f.rnd = B.roundOf.isSome /\ (∀ l, B.roundOf = some l -> l ∈ g.lps) /\
 match f.rcv, f.recd with
 | none, false => f.rnd = true \/ B.kind = .normal \/ (B.kind = .deferred /\ ∃ c r, cs0 = c :: r /\ c.mode = .returning)
 | some v, false => B.kind = .deferred /\ ∃ c r pv, cs0 = c :: r /\ c.mode = .panicking [{ v := pv, recovered := false }] /\ ay L g w v pv
 | none, true => B.kind = .deferred /\ ∃ c r pv, cs0 = c :: r /\ c.mode = .panicking [{ v := pv, recovered := false }]
 | some _, true => False
theorem ym.mono {L : Lk} {g g' : Gh} {w w' : World} (hg : GE g w g' w') {f : Fr} {B : Frame} {cs0 : List Frame} (h : ym L g w f B cs0) : ym L g' w' f B cs0 := by
 obtain ⟨h1, h2, h3⟩ := h
 refine ⟨h1, fun l hl => hg.lps l (h2 l hl), ?_⟩
 cases hr : f.rcv <;> cases hd : f.recd <;> simp only [hr, hd] at h3 ⊢
 ·exact h3
 ·exact h3
 ·obtain ⟨a, c, r, pv, h4, h5, h6⟩ := h3
  exact ⟨a, c, r, pv, h4, h5, ay.mono hg _ _ h6⟩
def FJ (P : Program) (nx : Next) (F : CallKind -> Frame) : Prop :=
 (∃ f a, nx = .enter f a /\ F = fun k => Frame.enter P f a k) \/ (∃ l f tm a b, nx = .round l f tm a b /\ F = fun k => Frame.round l f tm a b k)
theorem _root_.Go.RowKit.Below.le {m n : Nat} {w w' : World} (h : RowKit.Below n w w') (hm : m <= n) : RowKit.Below m w w' := ⟨h.1, h.2, h.3, h.4, fun k hk => h.5 k (Nat.lt_of_lt_of_le hk hm)⟩
structure Bv (L : eB) (E : ak) (g : Gh) (w : World) : Prop where
 glob : ∀ n, ay L.toLk g w (E.glob n) (.pointer (some ⟨L.glOf n, 0, none⟩))
 plain : ∀ n, E.glob n = .junk \/ (E.glob n).plain = true
 base : L.w0.heap.size <= g.base
 below : RowKit.Below L.w0.heap.size L.w0 w
theorem Bv.mono' {L : eB} {E : ak} {g g' : Gh} {w w' : World} (hg : GE g w g' w') (hb : g'.base = g.base) (hw : RowKit.Below g.base w w') (h : Bv L E g w) : Bv L E g' w' :=
 ⟨fun n => ay.mono hg _ _ (h.glob n), h.plain, by rw [hb]; exact h.base, h.below.trans (hw.le h.base)⟩
theorem Bv.ext {L : eB} {E : ak} {g g' : Gh} {s s' : St} {w w' : World} (h : Bv L E g w) (x : nv g s w g' s' w') : Bv L E g' w' :=
 h.mono' x.ge x.base ⟨x.os, x.tape, x.out, x.size, x.old⟩
structure RT (P : Program) (w : World) (ctgt : Value) (cargs : List Value) (F : CallKind -> Frame) : Prop where
 out : ∃ fv first cap nx, ctgt = .func fv first cap /\ (invoke (.fn fv cap) (first ++ cargs.toArray)).run P w = .ok nx w /\ FJ P nx F
def pG (P : Program) (L : eB) (E : ak) (call : en) : Prop :=
 ∀ pn tgt args s r recd s', call pn tgt args s = some (r, recd, s') -> ∀ g w ctgt cargs, cp L.toLk (vA P L) g s w -> Bv L E g w -> ay L.toLk g w tgt ctgt -> aw L.toLk g w args cargs ->
  ∃ F, RT P w ctgt cargs F /\
  (pn = none -> ∀ c cs, ∃ g' w' cv, cp L.toLk (vA P L) g' s' w' /\ nv g s w g' s' w' /\ (match r with
   | .ret v => ay L.toLk g' w' v cv /\ Steps P (lone (F .normal) (c :: cs) w) (lone (c.finish cv) cs w')
   | .pan v => ay L.toLk g' w' v cv /\ Steps P (lone (F .normal) (c :: cs) w) (lone (c.raise [{ v := cv, recovered := false }]) cs w'))) /\
  (EL E tgt = true -> ∀ c cs, (match pn with | none => c.mode = .returning | some v => ∃ pv, c.mode = .panicking [{ v := pv, recovered := false }] /\ ay L.toLk g w v pv) ->
   ∃ g' w', cp L.toLk (vA P L) g' s' w' /\ nv g s w g' s' w' /\ (match r with
   | .ret _ => Steps P (lone (F .deferred) (c :: cs) w) (lone { c with mode := if recd then .returning else c.mode } cs w')
   | .pan _ => True))
section
variable {P : Program} {L : eB} {E : ak} {call : en} {g : Gh} {s : St} {w : World}
theorem get_put (tm : Array Value) (d i : Nat) (v : Value) (h : d < tm.size) : (tm.setIfInBounds d v).getD i undef = if i = d then v else tm.getD i undef := by
 simp only [Array.getD_eq_getD_getElem?, Array.getElem?_setIfInBounds]
 by_cases hi : d = i
 ·subst hi; simp [h]
 ·simp [hi, Ne.symm hi]
theorem pw.push {L : Lk} {e : bF} {tm : Array Value} {N : Nat} {d : Nat} {v : AV} {cv : Value} (h : pw L g w e tm) (hs : N <= tm.size) (hd : d < N) (hv : ay L g w v cv) : pw L g w ((d, v) :: e) (tm.setIfInBounds d cv) := by
 intro i
 rw [get_put _ _ _ _ (by omega)]
 simp only [bF.get]
 by_cases hi : i = d
 ·rw [if_pos hi, if_pos hi]; exact hv
 ·rw [if_neg hi, if_neg hi]; exact h i
theorem tH (tm : Array Value) (d : Option Nat) (v : Value) : (Cj tm d v).size = tm.size := by cases d <;> simp [Cj]
theorem M8 {e : bF} {tm : Array Value} (h : pw L.toLk g w e tm) (hg : Bv L E g w) : wI L g w (lX tm) (bN.ev E e) := by
 refine ⟨fun x y hxy => ?_⟩
 unfold bL at hxy
 split at hxy
 ·simp only [beq_iff_eq] at hxy; subst hxy; exact h _
 ·exact KH hxy _ _
 ·simp only [beq_iff_eq] at hxy; subst hxy
  simp only [bN.ev, lX, ay]
  exact ⟨[], [], rfl, by simp [aw], by simp [aw]⟩
 ·simp only [beq_iff_eq] at hxy; subst hxy; exact hg.glob _
 ·cases hxy
theorem EA {e : bF} {tm : Array Value} (h : pw L.toLk g w e tm) {cops : Array Oper} {o : Oper} {io : aK} (hg : (match o.guard, io.guard with
  | none, none => true
  | some (j, a), some (q, b) => a == b && ((cops[j]?).bind (·.dst)) == some q
  | _, _ => false) = true) {b : Bool} (hb : zJ io.guard e = some b) : Region.wanted o (yielded cops tm) = b := by
 unfold zJ at hb
 unfold Region.wanted
 cases hog : o.guard with
 | none =>
  cases hig : io.guard with
  | none => simp only [hig, Option.some.injEq] at hb; subst hb; rfl
  | some p => simp [hog, hig] at hg
 | some p =>
  obtain ⟨j, a⟩ := p
  cases hig : io.guard with
  | none => simp [hog, hig] at hg
  | some q =>
   obtain ⟨q, a'⟩ := q
   simp only [hog, hig, Bool.and_eq_true, beq_iff_eq] at hg
   obtain ⟨rfl, hq⟩ := hg
   simp only [hig] at hb
   have hr := h q
   simp only [yielded, hq, Option.bind_some]
   split at hb
   ·rename_i v hv
    rw [hv] at hr
    simp only [ay] at hr
    have ht : tm[q]? = some (.bool v) := by
     rw [Array.getD_eq_getD_getElem?] at hr
     cases htq : tm[q]? with
     | none => rw [htq] at hr; simp [undef] at hr
     | some x => rw [htq] at hr; simp at hr; rw [hr]
    simp only [Option.some.injEq] at hb
    rw [ht]
    simp only
    rw [<- hb]
    cases v <;> cases a <;> rfl
   ·rename_i hv
    rw [hv] at hr
    simp only [Option.some.injEq] at hb
    subst hb
    simp only [ay, aw] at hr
    obtain ⟨vs, hr, rfl⟩ := hr
    cases htq : tm[q]? with
    | none => rfl
    | some x =>
     rw [Array.getD_eq_getD_getElem?, htq] at hr
     simp at hr
     subst hr
     rfl
   ·cases hb
end
open Go
section
variable {P : Program} {L : eB} {E : ak} {call : en} {g : Gh} {s : St} {w : World}
theorem D0 {N : Nat} {e : bF} {tm : Array Value} {io : aK} {v : AV} {cv : Value} (h : pw L.toLk g w e tm) (hs : N <= tm.size) (hd : (match io.dst with | some d => decide (d < N) | none => true) = true) (hv : ay L.toLk g w v cv)
  {f : Fr} {p : Option AV} {f' : Fr} {e' : bF} {s' : St} (hf : CQ io v f e s = some (p, f', e', s')) : p = none /\ f' = f /\ s' = s /\ pw L.toLk g w e' (Cj tm io.dst cv) := by
 unfold CQ at hf
 cases hdst : io.dst with
 | none =>
  simp only [hdst, Option.some.injEq, Prod.mk.injEq] at hf
  obtain ⟨rfl, rfl, rfl, rfl⟩ := hf
  exact ⟨rfl, rfl, rfl, h⟩
 | some d =>
  simp only [hdst, Option.some.injEq, Prod.mk.injEq] at hf
  obtain ⟨rfl, rfl, rfl, rfl⟩ := hf
  rw [hdst] at hd
  simp only [decide_eq_true_eq] at hd
  exact ⟨rfl, rfl, rfl, h.push hs hd hv⟩
def BT (P : Program) (L : eB) (M : Machine) (B : Frame) (tm : Array Value) (df : List Deferred) (todo : List Item) (cs : List Frame) (g : Gh) (w : World) : Option AV -> Prop
 | none => Steps P M (lone (dP B tm df todo) cs w)
 | some v => ∃ cv td, ay L.toLk g w v cv /\ FH td /\ Steps P M (lone { dP B tm df td with mode := .panicking [{ v := cv, recovered := false }] } cs w)
theorem EQ {tm : Array Value} {o : Oper} {q : Operand} {args : Array Operand} {ts : Array TypeId} (ho : o.op = .call { callee := .value q, args, argTypes := ts }) {fv : Fn} {first cap : Array Value} (hq : lX tm q = .func fv first cap) :
  (execOp (lX tm) o).run P w = (invoke (.fn fv cap) (first ++ (args.toList.map (lX tm)).toArray)).run P w := by
 have e1 : args.map (lX tm) = (args.toList.map (lX tm)).toArray := by apply Array.ext'; simp
 simp only [execOp, ho, resolve, hq, Deferred.ofValue, Sem.run_bind, Sem.run_pure, Result.andThen_ok, e1]
theorem IZ {E : ak} {o : aK} {e : bF} {b : Bool} (h : Qb E o e = some b) : zJ o.guard e = some b := by
 unfold Qb at h
 split at h
 ·rename_i hg
  split at h
  ·cases h; exact hg
  ·cases h
 ·exact h
theorem Hm (hinj : ∀ a b, L.tyOf a = L.tyOf b -> a = b) (hcall : pG P L E call) {draw : Bool} {io : aK} {o : Oper} {cops : Array Oper} {N : Nat} (hck : F6 P L N cops o io = true) {f f' : Fr} {e e' : bF} {s' : St} {p : Option AV}
  (h : EV E call draw io f e s = some (p, f', e', s')) (hs : cp L.toLk (vA P L) g s w) (hgl : Bv L E g w) {lo : Nat} {tm : Array Value} {df : List Deferred} (he : pw L.toLk g w e tm) (hN : N <= tm.size) (hdf : tK L.toLk g w lo f.defers df)
  {B : Frame} {cs0 : List Frame} (hrc : ym L.toLk g w f B cs0) {i : Nat} (hi : cops[i]? = some o) (rest : List Nat) (k : List Item) :
  ∃ g' w' tm' df', cp L.toLk (vA P L) g' s' w' /\ nv g s w g' s' w' /\ pw L.toLk g' w' e' tm' /\ N <= tm'.size /\ tK L.toLk g' w' lo f'.defers df' /\ ym L.toLk g' w' f' B cs0 /\ f'.rnd = f.rnd /\ f'.env = f.env /\
   BT P L (lone (dP B tm df (.inRegion cops (i :: rest) :: k)) (oh f.recd cs0) w) B tm' df' (.inRegion cops rest :: k) (oh f'.recd cs0) g' w' p := by
 unfold F6 at hck
 simp only [Bool.and_eq_true, beq_iff_eq] at hck
 obtain ⟨⟨⟨hdst, hd⟩, hgd⟩, hop⟩ := hck
 unfold EV at h
 have hev := M8 (E := E) he hgl
 -- a value that goes into the frame, nothing else changed
 split at h
 ·cases h
 ·rename_i hg
  have hw := EA he hgd (IZ hg)
  obtain ⟨rfl, rfl, rfl, h4⟩ := D0 he hN hd (wC L.toLk g w) h
  refine ⟨g, w, Cj tm io.dst undef, df, hs, .refl _ _ _, h4, by rw [tH]; exact hN, hdf, hrc, rfl, rfl, ?_⟩
  simp only [BT]
  rw [<- hdst]
  exact .one (PX hi hw)
 ·rename_i hg
  have hw := EA he hgd (IZ hg)
  have plain : ∀ (v : AV) (s2 : St), iS (bN.ev E e) s io.op = some (v, s2) -> uz P L o.op io.op = true -> (∀ c, o.op ≠ .defer c) -> CQ io v f e s2 = some (p, f', e', s') -> ∃ g' w' tm' df', cp L.toLk (vA P L) g' s' w' /\ nv g s w g' s' w' /\ pw L.toLk g' w' e' tm' /\ N <= tm'.size /\ tK L.toLk g' w' lo f'.defers df' /\ ym L.toLk g' w' f' B cs0 /\ f'.rnd = f.rnd /\ f'.env = f.env /\
    BT P L (lone (dP B tm df (.inRegion cops (i :: rest) :: k)) (oh f.recd cs0) w) B tm' df' (.inRegion cops rest :: k) (oh f'.recd cs0) g' w' p := by
   intro v s2 hv ko hnd hfin
   obtain ⟨g', w', nx, cv, h1, h2, h3, h4, h5⟩ := Q8 (C := vA P L) hinj hs hev ko hv
   obtain ⟨rfl, rfl, rfl, h6⟩ := D0 (he.mono h5.ge) hN hd h3 hfin
   refine ⟨g', w', Cj tm io.dst cv, df, h4, h5, h6, by rw [tH]; exact hN, hdf.mono h5.ge h5.dfr, hrc.mono h5.ge, rfl, rfl, ?_⟩
   simp only [BT]
   rw [<- hdst]
   exact .one (NO hi hw (.inr hnd) h1 h2)
  unfold Re at h
  split at h
  ·-- a call
   rename_i q args hio
   rw [hio] at hop
   cases hoo : o.op with
   | call c =>
    obtain ⟨callee, cargs, ts⟩ := c
    cases callee with
    | value cf =>
     rw [hoo] at hop
     simp only [Bool.and_eq_true] at hop
     obtain ⟨hq, hargs⟩ := hop
     split at h
     ·cases h
     ·split at h
      ·cases h
      have hrq := hev.rep _ _ hq
      have hra := hev.reps hargs
      split at h
      ·rename_i v rd s2 hc
       obtain ⟨F, ⟨fv, first, cap, nx, hfun, hinv, hst⟩, hn, _⟩ := hcall _ _ _ _ _ _ _ hc g w _ _ hs hgl hrq hra
       obtain ⟨g', w', cv, h1, h2, h3, h4⟩ := hn rfl (dP B tm df (.inRegion cops (i :: rest) :: k)) (oh f.recd cs0)
       split at h
       ·obtain ⟨rfl, rfl, rfl, h6⟩ := D0 (he.mono h2.ge) hN hd h3 h
        refine ⟨g', w', Cj tm io.dst cv, df, h1, h2, h6, by rw [tH]; exact hN, hdf.mono h2.ge h2.dfr, hrc.mono h2.ge, rfl, rfl, ?_⟩
        simp only [BT]
        rw [uh hi, hdst] at h4
        refine .head ?_ h4
        have hrun := EQ (P := P) (w := w) hoo hfun
        rw [hinv] at hrun
        rcases hst with ⟨cf', a', rfl, rfl⟩ | ⟨l, cf', tms, a, b, rfl, rfl⟩
        ·exact Hb hi hw (.inr fun c hc => by rw [hoo] at hc; cases hc) hrun
        ·exact Hc hi hw (.inr fun c hc => by rw [hoo] at hc; cases hc) hrun
       ·cases h
      ·rename_i v rd s2 hc
       split at h
       ·cases h
       ·simp only [Option.some.injEq, Prod.mk.injEq] at h
        obtain ⟨rfl, rfl, rfl, rfl⟩ := h
        obtain ⟨F, ⟨fv, first, cap, nx, hfun, hinv, hst⟩, hn, _⟩ := hcall _ _ _ _ _ _ _ hc g w _ _ hs hgl hrq hra
        obtain ⟨g', w', cv, h1, h2, h3, h4⟩ := hn rfl (dP B tm df (.inRegion cops (i :: rest) :: k)) (oh f.recd cs0)
        refine ⟨g', w', tm, df, h1, h2, he.mono h2.ge, hN, hdf.mono h2.ge h2.dfr, hrc.mono h2.ge, rfl, rfl, ?_⟩
        simp only [BT]
        refine ⟨cv, (.inRegion cops (i :: rest) :: k), h3, trivial, .head ?_ h4⟩
        have hrun := EQ (P := P) (w := w) hoo hfun
        rw [hinv] at hrun
        rcases hst with ⟨cf', a', rfl, rfl⟩ | ⟨l, cf', tms, a, b, rfl, rfl⟩
        ·exact Hb hi hw (.inr fun c hc => by rw [hoo] at hc; cases hc) hrun
        ·exact Hc hi hw (.inr fun c hc => by rw [hoo] at hc; cases hc) hrun
      ·cases h
    | invoke r m => rw [hoo] at hop; simp only at hop; simp [uz] at hop
    | builtin b => rw [hoo] at hop; cases b <;> simp [uz, FU] at hop
   | _ => rw [hoo] at hop; simp [uz] at hop
  ·-- a deferred call
   rename_i q args hio
   rw [hio] at hop
   split at h
   ·cases h
   ·rename_i hcond
    simp only [Bool.or_eq_true, not_or, Bool.not_eq_true] at hcond
    have hround : B.roundOf = none := by
     have := hrc.1
     rw [hcond.1] at this
     cases hb : B.roundOf with
     | none => rfl
     | some l => rw [hb] at this; cases this
    cases hoo : o.op with
    | defer c =>
     obtain ⟨callee, cargs, ts⟩ := c
     cases callee with
     | value cf =>
      rw [hoo] at hop
      simp only [Bool.and_eq_true] at hop
      obtain ⟨hq, hargs⟩ := hop
      have hrq := hev.rep _ _ hq
      have hra := hev.reps hargs
      split at h
      ·rename_i qf qa qc hqv
       rw [hqv] at hrq
       have hrq' := hrq
       simp only [ay] at hrq
       obtain ⟨fs, cps, hfun, _, _⟩ := hrq
       have e1 : cargs.map (lX tm) = (cargs.toList.map (lX tm)).toArray := by apply Array.ext'; simp
       have hrun : (execOp (lX tm) o).run P w = .ok (.defer { target := .fn (.func (L.fnOf qf)) cps.toArray, args := fs.toArray ++ (cargs.toList.map (lX tm)).toArray }) w := by
        simp only [execOp, hoo, resolve, hfun, Deferred.ofValue, Sem.run_bind, Sem.run_pure, Result.andThen_ok, e1]
       obtain ⟨rfl, h7, rfl, h6⟩ := D0 he hN hd (wC L.toLk g w) h
       subst h7
       refine ⟨g, w, Cj tm io.dst undef, _, hs, .refl _ _ _, h6, by rw [tH]; exact hN, .call (.fn qf qa qc) _ _ _ _ _ _ _ (by rw [hfun] at hrq'; exact hrq') hra hdf, hrc, rfl, rfl, ?_⟩
       simp only [BT]
       rw [<- hdst]
       exact .one (NM hi hw hround hrun)
      ·cases h
     | invoke r m => rw [hoo] at hop; simp [uz] at hop
     | builtin b => rw [hoo] at hop; simp [uz] at hop
    | call c =>
     obtain ⟨callee, cargs, ts⟩ := c
     cases callee with
     | builtin b => rw [hoo] at hop; cases b <;> simp [uz, FU] at hop
     | value cf => rw [hoo] at hop; simp [uz] at hop
     | invoke r m => rw [hoo] at hop; simp [uz] at hop
    | _ => rw [hoo] at hop; simp [uz] at hop
  ·-- a panic
   rename_i x hio
   rw [hio] at hop
   split at h
   ·cases h
   ·cases hoo : o.op with
    | panic y =>
     rw [hoo] at hop
     simp only at hop
     have hrx := hev.rep _ _ hop
     split at h
     ·rename_i t v hv
      simp only [Option.some.injEq, Prod.mk.injEq] at h
      obtain ⟨rfl, rfl, rfl, rfl⟩ := h
      rw [hv] at hrx
      have hrx' := hrx
      simp only [ay] at hrx
      obtain ⟨u, hρ, _⟩ := hrx
      refine ⟨g, w, tm, df, hs, .refl _ _ _, he, hN, hdf, hrc, rfl, rfl, ?_⟩
      simp only [BT]
      refine ⟨lX tm y, (.inRegion cops (i :: rest) :: k), hrx', trivial, .one ?_⟩
      refine NN hi hw (.inr fun c hc => by rw [hoo] at hc; cases hc) ?_
      simp only [execOp, hoo, hρ, Instr.panic, Sem.run_bind, run_goPanic, Result.andThen_halt]
     ·cases h
    | call c =>
     obtain ⟨callee, cargs, ts⟩ := c
     cases callee with
     | builtin b => rw [hoo] at hop; cases b <;> simp [uz, FU] at hop
     | value cf => rw [hoo] at hop; simp [uz] at hop
     | invoke r m => rw [hoo] at hop; simp [uz] at hop
    | _ => rw [hoo] at hop; simp [uz] at hop
  ·-- recover
   rename_i hio
   rw [hio] at hop
   split at h
   ·cases h
   ·rename_i hcond
    simp only [Bool.or_eq_true, not_or, Bool.not_eq_true] at hcond
    have hround : B.roundOf = none := by
     have := hrc.1
     rw [hcond.1] at this
     cases hb : B.roundOf with
     | none => rfl
     | some l => rw [hb] at this; cases this
    cases hoo : o.op with
    | call c =>
     obtain ⟨callee, cargs, ts⟩ := c
     cases callee with
     | builtin b =>
      cases b <;> rw [hoo] at hop <;> first | (simp [uz, FU] at hop; done) | skip
      have hrun : (execOp (lX tm) o).run P w = .ok .recover w := by
       simp only [execOp, hoo, resolve, Sem.run_bind, Sem.run_pure, Result.andThen_ok, invoke, builtin]
      have hstep : ∀ {v : Value} {cs cs' : List Frame}, (match tryRecover (dP B tm df (.inRegion cops (i :: rest) :: k)) cs with | some (x, q) => x = v /\ q = cs' | none => v = .nilIface /\ cs = cs') ->
        step P (lone (dP B tm df (.inRegion cops (i :: rest) :: k)) cs w) = .next (lone (dP B (Cj tm o.dst v) df (.inRegion cops rest :: k)) cs' w) := by
       intro v cs cs' hm
       rw [<- uh hi]
       refine step_lone_go ?_
       rw [PW hi hw (.inl hround)]
       have hro : (dP B tm df (.inRegion cops (i :: rest) :: k)).roundOf = none := hround
       simp only [stepG.apply, Sem.runT_eq, hrun, if_true, GStep.bare_after, hro]
       cases ht : tryRecover (dP B tm df (.inRegion cops (i :: rest) :: k)) cs with
       | none => rw [ht] at hm; obtain ⟨rfl, rfl⟩ := hm; rfl
       | some q => obtain ⟨x, q⟩ := q; rw [ht] at hm; obtain ⟨rfl, rfl⟩ := hm; rfl
      obtain ⟨hr1, hr2, hr3⟩ := hrc
      split at h
      ·rename_i v hv
       cases hrd : f.recd with
       | true => rw [hv, hrd] at hr3; exact hr3.elim
       | false =>
        rw [hv, hrd] at hr3
        obtain ⟨hk, c, r, pv, rfl, hcm, hrv⟩ := hr3
        obtain ⟨rfl, h7, rfl, h6⟩ := D0 he hN hd hrv h
        subst h7
        refine ⟨g, w, Cj tm io.dst pv, df, hs, .refl _ _ _, h6, by rw [tH]; exact hN, hdf, ⟨hr1, hr2, hk, c, r, pv, rfl, hcm⟩, rfl, rfl, ?_⟩
        simp only [BT]
        rw [<- hdst]
        refine .one (hstep ?_)
        have hk' : (dP B tm df (.inRegion cops (i :: rest) :: k)).kind = .deferred := hk
        simp only [oh, tryRecover, hk', hcm]
        exact ⟨trivial, trivial⟩
      ·rename_i hv
       obtain ⟨rfl, rfl, rfl, h6⟩ := D0 (cv := .nilIface) (v := .nilif) he hN hd (by simp [ay]) h
       refine ⟨g, w, Cj tm io.dst .nilIface, df, hs, .refl _ _ _, h6, by rw [tH]; exact hN, hdf, ⟨hr1, hr2, hr3⟩, rfl, rfl, ?_⟩
       simp only [BT]
       rw [<- hdst]
       refine .one (hstep ?_)
       have hnone : tryRecover (dP B tm df (.inRegion cops (i :: rest) :: k)) (oh f'.recd cs0) = none := by
        cases hrd : f'.recd with
        | false =>
         rw [hv, hrd] at hr3
         rcases hr3 with h8 | h8 | ⟨h8, c, r, rfl, h9⟩
         ·rw [hcond.1] at h8; cases h8
         ·have h8' : (dP B tm df (.inRegion cops (i :: rest) :: k)).kind = .normal := h8
          simp [tryRecover, h8']
         ·have h8' : (dP B tm df (.inRegion cops (i :: rest) :: k)).kind = .deferred := h8
          simp [tryRecover, h8', oh, h9]
        | true =>
         rw [hv, hrd] at hr3
         obtain ⟨h8, c, r, pv, rfl, h9⟩ := hr3
         have h8' : (dP B tm df (.inRegion cops (i :: rest) :: k)).kind = .deferred := h8
         simp [tryRecover, h8', oh, h9]
       rw [hnone]
       exact ⟨rfl, rfl⟩
     | value cf => rw [hoo] at hop; simp [uz] at hop
     | invoke r m => rw [hoo] at hop; simp [uz] at hop
    | _ => rw [hoo] at hop; simp [uz] at hop
  ·-- the others
   rename_i hn1 hn2 hn3 hn4
   split at h
   ·rename_i v s2 hv
    have hv := L6 hv
    have ko : uz P L o.op io.op = true := by
     split at hop
     ·exact absurd ‹_› (hn1 _ _)
     ·exact absurd ‹_› hn4
     ·exact absurd ‹_› (hn2 _ _)
     ·exact absurd ‹_› (hn3 _)
     ·exact hop
    refine plain v s2 hv ko (fun c hc => ?_) h
    rw [hc] at ko
    cases hio : io.op <;> rw [hio] at ko <;> simp [uz, OR] at ko
   ·cases h
end
open Go
theorem bF.get_put (e : bF) (i j : Nat) (v : AV) : (e.put i v).get j = if j = i then v else e.get j := by
 induction e with
 | nil => simp [bF.put, bF.get]
 | cons p r ih =>
  obtain ⟨k, u⟩ := p
  simp only [bF.put]
  by_cases h1 : i = k
  ·subst h1
   rw [if_pos rfl]
   simp only [bF.get]
   by_cases h2 : j = i
   ·rw [if_pos h2, if_pos h2]
   ·rw [if_neg h2, if_neg h2, if_neg h2]
  ·rw [if_neg h1]
   by_cases h3 : i < k
   ·rw [if_pos h3]; simp only [bF.get]
   ·rw [if_neg h3]
    simp only [bF.get, ih]
    by_cases h2 : j = k
    ·rw [if_pos h2, if_pos h2, if_neg (by omega)]
    ·rw [if_neg h2, if_neg h2]
theorem bF.get_kill (e : bF) (ks : List Nat) (j : Nat) : (e.kill ks).get j = if ks.contains j then .junk else e.get j := by
 induction e with
 | nil => simp [bF.kill, bF.get]
 | cons p r ih =>
  obtain ⟨k, u⟩ := p
  simp only [bF.kill]
  by_cases h1 : ks.contains k = true
  ·rw [if_pos h1, ih]
   by_cases h2 : j = k
   ·subst h2; rw [if_pos h1, if_pos h1]
   ·simp only [bF.get, if_neg h2]
  ·rw [if_neg h1]
   simp only [bF.get, ih]
   by_cases h2 : j = k
   ·subst h2; rw [if_pos rfl, if_pos rfl, if_neg h1]
   ·rw [if_neg h2, if_neg h2]
theorem I2 (loc : bF) (j : Nat) : ∀ (ks : List Nat) (e : bF), (om loc ks e).get j = if ks.contains j then loc.get j else e.get j
 | [], e => by simp [om]
 | k :: r, e => by
  simp only [om, I2 loc j r, bF.get_put]
  by_cases h1 : r.contains j = true
  ·have : (k :: r).contains j = true := by simp at h1 ⊢; exact .inr h1
   rw [if_pos h1, if_pos this]
  ·rw [if_neg h1]
   by_cases h2 : j = k
   ·subst h2
    have : (j :: r).contains j = true := by simp
    rw [if_pos rfl, if_pos this]
   ·have : ¬ (k :: r).contains j = true := by simp at h1 ⊢; exact ⟨h2, h1⟩
    rw [if_neg h2, if_neg this]
theorem vM.put {vars : List Nat} {e : bF} (h : vM vars e) {i : Nat} (hi : vars.contains i = true) (v : AV) : vM vars (e.put i v) := by
 induction e with
 | nil => intro p hp; simp [bF.put] at hp; subst hp; exact hi
 | cons q r ih =>
  obtain ⟨k, u⟩ := q
  have hr : vM vars r := fun p hp => h p (List.mem_cons_of_mem _ hp)
  simp only [bF.put]
  split
  ·intro p hp
   rcases List.mem_cons.1 hp with rfl | hp
   ·exact hi
   ·exact hr p hp
  ·split
   ·intro p hp
    rcases List.mem_cons.1 hp with rfl | hp
    ·exact hi
    ·exact h p hp
   ·intro p hp
    rcases List.mem_cons.1 hp with rfl | hp
    ·exact h _ (List.mem_cons_self ..)
    ·exact ih hr p hp
theorem vM.kill {vars : List Nat} {e : bF} (h : vM vars e) (ks : List Nat) : vM vars (e.kill ks) := by
 induction e with
 | nil => simpa [bF.kill] using h
 | cons q r ih =>
  obtain ⟨k, u⟩ := q
  have hr : vM vars r := fun p hp => h p (List.mem_cons_of_mem _ hp)
  simp only [bF.kill]
  split
  ·exact ih hr
  ·intro p hp
   rcases List.mem_cons.1 hp with rfl | hp
   ·exact h _ (List.mem_cons_self ..)
   ·exact ih hr p hp
theorem vM.keep {vars : List Nat} {loc : bF} : ∀ {ks : List Nat} {e : bF}, vM vars e -> ks.all (vars.contains ·) = true -> vM vars (om loc ks e)
 | [], _, h, _ => h
 | k :: r, e, h, hk => by
  simp only [List.all_cons, Bool.and_eq_true] at hk
  show vM vars (om loc r (e.put k (loc.get k)))
  exact vM.keep (h.put hk.1 _) hk.2
theorem vM.get_junk {vars : List Nat} {e : bF} (h : vM vars e) {i : Nat} (hi : vars.contains i = false) : e.get i = .junk := by
 induction e with
 | nil => rfl
 | cons q r ih =>
  obtain ⟨k, u⟩ := q
  simp only [bF.get]
  have hk := h (k, u) (List.mem_cons_self ..)
  rw [if_neg (by rintro rfl; rw [hi] at hk; cases hk)]
  exact ih fun p hp => h p (List.mem_cons_of_mem _ hp)
theorem pw.kill {L : Lk} {g : Gh} {w : World} {e : bF} {tm : Array Value} (h : pw L g w e tm) (ks : List Nat) : pw L g w (e.kill ks) tm := by
 intro i
 rw [bF.get_kill]
 split
 ·simp [ay]
 ·exact h i
theorem wd {o : aK} {v : AV} {f : Fr} {e : bF} {s : St} {p : Option AV} {f' : Fr} {e' : bF} {s' : St} (h : CQ o v f e s = some (p, f', e', s')) {i : Nat} (hi : o.dst ≠ some i) : e'.get i = e.get i := by
 unfold CQ at h
 split at h
 ·rename_i d hd
  simp only [Option.some.injEq, Prod.mk.injEq] at h
  obtain ⟨_, _, rfl, _⟩ := h
  simp only [bF.get]
  rw [if_neg]
  rintro rfl; exact hi hd
 ·simp only [Option.some.injEq, Prod.mk.injEq] at h
  obtain ⟨_, _, rfl, _⟩ := h
  rfl
theorem Jt {E : ak} {call : en} {draw : Bool} {o : aK} {f : Fr} {e : bF} {s : St} {p : Option AV} {f' : Fr} {e' : bF} {s' : St} (h : EV E call draw o f e s = some (p, f', e', s')) {i : Nat} (hi : o.dst ≠ some i) : e'.get i = e.get i := by
 unfold EV at h
 split at h
 ·cases h
 ·exact wd h hi
 ·unfold Re at h
  split at h
  ·split at h
   ·cases h
   ·split at h
    ·cases h
    split at h
    ·split at h
     ·exact wd h hi
     ·cases h
    ·split at h
     ·cases h
     ·simp only [Option.some.injEq, Prod.mk.injEq] at h
      obtain ⟨_, _, rfl, _⟩ := h; rfl
    ·cases h
  ·split at h
   ·cases h
   ·split at h
    ·exact wd h hi
    ·cases h
  ·split at h
   ·cases h
   ·split at h
    ·simp only [Option.some.injEq, Prod.mk.injEq] at h
     obtain ⟨_, _, rfl, _⟩ := h; rfl
    ·cases h
  ·split at h
   ·cases h
   ·split at h
    ·exact wd h hi
    ·exact wd h hi
  ·split at h
   ·exact wd h hi
   ·cases h
theorem GX {E : ak} {call : en} {draw : Bool} : ∀ {os : List aK} {f : Fr} {e : bF} {s : St} {p : Option AV} {f' : Fr} {e' : bF} {s' : St} (_ : pD E call draw os f e s = some (p, f', e', s')) {i : Nat} (_ : ∀ o ∈ os, o.dst ≠ some i), e'.get i = e.get i
 | [], f, e, s, p, f', e', s', h, i, hi => by
  simp only [pD, Option.some.injEq, Prod.mk.injEq] at h
  obtain ⟨_, _, rfl, _⟩ := h; rfl
 | o :: r, f, e, s, p, f', e', s', h, i, hi => by
  simp only [pD] at h
  split at h
  ·rename_i f1 e1 s1 h1
   exact (GX h fun o ho => hi o (List.mem_cons_of_mem _ ho)).trans (Jt h1 (hi o (List.mem_cons_self ..)))
  ·exact Jt h (hi o (List.mem_cons_self ..))
def Jy (P : Program) (L : eB) (N : Nat) (cops : Array Oper) : List Nat -> List aK -> Prop
 | [], [] => True
 | i :: is, io :: os => (∃ o, cops[i]? = some o /\ F6 P L N cops o io = true) /\ Jy P L N cops is os
 | _, _ => False
section
variable {P : Program} {L : eB} {E : ak} {call : en}
theorem BT.head {M M' : Machine} {B : Frame} {tm : Array Value} {df : List Deferred} {todo : List Item} {cs : List Frame} {g : Gh} {w : World} {p : Option AV} (h : Steps P M M') (h' : BT P L M' B tm df todo cs g w p) : BT P L M B tm df todo cs g w p := by
 cases p with
 | none => exact h.trans h'
 | some v => obtain ⟨cv, td, h1, h0, h2⟩ := h'; exact ⟨cv, td, h1, h0, h.trans h2⟩
theorem Jf (hinj : ∀ a b, L.tyOf a = L.tyOf b -> a = b) (hcall : pG P L E call) {draw : Bool} {cops : Array Oper} {N : Nat} {lo : Nat} : ∀ {is : List Nat} {os : List aK} (_ : Jy P L N cops is os) {f f' : Fr} {e e' : bF} {s s' : St} {p : Option AV}
  (_ : pD E call draw os f e s = some (p, f', e', s')) {g : Gh} {w : World} (_ : cp L.toLk (vA P L) g s w) (_ : Bv L E g w) {tm : Array Value} {df : List Deferred} (_ : pw L.toLk g w e tm) (_ : N <= tm.size) (_ : tK L.toLk g w lo f.defers df)
  {B : Frame} {cs0 : List Frame} (_ : ym L.toLk g w f B cs0) (k : List Item),
  ∃ g' w' tm' df', cp L.toLk (vA P L) g' s' w' /\ nv g s w g' s' w' /\ pw L.toLk g' w' e' tm' /\ N <= tm'.size /\ tK L.toLk g' w' lo f'.defers df' /\ ym L.toLk g' w' f' B cs0 /\ f'.rnd = f.rnd /\ f'.env = f.env /\
   BT P L (lone (dP B tm df (.inRegion cops is :: k)) (oh f.recd cs0) w) B tm' df' k (oh f'.recd cs0) g' w' p
 | [], [], _, f, f', e, e', s, s', p, h, g, w, hs, hgl, tm, df, he, hN, hdf, B, cs0, hrc, k => by
  simp only [pD, Option.some.injEq, Prod.mk.injEq] at h
  obtain ⟨rfl, rfl, rfl, rfl⟩ := h
  exact ⟨g, w, tm, df, hs, .refl _ _ _, he, hN, hdf, hrc, rfl, rfl, .one Kt⟩
 | [], _ :: _, hp, _, _, _, _, _, _, _, _, _, _, _, _, _, _, _, _, _, _, _, _, _ => hp.elim
 | _ :: _, [], hp, _, _, _, _, _, _, _, _, _, _, _, _, _, _, _, _, _, _, _, _, _ => hp.elim
 | i :: is, io :: os, hp, f, f', e, e', s, s', p, h, g, w, hs, hgl, tm, df, he, hN, hdf, B, cs0, hrc, k => by
  obtain ⟨⟨o, hi, hck⟩, hp'⟩ := hp
  simp only [pD] at h
  split at h
  ·rename_i f1 e1 s1 h1
   obtain ⟨g1, w1, tm1, df1, a1, a2, a3, a4, a5, a6, a7, a8, a9⟩ := Hm hinj hcall hck h1 hs hgl he hN hdf hrc hi is k
   obtain ⟨g2, w2, tm2, df2, b1, b2, b3, b4, b5, b6, b7, b8, b9⟩ := Jf hinj hcall hp' h a1 (hgl.ext a2) a3 a4 a5 a6 k
   exact ⟨g2, w2, tm2, df2, b1, a2.trans b2, b3, b4, b5, b6, b7.trans a7, b8.trans a8, BT.head a9 b9⟩
  ·rename_i hne
   cases p with
   | none => exact absurd h (hne _ _ _)
   | some v =>
    obtain ⟨g1, w1, tm1, df1, a1, a2, a3, a4, a5, a6, a7, a8, a9⟩ := Hm hinj hcall hck h hs hgl he hN hdf hrc hi is k
    refine ⟨g1, w1, tm1, df1, a1, a2, a3, a4, a5, a6, a7, a8, ?_⟩
    obtain ⟨cv, td, h1, h0, h2⟩ := a9
    exact ⟨cv, td, h1, h0, h2⟩
end
open Go
def vN (e e' : bF) : Prop := ∀ i, e.get i = e'.get i
def BA (d : Option Nat) (v : AV) (e : bF) : bF := match d with | some d => (d, v) :: e | none => e
section
variable {E : ak} {e e' : bF}
theorem bN.ev_congr : ∀ {x : bN}, (∀ i ∈ x.slots, e.get i = e'.get i) -> x.ev E e = x.ev E e'
 | .t n, h => h n (by simp [bN.slots])
 | .c _, _ => rfl
 | .g _, _ => rfl
theorem DJ : ∀ {xs : List bN}, (∀ i ∈ gK xs, e.get i = e'.get i) -> xs.map (bN.ev E e) = xs.map (bN.ev E e')
 | [], _ => rfl
 | x :: r, h => by
  simp only [List.map_cons]
  rw [bN.ev_congr (x := x) fun i hi => h i (by simp [gK, hi]), DJ (xs := r) fun i hi => h i (by simp [gK, hi])]
theorem PO {x : Option bN} (h : ∀ i ∈ Ag x, e.get i = e'.get i) : x.map (bN.ev E e) = x.map (bN.ev E e') := by
 cases x with
 | none => rfl
 | some x => simp only [Option.map_some]; rw [bN.ev_congr h]
theorem Eo : ∀ {ps : List (Nat × Nat × bN)}, (∀ i ∈ gK (ps.map fun p => p.2.2), e.get i = e'.get i) ->
  ps.map (fun (o, n, x) => (o, n, bN.ev E e x)) = ps.map (fun (o, n, x) => (o, n, bN.ev E e' x))
 | [], _ => rfl
 | (o, n, x) :: r, h => by
  simp only [List.map_cons]
  rw [bN.ev_congr (x := x) fun i hi => h i (by simp [gK, hi]), Eo (ps := r) fun i hi => h i (by simp only [List.map_cons, gK]; exact List.mem_append_right _ hi)]
theorem CG : ∀ {ps : List (Nat × bN)}, (∀ i ∈ gK (ps.map fun p => p.2), e.get i = e'.get i) ->
  ps.map (fun (i, x) => (i, (bN.ev E e x).untok)) = ps.map (fun (i, x) => (i, (bN.ev E e' x).untok))
 | [], _ => rfl
 | (n, x) :: r, h => by
  simp only [List.map_cons]
  rw [bN.ev_congr (x := x) fun i hi => h i (by simp [gK, hi]), CG (ps := r) fun i hi => h i (by simp only [List.map_cons, gK]; exact List.mem_append_right _ hi)]
theorem PN (io : vL) (h : ∀ i ∈ io.slots, e.get i = e'.get i) (s : St) : iS (bN.ev E e) s io = iS (bN.ev E e') s io := by
 have key : ∀ x : bN, (∀ i, i ∈ x.slots -> i ∈ io.slots) -> bN.ev E e x = bN.ev E e' x := fun x hx => bN.ev_congr fun i hi => h i (hx i hi)
 have keyL : ∀ xs : List bN, (∀ i, i ∈ gK xs -> i ∈ io.slots) -> xs.map (bN.ev E e) = xs.map (bN.ev E e') := fun x hx => DJ fun i hi => h i (hx i hi)
 have keyO : ∀ x : Option bN, (∀ i, i ∈ Ag x -> i ∈ io.slots) -> x.map (bN.ev E e) = x.map (bN.ev E e') := fun x hx => PO fun i hi => h i (hx i hi)
 cases io with
 | mov x | box _ x | load _ _ x | nilchk x | un _ x | conv _ x | mkif _ x | faddr _ x | field _ _ _ x | ranges x | nexts x | tassert _ _ _ x | ext x _ | len _ x | cap x =>
  simp only [iS, key x (fun i hi => hi)]
 | pick a b c => simp only [iS, key a (fun i hi => by simp [vL.slots, hi]), key b (fun i hi => by simp [vL.slots, hi]), key c (fun i hi => by simp [vL.slots, hi])]
 | store _ a b | bin _ _ a b | iaddr _ a b | aaddr _ _ a b | index a b | aindex _ _ _ a b | lookup _ _ a b _ | app _ a b | appz _ a b | appm _ a b | mkms _ _ a b | del _ a b =>
  simp only [iS, key a (fun i hi => by simp [vL.slots, hi]), key b (fun i hi => by simp [vL.slots, hi])]
 | mapset _ a b c => simp only [iS, key a (fun i hi => by simp [vL.slots, hi]), key b (fun i hi => by simp [vL.slots, hi]), key c (fun i hi => by simp [vL.slots, hi])]
 | build z ps => simp only [iS]; rw [Eo h]
 | bslice sz z len ps => simp only [iS]; rw [CG h]
 | mkfn f a b => simp only [iS]; rw [keyL a (fun i hi => by simp [vL.slots, hi]), keyL b (fun i hi => by simp [vL.slots, hi])]
 | slice sz a b c d => simp only [iS]; rw [key a (fun i hi => by simp [vL.slots, hi]), keyO b (fun i hi => by simp [vL.slots, hi]), keyO c (fun i hi => by simp [vL.slots, hi]), keyO d (fun i hi => by simp [vL.slots, hi])]
 | mm m xs => simp only [iS]; rw [keyL xs (fun i hi => hi)]
 | alloc _ | mkmap | recover | panic _ | mkslice _ _ _ _ _ | call _ _ | defer _ _ => rfl
theorem Jd {ev : bN -> AV} {io : vL} (hq : io.quiet = true) (s s0 : St) : iS ev s io = ew ((iS ev s0 io).map (·.1)) s := by
 cases io <;> simp only [vL.quiet] at hq <;> (try cases hq) <;> simp only [iS] <;> (try rfl) <;> repeat' split
 all_goals first
  | rfl
  | (simp_all [ew]; done)
  | (simp only [ew]; repeat' split) <;> simp_all
end
section
variable {E : ak} {call : en}
def kX (E : ak) (call : en) (o : aK) (e : bF) (s : St) : Option (AV × St) :=
 match Qb E o e with
 | none => none
 | some false => some (.tup [], s)
 | some true => match o.op with
  | .call g args => if o.mp && !calm E (g.ev E e) then none else if o.pl && !jO (g.ev E e) (args.map (bN.ev E e)) then none else
   match call none (g.ev E e) (args.map (bN.ev E e)) s with
   | some (.ret v, _, s') => if v8 (bN.ev E e) s s' o.chk then some (v, s') else none
   | _ => none
  | .defer _ _ | .panic _ | .recover => none
  | op => kN (bN.ev E e) s o (iS (bN.ev E e) s op)
theorem JO (o : aK) (v : AV) (f : Fr) (e : bF) (s : St) : CQ o v f e s = some (none, f, BA o.dst v e, s) := by
 unfold CQ BA
 split <;> rename_i h <;> simp [h]
theorem NV (o : aK) (f : Fr) (e : bF) (s : St) :
  EV E call true o f e s = (match kX E call o e s with | some (v, s') => some (none, f, BA o.dst v e, s') | none => none) := by
 unfold EV kX
 cases Qb E o e with
 | none => rfl
 | some b =>
  cases b with
  | false => simp only [JO]
  | true =>
   simp only [Re]
   cases o.op with
   | call g args =>
    simp only
    split
    ·rfl
    ·split
     ·rfl
     cases call none (g.ev E e) (args.map (bN.ev E e)) s with
     | none => rfl
     | some q =>
      obtain ⟨r, b, s'⟩ := q
      cases r with
      | ret v => simp only; split <;> simp only [JO]
      | pan v => rfl
   | defer g args => simp
   | panic x => simp
   | recover => simp
   | _ =>
    simp only [JO]
    generalize kN _ _ _ _ = q
    cases q <;> rfl
def oA (E : ak) (call : en) : List aK -> bF -> St -> Option (bF × St)
 | [], e, s => some (e, s)
 | o :: r, e, s => match kX E call o e s with
  | some (v, s') => oA E call r (BA o.dst v e) s'
  | none => none
theorem Je : ∀ (os : List aK) (f : Fr) (e : bF) (s : St),
  pD E call true os f e s = (match oA E call os e s with | some (e', s') => some (none, f, e', s') | none => none)
 | [], _, _, _ => rfl
 | o :: r, f, e, s => by
  simp only [pD, oA, NV]
  cases kX E call o e s with
  | none => rfl
  | some q => obtain ⟨v, s'⟩ := q; simp only [Je r]
theorem GZ {o : aK} {e e' : bF} (h : ∀ i ∈ o.reads, e.get i = e'.get i) (s : St) : kX E call o e s = kX E call o e' s := by
 have hg : zJ o.guard e = zJ o.guard e' := by
  unfold zJ
  cases hg : o.guard with
  | none => rfl
  | some p => obtain ⟨i, b⟩ := p; simp only; rw [h i (by simp [aK.reads, hg])]
 have hop : ∀ i ∈ o.op.slots, e.get i = e'.get i := fun i hi => h i (by simp [aK.reads, hi])
 have hch : ∀ (cs : List yk) (s s' : St), (∀ i ∈ (cs.flatMap fun c => c.a.slots), e.get i = e'.get i) -> v8 (bN.ev E e) s s' cs = v8 (bN.ev E e') s s' cs := by
  intro cs s s'
  induction cs with
  | nil => intro _; rfl
  | cons c r ih =>
   intro hc
   simp only [v8, yk.addr]
   rw [bN.ev_congr (x := c.a) fun i hi => hc i (by simp [hi]), ih fun i hi => hc i (by rw [List.flatMap_cons]; exact List.mem_append_right _ hi)]
 have hch' := fun s s' => hch o.chk s s' fun i hi => h i (by simp only [aK.reads]; exact List.mem_append_right _ hi)
 have hpin : BM (bN.ev E e) o = BM (bN.ev E e') o := by
  unfold BM
  cases ho : o.op with
  | load agg n a =>
   rw [ho] at hop
   simp only
   rw [bN.ev_congr (x := a) fun i hi => hop i hi]
   have : ∀ cs : List yk, (∀ i ∈ (cs.flatMap fun c => c.a.slots), e.get i = e'.get i) -> (cs.all fun c => If (bN.ev E e) agg n (bN.ev E e' a) c) = (cs.all fun c => If (bN.ev E e') agg n (bN.ev E e' a) c) := by
    intro cs
    induction cs with
    | nil => intro _; rfl
    | cons c r ih =>
     intro hc
     simp only [List.all_cons, If, yk.addr]
     simp only [If, yk.addr] at ih
     rw [bN.ev_congr (x := c.a) fun i hi => hc i (by simp [hi]), ih fun i hi => hc i (by rw [List.flatMap_cons]; exact List.mem_append_right _ hi)]
   exact this o.chk fun i hi => h i (by simp only [aK.reads]; exact List.mem_append_right _ hi)
  | _ => rfl
 have hgo : Qb E o e = Qb E o e' := by unfold Qb; rw [hg, hpin]
 have hst : ∀ s q, kN (bN.ev E e) s o q = kN (bN.ev E e') s o q := fun s q => by
  unfold kN
  split
  ·cases q with
   | none => rfl
   | some y => simp only [Le, hch']
  ·rfl
 unfold kX
 rw [hgo]
 cases Qb E o e' with
 | none => rfl
 | some b =>
  cases b with
  | false => rfl
  | true =>
   simp only
   cases ho : o.op with
   | call g args =>
    rw [ho] at hop
    simp only [vL.slots, List.mem_append] at hop
    simp only
    rw [bN.ev_congr (x := g) fun i hi => hop i (.inl hi), DJ (xs := args) fun i hi => hop i (.inr hi)]
    simp only [hch']
   | defer _ _ | panic _ | recover => rfl
   | _ => simp only; rw [ho] at hop; rw [PN _ hop s, hst]
theorem Ra {o : aK} {e e' : bF} (h : vN e e') (s : St) : kX E call o e s = kX E call o e' s := GZ (fun i _ => h i) s
theorem vN.bind {e e' : bF} (h : vN e e') (d : Option Nat) (v : AV) : vN (BA d v e) (BA d v e') := by
 intro i
 cases d with
 | none => exact h i
 | some d => simp only [BA, bF.get, h i]
theorem Ji : ∀ {os : List aK} {e e' : bF} {s : St} {e1 : bF} {s1 : St}, vN e e' -> oA E call os e s = some (e1, s1) -> ∃ e1', oA E call os e' s = some (e1', s1) /\ vN e1 e1'
 | [], e, e', s, e1, s1, h, ho => by
  simp only [oA, Option.some.injEq, Prod.mk.injEq] at ho ⊢
  obtain ⟨rfl, rfl⟩ := ho
  exact ⟨e', ⟨rfl, rfl⟩, h⟩
 | o :: r, e, e', s, e1, s1, h, ho => by
  simp only [oA] at ho ⊢
  rw [Ra h] at ho
  cases hq : kX E call o e' s with
  | none => rw [hq] at ho; cases ho
  | some q =>
   obtain ⟨v, s'⟩ := q
   rw [hq] at ho
   exact Ji (h.bind o.dst v) ho
structure oO (E : ak) (call : en) : Prop where
 one : ∀ tgt args s v rd s', calm E tgt = true -> call none tgt args s = some (.ret v, rd, s') -> s' = s
 two : ∀ tgt args s v rd s', calm E tgt = true -> jO tgt args = true -> call none tgt args s = some (.ret v, rd, s') -> ∀ s2, call none tgt args s2 = some (.ret v, rd, s2)
theorem G1 {o : aK} (hq : o.op.quiet = true) {e : bF} {s s1 : St} {v : AV} (h : kX E call o e s = some (v, s1)) : s1 = s /\ ∀ s', kX E call o e s' = some (v, s') := by
 unfold kX at h ⊢
 split at h
 ·cases h
 ·cases h; exact ⟨rfl, fun _ => rfl⟩
 ·cases ho : o.op <;> rw [ho] at hq <;> have hq2 := hq <;> (try cases hq2) <;> simp only [ho, kN] at h ⊢ <;>
   first
   | (rw [Jd hq s s] at h
      simp only [ew] at h
      split at h
      ·rename_i u hu
       cases h
       refine ⟨rfl, fun s' => ?_⟩
       rw [Jd hq s' s, hu]; rfl
      ·cases h)
theorem F4 (ev : bN -> AV) (s : St) : ∀ cs : List yk, v8 ev s s cs = true
 | [] => rfl
 | c :: r => by simp only [v8, F4 ev s r, beq_self_eq_true, Bool.and_self]
theorem Ow {o : aK} {e : bF} (h : Qb E o e = some true) : BM (bN.ev E e) o = true := by
 unfold Qb at h
 split at h
 ·split at h
  ·assumption
  ·cases h
 ·rename_i hx; exact absurd h hx
theorem TP {ev : bN -> AV} {agg : Bool} {n : Nat} {a : AV} {c : yk} (hc : c.a = .c .nilp) (h : If ev agg n a c = true) : ∃ x o, a = .rptr x o := by
 unfold If at h
 rw [hc] at h
 cases a <;> simp at h
 exact ⟨_, _, rfl⟩
theorem TO {ev : bN -> AV} {agg : Bool} {n : Nat} {a : AV} {c : yk} {s s' : St} (h : If ev agg n a c = true) (hl : BI s c.agg c.n (c.addr ev) = BI s' c.agg c.n (c.addr ev)) : lV s agg n a = lV s' agg n a := by
 unfold If at h
 split at h
 ·split at h
  ·rfl
  ·cases h
 ·simp only [Bool.or_eq_true, Bool.and_eq_true, beq_iff_eq] at h
  rcases h with ⟨⟨h1, h2⟩, h3⟩ | h
  ·rw [h1, h2, h3] at hl
   unfold BI at hl
   split at hl
   ·rfl
   ·exact hl
  ·split at h
   ·rename_i i o z m j p hadr
    simp only [beq_iff_eq] at h
    subst h
    rw [hadr] at hl
    simp only [BI] at hl
    have : s.cell? i = s'.cell? i := by
     cases h1 : s.cell? i <;> cases h2 : s'.cell? i <;> rw [h1, h2] at hl <;> simp only [Option.map_none, Option.map_some, Option.some.injEq, AV.agg.injEq] at hl <;> first | rfl | (rw [hl]) | (cases hl)
    simp only [lV, this]
   ·cases h
theorem Jh (hc : oO E call) {o : aK} (hq : o.free = true) {e : bF} {s s1 : St} {v : AV} (h : kX E call o e s = some (v, s1)) : s1 = s /\ ∀ s', kX E call o e s' = some (v, s') := by
 unfold aK.free at hq
 simp only [Bool.or_eq_true, Bool.and_eq_true] at hq
 rcases hq with (hq | ⟨hq, hp⟩) | hq
 ·exact G1 hq h
 ·unfold kX at h ⊢
  split at h
  ·cases h
  ·cases h; exact ⟨rfl, fun _ => rfl⟩
  ·cases ho : o.op with
   | call g args =>
    simp only [ho] at h ⊢
    split at h
    ·cases h
    ·rename_i h1
     simp only [if_neg h1]
     split at h
     ·cases h
     ·rename_i h2
      simp only [if_neg h2]
      have hmp : o.mp = true := by unfold aK.pl at hp; simp only [Bool.and_eq_true] at hp; exact hp.1
      simp only [hmp, Bool.true_and, Bool.not_eq_true', Bool.not_eq_false] at h1
      simp only [hp, Bool.true_and, Bool.not_eq_true', Bool.not_eq_false] at h2
      split at h
      ·rename_i v' rd s2 hcall
       split at h
       ·cases h
        have e1 := hc.one _ _ _ _ _ _ h1 hcall
        refine ⟨e1, fun s' => ?_⟩
        rw [hc.two _ _ _ _ _ _ h1 h2 hcall s']
        simp only [F4, if_true]
       ·cases h
      ·cases h
   | _ => rw [ho] at hq; cases hq
 ·unfold aK.fl at hq
  simp only [Bool.and_eq_true, List.any_eq_true, beq_iff_eq] at hq
  obtain ⟨hl, c, hm, hca⟩ := hq
  unfold kX at h ⊢
  split at h
  ·cases h
  ·cases h; exact ⟨rfl, fun _ => rfl⟩
  ·rename_i hgo
   have hpin := Ow hgo
   cases ho : o.op with
   | load agg n a =>
    simp only [BM, ho, List.all_eq_true] at hpin
    obtain ⟨x, p, hx⟩ := TP hca (hpin c hm)
    simp only [ho, kN, iS, hx, lV, ew] at h ⊢
    split at h
    ·rename_i u hu
     cases h
     exact ⟨rfl, fun _ => rfl⟩
    ·cases h
   | _ => rw [ho] at hl; cases hl
theorem tG {o : aK} (hq : o.op.isLoad = true) {e : bF} {s s1 : St} {v : AV} (h : kX E call o e s = some (v, s1)) :
  s1 = s /\ ∀ s', (∀ agg n a, o.op = .load agg n a -> BM (bN.ev E e) o = true -> lV s' agg n (a.ev E e) = lV s agg n (a.ev E e)) -> kX E call o e s' = some (v, s') := by
 unfold kX at h ⊢
 split at h
 ·cases h
 ·cases h; exact ⟨rfl, fun _ _ => rfl⟩
 ·rename_i hgo
  have hpin := Ow hgo
  cases ho : o.op with
  | load agg n a =>
   simp only [ho, kN, iS] at h ⊢
   simp only [ew] at h ⊢
   split at h
   ·rename_i u hu
    cases h
    refine ⟨rfl, fun s' hl => ?_⟩
    rw [hl agg n a rfl hpin, hu]
   ·cases h
  | _ => rw [ho] at hq; cases hq
theorem DF {ev : bN -> AV} {s s' : St} : ∀ {cs : List yk} {c : yk}, v8 ev s s' cs = true -> c ∈ cs -> BI s c.agg c.n (c.addr ev) = BI s' c.agg c.n (c.addr ev)
 | [], _, _, h => by cases h
 | d :: r, c, h, hm => by
  simp only [v8, Bool.and_eq_true, beq_iff_eq] at h
  rcases List.mem_cons.1 hm with rfl | hm
  ·exact h.1
  ·exact DF h.2 hm
theorem Jg {o l : aK} (hp : Kq o l = true) (hcl : (o.op.isCall || o.op.isStore) = true) {e : bF} {s s1 : St} {v : AV} (h : kX E call o e s = some (v, s1)) :
  ∀ agg n a, l.op = .load agg n a -> BM (bN.ev E e) l = true -> lV s1 agg n (a.ev E e) = lV s agg n (a.ev E e) := by
 intro agg n a hl hpin
 have key : ∀ {s s1 : St}, v8 (bN.ev E e) s s1 o.chk = true -> lV s1 agg n (a.ev E e) = lV s agg n (a.ev E e) := by
  intro s s1 hch
  simp only [Kq, hl, Bool.or_eq_true, List.any_eq_true, List.contains_iff_mem] at hp
  rcases hp with hp | ⟨x, hx, hp⟩
  ·have := DF hch hp
   simp only [yk.addr] at this
   unfold BI at this
   split at this
   ·rename_i hm; simp only [hm, lV]
   ·exact this.symm
  ·simp only [BM, hl, List.all_eq_true] at hpin
   exact (TO (hpin x hx) (DF hch hp)).symm
 unfold kX at h
 split at h
 ·cases h
 ·cases h; rfl
 ·cases ho : o.op with
  | call g args =>
   simp only [ho] at h
   split at h
   ·cases h
   ·split at h
    ·cases h
    split at h
    ·rename_i v' rd s2 hcall
     split at h
     ·rename_i hch
      cases h
      exact key hch
     ·cases h
    ·cases h
  | store n' a' v' =>
   simp only [ho, kN] at h
   generalize iS _ _ _ = q at h
   cases q with
   | none => cases h
   | some y =>
    simp only [Le] at h
    split at h
    ·rename_i hch
     cases h
     exact key hch
    ·cases h
  | _ => rw [ho] at hcl; cases hcl
theorem G2 (hc : oO E call) {o : aK} (hp : o.still = true) {e : bF} {s s1 : St} {v : AV} (h : kX E call o e s = some (v, s1)) : s1 = s := by
 unfold aK.still at hp
 simp only [Bool.or_eq_true] at hp
 rcases hp with (hp | hp) | hp
 ·exact (G1 hp h).1
 ·exact (tG hp h).1
 ·unfold kX at h
  split at h
  ·cases h
  ·cases h; rfl
  ·cases ho : o.op with
   | call g args =>
    rw [ho] at hp
    simp only [ho] at h
    split at h
    ·cases h
    ·rename_i hmp
     split at h
     ·cases h
     split at h
     ·rename_i v' rd s2 hcall
      split at h
      ·cases h
       simp only at hp
       rw [hp] at hmp
       simp only [Bool.true_and, Bool.not_eq_true', Bool.not_eq_false] at hmp
       exact hc.one _ _ _ _ _ _ hmp hcall
      ·cases h
     ·cases h
   | slice sz x lo hi mx =>
    simp only [ho, kN, iS, ew] at h
    split at h
    ·cases h; rfl
    ·cases h
   | lookup c z m k ok =>
    simp only [ho, kN, iS] at h
    split at h
    ·split at h
     ·cases h
     ·split at h
      ·cases h
      ·cases h; rfl
      ·cases h; rfl
    ·cases h
   | len c x =>
    simp only [ho, kN, iS] at h
    split at h <;> first | (cases h; rfl) | skip
    ·split at h
     ·cases h; rfl
     ·cases h
    ·cases h
   | _ => rw [ho] at hp; cases hp
theorem KW {a b : aK} (h : ML a b = true) : (∀ d, a.dst = some d -> d ∉ b.reads /\ b.dst ≠ some d) /\ (∀ d, b.dst = some d -> d ∉ a.reads /\ a.dst ≠ some d) := by
 unfold ML at h
 simp only [Bool.and_eq_true] at h
 refine ⟨fun d hd => ?_, fun d hd => ?_⟩
 ·have := h.1; rw [hd] at this; simp at this; exact this
 ·have := h.2; rw [hd] at this; simp at this; exact this
theorem Em {o : aK} {d : Option Nat} (h : ∀ x, d = some x -> x ∉ o.reads) (v : AV) (e : bF) (s : St) : kX E call o (BA d v e) s = kX E call o e s := by
 refine GZ (fun i hi => ?_) s
 cases d with
 | none => rfl
 | some d =>
  simp only [BA, bF.get]
  rw [if_neg]
  rintro rfl
  exact h i rfl hi
theorem Nx {s : St} {b : AB} {agg : Bool} {n : Nat} {a v : AV} (h : lV s agg n a = some v) : lV (s.push b) agg n a = some v := by
 unfold lV at h ⊢
 split at h
 ·rename_i i off
  split at h
  ·rename_i cs hcs
   have : (s.push b).cell? i = some cs := by
    unfold St.cell? at hcs ⊢
    split at hcs
    ·rename_i cs' hbl
     cases hcs
     have hi := (List.getElem?_eq_some_iff.1 hbl).1
     show (match (s.bl ++ [b])[i]? with | some (.cells cs) => some cs | _ => none) = _; rw [List.getElem?_append_left hi, hbl]
    ·cases hcs
   simp only [this]; exact h
  ·cases h
 ·split at h
  ·rename_i cs hcs; exact h
  ·cases h
 ·cases h
theorem NF {o : aK} (hq : o.op.isAlloc = true) {e : bF} {s s1 : St} {v : AV} (h : kX E call o e s = some (v, s1)) : s1 = s \/ ∃ b, s1 = s.push b := by
 unfold kX at h
 split at h
 ·cases h
 ·cases h; exact .inl rfl
 ·cases ho : o.op with
  | alloc z =>
   simp only [ho, kN, iS] at h
   cases h; exact .inr ⟨_, rfl⟩
  | box n x =>
   simp only [ho, kN, iS] at h
   split at h
   ·split at h
    ·cases h; exact .inr ⟨_, rfl⟩
    ·cases h
   ·cases h
  | _ => rw [ho] at hq; cases hq
theorem G0 {o : aK} (hq : o.op.isLoad = true) {e : bF} {s s1 : St} {v : AV} (h : kX E call o e s = some (v, s1)) (b : AB) : kX E call o e (s.push b) = some (v, s.push b) := by
 unfold kX at h ⊢
 split at h
 ·cases h
 ·cases h; rfl
 ·cases ho : o.op with
  | load agg n a =>
   simp only [ho, kN, iS, ew] at h ⊢
   split at h
   ·rename_i u hu
    cases h
    rw [Nx hu]
   ·cases h
  | _ => rw [ho] at hq; cases hq
theorem Mg {o : aK} (hq : o.op.isApp = true) {e : bF} {s s1 : St} {v : AV} (h : kX E call o e s = some (v, s1)) : ∃ tk, s1 = { s with tk := tk } := by
 unfold kX at h
 split at h
 ·cases h
 ·cases h; exact ⟨s.tk, rfl⟩
 ·cases ho : o.op with
  | app sz x y =>
   simp only [ho, kN, iS] at h
   unfold oc at h
   split at h
   ·split at h
    ·split at h
     ·cases h; exact ⟨s.tk, rfl⟩
     ·split at h
      ·cases h
      ·cases h; exact ⟨_, rfl⟩
      ·cases h; exact ⟨_, rfl⟩
      ·split at h
       ·cases h; exact ⟨_, rfl⟩
       ·cases h
    ·cases h
   ·cases h
  | _ => rw [ho] at hq; cases hq
theorem L8 (s : St) (tk : List Nat) (agg : Bool) (n : Nat) (a : AV) : lV { s with tk := tk } agg n a = lV s agg n a := by
 cases a <;> simp [lV, St.cell?]
theorem NX (hc : oO E call) {a b : aK} (hs : uE a b = true) {e : bF} {s s1 s2 : St} {va vb : AV} (ha : kX E call a e s = some (va, s1)) (hb : kX E call b e s1 = some (vb, s2)) :
  ∃ s1', kX E call b e s = some (vb, s1') /\ kX E call a e s1' = some (va, s2) := by
 unfold uE at hs
 simp only [Bool.and_eq_true, Bool.or_eq_true] at hs
 rcases hs.2 with ((((((hq | hq) | hq) | hq) | hq) | hq) | hq) | hq
 ·obtain ⟨rfl, h⟩ := Jh hc hq ha
  exact ⟨s2, hb, h s2⟩
 ·obtain ⟨rfl, h⟩ := Jh hc hq hb
  exact ⟨s, h s, ha⟩
 ·have h1 := G2 hc hq.1 ha
  have h2 := G2 hc hq.2 hb
  subst h1; subst h2
  exact ⟨_, hb, ha⟩
 ·obtain ⟨rfl, h⟩ := tG hq.1.1 ha
  exact ⟨s2, hb, h s2 fun agg n x hx hp => Jg hq.2 (by simpa using hq.1.2) hb agg n x hx hp⟩
 ·obtain ⟨rfl, h⟩ := tG hq.1.2 hb
  exact ⟨s, h s fun agg n x hx hp => (Jg hq.2 (by simpa using hq.1.1) ha agg n x hx hp).symm, ha⟩
 ·have h1 := (tG hq.1 ha).1
  subst h1
  rcases NF hq.2 hb with rfl | ⟨b', rfl⟩
  ·exact ⟨_, hb, ha⟩
  ·exact ⟨_, hb, G0 hq.1 ha b'⟩
 ·obtain ⟨rfl, h⟩ := tG hq.1 ha
  obtain ⟨tk, rfl⟩ := Mg hq.2 hb
  exact ⟨_, hb, h _ fun agg n x _ _ => L8 _ _ _ _ _⟩
 ·obtain ⟨rfl, h⟩ := tG hq.2 hb
  obtain ⟨tk, rfl⟩ := Mg hq.1 ha
  exact ⟨s, h _ fun agg n x _ _ => (L8 _ _ _ _ _).symm, ha⟩
theorem Rs (hc : oO E call) {a b : aK} (hs : uE a b = true) {r : List aK} {e : bF} {s : St} {e' : bF} {s' : St} (h : oA E call (a :: b :: r) e s = some (e', s')) :
  ∃ e'', oA E call (b :: a :: r) e s = some (e'', s') /\ vN e' e'' := by
 have hap := KW (a := a) (b := b) (by unfold uE at hs; simp only [Bool.and_eq_true] at hs; exact hs.1)
 simp only [oA] at h ⊢
 cases ha : kX E call a e s with
 | none => rw [ha] at h; cases h
 | some q =>
  obtain ⟨va, s1⟩ := q
  rw [ha] at h
  simp only at h
  rw [Em (fun x hx => (hap.1 x hx).1)] at h
  cases hb : kX E call b e s1 with
  | none => rw [hb] at h; cases h
  | some q =>
   obtain ⟨vb, s2⟩ := q
   rw [hb] at h
   simp only at h
   obtain ⟨s1', h1, h2⟩ := NX hc hs ha hb
   rw [h1]
   simp only
   rw [Em (fun x hx => (hap.2 x hx).1), h2]
   refine Ji (fun i => ?_) h
   cases had : a.dst with
   | none => rfl
   | some d =>
    cases hbd : b.dst with
    | none => rfl
    | some d' =>
     have hne : d' ≠ d := by
      have := (hap.1 d had).2
      rw [hbd] at this
      simpa using this
     simp only [BA, bF.get]
     by_cases h1 : i = d
     ·subst h1; rw [if_pos rfl, if_pos rfl, if_neg (Ne.symm hne)]
     ·rw [if_neg h1, if_neg h1]
theorem S2 (hc : oO E call) {b : aK} {r : List aK} : ∀ {l : List aK} (_ : ∀ a ∈ l, uE a b = true) {e : bF} {s : St} {e' : bF} {s' : St} (_ : oA E call (l ++ b :: r) e s = some (e', s')),
  ∃ e'', oA E call (b :: (l ++ r)) e s = some (e'', s') /\ vN e' e''
 | [], _, _, _, e', _, h => ⟨e', h, fun _ => rfl⟩
 | a :: l, hl, e, s, e', s', h => by
  simp only [List.cons_append, oA] at h
  cases ha : kX E call a e s with
  | none => rw [ha] at h; cases h
  | some q =>
   obtain ⟨va, s1⟩ := q
   rw [ha] at h
   obtain ⟨e1, h1, q1⟩ := S2 hc (fun x hx => hl x (List.mem_cons_of_mem _ hx)) h
   have h2 : oA E call (a :: b :: (l ++ r)) e s = some (e1, s') := by
    simp only [oA, ha] at h1 ⊢
    exact h1
   obtain ⟨e2, h3, q2⟩ := Rs hc (hl a (List.mem_cons_self ..)) h2
   exact ⟨e2, h3, fun i => (q1 i).trans (q2 i)⟩
end
open Go
section
variable {E : ak} {call : en} {cops : Array Oper} {ios : List aK} {ah : List (List Nat)}
theorem I9 {o : Oper} {d : Nat} : d ∈ BN o ↔ ∃ x ∈ o.after.toList, Region.binds .any x = true /\ x.on = d := by
 simp [BN, and_assoc]
theorem CO : ∀ {os : List Oper} {n : Nat}, vi n os = true -> ∀ (i : Nat) (o : Oper), os[i]? = some o -> ∀ d ∈ BN o, d < n + i
 | [], _, _, _, _, h => by simp at h
 | x :: os, n, hk, i, o, h => by
  simp only [vi, Bool.and_eq_true, List.all_eq_true, decide_eq_true_eq] at hk
  cases i with
  | zero => simp at h; subst h; simpa using hk.1
  | succ i =>
   simp at h
   intro d hd
   have := CO hk.2 i o h d hd
   omega
theorem Cu : ∀ {os : List Oper} {n : Nat}, u7 ah n os = true -> ∀ (i : Nat) (o : Oper), os[i]? = some o -> ∀ j ∈ ah.getD (n + i) [], j ∈ BN o \/ ∃ d ∈ BN o, j ∈ ah.getD d []
 | [], _, _, _, _, h => by simp at h
 | x :: os, n, hk, i, o, h => by
  simp only [u7, Bool.and_eq_true, List.all_eq_true, Bool.or_eq_true, List.contains_iff_mem, List.any_eq_true] at hk
  cases i with
  | zero => simp only [List.getElem?_cons_zero, Option.some.injEq] at h; subst h; exact hk.1
  | succ i =>
   simp only [List.getElem?_cons_succ] at h
   have := Cu hk.2 i o h
   rwa [show n + (i + 1) = n + 1 + i by omega]
theorem Ja {listed : Array Bool} {i : Nat} : i ∈ Region.ready .any cops listed ↔ i < cops.size /\ listed.getD i true = false /\ ∃ o, cops[i]? = some o /\ ∀ d ∈ BN o, listed.getD d false = true := by
 simp only [Region.ready, List.mem_filter, List.mem_range, Bool.and_eq_true, Bool.not_eq_true']
 refine and_congr_right fun hi => and_congr_right fun _ => ?_
 rw [Array.getElem?_eq_getElem hi]
 simp only [Option.map_some, Option.getD_some, Array.all_eq_true', Bool.or_eq_true, Bool.not_eq_true', Option.some.injEq, exists_eq_left']
 constructor
 ·intro h d hd
  obtain ⟨x, hx, hb, rfl⟩ := I9.1 hd
  rcases h x (Array.mem_toList_iff.1 hx) with h | h
  ·rw [hb] at h; cases h
  ·exact h
 ·intro h x hx
  cases hb : Region.binds .any x with
  | false => exact .inl rfl
  | true => exact .inr (h _ (I9.2 ⟨x, Array.mem_toList_iff.2 hx, hb, rfl⟩))
def tb (n : Nat) (listed : Array Bool) : List Nat := (List.range n).filter fun i => !listed.getD i true
theorem LO (hed : vi 0 cops.toList = true) (hah : u7 ah 0 cops.toList = true) :
  ∀ (fuel t : Nat) (listed : Array Bool), listed.size = cops.size -> (∀ i, listed.getD i false = true -> ∀ j ∈ ah.getD i [], listed.getD j false = true) -> (tb cops.size listed).length = fuel ->
   (Region.linearise.go .any cops fuel t listed []).Perm (tb cops.size listed) /\ ∀ x y, List.Sublist [y, x] (Region.linearise.go .any cops fuel t listed []) -> x ∉ ah.getD y []
 | 0, t, listed, hsz, hdown, hlen => by
  have hn : tb cops.size listed = [] := List.eq_nil_of_length_eq_zero hlen
  have h0 : Region.linearise.go .any cops 0 t listed [] = [] := by simp [Region.linearise.go]
  rw [h0, hn]
  exact ⟨.refl _, fun x y h => by cases h⟩
 | fuel + 1, t, listed, hsz, hdown, hlen => by
  have hmemrem : ∀ i, i ∈ tb cops.size listed ↔ i < cops.size /\ listed.getD i true = false := fun i => by simp [tb]
  have hsame : ∀ i, i < cops.size -> listed.getD i true = listed.getD i false := fun i hi => by
   simp only [Array.getD_eq_getD_getElem?]
   rw [Array.getElem?_eq_getElem (by omega)]; rfl
  have hsorted : (tb cops.size listed).Pairwise (· < ·) := List.Pairwise.filter _ List.pairwise_lt_range
  -- the least that is left can go
  have hne : Region.ready .any cops listed ≠ [] := by
   cases hr : tb cops.size listed with
   | nil => rw [hr] at hlen; cases hlen
   | cons m r =>
    have hm := (hmemrem m).1 (by rw [hr]; exact List.mem_cons_self ..)
    have hm' : m ∈ Region.ready .any cops listed := by
     refine Ja.2 ⟨hm.1, hm.2, cops[m], Array.getElem?_eq_getElem hm.1, fun d hd => ?_⟩
     have hlt : d < m := by simpa using CO hed m cops[m] (by rw [Array.getElem?_toList, Array.getElem?_eq_getElem hm.1]) d hd
     cases hd : listed.getD d false with
     | true => rfl
     | false =>
      have : d ∈ tb cops.size listed := (hmemrem d).2 ⟨by omega, by rw [hsame d (by omega)]; exact hd⟩
      rw [hr] at this hsorted
      rcases List.mem_cons.1 this with rfl | h
      ·omega
      ·have := (List.pairwise_cons.1 hsorted).1 d h; omega
    intro h0; rw [h0] at hm'; cases hm'
  have hlt : t % (Region.ready .any cops listed).length < (Region.ready .any cops listed).length := Nat.mod_lt _ (List.length_pos_iff.2 hne)
  simp only [Region.linearise.go]
  change ((match (Region.ready .any cops listed)[t % (Region.ready .any cops listed).length]? with
   | some i => Region.linearise.go .any cops fuel (t / (Region.ready .any cops listed).length) (listed.setIfInBounds i true) [i]
   | none => [].reverse)).Perm (tb cops.size listed) /\ ∀ x y, List.Sublist [y, x] (match (Region.ready .any cops listed)[t % (Region.ready .any cops listed).length]? with
   | some i => Region.linearise.go .any cops fuel (t / (Region.ready .any cops listed).length) (listed.setIfInBounds i true) [i]
   | none => [].reverse) -> x ∉ ah.getD y []
  rw [List.getElem?_eq_getElem hlt]
  have hmem := List.getElem_mem hlt
  generalize (Region.ready .any cops listed)[t % (Region.ready .any cops listed).length] = i at hmem
  obtain ⟨hi, hil, o, ho, hpre⟩ := Ja.1 hmem
  simp only
  rw [linearise_go_acc, List.reverse_singleton, List.singleton_append]
  have hahi : ∀ j ∈ ah.getD i [], listed.getD j false = true := by
   intro j hj
   have := Cu hah i o (by rw [Array.getElem?_toList]; exact ho) j (by simpa using hj)
   rcases this with h | ⟨d, hd, hj⟩
   ·exact hpre j h
   ·exact hdown d (hpre d hd) j hj
  obtain ⟨l, r, hlr⟩ := List.append_of_mem ((hmemrem i).2 ⟨hi, hil⟩)
  rw [hlr] at hsorted
  have hpw := List.pairwise_append.1 hsorted
  have hl : ∀ a ∈ l, a < i := fun a ha => hpw.2.2 a ha i (List.mem_cons_self ..)
  have hr : ∀ a ∈ r, i < a := fun a ha => (List.pairwise_cons.1 hpw.2.1).1 a ha
  have hrem' : tb cops.size (listed.setIfInBounds i true) = l ++ r := by
   have h1 : tb cops.size (listed.setIfInBounds i true) = (tb cops.size listed).filter fun j => decide (j ≠ i) := by
    simp only [tb, List.filter_filter]
    refine List.filter_congr fun j _ => ?_
    simp only [Array.getD_eq_getD_getElem?, Array.getElem?_setIfInBounds]
    by_cases hj : i = j
    ·subst hj
     have : i < listed.size := by omega
     simp [this]
    ·simp [hj, Ne.symm hj]
   rw [h1, hlr, List.filter_append, List.filter_cons_of_neg (by simp), List.filter_eq_self.2 fun a ha => by have := hl a ha; simp; omega, List.filter_eq_self.2 fun a ha => by have := hr a ha; simp; omega]
  have hlen' : (tb cops.size (listed.setIfInBounds i true)).length = fuel := by
   rw [hrem', List.length_append]
   rw [hlr, List.length_append, List.length_cons] at hlen
   omega
  have hset : ∀ j, (listed.setIfInBounds i true).getD j false = true ↔ j = i \/ listed.getD j false = true := by
   intro j
   simp only [Array.getD_eq_getD_getElem?, Array.getElem?_setIfInBounds]
   by_cases hj : i = j
   ·subst hj
    have : i < listed.size := by omega
    simp [this]
   ·simp [hj, Ne.symm hj]
  obtain ⟨p1, p2⟩ := LO hed hah fuel (t / (Region.ready .any cops listed).length) (listed.setIfInBounds i true) (by simpa using hsz) (by
   intro j hj k hk
   rw [hset] at hj ⊢
   rcases hj with rfl | hj
   ·exact .inr (hahi k hk)
   ·exact .inr (hdown j hj k hk)) hlen'
  refine ⟨?_, fun x y hxy => ?_⟩
  ·rw [hlr]
   rw [hrem'] at p1
   exact (List.Perm.cons i p1).trans List.perm_middle.symm
  ·cases hxy with
   | cons _ h => exact p2 x y h
   | cons_cons _ h =>
    intro hx
    have hxs : x ∈ Region.linearise.go .any cops fuel (t / (Region.ready .any cops listed).length) (listed.setIfInBounds i true) [] := List.singleton_sublist.1 h
    have := p1.mem_iff.1 hxs
    rw [hrem'] at this
    have hxr : x ∈ tb cops.size listed := by
     rw [hlr]
     rcases List.mem_append.1 this with h | h
     ·exact List.mem_append_left _ h
     ·exact List.mem_append_right _ (List.mem_cons_of_mem _ h)
    obtain ⟨hx1, hx2⟩ := (hmemrem x).1 hxr
    rw [hsame x hx1, hahi x hx] at hx2
    cases hx2
theorem uA : ∀ (l : List aK), (List.range l.length).map (fun i => l.getD i default) = l := by
 intro l
 refine List.ext_getElem (by simp) fun i h1 h2 => ?_
 simp at h1
 simp [h1]
theorem xF (hc : oO E call) : ∀ (σ ord : List Nat) {e : bF} {s : St} {e' : bF} {s' : St}, ord.Nodup -> σ.Perm ord -> (∀ x y, List.Sublist [x, y] ord -> List.Sublist [y, x] σ -> uE (ios.getD x default) (ios.getD y default) = true) ->
  oA E call (ord.map fun i => ios.getD i default) e s = some (e', s') -> ∃ e'', oA E call (σ.map fun i => ios.getD i default) e s = some (e'', s') /\ vN e' e''
 | [], ord, e, s, e', s', hn, hp, hsw, h => by
  rw [hp.symm.eq_nil] at h
  simp only [List.map_nil, oA, Option.some.injEq, Prod.mk.injEq] at h
  obtain ⟨rfl, rfl⟩ := h
  exact ⟨e, by simp [oA], fun _ => rfl⟩
 | i :: σ, ord, e, s, e', s', hn, hp, hsw, h => by
  obtain ⟨l, r, hlr⟩ := List.append_of_mem (hp.mem_iff.1 (List.mem_cons_self ..))
  subst hlr
  have hp' : σ.Perm (l ++ r) := (List.perm_cons i).1 (hp.trans List.perm_middle)
  have hil : i ∉ l := by
   intro hi
   have := (List.nodup_append.1 hn).2.2 i hi i (List.mem_cons_self ..)
   exact this rfl
  have hfr : ∀ a ∈ l.map (fun i => ios.getD i default), uE a (ios.getD i default) = true := by
   intro a ha
   obtain ⟨j, hj, rfl⟩ := List.mem_map.1 ha
   have hjσ : j ∈ σ := hp'.mem_iff.2 (List.mem_append_left _ hj)
   refine hsw j i ?_ (List.Sublist.cons_cons i (List.singleton_sublist.2 hjσ))
   obtain ⟨l1, l2, rfl⟩ := List.append_of_mem hj
   have h1 : List.Sublist [j] (l1 ++ j :: l2) := List.singleton_sublist.2 (by simp)
   exact List.Sublist.append h1 (List.singleton_sublist.2 (List.mem_cons_self ..) : List.Sublist [i] (i :: r))
  rw [List.map_append, List.map_cons] at h
  obtain ⟨e1, h1, q1⟩ := S2 hc hfr h
  rw [<- List.map_append] at h1
  simp only [List.map_cons, oA] at h1 ⊢
  cases hq : kX E call (ios.getD i default) e s with
  | none => rw [hq] at h1; cases h1
  | some q =>
   obtain ⟨v, s1⟩ := q
   rw [hq] at h1
   simp only at h1 ⊢
   have hsub : List.Sublist (l ++ r) (l ++ i :: r) := List.Sublist.append_left (List.sublist_cons_self i r) l
   obtain ⟨e2, h2, q2⟩ := xF hc σ (l ++ r) (hn.sublist hsub) hp' (fun x y h1 h2 => hsw x y (h1.trans hsub) (h2.trans (List.sublist_cons_self i σ))) h1
   exact ⟨e2, h2, fun x => (q1 x).trans (q2 x)⟩
theorem ES (h1 : vi 0 cops.toList = true) (h2 : u7 (rB cops.toList) 0 cops.toList = true) (t : Nat) :
  (Region.schedule true cops t).Perm (List.range cops.size) /\ ∀ x y, List.Sublist [y, x] (Region.schedule true cops t) -> x ∉ (rB cops.toList).getD y [] := by
 simp only [Region.schedule, Bool.true_or, if_true, Region.linearise]
 have hrem : tb cops.size (Array.replicate cops.size false) = List.range cops.size := by
  refine List.filter_eq_self.2 fun a ha => ?_
  simp only [List.mem_range] at ha
  simp [ha]
 have := LO (ah := rB cops.toList) h1 h2 cops.size t (Array.replicate cops.size false) (by simp) (by
   intro i hi
   exfalso
   simp only [Array.getD_eq_getD_getElem?, Array.getElem?_replicate] at hi
   split at hi <;> simp at hi) (by rw [hrem]; simp)
 rw [hrem] at this
 exact this
theorem Ah (hc : oO E call) (h1 : vi 0 cops.toList = true) (h2 : u7 (rB cops.toList) 0 cops.toList = true) (t : Nat) {ord : List Nat} (hn : ord.Nodup) (hp : ord.Perm (List.range cops.size))
  (hsw : ∀ x y, List.Sublist [x, y] ord -> List.Sublist [y, x] (Region.schedule true cops t) -> x ∉ (rB cops.toList).getD y [] -> uE (ios.getD x default) (ios.getD y default) = true)
  {e : bF} {s : St} {f f' : Fr} {e' : bF} {s' : St} {p : Option AV} (h : pD E call true (ord.map fun i => ios.getD i default) f e s = some (p, f', e', s')) :
  ∃ e'', pD E call true ((Region.schedule true cops t).map fun i => ios.getD i default) f e s = some (p, f', e'', s') /\ vN e' e'' /\ ∀ i ∈ Region.schedule true cops t, i < cops.size := by
 simp only [Je] at h ⊢
 obtain ⟨hσ, hah⟩ := ES h1 h2 t
 cases ho : oA E call (ord.map fun i => ios.getD i default) e s with
 | none => rw [ho] at h; cases h
 | some q =>
  obtain ⟨e1, s1⟩ := q
  rw [ho] at h
  simp only [Option.some.injEq, Prod.mk.injEq] at h
  obtain ⟨rfl, rfl, rfl, rfl⟩ := h
  obtain ⟨e2, h4, h5⟩ := xF (ios := ios) hc (Region.schedule true cops t) ord hn (hσ.trans hp.symm) (fun x y a b => hsw x y a b (hah x y b)) ho
  exact ⟨e2, by rw [h4], h5, fun i hi => by simpa using hσ.mem_iff.1 hi⟩
theorem Rr : ∀ {n k x y : Nat}, List.Sublist [x, y] (List.range' k n) -> x < y /\ y < k + n
 | 0, _, _, _, h => by cases h
 | n + 1, k, x, y, h => by
  rw [List.range'_succ] at h
  cases h with
  | cons _ h => have := Rr h; omega
  | cons_cons _ h =>
   have := List.singleton_sublist.1 h
   simp only [List.mem_range'_1] at this
   omega
theorem He (hc : oO E call) (hlen : ios.length = cops.size) (hk : M6 cops.toList ios = true) (t : Nat) {e : bF} {s : St} {f f' : Fr} {e' : bF} {s' : St} {p : Option AV} (h : pD E call true ios f e s = some (p, f', e', s')) :
  ∃ e'', pD E call true ((Region.schedule true cops t).map fun i => ios.getD i default) f e s = some (p, f', e'', s') /\ vN e' e'' /\ ∀ i ∈ Region.schedule true cops t, i < cops.size := by
 simp only [M6, Bool.and_eq_true] at hk
 obtain ⟨⟨h1, h2⟩, h3⟩ := hk
 refine Ah hc h1 h2 t (ord := List.range cops.size) List.nodup_range (.refl _) (fun x y a _ c => ?_) (by rw [<- hlen, uA]; exact h)
 rw [List.range_eq_range'] at a
 have := Rr a
 simp only [OT, List.all_eq_true, List.mem_range, Bool.or_eq_true, List.contains_iff_mem] at h3
 rcases h3 y (by omega) x this.1 with h | h
 ·exact absurd h c
 ·exact h
theorem EK {p q : Nat} : ∀ {l : List Nat}, GY ah ios p q l = true -> l.Nodup
 | [], _ => List.nodup_nil
 | y :: r, h => by
  simp only [GY, Bool.and_eq_true, Bool.not_eq_true', List.contains_eq_mem, decide_eq_false_iff_not] at h
  exact List.nodup_cons.2 ⟨h.1.2, EK h.2⟩
theorem Cg {p q : Nat} : ∀ {l : List Nat}, GY ah ios p q l = true -> ∀ x y, List.Sublist [x, y] l -> x ∈ ah.getD y [] \/ uE (ios.getD x default) (ios.getD y default) = true \/ (x = q /\ y = p)
 | [], _, x, y, hs => by cases hs
 | z :: r, h, x, y, hs => by
  simp only [GY, Bool.and_eq_true, List.all_eq_true, Bool.or_eq_true, beq_iff_eq, List.contains_iff_mem] at h
  cases hs with
  | cons _ hs => exact Cg h.2 x y hs
  | cons_cons _ hs =>
   rcases h.1.1 y (List.singleton_sublist.1 hs) with (h | h) | h
   ·exact .inl h
   ·exact .inr (.inl h)
   ·exact .inr (.inr h)
theorem OS : ∀ {σ : List Nat} {p q : Nat}, σ.Nodup -> List.Sublist [p, q] σ -> ¬ List.Sublist [q, p] σ
 | [], _, _, _, h, _ => by cases h
 | a :: σ, p, q, hn, h, h' => by
  have hn' := List.nodup_cons.1 hn
  cases h with
  | cons _ h =>
   cases h' with
   | cons _ h' => exact OS hn'.2 h h'
   | cons_cons _ h' => exact hn'.1 (h.subset (by simp))
  | cons_cons _ h =>
   cases h' with
   | cons _ h' => exact hn'.1 (h'.subset (by simp))
   | cons_cons _ h' => exact hn'.1 (List.singleton_sublist.1 h)
theorem O1 (hc : oO E call) (hlen : ios.length = cops.size) {ord : List Nat} {p q : Nat} (hk : KV ord p q cops.toList ios = true) (t : Nat) :
  ∃ b : Bool, ∀ {e : bF} {s : St} {f f' : Fr} {e' : bF} {s' : St} {pn : Option AV} (_ : pD E call true (if b then ios else wo ord ios) f e s = some (pn, f', e', s')),
   ∃ e'', pD E call true ((Region.schedule true cops t).map fun i => ios.getD i default) f e s = some (pn, f', e'', s') /\ vN e' e'' /\ ∀ i ∈ Region.schedule true cops t, i < cops.size := by
 simp only [KV, Bool.and_eq_true] at hk
 obtain ⟨⟨⟨⟨h1, h2⟩, h3⟩, h4⟩, h5⟩ := hk
 obtain ⟨hσ, hah⟩ := ES h1 h2 t
 have hnd : (Region.schedule true cops t).Nodup := hσ.nodup_iff.2 List.nodup_range
 by_cases hpq : List.Sublist [q, p] (Region.schedule true cops t)
 ·refine ⟨false, fun {e s f f' e' s' pn} h => ?_⟩
  simp only [Bool.false_eq_true, if_false, wo] at h
  have hn4 := EK h4
  refine Ah hc h1 h2 t (ord := ord) hn4 (by rw [<- hlen]; exact List.isPerm_iff.1 h5) (fun x y a b c => ?_) h
  rcases Cg h4 x y a with h | h | ⟨rfl, rfl⟩
  ·exact absurd h c
  ·exact h
  ·exact absurd b (OS hnd hpq)
 ·refine ⟨true, fun {e s f f' e' s' pn} h => ?_⟩
  simp only [if_true] at h
  refine Ah hc h1 h2 t (ord := List.range cops.size) List.nodup_range (.refl _) (fun x y a b c => ?_) (by rw [<- hlen, uA]; exact h)
  rw [<- hlen] at a
  rcases Cg h3 x y a with h | h | ⟨rfl, rfl⟩
  ·exact absurd h c
  ·exact h
  ·exact absurd b hpq
end
open Go
def S8 : Option AV -> Ek
 | none => .normal
 | some v => .pan v
def To (P : Program) (L : eB) (M : Machine) (B : Frame) (tm : Array Value) (df : List Deferred) (k : List Item) (cs : List Frame) (g : Gh) (w : World) : Ek -> Prop
 | .normal => Steps P M (lone (dP B tm df k) cs w)
 | .exit id => ∃ k', exitTo id k' = exitTo id k /\ Steps P M (lone (dP B tm df (.code (.exit id) :: k')) cs w)
 | .ret => ∃ k', Steps P M (lone (dP B tm df (.code .ret :: k')) cs w)
 | .pan v => ∃ cv td, ay L.toLk g w v cv /\ FH td /\ Steps P M (lone { dP B tm df td with mode := .panicking [{ v := cv, recovered := false }] } cs w)
section
variable {P : Program} {L : eB} {E : ak} {call : en}
theorem To.head {M M' : Machine} {B : Frame} {tm : Array Value} {df : List Deferred} {k : List Item} {cs : List Frame} {g : Gh} {w : World} {o : Ek} (h : Steps P M M') (h' : To P L M' B tm df k cs g w o) : To P L M B tm df k cs g w o := by
 cases o with
 | normal => exact h.trans h'
 | exit id => obtain ⟨k', h1, h2⟩ := h'; exact ⟨k', h1, h.trans h2⟩
 | ret => obtain ⟨k', h2⟩ := h'; exact ⟨k', h.trans h2⟩
 | pan v => obtain ⟨cv, td, h1, h0, h2⟩ := h'; exact ⟨cv, td, h1, h0, h.trans h2⟩
theorem To.pass {M : Machine} {B : Frame} {tm : Array Value} {df : List Deferred} {k k' : List Item} {cs : List Frame} {g : Gh} {w : World} {o : Ek} (hn : o ≠ .normal) (hk : ∀ id, o = .exit id -> exitTo id k' = exitTo id k) (h : To P L M B tm df k' cs g w o) : To P L M B tm df k cs g w o := by
 cases o with
 | normal => exact absurd rfl hn
 | exit id => obtain ⟨k2, h1, h2⟩ := h; exact ⟨k2, h1.trans (hk id rfl), h2⟩
 | ret => exact h
 | pan v => exact h
structure gA (P : Program) (L : eB) (N : Nat) (vars : List Nat) (lo : Nat) (g : Gh) (s : St) (w : World) (M : Machine) (B : Frame) (cs0 : List Frame) (k : List Item) (o : Ek) (rnd : Bool) (f' : Fr) (s' : St) (g' : Gh) (w' : World) (tm' : Array Value) (df' : List Deferred) : Prop where
 st : cp L.toLk (vA P L) g' s' w'
 ext : nv g s w g' s' w'
 fr : MF L.toLk N vars lo g' w' f' tm' df'
 rcv : ym L.toLk g' w' f' B cs0
 rnd : f'.rnd = rnd
 to : To P L M B tm' df' k (oh f'.recd cs0) g' w' o
theorem gA.head {N lo : Nat} {vars : List Nat} {g g1 g' : Gh} {s s1 s' : St} {w w1 w' : World} {M M1 : Machine} {B : Frame} {cs0 : List Frame} {k : List Item} {o : Ek} {rnd rnd1 : Bool} {f' : Fr} {tm' : Array Value} {df' : List Deferred}
  (h : Steps P M M1) (he : nv g s w g1 s1 w1) (hr : rnd1 = rnd) (h' : gA P L N vars lo g1 s1 w1 M1 B cs0 k o rnd1 f' s' g' w' tm' df') : gA P L N vars lo g s w M B cs0 k o rnd f' s' g' w' tm' df' :=
 ⟨h'.st, he.trans h'.ext, h'.fr, h'.rcv, h'.rnd.trans hr, h'.to.head h⟩
theorem gA.pass {N lo : Nat} {vars : List Nat} {g g' : Gh} {s s' : St} {w w' : World} {M : Machine} {B : Frame} {cs0 : List Frame} {k k' : List Item} {o : Ek} {rnd : Bool} {f' : Fr} {tm' : Array Value} {df' : List Deferred}
  (hn : o ≠ .normal) (hk : ∀ id, o = .exit id -> exitTo id k' = exitTo id k) (h : gA P L N vars lo g s w M B cs0 k' o rnd f' s' g' w' tm' df') : gA P L N vars lo g s w M B cs0 k o rnd f' s' g' w' tm' df' :=
 ⟨h.st, h.ext, h.fr, h.rcv, h.rnd, h.to.pass hn hk⟩
theorem MF.keep {N lo : Nat} {vars : List Nat} {g : Gh} {w : World} {f f1 : Fr} {tm : Array Value} {df : List Deferred} {loc : bF} {keep : List Nat} (hl : pw L.toLk g w loc tm) (hd : vM vars f.env) (hN : N <= tm.size) (hdf : tK L.toLk g w lo f1.defers df) (hlo : lo <= w.heap.size)
  (hk : keep.all (vars.contains ·) = true) (hs : ∀ i, vars.contains i = true -> keep.contains i = false -> loc.get i = f.env.get i) : MF L.toLk N vars lo g w { f1 with env := om loc keep f.env } tm df := by
 refine ⟨fun i => ?_, hd.keep hk, hN, hdf, hlo⟩
 show ay L.toLk g w ((om loc keep f.env).get i) _
 rw [I2]
 split
 ·exact hl i
 ·rename_i hki
  cases hv : vars.contains i with
  | false => rw [hd.get_junk hv]; simp [ay]
  | true => rw [<- hs i hv (by simpa using hki)]; exact hl i
theorem zx {N : Nat} {cops : Array Oper} : ∀ {os : List Oper} {ios : List aK}, nA P L N cops os ios = true -> ios.length = os.length
 | [], [], _ => rfl
 | [], _ :: _, h => by simp [nA] at h
 | _ :: _, [], h => by simp [nA] at h
 | _ :: os, _ :: ios, h => by simp only [nA, Bool.and_eq_true] at h; simp [zx h.2]
theorem Eq {N : Nat} {cops : Array Oper} : ∀ {os : List Oper} {ios : List aK} {i : Nat} {o : Oper}, nA P L N cops os ios = true -> os[i]? = some o -> F6 P L N cops o (ios.getD i default) = true
 | [], _, _, _, _, h2 => by simp at h2
 | _ :: _, [], _, _, h, _ => by simp [nA] at h
 | a :: os, b :: ios, i, o, h, h2 => by
  simp only [nA, Bool.and_eq_true] at h
  cases i with
  | zero => simp only [List.getElem?_cons_zero, Option.some.injEq] at h2; subst h2; exact h.1
  | succ i => simpa using Eq h.2 (by simpa using h2)
theorem th {N : Nat} {cops : Array Oper} {ops : List aK} (hops : nA P L N cops cops.toList ops = true) : ∀ (is : List Nat), (∀ i ∈ is, i < cops.size) -> Jy P L N cops is (is.map fun i => ops.getD i default)
 | [], _ => trivial
 | i :: is, hi => by
  have hlt := hi i (List.mem_cons_self ..)
  exact ⟨⟨cops[i], Array.getElem?_eq_getElem hlt, Eq hops (by rw [Array.getElem?_toList, Array.getElem?_eq_getElem hlt])⟩, th hops is fun j hj => hi j (List.mem_cons_of_mem _ hj)⟩
theorem DX (hinj : ∀ a b, L.tyOf a = L.tyOf b -> a = b) (hcall : pG P L E call) {N lo : Nat} {vars : List Nat} {id : Nat} {cops : Array Oper} {draw : Bool} {keep : List Nat} (hkeep : keep.all (vars.contains ·) = true)
  {f : Fr} {s : St} {g : Gh} {w : World} (hgl : Bv L E g w) {tm : Array Value} {df : List Deferred} (hf : MF L.toLk N vars lo g w f tm df)
  {B : Frame} {cs0 : List Frame} (hrc : ym L.toLk g w f B cs0) (k : List Item)
  (is : List Nat) (os : List aK) (g1 : Gh) (w1 : World) (hs1 : cp L.toLk (vA P L) g1 s w1) (hx1 : nv g s w g1 s w1) (hst : Steps P (lone (dP B tm df (.code (.region id cops draw) :: k)) (oh f.recd cs0) w) (lone (dP B tm df (.inRegion cops is :: k)) (oh f.recd cs0) w1))
  (hp : Jy P L N cops is os) (p : Option AV) (f1 : Fr) (e1 e2 : bF) (s1 : St) (hA : pD E call draw os f f.env s = some (p, f1, e1, s1)) (hq : vN e2 e1) (hget : ∀ i, vars.contains i = true -> keep.contains i = false -> e2.get i = f.env.get i)
  (o : Ek) (ho : o = S8 p) :
  ∃ g' w' tm' df', gA P L N vars lo g s w (lone (dP B tm df (.code (.region id cops draw) :: k)) (oh f.recd cs0) w) B cs0 k o f.rnd { f1 with env := om e2 keep f.env } s1 g' w' tm' df' := by
 obtain ⟨g2, w2, tm2, df2, b1, b2, b3, b4, b5, b6, b7, b8, b9⟩ := Jf hinj hcall hp hA hs1 (hgl.ext hx1) (hf.env.mono hx1.ge) hf.size (hf.dfr.mono hx1.ge hx1.dfr) (hrc.mono hx1.ge) k
 have b3' : pw L.toLk g2 w2 e2 tm2 := fun i => by rw [hq i]; exact b3 i
 refine ⟨g2, w2, tm2, df2, b1, hx1.trans b2, MF.keep b3' hf.dom b4 b5 (by have := hf.lo; have := hx1.size; have := b2.size; omega) hkeep hget, b6, b7, ?_⟩
 cases p with
 | none => subst ho; exact hst.trans b9
 | some v =>
  subst ho
  obtain ⟨cv, td, c1, c0, c2⟩ := b9
  exact ⟨cv, td, c1, c0, hst.trans c2⟩
theorem Kw {keep vars : List Nat} {ops : List aK} (hdst : ops.all (fun o => match o.dst with | some d => keep.contains d || !vars.contains d | none => true) = true) (i : Nat) (hv : vars.contains i = true) (hk : keep.contains i = false) : ∀ o ∈ ops, o.dst ≠ some i := by
 intro o ho hd
 have := List.all_eq_true.1 hdst o ho
 rw [hd] at this
 simp only [Bool.or_eq_true, Bool.not_eq_true'] at this
 rcases this with h | h
 ·rw [hk] at h; cases h
 ·rw [hv] at h; cases h
theorem Mk {keep : List Nat} {e : bF} {q : Option (Option AV × Fr × bF × St)} {o : Ek} {f' : Fr} {s' : St} (h : Fh keep e q = some (o, f', s')) : ∃ p loc f1, q = some (p, f1, loc, s') /\ f' = { f1 with env := om loc keep e } /\ o = S8 p := by
 unfold Fh at h
 split at h
 ·simp only [Option.some.injEq, Prod.mk.injEq] at h
  obtain ⟨rfl, rfl, rfl⟩ := h
  exact ⟨none, _, _, rfl, rfl, rfl⟩
 ·simp only [Option.some.injEq, Prod.mk.injEq] at h
  obtain ⟨rfl, rfl, rfl⟩ := h
  exact ⟨some _, _, _, rfl, rfl, rfl⟩
 ·cases h
theorem NK (hinj : ∀ a b, L.tyOf a = L.tyOf b -> a = b) (hcall : pG P L E call) (hcalm : oO E call) {N lo n : Nat} {vars : List Nat} {id : Nat} {cops : Array Oper} {draw : Bool} {ops : List aK} {keep : List Nat} {draw' : Bool} (hck : cQ P L N vars (.region ops keep draw') (.region id cops draw) = true)
  {f f' : Fr} {s s' : St} {o : Ek} (h : bj E call n (.region ops keep draw') f s = some (o, f', s')) {g : Gh} {w : World} (hs : cp L.toLk (vA P L) g s w) (hgl : Bv L E g w) {tm : Array Value} {df : List Deferred} (hf : MF L.toLk N vars lo g w f tm df)
  {B : Frame} {cs0 : List Frame} (hrc : ym L.toLk g w f B cs0) (k : List Item) :
  ∃ g' w' tm' df', gA P L N vars lo g s w (lone (dP B tm df (.code (.region id cops draw) :: k)) (oh f.recd cs0) w) B cs0 k o f.rnd f' s' g' w' tm' df' := by
 simp only [cQ, Bool.and_eq_true, beq_iff_eq] at hck
 obtain ⟨⟨⟨⟨rfl, hops⟩, hkeep⟩, hdst⟩, hdr⟩ := hck
 have hlen : ops.length = cops.size := by simpa using zx hops
 have hreg : Fh keep f.env (pD E call draw ops f f.env s) = some (o, f', s') := by
  rw [<- h]; simp only [bj, Fh]
 obtain ⟨p, loc, f1, hA, rfl, ho⟩ := Mk hreg
 have hget : ∀ i, vars.contains i = true -> keep.contains i = false -> loc.get i = f.env.get i := fun i hv hk => GX hA (Kw hdst i hv hk)
 cases draw with
 | false =>
  refine DX hinj hcall hkeep hgl hf hrc k (List.range cops.size) ops g w hs (.refl _ _ _) (.one Rk) ?_ p f1 loc loc s' hA (fun _ => rfl) hget o ho
  have := th hops (List.range cops.size) (fun i hi => List.mem_range.1 hi)
  rwa [<- hlen, uA, hlen] at this
 | true =>
  simp only [Bool.not_true, Bool.false_or, Bool.and_eq_true] at hdr
  obtain ⟨hmix, hdr⟩ := hdr
  obtain ⟨e2, h1, h2, h3⟩ := He hcalm hlen hdr (w.tape w.drawn (.order B.fn id)) hA
  have hst := BR (P := P) (B := B) (tm := tm) (df := df) (k := k) (cs := oh f.recd cs0) (w := w) (id := id) (ops := cops)
  rw [hmix] at hst
  have hsame := cp.same hs (w' := { w with drawn := w.drawn + 1 }) rfl ⟨rfl, rfl, rfl⟩
  exact DX hinj hcall hkeep hgl hf hrc k _ _ g { w with drawn := w.drawn + 1 } hsame.1 hsame.2 (.one hst) (th hops _ h3) p f1 e2 loc s' h1 h2 hget o ho
theorem G6 (hinj : ∀ a b, L.tyOf a = L.tyOf b -> a = b) (hcall : pG P L E call) (hcalm : oO E call) {N lo : Nat} {vars : List Nat} {id : Nat} {cops : Array Oper} {ops : List aK} {keep : List Nat} {ord : List Nat} {x y : Nat}
  (hops : nA P L N cops cops.toList ops = true) (hkeep : keep.all (vars.contains ·) = true) (hdst : ops.all (fun o => match o.dst with | some d => keep.contains d || !vars.contains d | none => true) = true) (hmix : P.follows .mixedOrders = true) (halt : KV ord x y cops.toList ops = true)
  {f : Fr} {s : St} {g : Gh} {w : World} (hs : cp L.toLk (vA P L) g s w) (hgl : Bv L E g w) {tm : Array Value} {df : List Deferred} (hf : MF L.toLk N vars lo g w f tm df)
  {B : Frame} {cs0 : List Frame} (hrc : ym L.toLk g w f B cs0) (k : List Item) :
  ∃ b : Bool, ∀ {o : Ek} {f' : Fr} {s' : St}, Fh keep f.env (pD E call true (if b then ops else wo ord ops) f f.env s) = some (o, f', s') ->
   ∃ g' w' tm' df', gA P L N vars lo g s w (lone (dP B tm df (.code (.region id cops true) :: k)) (oh f.recd cs0) w) B cs0 k o f.rnd f' s' g' w' tm' df' := by
 have hlen : ops.length = cops.size := by simpa using zx hops
 obtain ⟨b, hb⟩ := O1 (E := E) (call := call) hcalm hlen halt (w.tape w.drawn (.order B.fn id))
 refine ⟨b, fun {o f' s'} hreg => ?_⟩
 obtain ⟨p, loc, f1, hA, rfl, ho⟩ := Mk hreg
 have hget : ∀ i, vars.contains i = true -> keep.contains i = false -> loc.get i = f.env.get i := fun i hv hk => GX hA (by
  cases b with
  | true => exact Kw hdst i hv hk
  | false =>
   intro o ho
   simp only [Bool.false_eq_true, if_false, wo] at ho
   obtain ⟨j, _, rfl⟩ := List.mem_map.1 ho
   by_cases hj : j < ops.length
   ·have : ops.getD j default ∈ ops := by
     rw [List.getD_eq_getElem?_getD, List.getElem?_eq_getElem hj]
     exact List.getElem_mem hj
    exact Kw hdst i hv hk _ this
   ·rw [List.getD_eq_getElem?_getD, List.getElem?_eq_none (by omega)]
    intro h; cases h)
 obtain ⟨e2, h1, h2, h3⟩ := hb hA
 have hst := BR (P := P) (B := B) (tm := tm) (df := df) (k := k) (cs := oh f.recd cs0) (w := w) (id := id) (ops := cops)
 rw [hmix] at hst
 have hsame := cp.same hs (w' := { w with drawn := w.drawn + 1 }) rfl ⟨rfl, rfl, rfl⟩
 exact DX hinj hcall hkeep hgl hf hrc k _ _ g { w with drawn := w.drawn + 1 } hsame.1 hsame.2 (.one hst) (th hops _ h3) p f1 e2 loc s' h1 h2 hget o ho
end
end Ab
