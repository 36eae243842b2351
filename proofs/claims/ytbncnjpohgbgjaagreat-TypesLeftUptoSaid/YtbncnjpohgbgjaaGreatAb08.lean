/- Parts of the proof, made small by program. No condition but what is told. -/
import Derived.Test.YtbncnjpohgbgjaaGreatAb07
import Derived.Test.YtbncnjpohgbgjaaGreatAb02
import GoSem.ClaimChange
import Derived.Test.YtbncnjpohgbgjaaGreatAb06
import Derived.IntWalk
set_option linter.all false
set_option maxHeartbeats 8000000
namespace Ab
open Go Go.RowKit
section
variable {P : Program} {L : eB} {E : ak} {call : en}
theorem pw.put {g : Gh} {w : World} {e : bF} {tm : Array Value} (h : pw L.toLk g w e tm) {p : Nat} (hp : p < tm.size) {v : AV} {cv : Value} (hv : ay L.toLk g w v cv) : pw L.toLk g w (e.put p v) (tm.setIfInBounds p cv) := by
 intro i
 rw [get_put _ _ _ _ hp, bF.get_put]
 split
 ·exact hv
 ·exact h i
theorem Di {g : Gh} {w : World} {N : Nat} {vars : List Nat} : ∀ {ps : List Nat} {vs : List AV} {cs : List Value} {e : bF} {tm : Array Value}, (∀ p ∈ ps, p < N /\ vars.contains p = true) -> N <= tm.size -> aw L.toLk g w vs cs -> pw L.toLk g w e tm -> vM vars e ->
  pw L.toLk g w (nn ps vs e) ((ps.zip cs).foldl (fun tm (t, a) => tm.setIfInBounds t a) tm) /\ vM vars (nn ps vs e) /\ N <= ((ps.zip cs).foldl (fun tm (t, a) => tm.setIfInBounds t a) tm).size
 | [], vs, cs, e, tm, _, hN, _, he, hd => by simp [nn]; exact ⟨he, hd, hN⟩
 | p :: ps, [], cs, e, tm, _, hN, hr, he, hd => by
  simp only [aw] at hr; subst hr
  simp [nn]; exact ⟨he, hd, hN⟩
 | p :: ps, v :: vs, cs, e, tm, hp, hN, hr, he, hd => by
  simp only [aw] at hr
  obtain ⟨c, r, rfl, h1, h2⟩ := hr
  simp only [nn, List.zip_cons_cons, List.foldl_cons]
  have h3 := hp p (List.mem_cons_self ..)
  exact Di (fun q hq => hp q (List.mem_cons_of_mem _ hq)) (by simpa using hN) h2 (he.put (by omega) h1) (hd.put h3.2 v)
theorem Ks {B : Frame} {tm : Array Value} {df : List Deferred} {k : List Item} {cs : List Frame} {w w' : World} {l : Nat} (hB : B.roundOf = some l) (h : (Instr.beginRound l).run P w = .ok () w') :
  step P (lone (dP B tm df (.beginRound :: k)) cs w) = .next (lone (dP B tm df k) cs w') := by
 refine step_lone_go ?_
 have hr : ((do (Option.elim B.roundOf (stuck "beginRound: no round") Instr.beginRound); pure Next.skip : Sem Next)).run P w = .ok .skip w' := by
  simp only [hB, Option.elim, Sem.run_bind, h, Result.andThen_ok, Sem.run_pure]
 simp only [stepG, stepG.exec, dP, stepG.apply, Sem.runT_eq, hr, if_true, GStep.bare_after]
 rfl
def Uq : Option Code -> List Item -> Prop
 | none, td => td = []
 | some (.exit id), td => ∃ k, td = .code (.exit id) :: k /\ exitTo id k = none
 | some .ret, td => ∃ k, td = .code .ret :: k
 | some _, _ => False
theorem Ha {B : Frame} {tm : Array Value} {df : List Deferred} {td : List Item} {c : Frame} {cs : List Frame} {w w' : World} {l : Nat} {j : Option Code} {v : Value} (hB : B.roundOf = some l) (hj : Uq j td) (h : (Instr.endRound l j).run P w = .ok v w') :
  (B.kind = .normal -> step P (lone (dP B tm df td) (c :: cs) w) = .next (lone (c.finish v) cs w')) /\
  (B.kind = .deferred -> c.mode = .returning -> step P (lone (dP B tm df td) (c :: cs) w) = .next (lone c cs w')) := by
 have key : ∀ (k : CallKind), B.kind = k -> (stepG P true { frame := dP B tm df td, callers := c :: cs, status := .running, dying := none } w).bare = (doReturn P true (dP B tm df td) (c :: cs) none v w').bare := by
  intro k hk
  cases j with
  | none =>
   subst hj
   simp only [stepG, stepG.exec, dP, hB, Sem.runT_eq, h, GStep.bare_after]
  | some j =>
   cases j with
   | exit id =>
    obtain ⟨k, rfl, he⟩ := hj
    simp only [stepG, stepG.exec, dP, hB, he, Option.elim, Sem.runT_eq, h, GStep.bare_after]
   | ret =>
    obtain ⟨k, rfl⟩ := hj
    simp only [stepG, stepG.exec, dP, hB, Sem.runT_eq, h, GStep.bare_after]
   | _ => exact hj.elim
 refine ⟨fun hk => step_lone_go ?_, fun hk hm => step_lone_go ?_⟩
 ·rw [key _ hk]
  simp [doReturn, dP, hk]
 ·rw [key _ hk]
  simp [doReturn, dP, hk, hm]
theorem PT (hinj : ∀ a b, L.tyOf a = L.tyOf b -> a = b) (hcall : pG P L E call) (hcalm : oO E call) {n i : Nat} {args : List AV} {s s' : St} {r : Qf} {recd : Bool} (h : D3 E call n i args s = some (r, recd, s'))
  {g : Gh} {w : World} (hs : cp L.toLk (vA P L) g s w) (hgl : Bv L E g w) {b : Nat} (hb : g.bl[i]? = some b) {cargs : List Value} (ha : aw L.toLk g w args cargs) :
  recd = false /\ ∃ f tms asq bd, (Instr.yield b cargs.toArray).run P w = .ok (.round b f tms asq bd) w /\
  (∀ c cs, ∃ g' w' cv, cp L.toLk (vA P L) g' s' w' /\ nv g s w g' s' w' /\ (match r with
   | .ret v => ay L.toLk g' w' v cv /\ Steps P (lone (Frame.round b f tms asq bd .normal) (c :: cs) w) (lone (c.finish cv) cs w')
   | .pan v => ay L.toLk g' w' v cv /\ Steps P (lone (Frame.round b f tms asq bd .normal) (c :: cs) w) (lone (c.raise [{ v := cv, recovered := false }]) cs w'))) /\
  (∀ c cs, c.mode = .returning -> ∃ g' w', cp L.toLk (vA P L) g' s' w' /\ nv g s w g' s' w' /\ (match r with
   | .ret _ => Steps P (lone (Frame.round b f tms asq bd .deferred) (c :: cs) w) (lone c cs w')
   | .pan _ => True)) := by
 unfold D3 at h
 split at h
 ·rename_i AL hAL
  split at h
  ·rename_i hcond
   obtain ⟨hnum, hro⟩ := hcond
   obtain ⟨hlp, lp, N, vars, d1, d2, d3, d4, d5, d6, d7, d8, d9, d10⟩ := hs.blocks _ _ _ hb hAL
   have hy := run_yield (P := P) (args := cargs.toArray) d1 (by rw [d4]; simp [ha.length, hnum])
   split at h
   ·rename_i f1 s1 hc1
    split at h
    ·rename_i AL1 hAL1
     split at h
     ·rename_i hready
      split at h
      ·rename_i o f2 s2 hc2
       split at h
       ·rename_i AL2 hAL2
        -- what the machine's frame does, for either kind of call
        have hzip : (lp.params.zip cargs.toArray).foldl (fun tmps (t, a) => tmps.setIfInBounds t a) lp.tmps = (AL.ps.zip cargs).foldl (fun tm (t, a) => tm.setIfInBounds t a) lp.tmps := by
         rw [<- Array.foldl_toList, Array.toList_zip, d4]
        rw [hzip] at hy
        obtain ⟨p1, p2, p3⟩ := Di (L := L) (ps := AL.ps) d10 d5 ha d8 d9
        have run : ∀ (kind : CallKind) (cs0 : List Frame), (kind = .normal \/ ∃ c r, cs0 = c :: r /\ c.mode = .returning) ->
          ∃ g2 w2 tm2 df2, cp L.toLk (vA P L) g2 s2 w2 /\ nv g s w g2 s2 w2 /\ tK L.toLk g2 w2 w.heap.size f2.defers df2 /\ To P L (lone (Frame.round b lp.fn ((AL.ps.zip cargs).foldl (fun tm (t, a) => tm.setIfInBounds t a) lp.tmps) lp.assign lp.body kind) cs0 w) (Frame.round b lp.fn ((AL.ps.zip cargs).foldl (fun tm (t, a) => tm.setIfInBounds t a) lp.tmps) lp.assign lp.body kind) tm2 df2 [] cs0 g2 w2 o := by
         intro kind cs0 hk
         have hfr : MF L.toLk N vars w.heap.size g w { env := nn AL.ps args AL.env, defers := [], rcv := none, recd := false, rnd := true } ((AL.ps.zip cargs).foldl (fun tm (t, a) => tm.setIfInBounds t a) lp.tmps) [] := ⟨p1, p2, p3, .nil, Nat.le_refl _⟩
         have hself : Frame.round b lp.fn ((AL.ps.zip cargs).foldl (fun tm (t, a) => tm.setIfInBounds t a) lp.tmps) lp.assign lp.body kind = dP (Frame.round b lp.fn ((AL.ps.zip cargs).foldl (fun tm (t, a) => tm.setIfInBounds t a) lp.tmps) lp.assign lp.body kind) ((AL.ps.zip cargs).foldl (fun tm (t, a) => tm.setIfInBounds t a) lp.tmps) [] [.code lp.assign, .beginRound, .code lp.body] := rfl
         have hB : (Frame.round b lp.fn ((AL.ps.zip cargs).foldl (fun tm (t, a) => tm.setIfInBounds t a) lp.tmps) lp.assign lp.body kind).roundOf = some b := rfl
         have hBk : (Frame.round b lp.fn ((AL.ps.zip cargs).foldl (fun tm (t, a) => tm.setIfInBounds t a) lp.tmps) lp.assign lp.body kind).kind = kind := rfl
         generalize Frame.round b lp.fn ((AL.ps.zip cargs).foldl (fun tm (t, a) => tm.setIfInBounds t a) lp.tmps) lp.assign lp.body kind = B at hself hB hBk
         have hrc : ym L.toLk g w { env := nn AL.ps args AL.env, defers := [], rcv := none, recd := false, rnd := true } B cs0 := ⟨by rw [hB]; rfl, fun l hl => by rw [hB] at hl; cases hl; exact hlp, .inl rfl⟩
         have hk' : B.kind = .normal \/ ∃ c r, cs0 = c :: r /\ c.mode = .returning := by rw [hBk]; exact hk
         obtain ⟨g1, w1, tm1, df1, h1⟩ := Ga hinj hcall hcalm lp.assign AL.assign d6 hc1 hs hgl hfr hrc [.beginRound, .code lp.body]
         have e1 := h1.rcv.calm hk'
         have hb1 := h1.ext.ge.bl _ _ hb
         obtain ⟨_, lp1, N1, vars1, q1, q2, q3, q4, q5, q6, q7, q8, q9, q10⟩ := h1.st.blocks _ _ _ hb1 hAL1
         rw [hready] at q2
         have hbeg := run_beginRound (P := P) q1 q2
         obtain ⟨z1, z2, z3⟩ := vn (o' := .loop { lp1 with state := .busy }) q1
         have hset := cp.setb h1.st hb1 (by rw [h1.ext.ro]; exact hro) (ab := .loop { AL1 with st := .busy }) z1 z2 z3 ⟨rfl, rfl, rfl⟩ (fun hge => ⟨hge.lps _ (h1.ext.ge.lps _ hlp), _, N1, vars1, z1, rfl, q3, q4, q5, q6, q7, q8.mono hge, q9, q10⟩) (fun _ => ⟨_, rfl⟩) (by rw [hAL1]; intro e; cases e) (.no z2 q1 fun _ _ _ h => by cases h)
         have hfr1 : MF L.toLk N vars w.heap.size g1 (w1.putObj b (.loop { lp1 with state := .busy })) f1 tm1 df1 := ⟨h1.fr.env.mono hset.2.ge, h1.fr.dom, h1.fr.size, h1.fr.dfr.mono hset.2.ge hset.2.dfr, Nat.le_trans h1.fr.lo hset.2.size⟩
         obtain ⟨g2, w2, tm2, df2, h2⟩ := Ga hinj hcall hcalm lp.body AL.body d7 hc2 hset.1 (hgl.ext (h1.ext.trans hset.2)) hfr1 (h1.rcv.mono hset.2.ge) []
         have e2 := h2.rcv.calm hk'
         refine ⟨g2, w2, tm2, df2, h2.st, h1.ext.trans (hset.2.trans h2.ext), h2.fr.dfr, ?_⟩
         have hto := h2.to
         have hst1 := h1.to
         rw [e1] at hto hst1
         rw [e2] at hto
         refine To.head ?_ hto
         rw [hself]
         exact Steps.trans hst1 (.one (Ks hB hbeg))
        -- the end, but for a panic
        have fin : ∀ (j : Option Code) (ast : UX) (ape : Option RU) (g2 : Gh) (w2 : World), cp L.toLk (vA P L) g2 s2 w2 -> nv g s w g2 s2 w2 -> Jx ast (if j.isNone then .ready else .done) -> AG ape j ->
          ∃ w3, (Instr.endRound b j).run P w2 = .ok (.bool j.isNone) w3 /\ cp L.toLk (vA P L) g2 (s2.setb i (.loop { AL2 with st := ast, pend := ape })) w3 /\ nv g s w g2 (s2.setb i (.loop { AL2 with st := ast, pend := ape })) w3 := by
         intro j ast ape g2 w2 hs2 hx2 hst hpe
         have hb2 := hx2.ge.bl _ _ hb
         obtain ⟨_, lp2, N2, vars2, q1, q2, q3, q4, q5, q6, q7, q8, q9, q10⟩ := hs2.blocks _ _ _ hb2 hAL2
         have hend := run_endRound (P := P) j q1
         obtain ⟨z1, z2, z3⟩ := vn (o' := .loop { lp2 with state := if j.isNone then .ready else .done, pending := j }) q1
         have hset := cp.setb hs2 hb2 (by rw [hx2.ro]; exact hro) (ab := .loop { AL2 with st := ast, pend := ape }) z1 z2 z3 ⟨rfl, rfl, rfl⟩ (fun hge => ⟨hge.lps _ (hx2.ge.lps _ hlp), _, N2, vars2, z1, hst, hpe, q4, q5, q6, q7, q8.mono hge, q9, q10⟩) (fun _ => ⟨_, rfl⟩) (by rw [hAL2]; intro e; cases e) (.no z2 q1 fun _ _ _ h => by cases h)
         exact ⟨_, hend, hset.1, hx2.trans hset.2⟩
        have whole : ∀ (j : Option Code) (ast : UX) (ape : Option RU), Jx ast (if j.isNone then .ready else .done) -> AG ape j ->
          (∀ {M : Machine} {B : Frame} {tm : Array Value} {df : List Deferred} {cs : List Frame} {g : Gh} {w : World}, To P L M B tm df [] cs g w o -> ∃ td, Uq j td /\ Steps P M (lone (dP B tm df td) cs w)) ->
          r = .ret (.bool j.isNone) -> s' = s2.setb i (.loop { AL2 with st := ast, pend := ape }) ->
          ∃ f tms asq bd, (Instr.yield b cargs.toArray).run P w = .ok (.round b f tms asq bd) w /\
           (∀ c cs, ∃ g' w' cv, cp L.toLk (vA P L) g' s' w' /\ nv g s w g' s' w' /\ (match r with
            | .ret v => ay L.toLk g' w' v cv /\ Steps P (lone (Frame.round b f tms asq bd .normal) (c :: cs) w) (lone (c.finish cv) cs w')
            | .pan v => ay L.toLk g' w' v cv /\ Steps P (lone (Frame.round b f tms asq bd .normal) (c :: cs) w) (lone (c.raise [{ v := cv, recovered := false }]) cs w'))) /\
           (∀ c cs, c.mode = .returning -> ∃ g' w', cp L.toLk (vA P L) g' s' w' /\ nv g s w g' s' w' /\ (match r with
            | .ret _ => Steps P (lone (Frame.round b f tms asq bd .deferred) (c :: cs) w) (lone c cs w')
            | .pan _ => True)) := by
         intro j ast ape hst hpe hto hr hs'
         subst hr; subst hs'
         refine ⟨_, _, _, _, hy, fun c cs => ?_, fun c cs hm => ?_⟩
         ·obtain ⟨g2, w2, tm2, df2, a1, a2, _, a3⟩ := run .normal (c :: cs) (.inl rfl)
          obtain ⟨td, hj, a4⟩ := hto a3
          obtain ⟨w3, b1, b2, b3⟩ := fin j ast ape g2 w2 a1 a2 hst hpe
          exact ⟨g2, w3, .bool j.isNone, b2, b3, by simp [ay], Steps.trans a4 (.one ((Ha rfl hj b1).1 rfl))⟩
         ·obtain ⟨g2, w2, tm2, df2, a1, a2, _, a3⟩ := run .deferred (c :: cs) (.inr ⟨c, cs, rfl, hm⟩)
          obtain ⟨td, hj, a4⟩ := hto a3
          obtain ⟨w3, b1, b2, b3⟩ := fin j ast ape g2 w2 a1 a2 hst hpe
          exact ⟨g2, w3, b2, b3, Steps.trans a4 (.one ((Ha rfl hj b1).2 rfl hm))⟩
        cases o with
        | normal =>
         simp only [Option.some.injEq, Prod.mk.injEq] at h
         obtain ⟨h1, rfl, h3⟩ := h
         exact ⟨rfl, whole none .ready none rfl rfl (fun ht => ⟨[], rfl, ht⟩) h1.symm h3.symm⟩
        | exit id =>
         simp only [Option.some.injEq, Prod.mk.injEq] at h
         obtain ⟨h1, rfl, h3⟩ := h
         exact ⟨rfl, whole (some (.exit id)) .done (some (.exit id)) rfl rfl (fun ht => by obtain ⟨k', e, ht⟩ := ht; exact ⟨_, ⟨k', rfl, e⟩, ht⟩) h1.symm h3.symm⟩
        | ret =>
         simp only [Option.some.injEq, Prod.mk.injEq] at h
         obtain ⟨h1, rfl, h3⟩ := h
         exact ⟨rfl, whole (some .ret) .done (some .ret) rfl rfl (fun ht => by obtain ⟨k', ht⟩ := ht; exact ⟨_, ⟨k', rfl⟩, ht⟩) h1.symm h3.symm⟩
        | pan v =>
         simp only at h
         split at h
         ·rename_i hdf
          simp only [Option.some.injEq, Prod.mk.injEq] at h
          obtain ⟨rfl, rfl, rfl⟩ := h
          refine ⟨rfl, _, _, _, _, hy, fun c cs => ?_, fun c cs hm => ?_⟩
          ·obtain ⟨g2, w2, tm2, df2, a1, a2, a0, a3⟩ := run .normal (c :: cs) (.inl rfl)
           obtain ⟨cv, td, b1, b2, b3⟩ := a3
           rw [List.isEmpty_iff.1 hdf] at a0
           obtain ⟨g3, w3, m3, c1, c2, c3, c4, c5⟩ := uH hcall hs (Nat.le_refl _) a0 (p := some v) (p' := some v) rfl a1 a2 (hgl.ext a2) { dP (Frame.round b lp.fn ((AL.ps.zip cargs).foldl (fun tm (t, a) => tm.setIfInBounds t a) lp.tmps) lp.assign lp.body .normal) tm2 df2 td with mode := .panicking [{ v := cv, recovered := false }] } (c :: cs) rfl ⟨cv, rfl, b1⟩
           obtain ⟨pv, rfl, c6⟩ := c4
           exact ⟨g3, w3, pv, c1, c2, c6, Steps.trans b3 (Steps.trans c5 (.one (BQ rfl rfl b2)))⟩
          ·obtain ⟨g2, w2, tm2, df2, a1, a2, _, _⟩ := run .deferred (c :: cs) (.inr ⟨c, cs, rfl, hm⟩)
           exact ⟨g2, w2, a1, a2, trivial⟩
         ·cases h
       ·cases h
      ·cases h
     ·cases h
    ·cases h
   ·cases h
  ·cases h
 ·cases h
def Tf (P : Program) (L : eB) (E : ak) : Prop := ∀ f args v, E.fns f = none -> E.prim f args = some v -> ∀ (g : Gh) (w : World) (cargs : List Value), Bv L E g w -> aw L.toLk g w args cargs ->
 (callFunc (L.fnOf f) cargs.toArray).run P w = .ok (.enter (L.fnOf f) cargs.toArray) w /\ Calls P (L.fnOf f) cargs.toArray w fun e w' => ∃ cv, e = .returned cv /\ Below w.heap.size w w' /\ ∀ g' w'', ay L.toLk g' w'' v cv
def N4 (P : Program) (L : eB) (E : ak) : Prop := ∀ f args s v s', E.fns f = none -> E.eff f = true -> E.prims f args s = some (v, s') -> ∀ (g : Gh) (w : World) (cargs : List Value), cp L.toLk (vA P L) g s w -> Bv L E g w -> aw L.toLk g w args cargs ->
 (callFunc (L.fnOf f) cargs.toArray).run P w = .ok (.enter (L.fnOf f) cargs.toArray) w /\ Calls P (L.fnOf f) cargs.toArray w fun e w' => ∃ cv g', e = .returned cv /\ cp L.toLk (vA P L) g' s' w' /\ nv g s w g' s' w' /\ ay L.toLk g' w' v cv
theorem cp.below {C : eR} {g : Gh} {s : St} {w w' : World} (h : cp L.toLk C g s w) (hb : Below w.heap.size w w') : cp L.toLk C g s w' /\ nv g s w g s w' := by
 have hh : ∀ b, b < w.heap.size -> w'.heap[b]? = w.heap[b]? := hb.block
 have hge : GE g w g w' := ⟨fun _ _ h => h, fun _ T h => ⟨T, h, Nat.le_refl _, fun _ => rfl⟩, fun b o hi => ⟨hi, iV (hh b (h.immIn b o hi)) _⟩, fun _ h => h, .of hh⟩
 refine ⟨⟨h.bl, h.tk, fun i b x hi hx => (h.blocks i b x hi hx).mono hge (hh b (h.lt hi)), h.inj, h.sep, h.blBase, fun t T hT => (h.toks t T hT).same (hh _ ?_), h.tokInj, fun b o hi => Nat.lt_of_lt_of_le (h.immIn b o hi) hb.size, Nat.le_trans h.baseIn hb.size, ?_, ?_, h.ro, h.rt⟩, ?_⟩
 ·obtain ⟨c, e, fz, h1, _⟩ := (h.toks t T hT).space; exact aT h1
 ·intro d hd
  obtain ⟨h1, h2⟩ := h.dfr d hd
  exact ⟨by rw [hh d (aT h1)]; exact h1, h2⟩
 ·intro d hd
  obtain ⟨lp, h1⟩ := h.lps d hd
  exact ⟨lp, by rw [hh d (aT h1)]; exact h1⟩
 ·exact ⟨hge, fun _ h => h, rfl, fun b hb' => hh b (by have := h.baseIn; omega), hb.size, hb.os, hb.output, hb.tape, rfl, rfl, fun _ _ => rfl, fun _ _ => rfl, fun i b _ hb' => hh b (h.lt hb'), fun _ _ _ h => h⟩
structure Is (P : Program) (L : eB) (E : ak) : Prop where
 inj : ∀ a b, L.tyOf a = L.tyOf b -> a = b
 fns : ∀ f F, E.fns f = some F -> RR P L f F
 prim : Tf P L E
 prims : N4 P L E := by intro f args s v s' _ h; cases h
theorem MW (n : Nat) : ∀ tgt args s v rd s', calm E tgt = true -> au E n none tgt args s = some (.ret v, rd, s') -> s' = s := by
 intro tgt args s v rd s' hc h
 cases n with
 | zero => simp [au] at h
 | succ n =>
  cases tgt with
  | fn f a c =>
   simp only [au] at h
   simp only [calm] at hc
   split at h
   ·rename_i F hF
    simp only [hF] at hc
    have hm : F.mode = .pure \/ F.mode = .thaw := by
     cases hm : F.mode <;> rw [hm] at hc <;> simp_all
    unfold wA at h
    split at h
    ·cases h
    ·split at h
     ·cases h
     ·split at h
      ·cases h
      ·split at h
       ·cases h
       ·split at h
        ·simp at h
        ·cases h
       ·split at h
        ·cases h
        ·split at h
         ·rename_i v' s3 hfin
          simp only [Option.some.injEq, Prod.mk.injEq] at h
          obtain ⟨_, _, rfl⟩ := h
          rcases hm with hm | hm <;> rw [hm] at hfin <;> simp only [cD] at hfin
          ·split at hfin
           ·cases hfin; rfl
           ·split at hfin
            ·cases hfin; rfl
            ·cases hfin
          ·split at hfin
           ·cases hfin; rfl
           ·split at hfin
            ·cases hfin; rfl
            ·cases hfin
         ·cases h
   ·rename_i hF
    simp only [hF, Bool.not_eq_true'] at hc
    simp only [Option.isSome_none, Bool.false_eq_true, if_false, hc] at h
    split at h
    ·simp only [Option.some.injEq, Prod.mk.injEq] at h
     obtain ⟨_, _, rfl⟩ := h; rfl
    ·cases h
  | _ => simp [calm] at hc
theorem QF {m : FG} (hm : z8 m = true) {lo : Nat} {s s2 s' : St} {v v' : AV} (h : cD m lo s s2 v = some (v', s')) : ∀ t : St, cD m lo t s2 v = some (v', t) := by
 intro t
 cases m <;> first | (cases hm; done) | skip
 all_goals
  simp only [cD] at h ⊢
  split at h
  ·rename_i hd
   cases h
   rw [if_pos hd]
  ·rename_i hd
   rw [if_neg hd]
   split at h
   ·rename_i hd2
    cases h
    rw [if_pos hd2]
   ·cases h
theorem MX (n : Nat) : ∀ tgt args s v rd s', calm E tgt = true -> jO tgt args = true -> au E n none tgt args s = some (.ret v, rd, s') -> ∀ s2, au E n none tgt args s2 = some (.ret v, rd, s2) := by
 intro tgt args s v rd s' hc hp h s2
 cases n with
 | zero => simp [au] at h
 | succ n =>
  cases tgt with
  | fn f a c =>
   simp only [jO] at hp
   simp only [au] at h ⊢
   simp only [calm] at hc
   cases hF : E.fns f with
   | none =>
    simp only [hF, Bool.not_eq_true'] at hc
    simp only [hF, Option.isSome_none, Bool.false_eq_true, if_false, hc] at h ⊢
    split at h
    ·simp only [Option.some.injEq, Prod.mk.injEq] at h
     obtain ⟨h1, rfl, rfl⟩ := h
     cases h1; rfl
    ·cases h
   | some F =>
    simp only [hF] at hc h ⊢
    have hm : z8 F.mode = true := by cases hm : F.mode <;> rw [hm] at hc <;> simp_all [z8]
    have hst : ∀ t : St, gc F.mode none (a ++ args ++ c) t = { bl := [], tk := [], ro := 0, rt := 0 } := fun t => by
     unfold gc; rw [if_pos (by rw [hm, hp]; rfl)]
    unfold wA at h ⊢
    rw [hst] at h ⊢
    split at h
    ·cases h
    ·rename_i hnp
     rw [if_neg hnp]
     split at h
     ·cases h
     ·rename_i o f1 s1 hcode
      try (rw [hcode]; simp only)
      split at h
      ·cases h
      ·rename_i p hpo
       split at h
       ·cases h
       ·split at h <;> simp at h
       ·rename_i s3 hu
        try simp only [hu]
        split at h
        ·cases h
        ·rename_i vs hvs
         try simp only [hvs]
         split at h
         ·rename_i v' s4 hfin
          simp only [Option.some.injEq, Prod.mk.injEq] at h
          obtain ⟨h1, h2, _⟩ := h
          cases h1
          have h3 := QF hm hfin s2
          rw [h3, h2]
         ·cases h
  | _ => simp [calm] at hc
theorem vZ (n : Nat) : oO E (au E n) := ⟨MW n, MX n⟩
theorem Dl {fn : Func} {c : Code} {f : FuncId} {args : Array Value} {w : World} (hf : P.funcs[f]? = some fn) (hb : fn.body = some c) (hn : (fn.name == "runtime.NumGoroutine") = false) : (callFunc f args).run P w = .ok (.enter f args) w := by
 have hn' : fn.name ≠ "runtime.NumGoroutine" := by simpa using hn
 simp [callFunc, Sem.run_bind, run_program, hf, hb, hn']
theorem F0 (hE : Is P L E) : ∀ n, pG P L E (au E n)
 | 0 => by intro pn tgt args s r recd s' h; simp [au] at h
 | n + 1 => by
  intro pn tgt args s r recd s' h g w ctgt cargs hs hgl ht ha
  have ih := F0 hE n
  cases tgt with
  | fn f first caps =>
   simp only [ay] at ht
   obtain ⟨fs, cps, rfl, hfs, hcs⟩ := ht
   have hargs : aw L.toLk g w (first ++ args ++ caps) (fs ++ cargs ++ cps) := (hfs.append ha).append hcs
   have hcat : fs.toArray ++ cargs.toArray ++ cps.toArray = (fs ++ cargs ++ cps).toArray := by simp
   simp only [au] at h
   split at h
   ·rename_i F hF
    have hFok := hE.fns f F hF
    obtain ⟨fn0, c0, _, hfn0, hb0, hn0, _⟩ := hFok.out
    refine ⟨fun k => Frame.enter P (L.fnOf f) (fs ++ cargs ++ cps).toArray k, ⟨_, _, _, _, rfl, ?_, .inl ⟨_, _, rfl, rfl⟩⟩, ?_, ?_⟩
    ·show (callFunc (L.fnOf f) (fs.toArray ++ cargs.toArray ++ cps.toArray)).run P w = _
     rw [hcat]; exact Dl hfn0 hb0 hn0
    ·rintro rfl c cs
     obtain ⟨g', w', fn, fr, cv, h0, h1, h2, h3, h4, h5, h6, h7, h8, h9⟩ := FD hE.inj ih (vZ n) hFok h hs hgl hargs .normal (c :: cs) (.inl rfl)
     have hrec : recd = false := by
      cases hr : recd with
      | false => rfl
      | true => have := (h7 hr).1; cases this
     rw [hrec] at h8
     refine ⟨g', w', cv, h1, h2, ?_⟩
     cases r with
     | ret v =>
      obtain ⟨a1, a2, a3⟩ := h9
      exact ⟨a1, Steps.trans h8 (.one (step_leave_returned ⟨a2, h5, h4, fn, by rw [h3]; exact h0, a3⟩))⟩
     | pan v =>
      obtain ⟨a1, a2⟩ := h9
      exact ⟨a1, Steps.trans h8 (.one (BQ h5 a2 h6))⟩
    ·intro _ c cs hm
     obtain ⟨g', w', fn, fr, cv, h0, h1, h2, h3, h4, h5, h6, h7, h8, h9⟩ := FD hE.inj ih (vZ n) hFok h hs hgl hargs .deferred (c :: cs) (by
      cases pn with
      | none => exact .inr ⟨rfl, c, cs, rfl, hm⟩
      | some v => obtain ⟨pv, h1, h2⟩ := hm; exact ⟨rfl, c, cs, pv, rfl, h1, h2⟩)
     refine ⟨g', w', h1, h2, ?_⟩
     cases r with
     | ret v =>
      obtain ⟨a1, a2, a3⟩ := h9
      simp only
      refine Steps.trans h8 ?_
      cases hr : recd with
      | false =>
       have hset : settle c.mode = c.mode := by
        cases pn with
        | none => rw [show c.mode = .returning from hm]; rfl
        | some v => obtain ⟨pv, h1, _⟩ := hm; rw [h1]; rfl
       have := step_going_returned (P := P) (fr := fr) (c := c) (cs := cs) (w := w') (v := cv) h4 ⟨a2, h5, fn, by rw [h3]; exact h0, a3⟩
       rw [hset] at this
       exact .one this
      | true =>
       obtain ⟨_, c', r', pv, e, hcm⟩ := h7 hr
       cases e
       have := step_going_returned (P := P) (fr := fr) (c := { c with mode := .panicking [{ v := pv, recovered := true }] }) (cs := cs) (w := w') (v := cv) h4 ⟨a2, h5, fn, by rw [h3]; exact h0, a3⟩
       simp only [oh, hcm]
       exact .one this
     | pan v => trivial
   ·rename_i hF
    split at h
    ·cases h
    ·rename_i hpn
     split at h
     ·rename_i heff
      split at h
      ·rename_i v s1 hv
       simp only [Option.some.injEq, Prod.mk.injEq] at h
       obtain ⟨rfl, rfl, rfl⟩ := h
       obtain ⟨k1, k2⟩ := hE.prims f _ _ v _ hF heff hv g w _ hs hgl hargs
       refine ⟨fun k => Frame.enter P (L.fnOf f) (fs ++ cargs ++ cps).toArray k, ⟨_, _, _, _, rfl, ?_, .inl ⟨_, _, rfl, rfl⟩⟩, ?_, ?_⟩
       ·show (callFunc (L.fnOf f) (fs.toArray ++ cargs.toArray ++ cps.toArray)).run P w = _
        rw [hcat]; exact k1
       ·rintro rfl c cs
        obtain ⟨e, w', fr, ⟨cv, g', rfl, b1, b2, b3⟩, hcm, _, hl⟩ := k2 (c :: cs)
        exact ⟨g', w', cv, b1, b2, b3, Steps.trans hcm (.one (step_leave_returned hl))⟩
       ·intro hown
        simp [EL, hF] at hown
      ·cases h
     ·rename_i heff
      split at h
      ·rename_i v hv
       simp only [Option.some.injEq, Prod.mk.injEq] at h
       obtain ⟨rfl, rfl, rfl⟩ := h
       obtain ⟨k1, k2⟩ := hE.prim f _ v hF hv g w _ hgl hargs
       refine ⟨fun k => Frame.enter P (L.fnOf f) (fs ++ cargs ++ cps).toArray k, ⟨_, _, _, _, rfl, ?_, .inl ⟨_, _, rfl, rfl⟩⟩, ?_, ?_⟩
       ·show (callFunc (L.fnOf f) (fs.toArray ++ cargs.toArray ++ cps.toArray)).run P w = _
        rw [hcat]; exact k1
       ·rintro rfl c cs
        obtain ⟨e, w', fr, ⟨cv, rfl, hbel, hrep⟩, hcm, _, hl⟩ := k2 (c :: cs)
        obtain ⟨b1, b2⟩ := hs.below hbel
        exact ⟨g, w', cv, b1, b2, hrep g w', Steps.trans hcm (.one (step_leave_returned hl))⟩
       ·intro hown
        simp [EL, hF] at hown
      ·cases h
  | yield i =>
   simp only [au] at h
   split at h
   ·cases h
   ·rename_i hpn
    simp only [ay] at ht
    obtain ⟨b, hb, rfl⟩ := ht
    obtain ⟨rfl, f, tms, asq, bd, h1, h2, h3⟩ := PT hE.inj ih (vZ n) h hs hgl hb ha
    refine ⟨fun k => Frame.round b f tms asq bd k, ⟨_, _, _, _, rfl, ?_, .inr ⟨_, _, _, _, _, rfl, rfl⟩⟩, ?_, ?_⟩
    ·simpa [invoke] using h1
    ·rintro rfl c cs
     obtain ⟨g', w', cv, a1, a2, a3⟩ := h2 c cs
     refine ⟨g', w', cv, a1, a2, ?_⟩
     cases r <;> exact a3
    ·intro _ c cs hm
     cases pn with
     | some v => simp at hpn
     | none =>
      obtain ⟨g', w', a1, a2, a3⟩ := h3 c cs hm
      refine ⟨g', w', a1, a2, ?_⟩
      cases r with
      | ret v => simpa using a3
      | pan v => trivial
  | _ => simp [au] at h
end
open Go Go.RowKit
def g0 (w : World) : Gh := { bl := [], tk := [], imm := fun b _ => b < w.heap.size, base := w.heap.size, dfr := [], lps := [] }
def Qc : St := { bl := [], tk := [], ro := 0, rt := 0 }
variable {P : Program} {L : eB} {E : ak}
theorem TY (C : eR) (w : World) : cp L.toLk C (g0 w) Qc w where
 bl := rfl
 tk := rfl
 blocks i b x h := by simp [g0] at h
 inj i j b h := by simp [g0] at h
 sep i b o h := by simp [g0] at h
 blBase i b h := by simp [g0] at h
 toks t T h := by simp [g0] at h
 tokInj t u T U h := by simp [g0] at h
 immIn b o h := h
 baseIn := Nat.le_refl _
 dfr d h := by simp [g0] at h
 lps d h := by simp [g0] at h
 ro := Nat.le_refl _
 rt := Nat.le_refl _
theorem Qt (hE : Is P L E) {f : Nat} {n : Nat} {args : List AV} {v : AV} {rd : Bool} {s' : St} (h : au E n none (.fn f [] []) args Qc = some (.ret v, rd, s')) (hf : (E.fns f).isSome = true) {w : World} (hgl : Bv L E (g0 w) w) {cargs : List Value} (ha : aw L.toLk (g0 w) w args cargs) :
  Calls P (L.fnOf f) cargs.toArray w fun e w' => (∃ cv g', e = .returned cv /\ ay L.toLk g' w' v cv) /\ Below w.heap.size w w' := by
 cases n with
 | zero => simp [au] at h
 | succ n =>
  cases hF : E.fns f with
  | none => rw [hF] at hf; cases hf
  | some F =>
   simp only [au, hF, List.nil_append, List.append_nil] at h
   intro cs
   obtain ⟨g', w', fn, fr, cv, h0, h1, h2, h3, h4, h5, h6, h7, h8, a1, a2, a3⟩ := FD hE.inj (F0 hE n) (vZ n) (hE.fns f F hF) h (TY _ w) hgl ha .normal cs (.inl rfl)
   have hrec : rd = false := by
    cases hr : rd with
    | false => rfl
    | true => have := (h7 hr).1; cases this
   rw [hrec] at h8
   exact ⟨.returned cv, w', fr, ⟨⟨cv, g', rfl, a1⟩, ⟨h2.os, h2.tape, h2.out, h2.size, h2.old⟩⟩, h8, h3, a2, h5, h4, fn, by rw [h3]; exact h0, a3⟩
theorem MV (hE : Is P L E) {f : Nat} {n : Nat} {args : List AV} {rd : Bool} {s' : St} (h : au E n none (.fn f [] []) args Qc = some (.ret (.bool true), rd, s')) (hf : (E.fns f).isSome = true) {w : World} (hgl : Bv L E (g0 w) w) {cargs : List Value} (ha : aw L.toLk (g0 w) w args cargs) :
  Calls P (L.fnOf f) cargs.toArray w fun e w' => e = .returned (.bool true) /\ Below w.heap.size w w' := by
 intro cs
 obtain ⟨e, w', fr, ⟨⟨cv, g', rfl, hr⟩, hb⟩, h2⟩ := Qt hE h hf hgl ha cs
 simp only [ay] at hr
 exact ⟨_, w', fr, ⟨by rw [hr], hb⟩, h2⟩
open Go Go.RowKit
def UC (P : Program) (L : eB) (F : bS) (vars : List Nat) (fn : Func) : Bool :=
 match fn.body with
 | some c => !(fn.name == "runtime.NumGoroutine") && cQ P L fn.ntmps vars F.body c && (List.range F.np).all (vars.contains ·) && wz P fn.results.toList F.res
 | none => false
abbrev af := List (Nat × bS × List Nat)
def Rd (P : Program) (L : eB) (r : Nat × bS × List Nat) : Bool := match P.funcs[L.fnOf r.1]? with
 | some fn => UC P L r.2.1 r.2.2 fn
 | none => false
def OU (P : Program) (L : eB) : af -> Bool
 | [] => true
 | r :: rs => Rd P L r && OU P L rs
def af.fn : af -> Nat -> Option bS
 | [], _ => none
 | r :: rs, f => if f = r.1 then some r.2.1 else af.fn rs f
theorem Lo {P : Program} {L : eB} {r : Nat × bS × List Nat} (h : Rd P L r = true) : RR P L r.1 r.2.1 := by
 unfold Rd at h
 split at h
 ·rename_i fn hfn
  unfold UC at h
  split at h
  ·rename_i c hc
   simp only [Bool.and_eq_true, Bool.not_eq_true'] at h
   obtain ⟨⟨⟨h1, h2⟩, h3⟩, h4⟩ := h
   exact ⟨fn, c, r.2.2, hfn, hc, h1, h2, fun i hi => List.all_eq_true.1 h3 i (List.mem_range.2 hi), h4⟩
  ·cases h
 ·cases h
theorem Cb {P : Program} {L : eB} : ∀ {t : af}, OU P L t = true -> ∀ f F, t.fn f = some F -> RR P L f F
 | [], _, f, F, h => by simp [af.fn] at h
 | r :: rs, hk, f, F, h => by
  simp only [OU, Bool.and_eq_true] at hk
  simp only [af.fn] at h
  split at h
  ·rename_i hf
   cases h; subst hf
   exact Lo hk.1
  ·exact Cb hk.2 f F h
end Ab
namespace Ab.C
open Ab
theorem uQ {E : ak} (hE : E.fns = af.fn ag) : E.fns jK = some fB := by rw [hE]; rfl
theorem yx {E : ak} (hE : E.fns = af.fn ag) : E.fns jy = some jm := by rw [hE]; rfl
theorem Kb {E : ak} (hE : E.fns = af.fn ag) : E.fns qC = some tf := by rw [hE]; rfl
theorem zV {E : ak} (hE : E.fns = af.fn ag) : E.fns j9 = some jS := by rw [hE]; rfl
theorem zL {E : ak} (hE : E.fns = af.fn ag) : E.fns j4 = some mR := by rw [hE]; rfl
theorem yy {E : ak} (hE : E.fns = af.fn ag) : E.fns dr = some l9 := by rw [hE]; rfl
theorem yz {E : ak} (hE : E.fns = af.fn ag) : E.fns fO = some ma := by rw [hE]; rfl
theorem GK {E : ak} (hE : E.fns = af.fn ag) : E.fns qE = some pO := by rw [hE]; rfl
theorem Fc {E : ak} (hE : E.fns = af.fn ag) : E.fns oK = some sn := by rw [hE]; rfl
theorem GI {E : ak} (hE : E.fns = af.fn ag) : E.fns nj = some tR := by rw [hE]; rfl
theorem Fd {E : ak} (hE : E.fns = af.fn ag) : E.fns iq = some sq := by rw [hE]; rfl
theorem xo {E : ak} (hE : E.fns = af.fn ag) : E.fns iQ = some iA := by rw [hE]; rfl
theorem zW {E : ak} (hE : E.fns = af.fn ag) : E.fns dH = some mX := by rw [hE]; rfl
theorem nO {E : ak} (hE : E.fns = af.fn ag) : E.fns cW = some fE := by rw [hE]; rfl
theorem nN {E : ak} (hE : E.fns = af.fn ag) : E.fns cV = some fC := by rw [hE]; rfl
theorem yB {E : ak} (hE : E.fns = af.fn ag) : E.fns ej = some mc := by rw [hE]; rfl
theorem E8 {E : ak} (hE : E.fns = af.fn ag) : E.fns ip = some er := by rw [hE]; rfl
theorem J1 {E : ak} (hE : E.fns = af.fn ag) : E.fns nF = some wL := by rw [hE]; rfl
theorem A5 {E : ak} (hE : E.fns = af.fn ag) : E.fns aR = some nP := by rw [hE]; rfl
theorem GD {E : ak} (hE : E.fns = af.fn ag) : E.fns qy = some tP := by rw [hE]; rfl
theorem yw {E : ak} (hE : E.fns = af.fn ag) : E.fns jw = some l8 := by rw [hE]; rfl
theorem vl {E : ak} (hE : E.fns = af.fn ag) : E.fns kg = some pN := by rw [hE]; rfl
theorem GJ {E : ak} (hE : E.fns = af.fn ag) : E.fns qD = some tS := by rw [hE]; rfl
theorem vm {E : ak} (hE : E.fns = af.fn ag) : E.fns dX = some dS := by rw [hE]; rfl
theorem Fe {E : ak} (hE : E.fns = af.fn ag) : E.fns lW = some ss := by rw [hE]; rfl
theorem Ib {E : ak} (hE : E.fns = af.fn ag) : E.fns ox = some vC := by rw [hE]; rfl
theorem H9 {E : ak} (hE : E.fns = af.fn ag) : E.fns rE = some vB := by rw [hE]; rfl
theorem lj {E : ak} (hE : E.fns = af.fn ag) : E.fns aW = some dR := by rw [hE]; rfl
theorem Gx {E : ak} (hE : E.fns = af.fn ag) : E.fns qt = some pJ := by rw [hE]; rfl
theorem C6 {E : ak} (hE : E.fns = af.fn ag) : E.fns kc = some mA := by rw [hE]; rfl
theorem Bg {E : ak} (hE : E.fns = af.fn ag) : E.fns kG = some nZ := by rw [hE]; rfl
theorem wh {E : ak} (hE : E.fns = af.fn ag) : E.fns g8 = some kH := by rw [hE]; rfl
theorem rZ {E : ak} (hE : E.fns = af.fn ag) : E.fns dW = some gw := by rw [hE]; rfl
theorem wi {E : ak} (hE : E.fns = af.fn ag) : E.fns eH = some gP := by rw [hE]; rfl
theorem A8 {E : ak} (hE : E.fns = af.fn ag) : E.fns kB = some nS := by rw [hE]; rfl
theorem xn {E : ak} (hE : E.fns = af.fn ag) : E.fns iP = some lz := by rw [hE]; rfl
theorem A7 {E : ak} (hE : E.fns = af.fn ag) : E.fns kA = some nR := by rw [hE]; rfl
theorem zQ {E : ak} (hE : E.fns = af.fn ag) : E.fns j6 = some jQ := by rw [hE]; rfl
theorem xi {E : ak} (hE : E.fns = af.fn ag) : E.fns fh = some eT := by rw [hE]; rfl
theorem ut {E : ak} (hE : E.fns = af.fn ag) : E.fns ff = some iZ := by rw [hE]; rfl
theorem yF {E : ak} (hE : E.fns = af.fn ag) : E.fns fQ = some mh := by rw [hE]; rfl
theorem pk {E : ak} (hE : E.fns = af.fn ag) : E.fns bR = some gO := by rw [hE]; rfl
theorem jb {E : ak} (hE : E.fns = af.fn ag) : E.fns ax = some bJ := by rw [hE]; rfl
theorem C2 {E : ak} (hE : E.fns = af.fn ag) : E.fns ka = some pH := by rw [hE]; rfl
theorem rW {E : ak} (hE : E.fns = af.fn ag) : E.fns aM = some gv := by rw [hE]; rfl
theorem C4 {E : ak} (hE : E.fns = af.fn ag) : E.fns kb = some pI := by rw [hE]; rfl
theorem tj {E : ak} (hE : E.fns = af.fn ag) : E.fns eO = some aD := by rw [hE]; rfl
theorem J6 {E : ak} (hE : E.fns = af.fn ag) : E.fns qA = some wN := by rw [hE]; rfl
theorem sA {E : ak} (hE : E.fns = af.fn ag) : E.fns de = some ia := by rw [hE]; rfl
theorem Cc {E : ak} (hE : E.fns = af.fn ag) : E.fns jd = some oP := by rw [hE]; rfl
theorem wj {E : ak} (hE : E.fns = af.fn ag) : E.fns kQ = some kI := by rw [hE]; rfl
theorem qk {E : ak} (hE : E.fns = af.fn ag) : E.fns g9 = some jT := by rw [hE]; rfl
theorem DQ {E : ak} (hE : E.fns = af.fn ag) : E.fns kS = some rk := by rw [hE]; rfl
theorem uS {E : ak} (hE : E.fns = af.fn ag) : E.fns fG = some fF := by rw [hE]; rfl
theorem mG {E : ak} (hE : E.fns = af.fn ag) : E.fns eP = some dt := by rw [hE]; rfl
theorem lb {E : ak} (hE : E.fns = af.fn ag) : E.fns bx = some bw := by rw [hE]; rfl
theorem ex {E : ak} (hE : E.fns = af.fn ag) : E.fns bo = some aQ := by rw [hE]; rfl
theorem Bb {E : ak} (hE : E.fns = af.fn ag) : E.fns iy = some nV := by rw [hE]; rfl
theorem uo {E : ak} (hE : E.fns = af.fn ag) : E.fns dF = some iY := by rw [hE]; rfl
theorem vk {E : ak} (hE : E.fns = af.fn ag) : E.fns hG = some mC := by rw [hE]; rfl
theorem LR {E : ak} (hE : E.fns = af.fn ag) : E.fns sa = some pd := by rw [hE]; rfl
theorem yH {E : ak} (hE : E.fns = af.fn ag) : E.fns fR = some dY := by rw [hE]; rfl
theorem A6 {E : ak} (hE : E.fns = af.fn ag) : E.fns fp = some nQ := by rw [hE]; rfl
theorem xh {E : ak} (hE : E.fns = af.fn ag) : E.fns fg = some lv := by rw [hE]; rfl
theorem yI {E : ak} (hE : E.fns = af.fn ag) : E.fns fS = some jn := by rw [hE]; rfl
theorem yE {E : ak} (hE : E.fns = af.fn ag) : E.fns fP = some mg := by rw [hE]; rfl
theorem yK {E : ak} (hE : E.fns = af.fn ag) : E.fns fT = some mi := by rw [hE]; rfl
theorem xm {E : ak} (hE : E.fns = af.fn ag) : E.fns fj = some ly := by rw [hE]; rfl
theorem zR {E : ak} (hE : E.fns = af.fn ag) : E.fns eI = some gx := by rw [hE]; rfl
theorem yJ {E : ak} (hE : E.fns = af.fn ag) : E.fns ek = some dZ := by rw [hE]; rfl
theorem xj {E : ak} (hE : E.fns = af.fn ag) : E.fns da = some lw := by rw [hE]; rfl
theorem r6 {E : ak} (hE : E.fns = af.fn ag) : E.fns gH = some jR := by rw [hE]; rfl
theorem zS {E : ak} (hE : E.fns = af.fn ag) : E.fns eJ = some mV := by rw [hE]; rfl
theorem yL {E : ak} (hE : E.fns = af.fn ag) : E.fns jC = some mj := by rw [hE]; rfl
theorem zM {E : ak} (hE : E.fns = af.fn ag) : E.fns eE = some ez := by rw [hE]; rfl
theorem rY {E : ak} (hE : E.fns = af.fn ag) : E.fns gG = some eA := by rw [hE]; rfl
theorem jZ {E : ak} (hE : E.fns = af.fn ag) : E.fns bc = some cg := by rw [hE]; rfl
theorem wl {E : ak} (hE : E.fns = af.fn ag) : E.fns iX = some kK := by rw [hE]; rfl
theorem xd {E : ak} (hE : E.fns = af.fn ag) : E.fns fe = some lq := by rw [hE]; rfl
theorem yf {E : ak} (hE : E.fns = af.fn ag) : E.fns jN = some oB := by rw [hE]; rfl
theorem vj {E : ak} (hE : E.fns = af.fn ag) : E.fns dA = some mB := by rw [hE]; rfl
theorem Nq {E : ak} (hE : E.fns = af.fn ag) : E.fns ux = some BU := by rw [hE]; rfl
theorem J7 {E : ak} (hE : E.fns = af.fn ag) : E.fns nG = some wO := by rw [hE]; rfl
theorem J9 {E : ak} (hE : E.fns = af.fn ag) : E.fns tt = some cX := by rw [hE]; rfl
theorem zK {E : ak} (hE : E.fns = af.fn ag) : E.fns bm = some mQ := by rw [hE]; rfl
theorem Gy {E : ak} (hE : E.fns = af.fn ag) : E.fns qu = some pK := by rw [hE]; rfl
theorem Cd {E : ak} (hE : E.fns = af.fn ag) : E.fns je = some oQ := by rw [hE]; rfl
theorem wk {E : ak} (hE : E.fns = af.fn ag) : E.fns ga = some kJ := by rw [hE]; rfl
theorem kM {E : ak} (hE : E.fns = af.fn ag) : E.fns aS = some cH := by rw [hE]; rfl
theorem jY {E : ak} (hE : E.fns = af.fn ag) : E.fns ba = some ce := by rw [hE]; rfl
theorem GA {E : ak} (hE : E.fns = af.fn ag) : E.fns qv = some tN := by rw [hE]; rfl
theorem zX {E : ak} (hE : E.fns = af.fn ag) : E.fns kT = some mY := by rw [hE]; rfl
theorem sE {E : ak} (hE : E.fns = af.fn ag) : E.fns eu = some il := by rw [hE]; rfl
theorem oa {E : ak} (hE : E.fns = af.fn ag) : E.fns fq = some ky := by rw [hE]; rfl
theorem GB {E : ak} (hE : E.fns = af.fn ag) : E.fns qw = some tO := by rw [hE]; rfl
theorem uq {E : ak} (hE : E.fns = af.fn ag) : E.fns fc = some eS := by rw [hE]; rfl
theorem zN {E : ak} (hE : E.fns = af.fn ag) : E.fns eF = some mS := by rw [hE]; rfl
theorem zO {E : ak} (hE : E.fns = af.fn ag) : E.fns eG = some mT := by rw [hE]; rfl
theorem zP {E : ak} (hE : E.fns = af.fn ag) : E.fns j5 = some mU := by rw [hE]; rfl
theorem zT {E : ak} (hE : E.fns = af.fn ag) : E.fns j7 = some mW := by rw [hE]; rfl
theorem rg {E : ak} (hE : E.fns = af.fn ag) : E.fns bP = some jp := by rw [hE]; rfl
theorem rf {E : ak} (hE : E.fns = af.fn ag) : E.fns fV = some aJ := by rw [hE]; rfl
theorem E9 {E : ak} (hE : E.fns = af.fn ag) : E.fns oI = some sm := by rw [hE]; rfl
theorem zY {E : ak} (hE : E.fns = af.fn ag) : E.fns gJ = some pL := by rw [hE]; rfl
theorem J2 {E : ak} (hE : E.fns = af.fn ag) : E.fns kf = some wM := by rw [hE]; rfl
theorem GF {E : ak} (hE : E.fns = af.fn ag) : E.fns qz = some tQ := by rw [hE]; rfl
theorem C7 {E : ak} (hE : E.fns = af.fn ag) : E.fns mJ = some gR := by rw [hE]; rfl
theorem xp {E : ak} (hE : E.fns = af.fn ag) : E.fns iR = some lB := by rw [hE]; rfl
theorem GH {E : ak} (hE : E.fns = af.fn ag) : E.fns jg = some pM := by rw [hE]; rfl
theorem Fb {E : ak} (hE : E.fns = af.fn ag) : E.fns oJ = some ft := by rw [hE]; rfl
theorem J8 {E : ak} (hE : E.fns = af.fn ag) : E.fns nH = some wP := by rw [hE]; rfl
theorem lH {E : ak} (hE : E.fns = af.fn ag) : E.fns bC = some bz := by rw [hE]; rfl
theorem DR {E : ak} (hE : E.fns = af.fn ag) : E.fns bY = some rm := by rw [hE]; rfl
theorem uv {E : ak} (hE : E.fns = af.fn ag) : E.fns jf = some i6 := by rw [hE]; rfl
theorem uT {E : ak} (hE : E.fns = af.fn ag) : E.fns fH = some jG := by rw [hE]; rfl
theorem Gz {E : ak} (hE : E.fns = af.fn ag) : E.fns ni = some tM := by rw [hE]; rfl
theorem sB {E : ak} (hE : E.fns = af.fn ag) : E.fns dg = some ii := by rw [hE]; rfl
theorem yv {E : ak} (hE : E.fns = af.fn ag) : E.fns eg = some dk := by rw [hE]; rfl
theorem sC {E : ak} (hE : E.fns = af.fn ag) : E.fns dh = some ij := by rw [hE]; rfl
theorem zZ {E : ak} (hE : E.fns = af.fn ag) : E.fns ke = some pc := by rw [hE]; rfl
theorem sD {E : ak} (hE : E.fns = af.fn ag) : E.fns bX = some ik := by rw [hE]; rfl
theorem GC {E : ak} (hE : E.fns = af.fn ag) : E.fns qx = some gz := by rw [hE]; rfl
theorem yG {E : ak} (hE : E.fns = af.fn ag) : E.fns jB = some aN := by rw [hE]; rfl
theorem xk {E : ak} (hE : E.fns = af.fn ag) : E.fns iN = some lx := by rw [hE]; rfl
theorem uR {E : ak} (hE : E.fns = af.fn ag) : E.fns dQ = some fD := by rw [hE]; rfl
theorem re {E : ak} (hE : E.fns = af.fn ag) : E.fns fU = some bM := by rw [hE]; rfl
theorem rX {E : ak} (hE : E.fns = af.fn ag) : E.fns dG = some jP := by rw [hE]; rfl
theorem qd {E : ak} (hE : E.fns = af.fn ag) : E.fns dO = some eU := by rw [hE]; rfl
theorem zU {E : ak} (hE : E.fns = af.fn ag) : E.fns j8 = some gy := by rw [hE]; rfl
theorem qb {E : ak} (hE : E.fns = af.fn ag) : E.fns fi = some dJ := by rw [hE]; rfl
theorem pm {E : ak} (hE : E.fns = af.fn ag) : E.fns cK = some gQ := by rw [hE]; rfl
theorem uu {E : ak} (hE : E.fns = af.fn ag) : E.fns f9 = some fY := by rw [hE]; rfl
theorem rh {E : ak} (hE : E.fns = af.fn ag) : E.fns fW = some ea := by rw [hE]; rfl
theorem Pz {E : ak} (hE : E.fns = af.fn ag) : E.fns ww = some DA := by rw [hE]; rfl
theorem Bd {E : ak} (hE : E.fns = af.fn ag) : E.fns kD = some nX := by rw [hE]; rfl
theorem Bc {E : ak} (hE : E.fns = af.fn ag) : E.fns kC = some nW := by rw [hE]; rfl
theorem vG {E : ak} (hE : E.fns = af.fn ag) : E.fns gt = some gk := by rw [hE]; rfl
theorem nD {E : ak} (hE : E.fns = af.fn ag) : E.fns cC = some br := by rw [hE]; rfl
theorem J0 {E : ak} (hE : E.fns = af.fn ag) : E.fns tq = some wK := by rw [hE]; rfl
theorem DP {E : ak} (hE : E.fns = af.fn ag) : E.fns kP = some rj := by rw [hE]; rfl
theorem xf {E : ak} (hE : E.fns = af.fn ag) : E.fns iM = some lr := by rw [hE]; rfl
theorem vE {E : ak} (hE : E.fns = af.fn ag) : E.fns gp = some di := by rw [hE]; rfl
theorem yD {E : ak} (hE : E.fns = af.fn ag) : E.fns jA = some mf := by rw [hE]; rfl
theorem xe {E : ak} (hE : E.fns = af.fn ag) : E.fns iL = some dI := by rw [hE]; rfl
theorem vF {E : ak} (hE : E.fns = af.fn ag) : E.fns gq = some kl := by rw [hE]; rfl
theorem A9 {E : ak} (hE : E.fns = af.fn ag) : E.fns ix = some nU := by rw [hE]; rfl
theorem GG {E : ak} (hE : E.fns = af.fn ag) : E.fns qB = some bK := by rw [hE]; rfl
theorem Bf {E : ak} (hE : E.fns = af.fn ag) : E.fns kF = some nY := by rw [hE]; rfl
theorem qe {E : ak} (hE : E.fns = af.fn ag) : E.fns dy = some bZ := by rw [hE]; rfl
theorem yA {E : ak} (hE : E.fns = af.fn ag) : E.fns ei = some mb := by rw [hE]; rfl
theorem xg {E : ak} (hE : E.fns = af.fn ag) : E.fns dN = some lu := by rw [hE]; rfl
theorem yC {E : ak} (hE : E.fns = af.fn ag) : E.fns jz = some md := by rw [hE]; rfl
theorem qj {E : ak} (hE : E.fns = af.fn ag) : E.fns dz = some cd := by rw [hE]; rfl
theorem uP {E : ak} (hE : E.fns = af.fn ag) (a c : List AV) : calm E (.fn cW a c) = true := by simp only [calm, nO hE, fE]
theorem uO {E : ak} (hE : E.fns = af.fn ag) (a c : List AV) : calm E (.fn cV a c) = true := by simp only [calm, nN hE, fC]
theorem CJ {E : ak} (hE : E.fns = af.fn ag) (a c : List AV) : calm E (.fn dX a c) = true := by simp only [calm, vm hE, dS]
theorem rV {E : ak} (hE : E.fns = af.fn ag) (a c : List AV) : calm E (.fn aW a c) = true := by simp only [calm, lj hE, dR]
theorem vW {E : ak} (hE : E.fns = af.fn ag) (a c : List AV) : calm E (.fn bR a c) = true := by simp only [calm, pk hE, gO]
theorem DC {E : ak} (hE : E.fns = af.fn ag) (a c : List AV) : calm E (.fn kQ a c) = true := by simp only [calm, wj hE, kI]
theorem CI {E : ak} (hE : E.fns = af.fn ag) (a c : List AV) : calm E (.fn hG a c) = true := by simp only [calm, vk hE, mC]
theorem zq {E : ak} (hE : E.fns = af.fn ag) (a c : List AV) : calm E (.fn gH a c) = true := by simp only [calm, r6 hE, jR]
theorem zp {E : ak} (hE : E.fns = af.fn ag) (a c : List AV) : calm E (.fn gG a c) = true := by simp only [calm, rY hE, eA]
theorem DD {E : ak} (hE : E.fns = af.fn ag) (a c : List AV) : calm E (.fn iX a c) = true := by simp only [calm, wl hE, kK]
theorem E2 {E : ak} (hE : E.fns = af.fn ag) (a c : List AV) : calm E (.fn jN a c) = true := by simp only [calm, yf hE, oB]
theorem CH {E : ak} (hE : E.fns = af.fn ag) (a c : List AV) : calm E (.fn dA a c) = true := by simp only [calm, vj hE, mB]
theorem ny {E : ak} (hE : E.fns = af.fn ag) (a c : List AV) : calm E (.fn ga a c) = true := by simp only [calm, wk hE, kJ]
theorem zr {E : ak} (hE : E.fns = af.fn ag) (a c : List AV) : calm E (.fn kT a c) = true := by simp only [calm, zX hE, mY]
theorem yp {E : ak} (hE : E.fns = af.fn ag) (a c : List AV) : calm E (.fn bP a c) = true := by simp only [calm, rg hE, jp]
theorem yo {E : ak} (hE : E.fns = af.fn ag) (a c : List AV) : calm E (.fn fV a c) = true := by simp only [calm, rf hE, aJ]
theorem FX {E : ak} (hE : E.fns = af.fn ag) (a c : List AV) : calm E (.fn gJ a c) = true := by simp only [calm, zY hE, pL]
theorem Ep {E : ak} (hE : E.fns = af.fn ag) (a c : List AV) : calm E (.fn ke a c) = true := by simp only [calm, zZ hE, pc]
theorem rb {E : ak} (hE : E.fns = af.fn ag) (a c : List AV) : calm E (.fn fU a c) = true := by simp only [calm, re hE, bM]
theorem rU {E : ak} (hE : E.fns = af.fn ag) (a c : List AV) : calm E (.fn dG a c) = true := by simp only [calm, rX hE, jP]
theorem wW {E : ak} (hE : E.fns = af.fn ag) (a c : List AV) : calm E (.fn dO a c) = true := by simp only [calm, qd hE, eU]
theorem wV {E : ak} (hE : E.fns = af.fn ag) (a c : List AV) : calm E (.fn fi a c) = true := by simp only [calm, qb hE, dJ]
theorem vX {E : ak} (hE : E.fns = af.fn ag) (a c : List AV) : calm E (.fn cK a c) = true := by simp only [calm, pm hE, gQ]
theorem BX {E : ak} (hE : E.fns = af.fn ag) (a c : List AV) : calm E (.fn f9 a c) = true := by simp only [calm, uu hE, fY]
theorem yq {E : ak} (hE : E.fns = af.fn ag) (a c : List AV) : calm E (.fn fW a c) = true := by simp only [calm, rh hE, ea]
end Ab.C
namespace Ab
open Go Go.RowKit
def zy (P : Program) : Nat -> List Field -> Option Nat
 | n, [] => some n
 | n, f :: r => if f.offset = n then zy P (n + P.cellsOf f.type) r else none
def Fw (P : Program) (S : List TypeId) : Bool := S.all fun t => match P.underlying t with
 | some .bool | some (.int _) | some .string => true
 | some (.slice e) => S.contains e && decide (0 < P.cellsOf e)
 | some (.struct fs) => fs.toList.all (fun f => S.contains f.type) && zy P 0 fs.toList == some (P.cellsOf t)
 | _ => false
def oV (agg : Bool) (ys : List AV) : AV := if agg then .agg ys else ys.headD .junk
inductive Of (P : Program) : TypeId -> List AV -> Prop
 | bool {t : TypeId} (h : P.underlying t = some .bool) (b : Bool) : Of P t [.bool b]
 | int {t : TypeId} {k : IntKind} (h : P.underlying t = some (.int k)) (n : Int) (hw : (Lit.int k n).wf = true) : Of P t [.int k n]
 | str {t : TypeId} (h : P.underlying t = some .string) (s : List UInt8) (hl : s.length <= maxLen) : Of P t [.str s]
 | nil {t e : TypeId} (h : P.underlying t = some (.slice e)) : Of P t [.sl .nil (P.cellsOf e) []]
 | slice {t e : TypeId} (h : P.underlying t = some (.slice e)) (yss : List (List AV)) (hy : ∀ ys ∈ yss, Of P e ys) (hl : yss.length <= maxLen) : Of P t [.sl .any (P.cellsOf e) (yss.map (oV ((fy P e).getD false)))]
 | struct {t : TypeId} {fs : Array Field} (h : P.underlying t = some (.struct fs)) (xss : List (List AV)) (hlen : xss.length = fs.size) (hx : ∀ (i : Nat) (f : Field) (xs : List AV), fs[i]? = some f -> xss[i]? = some xs -> Of P f.type xs) : Of P t xss.flatten
theorem zA {α : Type} {Q : Nat -> α -> Prop} : ∀ {n : Nat}, (∀ i, i < n -> ∃ x, Q i x) -> ∃ l : List α, l.length = n /\ ∀ (i : Nat) (x : α), l[i]? = some x -> Q i x
 | 0, _ => ⟨[], rfl, by simp⟩
 | n + 1, h => by
  obtain ⟨l, hl, hq⟩ := zA (n := n) fun i hi => h i (by omega)
  obtain ⟨x, hx⟩ := h n (by omega)
  refine ⟨l ++ [x], by simp [hl], fun i y hy => ?_⟩
  by_cases hi : i < n
  ·rw [List.getElem?_append_left (by omega)] at hy
   exact hq i y hy
  ·have : i < (l ++ [x]).length := (List.getElem?_eq_some_iff.1 hy).1
   simp [hl] at this
   have : i = n := by omega
   subst this
   rw [List.getElem?_append_right (by omega)] at hy
   simp [hl] at hy
   subst hy; exact hx
theorem Db {α β : Type} {f : α -> Option β} : ∀ {l : List α} {r : List β}, l.mapM f = some r -> r.length = l.length
 | [], r, h => by simp at h; subst h; rfl
 | x :: l, r, h => by
  simp only [List.mapM_cons, Option.bind_eq_bind, Option.bind_eq_some_iff, Option.pure_def, Option.some.injEq] at h
  obtain ⟨b, _, r', hr', rfl⟩ := h
  simp [Db hr']
theorem Da {α β : Type} {f : α -> Option β} : ∀ {l : List α} {r : List β}, l.mapM f = some r -> ∀ (i : Nat) (a : α), l[i]? = some a -> ∃ b, r[i]? = some b /\ f a = some b
 | [], r, h, i, a, ha => by simp at ha
 | x :: l, r, h, i, a, ha => by
  simp only [List.mapM_cons, Option.bind_eq_bind, Option.bind_eq_some_iff, Option.pure_def, Option.some.injEq] at h
  obtain ⟨b, hb, r', hr', rfl⟩ := h
  cases i with
  | zero => simp at ha; subst ha; exact ⟨b, rfl, hb⟩
  | succ i => simp at ha; simpa using Da hr' i a ha
theorem IF {w : World} {a : Addr} {v : Value} (h : w.cell? a = some v) : a.spot = none /\ a.block < w.heap.size := by
 unfold World.cell? at h
 split at h
 ·rename_i c e fz hc
  split at h
  ·cases h
  ·rename_i hs
   exact ⟨by simpa using hs, (Array.getElem?_eq_some_iff.1 hc).1⟩
 ·cases h
theorem Qx {w : World} {a : Addr} {n : Nat} {v : Value} (h : w.cell? (a.add n) = some v) : w.cell? ⟨a.block, a.off + n, none⟩ = some v /\ a.block < w.heap.size := by
 have hs := IF h
 have e : a.add n = ⟨a.block, a.off + n, none⟩ := by
  unfold Addr.add at hs ⊢
  split at hs
  ·rename_i h0; subst h0; obtain ⟨b, o, s⟩ := a; simp only at hs; simp [hs.1]
  ·rename_i h0; rw [if_neg h0]
 rw [e] at h
 refine ⟨h, ?_⟩
 have := hs.2
 rw [e] at this; exact this
theorem B4 {w : World} {a : Addr} {n : Nat} {cs : List Value} (h : w.cells? 0 a n = some cs) : cs.length = n /\ ∀ (j : Nat) (c : Value), cs[j]? = some c -> w.cell? (a.add j) = some c := by
 unfold World.cells? at h
 simp only [Nat.zero_le, if_true] at h
 have hl := Db h
 simp at hl
 refine ⟨hl, fun j c hj => ?_⟩
 have hjn : j < n := by have := (List.getElem?_eq_some_iff.1 hj).1; omega
 obtain ⟨b, hb, hc⟩ := Da h j j (by simp [hjn])
 rw [hj] at hb; cases hb; exact hc
theorem L7 {g : Gh} {w : World} {b o : Nat} {xs ys : List Value} (h1 : Ct g w b o xs) (h2 : Ct g w b (o + xs.length) ys) : Ct g w b o (xs ++ ys) := by
 intro j c hj
 by_cases hl : j < xs.length
 ·rw [List.getElem?_append_left hl] at hj; exact h1 j c hj
 ·rw [List.getElem?_append_right (by omega)] at hj
  have := h2 (j - xs.length) c hj
  rwa [show o + xs.length + (j - xs.length) = o + j by omega] at this
theorem I5 {g : Gh} {w : World} {b n : Nat} : ∀ {vs : List Value} {o : Nat}, (∀ u ∈ vs, u.cells.size = n) -> (∀ (i : Nat) (u : Value), vs[i]? = some u -> Ct g w b (o + i * n) u.cells.toList) -> Ct g w b o (cM vs)
 | [], o, _, _ => by intro j c hj; simp [cM] at hj
 | u :: vs, o, hs, h => by
  have h0 := h 0 u rfl
  simp only [Nat.zero_mul, Nat.add_zero] at h0
  have : cM (u :: vs) = u.cells.toList ++ cM vs := by simp [cM]
  rw [this]
  refine L7 h0 (I5 (fun x hx => hs x (List.mem_cons_of_mem _ hx)) fun i x hi => ?_)
  have h1 := h (i + 1) x (by simpa using hi)
  have hsz := hs u (List.mem_cons_self ..)
  rw [show o + (i + 1) * n = o + u.cells.toList.length + i * n by simp [hsz, Nat.add_mul]; omega] at h1
  exact h1
theorem LZ {P : Program} {e : TypeId} {d : TypeDesc} (h : P.underlying e = some d) : fy P e = some (lL d) := by simp [fy, h]
theorem ND {P : Program} {e : TypeId} {d : TypeDesc} (h : P.underlying e = some d) (hd : lL d = false) {ys : List AV} (ho : Of P e ys) : ∃ y, ys = [y] := by
 cases ho with
 | bool _ b => exact ⟨_, rfl⟩
 | int _ n _ => exact ⟨_, rfl⟩
 | str _ s _ => exact ⟨_, rfl⟩
 | nil _ => exact ⟨_, rfl⟩
 | slice _ yss _ _ => exact ⟨_, rfl⟩
 | struct h' xss _ _ => rw [h] at h'; cases h'; cases hd
mutual
def li {H : Type} : DataW H -> Nat
 | .lit (.string bytes) => bytes.length + 1
 | .lit _ => 1
 | .nil => 1
 | .ptr d => li d + 1
 | .slice elems spare => rT elems + rT spare + 1
 | .agg parts => rT parts + 1
 | .iface _ d => li d + 1
 | .map entries => K6 entries + 1
 | .held _ => 1
def rT {H : Type} : List (DataW H) -> Nat
 | [] => 0
 | d :: r => li d + rT r
def K6 {H : Type} : List (Lit × DataW H) -> Nat
 | [] => 0
 | x :: r => Qr x + K6 r
def Qr {H : Type} : Lit × DataW H -> Nat
 | (.string bytes, d) => bytes.length + li d + 1
 | (_, d) => li d + 1
end
mutual
def AV.sz : AV -> Nat
 | .str s => s.length + 1
 | .sl _ _ xs => AV.szL xs + 1
 | .agg xs => AV.szL xs + 1
 | _ => 1
def AV.szL : List AV -> Nat
 | [] => 0
 | x :: xs => AV.sz x + AV.szL xs
end
theorem AV.szL_append : ∀ a b : List AV, AV.szL (a ++ b) = AV.szL a + AV.szL b
 | [], b => by simp [AV.szL]
 | x :: a, b => by simp only [List.cons_append, AV.szL, AV.szL_append a b]; omega
def Qh (P : Program) (t : TypeId) : Nat := if (fy P t).getD false then 1 else 0
theorem My {H : Type} {γ : Type} : ∀ {qs : List γ} {g : γ -> AV} {es : List (DataW H × List MemPlace)}, qs.length = es.length -> (∀ (i : Nat) q y, qs[i]? = some q -> es[i]? = some y -> AV.sz (g q) <= li y.1) -> AV.szL (qs.map g) <= rT (es.map (·.1))
 | [], _, [], _, _ => by simp [AV.szL, rT]
 | q :: qs, g, y :: es, hl, h => by
  have h0 := h 0 q y rfl rfl
  have h1 := My (qs := qs) (g := g) (es := es) (by simpa using hl) fun i a b ha hb => h (i + 1) a b (by simpa using ha) (by simpa using hb)
  simp only [List.map_cons, AV.szL, rT]; omega
theorem Mx {H : Type} : ∀ {qs : List (List AV)} {es : List (DataW H × List MemPlace)}, qs.length = es.length -> (∀ (i : Nat) q y, qs[i]? = some q -> es[i]? = some y -> AV.szL q <= li y.1) -> AV.szL qs.flatten <= rT (es.map (·.1))
 | [], [], _, _ => by simp [AV.szL, rT]
 | q :: qs, y :: es, hl, h => by
  have h0 := h 0 q y rfl rfl
  have h1 := Mx (qs := qs) (es := es) (by simpa using hl) fun i a b ha hb => h (i + 1) a b (by simpa using ha) (by simpa using hb)
  simp only [List.flatten_cons, AV.szL_append, List.map_cons, rT]; omega
theorem DW {H : Type} {enc : TypeId × Value -> H} {P : Program} {S : List TypeId} (hS : Fw P S = true) {L : Lk} {W : World} : ∀ (fuel : Nat) (t : TypeId) (cs : List Value) (d : DataW H) (ps : List MemPlace), t ∈ S ->
  DataW.trod enc P W 0 (fun _ => true) true fuel t cs = some (d, ps) -> ∃ xs, aw L (g0 W) W xs cs /\ AV.untokL xs = xs /\ (∀ u ∈ cs, bs u) /\ Of P t xs /\ AV.szL xs + Qh P t <= li d
 | 0, t, cs, d, ps, _, h => by simp [DataW.trod] at h
 | fuel + 1, t, cs, d, ps, ht, h => by
  have hc := List.all_eq_true.1 hS t ht
  unfold DataW.trod at h
  cases hu : P.underlying t with
  | none => rw [hu] at hc; cases hc
  | some dd0 =>
   rw [hu] at hc h
   cases dd0 with
   | bool =>
    simp only at h
    split at h <;> first | (cases h; done) | (rename_i he; cases he; done) | skip
    rename_i b he
    refine ⟨[.bool b], aw.singleton (by simp [ay]), rfl, by simp [bs], .bool hu b, by cases h; simp [AV.szL, AV.sz, Qh, fy, hu, lL, li]⟩
   | int k =>
    simp only at h
    split at h <;> first | (cases h; done) | (rename_i he; cases he; done) | skip
    rename_i k0 k' n he
    cases he
    split at h
    ·rename_i hk
     obtain ⟨rfl, hw⟩ := hk
     refine ⟨[.int k' n], aw.singleton (by simp [ay]), rfl, by simp [bs], .int hu n hw, by cases h; simp [AV.szL, AV.sz, Qh, fy, hu, lL, li]⟩
    ·cases h
   | string =>
    simp only at h
    split at h <;> first | (cases h; done) | (rename_i he; cases he; done) | skip
    rename_i b he
    split at h
    ·rename_i hl
     refine ⟨[.str b.data.toList], aw.singleton (by simp [ay]), rfl, by simp [bs], .str hu _ (by simpa using hl), by cases h; simp [AV.szL, AV.sz, Qh, fy, hu, lL, li]⟩
    ·cases h
   | slice e =>
    simp only at h
    split at h <;> first | (cases h; done) | (rename_i he; cases he; done) | skip
    ·rename_i e0 he
     cases he
     refine ⟨[.sl .nil (P.cellsOf e) []], aw.singleton ?_, rfl, by simp [bs], .nil hu, by cases h; simp [AV.szL, AV.sz, Qh, fy, hu, lL, li]⟩
     simp only [ay]
     exact ⟨none, 0, [], rfl, Nat.le_refl _, rfl, by simp [aw], by simp, by simp, by simp [tT]⟩
    ·rename_i e0 a len cap he
     cases he
     simp only [Bool.and_eq_true, List.contains_iff_mem, decide_eq_true_eq] at hc
     split at h
     ·rename_i hb
      simp only [Option.bind_eq_some_iff, Option.map_eq_some_iff] at h
      obtain ⟨elems, helems, rest, _, hd⟩ := h
      cases hd
      -- each element
      have each : ∀ i, i < len -> ∃ q : List Value × List AV, W.cells? 0 (a.add (i * P.cellsOf e)) (P.cellsOf e) = some q.1 /\ aw L (g0 W) W q.2 q.1 /\ AV.untokL q.2 = q.2 /\ (∀ u ∈ q.1, bs u) /\ Of P e q.2 /\ ∀ y, elems[i]? = some y -> AV.szL q.2 + Qh P e <= li y.1 := by
       intro i hi
       obtain ⟨y, hyi, hy⟩ := Da helems i i (by simp [hi])
       simp only [Option.bind_eq_some_iff] at hy
       obtain ⟨ci, hci, hti⟩ := hy
       obtain ⟨xs, h1, h2, h3, h4, h5⟩ := DW hS fuel e ci y.1 y.2 hc.1 hti
       exact ⟨(ci, xs), hci, h1, h2, h3, h4, fun y' hy' => by rw [hyi] at hy'; cases hy'; exact h5⟩
      obtain ⟨qs, hqs, hq⟩ := zA each
      obtain ⟨dd, hdd⟩ : ∃ dd, P.underlying e = some dd := by
       have := List.all_eq_true.1 hS e hc.1
       cases he : P.underlying e with
       | none => rw [he] at this; cases this
       | some dd => exact ⟨dd, rfl⟩
      have hagg := LZ hdd
      let tov : List Value × List AV -> Value := fun q => if lL dd then .agg q.1.toArray else q.1.headD undef
      -- one element
      have elemRep : ∀ q ∈ qs, ay L (g0 W) W (oV (lL dd) q.2) (tov q) /\ (tov q).cells.toList = q.1 /\ AV.untok (oV (lL dd) q.2) = oV (lL dd) q.2 := by
       intro q hqm
       obtain ⟨i, hi⟩ := List.mem_iff_getElem?.1 hqm
       obtain ⟨h1, h2, h3, h4, h5, _⟩ := hq i q hi
       cases hda : lL dd with
       | true =>
        simp only [oV, tov, hda, if_true]
        refine ⟨by simp only [ay]; exact ⟨q.1, rfl, h2, h4⟩, by simp [Value.cells], by simp only [AV.untok, h3]⟩
       | false =>
        obtain ⟨y, hy⟩ := ND hdd hda h5
        simp only [oV, tov, hda, hy, List.headD_cons]
        rw [hy] at h2 h3
        simp only [aw] at h2
        obtain ⟨v, r, hv, h6, rfl⟩ := h2
        rw [hv]
        simp only [List.headD_cons]
        refine ⟨h6, ?_, by simpa [AV.untokL] using h3⟩
        have := h4 v (by rw [hv]; simp)
        rw [if_neg (by simp), AY this]
      have hvs : aw L (g0 W) W (qs.map fun q => oV (lL dd) q.2) (qs.map tov) := aw.map _ _ qs fun q hqm => (elemRep q hqm).1
      have hcellsz : ∀ q ∈ qs, q.1.length = P.cellsOf e := by
       intro q hqm
       obtain ⟨i, hi⟩ := List.mem_iff_getElem?.1 hqm
       exact (B4 (hq i q hi).1).1
      refine ⟨[.sl .any (P.cellsOf e) (qs.map fun q => oV (lL dd) q.2)], aw.singleton ?_, rfl, by simp [bs], ?_, ?_⟩
      ·simp only [ay]
       refine ⟨some a, cap, qs.map tov, by simp [hqs], by simp [hqs]; omega, ?_, hvs, ?_, ⟨?_, ?_⟩, rfl⟩
       ·rw [AV.untokL_eq, List.map_map]
        exact List.map_congr_left fun q hqm => (elemRep q hqm).2.2
       ·intro u hu'
        obtain ⟨q, hqm, rfl⟩ := List.mem_map.1 hu'
        have h1 := (elemRep q hqm).2.1
        refine ⟨?_, ?_⟩
        ·rw [<- Array.length_toList, h1]; exact hcellsz q hqm
        ·obtain ⟨i, hi⟩ := List.mem_iff_getElem?.1 hqm
         rw [h1]; exact (hq i q hi).2.2.2.1
       ·intro hne
        cases qs with
        | nil => simp at hne
        | cons q r =>
         obtain ⟨h1, _⟩ := hq 0 q rfl
         have h2 := B4 h1
         have h3 : 0 < q.1.length := by rw [h2.1]; exact hc.2
         have h4 := IF (h2.2 0 q.1[0] (List.getElem?_eq_getElem h3))
         have : (a.add (0 * P.cellsOf e)).add 0 = a := by simp [Addr.add]
         rw [this] at h4
         exact h4.1
       ·refine I5 (n := P.cellsOf e) (fun u hu' => ?_) fun i u hi => ?_
        ·obtain ⟨q, hqm, rfl⟩ := List.mem_map.1 hu'
         rw [<- Array.length_toList, (elemRep q hqm).2.1]; exact hcellsz q hqm
        ·rw [List.getElem?_map] at hi
         cases hqi : qs[i]? with
         | none => rw [hqi] at hi; cases hi
         | some q =>
          rw [hqi] at hi
          simp only [Option.map_some, Option.some.injEq] at hi
          subst hi
          rw [(elemRep q (List.mem_of_getElem? hqi)).2.1]
          intro j c hj
          have h2 := (B4 (hq i q hqi).1).2 j c hj
          have h3 := Qx h2
          have h4 : (a.add (i * P.cellsOf e)).block = a.block /\ (a.add (i * P.cellsOf e)).off = a.off + i * P.cellsOf e := by
           unfold Addr.add; split
           ·rename_i h0; exact ⟨rfl, by omega⟩
           ·exact ⟨rfl, rfl⟩
          rw [h4.1, h4.2] at h3
          exact ⟨h3.2, h3.1⟩
      ·have : (qs.map fun q => oV (lL dd) q.2) = (qs.map (·.2)).map (oV ((fy P e).getD false)) := by
        rw [hagg, List.map_map]; rfl
       rw [this]
       refine .slice hu _ (fun ys hys => ?_) (by simp [hqs]; omega)
       obtain ⟨q, hqm, rfl⟩ := List.mem_map.1 hys
       obtain ⟨i, hi⟩ := List.mem_iff_getElem?.1 hqm
       exact (hq i q hi).2.2.2.2.1
      ·have hle : elems.length = len := by have := Db helems; simpa using this
       have hsum := My (qs := qs) (g := fun q => oV (lL dd) q.2) (es := elems) (by rw [hqs, hle]) fun i q y hqi hyi => by
        have h6 := (hq i q hqi).2.2.2.2.2 y hyi
        cases hda : lL dd with
        | true =>
         simp only [oV, hda, if_true, AV.sz]
         simp only [Qh, hagg, Option.getD_some, hda, if_true] at h6
         exact h6
        | false =>
         obtain ⟨y2, hy2⟩ := ND hdd hda (hq i q hqi).2.2.2.2.1
         simp only [oV, hda, hy2, List.headD_cons]
         simp only [hy2, AV.szL] at h6
         simp only [Bool.false_eq_true, if_false]
         omega
       have ha : Qh P t = 0 := by simp [Qh, fy, hu, lL]
       simp only [AV.szL, AV.sz, ha, li]
       omega
     ·cases h
   | struct fs =>
    simp only at h
    simp only [Bool.and_eq_true, beq_iff_eq] at hc
    split at h
    ·rename_i hlen
     simp only [Option.map_eq_some_iff] at h
     obtain ⟨xs, hxs, hd⟩ := h
     cases hd
     have each : ∀ i, i < fs.toList.length -> ∃ q : List AV, ∀ f, fs.toList[i]? = some f -> aw L (g0 W) W q ((cs.drop f.offset).take (P.cellsOf f.type)) /\ AV.untokL q = q /\ (∀ u ∈ (cs.drop f.offset).take (P.cellsOf f.type), bs u) /\ Of P f.type q /\ ∀ y, xs[i]? = some y -> AV.szL q <= li y.1 := by
      intro i hi
      obtain ⟨y, hyi, hy⟩ := Da hxs i fs.toList[i] (List.getElem?_eq_getElem hi)
      have hmem : fs.toList[i].type ∈ S := by
       have := List.all_eq_true.1 hc.1 fs.toList[i] (List.getElem_mem hi)
       simpa using this
      obtain ⟨q, h1, h2, h3, h4, h5⟩ := DW hS fuel _ _ y.1 y.2 hmem hy
      refine ⟨q, fun f hf => ?_⟩
      rw [List.getElem?_eq_getElem hi] at hf
      cases hf
      exact ⟨h1, h2, h3, h4, fun y' hy' => by rw [hyi] at hy'; cases hy'; omega⟩
     obtain ⟨qs, hqs, hq⟩ := zA each
     -- the parts lie one behind the other
     have glue : ∀ (l : List Field) (ys : List (List AV)) (n m : Nat), zy P n l = some m -> ys.length = l.length -> n <= cs.length -> m <= cs.length -> (∀ (i : Nat) (f : Field) (q : List AV), l[i]? = some f -> ys[i]? = some q -> aw L (g0 W) W q ((cs.drop f.offset).take (P.cellsOf f.type)) /\ AV.untokL q = q /\ (∀ u ∈ (cs.drop f.offset).take (P.cellsOf f.type), bs u)) ->
       n <= m /\ aw L (g0 W) W ys.flatten ((cs.drop n).take (m - n)) /\ AV.untokL ys.flatten = ys.flatten /\ ∀ u ∈ (cs.drop n).take (m - n), bs u := by
      intro l
      induction l with
      | nil =>
       intro ys n m hcon hyl _ _ _
       simp only [zy, Option.some.injEq] at hcon
       subst hcon
       have : ys = [] := List.eq_nil_of_length_eq_zero (by simpa using hyl)
       subst this
       simp [aw, AV.untokL]
      | cons f l ih =>
       intro ys n m hcon hyl hn hm hall
       simp only [zy] at hcon
       split at hcon
       ·rename_i hoff
        cases ys with
        | nil => simp at hyl
        | cons y ys =>
         have h0 := hall 0 f y rfl rfl
         rw [hoff] at h0
         have hle : n + P.cellsOf f.type <= m := by
          have : ∀ (l : List Field) (n m : Nat), zy P n l = some m -> n <= m := by
           intro l
           induction l with
           | nil => intro n m h; simp only [zy, Option.some.injEq] at h; omega
           | cons g l ih =>
            intro n m h
            simp only [zy] at h
            split at h
            ·have := ih _ _ h; omega
            ·cases h
          exact this _ _ _ hcon
         obtain ⟨_, i2, i3, i4⟩ := ih ys (n + P.cellsOf f.type) m hcon (by simpa using hyl) (by omega) hm (fun i g q hg hq' => hall (i + 1) g q (by simpa using hg) (by simpa using hq'))
         have e1 : (cs.drop n).take (m - n) = (cs.drop n).take (P.cellsOf f.type) ++ (cs.drop (n + P.cellsOf f.type)).take (m - (n + P.cellsOf f.type)) := by
          rw [show m - n = P.cellsOf f.type + (m - (n + P.cellsOf f.type)) by omega, List.take_add, List.drop_drop]
         refine ⟨by omega, ?_, ?_, ?_⟩
         ·rw [e1, List.flatten_cons]; exact h0.1.append i2
         ·rw [List.flatten_cons, AV.untokL_append, h0.2.1, i3]
         ·intro u hu'
          rw [e1] at hu'
          rcases List.mem_append.1 hu' with hu' | hu'
          ·exact h0.2.2 u hu'
          ·exact i4 u hu'
       ·cases hcon
     obtain ⟨_, g2, g3, g4⟩ := glue fs.toList qs 0 (P.cellsOf t) hc.2 hqs (Nat.zero_le _) (by omega) (fun i f q hf hq' => ⟨(hq i q hq' f hf).1, (hq i q hq' f hf).2.1, (hq i q hq' f hf).2.2.1⟩)
     have hwhole : (cs.drop 0).take (P.cellsOf t - 0) = cs := by simp [<- hlen]
     rw [hwhole] at g2 g4
     refine ⟨qs.flatten, g2, g3, g4, .struct hu qs (by simpa using hqs) fun i f xs' hf hx' => (hq i xs' hx' f (by rw [Array.getElem?_toList]; exact hf)).2.2.2.1, ?_⟩
     have hsum := Mx (qs := qs) (es := xs) (by rw [hqs, Db hxs]) fun i q y hqi hyi => by
      have hi : i < fs.toList.length := by rw [<- hqs]; exact (List.getElem?_eq_some_iff.1 hqi).1
      exact (hq i q hqi _ (List.getElem?_eq_getElem hi)).2.2.2.2 y hyi
     simp only [li, Qh]
     split <;> omega
    ·cases h
   | _ => cases hc
open Go Go.RowKit
inductive Tm where
 | mk (k : Int) (s : List UInt8) (kids : List Tm)
def Tm.kind : Tm -> Int | .mk k _ _ => k
def Tm.text : Tm -> List UInt8 | .mk _ s _ => s
def Tm.kids : Tm -> List Tm | .mk _ _ l => l
mutual
def Rt : Tm -> AV -> Prop
 | .mk k s kids, x => ∃ o ys, x = .agg [.int .i64 k, .str s, .sl o 3 ys] /\ (ys.length <= maxLen /\ (o = .nil -> ys = [])) /\ gT kids ys
def gT : List Tm -> List AV -> Prop
 | [], ys => ys = []
 | t :: ts, ys => ∃ y r, ys = y :: r /\ Rt t y /\ gT ts r
end
theorem gT.length : ∀ {ts : List Tm} {ys : List AV}, gT ts ys -> ys.length = ts.length
 | [], _, h => by simp only [gT] at h; subst h; rfl
 | t :: ts, _, h => by
  simp only [gT] at h
  obtain ⟨y, r, rfl, _, h2⟩ := h
  simp [gT.length h2]
theorem gT.get : ∀ {ts : List Tm} {ys : List AV} {i : Nat} {t : Tm}, gT ts ys -> ts[i]? = some t -> ∃ y, ys[i]? = some y /\ Rt t y
 | [], _, _, _, _, h => by simp at h
 | t :: ts, _, i, u, h, hi => by
  simp only [gT] at h
  obtain ⟨y, r, rfl, h1, h2⟩ := h
  cases i with
  | zero => simp at hi; subst hi; exact ⟨y, rfl, h1⟩
  | succ i => simp at hi; simpa using gT.get h2 hi
theorem gT.append : ∀ {ts : List Tm} {ys : List AV} {us : List Tm} {zs : List AV}, gT ts ys -> gT us zs -> gT (ts ++ us) (ys ++ zs)
 | [], _, _, _, h, h' => by simp only [gT] at h; subst h; simpa using h'
 | t :: ts, _, _, _, h, h' => by
  simp only [gT] at h
  obtain ⟨y, r, rfl, h1, h2⟩ := h
  simp only [List.cons_append, gT]
  exact ⟨y, _, rfl, h1, gT.append h2 h'⟩
theorem gT.take : ∀ {ts : List Tm} {ys : List AV} (n : Nat), gT ts ys -> gT (ts.take n) (ys.take n)
 | _, _, 0, _ => by simp [gT]
 | [], _, n + 1, h => by simp only [gT] at h; subst h; simp [gT]
 | t :: ts, _, n + 1, h => by
  simp only [gT] at h
  obtain ⟨y, r, rfl, h1, h2⟩ := h
  simp only [List.take_succ_cons, gT]
  exact ⟨y, _, rfl, h1, gT.take n h2⟩
theorem gT.drop : ∀ {ts : List Tm} {ys : List AV} (n : Nat), gT ts ys -> gT (ts.drop n) (ys.drop n)
 | _, _, 0, h => by simpa using h
 | [], _, n + 1, h => by simp only [gT] at h; subst h; simp [gT]
 | t :: ts, _, n + 1, h => by
  simp only [gT] at h
  obtain ⟨y, r, rfl, h1, h2⟩ := h
  simpa using gT.drop n h2
mutual
theorem Rt.data : ∀ {t : Tm} {x : AV}, Rt t x -> x.data = true
 | .mk k s kids, x, h => by
  simp only [Rt] at h
  obtain ⟨o, ys, rfl, _, h2⟩ := h
  simp only [AV.data, AV.dataL, gT.data h2, Bool.and_self]
theorem gT.data : ∀ {ts : List Tm} {ys : List AV}, gT ts ys -> AV.dataL ys = true
 | [], _, h => by simp only [gT] at h; subst h; rfl
 | t :: ts, _, h => by
  simp only [gT] at h
  obtain ⟨y, r, rfl, h1, h2⟩ := h
  simp only [AV.dataL, Rt.data h1, gT.data h2, Bool.and_self]
end
theorem Rt.untok {t : Tm} {x : AV} (h : Rt t x) : Rt t x.untok := by
 cases t with
 | mk k s kids =>
  simp only [Rt] at h ⊢
  obtain ⟨o, ys, rfl, hl, h2⟩ := h
  obtain ⟨h1, h3⟩ := hl
  cases o <;> simp only [AV.untok, AV.untokL] <;> exact ⟨_, ys, rfl, ⟨h1, fun e => h3 (by first | exact e | cases e)⟩, h2⟩
theorem Rt.shape {t : Tm} {x : AV} (h : Rt t x) : ∃ o ys, x = .agg [.int .i64 t.kind, .str t.text, .sl o 3 ys] /\ (ys.length <= maxLen /\ (o = .nil -> ys = [])) /\ gT t.kids ys := by
 cases t with
 | mk k s kids => simpa only [Rt, Tm.kind, Tm.text, Tm.kids] using h
def Sl (ts : List Tm) (v : AV) : Prop := ∃ o ys, v = .sl o 3 ys /\ (ys.length <= maxLen /\ (o = .nil -> ys = [])) /\ gT ts ys
theorem Sl.nil : Sl [] (.sl .nil 3 []) := ⟨_, _, rfl, ⟨Nat.zero_le _, fun _ => rfl⟩, by simp [gT]⟩
theorem Sl.untok {ts : List Tm} {v : AV} (h : Sl ts v) : Sl ts v.untok := by
 obtain ⟨o, ys, rfl, ⟨h1, h2⟩, h3⟩ := h
 cases o <;> exact ⟨_, ys, rfl, ⟨h1, fun e => h2 (by first | exact e | cases e)⟩, h3⟩
theorem Sl.data {ts : List Tm} {v : AV} (h : Sl ts v) : v.data = true := by
 obtain ⟨o, ys, rfl, _, h3⟩ := h
 simpa only [AV.data] using h3.data
theorem Rt.open {t : Tm} {x : AV} (h : Rt t x) : ∃ v, x = .agg [.int .i64 t.kind, .str t.text, v] /\ Sl t.kids v := by
 obtain ⟨o, ys, rfl, h1, h2⟩ := h.shape
 exact ⟨_, rfl, o, ys, rfl, h1, h2⟩
theorem Rt.mk {k : Int} {s : List UInt8} {kids : List Tm} {v : AV} (h : Sl kids v) : Rt (.mk k s kids) (.agg [.int .i64 k, .str s, v]) := by
 obtain ⟨o, ys, rfl, h1, h2⟩ := h
 simp only [Rt]
 exact ⟨o, ys, rfl, h1, h2⟩
theorem Rv {P : Program} {tl te tk ts : TypeId} {fs : Array Field} (hl : P.underlying tl = some (.slice te)) (he : P.underlying te = some (.struct fs)) (hf : fs.toList.map (·.type) = [tk, ts, tl]) (hk : P.underlying tk = some (.int .i64)) (hs : P.underlying ts = some .string) (hc : P.cellsOf te = 3) :
  ∀ {t : TypeId} {xs : List AV}, Of P t xs -> (t = tl -> ∃ us o ys, xs = [.sl o 3 ys] /\ (ys.length <= maxLen /\ (o = .nil -> ys = [])) /\ gT us ys) /\ (t = te -> ∃ u, Rt u (.agg xs)) /\ (t = tk -> ∃ n, xs = [.int .i64 n]) /\ (t = ts -> ∃ s, xs = [.str s]) := by
 intro t xs h
 induction h with
 | bool h b => refine ⟨?_, ?_, ?_, ?_⟩ <;> rintro rfl <;> simp_all
 | int h n hw =>
  refine ⟨?_, ?_, ?_, ?_⟩ <;> rintro rfl <;> first | (simp_all; done) | skip
  all_goals (rw [hk] at h; cases h; exact ⟨n, rfl⟩)
 | str h s hl' =>
  refine ⟨?_, ?_, ?_, ?_⟩ <;> rintro rfl <;> first | (simp_all; done) | skip
  all_goals exact ⟨s, rfl⟩
 | nil h =>
  refine ⟨?_, ?_, ?_, ?_⟩ <;> rintro rfl <;> first | (simp_all; done) | skip
  rw [hl] at h; cases h
  exact ⟨[], .nil, [], by rw [hc], ⟨Nat.zero_le _, fun _ => rfl⟩, by simp [gT]⟩
 | slice h yss hy hlen ih =>
  refine ⟨?_, ?_, ?_, ?_⟩ <;> rintro rfl <;> first | (simp_all; done) | skip
  rw [hl] at h; cases h
  have hagg : (fy P te).getD false = true := by simp [fy, he, lL]
  have key : ∀ (l : List (List AV)), (∀ ys ∈ l, ∃ u, Rt u (.agg ys)) -> ∃ us, gT us (l.map (oV true)) := by
   intro l
   induction l with
   | nil => intro _; exact ⟨[], by simp [gT]⟩
   | cons y l ihl =>
    intro hh
    obtain ⟨u, hu⟩ := hh y (List.mem_cons_self ..)
    obtain ⟨us, hus⟩ := ihl fun z hz => hh z (List.mem_cons_of_mem _ hz)
    refine ⟨u :: us, ?_⟩
    simp only [List.map_cons, gT]
    exact ⟨_, _, rfl, by simpa [oV] using hu, hus⟩
  obtain ⟨us, hus⟩ := key yss fun ys hys => (ih ys hys).2.1 rfl
  exact ⟨us, .any, _, by rw [hc], ⟨by simpa using hlen, fun e => by cases e⟩, by rw [hagg]; exact hus⟩
 | struct h xss hlen hx ih =>
  refine ⟨?_, ?_, ?_, ?_⟩ <;> rintro rfl <;> first | (simp_all; done) | skip
  rw [he] at h; cases h
  obtain ⟨l⟩ := fs
  simp only at hf
  match l, hf with
  | [f0, f1, f2], hf =>
   simp only [List.map_cons, List.map_nil, List.cons.injEq, and_true] at hf
   match xss, hlen with
   | [x0, x1, x2], _ =>
    obtain ⟨n, rfl⟩ := (ih 0 f0 x0 rfl rfl).2.2.1 hf.1
    obtain ⟨s, rfl⟩ := (ih 1 f1 x1 rfl rfl).2.2.2 hf.2.1
    obtain ⟨us, o, ys, rfl, h1, h2⟩ := (ih 2 f2 x2 rfl rfl).1 hf.2.2
    refine ⟨.mk n s us, ?_⟩
    simp only [Rt]
    exact ⟨o, ys, rfl, h1, h2⟩
mutual
def nT : Tm -> Nat
 | .mk _ _ kids => 1 + aV kids
def aV : List Tm -> Nat
 | [] => 0
 | t :: ts => nT t + aV ts
end
theorem g7 (t : Tm) : nT t = 1 + aV t.kids := by cases t; simp only [nT, Tm.kids]
theorem GU (t : Tm) : 0 < nT t := by rw [g7]; omega
theorem f8 : ∀ {ts : List Tm} {t : Tm}, t ∈ ts -> nT t <= aV ts
 | _ :: ts, t, h => by
  rcases List.mem_cons.1 h with rfl | h
  ·simp only [aV]; omega
  ·have := f8 h; simp only [aV]; omega
theorem kp : ∀ a b : List Tm, aV (a ++ b) = aV a + aV b
 | [], b => by simp [aV]
 | t :: a, b => by simp only [List.cons_append, aV, kp a b]; omega
theorem aC : ∀ ts : List Tm, ts.length <= aV ts
 | [] => by simp
 | t :: ts => by have := aC ts; have := GU t; simp only [aV, List.length_cons]; omega
theorem Sl.len {ts : List Tm} {v : AV} (h : Sl ts v) : ∃ o xs, v = .sl o 3 xs /\ xs.length = ts.length := by
 obtain ⟨o, xs, rfl, _, h3⟩ := h
 exact ⟨o, xs, rfl, h3.length⟩
@[simp] theorem Vo (s : St) (sz : Nat) (o : gu) (z : Nat) (xs : List AV) : Te s sz (.sl o z xs) = oZ sz (.sl o z xs) := rfl
@[simp] theorem U7 (s : St) (sz : Nat) (b : List UInt8) : Te s sz (.str b) = oZ sz (.str b) := rfl
open Go
def Fn (E : ak) (tgt : AV) (args : List AV) (v : AV) : Prop := ∃ K, ∀ k, K <= k -> ∀ s, au E k none tgt args s = some (.ret v, false, s)
def bG (K : Nat) (E : ak) (tgt : AV) (args : List AV) (v : AV) : Prop := ∀ k, K <= k -> ∀ s, au E k none tgt args s = some (.ret v, false, s)
theorem aa {α : Type} (l r : List α) (i : Nat) : (l ++ r)[l.length + i]? = r[i]? := by
 rw [List.getElem?_append_right (by omega), Nat.add_sub_cancel_left]
theorem ac {α : Type} (l r : List α) : (l ++ r)[l.length]? = r[0]? := by simp [List.getElem?_append_right]
theorem aj {α : Type} (l r : List α) (i : Nat) (x : α) : (l ++ r).set (l.length + i) x = l ++ r.set i x := by
 rw [List.set_append_right _ _ (by omega)]; simp
theorem aB {α : Type} (l r : List α) (x : α) : (l ++ r).set l.length x = l ++ r.set 0 x := by
 rw [List.set_append_right _ _ (by omega)]; simp
section
variable {E : ak} {call : en} {n : Nat} {f : Fr} {s : St}
@[simp] theorem Tz : bj E call n .skip f s = some (.normal, f, s) := by simp only [bj]
@[simp] theorem R6 (ops : List aK) (keep : List Nat) (draw : Bool) : bj E call n (.region ops keep draw) f s = (match pD E call draw ops f f.env s with
  | some (none, f', loc, s') => some (.normal, { f' with env := om loc keep f.env }, s')
  | some (some v, f', loc, s') => some (.pan v, { f' with env := om loc keep f.env }, s')
  | none => none) := by simp only [bj]; rfl
@[simp] theorem Ug (a b : ae) : bj E call n (.seq a b) f s = (match bj E call n a f s with
  | some (.normal, f', s') => bj E call n b f' s'
  | r => r) := by simp only [bj]; rfl
@[simp] theorem Tx (c : bN) (a b : ae) : bj E call n (.cond c a b) f s = (match c.ev E f.env with
  | .bool true => bj E call n a f s
  | .bool false => bj E call n b f s
  | _ => none) := by simp only [bj]; rfl
@[simp] theorem SV (id : Nat) (b : ae) : bj E call n (.block id b) f s = (match bj E call n b f s with
  | some (.exit j, f', s') => if j = id then some (.normal, f', s') else some (.exit j, f', s')
  | r => r) := by simp only [bj]; rfl
@[simp] theorem Ty (id : Nat) : bj E call n (.exit id) f s = some (.exit id, f, s) := by simp only [bj]
@[simp] theorem Uf : bj E call n .ret f s = some (.ret, f, s) := by simp only [bj]
end
attribute [simp] v8 BI If Le kN aK.pl yk.addr BM Qb IM ai pD EV zJ Re CQ iS bN.ev pj bF.get bF.put bF.kill om AV.cells? St.push St.setb St.cell? lV KB xC ew MR U3 uU fo AV.data AV.dataL AV.untok AV.untokL rz
def Sc (r : R) (res : List yl) : Option AV :=
 match r with
 | some (o, fr, s) => match rz o with
  | some none => if fr.defers.isEmpty && !fr.recd then (match uU fr.env s res with
   | some vs => if (fo vs).data then some (fo vs).untok else none
   | none => none) else none
  | _ => none
 | none => none
def U1 (args : List AV) : Fr := { env := pj 0 args, defers := [], rcv := none, recd := false, rnd := false }
theorem bG.of {E : ak} {f : Nat} {first caps : List AV} {F : bS} (hF : E.fns f = some F) (hm : F.mode = .pure) {args : List AV} (hn : (first ++ args ++ caps).length = F.np) {v : AV}
  {K : Nat}
  (h : ∀ k, K <= k -> ∀ bl tk, Sc (bj E (au E k) k F.body (U1 (first ++ args ++ caps)) { bl, tk, ro := bl.length, rt := tk.length }) F.res = some v) : bG (K + 1) E (.fn f first caps) args v := by
 refine fun k hk s => ?_
 obtain ⟨j, rfl⟩ : ∃ j, k = j + 1 := ⟨k - 1, by omega⟩
 obtain ⟨bl, tk, hst, hlo⟩ : ∃ bl tk, gc F.mode none (first ++ args ++ caps) s = { bl, tk, ro := bl.length, rt := tk.length } /\ True := by
  unfold gc
  split
  ·exact ⟨[], [], rfl, trivial⟩
  ·exact ⟨s.bl, s.tk, by rw [hm]; rfl, trivial⟩
 have h1 := h j (by omega) bl tk
 unfold Sc at h1
 split at h1
 ·rename_i o fr s1 hc
  split at h1
  ·rename_i ho
   split at h1
   ·rename_i hd
    simp only [Bool.and_eq_true, List.isEmpty_iff, Bool.not_eq_true'] at hd
    split at h1
    ·rename_i vs hvs
     split at h1
     ·rename_i hdata
      simp only [Option.some.injEq] at h1
      unfold U1 at hc
      simp only [au, hF, wA, hn, ne_eq, not_true_eq_false, if_false, hst]
      simp only [hm, hc, ho, hd.1, hJ, hvs, cD, hdata, if_true, h1, hd.2]
     ·cases h1
    ·cases h1
   ·cases h1
  ·cases h1
 ·cases h1
theorem Fn.of {E : ak} {f : Nat} {first caps : List AV} {F : bS} (hF : E.fns f = some F) (hm : F.mode = .pure) {args : List AV} (hn : (first ++ args ++ caps).length = F.np) {v : AV}
  (h : ∃ K, ∀ k, K <= k -> ∀ bl tk, Sc (bj E (au E k) k F.body (U1 (first ++ args ++ caps)) { bl, tk, ro := bl.length, rt := tk.length }) F.res = some v) : Fn E (.fn f first caps) args v := by
 obtain ⟨K, h⟩ := h
 exact ⟨K + 1, bG.of hF hm hn h⟩
theorem Fn.all {E : ak} {α : Type} {tgt : AV} {args : α -> List AV} {v : α -> AV} : ∀ {xs : List α}, (∀ x ∈ xs, Fn E tgt (args x) (v x)) -> ∃ K, ∀ k, K <= k -> ∀ x ∈ xs, ∀ s, au E k none tgt (args x) s = some (.ret (v x), false, s)
 | [], _ => ⟨0, fun _ _ x hx => by cases hx⟩
 | x :: xs, h => by
  obtain ⟨K1, h1⟩ := h x (List.mem_cons_self ..)
  obtain ⟨K2, h2⟩ := Fn.all fun y hy => h y (List.mem_cons_of_mem _ hy)
  refine ⟨K1 + K2, fun k hk y hy s => ?_⟩
  rcases List.mem_cons.1 hy with rfl | hy
  ·exact h1 k (by omega) s
  ·exact h2 k (by omega) y hy s
theorem ar {n : Int} (h0 : -9223372036854775808 <= n) (h1 : n <= 9223372036854775807) : IntKind.wrap .i64 n = n := IntWalk.i64_in n ⟨h0, h1⟩
theorem Ro (o : gu) (z : Nat) (hz : z ≠ 0) (xs : List AV) (lo hi : Option AV) {l h : Nat} (hb : mE hi xs.length xs.length = some h) (hl : mE lo 0 h = some l) : ∃ o', (o' = .nil -> o = .nil) /\ ∀ tk, sK tk z (.sl o z xs) lo hi none = some (.sl o' z ((xs.take h).drop l)) := by
 refine ⟨if l = 0 /\ h = xs.length then o else if o = .full /\ h = xs.length then .full else if o = .nil then .nil else .any, ?_, fun tk => ?_⟩
 ·split
  ·exact id
  ·split
   ·exact fun h => by cases h
   ·split
    ·exact fun _ => by assumption
    ·exact fun h => by cases h
 ·simp only [sK]
  rw [show mE none xs.length xs.length = some xs.length from rfl]
  simp only [ne_eq, not_true_eq_false, hz, or_self, if_false, hb, hl, Option.isSome_none, Bool.false_eq_true]
theorem sc (o : gu) (z : Nat) (xs : List AV) : ∃ o', (o' = .nil -> o = .nil) /\ (AV.sl o z xs).untok = .sl o' z xs := by cases o <;> exact ⟨_, fun h => (by first | exact h | cases h), rfl⟩
theorem av {n : Nat} {i : Nat} (h : i < n) : et (.int .i64 i) n = some i := by simp [et, h]
end Ab
