/- Rounds of loops over functions; all calls; the last law. Its conditions: functions are as the given texts say; hand-proved functions do what is said of them. -/
import Derived.Test.YtengohlmonphiaaGreatDoorAb08
import Derived.Test.YtengohlmonphiaaGreatDoorAb02
import GoSem.ClaimChange
set_option linter.all false
namespace Ab
open Go Go.RowKit

section
variable {P : Program} {L : Link} {E : IEnv} {call : Caller}

theorem EnvR.put {g : Gh} {w : World} {e : Env} {tm : Array Value} (h : EnvR L.toLk g w e tm) {p : Nat} (hp : p < tm.size) {v : AV} {cv : Value} (hv : Rep L.toLk g w v cv) : EnvR L.toLk g w (e.put p v) (tm.setIfInBounds p cv) := by
  intro i
  rw [get_put _ _ _ _ hp, Env.get_put]
  split
  · exact hv
  · exact h i

theorem putAll_sound {g : Gh} {w : World} {N : Nat} {vars : List Nat} : ∀ {ps : List Nat} {vs : List AV} {cs : List Value} {e : Env} {tm : Array Value}, (∀ p ∈ ps, p < N ∧ vars.contains p = true) → N ≤ tm.size → RepL L.toLk g w vs cs → EnvR L.toLk g w e tm → EnvD vars e →
    EnvR L.toLk g w (putAll ps vs e) ((ps.zip cs).foldl (fun tm (t, a) => tm.setIfInBounds t a) tm) ∧ EnvD vars (putAll ps vs e) ∧ N ≤ ((ps.zip cs).foldl (fun tm (t, a) => tm.setIfInBounds t a) tm).size
  | [], vs, cs, e, tm, _, hN, _, he, hd => by simp [putAll]; exact ⟨he, hd, hN⟩
  | p :: ps, [], cs, e, tm, _, hN, hr, he, hd => by
    simp only [RepL] at hr; subst hr
    simp [putAll]; exact ⟨he, hd, hN⟩
  | p :: ps, v :: vs, cs, e, tm, hp, hN, hr, he, hd => by
    simp only [RepL] at hr
    obtain ⟨c, r, rfl, h1, h2⟩ := hr
    simp only [putAll, List.zip_cons_cons, List.foldl_cons]
    have h3 := hp p (List.mem_cons_self ..)
    exact putAll_sound (fun q hq => hp q (List.mem_cons_of_mem _ hq)) (by simpa using hN) h2 (he.put (by omega) h1) (hd.put h3.2 v)

theorem s_beginRound {B : Frame} {tm : Array Value} {df : List Deferred} {k : List Item} {cs : List Frame} {w w' : World} {l : Nat} (hB : B.roundOf = some l) (h : (Instr.beginRound l).run P w = .ok () w') :
    step P (lone (mkF B tm df (.beginRound :: k)) cs w) = .next (lone (mkF B tm df k) cs w') := by
  refine step_lone_go ?_
  have hr : ((do (Option.elim B.roundOf (stuck "beginRound: no round") Instr.beginRound); pure Next.skip : Sem Next)).run P w = .ok .skip w' := by
    simp only [hB, Option.elim, Sem.run_bind, h, Result.andThen_ok, Sem.run_pure]
  simp only [stepG, stepG.exec, mkF, stepG.apply, Sem.runT_eq, hr, if_true, GStep.bare_after]
  rfl

/- a round's end -/
def Jump : Option Code → List Item → Prop
  | none, td => td = []
  | some (.exit id), td => ∃ k, td = .code (.exit id) :: k ∧ exitTo id k = none
  | some .ret, td => ∃ k, td = .code .ret :: k
  | some _, _ => False

theorem s_endRound {B : Frame} {tm : Array Value} {df : List Deferred} {td : List Item} {c : Frame} {cs : List Frame} {w w' : World} {l : Nat} {j : Option Code} {v : Value} (hB : B.roundOf = some l) (hj : Jump j td) (h : (Instr.endRound l j).run P w = .ok v w') :
    (B.kind = .normal → step P (lone (mkF B tm df td) (c :: cs) w) = .next (lone (c.finish v) cs w')) ∧
    (B.kind = .deferred → c.mode = .returning → step P (lone (mkF B tm df td) (c :: cs) w) = .next (lone c cs w')) := by
  have key : ∀ (k : CallKind), B.kind = k → (stepG P true { frame := mkF B tm df td, callers := c :: cs, status := .running, dying := none } w).bare = (doReturn P true (mkF B tm df td) (c :: cs) none v w').bare := by
    intro k hk
    cases j with
    | none =>
      subst hj
      simp only [stepG, stepG.exec, mkF, hB, Sem.runT_eq, h, GStep.bare_after]
    | some j =>
      cases j with
      | exit id =>
        obtain ⟨k, rfl, he⟩ := hj
        simp only [stepG, stepG.exec, mkF, hB, he, Option.elim, Sem.runT_eq, h, GStep.bare_after]
      | ret =>
        obtain ⟨k, rfl⟩ := hj
        simp only [stepG, stepG.exec, mkF, hB, Sem.runT_eq, h, GStep.bare_after]
      | _ => exact hj.elim
  refine ⟨fun hk => step_lone_go ?_, fun hk hm => step_lone_go ?_⟩
  · rw [key _ hk]
    simp [doReturn, mkF, hk]
  · rw [key _ hk]
    simp [doReturn, mkF, hk, hm]

theorem round_sim (hinj : ∀ a b, L.tyOf a = L.tyOf b → a = b) (hcall : CallSim P L E call) (hcalm : CalmOk E call) {n i : Nat} {args : List AV} {s s' : St} {r : CRes} {recd : Bool} (h : roundA E call n i args s = some (r, recd, s'))
    {g : Gh} {w : World} (hs : StR L.toLk (CkR P L) g s w) (hgl : GlR L E g w) {b : Nat} (hb : g.bl[i]? = some b) {cargs : List Value} (ha : RepL L.toLk g w args cargs) :
    recd = false ∧ ∃ f tms as bd, (Instr.yield b cargs.toArray).run P w = .ok (.round b f tms as bd) w ∧
    (∀ c cs, ∃ g' w' cv, StR L.toLk (CkR P L) g' s' w' ∧ Ext g s w g' s' w' ∧ (match r with
      | .ret v => Rep L.toLk g' w' v cv ∧ Steps P (lone (Frame.round b f tms as bd .normal) (c :: cs) w) (lone (c.finish cv) cs w')
      | .pan v => Rep L.toLk g' w' v cv ∧ Steps P (lone (Frame.round b f tms as bd .normal) (c :: cs) w) (lone (c.raise [{ v := cv, recovered := false }]) cs w'))) ∧
    (∀ c cs, c.mode = .returning → ∃ g' w', StR L.toLk (CkR P L) g' s' w' ∧ Ext g s w g' s' w' ∧ (match r with
      | .ret _ => Steps P (lone (Frame.round b f tms as bd .deferred) (c :: cs) w) (lone c cs w')
      | .pan _ => True)) := by
  unfold roundA at h
  split at h
  · rename_i AL hAL
    split at h
    · rename_i hcond
      obtain ⟨hnum, hro⟩ := hcond
      obtain ⟨hlp, lp, N, vars, d1, d2, d3, d4, d5, d6, d7, d8, d9, d10⟩ := hs.blocks _ _ _ hb hAL
      have hy := run_yield (P := P) (args := cargs.toArray) d1 (by rw [d4]; simp [ha.length, hnum])
      split at h
      · rename_i f1 s1 hc1
        split at h
        · rename_i AL1 hAL1
          split at h
          · rename_i hready
            split at h
            · rename_i o f2 s2 hc2
              split at h
              · rename_i AL2 hAL2
                -- what the machine's frame does, for either kind of call
                have hzip : (lp.params.zip cargs.toArray).foldl (fun tmps (t, a) => tmps.setIfInBounds t a) lp.tmps = (AL.ps.zip cargs).foldl (fun tm (t, a) => tm.setIfInBounds t a) lp.tmps := by
                  rw [← Array.foldl_toList, Array.toList_zip, d4]
                rw [hzip] at hy
                obtain ⟨p1, p2, p3⟩ := putAll_sound (L := L) (ps := AL.ps) d10 d5 ha d8 d9
                have run : ∀ (kind : CallKind) (cs0 : List Frame), (kind = .normal ∨ ∃ c r, cs0 = c :: r ∧ c.mode = .returning) →
                    ∃ g2 w2 tm2 df2, StR L.toLk (CkR P L) g2 s2 w2 ∧ Ext g s w g2 s2 w2 ∧ DRel L.toLk g2 w2 w.heap.size f2.defers df2 ∧ To P L (lone (Frame.round b lp.fn ((AL.ps.zip cargs).foldl (fun tm (t, a) => tm.setIfInBounds t a) lp.tmps) lp.assign lp.body kind) cs0 w) (Frame.round b lp.fn ((AL.ps.zip cargs).foldl (fun tm (t, a) => tm.setIfInBounds t a) lp.tmps) lp.assign lp.body kind) tm2 df2 [] cs0 g2 w2 o := by
                  intro kind cs0 hk
                  have hfr : FrR L.toLk N vars w.heap.size g w { env := putAll AL.ps args AL.env, defers := [], rcv := none, recd := false, rnd := true } ((AL.ps.zip cargs).foldl (fun tm (t, a) => tm.setIfInBounds t a) lp.tmps) [] := ⟨p1, p2, p3, .nil, Nat.le_refl _⟩
                  have hself : Frame.round b lp.fn ((AL.ps.zip cargs).foldl (fun tm (t, a) => tm.setIfInBounds t a) lp.tmps) lp.assign lp.body kind = mkF (Frame.round b lp.fn ((AL.ps.zip cargs).foldl (fun tm (t, a) => tm.setIfInBounds t a) lp.tmps) lp.assign lp.body kind) ((AL.ps.zip cargs).foldl (fun tm (t, a) => tm.setIfInBounds t a) lp.tmps) [] [.code lp.assign, .beginRound, .code lp.body] := rfl
                  have hB : (Frame.round b lp.fn ((AL.ps.zip cargs).foldl (fun tm (t, a) => tm.setIfInBounds t a) lp.tmps) lp.assign lp.body kind).roundOf = some b := rfl
                  have hBk : (Frame.round b lp.fn ((AL.ps.zip cargs).foldl (fun tm (t, a) => tm.setIfInBounds t a) lp.tmps) lp.assign lp.body kind).kind = kind := rfl
                  generalize Frame.round b lp.fn ((AL.ps.zip cargs).foldl (fun tm (t, a) => tm.setIfInBounds t a) lp.tmps) lp.assign lp.body kind = B at hself hB hBk
                  have hrc : RcvR L.toLk g w { env := putAll AL.ps args AL.env, defers := [], rcv := none, recd := false, rnd := true } B cs0 := ⟨by rw [hB]; rfl, fun l hl => by rw [hB] at hl; cases hl; exact hlp, .inl rfl⟩
                  have hk' : B.kind = .normal ∨ ∃ c r, cs0 = c :: r ∧ c.mode = .returning := by rw [hBk]; exact hk
                  obtain ⟨g1, w1, tm1, df1, h1⟩ := code_sim hinj hcall hcalm lp.assign AL.assign d6 hc1 hs hgl hfr hrc [.beginRound, .code lp.body]
                  have e1 := h1.rcv.calm hk'
                  have hb1 := h1.ext.ge.bl _ _ hb
                  obtain ⟨_, lp1, N1, vars1, q1, q2, q3, q4, q5, q6, q7, q8, q9, q10⟩ := h1.st.blocks _ _ _ hb1 hAL1
                  rw [hready] at q2
                  have hbeg := run_beginRound (P := P) q1 q2
                  obtain ⟨z1, z2, z3⟩ := heap_putObj (o' := .loop { lp1 with state := .busy }) q1
                  have hset := StR.setb h1.st hb1 (by rw [h1.ext.ro]; exact hro) (ab := .loop { AL1 with st := .busy }) z1 z2 z3 ⟨rfl, rfl, rfl⟩ (fun hge => ⟨hge.lps _ (h1.ext.ge.lps _ hlp), _, N1, vars1, z1, rfl, q3, q4, q5, q6, q7, q8.mono hge, q9, q10⟩) (fun _ => ⟨_, rfl⟩) (by rw [hAL1]; intro e; cases e) (.no z2 q1 fun _ _ _ h => by cases h)
                  have hfr1 : FrR L.toLk N vars w.heap.size g1 (w1.putObj b (.loop { lp1 with state := .busy })) f1 tm1 df1 := ⟨h1.fr.env.mono hset.2.ge, h1.fr.dom, h1.fr.size, h1.fr.dfr.mono hset.2.ge hset.2.dfr, Nat.le_trans h1.fr.lo hset.2.size⟩
                  obtain ⟨g2, w2, tm2, df2, h2⟩ := code_sim hinj hcall hcalm lp.body AL.body d7 hc2 hset.1 (hgl.ext (h1.ext.trans hset.2)) hfr1 (h1.rcv.mono hset.2.ge) []
                  have e2 := h2.rcv.calm hk'
                  refine ⟨g2, w2, tm2, df2, h2.st, h1.ext.trans (hset.2.trans h2.ext), h2.fr.dfr, ?_⟩
                  have hto := h2.to
                  have hst1 := h1.to
                  rw [e1] at hto hst1
                  rw [e2] at hto
                  refine To.head ?_ hto
                  rw [hself]
                  exact Steps.trans hst1 (.one (s_beginRound hB hbeg))
                -- the end, but for a panic
                have fin : ∀ (j : Option Code) (ast : LSt) (ape : Option Pend) (g2 : Gh) (w2 : World), StR L.toLk (CkR P L) g2 s2 w2 → Ext g s w g2 s2 w2 → LStRep ast (if j.isNone then .ready else .done) → PendRep ape j →
                    ∃ w3, (Instr.endRound b j).run P w2 = .ok (.bool j.isNone) w3 ∧ StR L.toLk (CkR P L) g2 (s2.setb i (.loop { AL2 with st := ast, pend := ape })) w3 ∧ Ext g s w g2 (s2.setb i (.loop { AL2 with st := ast, pend := ape })) w3 := by
                  intro j ast ape g2 w2 hs2 hx2 hst hpe
                  have hb2 := hx2.ge.bl _ _ hb
                  obtain ⟨_, lp2, N2, vars2, q1, q2, q3, q4, q5, q6, q7, q8, q9, q10⟩ := hs2.blocks _ _ _ hb2 hAL2
                  have hend := run_endRound (P := P) j q1
                  obtain ⟨z1, z2, z3⟩ := heap_putObj (o' := .loop { lp2 with state := if j.isNone then .ready else .done, pending := j }) q1
                  have hset := StR.setb hs2 hb2 (by rw [hx2.ro]; exact hro) (ab := .loop { AL2 with st := ast, pend := ape }) z1 z2 z3 ⟨rfl, rfl, rfl⟩ (fun hge => ⟨hge.lps _ (hx2.ge.lps _ hlp), _, N2, vars2, z1, hst, hpe, q4, q5, q6, q7, q8.mono hge, q9, q10⟩) (fun _ => ⟨_, rfl⟩) (by rw [hAL2]; intro e; cases e) (.no z2 q1 fun _ _ _ h => by cases h)
                  exact ⟨_, hend, hset.1, hx2.trans hset.2⟩
                have whole : ∀ (j : Option Code) (ast : LSt) (ape : Option Pend), LStRep ast (if j.isNone then .ready else .done) → PendRep ape j →
                    (∀ {M : Machine} {B : Frame} {tm : Array Value} {df : List Deferred} {cs : List Frame} {g : Gh} {w : World}, To P L M B tm df [] cs g w o → ∃ td, Jump j td ∧ Steps P M (lone (mkF B tm df td) cs w)) →
                    r = .ret (.bool j.isNone) → s' = s2.setb i (.loop { AL2 with st := ast, pend := ape }) →
                    ∃ f tms as bd, (Instr.yield b cargs.toArray).run P w = .ok (.round b f tms as bd) w ∧
                      (∀ c cs, ∃ g' w' cv, StR L.toLk (CkR P L) g' s' w' ∧ Ext g s w g' s' w' ∧ (match r with
                        | .ret v => Rep L.toLk g' w' v cv ∧ Steps P (lone (Frame.round b f tms as bd .normal) (c :: cs) w) (lone (c.finish cv) cs w')
                        | .pan v => Rep L.toLk g' w' v cv ∧ Steps P (lone (Frame.round b f tms as bd .normal) (c :: cs) w) (lone (c.raise [{ v := cv, recovered := false }]) cs w'))) ∧
                      (∀ c cs, c.mode = .returning → ∃ g' w', StR L.toLk (CkR P L) g' s' w' ∧ Ext g s w g' s' w' ∧ (match r with
                        | .ret _ => Steps P (lone (Frame.round b f tms as bd .deferred) (c :: cs) w) (lone c cs w')
                        | .pan _ => True)) := by
                  intro j ast ape hst hpe hto hr hs'
                  subst hr; subst hs'
                  refine ⟨_, _, _, _, hy, fun c cs => ?_, fun c cs hm => ?_⟩
                  · obtain ⟨g2, w2, tm2, df2, a1, a2, _, a3⟩ := run .normal (c :: cs) (.inl rfl)
                    obtain ⟨td, hj, a4⟩ := hto a3
                    obtain ⟨w3, b1, b2, b3⟩ := fin j ast ape g2 w2 a1 a2 hst hpe
                    exact ⟨g2, w3, .bool j.isNone, b2, b3, by simp [Rep], Steps.trans a4 (.one ((s_endRound rfl hj b1).1 rfl))⟩
                  · obtain ⟨g2, w2, tm2, df2, a1, a2, _, a3⟩ := run .deferred (c :: cs) (.inr ⟨c, cs, rfl, hm⟩)
                    obtain ⟨td, hj, a4⟩ := hto a3
                    obtain ⟨w3, b1, b2, b3⟩ := fin j ast ape g2 w2 a1 a2 hst hpe
                    exact ⟨g2, w3, b2, b3, Steps.trans a4 (.one ((s_endRound rfl hj b1).2 rfl hm))⟩
                cases o with
                | normal =>
                  simp only [Option.some.injEq, Prod.mk.injEq] at h
                  obtain ⟨h1, rfl, h3⟩ := h
                  exact ⟨rfl, whole none .ready none rfl rfl (fun ht => ⟨[], rfl, ht⟩) h1.symm h3.symm⟩
                | exit id =>
                  simp only [Option.some.injEq, Prod.mk.injEq] at h
                  obtain ⟨h1, rfl, h3⟩ := h
                  exact ⟨rfl, whole (some (.exit id)) .done (some (.exit id)) rfl rfl (fun ht => by obtain ⟨k', e, ht⟩ := ht; exact ⟨_, ⟨k', rfl, e⟩, ht⟩) h1.symm h3.symm⟩
                | ret =>
                  simp only [Option.some.injEq, Prod.mk.injEq] at h
                  obtain ⟨h1, rfl, h3⟩ := h
                  exact ⟨rfl, whole (some .ret) .done (some .ret) rfl rfl (fun ht => by obtain ⟨k', ht⟩ := ht; exact ⟨_, ⟨k', rfl⟩, ht⟩) h1.symm h3.symm⟩
                | pan v =>
                  simp only at h
                  split at h
                  · rename_i hdf
                    simp only [Option.some.injEq, Prod.mk.injEq] at h
                    obtain ⟨rfl, rfl, rfl⟩ := h
                    refine ⟨rfl, _, _, _, _, hy, fun c cs => ?_, fun c cs hm => ?_⟩
                    · obtain ⟨g2, w2, tm2, df2, a1, a2, a0, a3⟩ := run .normal (c :: cs) (.inl rfl)
                      obtain ⟨cv, td, b1, b2, b3⟩ := a3
                      rw [List.isEmpty_iff.1 hdf] at a0
                      obtain ⟨g3, w3, m3, c1, c2, c3, c4, c5⟩ := unwind_sim hcall hs (Nat.le_refl _) a0 (p := some v) (p' := some v) rfl a1 a2 (hgl.ext a2) { mkF (Frame.round b lp.fn ((AL.ps.zip cargs).foldl (fun tm (t, a) => tm.setIfInBounds t a) lp.tmps) lp.assign lp.body .normal) tm2 df2 td with mode := .panicking [{ v := cv, recovered := false }] } (c :: cs) rfl ⟨cv, rfl, b1⟩
                      obtain ⟨pv, rfl, c6⟩ := c4
                      exact ⟨g3, w3, pv, c1, c2, c6, Steps.trans b3 (Steps.trans c5 (.one (s_leave_panic rfl rfl b2)))⟩
                    · obtain ⟨g2, w2, tm2, df2, a1, a2, _, _⟩ := run .deferred (c :: cs) (.inr ⟨c, cs, rfl, hm⟩)
                      exact ⟨g2, w2, a1, a2, trivial⟩
                  · cases h
              · cases h
            · cases h
          · cases h
        · cases h
      · cases h
    · cases h
  · cases h

/- what is said of hand-proved functions -/
def PrimOk (P : Program) (L : Link) (E : IEnv) : Prop := ∀ f args v, E.fns f = none → E.prim f args = some v → ∀ (g : Gh) (w : World) (cargs : List Value), GlR L E g w → RepL L.toLk g w args cargs →
  (callFunc (L.fnOf f) cargs.toArray).run P w = .ok (.enter (L.fnOf f) cargs.toArray) w ∧ Calls P (L.fnOf f) cargs.toArray w fun e w' => ∃ cv, e = .returned cv ∧ Below w.heap.size w w' ∧ ∀ g' w'', Rep L.toLk g' w'' v cv

/- what is said of hand-proved functions that may turn the state -/
def PrimsOk (P : Program) (L : Link) (E : IEnv) : Prop := ∀ f args s v s', E.fns f = none → E.eff f = true → E.prims f args s = some (v, s') → ∀ (g : Gh) (w : World) (cargs : List Value), StR L.toLk (CkR P L) g s w → GlR L E g w → RepL L.toLk g w args cargs →
  (callFunc (L.fnOf f) cargs.toArray).run P w = .ok (.enter (L.fnOf f) cargs.toArray) w ∧ Calls P (L.fnOf f) cargs.toArray w fun e w' => ∃ cv g', e = .returned cv ∧ StR L.toLk (CkR P L) g' s' w' ∧ Ext g s w g' s' w' ∧ Rep L.toLk g' w' v cv

theorem StR.below {C : CodeR} {g : Gh} {s : St} {w w' : World} (h : StR L.toLk C g s w) (hb : Below w.heap.size w w') : StR L.toLk C g s w' ∧ Ext g s w g s w' := by
  have hh : ∀ b, b < w.heap.size → w'.heap[b]? = w.heap[b]? := hb.block
  have hge : GE g w g w' := ⟨fun _ _ h => h, fun _ T h => ⟨T, h, Nat.le_refl _, fun _ => rfl⟩, fun b o hi => ⟨hi, cell?_congr (hh b (h.immIn b o hi)) _⟩, fun _ h => h, .of hh⟩
  refine ⟨⟨h.bl, h.tk, fun i b x hi hx => (h.blocks i b x hi hx).mono hge (hh b (h.lt hi)), h.inj, h.sep, h.blBase, fun t T hT => (h.toks t T hT).same (hh _ ?_), h.tokInj, fun b o hi => Nat.lt_of_lt_of_le (h.immIn b o hi) hb.size, Nat.le_trans h.baseIn hb.size, ?_, ?_, h.ro, h.rt⟩, ?_⟩
  · obtain ⟨c, e, fz, h1, _⟩ := (h.toks t T hT).space; exact lt_of_heap h1
  · intro d hd
    obtain ⟨h1, h2⟩ := h.dfr d hd
    exact ⟨by rw [hh d (lt_of_heap h1)]; exact h1, h2⟩
  · intro d hd
    obtain ⟨lp, h1⟩ := h.lps d hd
    exact ⟨lp, by rw [hh d (lt_of_heap h1)]; exact h1⟩
  · exact ⟨hge, fun _ h => h, rfl, fun b hb' => hh b (by have := h.baseIn; omega), hb.size, hb.os, hb.output, hb.tape, rfl, rfl, fun _ _ => rfl, fun _ _ => rfl, fun i b _ hb' => hh b (h.lt hb'), fun _ _ _ h => h⟩

structure EnvOk (P : Program) (L : Link) (E : IEnv) : Prop where
  inj : ∀ a b, L.tyOf a = L.tyOf b → a = b
  fns : ∀ f F, E.fns f = some F → FnOk P L f F
  prim : PrimOk P L E
  prims : PrimsOk P L E := by intro f args s v s' _ h; cases h

theorem calm_call1 (n : Nat) : ∀ tgt args s v rd s', calm E tgt = true → callA E n none tgt args s = some (.ret v, rd, s') → s' = s := by
  intro tgt args s v rd s' hc h
  cases n with
  | zero => simp [callA] at h
  | succ n =>
    cases tgt with
    | fn f a c =>
      simp only [callA] at h
      simp only [calm] at hc
      split at h
      · rename_i F hF
        simp only [hF] at hc
        have hm : F.mode = .pure ∨ F.mode = .thaw := by
          cases hm : F.mode <;> rw [hm] at hc <;> simp_all
        unfold runA at h
        split at h
        · cases h
        · split at h
          · cases h
          · split at h
            · cases h
            · split at h
              · cases h
              · split at h
                · simp at h
                · cases h
              · split at h
                · cases h
                · split at h
                  · rename_i v' s3 hfin
                    simp only [Option.some.injEq, Prod.mk.injEq] at h
                    obtain ⟨_, _, rfl⟩ := h
                    rcases hm with hm | hm <;> rw [hm] at hfin <;> simp only [finA] at hfin
                    · split at hfin
                      · cases hfin; rfl
                      · split at hfin
                        · cases hfin; rfl
                        · cases hfin
                    · split at hfin
                      · cases hfin; rfl
                      · split at hfin
                        · cases hfin; rfl
                        · cases hfin
                  · cases h
      · rename_i hF
        simp only [hF, Bool.not_eq_true'] at hc
        simp only [Option.isSome_none, Bool.false_eq_true, if_false, hc] at h
        split at h
        · simp only [Option.some.injEq, Prod.mk.injEq] at h
          obtain ⟨_, _, rfl⟩ := h; rfl
        · cases h
    | _ => simp [calm] at hc

theorem finA_any {m : Mode} (hm : isPure m = true) {lo : Nat} {s s2 s' : St} {v v' : AV} (h : finA m lo s s2 v = some (v', s')) : ∀ t : St, finA m lo t s2 v = some (v', t) := by
  intro t
  cases m <;> first | (cases hm; done) | skip
  all_goals
    simp only [finA] at h ⊢
    split at h
    · rename_i hd
      cases h
      rw [if_pos hd]
    · rename_i hd
      rw [if_neg hd]
      split at h
      · rename_i hd2
        cases h
        rw [if_pos hd2]
      · cases h

theorem calm_call2 (n : Nat) : ∀ tgt args s v rd s', calm E tgt = true → plainCall tgt args = true → callA E n none tgt args s = some (.ret v, rd, s') → ∀ s2, callA E n none tgt args s2 = some (.ret v, rd, s2) := by
  intro tgt args s v rd s' hc hp h s2
  cases n with
  | zero => simp [callA] at h
  | succ n =>
    cases tgt with
    | fn f a c =>
      simp only [plainCall] at hp
      simp only [callA] at h ⊢
      simp only [calm] at hc
      cases hF : E.fns f with
      | none =>
        simp only [hF, Bool.not_eq_true'] at hc
        simp only [hF, Option.isSome_none, Bool.false_eq_true, if_false, hc] at h ⊢
        split at h
        · simp only [Option.some.injEq, Prod.mk.injEq] at h
          obtain ⟨h1, rfl, rfl⟩ := h
          cases h1; rfl
        · cases h
      | some F =>
        simp only [hF] at hc h ⊢
        have hm : isPure F.mode = true := by cases hm : F.mode <;> rw [hm] at hc <;> simp_all [isPure]
        have hst : ∀ t : St, startA F.mode none (a ++ args ++ c) t = { bl := [], tk := [], ro := 0, rt := 0 } := fun t => by
          unfold startA; rw [if_pos (by rw [hm, hp]; rfl)]
        unfold runA at h ⊢
        rw [hst] at h ⊢
        split at h
        · cases h
        · rename_i hnp
          rw [if_neg hnp]
          split at h
          · cases h
          · rename_i o f1 s1 hcode
            try (rw [hcode]; simp only)
            split at h
            · cases h
            · rename_i p hpo
              split at h
              · cases h
              · split at h <;> simp at h
              · rename_i s3 hu
                try simp only [hu]
                split at h
                · cases h
                · rename_i vs hvs
                  try simp only [hvs]
                  split at h
                  · rename_i v' s4 hfin
                    simp only [Option.some.injEq, Prod.mk.injEq] at h
                    obtain ⟨h1, h2, _⟩ := h
                    cases h1
                    have h3 := finA_any hm hfin s2
                    rw [h3, h2]
                  · cases h
    | _ => simp [calm] at hc

theorem calm_call (n : Nat) : CalmOk E (callA E n) := ⟨calm_call1 n, calm_call2 n⟩

theorem run_callFunc_body {fn : Func} {c : Code} {f : FuncId} {args : Array Value} {w : World} (hf : P.funcs[f]? = some fn) (hb : fn.body = some c) (hn : (fn.name == "runtime.NumGoroutine") = false) : (callFunc f args).run P w = .ok (.enter f args) w := by
  have hn' : fn.name ≠ "runtime.NumGoroutine" := by simpa using hn
  simp [callFunc, Sem.run_bind, run_program, hf, hb, hn']

theorem call_sim (hE : EnvOk P L E) : ∀ n, CallSim P L E (callA E n)
  | 0 => by intro pn tgt args s r recd s' h; simp [callA] at h
  | n + 1 => by
    intro pn tgt args s r recd s' h g w ctgt cargs hs hgl ht ha
    have ih := call_sim hE n
    cases tgt with
    | fn f first caps =>
      simp only [Rep] at ht
      obtain ⟨fs, cps, rfl, hfs, hcs⟩ := ht
      have hargs : RepL L.toLk g w (first ++ args ++ caps) (fs ++ cargs ++ cps) := (hfs.append ha).append hcs
      have hcat : fs.toArray ++ cargs.toArray ++ cps.toArray = (fs ++ cargs ++ cps).toArray := by simp
      simp only [callA] at h
      split at h
      · rename_i F hF
        have hFok := hE.fns f F hF
        obtain ⟨fn0, c0, _, hfn0, hb0, hn0, _⟩ := hFok.out
        refine ⟨fun k => Frame.enter P (L.fnOf f) (fs ++ cargs ++ cps).toArray k, ⟨_, _, _, _, rfl, ?_, .inl ⟨_, _, rfl, rfl⟩⟩, ?_, ?_⟩
        · show (callFunc (L.fnOf f) (fs.toArray ++ cargs.toArray ++ cps.toArray)).run P w = _
          rw [hcat]; exact run_callFunc_body hfn0 hb0 hn0
        · rintro rfl c cs
          obtain ⟨g', w', fn, fr, cv, h0, h1, h2, h3, h4, h5, h6, h7, h8, h9⟩ := run_sim hE.inj ih (calm_call n) hFok h hs hgl hargs .normal (c :: cs) (.inl rfl)
          have hrec : recd = false := by
            cases hr : recd with
            | false => rfl
            | true => have := (h7 hr).1; cases this
          rw [hrec] at h8
          refine ⟨g', w', cv, h1, h2, ?_⟩
          cases r with
          | ret v =>
            obtain ⟨a1, a2, a3⟩ := h9
            exact ⟨a1, Steps.trans h8 (.one (step_leave_returned ⟨a2, h5, h4, fn, by rw [h3]; exact h0, a3⟩))⟩
          | pan v =>
            obtain ⟨a1, a2⟩ := h9
            exact ⟨a1, Steps.trans h8 (.one (s_leave_panic h5 a2 h6))⟩
        · intro _ c cs hm
          obtain ⟨g', w', fn, fr, cv, h0, h1, h2, h3, h4, h5, h6, h7, h8, h9⟩ := run_sim hE.inj ih (calm_call n) hFok h hs hgl hargs .deferred (c :: cs) (by
            cases pn with
            | none => exact .inr ⟨rfl, c, cs, rfl, hm⟩
            | some v => obtain ⟨pv, h1, h2⟩ := hm; exact ⟨rfl, c, cs, pv, rfl, h1, h2⟩)
          refine ⟨g', w', h1, h2, ?_⟩
          cases r with
          | ret v =>
            obtain ⟨a1, a2, a3⟩ := h9
            simp only
            refine Steps.trans h8 ?_
            cases hr : recd with
            | false =>
              have hset : settle c.mode = c.mode := by
                cases pn with
                | none => rw [show c.mode = .returning from hm]; rfl
                | some v => obtain ⟨pv, h1, _⟩ := hm; rw [h1]; rfl
              have := step_going_returned (P := P) (fr := fr) (c := c) (cs := cs) (w := w') (v := cv) h4 ⟨a2, h5, fn, by rw [h3]; exact h0, a3⟩
              rw [hset] at this
              exact .one this
            | true =>
              obtain ⟨_, c', r', pv, e, hcm⟩ := h7 hr
              cases e
              have := step_going_returned (P := P) (fr := fr) (c := { c with mode := .panicking [{ v := pv, recovered := true }] }) (cs := cs) (w := w') (v := cv) h4 ⟨a2, h5, fn, by rw [h3]; exact h0, a3⟩
              simp only [csAt, hcm]
              exact .one this
          | pan v => trivial
      · rename_i hF
        split at h
        · cases h
        · rename_i hpn
          split at h
          · rename_i heff
            split at h
            · rename_i v s1 hv
              simp only [Option.some.injEq, Prod.mk.injEq] at h
              obtain ⟨rfl, rfl, rfl⟩ := h
              obtain ⟨k1, k2⟩ := hE.prims f _ _ v _ hF heff hv g w _ hs hgl hargs
              refine ⟨fun k => Frame.enter P (L.fnOf f) (fs ++ cargs ++ cps).toArray k, ⟨_, _, _, _, rfl, ?_, .inl ⟨_, _, rfl, rfl⟩⟩, ?_, ?_⟩
              · show (callFunc (L.fnOf f) (fs.toArray ++ cargs.toArray ++ cps.toArray)).run P w = _
                rw [hcat]; exact k1
              · rintro rfl c cs
                obtain ⟨e, w', fr, ⟨cv, g', rfl, b1, b2, b3⟩, hcm, _, hl⟩ := k2 (c :: cs)
                exact ⟨g', w', cv, b1, b2, b3, Steps.trans hcm (.one (step_leave_returned hl))⟩
              · intro hown
                simp [ownFn, hF] at hown
            · cases h
          · rename_i heff
            split at h
            · rename_i v hv
              simp only [Option.some.injEq, Prod.mk.injEq] at h
              obtain ⟨rfl, rfl, rfl⟩ := h
              obtain ⟨k1, k2⟩ := hE.prim f _ v hF hv g w _ hgl hargs
              refine ⟨fun k => Frame.enter P (L.fnOf f) (fs ++ cargs ++ cps).toArray k, ⟨_, _, _, _, rfl, ?_, .inl ⟨_, _, rfl, rfl⟩⟩, ?_, ?_⟩
              · show (callFunc (L.fnOf f) (fs.toArray ++ cargs.toArray ++ cps.toArray)).run P w = _
                rw [hcat]; exact k1
              · rintro rfl c cs
                obtain ⟨e, w', fr, ⟨cv, rfl, hbel, hrep⟩, hcm, _, hl⟩ := k2 (c :: cs)
                obtain ⟨b1, b2⟩ := hs.below hbel
                exact ⟨g, w', cv, b1, b2, hrep g w', Steps.trans hcm (.one (step_leave_returned hl))⟩
              · intro hown
                simp [ownFn, hF] at hown
            · cases h
    | yield i =>
      simp only [callA] at h
      split at h
      · cases h
      · rename_i hpn
        simp only [Rep] at ht
        obtain ⟨b, hb, rfl⟩ := ht
        obtain ⟨rfl, f, tms, as, bd, h1, h2, h3⟩ := round_sim hE.inj ih (calm_call n) h hs hgl hb ha
        refine ⟨fun k => Frame.round b f tms as bd k, ⟨_, _, _, _, rfl, ?_, .inr ⟨_, _, _, _, _, rfl, rfl⟩⟩, ?_, ?_⟩
        · simpa [invoke] using h1
        · rintro rfl c cs
          obtain ⟨g', w', cv, a1, a2, a3⟩ := h2 c cs
          refine ⟨g', w', cv, a1, a2, ?_⟩
          cases r <;> exact a3
        · intro _ c cs hm
          cases pn with
          | some v => simp at hpn
          | none =>
            obtain ⟨g', w', a1, a2, a3⟩ := h3 c cs hm
            refine ⟨g', w', a1, a2, ?_⟩
            cases r with
            | ret v => simpa using a3
            | pan v => trivial
    | _ => simp [callA] at h
end
end Ab

/- The last law: what an abstract call comes to, the machine's call comes to. Its conditions: functions are as the given texts say; hand-proved functions do what is said of them. -/
namespace Ab
open Go Go.RowKit

/- at the start: all that lies in memory is never written -/
def g0 (w : World) : Gh := { bl := [], tk := [], imm := fun b _ => b < w.heap.size, base := w.heap.size, dfr := [], lps := [] }
def st0 : St := { bl := [], tk := [], ro := 0, rt := 0 }

variable {P : Program} {L : Link} {E : IEnv}

theorem str0 (C : CodeR) (w : World) : StR L.toLk C (g0 w) st0 w where
  bl := rfl
  tk := rfl
  blocks i b x h := by simp [g0] at h
  inj i j b h := by simp [g0] at h
  sep i b o h := by simp [g0] at h
  blBase i b h := by simp [g0] at h
  toks t T h := by simp [g0] at h
  tokInj t u T U h := by simp [g0] at h
  immIn b o h := h
  baseIn := Nat.le_refl _
  dfr d h := by simp [g0] at h
  lps d h := by simp [g0] at h
  ro := Nat.le_refl _
  rt := Nat.le_refl _

theorem calls_of (hE : EnvOk P L E) {f : Nat} {n : Nat} {args : List AV} {v : AV} {rd : Bool} {s' : St} (h : callA E n none (.fn f [] []) args st0 = some (.ret v, rd, s')) (hf : (E.fns f).isSome = true) {w : World} (hgl : GlR L E (g0 w) w) {cargs : List Value} (ha : RepL L.toLk (g0 w) w args cargs) :
    Calls P (L.fnOf f) cargs.toArray w fun e w' => (∃ cv g', e = .returned cv ∧ Rep L.toLk g' w' v cv) ∧ Below w.heap.size w w' := by
  cases n with
  | zero => simp [callA] at h
  | succ n =>
    cases hF : E.fns f with
    | none => rw [hF] at hf; cases hf
    | some F =>
      simp only [callA, hF, List.nil_append, List.append_nil] at h
      intro cs
      obtain ⟨g', w', fn, fr, cv, h0, h1, h2, h3, h4, h5, h6, h7, h8, a1, a2, a3⟩ := run_sim hE.inj (call_sim hE n) (calm_call n) (hE.fns f F hF) h (str0 _ w) hgl ha .normal cs (.inl rfl)
      have hrec : rd = false := by
        cases hr : rd with
        | false => rfl
        | true => have := (h7 hr).1; cases this
      rw [hrec] at h8
      exact ⟨.returned cv, w', fr, ⟨⟨cv, g', rfl, a1⟩, ⟨h2.os, h2.tape, h2.out, h2.size, h2.old⟩⟩, h8, h3, a2, h5, h4, fn, by rw [h3]; exact h0, a3⟩

/- a law's function: it answers true -/
theorem calls_true (hE : EnvOk P L E) {f : Nat} {n : Nat} {args : List AV} {rd : Bool} {s' : St} (h : callA E n none (.fn f [] []) args st0 = some (.ret (.bool true), rd, s')) (hf : (E.fns f).isSome = true) {w : World} (hgl : GlR L E (g0 w) w) {cargs : List Value} (ha : RepL L.toLk (g0 w) w args cargs) :
    Calls P (L.fnOf f) cargs.toArray w fun e w' => e = .returned (.bool true) ∧ Below w.heap.size w w' := by
  intro cs
  obtain ⟨e, w', fr, ⟨⟨cv, g', rfl, hr⟩, hb⟩, h2⟩ := calls_of hE h hf hgl ha cs
  simp only [Rep] at hr
  exact ⟨_, w', fr, ⟨by rw [hr], hb⟩, h2⟩
end Ab

/- A table of given texts against a program. No condition. -/
namespace Ab
open Go Go.RowKit

def fnCk (P : Program) (L : Link) (F : IFn) (vars : List Nat) (fn : Func) : Bool :=
  match fn.body with
  | some c => !(fn.name == "runtime.NumGoroutine") && ckCode P L fn.ntmps vars F.body c && (List.range F.np).all (vars.contains ·) && resOk P fn.results.toList F.res
  | none => false

abbrev Table := List (Nat × IFn × List Nat)
def rowOk (P : Program) (L : Link) (r : Nat × IFn × List Nat) : Bool := match P.funcs[L.fnOf r.1]? with
  | some fn => fnCk P L r.2.1 r.2.2 fn
  | none => false
def tabOk (P : Program) (L : Link) : Table → Bool
  | [] => true
  | r :: rs => rowOk P L r && tabOk P L rs

def Table.fn : Table → Nat → Option IFn
  | [], _ => none
  | r :: rs, f => if f = r.1 then some r.2.1 else Table.fn rs f

theorem fnOk_of_row {P : Program} {L : Link} {r : Nat × IFn × List Nat} (h : rowOk P L r = true) : FnOk P L r.1 r.2.1 := by
  unfold rowOk at h
  split at h
  · rename_i fn hfn
    unfold fnCk at h
    split at h
    · rename_i c hc
      simp only [Bool.and_eq_true, Bool.not_eq_true'] at h
      obtain ⟨⟨⟨h1, h2⟩, h3⟩, h4⟩ := h
      exact ⟨fn, c, r.2.2, hfn, hc, h1, h2, fun i hi => List.all_eq_true.1 h3 i (List.mem_range.2 hi), h4⟩
    · cases h
  · cases h

theorem fns_of_tab {P : Program} {L : Link} : ∀ {t : Table}, tabOk P L t = true → ∀ f F, t.fn f = some F → FnOk P L f F
  | [], _, f, F, h => by simp [Table.fn] at h
  | r :: rs, hk, f, F, h => by
    simp only [tabOk, Bool.and_eq_true] at hk
    simp only [Table.fn] at h
    split at h
    · rename_i hf
      cases h; subst hf
      exact fnOk_of_row hk.1
    · exact fns_of_tab hk.2 f F h

def selfLink (w : World) : Link := { fnOf := fun n => n, tyOf := fun n => n, glOf := fun n => n, w0 := w }
end Ab

/- The table's entries by name. MADE BY PROGRAM. No condition. -/
namespace Ab.D
open Ab
theorem h_chiasmuslaw10_BuiltinStacks {E : IEnv} (hE : E.fns = Table.fn table) : E.fns n_chiasmuslaw10_BuiltinStacks = some F_chiasmuslaw10_BuiltinStacks := by rw [hE]; rfl
theorem h_chiasmuslaw10_SmallStore {E : IEnv} (hE : E.fns = Table.fn table) : E.fns n_chiasmuslaw10_SmallStore = some F_chiasmuslaw10_SmallStore := by rw [hE]; rfl
theorem h_chiasmuslaw10_Small {E : IEnv} (hE : E.fns = Table.fn table) : E.fns n_chiasmuslaw10_Small = some F_chiasmuslaw10_Small := by rw [hE]; rfl
theorem h_chiasmuslaw10_hasCut {E : IEnv} (hE : E.fns = Table.fn table) : E.fns n_chiasmuslaw10_hasCut = some F_chiasmuslaw10_hasCut := by rw [hE]; rfl
theorem h_chiasmuslaw10_awake {E : IEnv} (hE : E.fns = Table.fn table) : E.fns n_chiasmuslaw10_awake = some F_chiasmuslaw10_awake := by rw [hE]; rfl
theorem h_builtin_Check {E : IEnv} (hE : E.fns = Table.fn table) : E.fns n_builtin_Check = some F_builtin_Check := by rw [hE]; rfl
theorem h_term_Value {E : IEnv} (hE : E.fns = Table.fn table) : E.fns n_term_Value = some F_term_Value := by rw [hE]; rfl
theorem h_slices_Clone___api_Term_api_Term_ {E : IEnv} (hE : E.fns = Table.fn table) : E.fns n_slices_Clone___api_Term_api_Term_ = some F_slices_Clone___api_Term_api_Term_ := by rw [hE]; rfl
theorem h_slices_Clone___api_Term_api_Term__m {E : IEnv} (hE : E.fns = Table.fn table) : E.fns n_slices_Clone___api_Term_api_Term__m = some F_slices_Clone___api_Term_api_Term__m := by rw [hE]; rfl
theorem h_chiasmuslaw10_chars {E : IEnv} (hE : E.fns = Table.fn table) : E.fns n_chiasmuslaw10_chars = some F_chiasmuslaw10_chars := by rw [hE]; rfl
theorem h_builtin_Apply {E : IEnv} (hE : E.fns = Table.fn table) : E.fns n_builtin_Apply = some F_builtin_Apply := by rw [hE]; rfl
theorem h_chiasmusref01_Equal {E : IEnv} (hE : E.fns = Table.fn table) : E.fns n_chiasmusref01_Equal = some F_chiasmusref01_Equal := by rw [hE]; rfl
theorem h_chiasmuslaw10_SameStore {E : IEnv} (hE : E.fns = Table.fn table) : E.fns n_chiasmuslaw10_SameStore = some F_chiasmuslaw10_SameStore := by rw [hE]; rfl
theorem h_builtin_Get {E : IEnv} (hE : E.fns = Table.fn table) : E.fns n_builtin_Get = some F_builtin_Get := by rw [hE]; rfl
theorem h_slices_EqualFunc_____api_Term_____api_Term___api_Term___api_Term_ {E : IEnv} (hE : E.fns = Table.fn table) : E.fns n_slices_EqualFunc_____api_Term_____api_Term___api_Term___api_Term_ = some F_slices_EqualFunc_____api_Term_____api_Term___api_Term___api_Term_ := by rw [hE]; rfl
theorem h_chiasmuslaw10_BuiltinStacks_1 {E : IEnv} (hE : E.fns = Table.fn table) : E.fns n_chiasmuslaw10_BuiltinStacks_1 = some F_chiasmuslaw10_BuiltinStacks_1 := by rw [hE]; rfl
theorem h_slices_ContainsFunc___string_string_ {E : IEnv} (hE : E.fns = Table.fn table) : E.fns n_slices_ContainsFunc___string_string_ = some F_slices_ContainsFunc___string_string_ := by rw [hE]; rfl
theorem h_chiasmuslaw10_SmallStore_1 {E : IEnv} (hE : E.fns = Table.fn table) : E.fns n_chiasmuslaw10_SmallStore_1 = some F_chiasmuslaw10_SmallStore_1 := by rw [hE]; rfl
theorem h_slices_ContainsFunc___api_Buried_api_Buried_ {E : IEnv} (hE : E.fns = Table.fn table) : E.fns n_slices_ContainsFunc___api_Buried_api_Buried_ = some F_slices_ContainsFunc___api_Buried_api_Buried_ := by rw [hE]; rfl
theorem h_chiasmuslaw10_SmallStore_2 {E : IEnv} (hE : E.fns = Table.fn table) : E.fns n_chiasmuslaw10_SmallStore_2 = some F_chiasmuslaw10_SmallStore_2 := by rw [hE]; rfl
theorem h_chiasmuslaw10_nodes {E : IEnv} (hE : E.fns = Table.fn table) : E.fns n_chiasmuslaw10_nodes = some F_chiasmuslaw10_nodes := by rw [hE]; rfl
theorem h_chiasmuslaw10_shortTexts {E : IEnv} (hE : E.fns = Table.fn table) : E.fns n_chiasmuslaw10_shortTexts = some F_chiasmuslaw10_shortTexts := by rw [hE]; rfl
theorem h_slices_ContainsFunc___api_Term_api_Term_ {E : IEnv} (hE : E.fns = Table.fn table) : E.fns n_slices_ContainsFunc___api_Term_api_Term_ = some F_slices_ContainsFunc___api_Term_api_Term_ := by rw [hE]; rfl
theorem h_chiasmuslaw10_hasCut_1 {E : IEnv} (hE : E.fns = Table.fn table) : E.fns n_chiasmuslaw10_hasCut_1 = some F_chiasmuslaw10_hasCut_1 := by rw [hE]; rfl
theorem h_chiasmuslaw10_number {E : IEnv} (hE : E.fns = Table.fn table) : E.fns n_chiasmuslaw10_number = some F_chiasmuslaw10_number := by rw [hE]; rfl
theorem h_term_check {E : IEnv} (hE : E.fns = Table.fn table) : E.fns n_term_check = some F_term_check := by rw [hE]; rfl
theorem h_builtin_functions {E : IEnv} (hE : E.fns = Table.fn table) : E.fns n_builtin_functions = some F_builtin_functions := by rw [hE]; rfl
theorem h_builtin_Apply_1 {E : IEnv} (hE : E.fns = Table.fn table) : E.fns n_builtin_Apply_1 = some F_builtin_Apply_1 := by rw [hE]; rfl
theorem h_term_Copy {E : IEnv} (hE : E.fns = Table.fn table) : E.fns n_term_Copy = some F_term_Copy := by rw [hE]; rfl
theorem h_builtin_copied {E : IEnv} (hE : E.fns = Table.fn table) : E.fns n_builtin_copied = some F_builtin_copied := by rw [hE]; rfl
theorem h_builtin_Keeps {E : IEnv} (hE : E.fns = Table.fn table) : E.fns n_builtin_Keeps = some F_builtin_Keeps := by rw [hE]; rfl
theorem h_term_Size {E : IEnv} (hE : E.fns = Table.fn table) : E.fns n_term_Size = some F_term_Size := by rw [hE]; rfl
theorem h_builtin_need {E : IEnv} (hE : E.fns = Table.fn table) : E.fns n_builtin_need = some F_builtin_need := by rw [hE]; rfl
theorem h_chiasmusref01_Compare {E : IEnv} (hE : E.fns = Table.fn table) : E.fns n_chiasmusref01_Compare = some F_chiasmusref01_Compare := by rw [hE]; rfl
theorem h_slices_Equal___string_string_ {E : IEnv} (hE : E.fns = Table.fn table) : E.fns n_slices_Equal___string_string_ = some F_slices_Equal___string_string_ := by rw [hE]; rfl
theorem h_slices_EqualFunc___api_Buried___api_Buried_api_Buried_api_Buried_ {E : IEnv} (hE : E.fns = Table.fn table) : E.fns n_slices_EqualFunc___api_Buried___api_Buried_api_Buried_api_Buried_ = some F_slices_EqualFunc___api_Buried___api_Buried_api_Buried_api_Buried_ := by rw [hE]; rfl
theorem h_chiasmuslaw10_SameStore_1 {E : IEnv} (hE : E.fns = Table.fn table) : E.fns n_chiasmuslaw10_SameStore_1 = some F_chiasmuslaw10_SameStore_1 := by rw [hE]; rfl
theorem h_term_Equal {E : IEnv} (hE : E.fns = Table.fn table) : E.fns n_term_Equal = some F_term_Equal := by rw [hE]; rfl
theorem h_slices_IndexFunc___string_string_ {E : IEnv} (hE : E.fns = Table.fn table) : E.fns n_slices_IndexFunc___string_string_ = some F_slices_IndexFunc___string_string_ := by rw [hE]; rfl
theorem h_slices_IndexFunc___api_Buried_api_Buried_ {E : IEnv} (hE : E.fns = Table.fn table) : E.fns n_slices_IndexFunc___api_Buried_api_Buried_ = some F_slices_IndexFunc___api_Buried_api_Buried_ := by rw [hE]; rfl
theorem h_chiasmuslaw10_shortTexts_1 {E : IEnv} (hE : E.fns = Table.fn table) : E.fns n_chiasmuslaw10_shortTexts_1 = some F_chiasmuslaw10_shortTexts_1 := by rw [hE]; rfl
theorem h_slices_IndexFunc___api_Term_api_Term_ {E : IEnv} (hE : E.fns = Table.fn table) : E.fns n_slices_IndexFunc___api_Term_api_Term_ = some F_slices_IndexFunc___api_Term_api_Term_ := by rw [hE]; rfl
theorem h_term_all {E : IEnv} (hE : E.fns = Table.fn table) : E.fns n_term_all = some F_term_all := by rw [hE]; rfl
theorem h_term_depth {E : IEnv} (hE : E.fns = Table.fn table) : E.fns n_term_depth = some F_term_depth := by rw [hE]; rfl
theorem h_term_right {E : IEnv} (hE : E.fns = Table.fn table) : E.fns n_term_right = some F_term_right := by rw [hE]; rfl
theorem h___builtin_call__first {E : IEnv} (hE : E.fns = Table.fn table) : E.fns n___builtin_call__first = some F___builtin_call__first := by rw [hE]; rfl
theorem h___builtin_call__bury {E : IEnv} (hE : E.fns = Table.fn table) : E.fns n___builtin_call__bury = some F___builtin_call__bury := by rw [hE]; rfl
theorem h___builtin_call__dig {E : IEnv} (hE : E.fns = Table.fn table) : E.fns n___builtin_call__dig = some F___builtin_call__dig := by rw [hE]; rfl
theorem h___builtin_call__copy {E : IEnv} (hE : E.fns = Table.fn table) : E.fns n___builtin_call__copy = some F___builtin_call__copy := by rw [hE]; rfl
theorem h___builtin_call__replace {E : IEnv} (hE : E.fns = Table.fn table) : E.fns n___builtin_call__replace = some F___builtin_call__replace := by rw [hE]; rfl
theorem h_slices_Clone___string_string_ {E : IEnv} (hE : E.fns = Table.fn table) : E.fns n_slices_Clone___string_string_ = some F_slices_Clone___string_string_ := by rw [hE]; rfl
theorem h_slices_Contains___string_string_ {E : IEnv} (hE : E.fns = Table.fn table) : E.fns n_slices_Contains___string_string_ = some F_slices_Contains___string_string_ := by rw [hE]; rfl
theorem h_term_Size_1 {E : IEnv} (hE : E.fns = Table.fn table) : E.fns n_term_Size_1 = some F_term_Size_1 := by rw [hE]; rfl
theorem h_chiasmusref01_Sign {E : IEnv} (hE : E.fns = Table.fn table) : E.fns n_chiasmusref01_Sign = some F_chiasmusref01_Sign := by rw [hE]; rfl
theorem h_term_Compare {E : IEnv} (hE : E.fns = Table.fn table) : E.fns n_term_Compare = some F_term_Compare := by rw [hE]; rfl
theorem h_term_all_1 {E : IEnv} (hE : E.fns = Table.fn table) : E.fns n_term_all_1 = some F_term_all_1 := by rw [hE]; rfl
theorem h_term_all_1_1 {E : IEnv} (hE : E.fns = Table.fn table) : E.fns n_term_all_1_1 = some F_term_all_1_1 := by rw [hE]; rfl
theorem h_term_identifier {E : IEnv} (hE : E.fns = Table.fn table) : E.fns n_term_identifier = some F_term_identifier := by rw [hE]; rfl
theorem h_strings_ContainsFunc {E : IEnv} (hE : E.fns = Table.fn table) : E.fns n_strings_ContainsFunc = some F_strings_ContainsFunc := by rw [hE]; rfl
theorem h_term_right_1 {E : IEnv} (hE : E.fns = Table.fn table) : E.fns n_term_right_1 = some F_term_right_1 := by rw [hE]; rfl
theorem h_term_isNumber {E : IEnv} (hE : E.fns = Table.fn table) : E.fns n_term_isNumber = some F_term_isNumber := by rw [hE]; rfl
theorem h_term_every {E : IEnv} (hE : E.fns = Table.fn table) : E.fns n_term_every = some F_term_every := by rw [hE]; rfl
theorem h_builtin_group {E : IEnv} (hE : E.fns = Table.fn table) : E.fns n_builtin_group = some F_builtin_group := by rw [hE]; rfl
theorem h_strings_CutPrefix {E : IEnv} (hE : E.fns = Table.fn table) : E.fns n_strings_CutPrefix = some F_strings_CutPrefix := by rw [hE]; rfl
theorem h_strconv_Atoi {E : IEnv} (hE : E.fns = Table.fn table) : E.fns n_strconv_Atoi = some F_strconv_Atoi := by rw [hE]; rfl
theorem h___builtin_call__cut {E : IEnv} (hE : E.fns = Table.fn table) : E.fns n___builtin_call__cut = some F___builtin_call__cut := by rw [hE]; rfl
theorem h_builtin_halves {E : IEnv} (hE : E.fns = Table.fn table) : E.fns n_builtin_halves = some F_builtin_halves := by rw [hE]; rfl
theorem h___builtin_call__put {E : IEnv} (hE : E.fns = Table.fn table) : E.fns n___builtin_call__put = some F___builtin_call__put := by rw [hE]; rfl
theorem h___builtin_call__keyed {E : IEnv} (hE : E.fns = Table.fn table) : E.fns n___builtin_call__keyed = some F___builtin_call__keyed := by rw [hE]; rfl
theorem h___builtin_call__top {E : IEnv} (hE : E.fns = Table.fn table) : E.fns n___builtin_call__top = some F___builtin_call__top := by rw [hE]; rfl
theorem h_slices_Index___string_string_ {E : IEnv} (hE : E.fns = Table.fn table) : E.fns n_slices_Index___string_string_ = some F_slices_Index___string_string_ := by rw [hE]; rfl
theorem h_cmp_Compare_int_ {E : IEnv} (hE : E.fns = Table.fn table) : E.fns n_cmp_Compare_int_ = some F_cmp_Compare_int_ := by rw [hE]; rfl
theorem h_cmp_Compare_string_ {E : IEnv} (hE : E.fns = Table.fn table) : E.fns n_cmp_Compare_string_ = some F_cmp_Compare_string_ := by rw [hE]; rfl
theorem h_term_is {E : IEnv} (hE : E.fns = Table.fn table) : E.fns n_term_is = some F_term_is := by rw [hE]; rfl
theorem h_strings_IndexFunc {E : IEnv} (hE : E.fns = Table.fn table) : E.fns n_strings_IndexFunc = some F_strings_IndexFunc := by rw [hE]; rfl
theorem h_internal_stringslite_CutPrefix {E : IEnv} (hE : E.fns = Table.fn table) : E.fns n_internal_stringslite_CutPrefix = some F_internal_stringslite_CutPrefix := by rw [hE]; rfl
theorem h_internal_strconv_Atoi {E : IEnv} (hE : E.fns = Table.fn table) : E.fns n_internal_strconv_Atoi = some F_internal_strconv_Atoi := by rw [hE]; rfl
theorem h___builtin_call__keyed_1 {E : IEnv} (hE : E.fns = Table.fn table) : E.fns n___builtin_call__keyed_1 = some F___builtin_call__keyed_1 := by rw [hE]; rfl
theorem h___builtin_call__top_1 {E : IEnv} (hE : E.fns = Table.fn table) : E.fns n___builtin_call__top_1 = some F___builtin_call__top_1 := by rw [hE]; rfl
theorem h_cmp_isNaN_int_ {E : IEnv} (hE : E.fns = Table.fn table) : E.fns n_cmp_isNaN_int_ = some F_cmp_isNaN_int_ := by rw [hE]; rfl
theorem h_cmp_isNaN_string_ {E : IEnv} (hE : E.fns = Table.fn table) : E.fns n_cmp_isNaN_string_ = some F_cmp_isNaN_string_ := by rw [hE]; rfl
theorem h_term_classOf {E : IEnv} (hE : E.fns = Table.fn table) : E.fns n_term_classOf = some F_term_classOf := by rw [hE]; rfl
theorem h_strings_indexFunc {E : IEnv} (hE : E.fns = Table.fn table) : E.fns n_strings_indexFunc = some F_strings_indexFunc := by rw [hE]; rfl
theorem h_internal_stringslite_HasPrefix {E : IEnv} (hE : E.fns = Table.fn table) : E.fns n_internal_stringslite_HasPrefix = some F_internal_stringslite_HasPrefix := by rw [hE]; rfl
theorem c_chiasmuslaw10_BuiltinStacks {E : IEnv} (hE : E.fns = Table.fn table) (a c : List AV) : calm E (.fn n_chiasmuslaw10_BuiltinStacks a c) = true := by simp only [calm, h_chiasmuslaw10_BuiltinStacks hE, F_chiasmuslaw10_BuiltinStacks]
theorem c_chiasmuslaw10_SmallStore {E : IEnv} (hE : E.fns = Table.fn table) (a c : List AV) : calm E (.fn n_chiasmuslaw10_SmallStore a c) = true := by simp only [calm, h_chiasmuslaw10_SmallStore hE, F_chiasmuslaw10_SmallStore]
theorem c_chiasmuslaw10_Small {E : IEnv} (hE : E.fns = Table.fn table) (a c : List AV) : calm E (.fn n_chiasmuslaw10_Small a c) = true := by simp only [calm, h_chiasmuslaw10_Small hE, F_chiasmuslaw10_Small]
theorem c_chiasmuslaw10_hasCut {E : IEnv} (hE : E.fns = Table.fn table) (a c : List AV) : calm E (.fn n_chiasmuslaw10_hasCut a c) = true := by simp only [calm, h_chiasmuslaw10_hasCut hE, F_chiasmuslaw10_hasCut]
theorem c_chiasmuslaw10_awake {E : IEnv} (hE : E.fns = Table.fn table) (a c : List AV) : calm E (.fn n_chiasmuslaw10_awake a c) = true := by simp only [calm, h_chiasmuslaw10_awake hE, F_chiasmuslaw10_awake]
theorem c_builtin_Check {E : IEnv} (hE : E.fns = Table.fn table) (a c : List AV) : calm E (.fn n_builtin_Check a c) = true := by simp only [calm, h_builtin_Check hE, F_builtin_Check]
theorem c_term_Value {E : IEnv} (hE : E.fns = Table.fn table) (a c : List AV) : calm E (.fn n_term_Value a c) = true := by simp only [calm, h_term_Value hE, F_term_Value]
theorem c_chiasmuslaw10_chars {E : IEnv} (hE : E.fns = Table.fn table) (a c : List AV) : calm E (.fn n_chiasmuslaw10_chars a c) = true := by simp only [calm, h_chiasmuslaw10_chars hE, F_chiasmuslaw10_chars]
theorem c_builtin_Apply {E : IEnv} (hE : E.fns = Table.fn table) (a c : List AV) : calm E (.fn n_builtin_Apply a c) = true := by simp only [calm, h_builtin_Apply hE, F_builtin_Apply]
theorem c_chiasmusref01_Equal {E : IEnv} (hE : E.fns = Table.fn table) (a c : List AV) : calm E (.fn n_chiasmusref01_Equal a c) = true := by simp only [calm, h_chiasmusref01_Equal hE, F_chiasmusref01_Equal]
theorem c_chiasmuslaw10_SameStore {E : IEnv} (hE : E.fns = Table.fn table) (a c : List AV) : calm E (.fn n_chiasmuslaw10_SameStore a c) = true := by simp only [calm, h_chiasmuslaw10_SameStore hE, F_chiasmuslaw10_SameStore]
theorem c_builtin_Get {E : IEnv} (hE : E.fns = Table.fn table) (a c : List AV) : calm E (.fn n_builtin_Get a c) = true := by simp only [calm, h_builtin_Get hE, F_builtin_Get]
theorem c_slices_EqualFunc_____api_Term_____api_Term___api_Term___api_Term_ {E : IEnv} (hE : E.fns = Table.fn table) (a c : List AV) : calm E (.fn n_slices_EqualFunc_____api_Term_____api_Term___api_Term___api_Term_ a c) = true := by simp only [calm, h_slices_EqualFunc_____api_Term_____api_Term___api_Term___api_Term_ hE, F_slices_EqualFunc_____api_Term_____api_Term___api_Term___api_Term_]
theorem c_chiasmuslaw10_BuiltinStacks_1 {E : IEnv} (hE : E.fns = Table.fn table) (a c : List AV) : calm E (.fn n_chiasmuslaw10_BuiltinStacks_1 a c) = true := by simp only [calm, h_chiasmuslaw10_BuiltinStacks_1 hE, F_chiasmuslaw10_BuiltinStacks_1]
theorem c_slices_ContainsFunc___string_string_ {E : IEnv} (hE : E.fns = Table.fn table) (a c : List AV) : calm E (.fn n_slices_ContainsFunc___string_string_ a c) = true := by simp only [calm, h_slices_ContainsFunc___string_string_ hE, F_slices_ContainsFunc___string_string_]
theorem c_chiasmuslaw10_SmallStore_1 {E : IEnv} (hE : E.fns = Table.fn table) (a c : List AV) : calm E (.fn n_chiasmuslaw10_SmallStore_1 a c) = true := by simp only [calm, h_chiasmuslaw10_SmallStore_1 hE, F_chiasmuslaw10_SmallStore_1]
theorem c_slices_ContainsFunc___api_Buried_api_Buried_ {E : IEnv} (hE : E.fns = Table.fn table) (a c : List AV) : calm E (.fn n_slices_ContainsFunc___api_Buried_api_Buried_ a c) = true := by simp only [calm, h_slices_ContainsFunc___api_Buried_api_Buried_ hE, F_slices_ContainsFunc___api_Buried_api_Buried_]
theorem c_chiasmuslaw10_SmallStore_2 {E : IEnv} (hE : E.fns = Table.fn table) (a c : List AV) : calm E (.fn n_chiasmuslaw10_SmallStore_2 a c) = true := by simp only [calm, h_chiasmuslaw10_SmallStore_2 hE, F_chiasmuslaw10_SmallStore_2]
theorem c_chiasmuslaw10_nodes {E : IEnv} (hE : E.fns = Table.fn table) (a c : List AV) : calm E (.fn n_chiasmuslaw10_nodes a c) = true := by simp only [calm, h_chiasmuslaw10_nodes hE, F_chiasmuslaw10_nodes]
theorem c_chiasmuslaw10_shortTexts {E : IEnv} (hE : E.fns = Table.fn table) (a c : List AV) : calm E (.fn n_chiasmuslaw10_shortTexts a c) = true := by simp only [calm, h_chiasmuslaw10_shortTexts hE, F_chiasmuslaw10_shortTexts]
theorem c_slices_ContainsFunc___api_Term_api_Term_ {E : IEnv} (hE : E.fns = Table.fn table) (a c : List AV) : calm E (.fn n_slices_ContainsFunc___api_Term_api_Term_ a c) = true := by simp only [calm, h_slices_ContainsFunc___api_Term_api_Term_ hE, F_slices_ContainsFunc___api_Term_api_Term_]
theorem c_chiasmuslaw10_hasCut_1 {E : IEnv} (hE : E.fns = Table.fn table) (a c : List AV) : calm E (.fn n_chiasmuslaw10_hasCut_1 a c) = true := by simp only [calm, h_chiasmuslaw10_hasCut_1 hE, F_chiasmuslaw10_hasCut_1]
theorem c_chiasmuslaw10_number {E : IEnv} (hE : E.fns = Table.fn table) (a c : List AV) : calm E (.fn n_chiasmuslaw10_number a c) = true := by simp only [calm, h_chiasmuslaw10_number hE, F_chiasmuslaw10_number]
theorem c_term_check {E : IEnv} (hE : E.fns = Table.fn table) (a c : List AV) : calm E (.fn n_term_check a c) = true := by simp only [calm, h_term_check hE, F_term_check]
theorem c_term_Copy {E : IEnv} (hE : E.fns = Table.fn table) (a c : List AV) : calm E (.fn n_term_Copy a c) = true := by simp only [calm, h_term_Copy hE, F_term_Copy]
theorem c_builtin_Keeps {E : IEnv} (hE : E.fns = Table.fn table) (a c : List AV) : calm E (.fn n_builtin_Keeps a c) = true := by simp only [calm, h_builtin_Keeps hE, F_builtin_Keeps]
theorem c_term_Size {E : IEnv} (hE : E.fns = Table.fn table) (a c : List AV) : calm E (.fn n_term_Size a c) = true := by simp only [calm, h_term_Size hE, F_term_Size]
theorem c_builtin_need {E : IEnv} (hE : E.fns = Table.fn table) (a c : List AV) : calm E (.fn n_builtin_need a c) = true := by simp only [calm, h_builtin_need hE, F_builtin_need]
theorem c_chiasmusref01_Compare {E : IEnv} (hE : E.fns = Table.fn table) (a c : List AV) : calm E (.fn n_chiasmusref01_Compare a c) = true := by simp only [calm, h_chiasmusref01_Compare hE, F_chiasmusref01_Compare]
theorem c_slices_Equal___string_string_ {E : IEnv} (hE : E.fns = Table.fn table) (a c : List AV) : calm E (.fn n_slices_Equal___string_string_ a c) = true := by simp only [calm, h_slices_Equal___string_string_ hE, F_slices_Equal___string_string_]
theorem c_slices_EqualFunc___api_Buried___api_Buried_api_Buried_api_Buried_ {E : IEnv} (hE : E.fns = Table.fn table) (a c : List AV) : calm E (.fn n_slices_EqualFunc___api_Buried___api_Buried_api_Buried_api_Buried_ a c) = true := by simp only [calm, h_slices_EqualFunc___api_Buried___api_Buried_api_Buried_api_Buried_ hE, F_slices_EqualFunc___api_Buried___api_Buried_api_Buried_api_Buried_]
theorem c_chiasmuslaw10_SameStore_1 {E : IEnv} (hE : E.fns = Table.fn table) (a c : List AV) : calm E (.fn n_chiasmuslaw10_SameStore_1 a c) = true := by simp only [calm, h_chiasmuslaw10_SameStore_1 hE, F_chiasmuslaw10_SameStore_1]
theorem c_term_Equal {E : IEnv} (hE : E.fns = Table.fn table) (a c : List AV) : calm E (.fn n_term_Equal a c) = true := by simp only [calm, h_term_Equal hE, F_term_Equal]
theorem c_slices_IndexFunc___string_string_ {E : IEnv} (hE : E.fns = Table.fn table) (a c : List AV) : calm E (.fn n_slices_IndexFunc___string_string_ a c) = true := by simp only [calm, h_slices_IndexFunc___string_string_ hE, F_slices_IndexFunc___string_string_]
theorem c_slices_IndexFunc___api_Buried_api_Buried_ {E : IEnv} (hE : E.fns = Table.fn table) (a c : List AV) : calm E (.fn n_slices_IndexFunc___api_Buried_api_Buried_ a c) = true := by simp only [calm, h_slices_IndexFunc___api_Buried_api_Buried_ hE, F_slices_IndexFunc___api_Buried_api_Buried_]
theorem c_chiasmuslaw10_shortTexts_1 {E : IEnv} (hE : E.fns = Table.fn table) (a c : List AV) : calm E (.fn n_chiasmuslaw10_shortTexts_1 a c) = true := by simp only [calm, h_chiasmuslaw10_shortTexts_1 hE, F_chiasmuslaw10_shortTexts_1]
theorem c_slices_IndexFunc___api_Term_api_Term_ {E : IEnv} (hE : E.fns = Table.fn table) (a c : List AV) : calm E (.fn n_slices_IndexFunc___api_Term_api_Term_ a c) = true := by simp only [calm, h_slices_IndexFunc___api_Term_api_Term_ hE, F_slices_IndexFunc___api_Term_api_Term_]
theorem c_term_depth {E : IEnv} (hE : E.fns = Table.fn table) (a c : List AV) : calm E (.fn n_term_depth a c) = true := by simp only [calm, h_term_depth hE, F_term_depth]
theorem c_term_right {E : IEnv} (hE : E.fns = Table.fn table) (a c : List AV) : calm E (.fn n_term_right a c) = true := by simp only [calm, h_term_right hE, F_term_right]
theorem c___builtin_call__first {E : IEnv} (hE : E.fns = Table.fn table) (a c : List AV) : calm E (.fn n___builtin_call__first a c) = true := by simp only [calm, h___builtin_call__first hE, F___builtin_call__first]
theorem c___builtin_call__copy {E : IEnv} (hE : E.fns = Table.fn table) (a c : List AV) : calm E (.fn n___builtin_call__copy a c) = true := by simp only [calm, h___builtin_call__copy hE, F___builtin_call__copy]
theorem c_slices_Clone___string_string_ {E : IEnv} (hE : E.fns = Table.fn table) (a c : List AV) : calm E (.fn n_slices_Clone___string_string_ a c) = true := by simp only [calm, h_slices_Clone___string_string_ hE, F_slices_Clone___string_string_]
theorem c_slices_Contains___string_string_ {E : IEnv} (hE : E.fns = Table.fn table) (a c : List AV) : calm E (.fn n_slices_Contains___string_string_ a c) = true := by simp only [calm, h_slices_Contains___string_string_ hE, F_slices_Contains___string_string_]
theorem c_chiasmusref01_Sign {E : IEnv} (hE : E.fns = Table.fn table) (a c : List AV) : calm E (.fn n_chiasmusref01_Sign a c) = true := by simp only [calm, h_chiasmusref01_Sign hE, F_chiasmusref01_Sign]
theorem c_term_Compare {E : IEnv} (hE : E.fns = Table.fn table) (a c : List AV) : calm E (.fn n_term_Compare a c) = true := by simp only [calm, h_term_Compare hE, F_term_Compare]
theorem c_term_identifier {E : IEnv} (hE : E.fns = Table.fn table) (a c : List AV) : calm E (.fn n_term_identifier a c) = true := by simp only [calm, h_term_identifier hE, F_term_identifier]
theorem c_strings_ContainsFunc {E : IEnv} (hE : E.fns = Table.fn table) (a c : List AV) : calm E (.fn n_strings_ContainsFunc a c) = true := by simp only [calm, h_strings_ContainsFunc hE, F_strings_ContainsFunc]
theorem c_term_right_1 {E : IEnv} (hE : E.fns = Table.fn table) (a c : List AV) : calm E (.fn n_term_right_1 a c) = true := by simp only [calm, h_term_right_1 hE, F_term_right_1]
theorem c_term_isNumber {E : IEnv} (hE : E.fns = Table.fn table) (a c : List AV) : calm E (.fn n_term_isNumber a c) = true := by simp only [calm, h_term_isNumber hE, F_term_isNumber]
theorem c_term_every {E : IEnv} (hE : E.fns = Table.fn table) (a c : List AV) : calm E (.fn n_term_every a c) = true := by simp only [calm, h_term_every hE, F_term_every]
theorem c_builtin_group {E : IEnv} (hE : E.fns = Table.fn table) (a c : List AV) : calm E (.fn n_builtin_group a c) = true := by simp only [calm, h_builtin_group hE, F_builtin_group]
theorem c_strings_CutPrefix {E : IEnv} (hE : E.fns = Table.fn table) (a c : List AV) : calm E (.fn n_strings_CutPrefix a c) = true := by simp only [calm, h_strings_CutPrefix hE, F_strings_CutPrefix]
theorem c_strconv_Atoi {E : IEnv} (hE : E.fns = Table.fn table) (a c : List AV) : calm E (.fn n_strconv_Atoi a c) = true := by simp only [calm, h_strconv_Atoi hE, F_strconv_Atoi]
theorem c___builtin_call__cut {E : IEnv} (hE : E.fns = Table.fn table) (a c : List AV) : calm E (.fn n___builtin_call__cut a c) = true := by simp only [calm, h___builtin_call__cut hE, F___builtin_call__cut]
theorem c_builtin_halves {E : IEnv} (hE : E.fns = Table.fn table) (a c : List AV) : calm E (.fn n_builtin_halves a c) = true := by simp only [calm, h_builtin_halves hE, F_builtin_halves]
theorem c___builtin_call__keyed {E : IEnv} (hE : E.fns = Table.fn table) (a c : List AV) : calm E (.fn n___builtin_call__keyed a c) = true := by simp only [calm, h___builtin_call__keyed hE, F___builtin_call__keyed]
theorem c___builtin_call__top {E : IEnv} (hE : E.fns = Table.fn table) (a c : List AV) : calm E (.fn n___builtin_call__top a c) = true := by simp only [calm, h___builtin_call__top hE, F___builtin_call__top]
theorem c_slices_Index___string_string_ {E : IEnv} (hE : E.fns = Table.fn table) (a c : List AV) : calm E (.fn n_slices_Index___string_string_ a c) = true := by simp only [calm, h_slices_Index___string_string_ hE, F_slices_Index___string_string_]
theorem c_cmp_Compare_int_ {E : IEnv} (hE : E.fns = Table.fn table) (a c : List AV) : calm E (.fn n_cmp_Compare_int_ a c) = true := by simp only [calm, h_cmp_Compare_int_ hE, F_cmp_Compare_int_]
theorem c_cmp_Compare_string_ {E : IEnv} (hE : E.fns = Table.fn table) (a c : List AV) : calm E (.fn n_cmp_Compare_string_ a c) = true := by simp only [calm, h_cmp_Compare_string_ hE, F_cmp_Compare_string_]
theorem c_term_is {E : IEnv} (hE : E.fns = Table.fn table) (a c : List AV) : calm E (.fn n_term_is a c) = true := by simp only [calm, h_term_is hE, F_term_is]
theorem c_strings_IndexFunc {E : IEnv} (hE : E.fns = Table.fn table) (a c : List AV) : calm E (.fn n_strings_IndexFunc a c) = true := by simp only [calm, h_strings_IndexFunc hE, F_strings_IndexFunc]
theorem c_internal_stringslite_CutPrefix {E : IEnv} (hE : E.fns = Table.fn table) (a c : List AV) : calm E (.fn n_internal_stringslite_CutPrefix a c) = true := by simp only [calm, h_internal_stringslite_CutPrefix hE, F_internal_stringslite_CutPrefix]
theorem c_internal_strconv_Atoi {E : IEnv} (hE : E.fns = Table.fn table) (a c : List AV) : calm E (.fn n_internal_strconv_Atoi a c) = true := by simp only [calm, h_internal_strconv_Atoi hE, F_internal_strconv_Atoi]
theorem c___builtin_call__keyed_1 {E : IEnv} (hE : E.fns = Table.fn table) (a c : List AV) : calm E (.fn n___builtin_call__keyed_1 a c) = true := by simp only [calm, h___builtin_call__keyed_1 hE, F___builtin_call__keyed_1]
theorem c___builtin_call__top_1 {E : IEnv} (hE : E.fns = Table.fn table) (a c : List AV) : calm E (.fn n___builtin_call__top_1 a c) = true := by simp only [calm, h___builtin_call__top_1 hE, F___builtin_call__top_1]
theorem c_cmp_isNaN_int_ {E : IEnv} (hE : E.fns = Table.fn table) (a c : List AV) : calm E (.fn n_cmp_isNaN_int_ a c) = true := by simp only [calm, h_cmp_isNaN_int_ hE, F_cmp_isNaN_int_]
theorem c_cmp_isNaN_string_ {E : IEnv} (hE : E.fns = Table.fn table) (a c : List AV) : calm E (.fn n_cmp_isNaN_string_ a c) = true := by simp only [calm, h_cmp_isNaN_string_ hE, F_cmp_isNaN_string_]
theorem c_term_classOf {E : IEnv} (hE : E.fns = Table.fn table) (a c : List AV) : calm E (.fn n_term_classOf a c) = true := by simp only [calm, h_term_classOf hE, F_term_classOf]
theorem c_strings_indexFunc {E : IEnv} (hE : E.fns = Table.fn table) (a c : List AV) : calm E (.fn n_strings_indexFunc a c) = true := by simp only [calm, h_strings_indexFunc hE, F_strings_indexFunc]
theorem c_internal_stringslite_HasPrefix {E : IEnv} (hE : E.fns = Table.fn table) (a c : List AV) : calm E (.fn n_internal_stringslite_HasPrefix a c) = true := by simp only [calm, h_internal_stringslite_HasPrefix hE, F_internal_stringslite_HasPrefix]
end Ab.D

/- Arguments as a row reads them, as abstract values. No condition. -/
namespace Ab
open Go Go.RowKit

def consec (P : Program) : Nat → List Field → Option Nat
  | n, [] => some n
  | n, f :: r => if f.offset = n then consec P (n + P.cellsOf f.type) r else none

/- a set of types that is closed, of those that are read here -/
def closedT (P : Program) (S : List TypeId) : Bool := S.all fun t => match P.underlying t with
  | some .bool | some (.int _) | some .string => true
  | some (.slice e) => S.contains e && decide (0 < P.cellsOf e)
  | some (.struct fs) => fs.toList.all (fun f => S.contains f.type) && consec P 0 fs.toList == some (P.cellsOf t)
  | _ => false

def elemAV (agg : Bool) (ys : List AV) : AV := if agg then .agg ys else ys.headD .junk

inductive Of (P : Program) : TypeId → List AV → Prop
  | bool {t : TypeId} (h : P.underlying t = some .bool) (b : Bool) : Of P t [.bool b]
  | int {t : TypeId} {k : IntKind} (h : P.underlying t = some (.int k)) (n : Int) (hw : (Lit.int k n).wf = true) : Of P t [.int k n]
  | str {t : TypeId} (h : P.underlying t = some .string) (s : List UInt8) (hl : s.length ≤ maxLen) : Of P t [.str s]
  | nil {t e : TypeId} (h : P.underlying t = some (.slice e)) : Of P t [.sl .nil (P.cellsOf e) []]
  | slice {t e : TypeId} (h : P.underlying t = some (.slice e)) (yss : List (List AV)) (hy : ∀ ys ∈ yss, Of P e ys) (hl : yss.length ≤ maxLen) : Of P t [.sl .any (P.cellsOf e) (yss.map (elemAV ((isAggP P e).getD false)))]
  | struct {t : TypeId} {fs : Array Field} (h : P.underlying t = some (.struct fs)) (xss : List (List AV)) (hlen : xss.length = fs.size) (hx : ∀ (i : Nat) (f : Field) (xs : List AV), fs[i]? = some f → xss[i]? = some xs → Of P f.type xs) : Of P t xss.flatten

theorem exists_list {α : Type} {Q : Nat → α → Prop} : ∀ {n : Nat}, (∀ i, i < n → ∃ x, Q i x) → ∃ l : List α, l.length = n ∧ ∀ (i : Nat) (x : α), l[i]? = some x → Q i x
  | 0, _ => ⟨[], rfl, by simp⟩
  | n + 1, h => by
    obtain ⟨l, hl, hq⟩ := exists_list (n := n) fun i hi => h i (by omega)
    obtain ⟨x, hx⟩ := h n (by omega)
    refine ⟨l ++ [x], by simp [hl], fun i y hy => ?_⟩
    by_cases hi : i < n
    · rw [List.getElem?_append_left (by omega)] at hy
      exact hq i y hy
    · have : i < (l ++ [x]).length := (List.getElem?_eq_some_iff.1 hy).1
      simp [hl] at this
      have : i = n := by omega
      subst this
      rw [List.getElem?_append_right (by omega)] at hy
      simp [hl] at hy
      subst hy; exact hx

theorem mapM_len {α β : Type} {f : α → Option β} : ∀ {l : List α} {r : List β}, l.mapM f = some r → r.length = l.length
  | [], r, h => by simp at h; subst h; rfl
  | x :: l, r, h => by
    simp only [List.mapM_cons, Option.bind_eq_bind, Option.bind_eq_some_iff, Option.pure_def, Option.some.injEq] at h
    obtain ⟨b, _, r', hr', rfl⟩ := h
    simp [mapM_len hr']

theorem mapM_get {α β : Type} {f : α → Option β} : ∀ {l : List α} {r : List β}, l.mapM f = some r → ∀ (i : Nat) (a : α), l[i]? = some a → ∃ b, r[i]? = some b ∧ f a = some b
  | [], r, h, i, a, ha => by simp at ha
  | x :: l, r, h, i, a, ha => by
    simp only [List.mapM_cons, Option.bind_eq_bind, Option.bind_eq_some_iff, Option.pure_def, Option.some.injEq] at h
    obtain ⟨b, hb, r', hr', rfl⟩ := h
    cases i with
    | zero => simp at ha; subst ha; exact ⟨b, rfl, hb⟩
    | succ i => simp at ha; simpa using mapM_get hr' i a ha

theorem cell_spot {w : World} {a : Addr} {v : Value} (h : w.cell? a = some v) : a.spot = none ∧ a.block < w.heap.size := by
  unfold World.cell? at h
  split at h
  · rename_i c e fz hc
    split at h
    · cases h
    · rename_i hs
      exact ⟨by simpa using hs, (Array.getElem?_eq_some_iff.1 hc).1⟩
  · cases h

theorem cell_add {w : World} {a : Addr} {n : Nat} {v : Value} (h : w.cell? (a.add n) = some v) : w.cell? ⟨a.block, a.off + n, none⟩ = some v ∧ a.block < w.heap.size := by
  have hs := cell_spot h
  have e : a.add n = ⟨a.block, a.off + n, none⟩ := by
    unfold Addr.add at hs ⊢
    split at hs
    · rename_i h0; subst h0; obtain ⟨b, o, s⟩ := a; simp only at hs; simp [hs.1]
    · rename_i h0; rw [if_neg h0]
  rw [e] at h
  refine ⟨h, ?_⟩
  have := hs.2
  rw [e] at this; exact this

theorem cells_spec {w : World} {a : Addr} {n : Nat} {cs : List Value} (h : w.cells? 0 a n = some cs) : cs.length = n ∧ ∀ (j : Nat) (c : Value), cs[j]? = some c → w.cell? (a.add j) = some c := by
  unfold World.cells? at h
  simp only [Nat.zero_le, if_true] at h
  have hl := mapM_len h
  simp at hl
  refine ⟨hl, fun j c hj => ?_⟩
  have hjn : j < n := by have := (List.getElem?_eq_some_iff.1 hj).1; omega
  obtain ⟨b, hb, hc⟩ := mapM_get h j j (by simp [hjn])
  rw [hj] at hb; cases hb; exact hc

theorem lies_append {g : Gh} {w : World} {b o : Nat} {xs ys : List Value} (h1 : Lies g w b o xs) (h2 : Lies g w b (o + xs.length) ys) : Lies g w b o (xs ++ ys) := by
  intro j c hj
  by_cases hl : j < xs.length
  · rw [List.getElem?_append_left hl] at hj; exact h1 j c hj
  · rw [List.getElem?_append_right (by omega)] at hj
    have := h2 (j - xs.length) c hj
    rwa [show o + xs.length + (j - xs.length) = o + j by omega] at this

theorem lies_flat {g : Gh} {w : World} {b n : Nat} : ∀ {vs : List Value} {o : Nat}, (∀ u ∈ vs, u.cells.size = n) → (∀ (i : Nat) (u : Value), vs[i]? = some u → Lies g w b (o + i * n) u.cells.toList) → Lies g w b o (flat vs)
  | [], o, _, _ => by intro j c hj; simp [flat] at hj
  | u :: vs, o, hs, h => by
    have h0 := h 0 u rfl
    simp only [Nat.zero_mul, Nat.add_zero] at h0
    have : flat (u :: vs) = u.cells.toList ++ flat vs := by simp [flat]
    rw [this]
    refine lies_append h0 (lies_flat (fun x hx => hs x (List.mem_cons_of_mem _ hx)) fun i x hi => ?_)
    have h1 := h (i + 1) x (by simpa using hi)
    have hsz := hs u (List.mem_cons_self ..)
    rw [show o + (i + 1) * n = o + u.cells.toList.length + i * n by simp [hsz, Nat.add_mul]; omega] at h1
    exact h1

/- what a type's cells are, told once -/
theorem isAgg_of {P : Program} {e : TypeId} {d : TypeDesc} (h : P.underlying e = some d) : isAggP P e = some (aggOf d) := by simp [isAggP, h]

theorem of_one {P : Program} {e : TypeId} {d : TypeDesc} (h : P.underlying e = some d) (hd : aggOf d = false) {ys : List AV} (ho : Of P e ys) : ∃ y, ys = [y] := by
  cases ho with
  | bool _ b => exact ⟨_, rfl⟩
  | int _ n _ => exact ⟨_, rfl⟩
  | str _ s _ => exact ⟨_, rfl⟩
  | nil _ => exact ⟨_, rfl⟩
  | slice _ yss _ _ => exact ⟨_, rfl⟩
  | struct h' xss _ _ => rw [h] at h'; cases h'; cases hd

/- how much there is: values and letters, of what is read and of what it becomes -/
mutual
def bulkD {H : Type} : DataW H → Nat
  | .lit (.string bytes) => bytes.length + 1
  | .lit _ => 1
  | .nil => 1
  | .ptr d => bulkD d + 1
  | .slice elems spare => bulkL elems + bulkL spare + 1
  | .agg parts => bulkL parts + 1
  | .iface _ d => bulkD d + 1
  | .map entries => bulkE entries + 1
  | .held _ => 1
def bulkL {H : Type} : List (DataW H) → Nat
  | [] => 0
  | d :: r => bulkD d + bulkL r
def bulkE {H : Type} : List (Lit × DataW H) → Nat
  | [] => 0
  | x :: r => bulkF x + bulkE r
def bulkF {H : Type} : Lit × DataW H → Nat
  | (.string bytes, d) => bytes.length + bulkD d + 1
  | (_, d) => bulkD d + 1
end
mutual
def AV.sz : AV → Nat
  | .str s => s.length + 1
  | .sl _ _ xs => AV.szL xs + 1
  | .agg xs => AV.szL xs + 1
  | _ => 1
def AV.szL : List AV → Nat
  | [] => 0
  | x :: xs => AV.sz x + AV.szL xs
end
theorem AV.szL_append : ∀ a b : List AV, AV.szL (a ++ b) = AV.szL a + AV.szL b
  | [], b => by simp [AV.szL]
  | x :: a, b => by simp only [List.cons_append, AV.szL, AV.szL_append a b]; omega
def anP (P : Program) (t : TypeId) : Nat := if (isAggP P t).getD false then 1 else 0
theorem szL_bulk {H : Type} {γ : Type} : ∀ {qs : List γ} {g : γ → AV} {es : List (DataW H × List MemPlace)}, qs.length = es.length → (∀ (i : Nat) q y, qs[i]? = some q → es[i]? = some y → AV.sz (g q) ≤ bulkD y.1) → AV.szL (qs.map g) ≤ bulkL (es.map (·.1))
  | [], _, [], _, _ => by simp [AV.szL, bulkL]
  | q :: qs, g, y :: es, hl, h => by
    have h0 := h 0 q y rfl rfl
    have h1 := szL_bulk (qs := qs) (g := g) (es := es) (by simpa using hl) fun i a b ha hb => h (i + 1) a b (by simpa using ha) (by simpa using hb)
    simp only [List.map_cons, AV.szL, bulkL]; omega
theorem szF_bulk {H : Type} : ∀ {qs : List (List AV)} {es : List (DataW H × List MemPlace)}, qs.length = es.length → (∀ (i : Nat) q y, qs[i]? = some q → es[i]? = some y → AV.szL q ≤ bulkD y.1) → AV.szL qs.flatten ≤ bulkL (es.map (·.1))
  | [], [], _, _ => by simp [AV.szL, bulkL]
  | q :: qs, y :: es, hl, h => by
    have h0 := h 0 q y rfl rfl
    have h1 := szF_bulk (qs := qs) (es := es) (by simpa using hl) fun i a b ha hb => h (i + 1) a b (by simpa using ha) (by simpa using hb)
    simp only [List.flatten_cons, AV.szL_append, List.map_cons, bulkL]; omega
theorem open_trod {H : Type} {enc : TypeId × Value → H} {P : Program} {S : List TypeId} (hS : closedT P S = true) {L : Lk} {W : World} : ∀ (fuel : Nat) (t : TypeId) (cs : List Value) (d : DataW H) (ps : List MemPlace), t ∈ S →
    DataW.trod enc P W 0 (fun _ => true) true fuel t cs = some (d, ps) → ∃ xs, RepL L (g0 W) W xs cs ∧ AV.untokL xs = xs ∧ (∀ u ∈ cs, oneCell u) ∧ Of P t xs ∧ AV.szL xs + anP P t ≤ bulkD d
  | 0, t, cs, d, ps, _, h => by simp [DataW.trod] at h
  | fuel + 1, t, cs, d, ps, ht, h => by
    have hc := List.all_eq_true.1 hS t ht
    unfold DataW.trod at h
    cases hu : P.underlying t with
    | none => rw [hu] at hc; cases hc
    | some dd0 =>
      rw [hu] at hc h
      cases dd0 with
      | bool =>
        simp only at h
        split at h <;> first | (cases h; done) | (rename_i he; cases he; done) | skip
        rename_i b he
        refine ⟨[.bool b], RepL.singleton (by simp [Rep]), rfl, by simp [oneCell], .bool hu b, by cases h; simp [AV.szL, AV.sz, anP, isAggP, hu, aggOf, bulkD]⟩
      | int k =>
        simp only at h
        split at h <;> first | (cases h; done) | (rename_i he; cases he; done) | skip
        rename_i k0 k' n he
        cases he
        split at h
        · rename_i hk
          obtain ⟨rfl, hw⟩ := hk
          refine ⟨[.int k' n], RepL.singleton (by simp [Rep]), rfl, by simp [oneCell], .int hu n hw, by cases h; simp [AV.szL, AV.sz, anP, isAggP, hu, aggOf, bulkD]⟩
        · cases h
      | string =>
        simp only at h
        split at h <;> first | (cases h; done) | (rename_i he; cases he; done) | skip
        rename_i b he
        split at h
        · rename_i hl
          refine ⟨[.str b.data.toList], RepL.singleton (by simp [Rep]), rfl, by simp [oneCell], .str hu _ (by simpa using hl), by cases h; simp [AV.szL, AV.sz, anP, isAggP, hu, aggOf, bulkD]⟩
        · cases h
      | slice e =>
        simp only at h
        split at h <;> first | (cases h; done) | (rename_i he; cases he; done) | skip
        · rename_i e0 he
          cases he
          refine ⟨[.sl .nil (P.cellsOf e) []], RepL.singleton ?_, rfl, by simp [oneCell], .nil hu, by cases h; simp [AV.szL, AV.sz, anP, isAggP, hu, aggOf, bulkD]⟩
          simp only [Rep]
          exact ⟨none, 0, [], rfl, Nat.le_refl _, rfl, by simp [RepL], by simp, by simp, by simp [OwnOk]⟩
        · rename_i e0 a len cap he
          cases he
          simp only [Bool.and_eq_true, List.contains_iff_mem, decide_eq_true_eq] at hc
          split at h
          · rename_i hb
            simp only [Option.bind_eq_some_iff, Option.map_eq_some_iff] at h
            obtain ⟨elems, helems, rest, _, hd⟩ := h
            cases hd
            -- each element
            have each : ∀ i, i < len → ∃ q : List Value × List AV, W.cells? 0 (a.add (i * P.cellsOf e)) (P.cellsOf e) = some q.1 ∧ RepL L (g0 W) W q.2 q.1 ∧ AV.untokL q.2 = q.2 ∧ (∀ u ∈ q.1, oneCell u) ∧ Of P e q.2 ∧ ∀ y, elems[i]? = some y → AV.szL q.2 + anP P e ≤ bulkD y.1 := by
              intro i hi
              obtain ⟨y, hyi, hy⟩ := mapM_get helems i i (by simp [hi])
              simp only [Option.bind_eq_some_iff] at hy
              obtain ⟨ci, hci, hti⟩ := hy
              obtain ⟨xs, h1, h2, h3, h4, h5⟩ := open_trod hS fuel e ci y.1 y.2 hc.1 hti
              exact ⟨(ci, xs), hci, h1, h2, h3, h4, fun y' hy' => by rw [hyi] at hy'; cases hy'; exact h5⟩
            obtain ⟨qs, hqs, hq⟩ := exists_list each
            obtain ⟨dd, hdd⟩ : ∃ dd, P.underlying e = some dd := by
              have := List.all_eq_true.1 hS e hc.1
              cases he : P.underlying e with
              | none => rw [he] at this; cases this
              | some dd => exact ⟨dd, rfl⟩
            have hagg := isAgg_of hdd
            let tov : List Value × List AV → Value := fun q => if aggOf dd then .agg q.1.toArray else q.1.headD undef
            -- one element
            have elemRep : ∀ q ∈ qs, Rep L (g0 W) W (elemAV (aggOf dd) q.2) (tov q) ∧ (tov q).cells.toList = q.1 ∧ AV.untok (elemAV (aggOf dd) q.2) = elemAV (aggOf dd) q.2 := by
              intro q hqm
              obtain ⟨i, hi⟩ := List.mem_iff_getElem?.1 hqm
              obtain ⟨h1, h2, h3, h4, h5, _⟩ := hq i q hi
              cases hda : aggOf dd with
              | true =>
                simp only [elemAV, tov, hda, if_true]
                refine ⟨by simp only [Rep]; exact ⟨q.1, rfl, h2, h4⟩, by simp [Value.cells], by simp only [AV.untok, h3]⟩
              | false =>
                obtain ⟨y, hy⟩ := of_one hdd hda h5
                simp only [elemAV, tov, hda, hy, List.headD_cons]
                rw [hy] at h2 h3
                simp only [RepL] at h2
                obtain ⟨v, r, hv, h6, rfl⟩ := h2
                rw [hv]
                simp only [List.headD_cons]
                refine ⟨h6, ?_, by simpa [AV.untokL] using h3⟩
                have := h4 v (by rw [hv]; simp)
                rw [if_neg (by simp), one_cells this]
            have hvs : RepL L (g0 W) W (qs.map fun q => elemAV (aggOf dd) q.2) (qs.map tov) := RepL.map _ _ qs fun q hqm => (elemRep q hqm).1
            have hcellsz : ∀ q ∈ qs, q.1.length = P.cellsOf e := by
              intro q hqm
              obtain ⟨i, hi⟩ := List.mem_iff_getElem?.1 hqm
              exact (cells_spec (hq i q hi).1).1
            refine ⟨[.sl .any (P.cellsOf e) (qs.map fun q => elemAV (aggOf dd) q.2)], RepL.singleton ?_, rfl, by simp [oneCell], ?_, ?_⟩
            · simp only [Rep]
              refine ⟨some a, cap, qs.map tov, by simp [hqs], by simp [hqs]; omega, ?_, hvs, ?_, ⟨?_, ?_⟩, rfl⟩
              · rw [AV.untokL_eq, List.map_map]
                exact List.map_congr_left fun q hqm => (elemRep q hqm).2.2
              · intro u hu'
                obtain ⟨q, hqm, rfl⟩ := List.mem_map.1 hu'
                have h1 := (elemRep q hqm).2.1
                refine ⟨?_, ?_⟩
                · rw [← Array.length_toList, h1]; exact hcellsz q hqm
                · obtain ⟨i, hi⟩ := List.mem_iff_getElem?.1 hqm
                  rw [h1]; exact (hq i q hi).2.2.2.1
              · intro hne
                cases qs with
                | nil => simp at hne
                | cons q r =>
                  obtain ⟨h1, _⟩ := hq 0 q rfl
                  have h2 := cells_spec h1
                  have h3 : 0 < q.1.length := by rw [h2.1]; exact hc.2
                  have h4 := cell_spot (h2.2 0 q.1[0] (List.getElem?_eq_getElem h3))
                  have : (a.add (0 * P.cellsOf e)).add 0 = a := by simp [Addr.add]
                  rw [this] at h4
                  exact h4.1
              · refine lies_flat (n := P.cellsOf e) (fun u hu' => ?_) fun i u hi => ?_
                · obtain ⟨q, hqm, rfl⟩ := List.mem_map.1 hu'
                  rw [← Array.length_toList, (elemRep q hqm).2.1]; exact hcellsz q hqm
                · rw [List.getElem?_map] at hi
                  cases hqi : qs[i]? with
                  | none => rw [hqi] at hi; cases hi
                  | some q =>
                    rw [hqi] at hi
                    simp only [Option.map_some, Option.some.injEq] at hi
                    subst hi
                    rw [(elemRep q (List.mem_of_getElem? hqi)).2.1]
                    intro j c hj
                    have h2 := (cells_spec (hq i q hqi).1).2 j c hj
                    have h3 := cell_add h2
                    have h4 : (a.add (i * P.cellsOf e)).block = a.block ∧ (a.add (i * P.cellsOf e)).off = a.off + i * P.cellsOf e := by
                      unfold Addr.add; split
                      · rename_i h0; exact ⟨rfl, by omega⟩
                      · exact ⟨rfl, rfl⟩
                    rw [h4.1, h4.2] at h3
                    exact ⟨h3.2, h3.1⟩
            · have : (qs.map fun q => elemAV (aggOf dd) q.2) = (qs.map (·.2)).map (elemAV ((isAggP P e).getD false)) := by
                rw [hagg, List.map_map]; rfl
              rw [this]
              refine .slice hu _ (fun ys hys => ?_) (by simp [hqs]; omega)
              obtain ⟨q, hqm, rfl⟩ := List.mem_map.1 hys
              obtain ⟨i, hi⟩ := List.mem_iff_getElem?.1 hqm
              exact (hq i q hi).2.2.2.2.1
            · have hle : elems.length = len := by have := mapM_len helems; simpa using this
              have hsum := szL_bulk (qs := qs) (g := fun q => elemAV (aggOf dd) q.2) (es := elems) (by rw [hqs, hle]) fun i q y hqi hyi => by
                have h6 := (hq i q hqi).2.2.2.2.2 y hyi
                cases hda : aggOf dd with
                | true =>
                  simp only [elemAV, hda, if_true, AV.sz]
                  simp only [anP, hagg, Option.getD_some, hda, if_true] at h6
                  exact h6
                | false =>
                  obtain ⟨y2, hy2⟩ := of_one hdd hda (hq i q hqi).2.2.2.2.1
                  simp only [elemAV, hda, hy2, List.headD_cons]
                  simp only [hy2, AV.szL] at h6
                  simp only [Bool.false_eq_true, if_false]
                  omega
              have ha : anP P t = 0 := by simp [anP, isAggP, hu, aggOf]
              simp only [AV.szL, AV.sz, ha, bulkD]
              omega
          · cases h
      | struct fs =>
        simp only at h
        simp only [Bool.and_eq_true, beq_iff_eq] at hc
        split at h
        · rename_i hlen
          simp only [Option.map_eq_some_iff] at h
          obtain ⟨xs, hxs, hd⟩ := h
          cases hd
          have each : ∀ i, i < fs.toList.length → ∃ q : List AV, ∀ f, fs.toList[i]? = some f → RepL L (g0 W) W q ((cs.drop f.offset).take (P.cellsOf f.type)) ∧ AV.untokL q = q ∧ (∀ u ∈ (cs.drop f.offset).take (P.cellsOf f.type), oneCell u) ∧ Of P f.type q ∧ ∀ y, xs[i]? = some y → AV.szL q ≤ bulkD y.1 := by
            intro i hi
            obtain ⟨y, hyi, hy⟩ := mapM_get hxs i fs.toList[i] (List.getElem?_eq_getElem hi)
            have hmem : fs.toList[i].type ∈ S := by
              have := List.all_eq_true.1 hc.1 fs.toList[i] (List.getElem_mem hi)
              simpa using this
            obtain ⟨q, h1, h2, h3, h4, h5⟩ := open_trod hS fuel _ _ y.1 y.2 hmem hy
            refine ⟨q, fun f hf => ?_⟩
            rw [List.getElem?_eq_getElem hi] at hf
            cases hf
            exact ⟨h1, h2, h3, h4, fun y' hy' => by rw [hyi] at hy'; cases hy'; omega⟩
          obtain ⟨qs, hqs, hq⟩ := exists_list each
          -- the parts lie one behind the other
          have glue : ∀ (l : List Field) (ys : List (List AV)) (n m : Nat), consec P n l = some m → ys.length = l.length → n ≤ cs.length → m ≤ cs.length → (∀ (i : Nat) (f : Field) (q : List AV), l[i]? = some f → ys[i]? = some q → RepL L (g0 W) W q ((cs.drop f.offset).take (P.cellsOf f.type)) ∧ AV.untokL q = q ∧ (∀ u ∈ (cs.drop f.offset).take (P.cellsOf f.type), oneCell u)) →
              n ≤ m ∧ RepL L (g0 W) W ys.flatten ((cs.drop n).take (m - n)) ∧ AV.untokL ys.flatten = ys.flatten ∧ ∀ u ∈ (cs.drop n).take (m - n), oneCell u := by
            intro l
            induction l with
            | nil =>
              intro ys n m hcon hyl _ _ _
              simp only [consec, Option.some.injEq] at hcon
              subst hcon
              have : ys = [] := List.eq_nil_of_length_eq_zero (by simpa using hyl)
              subst this
              simp [RepL, AV.untokL]
            | cons f l ih =>
              intro ys n m hcon hyl hn hm hall
              simp only [consec] at hcon
              split at hcon
              · rename_i hoff
                cases ys with
                | nil => simp at hyl
                | cons y ys =>
                  have h0 := hall 0 f y rfl rfl
                  rw [hoff] at h0
                  have hle : n + P.cellsOf f.type ≤ m := by
                    have : ∀ (l : List Field) (n m : Nat), consec P n l = some m → n ≤ m := by
                      intro l
                      induction l with
                      | nil => intro n m h; simp only [consec, Option.some.injEq] at h; omega
                      | cons g l ih =>
                        intro n m h
                        simp only [consec] at h
                        split at h
                        · have := ih _ _ h; omega
                        · cases h
                    exact this _ _ _ hcon
                  obtain ⟨_, i2, i3, i4⟩ := ih ys (n + P.cellsOf f.type) m hcon (by simpa using hyl) (by omega) hm (fun i g q hg hq' => hall (i + 1) g q (by simpa using hg) (by simpa using hq'))
                  have e1 : (cs.drop n).take (m - n) = (cs.drop n).take (P.cellsOf f.type) ++ (cs.drop (n + P.cellsOf f.type)).take (m - (n + P.cellsOf f.type)) := by
                    rw [show m - n = P.cellsOf f.type + (m - (n + P.cellsOf f.type)) by omega, List.take_add, List.drop_drop]
                  refine ⟨by omega, ?_, ?_, ?_⟩
                  · rw [e1, List.flatten_cons]; exact h0.1.append i2
                  · rw [List.flatten_cons, AV.untokL_append, h0.2.1, i3]
                  · intro u hu'
                    rw [e1] at hu'
                    rcases List.mem_append.1 hu' with hu' | hu'
                    · exact h0.2.2 u hu'
                    · exact i4 u hu'
              · cases hcon
          obtain ⟨_, g2, g3, g4⟩ := glue fs.toList qs 0 (P.cellsOf t) hc.2 hqs (Nat.zero_le _) (by omega) (fun i f q hf hq' => ⟨(hq i q hq' f hf).1, (hq i q hq' f hf).2.1, (hq i q hq' f hf).2.2.1⟩)
          have hwhole : (cs.drop 0).take (P.cellsOf t - 0) = cs := by simp [← hlen]
          rw [hwhole] at g2 g4
          refine ⟨qs.flatten, g2, g3, g4, .struct hu qs (by simpa using hqs) fun i f xs' hf hx' => (hq i xs' hx' f (by rw [Array.getElem?_toList]; exact hf)).2.2.2.1, ?_⟩
          have hsum := szF_bulk (qs := qs) (es := xs) (by rw [hqs, mapM_len hxs]) fun i q y hqi hyi => by
            have hi : i < fs.toList.length := by rw [← hqs]; exact (List.getElem?_eq_some_iff.1 hqi).1
            exact (hq i q hqi _ (List.getElem?_eq_getElem hi)).2.2.2.2 y hyi
          simp only [bulkD, anP]
          split <;> omega
        · cases h
      | _ => cases hc
end Ab
