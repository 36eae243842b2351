/- Rounds of loops over functions; all calls; the last law. Its conditions: functions are as the given texts say; hand-proved functions do what is said of them. -/
import Derived.Test.YtndlggjnfabdoaaGreatDoorAb08
import Derived.Test.YtndlggjnfabdoaaGreatDoorAb02
set_option linter.all false
namespace Ab
open Go Go.RowKit

section
variable {P : Program} {L : Link} {E : IEnv} {call : Caller}

theorem EnvR.put {g : Gh} {w : World} {e : Env} {tm : Array Value} (h : EnvR L.toLk g w e tm) {p : Nat} (hp : p < tm.size) {v : AV} {cv : Value} (hv : Rep L.toLk g w v cv) : EnvR L.toLk g w (e.put p v) (tm.setIfInBounds p cv) := by
  intro i
  rw [get_put _ _ _ _ hp, Env.get_put]
  split
  · exact hv
  · exact h i

theorem putAll_sound {g : Gh} {w : World} {N : Nat} {vars : List Nat} : ∀ {ps : List Nat} {vs : List AV} {cs : List Value} {e : Env} {tm : Array Value}, (∀ p ∈ ps, p < N ∧ vars.contains p = true) → N ≤ tm.size → RepL L.toLk g w vs cs → EnvR L.toLk g w e tm → EnvD vars e →
    EnvR L.toLk g w (putAll ps vs e) ((ps.zip cs).foldl (fun tm (t, a) => tm.setIfInBounds t a) tm) ∧ EnvD vars (putAll ps vs e) ∧ N ≤ ((ps.zip cs).foldl (fun tm (t, a) => tm.setIfInBounds t a) tm).size
  | [], vs, cs, e, tm, _, hN, _, he, hd => by simp [putAll]; exact ⟨he, hd, hN⟩
  | p :: ps, [], cs, e, tm, _, hN, hr, he, hd => by
    simp only [RepL] at hr; subst hr
    simp [putAll]; exact ⟨he, hd, hN⟩
  | p :: ps, v :: vs, cs, e, tm, hp, hN, hr, he, hd => by
    simp only [RepL] at hr
    obtain ⟨c, r, rfl, h1, h2⟩ := hr
    simp only [putAll, List.zip_cons_cons, List.foldl_cons]
    have h3 := hp p (List.mem_cons_self ..)
    exact putAll_sound (fun q hq => hp q (List.mem_cons_of_mem _ hq)) (by simpa using hN) h2 (he.put (by omega) h1) (hd.put h3.2 v)

theorem s_beginRound {B : Frame} {tm : Array Value} {df : List Deferred} {k : List Item} {cs : List Frame} {w w' : World} {l : Nat} (hB : B.roundOf = some l) (h : (Instr.beginRound l).run P w = .ok () w') :
    step P (lone (mkF B tm df (.beginRound :: k)) cs w) = .next (lone (mkF B tm df k) cs w') := by
  refine step_lone_go ?_
  have hr : ((do (Option.elim B.roundOf (stuck "beginRound: no round") Instr.beginRound); pure Next.skip : Sem Next)).run P w = .ok .skip w' := by
    simp only [hB, Option.elim, Sem.run_bind, h, Result.andThen_ok, Sem.run_pure]
  simp only [stepG, stepG.exec, mkF, stepG.apply, Sem.runT_eq, hr, if_true, GStep.bare_after]
  rfl

/- a round's end -/
def Jump : Option Code → List Item → Prop
  | none, td => td = []
  | some (.exit id), td => ∃ k, td = .code (.exit id) :: k ∧ exitTo id k = none
  | some .ret, td => ∃ k, td = .code .ret :: k
  | some _, _ => False

theorem s_endRound {B : Frame} {tm : Array Value} {df : List Deferred} {td : List Item} {c : Frame} {cs : List Frame} {w w' : World} {l : Nat} {j : Option Code} {v : Value} (hB : B.roundOf = some l) (hj : Jump j td) (h : (Instr.endRound l j).run P w = .ok v w') :
    (B.kind = .normal → step P (lone (mkF B tm df td) (c :: cs) w) = .next (lone (c.finish v) cs w')) ∧
    (B.kind = .deferred → c.mode = .returning → step P (lone (mkF B tm df td) (c :: cs) w) = .next (lone c cs w')) := by
  have key : ∀ (k : CallKind), B.kind = k → (stepG P true { frame := mkF B tm df td, callers := c :: cs, status := .running, dying := none } w).bare = (doReturn P true (mkF B tm df td) (c :: cs) none v w').bare := by
    intro k hk
    cases j with
    | none =>
      subst hj
      simp only [stepG, stepG.exec, mkF, hB, Sem.runT_eq, h, GStep.bare_after]
    | some j =>
      cases j with
      | exit id =>
        obtain ⟨k, rfl, he⟩ := hj
        simp only [stepG, stepG.exec, mkF, hB, he, Option.elim, Sem.runT_eq, h, GStep.bare_after]
      | ret =>
        obtain ⟨k, rfl⟩ := hj
        simp only [stepG, stepG.exec, mkF, hB, Sem.runT_eq, h, GStep.bare_after]
      | _ => exact hj.elim
  refine ⟨fun hk => step_lone_go ?_, fun hk hm => step_lone_go ?_⟩
  · rw [key _ hk]
    simp [doReturn, mkF, hk]
  · rw [key _ hk]
    simp [doReturn, mkF, hk, hm]

theorem round_sim (hinj : ∀ a b, L.tyOf a = L.tyOf b → a = b) (hcall : CallSim P L E call) (hcalm : CalmOk E call) {n i : Nat} {args : List AV} {s s' : St} {r : CRes} {recd : Bool} (h : roundA E call n i args s = some (r, recd, s'))
    {g : Gh} {w : World} (hs : StR L.toLk (CkR P L) g s w) (hgl : GlR L E g w) {b : Nat} (hb : g.bl[i]? = some b) {cargs : List Value} (ha : RepL L.toLk g w args cargs) :
    recd = false ∧ ∃ f tms as1 bd, (Instr.yield b cargs.toArray).run P w = .ok (.round b f tms as1 bd) w ∧
    (∀ c cs, ∃ g' w' cv, StR L.toLk (CkR P L) g' s' w' ∧ Ext g s w g' s' w' ∧ (match r with
      | .ret v => Rep L.toLk g' w' v cv ∧ Steps P (lone (Frame.round b f tms as1 bd .normal) (c :: cs) w) (lone (c.finish cv) cs w')
      | .pan v => Rep L.toLk g' w' v cv ∧ Steps P (lone (Frame.round b f tms as1 bd .normal) (c :: cs) w) (lone (c.raise [{ v := cv, recovered := false }]) cs w'))) ∧
    (∀ c cs, c.mode = .returning → ∃ g' w', StR L.toLk (CkR P L) g' s' w' ∧ Ext g s w g' s' w' ∧ (match r with
      | .ret _ => Steps P (lone (Frame.round b f tms as1 bd .deferred) (c :: cs) w) (lone c cs w')
      | .pan _ => True)) := by
  unfold roundA at h
  split at h
  · rename_i AL hAL
    split at h
    · rename_i hcond
      obtain ⟨hnum, hro⟩ := hcond
      obtain ⟨hlp, lp, N, vars, d1, d2, d3, d4, d5, d6, d7, d8, d9, d10⟩ := hs.blocks _ _ _ hb hAL
      have hy := run_yield (P := P) (args := cargs.toArray) d1 (by rw [d4]; simp [ha.length, hnum])
      split at h
      · rename_i f1 s1 hc1
        split at h
        · rename_i AL1 hAL1
          split at h
          · rename_i hready
            split at h
            · rename_i o f2 s2 hc2
              split at h
              · rename_i AL2 hAL2
                -- what the machine's frame does, for either kind of call
                have hzip : (lp.params.zip cargs.toArray).foldl (fun tmps (t, a) => tmps.setIfInBounds t a) lp.tmps = (AL.ps.zip cargs).foldl (fun tm (t, a) => tm.setIfInBounds t a) lp.tmps := by
                  rw [← Array.foldl_toList, Array.toList_zip, d4]
                rw [hzip] at hy
                obtain ⟨p1, p2, p3⟩ := putAll_sound (L := L) (ps := AL.ps) d10 d5 ha d8 d9
                have run : ∀ (kind : CallKind) (cs0 : List Frame), (kind = .normal ∨ ∃ c r, cs0 = c :: r ∧ c.mode = .returning) →
                    ∃ g2 w2 tm2 df2, StR L.toLk (CkR P L) g2 s2 w2 ∧ Ext g s w g2 s2 w2 ∧ DRel L.toLk g2 w2 w.heap.size f2.defers df2 ∧ To P L (lone (Frame.round b lp.fn ((AL.ps.zip cargs).foldl (fun tm (t, a) => tm.setIfInBounds t a) lp.tmps) lp.assign lp.body kind) cs0 w) (Frame.round b lp.fn ((AL.ps.zip cargs).foldl (fun tm (t, a) => tm.setIfInBounds t a) lp.tmps) lp.assign lp.body kind) tm2 df2 [] cs0 g2 w2 o := by
                  intro kind cs0 hk
                  have hfr : FrR L.toLk N vars w.heap.size g w { env := putAll AL.ps args AL.env, defers := [], rcv := none, recd := false, rnd := true } ((AL.ps.zip cargs).foldl (fun tm (t, a) => tm.setIfInBounds t a) lp.tmps) [] := ⟨p1, p2, p3, .nil, Nat.le_refl _⟩
                  have hself : Frame.round b lp.fn ((AL.ps.zip cargs).foldl (fun tm (t, a) => tm.setIfInBounds t a) lp.tmps) lp.assign lp.body kind = mkF (Frame.round b lp.fn ((AL.ps.zip cargs).foldl (fun tm (t, a) => tm.setIfInBounds t a) lp.tmps) lp.assign lp.body kind) ((AL.ps.zip cargs).foldl (fun tm (t, a) => tm.setIfInBounds t a) lp.tmps) [] [.code lp.assign, .beginRound, .code lp.body] := rfl
                  have hB : (Frame.round b lp.fn ((AL.ps.zip cargs).foldl (fun tm (t, a) => tm.setIfInBounds t a) lp.tmps) lp.assign lp.body kind).roundOf = some b := rfl
                  have hBk : (Frame.round b lp.fn ((AL.ps.zip cargs).foldl (fun tm (t, a) => tm.setIfInBounds t a) lp.tmps) lp.assign lp.body kind).kind = kind := rfl
                  generalize Frame.round b lp.fn ((AL.ps.zip cargs).foldl (fun tm (t, a) => tm.setIfInBounds t a) lp.tmps) lp.assign lp.body kind = B at hself hB hBk
                  have hrc : RcvR L.toLk g w { env := putAll AL.ps args AL.env, defers := [], rcv := none, recd := false, rnd := true } B cs0 := ⟨by rw [hB]; rfl, fun l hl => by rw [hB] at hl; cases hl; exact hlp, .inl rfl⟩
                  have hk' : B.kind = .normal ∨ ∃ c r, cs0 = c :: r ∧ c.mode = .returning := by rw [hBk]; exact hk
                  obtain ⟨g1, w1, tm1, df1, h1⟩ := code_sim hinj hcall hcalm lp.assign AL.assign d6 hc1 hs hgl hfr hrc [.beginRound, .code lp.body]
                  have e1 := h1.rcv.calm hk'
                  have hb1 := h1.ext.ge.bl _ _ hb
                  obtain ⟨_, lp1, N1, vars1, q1, q2, q3, q4, q5, q6, q7, q8, q9, q10⟩ := h1.st.blocks _ _ _ hb1 hAL1
                  rw [hready] at q2
                  have hbeg := run_beginRound (P := P) q1 q2
                  obtain ⟨z1, z2, z3⟩ := heap_putObj (o' := .loop { lp1 with state := .busy }) q1
                  have hset := StR.setb h1.st hb1 (by rw [h1.ext.ro]; exact hro) (ab := .loop { AL1 with st := .busy }) z1 z2 z3 ⟨rfl, rfl, rfl⟩ (fun hge => ⟨hge.lps _ (h1.ext.ge.lps _ hlp), _, N1, vars1, z1, rfl, q3, q4, q5, q6, q7, q8.mono hge, q9, q10⟩) (fun _ => ⟨_, rfl⟩) (by rw [hAL1]; intro e; cases e) (.no z2 q1 fun _ _ _ h => by cases h)
                  have hfr1 : FrR L.toLk N vars w.heap.size g1 (w1.putObj b (.loop { lp1 with state := .busy })) f1 tm1 df1 := ⟨h1.fr.env.mono hset.2.ge, h1.fr.dom, h1.fr.size, h1.fr.dfr.mono hset.2.ge hset.2.dfr, Nat.le_trans h1.fr.lo hset.2.size⟩
                  obtain ⟨g2, w2, tm2, df2, h2⟩ := code_sim hinj hcall hcalm lp.body AL.body d7 hc2 hset.1 (hgl.ext (h1.ext.trans hset.2)) hfr1 (h1.rcv.mono hset.2.ge) []
                  have e2 := h2.rcv.calm hk'
                  refine ⟨g2, w2, tm2, df2, h2.st, h1.ext.trans (hset.2.trans h2.ext), h2.fr.dfr, ?_⟩
                  have hto := h2.to
                  have hst1 := h1.to
                  rw [e1] at hto hst1
                  rw [e2] at hto
                  refine To.head ?_ hto
                  rw [hself]
                  exact Steps.trans hst1 (.one (s_beginRound hB hbeg))
                -- the end, but for a panic
                have fin : ∀ (j : Option Code) (ast : LSt) (ape : Option Pend) (g2 : Gh) (w2 : World), StR L.toLk (CkR P L) g2 s2 w2 → Ext g s w g2 s2 w2 → LStRep ast (if j.isNone then .ready else .done) → PendRep ape j →
                    ∃ w3, (Instr.endRound b j).run P w2 = .ok (.bool j.isNone) w3 ∧ StR L.toLk (CkR P L) g2 (s2.setb i (.loop { AL2 with st := ast, pend := ape })) w3 ∧ Ext g s w g2 (s2.setb i (.loop { AL2 with st := ast, pend := ape })) w3 := by
                  intro j ast ape g2 w2 hs2 hx2 hst hpe
                  have hb2 := hx2.ge.bl _ _ hb
                  obtain ⟨_, lp2, N2, vars2, q1, q2, q3, q4, q5, q6, q7, q8, q9, q10⟩ := hs2.blocks _ _ _ hb2 hAL2
                  have hend := run_endRound (P := P) j q1
                  obtain ⟨z1, z2, z3⟩ := heap_putObj (o' := .loop { lp2 with state := if j.isNone then .ready else .done, pending := j }) q1
                  have hset := StR.setb hs2 hb2 (by rw [hx2.ro]; exact hro) (ab := .loop { AL2 with st := ast, pend := ape }) z1 z2 z3 ⟨rfl, rfl, rfl⟩ (fun hge => ⟨hge.lps _ (hx2.ge.lps _ hlp), _, N2, vars2, z1, hst, hpe, q4, q5, q6, q7, q8.mono hge, q9, q10⟩) (fun _ => ⟨_, rfl⟩) (by rw [hAL2]; intro e; cases e) (.no z2 q1 fun _ _ _ h => by cases h)
                  exact ⟨_, hend, hset.1, hx2.trans hset.2⟩
                have whole : ∀ (j : Option Code) (ast : LSt) (ape : Option Pend), LStRep ast (if j.isNone then .ready else .done) → PendRep ape j →
                    (∀ {M : Machine} {B : Frame} {tm : Array Value} {df : List Deferred} {cs : List Frame} {g : Gh} {w : World}, To P L M B tm df [] cs g w o → ∃ td, Jump j td ∧ Steps P M (lone (mkF B tm df td) cs w)) →
                    r = .ret (.bool j.isNone) → s' = s2.setb i (.loop { AL2 with st := ast, pend := ape }) →
                    ∃ f tms as1 bd, (Instr.yield b cargs.toArray).run P w = .ok (.round b f tms as1 bd) w ∧
                      (∀ c cs, ∃ g' w' cv, StR L.toLk (CkR P L) g' s' w' ∧ Ext g s w g' s' w' ∧ (match r with
                        | .ret v => Rep L.toLk g' w' v cv ∧ Steps P (lone (Frame.round b f tms as1 bd .normal) (c :: cs) w) (lone (c.finish cv) cs w')
                        | .pan v => Rep L.toLk g' w' v cv ∧ Steps P (lone (Frame.round b f tms as1 bd .normal) (c :: cs) w) (lone (c.raise [{ v := cv, recovered := false }]) cs w'))) ∧
                      (∀ c cs, c.mode = .returning → ∃ g' w', StR L.toLk (CkR P L) g' s' w' ∧ Ext g s w g' s' w' ∧ (match r with
                        | .ret _ => Steps P (lone (Frame.round b f tms as1 bd .deferred) (c :: cs) w) (lone c cs w')
                        | .pan _ => True)) := by
                  intro j ast ape hst hpe hto hr hs'
                  subst hr; subst hs'
                  refine ⟨_, _, _, _, hy, fun c cs => ?_, fun c cs hm => ?_⟩
                  · obtain ⟨g2, w2, tm2, df2, a1, a2, _, a3⟩ := run .normal (c :: cs) (.inl rfl)
                    obtain ⟨td, hj, a4⟩ := hto a3
                    obtain ⟨w3, b1, b2, b3⟩ := fin j ast ape g2 w2 a1 a2 hst hpe
                    exact ⟨g2, w3, .bool j.isNone, b2, b3, by simp [Rep], Steps.trans a4 (.one ((s_endRound rfl hj b1).1 rfl))⟩
                  · obtain ⟨g2, w2, tm2, df2, a1, a2, _, a3⟩ := run .deferred (c :: cs) (.inr ⟨c, cs, rfl, hm⟩)
                    obtain ⟨td, hj, a4⟩ := hto a3
                    obtain ⟨w3, b1, b2, b3⟩ := fin j ast ape g2 w2 a1 a2 hst hpe
                    exact ⟨g2, w3, b2, b3, Steps.trans a4 (.one ((s_endRound rfl hj b1).2 rfl hm))⟩
                cases o with
                | normal =>
                  simp only [Option.some.injEq, Prod.mk.injEq] at h
                  obtain ⟨h1, rfl, h3⟩ := h
                  exact ⟨rfl, whole none .ready none rfl rfl (fun ht => ⟨[], rfl, ht⟩) h1.symm h3.symm⟩
                | exit id =>
                  simp only [Option.some.injEq, Prod.mk.injEq] at h
                  obtain ⟨h1, rfl, h3⟩ := h
                  exact ⟨rfl, whole (some (.exit id)) .done (some (.exit id)) rfl rfl (fun ht => by obtain ⟨k', e, ht⟩ := ht; exact ⟨_, ⟨k', rfl, e⟩, ht⟩) h1.symm h3.symm⟩
                | ret =>
                  simp only [Option.some.injEq, Prod.mk.injEq] at h
                  obtain ⟨h1, rfl, h3⟩ := h
                  exact ⟨rfl, whole (some .ret) .done (some .ret) rfl rfl (fun ht => by obtain ⟨k', ht⟩ := ht; exact ⟨_, ⟨k', rfl⟩, ht⟩) h1.symm h3.symm⟩
                | pan v =>
                  simp only at h
                  split at h
                  · rename_i hdf
                    simp only [Option.some.injEq, Prod.mk.injEq] at h
                    obtain ⟨rfl, rfl, rfl⟩ := h
                    refine ⟨rfl, _, _, _, _, hy, fun c cs => ?_, fun c cs hm => ?_⟩
                    · obtain ⟨g2, w2, tm2, df2, a1, a2, a0, a3⟩ := run .normal (c :: cs) (.inl rfl)
                      obtain ⟨cv, td, b1, b2, b3⟩ := a3
                      rw [List.isEmpty_iff.1 hdf] at a0
                      obtain ⟨g3, w3, m3, c1, c2, c3, c4, c5⟩ := unwind_sim hcall hs (Nat.le_refl _) a0 (p := some v) (p' := some v) rfl a1 a2 (hgl.ext a2) { mkF (Frame.round b lp.fn ((AL.ps.zip cargs).foldl (fun tm (t, a) => tm.setIfInBounds t a) lp.tmps) lp.assign lp.body .normal) tm2 df2 td with mode := .panicking [{ v := cv, recovered := false }] } (c :: cs) rfl ⟨cv, rfl, b1⟩
                      obtain ⟨pv, rfl, c6⟩ := c4
                      exact ⟨g3, w3, pv, c1, c2, c6, Steps.trans b3 (Steps.trans c5 (.one (s_leave_panic rfl rfl b2)))⟩
                    · obtain ⟨g2, w2, tm2, df2, a1, a2, _, _⟩ := run .deferred (c :: cs) (.inr ⟨c, cs, rfl, hm⟩)
                      exact ⟨g2, w2, a1, a2, trivial⟩
                  · cases h
              · cases h
            · cases h
          · cases h
        · cases h
      · cases h
    · cases h
  · cases h

/- what is said of hand-proved functions -/
def PrimOk (P : Program) (L : Link) (E : IEnv) : Prop := ∀ f args v, E.fns f = none → E.prim f args = some v → ∀ (g : Gh) (w : World) (cargs : List Value), GlR L E g w → RepL L.toLk g w args cargs →
  (callFunc (L.fnOf f) cargs.toArray).run P w = .ok (.enter (L.fnOf f) cargs.toArray) w ∧ Calls P (L.fnOf f) cargs.toArray w fun e w' => ∃ cv, e = .returned cv ∧ Below w.heap.size w w' ∧ ∀ g' w'', Rep L.toLk g' w'' v cv

/- what is said of hand-proved functions that may turn the state -/
def PrimsOk (P : Program) (L : Link) (E : IEnv) : Prop := ∀ f args s v s', E.fns f = none → E.eff f = true → E.prims f args s = some (v, s') → ∀ (g : Gh) (w : World) (cargs : List Value), StR L.toLk (CkR P L) g s w → GlR L E g w → RepL L.toLk g w args cargs →
  (callFunc (L.fnOf f) cargs.toArray).run P w = .ok (.enter (L.fnOf f) cargs.toArray) w ∧ Calls P (L.fnOf f) cargs.toArray w fun e w' => ∃ cv g', e = .returned cv ∧ StR L.toLk (CkR P L) g' s' w' ∧ Ext g s w g' s' w' ∧ Rep L.toLk g' w' v cv

theorem StR.below {C : CodeR} {g : Gh} {s : St} {w w' : World} (h : StR L.toLk C g s w) (hb : Below w.heap.size w w') : StR L.toLk C g s w' ∧ Ext g s w g s w' := by
  have hh : ∀ b, b < w.heap.size → w'.heap[b]? = w.heap[b]? := hb.block
  have hge : GE g w g w' := ⟨fun _ _ h => h, fun _ T h => ⟨T, h, Nat.le_refl _, fun _ => rfl⟩, fun b o hi => ⟨hi, cell?_congr (hh b (h.immIn b o hi)) _⟩, fun _ h => h, .of hh⟩
  refine ⟨⟨h.bl, h.tk, fun i b x hi hx => (h.blocks i b x hi hx).mono hge (hh b (h.lt hi)), h.inj, h.sep, h.blBase, fun t T hT => (h.toks t T hT).same (hh _ ?_), h.tokInj, fun b o hi => Nat.lt_of_lt_of_le (h.immIn b o hi) hb.size, Nat.le_trans h.baseIn hb.size, ?_, ?_, h.ro, h.rt⟩, ?_⟩
  · obtain ⟨c, e, fz, h1, _⟩ := (h.toks t T hT).space; exact lt_of_heap h1
  · intro d hd
    obtain ⟨h1, h2⟩ := h.dfr d hd
    exact ⟨by rw [hh d (lt_of_heap h1)]; exact h1, h2⟩
  · intro d hd
    obtain ⟨lp, h1⟩ := h.lps d hd
    exact ⟨lp, by rw [hh d (lt_of_heap h1)]; exact h1⟩
  · exact ⟨hge, fun _ h => h, rfl, fun b hb' => hh b (by have := h.baseIn; omega), hb.size, hb.os, hb.output, hb.tape, rfl, rfl, fun _ _ => rfl, fun _ _ => rfl, fun i b _ hb' => hh b (h.lt hb'), fun _ _ _ h => h⟩

structure EnvOk (P : Program) (L : Link) (E : IEnv) : Prop where
  inj : ∀ a b, L.tyOf a = L.tyOf b → a = b
  fns : ∀ f F, E.fns f = some F → FnOk P L f F
  prim : PrimOk P L E
  prims : PrimsOk P L E := by intro f args s v s' _ h; cases h

theorem calm_call1 (n : Nat) : ∀ tgt args s v rd s', calm E tgt = true → callA E n none tgt args s = some (.ret v, rd, s') → s' = s := by
  intro tgt args s v rd s' hc h
  cases n with
  | zero => simp [callA] at h
  | succ n =>
    cases tgt with
    | fn f a c =>
      simp only [callA] at h
      simp only [calm] at hc
      split at h
      · rename_i F hF
        simp only [hF] at hc
        have hm : F.mode = .pure ∨ F.mode = .thaw := by
          cases hm : F.mode <;> rw [hm] at hc <;> simp_all
        unfold runA at h
        split at h
        · cases h
        · split at h
          · cases h
          · split at h
            · cases h
            · split at h
              · cases h
              · split at h
                · simp at h
                · cases h
              · split at h
                · cases h
                · split at h
                  · rename_i v' s3 hfin
                    simp only [Option.some.injEq, Prod.mk.injEq] at h
                    obtain ⟨_, _, rfl⟩ := h
                    rcases hm with hm | hm <;> rw [hm] at hfin <;> simp only [finA] at hfin
                    · split at hfin
                      · cases hfin; rfl
                      · split at hfin
                        · cases hfin; rfl
                        · cases hfin
                    · split at hfin
                      · cases hfin; rfl
                      · split at hfin
                        · cases hfin; rfl
                        · cases hfin
                  · cases h
      · rename_i hF
        simp only [hF, Bool.not_eq_true'] at hc
        simp only [Option.isSome_none, Bool.false_eq_true, if_false, hc] at h
        split at h
        · simp only [Option.some.injEq, Prod.mk.injEq] at h
          obtain ⟨_, _, rfl⟩ := h; rfl
        · cases h
    | _ => simp [calm] at hc

theorem finA_any {m : Mode} (hm : isPure m = true) {lo : Nat} {s s2 s' : St} {v v' : AV} (h : finA m lo s s2 v = some (v', s')) : ∀ t : St, finA m lo t s2 v = some (v', t) := by
  intro t
  cases m <;> first | (cases hm; done) | skip
  all_goals
    simp only [finA] at h ⊢
    split at h
    · rename_i hd
      cases h
      rw [if_pos hd]
    · rename_i hd
      rw [if_neg hd]
      split at h
      · rename_i hd2
        cases h
        rw [if_pos hd2]
      · cases h

theorem calm_call2 (n : Nat) : ∀ tgt args s v rd s', calm E tgt = true → plainCall tgt args = true → callA E n none tgt args s = some (.ret v, rd, s') → ∀ s2, callA E n none tgt args s2 = some (.ret v, rd, s2) := by
  intro tgt args s v rd s' hc hp h s2
  cases n with
  | zero => simp [callA] at h
  | succ n =>
    cases tgt with
    | fn f a c =>
      simp only [plainCall] at hp
      simp only [callA] at h ⊢
      simp only [calm] at hc
      cases hF : E.fns f with
      | none =>
        simp only [hF, Bool.not_eq_true'] at hc
        simp only [hF, Option.isSome_none, Bool.false_eq_true, if_false, hc] at h ⊢
        split at h
        · simp only [Option.some.injEq, Prod.mk.injEq] at h
          obtain ⟨h1, rfl, rfl⟩ := h
          cases h1; rfl
        · cases h
      | some F =>
        simp only [hF] at hc h ⊢
        have hm : isPure F.mode = true := by cases hm : F.mode <;> rw [hm] at hc <;> simp_all [isPure]
        have hst : ∀ t : St, startA F.mode none (a ++ args ++ c) t = { bl := [], tk := [], ro := 0, rt := 0 } := fun t => by
          unfold startA; rw [if_pos (by rw [hm, hp]; rfl)]
        unfold runA at h ⊢
        rw [hst] at h ⊢
        split at h
        · cases h
        · rename_i hnp
          rw [if_neg hnp]
          split at h
          · cases h
          · rename_i o f1 s1 hcode
            try (rw [hcode]; simp only)
            split at h
            · cases h
            · rename_i p hpo
              split at h
              · cases h
              · split at h <;> simp at h
              · rename_i s3 hu
                try simp only [hu]
                split at h
                · cases h
                · rename_i vs hvs
                  try simp only [hvs]
                  split at h
                  · rename_i v' s4 hfin
                    simp only [Option.some.injEq, Prod.mk.injEq] at h
                    obtain ⟨h1, h2, _⟩ := h
                    cases h1
                    have h3 := finA_any hm hfin s2
                    rw [h3, h2]
                  · cases h
    | _ => simp [calm] at hc

theorem calm_call (n : Nat) : CalmOk E (callA E n) := ⟨calm_call1 n, calm_call2 n⟩

theorem run_callFunc_body {fn : Func} {c : Code} {f : FuncId} {args : Array Value} {w : World} (hf : P.funcs[f]? = some fn) (hb : fn.body = some c) (hn : (fn.name == "runtime.NumGoroutine") = false) : (callFunc f args).run P w = .ok (.enter f args) w := by
  have hn' : fn.name ≠ "runtime.NumGoroutine" := by simpa using hn
  simp [callFunc, Sem.run_bind, run_program, hf, hb, hn']

theorem call_sim (hE : EnvOk P L E) : ∀ n, CallSim P L E (callA E n)
  | 0 => by intro pn tgt args s r recd s' h; simp [callA] at h
  | n + 1 => by
    intro pn tgt args s r recd s' h g w ctgt cargs hs hgl ht ha
    have ih := call_sim hE n
    cases tgt with
    | fn f first caps =>
      simp only [Rep] at ht
      obtain ⟨fs, cps, rfl, hfs, hcs⟩ := ht
      have hargs : RepL L.toLk g w (first ++ args ++ caps) (fs ++ cargs ++ cps) := (hfs.append ha).append hcs
      have hcat : fs.toArray ++ cargs.toArray ++ cps.toArray = (fs ++ cargs ++ cps).toArray := by simp
      simp only [callA] at h
      split at h
      · rename_i F hF
        have hFok := hE.fns f F hF
        obtain ⟨fn0, c0, _, hfn0, hb0, hn0, _⟩ := hFok.out
        refine ⟨fun k => Frame.enter P (L.fnOf f) (fs ++ cargs ++ cps).toArray k, ⟨_, _, _, _, rfl, ?_, .inl ⟨_, _, rfl, rfl⟩⟩, ?_, ?_⟩
        · show (callFunc (L.fnOf f) (fs.toArray ++ cargs.toArray ++ cps.toArray)).run P w = _
          rw [hcat]; exact run_callFunc_body hfn0 hb0 hn0
        · rintro rfl c cs
          obtain ⟨g', w', fn, fr, cv, h0, h1, h2, h3, h4, h5, h6, h7, h8, h9⟩ := run_sim hE.inj ih (calm_call n) hFok h hs hgl hargs .normal (c :: cs) (.inl rfl)
          have hrec : recd = false := by
            cases hr : recd with
            | false => rfl
            | true => have := (h7 hr).1; cases this
          rw [hrec] at h8
          refine ⟨g', w', cv, h1, h2, ?_⟩
          cases r with
          | ret v =>
            obtain ⟨a1, a2, a3⟩ := h9
            exact ⟨a1, Steps.trans h8 (.one (step_leave_returned ⟨a2, h5, h4, fn, by rw [h3]; exact h0, a3⟩))⟩
          | pan v =>
            obtain ⟨a1, a2⟩ := h9
            exact ⟨a1, Steps.trans h8 (.one (s_leave_panic h5 a2 h6))⟩
        · intro _ c cs hm
          obtain ⟨g', w', fn, fr, cv, h0, h1, h2, h3, h4, h5, h6, h7, h8, h9⟩ := run_sim hE.inj ih (calm_call n) hFok h hs hgl hargs .deferred (c :: cs) (by
            cases pn with
            | none => exact .inr ⟨rfl, c, cs, rfl, hm⟩
            | some v => obtain ⟨pv, h1, h2⟩ := hm; exact ⟨rfl, c, cs, pv, rfl, h1, h2⟩)
          refine ⟨g', w', h1, h2, ?_⟩
          cases r with
          | ret v =>
            obtain ⟨a1, a2, a3⟩ := h9
            simp only
            refine Steps.trans h8 ?_
            cases hr : recd with
            | false =>
              have hset : settle c.mode = c.mode := by
                cases pn with
                | none => rw [show c.mode = .returning from hm]; rfl
                | some v => obtain ⟨pv, h1, _⟩ := hm; rw [h1]; rfl
              have := step_going_returned (P := P) (fr := fr) (c := c) (cs := cs) (w := w') (v := cv) h4 ⟨a2, h5, fn, by rw [h3]; exact h0, a3⟩
              rw [hset] at this
              exact .one this
            | true =>
              obtain ⟨_, c', r', pv, e, hcm⟩ := h7 hr
              cases e
              have := step_going_returned (P := P) (fr := fr) (c := { c with mode := .panicking [{ v := pv, recovered := true }] }) (cs := cs) (w := w') (v := cv) h4 ⟨a2, h5, fn, by rw [h3]; exact h0, a3⟩
              simp only [csAt, hcm]
              exact .one this
          | pan v => trivial
      · rename_i hF
        split at h
        · cases h
        · rename_i hpn
          split at h
          · rename_i heff
            split at h
            · rename_i v s1 hv
              simp only [Option.some.injEq, Prod.mk.injEq] at h
              obtain ⟨rfl, rfl, rfl⟩ := h
              obtain ⟨k1, k2⟩ := hE.prims f _ _ v _ hF heff hv g w _ hs hgl hargs
              refine ⟨fun k => Frame.enter P (L.fnOf f) (fs ++ cargs ++ cps).toArray k, ⟨_, _, _, _, rfl, ?_, .inl ⟨_, _, rfl, rfl⟩⟩, ?_, ?_⟩
              · show (callFunc (L.fnOf f) (fs.toArray ++ cargs.toArray ++ cps.toArray)).run P w = _
                rw [hcat]; exact k1
              · rintro rfl c cs
                obtain ⟨e, w', fr, ⟨cv, g', rfl, b1, b2, b3⟩, hcm, _, hl⟩ := k2 (c :: cs)
                exact ⟨g', w', cv, b1, b2, b3, Steps.trans hcm (.one (step_leave_returned hl))⟩
              · intro hown
                simp [ownFn, hF] at hown
            · cases h
          · rename_i heff
            split at h
            · rename_i v hv
              simp only [Option.some.injEq, Prod.mk.injEq] at h
              obtain ⟨rfl, rfl, rfl⟩ := h
              obtain ⟨k1, k2⟩ := hE.prim f _ v hF hv g w _ hgl hargs
              refine ⟨fun k => Frame.enter P (L.fnOf f) (fs ++ cargs ++ cps).toArray k, ⟨_, _, _, _, rfl, ?_, .inl ⟨_, _, rfl, rfl⟩⟩, ?_, ?_⟩
              · show (callFunc (L.fnOf f) (fs.toArray ++ cargs.toArray ++ cps.toArray)).run P w = _
                rw [hcat]; exact k1
              · rintro rfl c cs
                obtain ⟨e, w', fr, ⟨cv, rfl, hbel, hrep⟩, hcm, _, hl⟩ := k2 (c :: cs)
                obtain ⟨b1, b2⟩ := hs.below hbel
                exact ⟨g, w', cv, b1, b2, hrep g w', Steps.trans hcm (.one (step_leave_returned hl))⟩
              · intro hown
                simp [ownFn, hF] at hown
            · cases h
    | yield i =>
      simp only [callA] at h
      split at h
      · cases h
      · rename_i hpn
        simp only [Rep] at ht
        obtain ⟨b, hb, rfl⟩ := ht
        obtain ⟨rfl, f, tms, as1, bd, h1, h2, h3⟩ := round_sim hE.inj ih (calm_call n) h hs hgl hb ha
        refine ⟨fun k => Frame.round b f tms as1 bd k, ⟨_, _, _, _, rfl, ?_, .inr ⟨_, _, _, _, _, rfl, rfl⟩⟩, ?_, ?_⟩
        · simpa [invoke] using h1
        · rintro rfl c cs
          obtain ⟨g', w', cv, a1, a2, a3⟩ := h2 c cs
          refine ⟨g', w', cv, a1, a2, ?_⟩
          cases r <;> exact a3
        · intro _ c cs hm
          cases pn with
          | some v => simp at hpn
          | none =>
            obtain ⟨g', w', a1, a2, a3⟩ := h3 c cs hm
            refine ⟨g', w', a1, a2, ?_⟩
            cases r with
            | ret v => simpa using a3
            | pan v => trivial
    | _ => simp [callA] at h
end
end Ab

/- The last law: what an abstract call comes to, the machine's call comes to. Its conditions: functions are as the given texts say; hand-proved functions do what is said of them. -/
namespace Ab
open Go Go.RowKit

/- at the start: all that lies in memory is never written -/
def g0 (w : World) : Gh := { bl := [], tk := [], imm := fun b _ => b < w.heap.size, base := w.heap.size, dfr := [], lps := [] }
def st0 : St := { bl := [], tk := [], ro := 0, rt := 0 }

variable {P : Program} {L : Link} {E : IEnv}

theorem str0 (C : CodeR) (w : World) : StR L.toLk C (g0 w) st0 w where
  bl := rfl
  tk := rfl
  blocks i b x h := by simp [g0] at h
  inj i j b h := by simp [g0] at h
  sep i b o h := by simp [g0] at h
  blBase i b h := by simp [g0] at h
  toks t T h := by simp [g0] at h
  tokInj t u T U h := by simp [g0] at h
  immIn b o h := h
  baseIn := Nat.le_refl _
  dfr d h := by simp [g0] at h
  lps d h := by simp [g0] at h
  ro := Nat.le_refl _
  rt := Nat.le_refl _

theorem calls_of (hE : EnvOk P L E) {f : Nat} {n : Nat} {args : List AV} {v : AV} {rd : Bool} {s' : St} (h : callA E n none (.fn f [] []) args st0 = some (.ret v, rd, s')) (hf : (E.fns f).isSome = true) {w : World} (hgl : GlR L E (g0 w) w) {cargs : List Value} (ha : RepL L.toLk (g0 w) w args cargs) :
    Calls P (L.fnOf f) cargs.toArray w fun e w' => (∃ cv g', e = .returned cv ∧ Rep L.toLk g' w' v cv) ∧ Below w.heap.size w w' := by
  cases n with
  | zero => simp [callA] at h
  | succ n =>
    cases hF : E.fns f with
    | none => rw [hF] at hf; cases hf
    | some F =>
      simp only [callA, hF, List.nil_append, List.append_nil] at h
      intro cs
      obtain ⟨g', w', fn, fr, cv, h0, h1, h2, h3, h4, h5, h6, h7, h8, a1, a2, a3⟩ := run_sim hE.inj (call_sim hE n) (calm_call n) (hE.fns f F hF) h (str0 _ w) hgl ha .normal cs (.inl rfl)
      have hrec : rd = false := by
        cases hr : rd with
        | false => rfl
        | true => have := (h7 hr).1; cases this
      rw [hrec] at h8
      exact ⟨.returned cv, w', fr, ⟨⟨cv, g', rfl, a1⟩, ⟨h2.os, h2.tape, h2.out, h2.size, h2.old⟩⟩, h8, h3, a2, h5, h4, fn, by rw [h3]; exact h0, a3⟩

/- a law's function: it answers true -/
theorem calls_true (hE : EnvOk P L E) {f : Nat} {n : Nat} {args : List AV} {rd : Bool} {s' : St} (h : callA E n none (.fn f [] []) args st0 = some (.ret (.bool true), rd, s')) (hf : (E.fns f).isSome = true) {w : World} (hgl : GlR L E (g0 w) w) {cargs : List Value} (ha : RepL L.toLk (g0 w) w args cargs) :
    Calls P (L.fnOf f) cargs.toArray w fun e w' => e = .returned (.bool true) ∧ Below w.heap.size w w' := by
  intro cs
  obtain ⟨e, w', fr, ⟨⟨cv, g', rfl, hr⟩, hb⟩, h2⟩ := calls_of hE h hf hgl ha cs
  simp only [Rep] at hr
  exact ⟨_, w', fr, ⟨by rw [hr], hb⟩, h2⟩
end Ab

/- A table of given texts against a program. No condition. -/
namespace Ab
open Go Go.RowKit

def fnCk (P : Program) (L : Link) (F : IFn) (vars : List Nat) (fn : Func) : Bool :=
  match fn.body with
  | some c => !(fn.name == "runtime.NumGoroutine") && ckCode P L fn.ntmps vars F.body c && (List.range F.np).all (vars.contains ·) && resOk P fn.results.toList F.res
  | none => false

abbrev Table := List (Nat × IFn × List Nat)
def rowOk (P : Program) (L : Link) (r : Nat × IFn × List Nat) : Bool := match P.funcs[L.fnOf r.1]? with
  | some fn => fnCk P L r.2.1 r.2.2 fn
  | none => false
def tabOk (P : Program) (L : Link) : Table → Bool
  | [] => true
  | r :: rs => rowOk P L r && tabOk P L rs

def Table.fn : Table → Nat → Option IFn
  | [], _ => none
  | r :: rs, f => if f = r.1 then some r.2.1 else Table.fn rs f

theorem fnOk_of_row {P : Program} {L : Link} {r : Nat × IFn × List Nat} (h : rowOk P L r = true) : FnOk P L r.1 r.2.1 := by
  unfold rowOk at h
  split at h
  · rename_i fn hfn
    unfold fnCk at h
    split at h
    · rename_i c hc
      simp only [Bool.and_eq_true, Bool.not_eq_true'] at h
      obtain ⟨⟨⟨h1, h2⟩, h3⟩, h4⟩ := h
      exact ⟨fn, c, r.2.2, hfn, hc, h1, h2, fun i hi => List.all_eq_true.1 h3 i (List.mem_range.2 hi), h4⟩
    · cases h
  · cases h

theorem fns_of_tab {P : Program} {L : Link} : ∀ {t : Table}, tabOk P L t = true → ∀ f F, t.fn f = some F → FnOk P L f F
  | [], _, f, F, h => by simp [Table.fn] at h
  | r :: rs, hk, f, F, h => by
    simp only [tabOk, Bool.and_eq_true] at hk
    simp only [Table.fn] at h
    split at h
    · rename_i hf
      cases h; subst hf
      exact fnOk_of_row hk.1
    · exact fns_of_tab hk.2 f F h

def selfLink (w : World) : Link := { fnOf := fun n => n, tyOf := fun n => n, glOf := fun n => n, w0 := w }
end Ab

/- The table's entries by name. MADE BY PROGRAM. No condition. -/
namespace Ab.U
open Ab
theorem h_chiasmuslaw10_BuiltinBack {E : IEnv} (hE : E.fns = Table.fn table) : E.fns n_chiasmuslaw10_BuiltinBack = some F_chiasmuslaw10_BuiltinBack := by rw [hE]; rfl
theorem h_term_Size {E : IEnv} (hE : E.fns = Table.fn table) : E.fns n_term_Size = some F_term_Size := by rw [hE]; rfl
theorem h_chiasmuslaw10_Small {E : IEnv} (hE : E.fns = Table.fn table) : E.fns n_chiasmuslaw10_Small = some F_chiasmuslaw10_Small := by rw [hE]; rfl
theorem h_term_Value {E : IEnv} (hE : E.fns = Table.fn table) : E.fns n_term_Value = some F_term_Value := by rw [hE]; rfl
theorem h_chiasmuslaw10_awake {E : IEnv} (hE : E.fns = Table.fn table) : E.fns n_chiasmuslaw10_awake = some F_chiasmuslaw10_awake := by rw [hE]; rfl
theorem h_chiasmuslaw10_apply {E : IEnv} (hE : E.fns = Table.fn table) : E.fns n_chiasmuslaw10_apply = some F_chiasmuslaw10_apply := by rw [hE]; rfl
theorem h_chiasmusref01_Equal {E : IEnv} (hE : E.fns = Table.fn table) : E.fns n_chiasmusref01_Equal = some F_chiasmusref01_Equal := by rw [hE]; rfl
theorem h_chiasmuslaw10_small {E : IEnv} (hE : E.fns = Table.fn table) : E.fns n_chiasmuslaw10_small = some F_chiasmuslaw10_small := by rw [hE]; rfl
theorem h_slices_Clone___api_Term_api_Term_ {E : IEnv} (hE : E.fns = Table.fn table) : E.fns n_slices_Clone___api_Term_api_Term_ = some F_slices_Clone___api_Term_api_Term_ := by rw [hE]; rfl
theorem h_slices_Clone___api_Term_api_Term__m {E : IEnv} (hE : E.fns = Table.fn table) : E.fns n_slices_Clone___api_Term_api_Term__m = some F_slices_Clone___api_Term_api_Term__m := by rw [hE]; rfl
theorem h_term_Size_1 {E : IEnv} (hE : E.fns = Table.fn table) : E.fns n_term_Size_1 = some F_term_Size_1 := by rw [hE]; rfl
theorem h_term_all {E : IEnv} (hE : E.fns = Table.fn table) : E.fns n_term_all = some F_term_all := by rw [hE]; rfl
theorem h_term_depth {E : IEnv} (hE : E.fns = Table.fn table) : E.fns n_term_depth = some F_term_depth := by rw [hE]; rfl
theorem h_chiasmuslaw10_nodes {E : IEnv} (hE : E.fns = Table.fn table) : E.fns n_chiasmuslaw10_nodes = some F_chiasmuslaw10_nodes := by rw [hE]; rfl
theorem h_chiasmuslaw10_shortTexts {E : IEnv} (hE : E.fns = Table.fn table) : E.fns n_chiasmuslaw10_shortTexts = some F_chiasmuslaw10_shortTexts := by rw [hE]; rfl
theorem h_term_check {E : IEnv} (hE : E.fns = Table.fn table) : E.fns n_term_check = some F_term_check := by rw [hE]; rfl
theorem h_builtin_Apply {E : IEnv} (hE : E.fns = Table.fn table) : E.fns n_builtin_Apply = some F_builtin_Apply := by rw [hE]; rfl
theorem h_chiasmuslaw10_number {E : IEnv} (hE : E.fns = Table.fn table) : E.fns n_chiasmuslaw10_number = some F_chiasmuslaw10_number := by rw [hE]; rfl
theorem h_chiasmuslaw10_chars {E : IEnv} (hE : E.fns = Table.fn table) : E.fns n_chiasmuslaw10_chars = some F_chiasmuslaw10_chars := by rw [hE]; rfl
theorem h_chiasmusref01_Compare {E : IEnv} (hE : E.fns = Table.fn table) : E.fns n_chiasmusref01_Compare = some F_chiasmusref01_Compare := by rw [hE]; rfl
theorem h_term_all_1 {E : IEnv} (hE : E.fns = Table.fn table) : E.fns n_term_all_1 = some F_term_all_1 := by rw [hE]; rfl
theorem h_term_all_1_1 {E : IEnv} (hE : E.fns = Table.fn table) : E.fns n_term_all_1_1 = some F_term_all_1_1 := by rw [hE]; rfl
theorem h_slices_ContainsFunc___api_Term_api_Term_ {E : IEnv} (hE : E.fns = Table.fn table) : E.fns n_slices_ContainsFunc___api_Term_api_Term_ = some F_slices_ContainsFunc___api_Term_api_Term_ := by rw [hE]; rfl
theorem h_chiasmuslaw10_shortTexts_1 {E : IEnv} (hE : E.fns = Table.fn table) : E.fns n_chiasmuslaw10_shortTexts_1 = some F_chiasmuslaw10_shortTexts_1 := by rw [hE]; rfl
theorem h_term_right {E : IEnv} (hE : E.fns = Table.fn table) : E.fns n_term_right = some F_term_right := by rw [hE]; rfl
theorem h_builtin_functions {E : IEnv} (hE : E.fns = Table.fn table) : E.fns n_builtin_functions = some F_builtin_functions := by rw [hE]; rfl
theorem h_builtin_Check {E : IEnv} (hE : E.fns = Table.fn table) : E.fns n_builtin_Check = some F_builtin_Check := by rw [hE]; rfl
theorem h_builtin_Apply_1 {E : IEnv} (hE : E.fns = Table.fn table) : E.fns n_builtin_Apply_1 = some F_builtin_Apply_1 := by rw [hE]; rfl
theorem h_term_Copy {E : IEnv} (hE : E.fns = Table.fn table) : E.fns n_term_Copy = some F_term_Copy := by rw [hE]; rfl
theorem h_builtin_copied {E : IEnv} (hE : E.fns = Table.fn table) : E.fns n_builtin_copied = some F_builtin_copied := by rw [hE]; rfl
theorem h_builtin_Keeps {E : IEnv} (hE : E.fns = Table.fn table) : E.fns n_builtin_Keeps = some F_builtin_Keeps := by rw [hE]; rfl
theorem h_builtin_need {E : IEnv} (hE : E.fns = Table.fn table) : E.fns n_builtin_need = some F_builtin_need := by rw [hE]; rfl
theorem h_chiasmusref01_Sign {E : IEnv} (hE : E.fns = Table.fn table) : E.fns n_chiasmusref01_Sign = some F_chiasmusref01_Sign := by rw [hE]; rfl
theorem h_slices_IndexFunc___api_Term_api_Term_ {E : IEnv} (hE : E.fns = Table.fn table) : E.fns n_slices_IndexFunc___api_Term_api_Term_ = some F_slices_IndexFunc___api_Term_api_Term_ := by rw [hE]; rfl
theorem h_term_identifier {E : IEnv} (hE : E.fns = Table.fn table) : E.fns n_term_identifier = some F_term_identifier := by rw [hE]; rfl
theorem h_strings_ContainsFunc {E : IEnv} (hE : E.fns = Table.fn table) : E.fns n_strings_ContainsFunc = some F_strings_ContainsFunc := by rw [hE]; rfl
theorem h_term_right_1 {E : IEnv} (hE : E.fns = Table.fn table) : E.fns n_term_right_1 = some F_term_right_1 := by rw [hE]; rfl
theorem h_term_isNumber {E : IEnv} (hE : E.fns = Table.fn table) : E.fns n_term_isNumber = some F_term_isNumber := by rw [hE]; rfl
theorem h_term_every {E : IEnv} (hE : E.fns = Table.fn table) : E.fns n_term_every = some F_term_every := by rw [hE]; rfl
theorem h___builtin_call__numb {E : IEnv} (hE : E.fns = Table.fn table) : E.fns n___builtin_call__numb = some F___builtin_call__numb := by rw [hE]; rfl
theorem h___builtin_call__symb {E : IEnv} (hE : E.fns = Table.fn table) : E.fns n___builtin_call__symb = some F___builtin_call__symb := by rw [hE]; rfl
theorem h___builtin_call__first {E : IEnv} (hE : E.fns = Table.fn table) : E.fns n___builtin_call__first = some F___builtin_call__first := by rw [hE]; rfl
theorem h___builtin_call__last {E : IEnv} (hE : E.fns = Table.fn table) : E.fns n___builtin_call__last = some F___builtin_call__last := by rw [hE]; rfl
theorem h___builtin_call__explode {E : IEnv} (hE : E.fns = Table.fn table) : E.fns n___builtin_call__explode = some F___builtin_call__explode := by rw [hE]; rfl
theorem h___builtin_call__implode {E : IEnv} (hE : E.fns = Table.fn table) : E.fns n___builtin_call__implode = some F___builtin_call__implode := by rw [hE]; rfl
theorem h___builtin_call__up {E : IEnv} (hE : E.fns = Table.fn table) : E.fns n___builtin_call__up = some F___builtin_call__up := by rw [hE]; rfl
theorem h___builtin_call__dn {E : IEnv} (hE : E.fns = Table.fn table) : E.fns n___builtin_call__dn = some F___builtin_call__dn := by rw [hE]; rfl
theorem h___builtin_call__bury {E : IEnv} (hE : E.fns = Table.fn table) : E.fns n___builtin_call__bury = some F___builtin_call__bury := by rw [hE]; rfl
theorem h___builtin_call__copy {E : IEnv} (hE : E.fns = Table.fn table) : E.fns n___builtin_call__copy = some F___builtin_call__copy := by rw [hE]; rfl
theorem h_slices_Clone___string_string_ {E : IEnv} (hE : E.fns = Table.fn table) : E.fns n_slices_Clone___string_string_ = some F_slices_Clone___string_string_ := by rw [hE]; rfl
theorem h_slices_Contains___string_string_ {E : IEnv} (hE : E.fns = Table.fn table) : E.fns n_slices_Contains___string_string_ = some F_slices_Contains___string_string_ := by rw [hE]; rfl
theorem h_term_is {E : IEnv} (hE : E.fns = Table.fn table) : E.fns n_term_is = some F_term_is := by rw [hE]; rfl
theorem h_strings_IndexFunc {E : IEnv} (hE : E.fns = Table.fn table) : E.fns n_strings_IndexFunc = some F_strings_IndexFunc := by rw [hE]; rfl
theorem h_strings_CutPrefix {E : IEnv} (hE : E.fns = Table.fn table) : E.fns n_strings_CutPrefix = some F_strings_CutPrefix := by rw [hE]; rfl
theorem h_builtin_group {E : IEnv} (hE : E.fns = Table.fn table) : E.fns n_builtin_group = some F_builtin_group := by rw [hE]; rfl
theorem h___builtin_call__text {E : IEnv} (hE : E.fns = Table.fn table) : E.fns n___builtin_call__text = some F___builtin_call__text := by rw [hE]; rfl
theorem h_strings_Trim {E : IEnv} (hE : E.fns = Table.fn table) : E.fns n_strings_Trim = some F_strings_Trim := by rw [hE]; rfl
theorem h_strings_TrimLeft {E : IEnv} (hE : E.fns = Table.fn table) : E.fns n_strings_TrimLeft = some F_strings_TrimLeft := by rw [hE]; rfl
theorem h_builtin_number {E : IEnv} (hE : E.fns = Table.fn table) : E.fns n_builtin_number = some F_builtin_number := by rw [hE]; rfl
theorem h_term_Chars {E : IEnv} (hE : E.fns = Table.fn table) : E.fns n_term_Chars = some F_term_Chars := by rw [hE]; rfl
theorem h___builtin_call__single {E : IEnv} (hE : E.fns = Table.fn table) : E.fns n___builtin_call__single = some F___builtin_call__single := by rw [hE]; rfl
theorem h_strconv_Atoi {E : IEnv} (hE : E.fns = Table.fn table) : E.fns n_strconv_Atoi = some F_strconv_Atoi := by rw [hE]; rfl
theorem h___builtin_call__cut {E : IEnv} (hE : E.fns = Table.fn table) : E.fns n___builtin_call__cut = some F___builtin_call__cut := by rw [hE]; rfl
theorem h_builtin_halves {E : IEnv} (hE : E.fns = Table.fn table) : E.fns n_builtin_halves = some F_builtin_halves := by rw [hE]; rfl
theorem h___builtin_call__implode_1 {E : IEnv} (hE : E.fns = Table.fn table) : E.fns n___builtin_call__implode_1 = some F___builtin_call__implode_1 := by rw [hE]; rfl
theorem h_term_Result {E : IEnv} (hE : E.fns = Table.fn table) : E.fns n_term_Result = some F_term_Result := by rw [hE]; rfl
theorem h_meta_Up {E : IEnv} (hE : E.fns = Table.fn table) : E.fns n_meta_Up = some F_meta_Up := by rw [hE]; rfl
theorem h_meta_Dn {E : IEnv} (hE : E.fns = Table.fn table) : E.fns n_meta_Dn = some F_meta_Dn := by rw [hE]; rfl
theorem h_term_Variables {E : IEnv} (hE : E.fns = Table.fn table) : E.fns n_term_Variables = some F_term_Variables := by rw [hE]; rfl
theorem h___builtin_call__put {E : IEnv} (hE : E.fns = Table.fn table) : E.fns n___builtin_call__put = some F___builtin_call__put := by rw [hE]; rfl
theorem h___builtin_call__keyed {E : IEnv} (hE : E.fns = Table.fn table) : E.fns n___builtin_call__keyed = some F___builtin_call__keyed := by rw [hE]; rfl
theorem h___builtin_call__top {E : IEnv} (hE : E.fns = Table.fn table) : E.fns n___builtin_call__top = some F___builtin_call__top := by rw [hE]; rfl
theorem h_slices_Index___string_string_ {E : IEnv} (hE : E.fns = Table.fn table) : E.fns n_slices_Index___string_string_ = some F_slices_Index___string_string_ := by rw [hE]; rfl
theorem h_term_classOf {E : IEnv} (hE : E.fns = Table.fn table) : E.fns n_term_classOf = some F_term_classOf := by rw [hE]; rfl
theorem h_strings_indexFunc {E : IEnv} (hE : E.fns = Table.fn table) : E.fns n_strings_indexFunc = some F_strings_indexFunc := by rw [hE]; rfl
theorem h_internal_stringslite_CutPrefix {E : IEnv} (hE : E.fns = Table.fn table) : E.fns n_internal_stringslite_CutPrefix = some F_internal_stringslite_CutPrefix := by rw [hE]; rfl
theorem h_strings_trimLeftByte {E : IEnv} (hE : E.fns = Table.fn table) : E.fns n_strings_trimLeftByte = some F_strings_trimLeftByte := by rw [hE]; rfl
theorem h_strings_makeASCIISet {E : IEnv} (hE : E.fns = Table.fn table) : E.fns n_strings_makeASCIISet = some F_strings_makeASCIISet := by rw [hE]; rfl
theorem h_strings_trimLeftASCII {E : IEnv} (hE : E.fns = Table.fn table) : E.fns n_strings_trimLeftASCII = some F_strings_trimLeftASCII := by rw [hE]; rfl
theorem h_strings_trimRightASCII {E : IEnv} (hE : E.fns = Table.fn table) : E.fns n_strings_trimRightASCII = some F_strings_trimRightASCII := by rw [hE]; rfl
theorem h_internal_strconv_Atoi {E : IEnv} (hE : E.fns = Table.fn table) : E.fns n_internal_strconv_Atoi = some F_internal_strconv_Atoi := by rw [hE]; rfl
theorem h_meta_up {E : IEnv} (hE : E.fns = Table.fn table) : E.fns n_meta_up = some F_meta_up := by rw [hE]; rfl
theorem h_meta_fits {E : IEnv} (hE : E.fns = Table.fn table) : E.fns n_meta_fits = some F_meta_fits := by rw [hE]; rfl
theorem h_meta_dn {E : IEnv} (hE : E.fns = Table.fn table) : E.fns n_meta_dn = some F_meta_dn := by rw [hE]; rfl
theorem h_term_Name {E : IEnv} (hE : E.fns = Table.fn table) : E.fns n_term_Name = some F_term_Name := by rw [hE]; rfl
theorem h___builtin_call__keyed_1 {E : IEnv} (hE : E.fns = Table.fn table) : E.fns n___builtin_call__keyed_1 = some F___builtin_call__keyed_1 := by rw [hE]; rfl
theorem h_slices_IndexFunc___api_Buried_api_Buried_ {E : IEnv} (hE : E.fns = Table.fn table) : E.fns n_slices_IndexFunc___api_Buried_api_Buried_ = some F_slices_IndexFunc___api_Buried_api_Buried_ := by rw [hE]; rfl
theorem h___builtin_call__top_1 {E : IEnv} (hE : E.fns = Table.fn table) : E.fns n___builtin_call__top_1 = some F___builtin_call__top_1 := by rw [hE]; rfl
theorem h_term_Equal {E : IEnv} (hE : E.fns = Table.fn table) : E.fns n_term_Equal = some F_term_Equal := by rw [hE]; rfl
theorem h_internal_stringslite_HasPrefix {E : IEnv} (hE : E.fns = Table.fn table) : E.fns n_internal_stringslite_HasPrefix = some F_internal_stringslite_HasPrefix := by rw [hE]; rfl
theorem h___strings_asciiSet__contains {E : IEnv} (hE : E.fns = Table.fn table) : E.fns n___strings_asciiSet__contains = some F___strings_asciiSet__contains := by rw [hE]; rfl
theorem h_meta_group {E : IEnv} (hE : E.fns = Table.fn table) : E.fns n_meta_group = some F_meta_group := by rw [hE]; rfl
theorem h_meta_char {E : IEnv} (hE : E.fns = Table.fn table) : E.fns n_meta_char = some F_meta_char := by rw [hE]; rfl
theorem h_meta_word {E : IEnv} (hE : E.fns = Table.fn table) : E.fns n_meta_word = some F_meta_word := by rw [hE]; rfl
theorem h_term_IsVariable {E : IEnv} (hE : E.fns = Table.fn table) : E.fns n_term_IsVariable = some F_term_IsVariable := by rw [hE]; rfl
theorem h___meta_reader__next {E : IEnv} (hE : E.fns = Table.fn table) : E.fns n___meta_reader__next = some F___meta_reader__next := by rw [hE]; rfl
theorem h_meta_isChar {E : IEnv} (hE : E.fns = Table.fn table) : E.fns n_meta_isChar = some F_meta_isChar := by rw [hE]; rfl
theorem h___meta_reader__starred {E : IEnv} (hE : E.fns = Table.fn table) : E.fns n___meta_reader__starred = some F___meta_reader__starred := by rw [hE]; rfl
theorem h_term_Compare {E : IEnv} (hE : E.fns = Table.fn table) : E.fns n_term_Compare = some F_term_Compare := by rw [hE]; rfl
theorem h_cmp_Compare_int_ {E : IEnv} (hE : E.fns = Table.fn table) : E.fns n_cmp_Compare_int_ = some F_cmp_Compare_int_ := by rw [hE]; rfl
theorem h_cmp_Compare_string_ {E : IEnv} (hE : E.fns = Table.fn table) : E.fns n_cmp_Compare_string_ = some F_cmp_Compare_string_ := by rw [hE]; rfl
theorem h_cmp_isNaN_int_ {E : IEnv} (hE : E.fns = Table.fn table) : E.fns n_cmp_isNaN_int_ = some F_cmp_isNaN_int_ := by rw [hE]; rfl
theorem h_cmp_isNaN_string_ {E : IEnv} (hE : E.fns = Table.fn table) : E.fns n_cmp_isNaN_string_ = some F_cmp_isNaN_string_ := by rw [hE]; rfl
theorem c_chiasmuslaw10_BuiltinBack {E : IEnv} (hE : E.fns = Table.fn table) (a c : List AV) : calm E (.fn n_chiasmuslaw10_BuiltinBack a c) = true := by simp only [calm, h_chiasmuslaw10_BuiltinBack hE, F_chiasmuslaw10_BuiltinBack]
theorem c_term_Size {E : IEnv} (hE : E.fns = Table.fn table) (a c : List AV) : calm E (.fn n_term_Size a c) = true := by simp only [calm, h_term_Size hE, F_term_Size]
theorem c_chiasmuslaw10_Small {E : IEnv} (hE : E.fns = Table.fn table) (a c : List AV) : calm E (.fn n_chiasmuslaw10_Small a c) = true := by simp only [calm, h_chiasmuslaw10_Small hE, F_chiasmuslaw10_Small]
theorem c_term_Value {E : IEnv} (hE : E.fns = Table.fn table) (a c : List AV) : calm E (.fn n_term_Value a c) = true := by simp only [calm, h_term_Value hE, F_term_Value]
theorem c_chiasmuslaw10_awake {E : IEnv} (hE : E.fns = Table.fn table) (a c : List AV) : calm E (.fn n_chiasmuslaw10_awake a c) = true := by simp only [calm, h_chiasmuslaw10_awake hE, F_chiasmuslaw10_awake]
theorem c_chiasmuslaw10_apply {E : IEnv} (hE : E.fns = Table.fn table) (a c : List AV) : calm E (.fn n_chiasmuslaw10_apply a c) = true := by simp only [calm, h_chiasmuslaw10_apply hE, F_chiasmuslaw10_apply]
theorem c_chiasmusref01_Equal {E : IEnv} (hE : E.fns = Table.fn table) (a c : List AV) : calm E (.fn n_chiasmusref01_Equal a c) = true := by simp only [calm, h_chiasmusref01_Equal hE, F_chiasmusref01_Equal]
theorem c_chiasmuslaw10_small {E : IEnv} (hE : E.fns = Table.fn table) (a c : List AV) : calm E (.fn n_chiasmuslaw10_small a c) = true := by simp only [calm, h_chiasmuslaw10_small hE, F_chiasmuslaw10_small]
theorem c_term_depth {E : IEnv} (hE : E.fns = Table.fn table) (a c : List AV) : calm E (.fn n_term_depth a c) = true := by simp only [calm, h_term_depth hE, F_term_depth]
theorem c_chiasmuslaw10_nodes {E : IEnv} (hE : E.fns = Table.fn table) (a c : List AV) : calm E (.fn n_chiasmuslaw10_nodes a c) = true := by simp only [calm, h_chiasmuslaw10_nodes hE, F_chiasmuslaw10_nodes]
theorem c_chiasmuslaw10_shortTexts {E : IEnv} (hE : E.fns = Table.fn table) (a c : List AV) : calm E (.fn n_chiasmuslaw10_shortTexts a c) = true := by simp only [calm, h_chiasmuslaw10_shortTexts hE, F_chiasmuslaw10_shortTexts]
theorem c_term_check {E : IEnv} (hE : E.fns = Table.fn table) (a c : List AV) : calm E (.fn n_term_check a c) = true := by simp only [calm, h_term_check hE, F_term_check]
theorem c_builtin_Apply {E : IEnv} (hE : E.fns = Table.fn table) (a c : List AV) : calm E (.fn n_builtin_Apply a c) = true := by simp only [calm, h_builtin_Apply hE, F_builtin_Apply]
theorem c_chiasmuslaw10_number {E : IEnv} (hE : E.fns = Table.fn table) (a c : List AV) : calm E (.fn n_chiasmuslaw10_number a c) = true := by simp only [calm, h_chiasmuslaw10_number hE, F_chiasmuslaw10_number]
theorem c_chiasmuslaw10_chars {E : IEnv} (hE : E.fns = Table.fn table) (a c : List AV) : calm E (.fn n_chiasmuslaw10_chars a c) = true := by simp only [calm, h_chiasmuslaw10_chars hE, F_chiasmuslaw10_chars]
theorem c_chiasmusref01_Compare {E : IEnv} (hE : E.fns = Table.fn table) (a c : List AV) : calm E (.fn n_chiasmusref01_Compare a c) = true := by simp only [calm, h_chiasmusref01_Compare hE, F_chiasmusref01_Compare]
theorem c_slices_ContainsFunc___api_Term_api_Term_ {E : IEnv} (hE : E.fns = Table.fn table) (a c : List AV) : calm E (.fn n_slices_ContainsFunc___api_Term_api_Term_ a c) = true := by simp only [calm, h_slices_ContainsFunc___api_Term_api_Term_ hE, F_slices_ContainsFunc___api_Term_api_Term_]
theorem c_chiasmuslaw10_shortTexts_1 {E : IEnv} (hE : E.fns = Table.fn table) (a c : List AV) : calm E (.fn n_chiasmuslaw10_shortTexts_1 a c) = true := by simp only [calm, h_chiasmuslaw10_shortTexts_1 hE, F_chiasmuslaw10_shortTexts_1]
theorem c_term_right {E : IEnv} (hE : E.fns = Table.fn table) (a c : List AV) : calm E (.fn n_term_right a c) = true := by simp only [calm, h_term_right hE, F_term_right]
theorem c_builtin_Check {E : IEnv} (hE : E.fns = Table.fn table) (a c : List AV) : calm E (.fn n_builtin_Check a c) = true := by simp only [calm, h_builtin_Check hE, F_builtin_Check]
theorem c_term_Copy {E : IEnv} (hE : E.fns = Table.fn table) (a c : List AV) : calm E (.fn n_term_Copy a c) = true := by simp only [calm, h_term_Copy hE, F_term_Copy]
theorem c_builtin_Keeps {E : IEnv} (hE : E.fns = Table.fn table) (a c : List AV) : calm E (.fn n_builtin_Keeps a c) = true := by simp only [calm, h_builtin_Keeps hE, F_builtin_Keeps]
theorem c_builtin_need {E : IEnv} (hE : E.fns = Table.fn table) (a c : List AV) : calm E (.fn n_builtin_need a c) = true := by simp only [calm, h_builtin_need hE, F_builtin_need]
theorem c_chiasmusref01_Sign {E : IEnv} (hE : E.fns = Table.fn table) (a c : List AV) : calm E (.fn n_chiasmusref01_Sign a c) = true := by simp only [calm, h_chiasmusref01_Sign hE, F_chiasmusref01_Sign]
theorem c_slices_IndexFunc___api_Term_api_Term_ {E : IEnv} (hE : E.fns = Table.fn table) (a c : List AV) : calm E (.fn n_slices_IndexFunc___api_Term_api_Term_ a c) = true := by simp only [calm, h_slices_IndexFunc___api_Term_api_Term_ hE, F_slices_IndexFunc___api_Term_api_Term_]
theorem c_term_identifier {E : IEnv} (hE : E.fns = Table.fn table) (a c : List AV) : calm E (.fn n_term_identifier a c) = true := by simp only [calm, h_term_identifier hE, F_term_identifier]
theorem c_strings_ContainsFunc {E : IEnv} (hE : E.fns = Table.fn table) (a c : List AV) : calm E (.fn n_strings_ContainsFunc a c) = true := by simp only [calm, h_strings_ContainsFunc hE, F_strings_ContainsFunc]
theorem c_term_right_1 {E : IEnv} (hE : E.fns = Table.fn table) (a c : List AV) : calm E (.fn n_term_right_1 a c) = true := by simp only [calm, h_term_right_1 hE, F_term_right_1]
theorem c_term_isNumber {E : IEnv} (hE : E.fns = Table.fn table) (a c : List AV) : calm E (.fn n_term_isNumber a c) = true := by simp only [calm, h_term_isNumber hE, F_term_isNumber]
theorem c_term_every {E : IEnv} (hE : E.fns = Table.fn table) (a c : List AV) : calm E (.fn n_term_every a c) = true := by simp only [calm, h_term_every hE, F_term_every]
theorem c___builtin_call__numb {E : IEnv} (hE : E.fns = Table.fn table) (a c : List AV) : calm E (.fn n___builtin_call__numb a c) = true := by simp only [calm, h___builtin_call__numb hE, F___builtin_call__numb]
theorem c___builtin_call__symb {E : IEnv} (hE : E.fns = Table.fn table) (a c : List AV) : calm E (.fn n___builtin_call__symb a c) = true := by simp only [calm, h___builtin_call__symb hE, F___builtin_call__symb]
theorem c___builtin_call__first {E : IEnv} (hE : E.fns = Table.fn table) (a c : List AV) : calm E (.fn n___builtin_call__first a c) = true := by simp only [calm, h___builtin_call__first hE, F___builtin_call__first]
theorem c___builtin_call__last {E : IEnv} (hE : E.fns = Table.fn table) (a c : List AV) : calm E (.fn n___builtin_call__last a c) = true := by simp only [calm, h___builtin_call__last hE, F___builtin_call__last]
theorem c___builtin_call__explode {E : IEnv} (hE : E.fns = Table.fn table) (a c : List AV) : calm E (.fn n___builtin_call__explode a c) = true := by simp only [calm, h___builtin_call__explode hE, F___builtin_call__explode]
theorem c___builtin_call__implode {E : IEnv} (hE : E.fns = Table.fn table) (a c : List AV) : calm E (.fn n___builtin_call__implode a c) = true := by simp only [calm, h___builtin_call__implode hE, F___builtin_call__implode]
theorem c___builtin_call__up {E : IEnv} (hE : E.fns = Table.fn table) (a c : List AV) : calm E (.fn n___builtin_call__up a c) = true := by simp only [calm, h___builtin_call__up hE, F___builtin_call__up]
theorem c___builtin_call__dn {E : IEnv} (hE : E.fns = Table.fn table) (a c : List AV) : calm E (.fn n___builtin_call__dn a c) = true := by simp only [calm, h___builtin_call__dn hE, F___builtin_call__dn]
theorem c___builtin_call__copy {E : IEnv} (hE : E.fns = Table.fn table) (a c : List AV) : calm E (.fn n___builtin_call__copy a c) = true := by simp only [calm, h___builtin_call__copy hE, F___builtin_call__copy]
theorem c_slices_Clone___string_string_ {E : IEnv} (hE : E.fns = Table.fn table) (a c : List AV) : calm E (.fn n_slices_Clone___string_string_ a c) = true := by simp only [calm, h_slices_Clone___string_string_ hE, F_slices_Clone___string_string_]
theorem c_slices_Contains___string_string_ {E : IEnv} (hE : E.fns = Table.fn table) (a c : List AV) : calm E (.fn n_slices_Contains___string_string_ a c) = true := by simp only [calm, h_slices_Contains___string_string_ hE, F_slices_Contains___string_string_]
theorem c_term_is {E : IEnv} (hE : E.fns = Table.fn table) (a c : List AV) : calm E (.fn n_term_is a c) = true := by simp only [calm, h_term_is hE, F_term_is]
theorem c_strings_IndexFunc {E : IEnv} (hE : E.fns = Table.fn table) (a c : List AV) : calm E (.fn n_strings_IndexFunc a c) = true := by simp only [calm, h_strings_IndexFunc hE, F_strings_IndexFunc]
theorem c_strings_CutPrefix {E : IEnv} (hE : E.fns = Table.fn table) (a c : List AV) : calm E (.fn n_strings_CutPrefix a c) = true := by simp only [calm, h_strings_CutPrefix hE, F_strings_CutPrefix]
theorem c_builtin_group {E : IEnv} (hE : E.fns = Table.fn table) (a c : List AV) : calm E (.fn n_builtin_group a c) = true := by simp only [calm, h_builtin_group hE, F_builtin_group]
theorem c___builtin_call__text {E : IEnv} (hE : E.fns = Table.fn table) (a c : List AV) : calm E (.fn n___builtin_call__text a c) = true := by simp only [calm, h___builtin_call__text hE, F___builtin_call__text]
theorem c_strings_Trim {E : IEnv} (hE : E.fns = Table.fn table) (a c : List AV) : calm E (.fn n_strings_Trim a c) = true := by simp only [calm, h_strings_Trim hE, F_strings_Trim]
theorem c_strings_TrimLeft {E : IEnv} (hE : E.fns = Table.fn table) (a c : List AV) : calm E (.fn n_strings_TrimLeft a c) = true := by simp only [calm, h_strings_TrimLeft hE, F_strings_TrimLeft]
theorem c_builtin_number {E : IEnv} (hE : E.fns = Table.fn table) (a c : List AV) : calm E (.fn n_builtin_number a c) = true := by simp only [calm, h_builtin_number hE, F_builtin_number]
theorem c_term_Chars {E : IEnv} (hE : E.fns = Table.fn table) (a c : List AV) : calm E (.fn n_term_Chars a c) = true := by simp only [calm, h_term_Chars hE, F_term_Chars]
theorem c___builtin_call__single {E : IEnv} (hE : E.fns = Table.fn table) (a c : List AV) : calm E (.fn n___builtin_call__single a c) = true := by simp only [calm, h___builtin_call__single hE, F___builtin_call__single]
theorem c_strconv_Atoi {E : IEnv} (hE : E.fns = Table.fn table) (a c : List AV) : calm E (.fn n_strconv_Atoi a c) = true := by simp only [calm, h_strconv_Atoi hE, F_strconv_Atoi]
theorem c___builtin_call__cut {E : IEnv} (hE : E.fns = Table.fn table) (a c : List AV) : calm E (.fn n___builtin_call__cut a c) = true := by simp only [calm, h___builtin_call__cut hE, F___builtin_call__cut]
theorem c_builtin_halves {E : IEnv} (hE : E.fns = Table.fn table) (a c : List AV) : calm E (.fn n_builtin_halves a c) = true := by simp only [calm, h_builtin_halves hE, F_builtin_halves]
theorem c___builtin_call__implode_1 {E : IEnv} (hE : E.fns = Table.fn table) (a c : List AV) : calm E (.fn n___builtin_call__implode_1 a c) = true := by simp only [calm, h___builtin_call__implode_1 hE, F___builtin_call__implode_1]
theorem c_term_Result {E : IEnv} (hE : E.fns = Table.fn table) (a c : List AV) : calm E (.fn n_term_Result a c) = true := by simp only [calm, h_term_Result hE, F_term_Result]
theorem c_meta_Up {E : IEnv} (hE : E.fns = Table.fn table) (a c : List AV) : calm E (.fn n_meta_Up a c) = true := by simp only [calm, h_meta_Up hE, F_meta_Up]
theorem c_meta_Dn {E : IEnv} (hE : E.fns = Table.fn table) (a c : List AV) : calm E (.fn n_meta_Dn a c) = true := by simp only [calm, h_meta_Dn hE, F_meta_Dn]
theorem c_term_Variables {E : IEnv} (hE : E.fns = Table.fn table) (a c : List AV) : calm E (.fn n_term_Variables a c) = true := by simp only [calm, h_term_Variables hE, F_term_Variables]
theorem c___builtin_call__keyed {E : IEnv} (hE : E.fns = Table.fn table) (a c : List AV) : calm E (.fn n___builtin_call__keyed a c) = true := by simp only [calm, h___builtin_call__keyed hE, F___builtin_call__keyed]
theorem c___builtin_call__top {E : IEnv} (hE : E.fns = Table.fn table) (a c : List AV) : calm E (.fn n___builtin_call__top a c) = true := by simp only [calm, h___builtin_call__top hE, F___builtin_call__top]
theorem c_slices_Index___string_string_ {E : IEnv} (hE : E.fns = Table.fn table) (a c : List AV) : calm E (.fn n_slices_Index___string_string_ a c) = true := by simp only [calm, h_slices_Index___string_string_ hE, F_slices_Index___string_string_]
theorem c_term_classOf {E : IEnv} (hE : E.fns = Table.fn table) (a c : List AV) : calm E (.fn n_term_classOf a c) = true := by simp only [calm, h_term_classOf hE, F_term_classOf]
theorem c_strings_indexFunc {E : IEnv} (hE : E.fns = Table.fn table) (a c : List AV) : calm E (.fn n_strings_indexFunc a c) = true := by simp only [calm, h_strings_indexFunc hE, F_strings_indexFunc]
theorem c_internal_stringslite_CutPrefix {E : IEnv} (hE : E.fns = Table.fn table) (a c : List AV) : calm E (.fn n_internal_stringslite_CutPrefix a c) = true := by simp only [calm, h_internal_stringslite_CutPrefix hE, F_internal_stringslite_CutPrefix]
theorem c_strings_trimLeftByte {E : IEnv} (hE : E.fns = Table.fn table) (a c : List AV) : calm E (.fn n_strings_trimLeftByte a c) = true := by simp only [calm, h_strings_trimLeftByte hE, F_strings_trimLeftByte]
theorem c_strings_makeASCIISet {E : IEnv} (hE : E.fns = Table.fn table) (a c : List AV) : calm E (.fn n_strings_makeASCIISet a c) = true := by simp only [calm, h_strings_makeASCIISet hE, F_strings_makeASCIISet]
theorem c_strings_trimLeftASCII {E : IEnv} (hE : E.fns = Table.fn table) (a c : List AV) : calm E (.fn n_strings_trimLeftASCII a c) = true := by simp only [calm, h_strings_trimLeftASCII hE, F_strings_trimLeftASCII]
theorem c_strings_trimRightASCII {E : IEnv} (hE : E.fns = Table.fn table) (a c : List AV) : calm E (.fn n_strings_trimRightASCII a c) = true := by simp only [calm, h_strings_trimRightASCII hE, F_strings_trimRightASCII]
theorem c_internal_strconv_Atoi {E : IEnv} (hE : E.fns = Table.fn table) (a c : List AV) : calm E (.fn n_internal_strconv_Atoi a c) = true := by simp only [calm, h_internal_strconv_Atoi hE, F_internal_strconv_Atoi]
theorem c_meta_up {E : IEnv} (hE : E.fns = Table.fn table) (a c : List AV) : calm E (.fn n_meta_up a c) = true := by simp only [calm, h_meta_up hE, F_meta_up]
theorem c_meta_fits {E : IEnv} (hE : E.fns = Table.fn table) (a c : List AV) : calm E (.fn n_meta_fits a c) = true := by simp only [calm, h_meta_fits hE, F_meta_fits]
theorem c_meta_dn {E : IEnv} (hE : E.fns = Table.fn table) (a c : List AV) : calm E (.fn n_meta_dn a c) = true := by simp only [calm, h_meta_dn hE, F_meta_dn]
theorem c_term_Name {E : IEnv} (hE : E.fns = Table.fn table) (a c : List AV) : calm E (.fn n_term_Name a c) = true := by simp only [calm, h_term_Name hE, F_term_Name]
theorem c___builtin_call__keyed_1 {E : IEnv} (hE : E.fns = Table.fn table) (a c : List AV) : calm E (.fn n___builtin_call__keyed_1 a c) = true := by simp only [calm, h___builtin_call__keyed_1 hE, F___builtin_call__keyed_1]
theorem c_slices_IndexFunc___api_Buried_api_Buried_ {E : IEnv} (hE : E.fns = Table.fn table) (a c : List AV) : calm E (.fn n_slices_IndexFunc___api_Buried_api_Buried_ a c) = true := by simp only [calm, h_slices_IndexFunc___api_Buried_api_Buried_ hE, F_slices_IndexFunc___api_Buried_api_Buried_]
theorem c___builtin_call__top_1 {E : IEnv} (hE : E.fns = Table.fn table) (a c : List AV) : calm E (.fn n___builtin_call__top_1 a c) = true := by simp only [calm, h___builtin_call__top_1 hE, F___builtin_call__top_1]
theorem c_term_Equal {E : IEnv} (hE : E.fns = Table.fn table) (a c : List AV) : calm E (.fn n_term_Equal a c) = true := by simp only [calm, h_term_Equal hE, F_term_Equal]
theorem c_internal_stringslite_HasPrefix {E : IEnv} (hE : E.fns = Table.fn table) (a c : List AV) : calm E (.fn n_internal_stringslite_HasPrefix a c) = true := by simp only [calm, h_internal_stringslite_HasPrefix hE, F_internal_stringslite_HasPrefix]
theorem c___strings_asciiSet__contains {E : IEnv} (hE : E.fns = Table.fn table) (a c : List AV) : calm E (.fn n___strings_asciiSet__contains a c) = true := by simp only [calm, h___strings_asciiSet__contains hE, F___strings_asciiSet__contains]
theorem c_meta_group {E : IEnv} (hE : E.fns = Table.fn table) (a c : List AV) : calm E (.fn n_meta_group a c) = true := by simp only [calm, h_meta_group hE, F_meta_group]
theorem c_meta_char {E : IEnv} (hE : E.fns = Table.fn table) (a c : List AV) : calm E (.fn n_meta_char a c) = true := by simp only [calm, h_meta_char hE, F_meta_char]
theorem c_meta_word {E : IEnv} (hE : E.fns = Table.fn table) (a c : List AV) : calm E (.fn n_meta_word a c) = true := by simp only [calm, h_meta_word hE, F_meta_word]
theorem c_term_IsVariable {E : IEnv} (hE : E.fns = Table.fn table) (a c : List AV) : calm E (.fn n_term_IsVariable a c) = true := by simp only [calm, h_term_IsVariable hE, F_term_IsVariable]
theorem c_meta_isChar {E : IEnv} (hE : E.fns = Table.fn table) (a c : List AV) : calm E (.fn n_meta_isChar a c) = true := by simp only [calm, h_meta_isChar hE, F_meta_isChar]
theorem c_term_Compare {E : IEnv} (hE : E.fns = Table.fn table) (a c : List AV) : calm E (.fn n_term_Compare a c) = true := by simp only [calm, h_term_Compare hE, F_term_Compare]
theorem c_cmp_Compare_int_ {E : IEnv} (hE : E.fns = Table.fn table) (a c : List AV) : calm E (.fn n_cmp_Compare_int_ a c) = true := by simp only [calm, h_cmp_Compare_int_ hE, F_cmp_Compare_int_]
theorem c_cmp_Compare_string_ {E : IEnv} (hE : E.fns = Table.fn table) (a c : List AV) : calm E (.fn n_cmp_Compare_string_ a c) = true := by simp only [calm, h_cmp_Compare_string_ hE, F_cmp_Compare_string_]
theorem c_cmp_isNaN_int_ {E : IEnv} (hE : E.fns = Table.fn table) (a c : List AV) : calm E (.fn n_cmp_isNaN_int_ a c) = true := by simp only [calm, h_cmp_isNaN_int_ hE, F_cmp_isNaN_int_]
theorem c_cmp_isNaN_string_ {E : IEnv} (hE : E.fns = Table.fn table) (a c : List AV) : calm E (.fn n_cmp_isNaN_string_ a c) = true := by simp only [calm, h_cmp_isNaN_string_ hE, F_cmp_isNaN_string_]
end Ab.U
