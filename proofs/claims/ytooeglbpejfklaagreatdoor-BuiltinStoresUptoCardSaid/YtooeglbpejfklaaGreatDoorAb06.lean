/- One operation of a region; and the operations of a region one after the other, in any order that is given. Its condition: calls do what the abstract run says. -/
import Derived.Test.YtooeglbpejfklaaGreatDoorAb05
import Derived.Orders
import Derived.RangeFuncNested
set_option linter.all false
namespace Ab
open Go
section
variable {P : Program} {L : Link} {E : IEnv} {call : Caller} {g : Gh} {s : St} {w : World}

theorem putEnv {N : Nat} {e : Env} {tm : Array Value} {io : IOper} {v : AV} {cv : Value} (h : EnvR L.toLk g w e tm) (hs : N ≤ tm.size) (hd : (match io.dst with | some d => decide (d < N) | none => true) = true) (hv : Rep L.toLk g w v cv)
    {f : Fr} {p : Option AV} {f' : Fr} {e' : Env} {s' : St} (hf : finO io v f e s = some (p, f', e', s')) : p = none ∧ f' = f ∧ s' = s ∧ EnvR L.toLk g w e' (putT tm io.dst cv) := by
  unfold finO at hf
  cases hdst : io.dst with
  | none =>
    simp only [hdst, Option.some.injEq, Prod.mk.injEq] at hf
    obtain ⟨rfl, rfl, rfl, rfl⟩ := hf
    exact ⟨rfl, rfl, rfl, h⟩
  | some d =>
    simp only [hdst, Option.some.injEq, Prod.mk.injEq] at hf
    obtain ⟨rfl, rfl, rfl, rfl⟩ := hf
    rw [hdst] at hd
    simp only [decide_eq_true_eq] at hd
    exact ⟨rfl, rfl, rfl, h.push hs hd hv⟩

/- where a step of a region comes to -/
def Came (P : Program) (L : Link) (M : Machine) (B : Frame) (tm : Array Value) (df : List Deferred) (todo : List Item) (cs : List Frame) (g : Gh) (w : World) : Option AV → Prop
  | none => Steps P M (lone (mkF B tm df todo) cs w)
  | some v => ∃ cv td, Rep L.toLk g w v cv ∧ NoCall td ∧ Steps P M (lone { mkF B tm df td with mode := .panicking [{ v := cv, recovered := false }] } cs w)

theorem run_call_op {tm : Array Value} {o : Oper} {q : Operand} {args : Array Operand} {ts : Array TypeId} (ho : o.op = .call { callee := .value q, args, argTypes := ts }) {fv : Fn} {first cap : Array Value} (hq : rhoOf tm q = .func fv first cap) :
    (execOp (rhoOf tm) o).run P w = (invoke (.fn fv cap) (first ++ (args.toList.map (rhoOf tm)).toArray)).run P w := by
  have e1 : args.map (rhoOf tm) = (args.toList.map (rhoOf tm)).toArray := by apply Array.ext'; simp
  simp only [execOp, ho, resolve, hq, Deferred.ofValue, Sem.run_bind, Sem.run_pure, Result.andThen_ok, e1]

theorem goA_guard {E : IEnv} {o : IOper} {e : Env} {b : Bool} (h : goA E o e = some b) : guardA o.guard e = some b := by
  unfold goA at h
  split at h
  · rename_i hg
    split at h
    · cases h; exact hg
    · cases h
  · exact h

theorem step_sound (hinj : ∀ a b, L.tyOf a = L.tyOf b → a = b) (hcall : CallSim P L E call) {draw : Bool} {io : IOper} {o : Oper} {cops : Array Oper} {N : Nat} (hck : ckOper P L N cops o io = true) {f f' : Fr} {e e' : Env} {s' : St} {p : Option AV}
    (h : stepA E call draw io f e s = some (p, f', e', s')) (hs : StR L.toLk (CkR P L) g s w) (hgl : GlR L E g w) {lo : Nat} {tm : Array Value} {df : List Deferred} (he : EnvR L.toLk g w e tm) (hN : N ≤ tm.size) (hdf : DRel L.toLk g w lo f.defers df)
    {B : Frame} {cs0 : List Frame} (hrc : RcvR L.toLk g w f B cs0) {i : Nat} (hi : cops[i]? = some o) (rest : List Nat) (k : List Item) :
    ∃ g' w' tm' df', StR L.toLk (CkR P L) g' s' w' ∧ Ext g s w g' s' w' ∧ EnvR L.toLk g' w' e' tm' ∧ N ≤ tm'.size ∧ DRel L.toLk g' w' lo f'.defers df' ∧ RcvR L.toLk g' w' f' B cs0 ∧ f'.rnd = f.rnd ∧ f'.env = f.env ∧
      Came P L (lone (mkF B tm df (.inRegion cops (i :: rest) :: k)) (csAt f.recd cs0) w) B tm' df' (.inRegion cops rest :: k) (csAt f'.recd cs0) g' w' p := by
  unfold ckOper at hck
  simp only [Bool.and_eq_true, beq_iff_eq] at hck
  obtain ⟨⟨⟨hdst, hd⟩, hgd⟩, hop⟩ := hck
  unfold stepA at h
  have hev := evs_of (E := E) he hgl
  -- a value that goes into the frame, nothing else changed
  split at h
  · cases h
  · rename_i hg
    have hw := guard_sound he hgd (goA_guard hg)
    obtain ⟨rfl, rfl, rfl, h4⟩ := putEnv he hN hd (undef_rep L.toLk g w) h
    refine ⟨g, w, putT tm io.dst undef, df, hs, .refl _ _ _, h4, by rw [putT_size]; exact hN, hdf, hrc, rfl, rfl, ?_⟩
    simp only [Came]
    rw [← hdst]
    exact .one (s_op_skip hi hw)
  · rename_i hg
    have hw := guard_sound he hgd (goA_guard hg)
    have plain : ∀ (v : AV) (s2 : St), opA (Opd.ev E e) s io.op = some (v, s2) → opOk P L o.op io.op = true → (∀ c, o.op ≠ .defer c) → finO io v f e s2 = some (p, f', e', s') → ∃ g' w' tm' df', StR L.toLk (CkR P L) g' s' w' ∧ Ext g s w g' s' w' ∧ EnvR L.toLk g' w' e' tm' ∧ N ≤ tm'.size ∧ DRel L.toLk g' w' lo f'.defers df' ∧ RcvR L.toLk g' w' f' B cs0 ∧ f'.rnd = f.rnd ∧ f'.env = f.env ∧
        Came P L (lone (mkF B tm df (.inRegion cops (i :: rest) :: k)) (csAt f.recd cs0) w) B tm' df' (.inRegion cops rest :: k) (csAt f'.recd cs0) g' w' p := by
      intro v s2 hv hok hnd hfin
      obtain ⟨g', w', nx, cv, h1, h2, h3, h4, h5⟩ := op_sound (C := CkR P L) hinj hs hev hok hv
      obtain ⟨rfl, rfl, rfl, h6⟩ := putEnv (he.mono h5.ge) hN hd h3 hfin
      refine ⟨g', w', putT tm io.dst cv, df, h4, h5, h6, by rw [putT_size]; exact hN, hdf.mono h5.ge h5.dfr, hrc.mono h5.ge, rfl, rfl, ?_⟩
      simp only [Came]
      rw [← hdst]
      exact .one (s_op_value hi hw (.inr hnd) h1 h2)
    unfold runO at h
    split at h
    · -- a call
      rename_i q args hio
      rw [hio] at hop
      cases hoo : o.op with
      | call c =>
        obtain ⟨callee, cargs, ts⟩ := c
        cases callee with
        | value cf =>
          rw [hoo] at hop
          simp only [Bool.and_eq_true] at hop
          obtain ⟨hq, hargs⟩ := hop
          split at h
          · cases h
          · split at h
            · cases h
            have hrq := hev.rep _ _ hq
            have hra := hev.reps hargs
            split at h
            · rename_i v rd s2 hc
              obtain ⟨F, ⟨fv, first, cap, nx, hfun, hinv, hst⟩, hn, _⟩ := hcall _ _ _ _ _ _ _ hc g w _ _ hs hgl hrq hra
              obtain ⟨g', w', cv, h1, h2, h3, h4⟩ := hn rfl (mkF B tm df (.inRegion cops (i :: rest) :: k)) (csAt f.recd cs0)
              split at h
              · obtain ⟨rfl, rfl, rfl, h6⟩ := putEnv (he.mono h2.ge) hN hd h3 h
                refine ⟨g', w', putT tm io.dst cv, df, h1, h2, h6, by rw [putT_size]; exact hN, hdf.mono h2.ge h2.dfr, hrc.mono h2.ge, rfl, rfl, ?_⟩
                simp only [Came]
                rw [finish_mkF hi, hdst] at h4
                refine .head ?_ h4
                have hrun := run_call_op (P := P) (w := w) hoo hfun
                rw [hinv] at hrun
                rcases hst with ⟨cf', a', rfl, rfl⟩ | ⟨l, cf', tms, a, b, rfl, rfl⟩
                · exact s_op_enter hi hw (.inr fun c hc => by rw [hoo] at hc; cases hc) hrun
                · exact s_op_round hi hw (.inr fun c hc => by rw [hoo] at hc; cases hc) hrun
              · cases h
            · rename_i v rd s2 hc
              split at h
              · cases h
              · simp only [Option.some.injEq, Prod.mk.injEq] at h
                obtain ⟨rfl, rfl, rfl, rfl⟩ := h
                obtain ⟨F, ⟨fv, first, cap, nx, hfun, hinv, hst⟩, hn, _⟩ := hcall _ _ _ _ _ _ _ hc g w _ _ hs hgl hrq hra
                obtain ⟨g', w', cv, h1, h2, h3, h4⟩ := hn rfl (mkF B tm df (.inRegion cops (i :: rest) :: k)) (csAt f.recd cs0)
                refine ⟨g', w', tm, df, h1, h2, he.mono h2.ge, hN, hdf.mono h2.ge h2.dfr, hrc.mono h2.ge, rfl, rfl, ?_⟩
                simp only [Came]
                refine ⟨cv, (.inRegion cops (i :: rest) :: k), h3, trivial, .head ?_ h4⟩
                have hrun := run_call_op (P := P) (w := w) hoo hfun
                rw [hinv] at hrun
                rcases hst with ⟨cf', a', rfl, rfl⟩ | ⟨l, cf', tms, a, b, rfl, rfl⟩
                · exact s_op_enter hi hw (.inr fun c hc => by rw [hoo] at hc; cases hc) hrun
                · exact s_op_round hi hw (.inr fun c hc => by rw [hoo] at hc; cases hc) hrun
            · cases h
        | invoke r m => rw [hoo] at hop; simp only at hop; simp [opOk] at hop
        | builtin b => rw [hoo] at hop; cases b <;> simp [opOk, bltOk] at hop
      | _ => rw [hoo] at hop; simp [opOk] at hop
    · -- a deferred call
      rename_i q args hio
      rw [hio] at hop
      split at h
      · cases h
      · rename_i hcond
        simp only [Bool.or_eq_true, not_or, Bool.not_eq_true] at hcond
        have hround : B.roundOf = none := by
          have := hrc.1
          rw [hcond.1] at this
          cases hb : B.roundOf with
          | none => rfl
          | some l => rw [hb] at this; cases this
        cases hoo : o.op with
        | defer c =>
          obtain ⟨callee, cargs, ts⟩ := c
          cases callee with
          | value cf =>
            rw [hoo] at hop
            simp only [Bool.and_eq_true] at hop
            obtain ⟨hq, hargs⟩ := hop
            have hrq := hev.rep _ _ hq
            have hra := hev.reps hargs
            split at h
            · rename_i qf qa qc hqv
              rw [hqv] at hrq
              have hrq' := hrq
              simp only [Rep] at hrq
              obtain ⟨fs, cps, hfun, _, _⟩ := hrq
              have e1 : cargs.map (rhoOf tm) = (cargs.toList.map (rhoOf tm)).toArray := by apply Array.ext'; simp
              have hrun : (execOp (rhoOf tm) o).run P w = .ok (.defer { target := .fn (.func (L.fnOf qf)) cps.toArray, args := fs.toArray ++ (cargs.toList.map (rhoOf tm)).toArray }) w := by
                simp only [execOp, hoo, resolve, hfun, Deferred.ofValue, Sem.run_bind, Sem.run_pure, Result.andThen_ok, e1]
              obtain ⟨rfl, h7, rfl, h6⟩ := putEnv he hN hd (undef_rep L.toLk g w) h
              subst h7
              refine ⟨g, w, putT tm io.dst undef, _, hs, .refl _ _ _, h6, by rw [putT_size]; exact hN, .call (.fn qf qa qc) _ _ _ _ _ _ _ (by rw [hfun] at hrq'; exact hrq') hra hdf, hrc, rfl, rfl, ?_⟩
              simp only [Came]
              rw [← hdst]
              exact .one (s_op_defer hi hw hround hrun)
            · cases h
          | invoke r m => rw [hoo] at hop; simp [opOk] at hop
          | builtin b => rw [hoo] at hop; simp [opOk] at hop
        | call c =>
          obtain ⟨callee, cargs, ts⟩ := c
          cases callee with
          | builtin b => rw [hoo] at hop; cases b <;> simp [opOk, bltOk] at hop
          | value cf => rw [hoo] at hop; simp [opOk] at hop
          | invoke r m => rw [hoo] at hop; simp [opOk] at hop
        | _ => rw [hoo] at hop; simp [opOk] at hop
    · -- a panic
      rename_i x hio
      rw [hio] at hop
      split at h
      · cases h
      · cases hoo : o.op with
        | panic y =>
          rw [hoo] at hop
          simp only at hop
          have hrx := hev.rep _ _ hop
          split at h
          · rename_i t v hv
            simp only [Option.some.injEq, Prod.mk.injEq] at h
            obtain ⟨rfl, rfl, rfl, rfl⟩ := h
            rw [hv] at hrx
            have hrx' := hrx
            simp only [Rep] at hrx
            obtain ⟨u, hρ, _⟩ := hrx
            refine ⟨g, w, tm, df, hs, .refl _ _ _, he, hN, hdf, hrc, rfl, rfl, ?_⟩
            simp only [Came]
            refine ⟨rhoOf tm y, (.inRegion cops (i :: rest) :: k), hrx', trivial, .one ?_⟩
            refine s_op_panic hi hw (.inr fun c hc => by rw [hoo] at hc; cases hc) ?_
            simp only [execOp, hoo, hρ, Instr.panic, Sem.run_bind, run_goPanic, Result.andThen_halt]
          · cases h
        | call c =>
          obtain ⟨callee, cargs, ts⟩ := c
          cases callee with
          | builtin b => rw [hoo] at hop; cases b <;> simp [opOk, bltOk] at hop
          | value cf => rw [hoo] at hop; simp [opOk] at hop
          | invoke r m => rw [hoo] at hop; simp [opOk] at hop
        | _ => rw [hoo] at hop; simp [opOk] at hop
    · -- recover
      rename_i hio
      rw [hio] at hop
      split at h
      · cases h
      · rename_i hcond
        simp only [Bool.or_eq_true, not_or, Bool.not_eq_true] at hcond
        have hround : B.roundOf = none := by
          have := hrc.1
          rw [hcond.1] at this
          cases hb : B.roundOf with
          | none => rfl
          | some l => rw [hb] at this; cases this
        cases hoo : o.op with
        | call c =>
          obtain ⟨callee, cargs, ts⟩ := c
          cases callee with
          | builtin b =>
            cases b <;> rw [hoo] at hop <;> first | (simp [opOk, bltOk] at hop; done) | skip
            have hrun : (execOp (rhoOf tm) o).run P w = .ok .recover w := by
              simp only [execOp, hoo, resolve, Sem.run_bind, Sem.run_pure, Result.andThen_ok, invoke, builtin]
            have hstep : ∀ {v : Value} {cs cs' : List Frame}, (match tryRecover (mkF B tm df (.inRegion cops (i :: rest) :: k)) cs with | some (x, q) => x = v ∧ q = cs' | none => v = .nilIface ∧ cs = cs') →
                step P (lone (mkF B tm df (.inRegion cops (i :: rest) :: k)) cs w) = .next (lone (mkF B (putT tm o.dst v) df (.inRegion cops rest :: k)) cs' w) := by
              intro v cs cs' hm
              rw [← finish_mkF hi]
              refine step_lone_go ?_
              rw [s_op hi hw (.inl hround)]
              have hro : (mkF B tm df (.inRegion cops (i :: rest) :: k)).roundOf = none := hround
              simp only [stepG.apply, Sem.runT_eq, hrun, if_true, GStep.bare_after, hro]
              cases ht : tryRecover (mkF B tm df (.inRegion cops (i :: rest) :: k)) cs with
              | none => rw [ht] at hm; obtain ⟨rfl, rfl⟩ := hm; rfl
              | some q => obtain ⟨x, q⟩ := q; rw [ht] at hm; obtain ⟨rfl, rfl⟩ := hm; rfl
            obtain ⟨hr1, hr2, hr3⟩ := hrc
            split at h
            · rename_i v hv
              cases hrd : f.recd with
              | true => rw [hv, hrd] at hr3; exact hr3.elim
              | false =>
                rw [hv, hrd] at hr3
                obtain ⟨hk, c, r, pv, rfl, hcm, hrv⟩ := hr3
                obtain ⟨rfl, h7, rfl, h6⟩ := putEnv he hN hd hrv h
                subst h7
                refine ⟨g, w, putT tm io.dst pv, df, hs, .refl _ _ _, h6, by rw [putT_size]; exact hN, hdf, ⟨hr1, hr2, hk, c, r, pv, rfl, hcm⟩, rfl, rfl, ?_⟩
                simp only [Came]
                rw [← hdst]
                refine .one (hstep ?_)
                have hk' : (mkF B tm df (.inRegion cops (i :: rest) :: k)).kind = .deferred := hk
                simp only [csAt, tryRecover, hk', hcm]
                exact ⟨trivial, trivial⟩
            · rename_i hv
              obtain ⟨rfl, rfl, rfl, h6⟩ := putEnv (cv := .nilIface) (v := .nilif) he hN hd (by simp [Rep]) h
              refine ⟨g, w, putT tm io.dst .nilIface, df, hs, .refl _ _ _, h6, by rw [putT_size]; exact hN, hdf, ⟨hr1, hr2, hr3⟩, rfl, rfl, ?_⟩
              simp only [Came]
              rw [← hdst]
              refine .one (hstep ?_)
              have hnone : tryRecover (mkF B tm df (.inRegion cops (i :: rest) :: k)) (csAt f'.recd cs0) = none := by
                cases hrd : f'.recd with
                | false =>
                  rw [hv, hrd] at hr3
                  rcases hr3 with h8 | h8 | ⟨h8, c, r, rfl, h9⟩
                  · rw [hcond.1] at h8; cases h8
                  · have h8' : (mkF B tm df (.inRegion cops (i :: rest) :: k)).kind = .normal := h8
                    simp [tryRecover, h8']
                  · have h8' : (mkF B tm df (.inRegion cops (i :: rest) :: k)).kind = .deferred := h8
                    simp [tryRecover, h8', csAt, h9]
                | true =>
                  rw [hv, hrd] at hr3
                  obtain ⟨h8, c, r, pv, rfl, h9⟩ := hr3
                  have h8' : (mkF B tm df (.inRegion cops (i :: rest) :: k)).kind = .deferred := h8
                  simp [tryRecover, h8', csAt, h9]
              rw [hnone]
              exact ⟨rfl, rfl⟩
          | value cf => rw [hoo] at hop; simp [opOk] at hop
          | invoke r m => rw [hoo] at hop; simp [opOk] at hop
        | _ => rw [hoo] at hop; simp [opOk] at hop
    · -- the others
      rename_i hn1 hn2 hn3 hn4
      split at h
      · rename_i v s2 hv
        have hv := keepSt_some hv
        have hok : opOk P L o.op io.op = true := by
          split at hop
          · exact absurd ‹_› (hn1 _ _)
          · exact absurd ‹_› hn4
          · exact absurd ‹_› (hn2 _ _)
          · exact absurd ‹_› (hn3 _)
          · exact hop
        refine plain v s2 hv hok (fun c hc => ?_) h
        rw [hc] at hok
        cases hio : io.op <;> rw [hio] at hok <;> simp [opOk, stuckOp] at hok
      · cases h
end
end Ab

/- Environments; the operations of a region in a given order. Its condition: calls do what the abstract run says. -/
namespace Ab
open Go

theorem Env.get_put (e : Env) (i j : Nat) (v : AV) : (e.put i v).get j = if j = i then v else e.get j := by
  induction e with
  | nil => simp [Env.put, Env.get]
  | cons p r ih =>
    obtain ⟨k, u⟩ := p
    simp only [Env.put]
    by_cases h1 : i = k
    · subst h1
      rw [if_pos rfl]
      simp only [Env.get]
      by_cases h2 : j = i
      · rw [if_pos h2, if_pos h2]
      · rw [if_neg h2, if_neg h2, if_neg h2]
    · rw [if_neg h1]
      by_cases h3 : i < k
      · rw [if_pos h3]; simp only [Env.get]
      · rw [if_neg h3]
        simp only [Env.get, ih]
        by_cases h2 : j = k
        · rw [if_pos h2, if_pos h2, if_neg (by omega)]
        · rw [if_neg h2, if_neg h2]

theorem Env.get_kill (e : Env) (ks : List Nat) (j : Nat) : (e.kill ks).get j = if ks.contains j then .junk else e.get j := by
  induction e with
  | nil => simp [Env.kill, Env.get]
  | cons p r ih =>
    obtain ⟨k, u⟩ := p
    simp only [Env.kill]
    by_cases h1 : ks.contains k = true
    · rw [if_pos h1, ih]
      by_cases h2 : j = k
      · subst h2; rw [if_pos h1, if_pos h1]
      · simp only [Env.get, if_neg h2]
    · rw [if_neg h1]
      simp only [Env.get, ih]
      by_cases h2 : j = k
      · subst h2; rw [if_pos rfl, if_pos rfl, if_neg h1]
      · rw [if_neg h2, if_neg h2]

theorem keepA_get (loc : Env) (j : Nat) : ∀ (ks : List Nat) (e : Env), (keepA loc ks e).get j = if ks.contains j then loc.get j else e.get j
  | [], e => by simp [keepA]
  | k :: r, e => by
    simp only [keepA, keepA_get loc j r, Env.get_put]
    by_cases h1 : r.contains j = true
    · have : (k :: r).contains j = true := by simp at h1 ⊢; exact .inr h1
      rw [if_pos h1, if_pos this]
    · rw [if_neg h1]
      by_cases h2 : j = k
      · subst h2
        have : (j :: r).contains j = true := by simp
        rw [if_pos rfl, if_pos this]
      · have : ¬ (k :: r).contains j = true := by simp at h1 ⊢; exact ⟨h2, h1⟩
        rw [if_neg h2, if_neg this]

theorem EnvD.put {vars : List Nat} {e : Env} (h : EnvD vars e) {i : Nat} (hi : vars.contains i = true) (v : AV) : EnvD vars (e.put i v) := by
  induction e with
  | nil => intro p hp; simp [Env.put] at hp; subst hp; exact hi
  | cons q r ih =>
    obtain ⟨k, u⟩ := q
    have hr : EnvD vars r := fun p hp => h p (List.mem_cons_of_mem _ hp)
    simp only [Env.put]
    split
    · intro p hp
      rcases List.mem_cons.1 hp with rfl | hp
      · exact hi
      · exact hr p hp
    · split
      · intro p hp
        rcases List.mem_cons.1 hp with rfl | hp
        · exact hi
        · exact h p hp
      · intro p hp
        rcases List.mem_cons.1 hp with rfl | hp
        · exact h _ (List.mem_cons_self ..)
        · exact ih hr p hp

theorem EnvD.kill {vars : List Nat} {e : Env} (h : EnvD vars e) (ks : List Nat) : EnvD vars (e.kill ks) := by
  induction e with
  | nil => simpa [Env.kill] using h
  | cons q r ih =>
    obtain ⟨k, u⟩ := q
    have hr : EnvD vars r := fun p hp => h p (List.mem_cons_of_mem _ hp)
    simp only [Env.kill]
    split
    · exact ih hr
    · intro p hp
      rcases List.mem_cons.1 hp with rfl | hp
      · exact h _ (List.mem_cons_self ..)
      · exact ih hr p hp

theorem EnvD.keep {vars : List Nat} {loc : Env} : ∀ {ks : List Nat} {e : Env}, EnvD vars e → ks.all (vars.contains ·) = true → EnvD vars (keepA loc ks e)
  | [], _, h, _ => h
  | k :: r, e, h, hk => by
    simp only [List.all_cons, Bool.and_eq_true] at hk
    show EnvD vars (keepA loc r (e.put k (loc.get k)))
    exact EnvD.keep (h.put hk.1 _) hk.2

theorem EnvD.get_junk {vars : List Nat} {e : Env} (h : EnvD vars e) {i : Nat} (hi : vars.contains i = false) : e.get i = .junk := by
  induction e with
  | nil => rfl
  | cons q r ih =>
    obtain ⟨k, u⟩ := q
    simp only [Env.get]
    have hk := h (k, u) (List.mem_cons_self ..)
    rw [if_neg (by rintro rfl; rw [hi] at hk; cases hk)]
    exact ih fun p hp => h p (List.mem_cons_of_mem _ hp)

theorem EnvR.kill {L : Lk} {g : Gh} {w : World} {e : Env} {tm : Array Value} (h : EnvR L g w e tm) (ks : List Nat) : EnvR L g w (e.kill ks) tm := by
  intro i
  rw [Env.get_kill]
  split
  · simp [Rep]
  · exact h i

/- slots that no operation sets -/
theorem finO_get {o : IOper} {v : AV} {f : Fr} {e : Env} {s : St} {p : Option AV} {f' : Fr} {e' : Env} {s' : St} (h : finO o v f e s = some (p, f', e', s')) {i : Nat} (hi : o.dst ≠ some i) : e'.get i = e.get i := by
  unfold finO at h
  split at h
  · rename_i d hd
    simp only [Option.some.injEq, Prod.mk.injEq] at h
    obtain ⟨_, _, rfl, _⟩ := h
    simp only [Env.get]
    rw [if_neg]
    rintro rfl; exact hi hd
  · simp only [Option.some.injEq, Prod.mk.injEq] at h
    obtain ⟨_, _, rfl, _⟩ := h
    rfl

theorem stepA_get {E : IEnv} {call : Caller} {draw : Bool} {o : IOper} {f : Fr} {e : Env} {s : St} {p : Option AV} {f' : Fr} {e' : Env} {s' : St} (h : stepA E call draw o f e s = some (p, f', e', s')) {i : Nat} (hi : o.dst ≠ some i) : e'.get i = e.get i := by
  unfold stepA at h
  split at h
  · cases h
  · exact finO_get h hi
  · unfold runO at h
    split at h
    · split at h
      · cases h
      · split at h
        · cases h
        split at h
        · split at h
          · exact finO_get h hi
          · cases h
        · split at h
          · cases h
          · simp only [Option.some.injEq, Prod.mk.injEq] at h
            obtain ⟨_, _, rfl, _⟩ := h; rfl
        · cases h
    · split at h
      · cases h
      · split at h
        · exact finO_get h hi
        · cases h
    · split at h
      · cases h
      · split at h
        · simp only [Option.some.injEq, Prod.mk.injEq] at h
          obtain ⟨_, _, rfl, _⟩ := h; rfl
        · cases h
    · split at h
      · cases h
      · split at h
        · exact finO_get h hi
        · exact finO_get h hi
    · split at h
      · exact finO_get h hi
      · cases h

theorem opsA_get {E : IEnv} {call : Caller} {draw : Bool} : ∀ {os : List IOper} {f : Fr} {e : Env} {s : St} {p : Option AV} {f' : Fr} {e' : Env} {s' : St} (_ : opsA E call draw os f e s = some (p, f', e', s')) {i : Nat} (_ : ∀ o ∈ os, o.dst ≠ some i), e'.get i = e.get i
  | [], f, e, s, p, f', e', s', h, i, hi => by
    simp only [opsA, Option.some.injEq, Prod.mk.injEq] at h
    obtain ⟨_, _, rfl, _⟩ := h; rfl
  | o :: r, f, e, s, p, f', e', s', h, i, hi => by
    simp only [opsA] at h
    split at h
    · rename_i f1 e1 s1 h1
      exact (opsA_get h fun o ho => hi o (List.mem_cons_of_mem _ ho)).trans (stepA_get h1 (hi o (List.mem_cons_self ..)))
    · exact stepA_get h (hi o (List.mem_cons_self ..))

def Paired (P : Program) (L : Link) (N : Nat) (cops : Array Oper) : List Nat → List IOper → Prop
  | [], [] => True
  | i :: is, io :: os => (∃ o, cops[i]? = some o ∧ ckOper P L N cops o io = true) ∧ Paired P L N cops is os
  | _, _ => False

section
variable {P : Program} {L : Link} {E : IEnv} {call : Caller}

theorem Came.head {M M' : Machine} {B : Frame} {tm : Array Value} {df : List Deferred} {todo : List Item} {cs : List Frame} {g : Gh} {w : World} {p : Option AV} (h : Steps P M M') (h' : Came P L M' B tm df todo cs g w p) : Came P L M B tm df todo cs g w p := by
  cases p with
  | none => exact h.trans h'
  | some v => obtain ⟨cv, td, h1, h0, h2⟩ := h'; exact ⟨cv, td, h1, h0, h.trans h2⟩

theorem ops_sound (hinj : ∀ a b, L.tyOf a = L.tyOf b → a = b) (hcall : CallSim P L E call) {draw : Bool} {cops : Array Oper} {N : Nat} {lo : Nat} : ∀ {is : List Nat} {os : List IOper} (_ : Paired P L N cops is os) {f f' : Fr} {e e' : Env} {s s' : St} {p : Option AV}
    (_ : opsA E call draw os f e s = some (p, f', e', s')) {g : Gh} {w : World} (_ : StR L.toLk (CkR P L) g s w) (_ : GlR L E g w) {tm : Array Value} {df : List Deferred} (_ : EnvR L.toLk g w e tm) (_ : N ≤ tm.size) (_ : DRel L.toLk g w lo f.defers df)
    {B : Frame} {cs0 : List Frame} (_ : RcvR L.toLk g w f B cs0) (k : List Item),
    ∃ g' w' tm' df', StR L.toLk (CkR P L) g' s' w' ∧ Ext g s w g' s' w' ∧ EnvR L.toLk g' w' e' tm' ∧ N ≤ tm'.size ∧ DRel L.toLk g' w' lo f'.defers df' ∧ RcvR L.toLk g' w' f' B cs0 ∧ f'.rnd = f.rnd ∧ f'.env = f.env ∧
      Came P L (lone (mkF B tm df (.inRegion cops is :: k)) (csAt f.recd cs0) w) B tm' df' k (csAt f'.recd cs0) g' w' p
  | [], [], _, f, f', e, e', s, s', p, h, g, w, hs, hgl, tm, df, he, hN, hdf, B, cs0, hrc, k => by
    simp only [opsA, Option.some.injEq, Prod.mk.injEq] at h
    obtain ⟨rfl, rfl, rfl, rfl⟩ := h
    exact ⟨g, w, tm, df, hs, .refl _ _ _, he, hN, hdf, hrc, rfl, rfl, .one s_region_end⟩
  | [], _ :: _, hp, _, _, _, _, _, _, _, _, _, _, _, _, _, _, _, _, _, _, _, _, _ => hp.elim
  | _ :: _, [], hp, _, _, _, _, _, _, _, _, _, _, _, _, _, _, _, _, _, _, _, _, _ => hp.elim
  | i :: is, io :: os, hp, f, f', e, e', s, s', p, h, g, w, hs, hgl, tm, df, he, hN, hdf, B, cs0, hrc, k => by
    obtain ⟨⟨o, hi, hck⟩, hp'⟩ := hp
    simp only [opsA] at h
    split at h
    · rename_i f1 e1 s1 h1
      obtain ⟨g1, w1, tm1, df1, a1, a2, a3, a4, a5, a6, a7, a8, a9⟩ := step_sound hinj hcall hck h1 hs hgl he hN hdf hrc hi is k
      obtain ⟨g2, w2, tm2, df2, b1, b2, b3, b4, b5, b6, b7, b8, b9⟩ := ops_sound hinj hcall hp' h a1 (hgl.ext a2) a3 a4 a5 a6 k
      exact ⟨g2, w2, tm2, df2, b1, a2.trans b2, b3, b4, b5, b6, b7.trans a7, b8.trans a8, Came.head a9 b9⟩
    · rename_i hne
      cases p with
      | none => exact absurd h (hne _ _ _)
      | some v =>
        obtain ⟨g1, w1, tm1, df1, a1, a2, a3, a4, a5, a6, a7, a8, a9⟩ := step_sound hinj hcall hck h hs hgl he hN hdf hrc hi is k
        refine ⟨g1, w1, tm1, df1, a1, a2, a3, a4, a5, a6, a7, a8, ?_⟩
        obtain ⟨cv, td, h1, h0, h2⟩ := a9
        exact ⟨cv, td, h1, h0, h2⟩

theorem paired_of_ck {N : Nat} {cops : Array Oper} : ∀ {os : List Oper} {ios : List IOper} (n : Nat), ckOpers P L N cops os ios = true → os = cops.toList.drop n → Paired P L N cops (List.range' n os.length) ios
  | [], [], _, _, _ => trivial
  | [], _ :: _, _, h, _ => by simp [ckOpers] at h
  | _ :: _, [], _, h, _ => by simp [ckOpers] at h
  | o :: os, io :: ios, n, h, hd => by
    simp only [ckOpers, Bool.and_eq_true] at h
    simp only [List.length_cons, List.range'_succ, Paired]
    refine ⟨⟨o, ?_, h.1⟩, paired_of_ck (n + 1) h.2 ?_⟩
    · have : (cops.toList.drop n)[0]? = some o := by rw [← hd]; rfl
      rw [List.getElem?_drop] at this
      simpa using this
    · have : (cops.toList.drop n).drop 1 = os := by rw [← hd]; rfl
      rw [List.drop_drop] at this
      exact this.symm
end
end Ab

/- Regions whose order is drawn: each order that the machine may take comes to what the text's order comes to. Its condition: calm calls leave the blocks as they are. -/
namespace Ab
open Go

def EnvEq (e e' : Env) : Prop := ∀ i, e.get i = e'.get i
def bindE (d : Option Nat) (v : AV) (e : Env) : Env := match d with | some d => (d, v) :: e | none => e

section
variable {E : IEnv} {e e' : Env}

theorem Opd.ev_congr : ∀ {x : Opd}, (∀ i ∈ x.slots, e.get i = e'.get i) → x.ev E e = x.ev E e'
  | .t n, h => h n (by simp [Opd.slots])
  | .c _, _ => rfl
  | .g _, _ => rfl

theorem Opd.ev_all (h : EnvEq e e') : Opd.ev E e = Opd.ev E e' := by funext x; exact Opd.ev_congr fun i _ => h i

theorem evs_congr : ∀ {xs : List Opd}, (∀ i ∈ odsSlots xs, e.get i = e'.get i) → xs.map (Opd.ev E e) = xs.map (Opd.ev E e')
  | [], _ => rfl
  | x :: r, h => by
    simp only [List.map_cons]
    rw [Opd.ev_congr (x := x) fun i hi => h i (by simp [odsSlots, hi]), evs_congr (xs := r) fun i hi => h i (by simp [odsSlots, hi])]

theorem opt_congr {x : Option Opd} (h : ∀ i ∈ optSlots x, e.get i = e'.get i) : x.map (Opd.ev E e) = x.map (Opd.ev E e') := by
  cases x with
  | none => rfl
  | some x => simp only [Option.map_some]; rw [Opd.ev_congr h]

theorem build_congr : ∀ {ps : List (Nat × Nat × Opd)}, (∀ i ∈ odsSlots (ps.map fun p => p.2.2), e.get i = e'.get i) →
    ps.map (fun (o, n, x) => (o, n, Opd.ev E e x)) = ps.map (fun (o, n, x) => (o, n, Opd.ev E e' x))
  | [], _ => rfl
  | (o, n, x) :: r, h => by
    simp only [List.map_cons]
    rw [Opd.ev_congr (x := x) fun i hi => h i (by simp [odsSlots, hi]), build_congr (ps := r) fun i hi => h i (by simp only [List.map_cons, odsSlots]; exact List.mem_append_right _ hi)]

theorem bslice_congr : ∀ {ps : List (Nat × Opd)}, (∀ i ∈ odsSlots (ps.map fun p => p.2), e.get i = e'.get i) →
    ps.map (fun (i, x) => (i, (Opd.ev E e x).untok)) = ps.map (fun (i, x) => (i, (Opd.ev E e' x).untok))
  | [], _ => rfl
  | (n, x) :: r, h => by
    simp only [List.map_cons]
    rw [Opd.ev_congr (x := x) fun i hi => h i (by simp [odsSlots, hi]), bslice_congr (ps := r) fun i hi => h i (by simp only [List.map_cons, odsSlots]; exact List.mem_append_right _ hi)]

theorem opA_congr (io : IOp) (h : ∀ i ∈ io.slots, e.get i = e'.get i) (s : St) : opA (Opd.ev E e) s io = opA (Opd.ev E e') s io := by
  have key : ∀ x : Opd, (∀ i, i ∈ x.slots → i ∈ io.slots) → Opd.ev E e x = Opd.ev E e' x := fun x hx => Opd.ev_congr fun i hi => h i (hx i hi)
  have keyL : ∀ xs : List Opd, (∀ i, i ∈ odsSlots xs → i ∈ io.slots) → xs.map (Opd.ev E e) = xs.map (Opd.ev E e') := fun x hx => evs_congr fun i hi => h i (hx i hi)
  have keyO : ∀ x : Option Opd, (∀ i, i ∈ optSlots x → i ∈ io.slots) → x.map (Opd.ev E e) = x.map (Opd.ev E e') := fun x hx => opt_congr fun i hi => h i (hx i hi)
  cases io with
  | mov x | box _ x | load _ _ x | nilchk x | un _ x | conv _ x | mkif _ x | faddr _ x | field _ _ _ x | ranges x | nexts x | tassert _ _ _ x | ext x _ | len _ x | cap x =>
    simp only [opA, key x (fun i hi => hi)]
  | pick a b c => simp only [opA, key a (fun i hi => by simp [IOp.slots, hi]), key b (fun i hi => by simp [IOp.slots, hi]), key c (fun i hi => by simp [IOp.slots, hi])]
  | store _ a b | bin _ _ a b | iaddr _ a b | aaddr _ _ a b | index a b | aindex _ _ _ a b | lookup _ _ a b _ | app _ a b | appz _ a b | appm _ a b | mkms _ _ a b | del _ a b =>
    simp only [opA, key a (fun i hi => by simp [IOp.slots, hi]), key b (fun i hi => by simp [IOp.slots, hi])]
  | mapset _ a b c => simp only [opA, key a (fun i hi => by simp [IOp.slots, hi]), key b (fun i hi => by simp [IOp.slots, hi]), key c (fun i hi => by simp [IOp.slots, hi])]
  | build z ps => simp only [opA]; rw [build_congr h]
  | bslice sz z len ps => simp only [opA]; rw [bslice_congr h]
  | mkfn f a b => simp only [opA]; rw [keyL a (fun i hi => by simp [IOp.slots, hi]), keyL b (fun i hi => by simp [IOp.slots, hi])]
  | slice sz a b c d => simp only [opA]; rw [key a (fun i hi => by simp [IOp.slots, hi]), keyO b (fun i hi => by simp [IOp.slots, hi]), keyO c (fun i hi => by simp [IOp.slots, hi]), keyO d (fun i hi => by simp [IOp.slots, hi])]
  | mm m xs => simp only [opA]; rw [keyL xs (fun i hi => hi)]
  | alloc _ | mkmap | recover | panic _ | mkslice _ _ _ _ _ | call _ _ | defer _ _ => rfl

theorem opA_quiet {ev : Opd → AV} {io : IOp} (hq : io.quiet = true) (s s0 : St) : opA ev s io = valStep ((opA ev s0 io).map (·.1)) s := by
  cases io <;> simp only [IOp.quiet] at hq <;> (try cases hq) <;> simp only [opA] <;> (try rfl) <;> repeat' split
  all_goals first
    | rfl
    | (simp_all [valStep]; done)
    | (simp only [valStep]; repeat' split) <;> simp_all
end

section
variable {E : IEnv} {call : Caller}

def outA (E : IEnv) (call : Caller) (o : IOper) (e : Env) (s : St) : Option (AV × St) :=
  match goA E o e with
  | none => none
  | some false => some (.tup [], s)
  | some true => match o.op with
    | .call g args => if o.mp && !calm E (g.ev E e) then none else if o.pl && !plainCall (g.ev E e) (args.map (Opd.ev E e)) then none else
      match call none (g.ev E e) (args.map (Opd.ev E e)) s with
      | some (.ret v, _, s') => if chkOk (Opd.ev E e) s s' o.chk then some (v, s') else none
      | _ => none
    | .defer _ _ | .panic _ | .recover => none
    | op => keepSt (Opd.ev E e) s o (opA (Opd.ev E e) s op)

theorem finO_eq (o : IOper) (v : AV) (f : Fr) (e : Env) (s : St) : finO o v f e s = some (none, f, bindE o.dst v e, s) := by
  unfold finO bindE
  split <;> rename_i h <;> simp [h]

theorem stepA_draw (o : IOper) (f : Fr) (e : Env) (s : St) :
    stepA E call true o f e s = (match outA E call o e s with | some (v, s') => some (none, f, bindE o.dst v e, s') | none => none) := by
  unfold stepA outA
  cases goA E o e with
  | none => rfl
  | some b =>
    cases b with
    | false => simp only [finO_eq]
    | true =>
      simp only [runO]
      cases o.op with
      | call g args =>
        simp only
        split
        · rfl
        · split
          · rfl
          cases call none (g.ev E e) (args.map (Opd.ev E e)) s with
          | none => rfl
          | some q =>
            obtain ⟨r, b, s'⟩ := q
            cases r with
            | ret v => simp only; split <;> simp only [finO_eq]
            | pan v => rfl
      | defer g args => simp
      | panic x => simp
      | recover => simp
      | _ =>
        simp only [finO_eq]
        generalize keepSt _ _ _ _ = q
        cases q <;> rfl

def outsA (E : IEnv) (call : Caller) : List IOper → Env → St → Option (Env × St)
  | [], e, s => some (e, s)
  | o :: r, e, s => match outA E call o e s with
    | some (v, s') => outsA E call r (bindE o.dst v e) s'
    | none => none

theorem opsA_draw : ∀ (os : List IOper) (f : Fr) (e : Env) (s : St),
    opsA E call true os f e s = (match outsA E call os e s with | some (e', s') => some (none, f, e', s') | none => none)
  | [], _, _, _ => rfl
  | o :: r, f, e, s => by
    simp only [opsA, outsA, stepA_draw]
    cases outA E call o e s with
    | none => rfl
    | some q => obtain ⟨v, s'⟩ := q; simp only [opsA_draw r]

theorem outA_congr {o : IOper} {e e' : Env} (h : ∀ i ∈ o.reads, e.get i = e'.get i) (s : St) : outA E call o e s = outA E call o e' s := by
  have hg : guardA o.guard e = guardA o.guard e' := by
    unfold guardA
    cases hg : o.guard with
    | none => rfl
    | some p => obtain ⟨i, b⟩ := p; simp only; rw [h i (by simp [IOper.reads, hg])]
  have hop : ∀ i ∈ o.op.slots, e.get i = e'.get i := fun i hi => h i (by simp [IOper.reads, hi])
  have hch : ∀ (cs : List IChk) (s s' : St), (∀ i ∈ (cs.flatMap fun c => c.a.slots), e.get i = e'.get i) → chkOk (Opd.ev E e) s s' cs = chkOk (Opd.ev E e') s s' cs := by
    intro cs s s'
    induction cs with
    | nil => intro _; rfl
    | cons c r ih =>
      intro hc
      simp only [chkOk, IChk.addr]
      rw [Opd.ev_congr (x := c.a) fun i hi => hc i (by simp [hi]), ih fun i hi => hc i (by rw [List.flatMap_cons]; exact List.mem_append_right _ hi)]
  have hch' := fun s s' => hch o.chk s s' fun i hi => h i (by simp only [IOper.reads]; exact List.mem_append_right _ hi)
  have hpin : pinOk (Opd.ev E e) o = pinOk (Opd.ev E e') o := by
    unfold pinOk
    cases ho : o.op with
    | load agg n a =>
      rw [ho] at hop
      simp only
      rw [Opd.ev_congr (x := a) fun i hi => hop i hi]
      have : ∀ cs : List IChk, (∀ i ∈ (cs.flatMap fun c => c.a.slots), e.get i = e'.get i) → (cs.all fun c => c.agg == agg && c.n == n && c.addr (Opd.ev E e) == Opd.ev E e' a) = (cs.all fun c => c.agg == agg && c.n == n && c.addr (Opd.ev E e') == Opd.ev E e' a) := by
        intro cs
        induction cs with
        | nil => intro _; rfl
        | cons c r ih =>
          intro hc
          simp only [List.all_cons, IChk.addr]
          simp only [IChk.addr] at ih
          rw [Opd.ev_congr (x := c.a) fun i hi => hc i (by simp [hi]), ih fun i hi => hc i (by rw [List.flatMap_cons]; exact List.mem_append_right _ hi)]
      exact this o.chk fun i hi => h i (by simp only [IOper.reads]; exact List.mem_append_right _ hi)
    | _ => rfl
  have hgo : goA E o e = goA E o e' := by unfold goA; rw [hg, hpin]
  have hst : ∀ s q, keepSt (Opd.ev E e) s o q = keepSt (Opd.ev E e') s o q := fun s q => by
    unfold keepSt
    split
    · cases q with
      | none => rfl
      | some y => simp only [chkSt, hch']
    · rfl
  unfold outA
  rw [hgo]
  cases goA E o e' with
  | none => rfl
  | some b =>
    cases b with
    | false => rfl
    | true =>
      simp only
      cases ho : o.op with
      | call g args =>
        rw [ho] at hop
        simp only [IOp.slots, List.mem_append] at hop
        simp only
        rw [Opd.ev_congr (x := g) fun i hi => hop i (.inl hi), evs_congr (xs := args) fun i hi => hop i (.inr hi)]
        simp only [hch']
      | defer _ _ | panic _ | recover => rfl
      | _ => simp only; rw [ho] at hop; rw [opA_congr _ hop s, hst]

theorem outA_env {o : IOper} {e e' : Env} (h : EnvEq e e') (s : St) : outA E call o e s = outA E call o e' s := outA_congr (fun i _ => h i) s

theorem EnvEq.bind {e e' : Env} (h : EnvEq e e') (d : Option Nat) (v : AV) : EnvEq (bindE d v e) (bindE d v e') := by
  intro i
  cases d with
  | none => exact h i
  | some d => simp only [bindE, Env.get, h i]

theorem outsA_env : ∀ {os : List IOper} {e e' : Env} {s : St} {e1 : Env} {s1 : St}, EnvEq e e' → outsA E call os e s = some (e1, s1) → ∃ e1', outsA E call os e' s = some (e1', s1) ∧ EnvEq e1 e1'
  | [], e, e', s, e1, s1, h, ho => by
    simp only [outsA, Option.some.injEq, Prod.mk.injEq] at ho ⊢
    obtain ⟨rfl, rfl⟩ := ho
    exact ⟨e', ⟨rfl, rfl⟩, h⟩
  | o :: r, e, e', s, e1, s1, h, ho => by
    simp only [outsA] at ho ⊢
    rw [outA_env h] at ho
    cases hq : outA E call o e' s with
    | none => rw [hq] at ho; cases ho
    | some q =>
      obtain ⟨v, s'⟩ := q
      rw [hq] at ho
      exact outsA_env (h.bind o.dst v) ho

/- calm calls leave the state as it is -/
def CalmOk (E : IEnv) (call : Caller) : Prop := (∀ tgt args s v rd s', calm E tgt = true → call none tgt args s = some (.ret v, rd, s') → s' = s) ∧
  ∀ tgt args s v rd s', calm E tgt = true → plainCall tgt args = true → call none tgt args s = some (.ret v, rd, s') → ∀ s2, call none tgt args s2 = some (.ret v, rd, s2)

theorem outA_quiet {o : IOper} (hq : o.op.quiet = true) {e : Env} {s s1 : St} {v : AV} (h : outA E call o e s = some (v, s1)) : s1 = s ∧ ∀ s', outA E call o e s' = some (v, s') := by
  unfold outA at h ⊢
  split at h
  · cases h
  · cases h; exact ⟨rfl, fun _ => rfl⟩
  · cases ho : o.op <;> rw [ho] at hq <;> have hq2 := hq <;> (try cases hq2) <;> simp only [ho, keepSt] at h ⊢ <;>
      first
      | (rw [opA_quiet hq s s] at h
         simp only [valStep] at h
         split at h
         · rename_i u hu
           cases h
           refine ⟨rfl, fun s' => ?_⟩
           rw [opA_quiet hq s' s, hu]; rfl
         · cases h)

theorem chkOk_self (ev : Opd → AV) (s : St) : ∀ cs : List IChk, chkOk ev s s cs = true
  | [] => rfl
  | c :: r => by simp only [chkOk, chkOk_self ev s r, beq_self_eq_true, Bool.and_self]

theorem outA_free (hc : CalmOk E call) {o : IOper} (hq : o.free = true) {e : Env} {s s1 : St} {v : AV} (h : outA E call o e s = some (v, s1)) : s1 = s ∧ ∀ s', outA E call o e s' = some (v, s') := by
  unfold IOper.free at hq
  simp only [Bool.or_eq_true, Bool.and_eq_true] at hq
  rcases hq with hq | ⟨hq, hp⟩
  · exact outA_quiet hq h
  · unfold outA at h ⊢
    split at h
    · cases h
    · cases h; exact ⟨rfl, fun _ => rfl⟩
    · cases ho : o.op with
      | call g args =>
        simp only [ho] at h ⊢
        split at h
        · cases h
        · rename_i h1
          simp only [if_neg h1]
          split at h
          · cases h
          · rename_i h2
            simp only [if_neg h2]
            have hmp : o.mp = true := by unfold IOper.pl at hp; simp only [Bool.and_eq_true] at hp; exact hp.1
            simp only [hmp, Bool.true_and, Bool.not_eq_true', Bool.not_eq_false] at h1
            simp only [hp, Bool.true_and, Bool.not_eq_true', Bool.not_eq_false] at h2
            split at h
            · rename_i v' rd s2 hcall
              split at h
              · cases h
                have e1 := hc.1 _ _ _ _ _ _ h1 hcall
                refine ⟨e1, fun s' => ?_⟩
                rw [hc.2 _ _ _ _ _ _ h1 h2 hcall s']
                simp only [chkOk_self, if_true]
              · cases h
            · cases h
      | _ => rw [ho] at hq; cases hq

theorem goA_pin {o : IOper} {e : Env} (h : goA E o e = some true) : pinOk (Opd.ev E e) o = true := by
  unfold goA at h
  split at h
  · split at h
    · assumption
    · cases h
  · rename_i hx; exact absurd h hx

theorem outA_load {o : IOper} (hq : o.op.isLoad = true) {e : Env} {s s1 : St} {v : AV} (h : outA E call o e s = some (v, s1)) :
    s1 = s ∧ ∀ s', (∀ agg n a, o.op = .load agg n a → pinOk (Opd.ev E e) o = true → loadA s' agg n (a.ev E e) = loadA s agg n (a.ev E e)) → outA E call o e s' = some (v, s') := by
  unfold outA at h ⊢
  split at h
  · cases h
  · cases h; exact ⟨rfl, fun _ _ => rfl⟩
  · rename_i hgo
    have hpin := goA_pin hgo
    cases ho : o.op with
    | load agg n a =>
      simp only [ho, keepSt, opA] at h ⊢
      simp only [valStep] at h ⊢
      split at h
      · rename_i u hu
        cases h
        refine ⟨rfl, fun s' hl => ?_⟩
        rw [hl agg n a rfl hpin, hu]
      · cases h
    | _ => rw [ho] at hq; cases hq

theorem chkOk_mem {ev : Opd → AV} {s s' : St} : ∀ {cs : List IChk} {c : IChk}, chkOk ev s s' cs = true → c ∈ cs → loadA s c.agg c.n (c.addr ev) = loadA s' c.agg c.n (c.addr ev)
  | [], _, _, h => by cases h
  | d :: r, c, h, hm => by
    simp only [chkOk, Bool.and_eq_true, beq_iff_eq] at h
    rcases List.mem_cons.1 hm with rfl | hm
    · exact h.1
    · exact chkOk_mem h.2 hm

theorem outA_call {o l : IOper} (hp : passes o l = true) (hcl : (o.op.isCall || o.op.isStore) = true) {e : Env} {s s1 : St} {v : AV} (h : outA E call o e s = some (v, s1)) :
    ∀ agg n a, l.op = .load agg n a → pinOk (Opd.ev E e) l = true → loadA s1 agg n (a.ev E e) = loadA s agg n (a.ev E e) := by
  intro agg n a hl hpin
  have key : ∀ {s s1 : St}, chkOk (Opd.ev E e) s s1 o.chk = true → loadA s1 agg n (a.ev E e) = loadA s agg n (a.ev E e) := by
    intro s s1 hch
    simp only [passes, hl, Bool.or_eq_true, List.any_eq_true, List.contains_iff_mem] at hp
    rcases hp with hp | ⟨x, hx, hp⟩
    · exact (chkOk_mem hch hp).symm
    · simp only [pinOk, hl, List.all_eq_true, Bool.and_eq_true, beq_iff_eq] at hpin
      obtain ⟨⟨h1, h2⟩, h3⟩ := hpin x hx
      have := (chkOk_mem hch hp).symm
      rw [h1, h2, h3] at this
      exact this
  unfold outA at h
  split at h
  · cases h
  · cases h; rfl
  · cases ho : o.op with
    | call g args =>
      simp only [ho] at h
      split at h
      · cases h
      · split at h
        · cases h
        split at h
        · rename_i v' rd s2 hcall
          split at h
          · rename_i hch
            cases h
            exact key hch
          · cases h
        · cases h
    | store n' a' v' =>
      simp only [ho, keepSt] at h
      generalize opA _ _ _ = q at h
      cases q with
      | none => cases h
      | some y =>
        simp only [chkSt] at h
        split at h
        · rename_i hch
          cases h
          exact key hch
        · cases h
    | _ => rw [ho] at hcl; cases hcl

theorem outA_still (hc : CalmOk E call) {o : IOper} (hp : o.still = true) {e : Env} {s s1 : St} {v : AV} (h : outA E call o e s = some (v, s1)) : s1 = s := by
  unfold IOper.still at hp
  simp only [Bool.or_eq_true] at hp
  rcases hp with (hp | hp) | hp
  · exact (outA_quiet hp h).1
  · exact (outA_load hp h).1
  · unfold outA at h
    split at h
    · cases h
    · cases h; rfl
    · cases ho : o.op with
      | call g args =>
        rw [ho] at hp
        simp only [ho] at h
        split at h
        · cases h
        · rename_i hmp
          split at h
          · cases h
          split at h
          · rename_i v' rd s2 hcall
            split at h
            · cases h
              simp only at hp
              rw [hp] at hmp
              simp only [Bool.true_and, Bool.not_eq_true', Bool.not_eq_false] at hmp
              exact hc.1 _ _ _ _ _ _ hmp hcall
            · cases h
          · cases h
      | slice sz x lo hi mx =>
        simp only [ho, keepSt, opA, valStep] at h
        split at h
        · cases h; rfl
        · cases h
      | lookup c z m k ok =>
        simp only [ho, keepSt, opA] at h
        split at h
        · split at h
          · cases h
          · split at h
            · cases h
            · cases h; rfl
            · cases h; rfl
        · cases h
      | len c x =>
        simp only [ho, keepSt, opA] at h
        split at h <;> first | (cases h; rfl) | skip
        · split at h
          · cases h; rfl
          · cases h
        · cases h
      | _ => rw [ho] at hp; cases hp

theorem apartO_spec {a b : IOper} (h : apartO a b = true) : (∀ d, a.dst = some d → d ∉ b.reads ∧ b.dst ≠ some d) ∧ (∀ d, b.dst = some d → d ∉ a.reads ∧ a.dst ≠ some d) := by
  unfold apartO at h
  simp only [Bool.and_eq_true] at h
  refine ⟨fun d hd => ?_, fun d hd => ?_⟩
  · have := h.1; rw [hd] at this; simp at this; exact this
  · have := h.2; rw [hd] at this; simp at this; exact this

theorem bindE_congr {o : IOper} {d : Option Nat} (h : ∀ x, d = some x → x ∉ o.reads) (v : AV) (e : Env) (s : St) : outA E call o (bindE d v e) s = outA E call o e s := by
  refine outA_congr (fun i hi => ?_) s
  cases d with
  | none => rfl
  | some d =>
    simp only [bindE, Env.get]
    rw [if_neg]
    rintro rfl
    exact h i rfl hi

theorem loadA_push {s : St} {b : AB} {agg : Bool} {n : Nat} {a v : AV} (h : loadA s agg n a = some v) : loadA (s.push b) agg n a = some v := by
  unfold loadA at h ⊢
  split at h
  · rename_i i off
    split at h
    · rename_i cs hcs
      have : (s.push b).cell? i = some cs := by
        unfold St.cell? at hcs ⊢
        split at hcs
        · rename_i cs' hbl
          cases hcs
          have hi := (List.getElem?_eq_some_iff.1 hbl).1
          show (match (s.bl ++ [b])[i]? with | some (.cells cs) => some cs | _ => none) = _; rw [List.getElem?_append_left hi, hbl]
        · cases hcs
      simp only [this]; exact h
    · cases h
  · split at h
    · rename_i cs hcs; exact h
    · cases h
  · cases h

theorem outA_alloc {o : IOper} (hq : o.op.isAlloc = true) {e : Env} {s s1 : St} {v : AV} (h : outA E call o e s = some (v, s1)) : s1 = s ∨ ∃ b, s1 = s.push b := by
  unfold outA at h
  split at h
  · cases h
  · cases h; exact .inl rfl
  · cases ho : o.op with
    | alloc z =>
      simp only [ho, keepSt, opA] at h
      cases h; exact .inr ⟨_, rfl⟩
    | box n x =>
      simp only [ho, keepSt, opA] at h
      split at h
      · split at h
        · cases h; exact .inr ⟨_, rfl⟩
        · cases h
      · cases h
    | _ => rw [ho] at hq; cases hq

theorem outA_load_push {o : IOper} (hq : o.op.isLoad = true) {e : Env} {s s1 : St} {v : AV} (h : outA E call o e s = some (v, s1)) (b : AB) : outA E call o e (s.push b) = some (v, s.push b) := by
  unfold outA at h ⊢
  split at h
  · cases h
  · cases h; rfl
  · cases ho : o.op with
    | load agg n a =>
      simp only [ho, keepSt, opA, valStep] at h ⊢
      split at h
      · rename_i u hu
        cases h
        rw [loadA_push hu]
      · cases h
    | _ => rw [ho] at hq; cases hq

theorem swap_state (hc : CalmOk E call) {a b : IOper} (hs : swapOk a b = true) {e : Env} {s s1 s2 : St} {va vb : AV} (ha : outA E call a e s = some (va, s1)) (hb : outA E call b e s1 = some (vb, s2)) :
    ∃ s1', outA E call b e s = some (vb, s1') ∧ outA E call a e s1' = some (va, s2) := by
  unfold swapOk at hs
  simp only [Bool.and_eq_true, Bool.or_eq_true] at hs
  rcases hs.2 with ((((hq | hq) | hq) | hq) | hq) | hq
  · obtain ⟨rfl, h⟩ := outA_free hc hq ha
    exact ⟨s2, hb, h s2⟩
  · obtain ⟨rfl, h⟩ := outA_free hc hq hb
    exact ⟨s, h s, ha⟩
  · have h1 := outA_still hc hq.1 ha
    have h2 := outA_still hc hq.2 hb
    subst h1; subst h2
    exact ⟨_, hb, ha⟩
  · obtain ⟨rfl, h⟩ := outA_load hq.1.1 ha
    exact ⟨s2, hb, h s2 fun agg n x hx hp => outA_call hq.2 (by simpa using hq.1.2) hb agg n x hx hp⟩
  · obtain ⟨rfl, h⟩ := outA_load hq.1.2 hb
    exact ⟨s, h s fun agg n x hx hp => (outA_call hq.2 (by simpa using hq.1.1) ha agg n x hx hp).symm, ha⟩
  · have h1 := (outA_load hq.1 ha).1
    subst h1
    rcases outA_alloc hq.2 hb with rfl | ⟨b', rfl⟩
    · exact ⟨_, hb, ha⟩
    · exact ⟨_, hb, outA_load_push hq.1 ha b'⟩

theorem swap_two (hc : CalmOk E call) {a b : IOper} (hs : swapOk a b = true) {r : List IOper} {e : Env} {s : St} {e' : Env} {s' : St} (h : outsA E call (a :: b :: r) e s = some (e', s')) :
    ∃ e'', outsA E call (b :: a :: r) e s = some (e'', s') ∧ EnvEq e' e'' := by
  have hap := apartO_spec (a := a) (b := b) (by unfold swapOk at hs; simp only [Bool.and_eq_true] at hs; exact hs.1)
  simp only [outsA] at h ⊢
  cases ha : outA E call a e s with
  | none => rw [ha] at h; cases h
  | some q =>
    obtain ⟨va, s1⟩ := q
    rw [ha] at h
    simp only at h
    rw [bindE_congr (fun x hx => (hap.1 x hx).1)] at h
    cases hb : outA E call b e s1 with
    | none => rw [hb] at h; cases h
    | some q =>
      obtain ⟨vb, s2⟩ := q
      rw [hb] at h
      simp only at h
      obtain ⟨s1', h1, h2⟩ := swap_state hc hs ha hb
      rw [h1]
      simp only
      rw [bindE_congr (fun x hx => (hap.2 x hx).1), h2]
      refine outsA_env (fun i => ?_) h
      cases had : a.dst with
      | none => rfl
      | some d =>
        cases hbd : b.dst with
        | none => rfl
        | some d' =>
          have hne : d' ≠ d := by
            have := (hap.1 d had).2
            rw [hbd] at this
            simpa using this
          simp only [bindE, Env.get]
          by_cases h1 : i = d
          · subst h1; rw [if_pos rfl, if_pos rfl, if_neg (Ne.symm hne)]
          · rw [if_neg h1, if_neg h1]

theorem outsA_append {l r : List IOper} : ∀ {e : Env} {s : St}, outsA E call (l ++ r) e s = (match outsA E call l e s with | some (e', s') => outsA E call r e' s' | none => none) := by
  induction l with
  | nil => intro e s; rfl
  | cons o l ih =>
    intro e s
    simp only [List.cons_append, outsA]
    cases outA E call o e s with
    | none => rfl
    | some q => exact ih

theorem front (hc : CalmOk E call) {b : IOper} {r : List IOper} : ∀ {l : List IOper} (_ : ∀ a ∈ l, swapOk a b = true) {e : Env} {s : St} {e' : Env} {s' : St} (_ : outsA E call (l ++ b :: r) e s = some (e', s')),
    ∃ e'', outsA E call (b :: (l ++ r)) e s = some (e'', s') ∧ EnvEq e' e''
  | [], _, _, _, e', _, h => ⟨e', h, fun _ => rfl⟩
  | a :: l, hl, e, s, e', s', h => by
    simp only [List.cons_append, outsA] at h
    cases ha : outA E call a e s with
    | none => rw [ha] at h; cases h
    | some q =>
      obtain ⟨va, s1⟩ := q
      rw [ha] at h
      obtain ⟨e1, h1, q1⟩ := front hc (fun x hx => hl x (List.mem_cons_of_mem _ hx)) h
      have h2 : outsA E call (a :: b :: (l ++ r)) e s = some (e1, s') := by
        simp only [outsA, ha] at h1 ⊢
        exact h1
      obtain ⟨e2, h3, q2⟩ := swap_two hc (hl a (List.mem_cons_self ..)) h2
      exact ⟨e2, h3, fun i => (q1 i).trans (q2 i)⟩
end
end Ab

/- A drawn order against the text's order; regions. Its conditions: calm calls leave the blocks as they are; calls do what the abstract run says. -/
namespace Ab
open Go

section
variable {E : IEnv} {call : Caller} {cops : Array Oper} {ios : List IOper} {ah : List (List Nat)}

theorem mem_preds {o : Oper} {d : Nat} : d ∈ preds o ↔ ∃ x ∈ o.after.toList, Region.binds .any x = true ∧ x.on = d := by
  simp [preds, and_assoc]

theorem edgesOk_spec : ∀ {os : List Oper} {n : Nat}, edgesOk n os = true → ∀ (i : Nat) (o : Oper), os[i]? = some o → ∀ d ∈ preds o, d < n + i
  | [], _, _, _, _, h => by simp at h
  | x :: os, n, hk, i, o, h => by
    simp only [edgesOk, Bool.and_eq_true, List.all_eq_true, decide_eq_true_eq] at hk
    cases i with
    | zero => simp at h; subst h; simpa using hk.1
    | succ i =>
      simp at h
      intro d hd
      have := edgesOk_spec hk.2 i o h d hd
      omega

theorem aheadOk_spec : ∀ {os : List Oper} {n : Nat}, aheadOk ah n os = true → ∀ (i : Nat) (o : Oper), os[i]? = some o → ∀ j ∈ ah.getD (n + i) [], j ∈ preds o ∨ ∃ d ∈ preds o, j ∈ ah.getD d []
  | [], _, _, _, _, h => by simp at h
  | x :: os, n, hk, i, o, h => by
    simp only [aheadOk, Bool.and_eq_true, List.all_eq_true, Bool.or_eq_true, List.contains_iff_mem, List.any_eq_true] at hk
    cases i with
    | zero => simp only [List.getElem?_cons_zero, Option.some.injEq] at h; subst h; exact hk.1
    | succ i =>
      simp only [List.getElem?_cons_succ] at h
      have := aheadOk_spec hk.2 i o h
      rwa [show n + (i + 1) = n + 1 + i by omega]

theorem mem_ready {listed : Array Bool} {i : Nat} : i ∈ Region.ready .any cops listed ↔ i < cops.size ∧ listed.getD i true = false ∧ ∃ o, cops[i]? = some o ∧ ∀ d ∈ preds o, listed.getD d false = true := by
  simp only [Region.ready, List.mem_filter, List.mem_range, Bool.and_eq_true, Bool.not_eq_true']
  refine and_congr_right fun hi => and_congr_right fun _ => ?_
  rw [Array.getElem?_eq_getElem hi]
  simp only [Option.map_some, Option.getD_some, Array.all_eq_true', Bool.or_eq_true, Bool.not_eq_true', Option.some.injEq, exists_eq_left']
  constructor
  · intro h d hd
    obtain ⟨x, hx, hb, rfl⟩ := mem_preds.1 hd
    rcases h x (Array.mem_toList_iff.1 hx) with h | h
    · rw [hb] at h; cases h
    · exact h
  · intro h x hx
    cases hb : Region.binds .any x with
    | false => exact .inl rfl
    | true => exact .inr (h _ (mem_preds.2 ⟨x, Array.mem_toList_iff.2 hx, hb, rfl⟩))

def remOf (n : Nat) (listed : Array Bool) : List Nat := (List.range n).filter fun i => !listed.getD i true

theorem go_sound (hc : CalmOk E call) (hed : edgesOk 0 cops.toList = true) (hah : aheadOk ah 0 cops.toList = true)
    (hsw : ∀ i j, i < j → j < cops.size → i ∈ ah.getD j [] ∨ swapOk (ios.getD i default) (ios.getD j default) = true) :
    ∀ (fuel t : Nat) (listed : Array Bool) {e : Env} {s : St} {e' : Env} {s' : St}, listed.size = cops.size → (∀ i, listed.getD i false = true → ∀ j ∈ ah.getD i [], listed.getD j false = true) →
      (remOf cops.size listed).length = fuel → outsA E call ((remOf cops.size listed).map fun i => ios.getD i default) e s = some (e', s') →
      ∃ e'', outsA E call ((Region.linearise.go .any cops fuel t listed []).map fun i => ios.getD i default) e s = some (e'', s') ∧ EnvEq e' e'' ∧ ∀ i ∈ Region.linearise.go .any cops fuel t listed [], i < cops.size
  | 0, t, listed, e, s, e', s', hsz, hdown, hlen, h => by
    rw [List.eq_nil_of_length_eq_zero hlen] at h
    simp only [List.map_nil, outsA, Option.some.injEq, Prod.mk.injEq] at h
    obtain ⟨rfl, rfl⟩ := h
    exact ⟨e, by simp [Region.linearise.go, outsA], fun _ => rfl, by simp [Region.linearise.go]⟩
  | fuel + 1, t, listed, e, s, e', s', hsz, hdown, hlen, h => by
    have hmemrem : ∀ i, i ∈ remOf cops.size listed ↔ i < cops.size ∧ listed.getD i true = false := fun i => by simp [remOf]
    have hsame : ∀ i, i < cops.size → listed.getD i true = listed.getD i false := fun i hi => by
      simp only [Array.getD_eq_getD_getElem?]
      rw [Array.getElem?_eq_getElem (by omega)]; rfl
    have hsorted : (remOf cops.size listed).Pairwise (· < ·) := List.Pairwise.filter _ List.pairwise_lt_range
    -- the least that is left can go
    have hne : Region.ready .any cops listed ≠ [] := by
      cases hr : remOf cops.size listed with
      | nil => rw [hr] at hlen; cases hlen
      | cons m r =>
        have hm := (hmemrem m).1 (by rw [hr]; exact List.mem_cons_self ..)
        have hm' : m ∈ Region.ready .any cops listed := by
          refine mem_ready.2 ⟨hm.1, hm.2, cops[m], Array.getElem?_eq_getElem hm.1, fun d hd => ?_⟩
          have hlt : d < m := by simpa using edgesOk_spec hed m cops[m] (by rw [Array.getElem?_toList, Array.getElem?_eq_getElem hm.1]) d hd
          cases hd : listed.getD d false with
          | true => rfl
          | false =>
            have : d ∈ remOf cops.size listed := (hmemrem d).2 ⟨by omega, by rw [hsame d (by omega)]; exact hd⟩
            rw [hr] at this hsorted
            rcases List.mem_cons.1 this with rfl | h
            · omega
            · have := (List.pairwise_cons.1 hsorted).1 d h; omega
        intro h0; rw [h0] at hm'; cases hm'
    have hlt : t % (Region.ready .any cops listed).length < (Region.ready .any cops listed).length := Nat.mod_lt _ (List.length_pos_iff.2 hne)
    simp only [Region.linearise.go]
    change ∃ e'', outsA E call ((match (Region.ready .any cops listed)[t % (Region.ready .any cops listed).length]? with
      | some i => Region.linearise.go .any cops fuel (t / (Region.ready .any cops listed).length) (listed.setIfInBounds i true) [i]
      | none => [].reverse).map fun i => ios.getD i default) e s = some (e'', s') ∧ EnvEq e' e'' ∧ ∀ i ∈ (match (Region.ready .any cops listed)[t % (Region.ready .any cops listed).length]? with
      | some i => Region.linearise.go .any cops fuel (t / (Region.ready .any cops listed).length) (listed.setIfInBounds i true) [i]
      | none => [].reverse), i < cops.size
    rw [List.getElem?_eq_getElem hlt]
    have hmem := List.getElem_mem hlt
    generalize (Region.ready .any cops listed)[t % (Region.ready .any cops listed).length] = i at hmem
    obtain ⟨hi, hil, o, ho, hpre⟩ := mem_ready.1 hmem
    simp only
    rw [linearise_go_acc, List.reverse_singleton, List.singleton_append, List.map_cons]
    have hahi : ∀ j ∈ ah.getD i [], listed.getD j false = true := by
      intro j hj
      have := aheadOk_spec hah i o (by rw [Array.getElem?_toList]; exact ho) j (by simpa using hj)
      rcases this with h | ⟨d, hd, hj⟩
      · exact hpre j h
      · exact hdown d (hpre d hd) j hj
    obtain ⟨l, r, hlr⟩ := List.append_of_mem ((hmemrem i).2 ⟨hi, hil⟩)
    rw [hlr] at hsorted
    have hpw := List.pairwise_append.1 hsorted
    have hl : ∀ a ∈ l, a < i := fun a ha => hpw.2.2 a ha i (List.mem_cons_self ..)
    have hr : ∀ a ∈ r, i < a := fun a ha => (List.pairwise_cons.1 hpw.2.1).1 a ha
    have hrem' : remOf cops.size (listed.setIfInBounds i true) = l ++ r := by
      have h1 : remOf cops.size (listed.setIfInBounds i true) = (remOf cops.size listed).filter fun j => decide (j ≠ i) := by
        simp only [remOf, List.filter_filter]
        refine List.filter_congr fun j _ => ?_
        simp only [Array.getD_eq_getD_getElem?, Array.getElem?_setIfInBounds]
        by_cases hj : i = j
        · subst hj
          have : i < listed.size := by omega
          simp [this]
        · simp [hj, Ne.symm hj]
      rw [h1, hlr, List.filter_append, List.filter_cons_of_neg (by simp), List.filter_eq_self.2 fun a ha => by have := hl a ha; simp; omega, List.filter_eq_self.2 fun a ha => by have := hr a ha; simp; omega]
    have hfr : ∀ a ∈ l.map (fun i => ios.getD i default), swapOk a (ios.getD i default) = true := by
      intro a ha
      obtain ⟨j, hj, rfl⟩ := List.mem_map.1 ha
      rcases hsw j i (hl j hj) hi with h | h
      · have hjl := hahi j h
        have : j ∈ remOf cops.size listed := by rw [hlr]; exact List.mem_append_left _ hj
        rw [hmemrem, hsame j (by have := hl j hj; omega), hjl] at this
        cases this.2
      · exact h
    rw [hlr, List.map_append, List.map_cons] at h
    obtain ⟨e1, h1, q1⟩ := front hc hfr h
    rw [← List.map_append] at h1
    simp only [outsA] at h1 ⊢
    cases hq : outA E call (ios.getD i default) e s with
    | none => rw [hq] at h1; cases h1
    | some q =>
      obtain ⟨v, s1⟩ := q
      rw [hq] at h1
      simp only at h1 ⊢
      have hlen' : (remOf cops.size (listed.setIfInBounds i true)).length = fuel := by
        rw [hrem', List.length_append]
        rw [hlr, List.length_append, List.length_cons] at hlen
        omega
      have hset : ∀ j, (listed.setIfInBounds i true).getD j false = true ↔ j = i ∨ listed.getD j false = true := by
        intro j
        simp only [Array.getD_eq_getD_getElem?, Array.getElem?_setIfInBounds]
        by_cases hj : i = j
        · subst hj
          have : i < listed.size := by omega
          simp [this]
        · simp [hj, Ne.symm hj]
      rw [← hrem'] at h1
      obtain ⟨e2, h2, q2, h3⟩ := go_sound hc hed hah hsw fuel (t / (Region.ready .any cops listed).length) (listed.setIfInBounds i true) (by simpa using hsz) (by
        intro j hj k hk
        rw [hset] at hj ⊢
        rcases hj with rfl | hj
        · exact .inr (hahi k hk)
        · exact .inr (hdown j hj k hk)) hlen' h1
      refine ⟨e2, h2, fun x => (q1 x).trans (q2 x), fun x hx => ?_⟩
      rcases List.mem_cons.1 hx with rfl | hx
      · exact hi
      · exact h3 x hx

theorem range_map_getD : ∀ (l : List IOper), (List.range l.length).map (fun i => l.getD i default) = l := by
  intro l
  refine List.ext_getElem (by simp) fun i h1 h2 => ?_
  simp at h1
  simp [h1]

theorem schedule_sound (hc : CalmOk E call) (hlen : ios.length = cops.size) (hk : drawOk cops.toList ios = true) (t : Nat) {e : Env} {s : St} {f f' : Fr} {e' : Env} {s' : St} {p : Option AV} (h : opsA E call true ios f e s = some (p, f', e', s')) :
    ∃ e'', opsA E call true ((Region.schedule true cops t).map fun i => ios.getD i default) f e s = some (p, f', e'', s') ∧ EnvEq e' e'' ∧ ∀ i ∈ Region.schedule true cops t, i < cops.size := by
  simp only [drawOk, Bool.and_eq_true] at hk
  obtain ⟨⟨h1, h2⟩, h3⟩ := hk
  simp only [opsA_draw] at h ⊢
  simp only [Region.schedule, Bool.true_or, if_true, Region.linearise]
  cases ho : outsA E call ios e s with
  | none => rw [ho] at h; cases h
  | some q =>
    obtain ⟨e1, s1⟩ := q
    rw [ho] at h
    simp only [Option.some.injEq, Prod.mk.injEq] at h
    obtain ⟨rfl, rfl, rfl, rfl⟩ := h
    have hrem : remOf cops.size (Array.replicate cops.size false) = List.range ios.length := by
      rw [hlen]
      refine List.filter_eq_self.2 fun a ha => ?_
      simp only [List.mem_range] at ha
      simp [ha]
    obtain ⟨e2, h4, h5, h6⟩ := go_sound (ah := aheadOf cops.toList) (ios := ios) hc h1 h2 (by
      intro i j hij hj
      simp only [swapsOk, List.all_eq_true, List.mem_range, Bool.or_eq_true, List.contains_iff_mem] at h3
      exact h3 j (by omega) i hij) cops.size t (Array.replicate cops.size false) (by simp) (by
      intro i hi
      exfalso
      simp only [Array.getD_eq_getD_getElem?, Array.getElem?_replicate] at hi
      split at hi <;> simp at hi) (by rw [hrem]; simp [hlen]) (by rw [hrem, range_map_getD]; exact ho)
    exact ⟨e2, by rw [h4], h5, h6⟩
end
end Ab

/- The abstract run of a code against the machine's. Its conditions: calls do what the abstract run says; calm calls leave the blocks as they are. -/
namespace Ab
open Go

def outOf : Option AV → Out
  | none => .normal
  | some v => .pan v

/- where a code comes to -/
def To (P : Program) (L : Link) (M : Machine) (B : Frame) (tm : Array Value) (df : List Deferred) (k : List Item) (cs : List Frame) (g : Gh) (w : World) : Out → Prop
  | .normal => Steps P M (lone (mkF B tm df k) cs w)
  | .exit id => ∃ k', exitTo id k' = exitTo id k ∧ Steps P M (lone (mkF B tm df (.code (.exit id) :: k')) cs w)
  | .ret => ∃ k', Steps P M (lone (mkF B tm df (.code .ret :: k')) cs w)
  | .pan v => ∃ cv td, Rep L.toLk g w v cv ∧ NoCall td ∧ Steps P M (lone { mkF B tm df td with mode := .panicking [{ v := cv, recovered := false }] } cs w)

section
variable {P : Program} {L : Link} {E : IEnv} {call : Caller}

theorem To.head {M M' : Machine} {B : Frame} {tm : Array Value} {df : List Deferred} {k : List Item} {cs : List Frame} {g : Gh} {w : World} {o : Out} (h : Steps P M M') (h' : To P L M' B tm df k cs g w o) : To P L M B tm df k cs g w o := by
  cases o with
  | normal => exact h.trans h'
  | exit id => obtain ⟨k', h1, h2⟩ := h'; exact ⟨k', h1, h.trans h2⟩
  | ret => obtain ⟨k', h2⟩ := h'; exact ⟨k', h.trans h2⟩
  | pan v => obtain ⟨cv, td, h1, h0, h2⟩ := h'; exact ⟨cv, td, h1, h0, h.trans h2⟩

/- a place that exits pass by -/
theorem To.pass {M : Machine} {B : Frame} {tm : Array Value} {df : List Deferred} {k k' : List Item} {cs : List Frame} {g : Gh} {w : World} {o : Out} (hn : o ≠ .normal) (hk : ∀ id, o = .exit id → exitTo id k' = exitTo id k) (h : To P L M B tm df k' cs g w o) : To P L M B tm df k cs g w o := by
  cases o with
  | normal => exact absurd rfl hn
  | exit id => obtain ⟨k2, h1, h2⟩ := h; exact ⟨k2, h1.trans (hk id rfl), h2⟩
  | ret => exact h
  | pan v => exact h

structure SimTo (P : Program) (L : Link) (N : Nat) (vars : List Nat) (lo : Nat) (g : Gh) (s : St) (w : World) (M : Machine) (B : Frame) (cs0 : List Frame) (k : List Item) (o : Out) (rnd : Bool) (f' : Fr) (s' : St) (g' : Gh) (w' : World) (tm' : Array Value) (df' : List Deferred) : Prop where
  st : StR L.toLk (CkR P L) g' s' w'
  ext : Ext g s w g' s' w'
  fr : FrR L.toLk N vars lo g' w' f' tm' df'
  rcv : RcvR L.toLk g' w' f' B cs0
  rnd : f'.rnd = rnd
  to : To P L M B tm' df' k (csAt f'.recd cs0) g' w' o

theorem SimTo.head {N lo : Nat} {vars : List Nat} {g g1 g' : Gh} {s s1 s' : St} {w w1 w' : World} {M M1 : Machine} {B : Frame} {cs0 : List Frame} {k : List Item} {o : Out} {rnd rnd1 : Bool} {f' : Fr} {tm' : Array Value} {df' : List Deferred}
    (h : Steps P M M1) (he : Ext g s w g1 s1 w1) (hr : rnd1 = rnd) (h' : SimTo P L N vars lo g1 s1 w1 M1 B cs0 k o rnd1 f' s' g' w' tm' df') : SimTo P L N vars lo g s w M B cs0 k o rnd f' s' g' w' tm' df' :=
  ⟨h'.st, he.trans h'.ext, h'.fr, h'.rcv, h'.rnd.trans hr, h'.to.head h⟩

theorem SimTo.pass {N lo : Nat} {vars : List Nat} {g g' : Gh} {s s' : St} {w w' : World} {M : Machine} {B : Frame} {cs0 : List Frame} {k k' : List Item} {o : Out} {rnd : Bool} {f' : Fr} {tm' : Array Value} {df' : List Deferred}
    (hn : o ≠ .normal) (hk : ∀ id, o = .exit id → exitTo id k' = exitTo id k) (h : SimTo P L N vars lo g s w M B cs0 k' o rnd f' s' g' w' tm' df') : SimTo P L N vars lo g s w M B cs0 k o rnd f' s' g' w' tm' df' :=
  ⟨h.st, h.ext, h.fr, h.rcv, h.rnd, h.to.pass hn hk⟩

theorem FrR.keep {N lo : Nat} {vars : List Nat} {g : Gh} {w : World} {f f1 : Fr} {tm : Array Value} {df : List Deferred} {loc : Env} {keep : List Nat} (hl : EnvR L.toLk g w loc tm) (hd : EnvD vars f.env) (hN : N ≤ tm.size) (hdf : DRel L.toLk g w lo f1.defers df) (hlo : lo ≤ w.heap.size)
    (hk : keep.all (vars.contains ·) = true) (hs : ∀ i, vars.contains i = true → keep.contains i = false → loc.get i = f.env.get i) : FrR L.toLk N vars lo g w { f1 with env := keepA loc keep f.env } tm df := by
  refine ⟨fun i => ?_, hd.keep hk, hN, hdf, hlo⟩
  show Rep L.toLk g w ((keepA loc keep f.env).get i) _
  rw [keepA_get]
  split
  · exact hl i
  · rename_i hki
    cases hv : vars.contains i with
    | false => rw [hd.get_junk hv]; simp [Rep]
    | true => rw [← hs i hv (by simpa using hki)]; exact hl i

theorem region_sim (hinj : ∀ a b, L.tyOf a = L.tyOf b → a = b) (hcall : CallSim P L E call) (hcalm : CalmOk E call) {N lo n : Nat} {vars : List Nat} {id : Nat} {cops : Array Oper} {draw : Bool} {ic : ICode} (hck : ckCode P L N vars ic (.region id cops draw) = true)
    {f f' : Fr} {s s' : St} {o : Out} (h : codeA E call n ic f s = some (o, f', s')) {g : Gh} {w : World} (hs : StR L.toLk (CkR P L) g s w) (hgl : GlR L E g w) {tm : Array Value} {df : List Deferred} (hf : FrR L.toLk N vars lo g w f tm df)
    {B : Frame} {cs0 : List Frame} (hrc : RcvR L.toLk g w f B cs0) (k : List Item) :
    ∃ g' w' tm' df', SimTo P L N vars lo g s w (lone (mkF B tm df (.code (.region id cops draw) :: k)) (csAt f.recd cs0) w) B cs0 k o f.rnd f' s' g' w' tm' df' := by
  cases ic with
  | region ops keep draw' =>
    simp only [ckCode, Bool.and_eq_true, beq_iff_eq] at hck
    obtain ⟨⟨⟨⟨rfl, hops⟩, hkeep⟩, hdst⟩, hdr⟩ := hck
    have hslot : ∀ i, vars.contains i = true → keep.contains i = false → ∀ o ∈ ops, o.dst ≠ some i := by
      intro i hv hk o ho hd
      have := List.all_eq_true.1 hdst o ho
      rw [hd] at this
      simp only [Bool.or_eq_true, Bool.not_eq_true'] at this
      rcases this with h | h
      · rw [hk] at h; cases h
      · rw [hv] at h; cases h
    -- an order, and what it comes to
    have main : ∀ (is : List Nat) (os : List IOper) (g1 : Gh) (w1 : World) (_ : StR L.toLk (CkR P L) g1 s w1) (_ : Ext g s w g1 s w1) (_ : Steps P (lone (mkF B tm df (.code (.region id cops draw) :: k)) (csAt f.recd cs0) w) (lone (mkF B tm df (.inRegion cops is :: k)) (csAt f.recd cs0) w1))
        (_ : Paired P L N cops is os) (p : Option AV) (f1 : Fr) (e1 e2 : Env) (s1 : St) (_ : opsA E call draw os f f.env s = some (p, f1, e1, s1)) (_ : EnvEq e2 e1) (_ : ∀ i, vars.contains i = true → keep.contains i = false → e2.get i = f.env.get i)
        (o : Out) (_ : o = outOf p),
        ∃ g' w' tm' df', SimTo P L N vars lo g s w (lone (mkF B tm df (.code (.region id cops draw) :: k)) (csAt f.recd cs0) w) B cs0 k o f.rnd { f1 with env := keepA e2 keep f.env } s1 g' w' tm' df' := by
      intro is os g1 w1 hs1 hx1 hst hp p f1 e1 e2 s1 hA hq hget o ho
      obtain ⟨g2, w2, tm2, df2, b1, b2, b3, b4, b5, b6, b7, b8, b9⟩ := ops_sound hinj hcall hp hA hs1 (hgl.ext hx1) (hf.env.mono hx1.ge) hf.size (hf.dfr.mono hx1.ge hx1.dfr) (hrc.mono hx1.ge) k
      have b3' : EnvR L.toLk g2 w2 e2 tm2 := fun i => by rw [hq i]; exact b3 i
      refine ⟨g2, w2, tm2, df2, b1, hx1.trans b2, FrR.keep b3' hf.dom b4 b5 (by have := hf.lo; have := hx1.size; have := b2.size; omega) hkeep hget, b6, b7, ?_⟩
      cases p with
      | none => subst ho; exact hst.trans b9
      | some v =>
        subst ho
        obtain ⟨cv, td, c1, c0, c2⟩ := b9
        exact ⟨cv, td, c1, c0, hst.trans c2⟩
    have hlen : ops.length = cops.size := by
      have : ∀ {os : List Oper} {ios : List IOper}, ckOpers P L N cops os ios = true → ios.length = os.length := by
        intro os
        induction os with
        | nil => intro ios hh; cases ios with
          | nil => rfl
          | cons _ _ => simp [ckOpers] at hh
        | cons a os ih => intro ios hh; cases ios with
          | nil => simp [ckOpers] at hh
          | cons b ios => simp only [ckOpers, Bool.and_eq_true] at hh; simp [ih hh.2]
      simpa using this hops
    have hpair : ∀ (is : List Nat), (∀ i ∈ is, i < cops.size) → Paired P L N cops is (is.map fun i => ops.getD i default) := by
      have one : ∀ {os : List Oper} {ios : List IOper} {i : Nat} {o : Oper}, ckOpers P L N cops os ios = true → os[i]? = some o → ckOper P L N cops o (ios.getD i default) = true := by
        intro os
        induction os with
        | nil => intro ios i o _ h2; simp at h2
        | cons a os ih =>
          intro ios i o hh h2
          cases ios with
          | nil => simp [ckOpers] at hh
          | cons b ios =>
            simp only [ckOpers, Bool.and_eq_true] at hh
            cases i with
            | zero => simp only [List.getElem?_cons_zero, Option.some.injEq] at h2; subst h2; exact hh.1
            | succ i => simpa using ih hh.2 (by simpa using h2)
      intro is
      induction is with
      | nil => intro _; trivial
      | cons i is ih =>
        intro hi
        have hlt := hi i (List.mem_cons_self ..)
        exact ⟨⟨cops[i], Array.getElem?_eq_getElem hlt, one hops (by rw [Array.getElem?_toList, Array.getElem?_eq_getElem hlt])⟩, ih fun j hj => hi j (List.mem_cons_of_mem _ hj)⟩
    -- the abstract run
    simp only [codeA] at h
    have hA : ∃ p loc f1, opsA E call draw ops f f.env s = some (p, f1, loc, s') ∧ f' = { f1 with env := keepA loc keep f.env } ∧ o = outOf p := by
      split at h
      · rename_i f1 loc s1 hh
        simp only [Option.some.injEq, Prod.mk.injEq] at h
        obtain ⟨rfl, rfl, rfl⟩ := h
        exact ⟨none, loc, f1, hh, rfl, rfl⟩
      · rename_i v f1 loc s1 hh
        simp only [Option.some.injEq, Prod.mk.injEq] at h
        obtain ⟨rfl, rfl, rfl⟩ := h
        exact ⟨some v, loc, f1, hh, rfl, rfl⟩
      · cases h
    obtain ⟨p, loc, f1, hA, rfl, ho⟩ := hA
    have hget : ∀ i, vars.contains i = true → keep.contains i = false → loc.get i = f.env.get i := fun i hv hk => opsA_get hA (hslot i hv hk)
    cases draw with
    | false =>
      refine main (List.range cops.size) ops g w hs (.refl _ _ _) (.one s_region) ?_ p f1 loc loc s' hA (fun _ => rfl) hget o ho
      have := hpair (List.range cops.size) (fun i hi => List.mem_range.1 hi)
      rwa [← hlen, range_map_getD, hlen] at this
    | true =>
      simp only [Bool.not_true, Bool.false_or, Bool.and_eq_true] at hdr
      obtain ⟨hmix, hdr⟩ := hdr
      obtain ⟨e2, h1, h2, h3⟩ := schedule_sound hcalm hlen hdr (w.tape w.drawn (.order B.fn id)) hA
      have hst := s_region_draw (P := P) (B := B) (tm := tm) (df := df) (k := k) (cs := csAt f.recd cs0) (w := w) (id := id) (ops := cops)
      rw [hmix] at hst
      have hsame := StR.same hs (w' := { w with drawn := w.drawn + 1 }) rfl ⟨rfl, rfl, rfl⟩
      exact main _ _ g { w with drawn := w.drawn + 1 } hsame.1 hsame.2 (.one hst) (hpair _ h3) p f1 e2 loc s' h1 h2 hget o ho
  | _ => simp [ckCode] at hck
end
end Ab

/- The abstract run of a code against the machine's: loops, range over a function, all codes. Its conditions: calls do what the abstract run says; calm calls leave the blocks as they are. -/
namespace Ab
open Go

section
variable {P : Program} {L : Link} {E : IEnv} {call : Caller}

def CodeSim (P : Program) (L : Link) (E : IEnv) (call : Caller) (n N : Nat) (vars : List Nat) (c : Code) (ic : ICode) : Prop :=
  ∀ {f f' : Fr} {s s' : St} {o : Out}, codeA E call n ic f s = some (o, f', s') → ∀ {g : Gh} {w : World}, StR L.toLk (CkR P L) g s w → GlR L E g w → ∀ {lo : Nat} {tm : Array Value} {df : List Deferred}, FrR L.toLk N vars lo g w f tm df →
    ∀ {B : Frame} {cs0 : List Frame}, RcvR L.toLk g w f B cs0 → ∀ (k : List Item), ∃ g' w' tm' df', SimTo P L N vars lo g s w (lone (mkF B tm df (.code c :: k)) (csAt f.recd cs0) w) B cs0 k o f.rnd f' s' g' w' tm' df'

theorem FrR.kill {N lo : Nat} {vars : List Nat} {g : Gh} {w : World} {f : Fr} {tm : Array Value} {df : List Deferred} (h : FrR L.toLk N vars lo g w f tm df) (ks : List Nat) : FrR L.toLk N vars lo g w { f with env := f.env.kill ks } tm df :=
  ⟨h.env.kill ks, h.dom.kill ks, h.size, h.dfr, h.lo⟩

theorem iter_sim {n N : Nat} {vars : List Nat} {c : Code} {ic : ICode} (ih : CodeSim P L E call n N vars c ic) {ks : List Nat} : ∀ (m : Nat) {f f' : Fr} {s s' : St} {o : Out}, iterA (codeA E call n ic) ks m f s = some (o, f', s') →
    ∀ {g : Gh} {w : World}, StR L.toLk (CkR P L) g s w → GlR L E g w → ∀ {lo : Nat} {tm : Array Value} {df : List Deferred}, FrR L.toLk N vars lo g w f tm df → ∀ {B : Frame} {cs0 : List Frame}, RcvR L.toLk g w f B cs0 → ∀ (k : List Item),
      ∃ g' w' tm' df', SimTo P L N vars lo g s w (lone (mkF B tm df (.code c :: .inLoop c :: k)) (csAt f.recd cs0) w) B cs0 k o f.rnd f' s' g' w' tm' df'
  | 0, _, _, _, _, _, h, _, _, _, _, _, _, _, _, _, _, _, _ => by simp [iterA] at h
  | m + 1, f, f', s, s', o, h, g, w, hs, hgl, lo, tm, df, hf, B, cs0, hrc, k => by
    simp only [iterA] at h
    split at h
    · rename_i f1 s1 h1
      obtain ⟨g1, w1, tm1, df1, h2⟩ := ih h1 hs hgl (hf.kill ks) hrc (.inLoop c :: k)
      obtain ⟨g2, w2, tm2, df2, h3⟩ := iter_sim ih m h h2.st (hgl.ext h2.ext) h2.fr h2.rcv k
      refine ⟨g2, w2, tm2, df2, h3.head ?_ h2.ext h2.rnd⟩
      exact Steps.trans h2.to (.one s_inLoop)
    · rename_i hn
      obtain ⟨g1, w1, tm1, df1, h2⟩ := ih h hs hgl (hf.kill ks) hrc (.inLoop c :: k)
      refine ⟨g1, w1, tm1, df1, SimTo.pass (k' := .inLoop c :: k) (fun e => ?_) (fun id _ => rfl) h2⟩
      subst e
      exact hn _ _ h

theorem s_range {B : Frame} {tm : Array Value} {df : List Deferred} {k : List Item} {cs : List Frame} {w w1 : World} {x : Operand} {ps : Array Tmp} {a b : Code} {fv : Fn} {first cap : Array Value} {l : Nat} {mark : List Deferred} {nx : Next} {F : CallKind → Frame}
    (hl : (Instr.enterLoop B.fn tm ps a b B.roundOf).run P w = .ok (l, mark) w1) (hx : rhoOf tm x = .func fv first cap) (hi : (invoke (.fn fv cap) (first ++ #[.func (.yield l) #[] #[]])).run P w1 = .ok nx w1) (hF : StartsBy P nx F) :
    step P (lone (mkF B tm df (.code (.rangeFunc x ps a b) :: k)) cs w) = .next (lone (F .normal) (mkF B tm (mark ++ df) (.inRangeFunc l :: k) :: cs) w1) := by
  have hr : ((resolve (rhoOf tm) { callee := .value x, args := #[.const (.func (.yield l) #[] #[])], argTypes := #[] } 0) >>= fun d => invoke d.target d.args).run P w1 = .ok nx w1 := by
    simp only [resolve, hx, Deferred.ofValue, Sem.run_bind, Sem.run_pure, Result.andThen_ok]
    simpa [rhoOf] using hi
  refine step_lone_go ?_
  have he := mkF_eval' (B := B) (tm := tm) (df := mark ++ df) (k := .inRangeFunc l :: k)
  simp only [mkF] at he
  simp only [stepG, stepG.exec, mkF, Sem.runT_eq, hl, GStep.bare_after, stepG.apply, he, hr, if_true]
  rcases hF with ⟨f, a, rfl, rfl⟩ | ⟨l, f, tms, a, b, rfl, rfl⟩ <;> rfl

theorem s_range_end {B : Frame} {tm : Array Value} {df : List Deferred} {k : List Item} {cs : List Frame} {w w1 : World} {l : Nat} {jump : Option Code} (h : (Instr.endLoop l).run P w = .ok jump w1) :
    step P (lone (mkF B tm df (.endRangeFunc l :: k)) cs w) = .next (lone (mkF B tm df ((jump.map Item.code).toList ++ k)) cs w1) := by
  refine step_lone_go ?_
  simp [stepG, stepG.exec, mkF, Sem.runT_eq, h]
theorem heap_putObj {w : World} {l : Nat} {o o' : Obj} (h : w.heap[l]? = some o) : (w.putObj l o').heap[l]? = some o' ∧ (∀ c, c ≠ l → (w.putObj l o').heap[c]? = w.heap[c]?) ∧ (w.putObj l o').heap.size = w.heap.size := by
  have hl := lt_of_heap h
  refine ⟨?_, fun c hc => ?_, ?_⟩
  · simp [World.putObj, hl]
  · simp only [World.putObj, Array.getElem?_setIfInBounds, if_neg (Ne.symm hc)]
  · simp [World.putObj]

theorem range_sim (hcall : CallSim P L E call) {n N : Nat} {vars : List Nat} {x : Operand} {ps : Array Tmp} {a b : Code} {ic : ICode} (hck : ckCode P L N vars ic (.rangeFunc x ps a b) = true) : CodeSim P L E call n N vars (.rangeFunc x ps a b) ic := by
  intro f f' s s' o h g w hs hgl lo tm df hf B cs0 hrc k
  cases ic with
  | rangeFn x' ps' a' b' =>
    simp only [ckCode, Bool.and_eq_true, beq_iff_eq] at hck
    obtain ⟨⟨⟨⟨hx, hps⟩, hpv⟩, hca⟩, hcb⟩ := hck
    -- the loop's record is laid
    have lay : ∃ g1 w1 l mark lp, StR L.toLk (CkR P L) g1 (s.push (.loop { st := .ready, pend := none, env := f.env, ps := ps', assign := a', body := b' })) w1 ∧ Ext g s w g1 (s.push (.loop { st := .ready, pend := none, env := f.env, ps := ps', assign := a', body := b' })) w1 ∧
        g1.bl[s.bl.length]? = some l ∧ w1.heap[l]? = some (.loop lp) ∧ DRel L.toLk g1 w1 lo f.defers (mark ++ df) ∧ (Instr.enterLoop B.fn tm ps a b B.roundOf).run P w = .ok (l, mark) w1 := by
      have core : ∀ (g0 : Gh) (w0 : World) (d : Nat), StR L.toLk (CkR P L) g0 s w0 → Ext g s w g0 s w0 → ∃ g1, StR L.toLk (CkR P L) g1 (s.push (.loop { st := .ready, pend := none, env := f.env, ps := ps', assign := a', body := b' })) (w0.alloc (.loop { state := .ready, pending := none, fn := B.fn, tmps := tm, params := ps, assign := a, body := b, defers := d })) ∧
          Ext g s w g1 (s.push (.loop { st := .ready, pend := none, env := f.env, ps := ps', assign := a', body := b' })) (w0.alloc (.loop { state := .ready, pending := none, fn := B.fn, tmps := tm, params := ps, assign := a, body := b, defers := d })) ∧ g1.bl[s.bl.length]? = some w0.heap.size ∧
          (w0.alloc (.loop { state := .ready, pending := none, fn := B.fn, tmps := tm, params := ps, assign := a, body := b, defers := d })).heap[w0.heap.size]? = some (.loop { state := .ready, pending := none, fn := B.fn, tmps := tm, params := ps, assign := a, body := b, defers := d }) ∧ (∀ d, d ∈ g0.dfr → d ∈ g1.dfr) := by
        intro g0 w0 d h0 hx0
        have hnew := World.alloc_heap_new w0 (.loop { state := .ready, pending := none, fn := B.fn, tmps := tm, params := ps, assign := a, body := b, defers := d })
        obtain ⟨h1, h2⟩ := StR.push h0 (ab := .loop { st := .ready, pend := none, env := f.env, ps := ps', assign := a', body := b' }) (w' := w0.alloc (.loop { state := .ready, pending := none, fn := B.fn, tmps := tm, params := ps, assign := a, body := b, defers := d })) rfl ⟨rfl, rfl, rfl⟩ [w0.heap.size]
          (by intro e he; simp only [List.mem_singleton] at he; exact ⟨he, _, rfl⟩)
          (fun hge => ⟨List.mem_append_left _ (List.mem_singleton.2 rfl), _, N, vars, hnew, rfl, rfl, by rw [← hps], hf.size, hca, hcb, (hf.env.mono hx0.ge).mono hge, hf.dom, by
            intro p hp
            have := List.all_eq_true.1 hpv p hp
            simpa using this⟩)
        exact ⟨_, h1, hx0.trans h2, by
          show (g0.bl ++ [w0.heap.size])[s.bl.length]? = _
          rw [← h0.bl]; simp, hnew, h2.dfr⟩
      obtain ⟨hr1, hr2, hr3⟩ := hrc
      cases hB : B.roundOf with
      | none =>
        obtain ⟨h1, h2⟩ := hs.pushDfr (w' := w.alloc (.deferred (some []))) rfl ⟨rfl, rfl, rfl⟩
        obtain ⟨g1, c1, c2, c3, c4, c5⟩ := core _ _ w.heap.size h1 h2
        refine ⟨g1, _, _, [{ target := .collected w.heap.size, args := #[] }], _, c1, c2, c3, c4, ?_, ?_⟩
        · refine .coll _ _ _ (c5 _ (List.mem_cons_self ..)) hf.lo (fun c hc e => ?_) (hf.dfr.mono c2.ge c2.dfr)
          have := hs.dfr _ (hf.dfr.marks c hc _ e)
          exact absurd (lt_of_heap this.1) (by omega)
        · rw [World.size_alloc]; exact run_enterLoop_outer _ _ _ _ _
      | some l0 =>
        obtain ⟨r0, hl0⟩ := hs.lps l0 (hr2 l0 hB)
        obtain ⟨g1, c1, c2, c3, c4, c5⟩ := core _ _ r0.defers hs (.refl _ _ _)
        refine ⟨g1, _, _, [], _, c1, c2, c3, c4, hf.dfr.mono c2.ge c2.dfr, run_enterLoop_inner hl0 _ _ _ _ _⟩
    obtain ⟨g1, w1, l, mark, lp, a1, a2, a3, a4, a5, a6⟩ := lay
    have hrx : Rep L.toLk g1 w1 (x'.ev E f.env) (rhoOf tm x) := Rep.mono a2.ge _ _ ((evs_of (E := E) hf.env hgl).rep _ _ hx)
    have hry : RepL L.toLk g1 w1 [.yield s.bl.length] [.func (.yield l) #[] #[]] := RepL.singleton (by simp only [Rep]; exact ⟨l, a3, rfl⟩)
    simp only [codeA] at h
    have hro : s.ro ≤ s.bl.length := hs.ro
    split at h
    · rename_i v rd s2 hc
      obtain ⟨F, ⟨fv, first, cap, nx, hfun, hinv, hst⟩, hn, _⟩ := hcall _ _ _ _ _ _ _ hc g1 w1 _ _ a1 (hgl.ext a2) hrx hry
      obtain ⟨g2, w2, cv, b1, b2, b3, b4⟩ := hn rfl (mkF B tm (mark ++ df) (.inRangeFunc l :: k)) (csAt f.recd cs0)
      split at h
      · rename_i AL hAL
        have hl2 := b2.ge.bl _ _ a3
        obtain ⟨hlp, lp2, N2, vars2, d1, d2, d3, d4, d5, d6, d7, d8, d9, d10⟩ := b1.blocks _ _ _ hl2 hAL
        obtain ⟨ast, ape, aenv, aps, aas, abo⟩ := AL
        obtain ⟨lst, lpe, lfn, ltm, lpa, las, lbo, ldf⟩ := lp2
        simp only at d2 d3 d4 d5 d6 d7 d8 d9 d10
        split at h
        · cases h
        · rename_i hbusy
          have hnb : lst ≠ .busy := by
            intro e
            subst e
            cases ast <;> simp only [LStRep] at d2 <;> first | cases d2 | skip
            exact hbusy rfl
          have hend := run_endLoop (P := P) d1 hnb
          obtain ⟨p1, p2, p3⟩ := heap_putObj (o' := .loop { state := .exhausted, pending := lpe, fn := lfn, tmps := ltm, params := lpa, assign := las, body := lbo, defers := ldf }) d1
          have hset := StR.setb b1 hl2 (by rw [b2.ro]; exact hro) (ab := .loop { st := .exhausted, pend := ape, env := aenv, ps := aps, assign := aas, body := abo }) p1 p2 p3 ⟨rfl, rfl, rfl⟩ (fun hge => ⟨hge.lps _ hlp, _, N2, vars2, p1, rfl, d3, d4, d5, d6, d7, d8.mono hge, d9, d10⟩) (fun _ => ⟨_, rfl⟩)
          have hext := a2.trans (b2.trans hset.2)
          have hsteps : Steps P (lone (mkF B tm df (.code (.rangeFunc x ps a b) :: k)) (csAt f.recd cs0) w) (lone (mkF B tm (mark ++ df) ((lpe.map Item.code).toList ++ k)) (csAt f.recd cs0) (w2.putObj l (.loop { state := .exhausted, pending := lpe, fn := lfn, tmps := ltm, params := lpa, assign := las, body := lbo, defers := ldf }))) :=
            .head (s_range a6 hfun (by simpa using hinv) hst) (Steps.trans b4 (.one (s_range_end hend)))
          have hfr : FrR L.toLk N vars lo g2 (w2.putObj l (.loop { state := .exhausted, pending := lpe, fn := lfn, tmps := ltm, params := lpa, assign := las, body := lbo, defers := ldf })) f tm (mark ++ df) :=
            ⟨hf.env.mono hext.ge, hf.dom, hf.size, (a5.mono b2.ge b2.dfr).mono hset.2.ge hset.2.dfr, Nat.le_trans hf.lo hext.size⟩
          have hrc' := hrc.mono hext.ge
          cases ape with
          | none =>
            simp only [PendRep] at d3
            subst d3
            simp only [Option.some.injEq, Prod.mk.injEq] at h
            obtain ⟨rfl, rfl, rfl⟩ := h
            exact ⟨_, _, _, _, hset.1, hext, hfr, hrc', rfl, hsteps⟩
          | some pe =>
            cases pe with
            | exit id =>
              simp only [PendRep] at d3
              subst d3
              simp only [Option.some.injEq, Prod.mk.injEq] at h
              obtain ⟨rfl, rfl, rfl⟩ := h
              exact ⟨_, _, _, _, hset.1, hext, hfr, hrc', rfl, ⟨k, rfl, hsteps⟩⟩
            | ret =>
              simp only [PendRep] at d3
              subst d3
              simp only [Option.some.injEq, Prod.mk.injEq] at h
              obtain ⟨rfl, rfl, rfl⟩ := h
              exact ⟨_, _, _, _, hset.1, hext, hfr, hrc', rfl, ⟨k, hsteps⟩⟩
      · cases h
    · rename_i v rd s2 hc
      obtain ⟨F, ⟨fv, first, cap, nx, hfun, hinv, hst⟩, hn, _⟩ := hcall _ _ _ _ _ _ _ hc g1 w1 _ _ a1 (hgl.ext a2) hrx hry
      obtain ⟨g2, w2, cv, b1, b2, b3, b4⟩ := hn rfl (mkF B tm (mark ++ df) (.inRangeFunc l :: k)) (csAt f.recd cs0)
      simp only [Option.some.injEq, Prod.mk.injEq] at h
      obtain ⟨rfl, rfl, rfl⟩ := h
      have hext := a2.trans b2
      exact ⟨g2, w2, tm, mark ++ df, b1, hext, ⟨hf.env.mono hext.ge, hf.dom, hf.size, a5.mono b2.ge b2.dfr, Nat.le_trans hf.lo hext.size⟩, hrc.mono hext.ge, rfl, ⟨cv, .inRangeFunc l :: k, b3, trivial, .head (s_range a6 hfun (by simpa using hinv) hst) b4⟩⟩
    · cases h
  | _ => simp [ckCode] at hck

theorem code_sim (hinj : ∀ a b, L.tyOf a = L.tyOf b → a = b) (hcall : CallSim P L E call) (hcalm : CalmOk E call) {n N : Nat} {vars : List Nat} : ∀ (c : Code) (ic : ICode), ckCode P L N vars ic c = true → CodeSim P L E call n N vars c ic := by
  intro c
  induction c with
  | skip =>
    intro ic hck f f' s s' o h g w hs hgl lo tm df hf B cs0 hrc k
    cases ic <;> simp [ckCode] at hck
    simp only [codeA, Option.some.injEq, Prod.mk.injEq] at h
    obtain ⟨rfl, rfl, rfl⟩ := h
    exact ⟨g, w, tm, df, hs, .refl _ _ _, hf, hrc, rfl, .one s_skip⟩
  | label l =>
    intro ic hck f f' s s' o h g w hs hgl lo tm df hf B cs0 hrc k
    cases ic <;> simp [ckCode] at hck
    simp only [codeA, Option.some.injEq, Prod.mk.injEq] at h
    obtain ⟨rfl, rfl, rfl⟩ := h
    exact ⟨g, w, tm, df, hs, .refl _ _ _, hf, hrc, rfl, .one s_label⟩
  | region id ops draw =>
    intro ic hck f f' s s' o h g w hs hgl lo tm df hf B cs0 hrc k
    exact region_sim hinj hcall hcalm hck h hs hgl hf hrc k
  | seq a b iha ihb =>
    intro ic hck f f' s s' o h g w hs hgl lo tm df hf B cs0 hrc k
    cases ic with
    | seq a' b' =>
      simp only [ckCode, Bool.and_eq_true] at hck
      simp only [codeA] at h
      split at h
      · rename_i f1 s1 h1
        obtain ⟨g1, w1, tm1, df1, h2⟩ := iha _ hck.1 h1 hs hgl hf hrc (.code b :: k)
        obtain ⟨g2, w2, tm2, df2, h3⟩ := ihb _ hck.2 h h2.st (hgl.ext h2.ext) h2.fr h2.rcv k
        exact ⟨g2, w2, tm2, df2, h3.head (.head s_seq h2.to) h2.ext h2.rnd⟩
      · rename_i hn
        obtain ⟨g1, w1, tm1, df1, h2⟩ := iha _ hck.1 h hs hgl hf hrc (.code b :: k)
        refine ⟨g1, w1, tm1, df1, SimTo.head (.one s_seq) (.refl _ _ _) rfl (SimTo.pass (k' := .code b :: k) (fun e => ?_) (fun id _ => rfl) h2)⟩
        subst e
        exact hn _ _ h
    | _ => simp [ckCode] at hck
  | cond x a b iha ihb =>
    intro ic hck f f' s s' o h g w hs hgl lo tm df hf B cs0 hrc k
    cases ic with
    | cond x' a' b' =>
      simp only [ckCode, Bool.and_eq_true] at hck
      have hx := (evs_of (E := E) hf.env hgl).rep _ _ hck.1.1
      simp only [codeA] at h
      split at h
      · rename_i hv
        rw [hv] at hx; simp only [Rep] at hx
        obtain ⟨g1, w1, tm1, df1, h2⟩ := iha _ hck.1.2 h hs hgl hf hrc k
        exact ⟨g1, w1, tm1, df1, SimTo.head (.one (s_cond (t := true) hx)) (.refl _ _ _) rfl h2⟩
      · rename_i hv
        rw [hv] at hx; simp only [Rep] at hx
        obtain ⟨g1, w1, tm1, df1, h2⟩ := ihb _ hck.2 h hs hgl hf hrc k
        exact ⟨g1, w1, tm1, df1, SimTo.head (.one (s_cond (t := false) hx)) (.refl _ _ _) rfl h2⟩
      · cases h
    | _ => simp [ckCode] at hck
  | block id b ih =>
    intro ic hck f f' s s' o h g w hs hgl lo tm df hf B cs0 hrc k
    cases ic with
    | block id' b' =>
      simp only [ckCode, Bool.and_eq_true, beq_iff_eq] at hck
      obtain ⟨rfl, hck⟩ := hck
      simp only [codeA] at h
      split at h
      · rename_i j f1 s1 h1
        obtain ⟨g1, w1, tm1, df1, h2⟩ := ih _ hck h1 hs hgl hf hrc (.inBlock id :: k)
        split at h
        · rename_i hj
          subst hj
          simp only [Option.some.injEq, Prod.mk.injEq] at h
          obtain ⟨rfl, rfl, rfl⟩ := h
          obtain ⟨k2, e1, e2⟩ := h2.to
          refine ⟨g1, w1, tm1, df1, h2.st, h2.ext, h2.fr, h2.rcv, h2.rnd, Steps.head s_block (Steps.trans e2 (.one (s_exit ?_)))⟩
          rw [e1]; simp [exitTo]
        · rename_i hj
          simp only [Option.some.injEq, Prod.mk.injEq] at h
          obtain ⟨rfl, rfl, rfl⟩ := h
          refine ⟨g1, w1, tm1, df1, SimTo.head (.one s_block) (.refl _ _ _) rfl (SimTo.pass (k' := .inBlock id :: k) (by simp) (fun id' e => ?_) h2)⟩
          cases e
          simp [exitTo, Ne.symm hj]
      · rename_i hn
        obtain ⟨g1, w1, tm1, df1, h2⟩ := ih _ hck h hs hgl hf hrc (.inBlock id :: k)
        cases o with
        | normal => exact ⟨g1, w1, tm1, df1, h2.st, h2.ext, h2.fr, h2.rcv, h2.rnd, Steps.head s_block (Steps.trans h2.to (.one s_inBlock))⟩
        | exit j => exact absurd h (hn _ _ _)
        | ret => exact ⟨g1, w1, tm1, df1, SimTo.head (.one s_block) (.refl _ _ _) rfl (SimTo.pass (k' := .inBlock id :: k) (by simp) (fun id' e => by cases e) h2)⟩
        | pan v => exact ⟨g1, w1, tm1, df1, SimTo.head (.one s_block) (.refl _ _ _) rfl (SimTo.pass (k' := .inBlock id :: k) (by simp) (fun id' e => by cases e) h2)⟩
    | _ => simp [ckCode] at hck
  | loop b ih =>
    intro ic hck f f' s s' o h g w hs hgl lo tm df hf B cs0 hrc k
    cases ic with
    | loop ks b' =>
      simp only [ckCode] at hck
      simp only [codeA] at h
      obtain ⟨g1, w1, tm1, df1, h2⟩ := iter_sim (ih _ hck) n h hs hgl hf hrc k
      exact ⟨g1, w1, tm1, df1, SimTo.head (.one s_loop) (.refl _ _ _) rfl h2⟩
    | _ => simp [ckCode] at hck
  | rangeFunc x ps a b _ _ =>
    intro ic hck
    exact range_sim hcall hck
  | exit id =>
    intro ic hck f f' s s' o h g w hs hgl lo tm df hf B cs0 hrc k
    cases ic <;> simp [ckCode] at hck
    subst hck
    simp only [codeA, Option.some.injEq, Prod.mk.injEq] at h
    obtain ⟨rfl, rfl, rfl⟩ := h
    exact ⟨g, w, tm, df, hs, .refl _ _ _, hf, hrc, rfl, ⟨k, rfl, .refl _ _⟩⟩
  | ret =>
    intro ic hck f f' s s' o h g w hs hgl lo tm df hf B cs0 hrc k
    cases ic <;> simp [ckCode] at hck
    simp only [codeA, Option.some.injEq, Prod.mk.injEq] at h
    obtain ⟨rfl, rfl, rfl⟩ := h
    exact ⟨g, w, tm, df, hs, .refl _ _ _, hf, hrc, rfl, ⟨k, .refl _ _⟩⟩
  | scope b ih =>
    intro ic hck f f' s s' o h g w hs hgl lo tm df hf B cs0 hrc k
    simp only [ckCode] at hck
    obtain ⟨g1, w1, tm1, df1, h2⟩ := ih _ hck h hs hgl hf hrc (.inScope b :: k)
    cases o with
    | normal => exact ⟨g1, w1, tm1, df1, h2.st, h2.ext, h2.fr, h2.rcv, h2.rnd, Steps.head s_scope (Steps.trans h2.to (.one s_inScope))⟩
    | exit j => exact ⟨g1, w1, tm1, df1, SimTo.head (.one s_scope) (.refl _ _ _) rfl (SimTo.pass (k' := .inScope b :: k) (by simp) (fun id' e => rfl) h2)⟩
    | ret => exact ⟨g1, w1, tm1, df1, SimTo.head (.one s_scope) (.refl _ _ _) rfl (SimTo.pass (k' := .inScope b :: k) (by simp) (fun id' e => by cases e) h2)⟩
    | pan v => exact ⟨g1, w1, tm1, df1, SimTo.head (.one s_scope) (.refl _ _ _) rfl (SimTo.pass (k' := .inScope b :: k) (by simp) (fun id' e => by cases e) h2)⟩
  | goto l => intro ic hck; simp [ckCode] at hck
  | refuse y => intro ic hck; simp [ckCode] at hck
end
end Ab
