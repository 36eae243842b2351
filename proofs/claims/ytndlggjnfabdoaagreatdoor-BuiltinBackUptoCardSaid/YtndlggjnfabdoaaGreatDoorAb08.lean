/- The abstract run of a code against the machine's: loops, range over a function, all codes. Its conditions: calls do what the abstract run says; calm calls leave the blocks as they are. -/
import Derived.Test.YtndlggjnfabdoaaGreatDoorAb07
set_option linter.all false
namespace Ab
open Go

section
variable {P : Program} {L : Link} {E : IEnv} {call : Caller}

def CodeSim (P : Program) (L : Link) (E : IEnv) (call : Caller) (n N : Nat) (vars : List Nat) (c : Code) (ic : ICode) : Prop :=
  ∀ {f f' : Fr} {s s' : St} {o : Out}, codeA E call n ic f s = some (o, f', s') → ∀ {g : Gh} {w : World}, StR L.toLk (CkR P L) g s w → GlR L E g w → ∀ {lo : Nat} {tm : Array Value} {df : List Deferred}, FrR L.toLk N vars lo g w f tm df →
    ∀ {B : Frame} {cs0 : List Frame}, RcvR L.toLk g w f B cs0 → ∀ (k : List Item), ∃ g' w' tm' df', SimTo P L N vars lo g s w (lone (mkF B tm df (.code c :: k)) (csAt f.recd cs0) w) B cs0 k o f.rnd f' s' g' w' tm' df'

theorem FrR.kill {N lo : Nat} {vars : List Nat} {g : Gh} {w : World} {f : Fr} {tm : Array Value} {df : List Deferred} (h : FrR L.toLk N vars lo g w f tm df) (ks : List Nat) : FrR L.toLk N vars lo g w { f with env := f.env.kill ks } tm df :=
  ⟨h.env.kill ks, h.dom.kill ks, h.size, h.dfr, h.lo⟩

theorem iter_sim {n N : Nat} {vars : List Nat} {c : Code} {ic : ICode} (ih : CodeSim P L E call n N vars c ic) {ks : List Nat} : ∀ (m : Nat) {f f' : Fr} {s s' : St} {o : Out}, iterA (codeA E call n ic) ks m f s = some (o, f', s') →
    ∀ {g : Gh} {w : World}, StR L.toLk (CkR P L) g s w → GlR L E g w → ∀ {lo : Nat} {tm : Array Value} {df : List Deferred}, FrR L.toLk N vars lo g w f tm df → ∀ {B : Frame} {cs0 : List Frame}, RcvR L.toLk g w f B cs0 → ∀ (k : List Item),
      ∃ g' w' tm' df', SimTo P L N vars lo g s w (lone (mkF B tm df (.code c :: .inLoop c :: k)) (csAt f.recd cs0) w) B cs0 k o f.rnd f' s' g' w' tm' df'
  | 0, _, _, _, _, _, h, _, _, _, _, _, _, _, _, _, _, _, _ => by simp [iterA] at h
  | m + 1, f, f', s, s', o, h, g, w, hs, hgl, lo, tm, df, hf, B, cs0, hrc, k => by
    simp only [iterA] at h
    split at h
    · rename_i f1 s1 h1
      obtain ⟨g1, w1, tm1, df1, h2⟩ := ih h1 hs hgl (hf.kill ks) hrc (.inLoop c :: k)
      obtain ⟨g2, w2, tm2, df2, h3⟩ := iter_sim ih m h h2.st (hgl.ext h2.ext) h2.fr h2.rcv k
      refine ⟨g2, w2, tm2, df2, h3.head ?_ h2.ext h2.rnd⟩
      exact Steps.trans h2.to (.one s_inLoop)
    · rename_i hn
      obtain ⟨g1, w1, tm1, df1, h2⟩ := ih h hs hgl (hf.kill ks) hrc (.inLoop c :: k)
      refine ⟨g1, w1, tm1, df1, SimTo.pass (k' := .inLoop c :: k) (fun e => ?_) (fun id _ => rfl) h2⟩
      subst e
      exact hn _ _ h

theorem s_range {B : Frame} {tm : Array Value} {df : List Deferred} {k : List Item} {cs : List Frame} {w w1 : World} {x : Operand} {ps : Array Tmp} {a b : Code} {fv : Fn} {first cap : Array Value} {l : Nat} {mark : List Deferred} {nx : Next} {F : CallKind → Frame}
    (hl : (Instr.enterLoop B.fn tm ps a b B.roundOf).run P w = .ok (l, mark) w1) (hx : rhoOf tm x = .func fv first cap) (hi : (invoke (.fn fv cap) (first ++ #[.func (.yield l) #[] #[]])).run P w1 = .ok nx w1) (hF : StartsBy P nx F) :
    step P (lone (mkF B tm df (.code (.rangeFunc x ps a b) :: k)) cs w) = .next (lone (F .normal) (mkF B tm (mark ++ df) (.inRangeFunc l :: k) :: cs) w1) := by
  have hr : ((resolve (rhoOf tm) { callee := .value x, args := #[.const (.func (.yield l) #[] #[])], argTypes := #[] } 0) >>= fun d => invoke d.target d.args).run P w1 = .ok nx w1 := by
    simp only [resolve, hx, Deferred.ofValue, Sem.run_bind, Sem.run_pure, Result.andThen_ok]
    simpa [rhoOf] using hi
  refine step_lone_go ?_
  have he := mkF_eval' (B := B) (tm := tm) (df := mark ++ df) (k := .inRangeFunc l :: k)
  simp only [mkF] at he
  simp only [stepG, stepG.exec, mkF, Sem.runT_eq, hl, GStep.bare_after, stepG.apply, he, hr, if_true]
  rcases hF with ⟨f, a, rfl, rfl⟩ | ⟨l, f, tms, a, b, rfl, rfl⟩ <;> rfl

theorem s_range_end {B : Frame} {tm : Array Value} {df : List Deferred} {k : List Item} {cs : List Frame} {w w1 : World} {l : Nat} {jump : Option Code} (h : (Instr.endLoop l).run P w = .ok jump w1) :
    step P (lone (mkF B tm df (.endRangeFunc l :: k)) cs w) = .next (lone (mkF B tm df ((jump.map Item.code).toList ++ k)) cs w1) := by
  refine step_lone_go ?_
  simp [stepG, stepG.exec, mkF, Sem.runT_eq, h]
theorem heap_putObj {w : World} {l : Nat} {o o' : Obj} (h : w.heap[l]? = some o) : (w.putObj l o').heap[l]? = some o' ∧ (∀ c, c ≠ l → (w.putObj l o').heap[c]? = w.heap[c]?) ∧ (w.putObj l o').heap.size = w.heap.size := by
  have hl := lt_of_heap h
  refine ⟨?_, fun c hc => ?_, ?_⟩
  · simp [World.putObj, hl]
  · simp only [World.putObj, Array.getElem?_setIfInBounds, if_neg (Ne.symm hc)]
  · simp [World.putObj]

theorem range_sim (hcall : CallSim P L E call) {n N : Nat} {vars : List Nat} {x : Operand} {ps : Array Tmp} {a b : Code} {ic : ICode} (hck : ckCode P L N vars ic (.rangeFunc x ps a b) = true) : CodeSim P L E call n N vars (.rangeFunc x ps a b) ic := by
  intro f f' s s' o h g w hs hgl lo tm df hf B cs0 hrc k
  cases ic with
  | rangeFn x' ps' a' b' =>
    simp only [ckCode, Bool.and_eq_true, beq_iff_eq] at hck
    obtain ⟨⟨⟨⟨hx, hps⟩, hpv⟩, hca⟩, hcb⟩ := hck
    -- the loop's record is laid
    have lay : ∃ g1 w1 l mark lp, StR L.toLk (CkR P L) g1 (s.push (.loop { st := .ready, pend := none, env := f.env, ps := ps', assign := a', body := b' })) w1 ∧ Ext g s w g1 (s.push (.loop { st := .ready, pend := none, env := f.env, ps := ps', assign := a', body := b' })) w1 ∧
        g1.bl[s.bl.length]? = some l ∧ w1.heap[l]? = some (.loop lp) ∧ DRel L.toLk g1 w1 lo f.defers (mark ++ df) ∧ (Instr.enterLoop B.fn tm ps a b B.roundOf).run P w = .ok (l, mark) w1 := by
      have core : ∀ (g0 : Gh) (w0 : World) (d : Nat), StR L.toLk (CkR P L) g0 s w0 → Ext g s w g0 s w0 → ∃ g1, StR L.toLk (CkR P L) g1 (s.push (.loop { st := .ready, pend := none, env := f.env, ps := ps', assign := a', body := b' })) (w0.alloc (.loop { state := .ready, pending := none, fn := B.fn, tmps := tm, params := ps, assign := a, body := b, defers := d })) ∧
          Ext g s w g1 (s.push (.loop { st := .ready, pend := none, env := f.env, ps := ps', assign := a', body := b' })) (w0.alloc (.loop { state := .ready, pending := none, fn := B.fn, tmps := tm, params := ps, assign := a, body := b, defers := d })) ∧ g1.bl[s.bl.length]? = some w0.heap.size ∧
          (w0.alloc (.loop { state := .ready, pending := none, fn := B.fn, tmps := tm, params := ps, assign := a, body := b, defers := d })).heap[w0.heap.size]? = some (.loop { state := .ready, pending := none, fn := B.fn, tmps := tm, params := ps, assign := a, body := b, defers := d }) ∧ (∀ d, d ∈ g0.dfr → d ∈ g1.dfr) := by
        intro g0 w0 d h0 hx0
        have hnew := World.alloc_heap_new w0 (.loop { state := .ready, pending := none, fn := B.fn, tmps := tm, params := ps, assign := a, body := b, defers := d })
        obtain ⟨h1, h2⟩ := StR.push h0 (ab := .loop { st := .ready, pend := none, env := f.env, ps := ps', assign := a', body := b' }) (w' := w0.alloc (.loop { state := .ready, pending := none, fn := B.fn, tmps := tm, params := ps, assign := a, body := b, defers := d })) rfl ⟨rfl, rfl, rfl⟩ [w0.heap.size]
          (by intro e he; simp only [List.mem_singleton] at he; exact ⟨he, _, rfl⟩)
          (fun hge => ⟨List.mem_append_left _ (List.mem_singleton.2 rfl), _, N, vars, hnew, rfl, rfl, by rw [← hps], hf.size, hca, hcb, (hf.env.mono hx0.ge).mono hge, hf.dom, by
            intro p hp
            have := List.all_eq_true.1 hpv p hp
            simpa using this⟩)
        exact ⟨_, h1, hx0.trans h2, by
          show (g0.bl ++ [w0.heap.size])[s.bl.length]? = _
          rw [← h0.bl]; simp, hnew, h2.dfr⟩
      obtain ⟨hr1, hr2, hr3⟩ := hrc
      cases hB : B.roundOf with
      | none =>
        obtain ⟨h1, h2⟩ := hs.pushDfr (w' := w.alloc (.deferred (some []))) rfl ⟨rfl, rfl, rfl⟩
        obtain ⟨g1, c1, c2, c3, c4, c5⟩ := core _ _ w.heap.size h1 h2
        refine ⟨g1, _, _, [{ target := .collected w.heap.size, args := #[] }], _, c1, c2, c3, c4, ?_, ?_⟩
        · refine .coll _ _ _ (c5 _ (List.mem_cons_self ..)) hf.lo (fun c hc e => ?_) (hf.dfr.mono c2.ge c2.dfr)
          have := hs.dfr _ (hf.dfr.marks c hc _ e)
          exact absurd (lt_of_heap this.1) (by omega)
        · rw [World.size_alloc]; exact run_enterLoop_outer _ _ _ _ _
      | some l0 =>
        obtain ⟨r0, hl0⟩ := hs.lps l0 (hr2 l0 hB)
        obtain ⟨g1, c1, c2, c3, c4, c5⟩ := core _ _ r0.defers hs (.refl _ _ _)
        refine ⟨g1, _, _, [], _, c1, c2, c3, c4, hf.dfr.mono c2.ge c2.dfr, run_enterLoop_inner hl0 _ _ _ _ _⟩
    obtain ⟨g1, w1, l, mark, lp, a1, a2, a3, a4, a5, a6⟩ := lay
    have hrx : Rep L.toLk g1 w1 (x'.ev E f.env) (rhoOf tm x) := Rep.mono a2.ge _ _ ((evs_of (E := E) hf.env hgl).rep _ _ hx)
    have hry : RepL L.toLk g1 w1 [.yield s.bl.length] [.func (.yield l) #[] #[]] := RepL.singleton (by simp only [Rep]; exact ⟨l, a3, rfl⟩)
    simp only [codeA] at h
    have hro : s.ro ≤ s.bl.length := hs.ro
    split at h
    · rename_i v rd s2 hc
      obtain ⟨F, ⟨fv, first, cap, nx, hfun, hinv, hst⟩, hn, _⟩ := hcall _ _ _ _ _ _ _ hc g1 w1 _ _ a1 (hgl.ext a2) hrx hry
      obtain ⟨g2, w2, cv, b1, b2, b3, b4⟩ := hn rfl (mkF B tm (mark ++ df) (.inRangeFunc l :: k)) (csAt f.recd cs0)
      split at h
      · rename_i AL hAL
        have hl2 := b2.ge.bl _ _ a3
        obtain ⟨hlp, lp2, N2, vars2, d1, d2, d3, d4, d5, d6, d7, d8, d9, d10⟩ := b1.blocks _ _ _ hl2 hAL
        obtain ⟨ast, ape, aenv, aps, aas, abo⟩ := AL
        obtain ⟨lst, lpe, lfn, ltm, lpa, las, lbo, ldf⟩ := lp2
        simp only at d2 d3 d4 d5 d6 d7 d8 d9 d10
        split at h
        · cases h
        · rename_i hbusy
          have hnb : lst ≠ .busy := by
            intro e
            subst e
            cases ast <;> simp only [LStRep] at d2 <;> first | cases d2 | skip
            exact hbusy rfl
          have hend := run_endLoop (P := P) d1 hnb
          obtain ⟨p1, p2, p3⟩ := heap_putObj (o' := .loop { state := .exhausted, pending := lpe, fn := lfn, tmps := ltm, params := lpa, assign := las, body := lbo, defers := ldf }) d1
          have hset := StR.setb b1 hl2 (by rw [b2.ro]; exact hro) (ab := .loop { st := .exhausted, pend := ape, env := aenv, ps := aps, assign := aas, body := abo }) p1 p2 p3 ⟨rfl, rfl, rfl⟩ (fun hge => ⟨hge.lps _ hlp, _, N2, vars2, p1, rfl, d3, d4, d5, d6, d7, d8.mono hge, d9, d10⟩) (fun _ => ⟨_, rfl⟩) (by rw [hAL]; intro e; cases e) (.no p2 d1 fun _ _ _ h => by cases h)
          have hext := a2.trans (b2.trans hset.2)
          have hsteps : Steps P (lone (mkF B tm df (.code (.rangeFunc x ps a b) :: k)) (csAt f.recd cs0) w) (lone (mkF B tm (mark ++ df) ((lpe.map Item.code).toList ++ k)) (csAt f.recd cs0) (w2.putObj l (.loop { state := .exhausted, pending := lpe, fn := lfn, tmps := ltm, params := lpa, assign := las, body := lbo, defers := ldf }))) :=
            .head (s_range a6 hfun (by simpa using hinv) hst) (Steps.trans b4 (.one (s_range_end hend)))
          have hfr : FrR L.toLk N vars lo g2 (w2.putObj l (.loop { state := .exhausted, pending := lpe, fn := lfn, tmps := ltm, params := lpa, assign := las, body := lbo, defers := ldf })) f tm (mark ++ df) :=
            ⟨hf.env.mono hext.ge, hf.dom, hf.size, (a5.mono b2.ge b2.dfr).mono hset.2.ge hset.2.dfr, Nat.le_trans hf.lo hext.size⟩
          have hrc' := hrc.mono hext.ge
          cases ape with
          | none =>
            simp only [PendRep] at d3
            subst d3
            simp only [Option.some.injEq, Prod.mk.injEq] at h
            obtain ⟨rfl, rfl, rfl⟩ := h
            exact ⟨_, _, _, _, hset.1, hext, hfr, hrc', rfl, hsteps⟩
          | some pe =>
            cases pe with
            | exit id =>
              simp only [PendRep] at d3
              subst d3
              simp only [Option.some.injEq, Prod.mk.injEq] at h
              obtain ⟨rfl, rfl, rfl⟩ := h
              exact ⟨_, _, _, _, hset.1, hext, hfr, hrc', rfl, ⟨k, rfl, hsteps⟩⟩
            | ret =>
              simp only [PendRep] at d3
              subst d3
              simp only [Option.some.injEq, Prod.mk.injEq] at h
              obtain ⟨rfl, rfl, rfl⟩ := h
              exact ⟨_, _, _, _, hset.1, hext, hfr, hrc', rfl, ⟨k, hsteps⟩⟩
      · cases h
    · rename_i v rd s2 hc
      obtain ⟨F, ⟨fv, first, cap, nx, hfun, hinv, hst⟩, hn, _⟩ := hcall _ _ _ _ _ _ _ hc g1 w1 _ _ a1 (hgl.ext a2) hrx hry
      obtain ⟨g2, w2, cv, b1, b2, b3, b4⟩ := hn rfl (mkF B tm (mark ++ df) (.inRangeFunc l :: k)) (csAt f.recd cs0)
      simp only [Option.some.injEq, Prod.mk.injEq] at h
      obtain ⟨rfl, rfl, rfl⟩ := h
      have hext := a2.trans b2
      exact ⟨g2, w2, tm, mark ++ df, b1, hext, ⟨hf.env.mono hext.ge, hf.dom, hf.size, a5.mono b2.ge b2.dfr, Nat.le_trans hf.lo hext.size⟩, hrc.mono hext.ge, rfl, ⟨cv, .inRangeFunc l :: k, b3, trivial, .head (s_range a6 hfun (by simpa using hinv) hst) b4⟩⟩
    · cases h
  | _ => simp [ckCode] at hck

/- a state whose older blocks are shut, and back; its new blocks given up -/
theorem StR.shutRo {C : CodeR} {g : Gh} {s : St} {w : World} (h : StR L.toLk C g s w) : StR L.toLk C g { s with ro := s.bl.length } w :=
  ⟨h.bl, h.tk, h.blocks, fun i j b hi hj => by
    rcases h.inj i j b hi hj with h1 | ⟨h1, _⟩
    · exact .inl h1
    · refine .inr ⟨h1, ?_⟩
      have a := (List.getElem?_eq_some_iff.1 hi).1
      have b := (List.getElem?_eq_some_iff.1 hj).1
      rw [h.bl] at a b
      exact ⟨fun _ => by simp only at *; omega, fun _ => by simp only at *; omega⟩, h.sep, h.blBase, h.toks, h.tokInj, h.immIn, h.baseIn, h.dfr, h.lps, Nat.le_refl _, h.rt⟩

theorem StR.unshut {C : CodeR} {g g' : Gh} {s s' : St} {w w' : World} (hs : StR L.toLk C g s w) (h : StR L.toLk C g' s' w') (hx : Ext g { s with ro := s.bl.length } w g' s' w') {bl : List AB} (hl : bl.length = s'.bl.length) (hlt : ∀ i, i < s.bl.length → bl[i]? = s'.bl[i]?)
    (hge : ∀ i, s.bl.length ≤ i → bl[i]? = s'.bl[i]? ∨ bl[i]? = some .dead ∧ ∃ x, s'.bl[i]? = some x ∧ x.isCells = true) : StR L.toLk C g' { s' with bl := bl, ro := s.ro } w' ∧ Ext g s w g' { s' with bl := bl, ro := s.ro } w' := by
  have hro : s'.ro = s.bl.length := hx.ro
  have hsro := hs.ro
  refine ⟨⟨by rw [h.bl, hl], h.tk, ?_, ?_, h.sep, h.blBase, h.toks, h.tokInj, h.immIn, h.baseIn, h.dfr, h.lps, by have := h.ro; simp only; omega, h.rt⟩, ?_⟩
  · intro i b x hi hxx
    simp only at hxx
    by_cases hlo : i < s.bl.length
    · rw [hlt i hlo] at hxx; exact h.blocks i b x hi hxx
    · rcases hge i (by omega) with h1 | ⟨h1, y, h2, h3⟩
      · rw [h1] at hxx; exact h.blocks i b x hi hxx
      · rw [h1] at hxx
        cases hxx
        have := h.blocks i b y hi h2
        cases y with
        | cells cs => obtain ⟨vs, rest, e, q, _⟩ := this; exact ⟨_, e, q⟩
        | dead => exact this
        | _ => cases h3
  · intro i j b hi hj
    rcases h.inj i j b hi hj with h1 | ⟨h1, h2⟩
    · exact .inl h1
    · by_cases hne : i = j
      · exact .inl hne
      refine .inr ?_
      have dd : ∀ i : Nat, s'.bl[i]? = some AB.dead → bl[i]? = some AB.dead := by
        intro i hd
        by_cases hlo : i < s.bl.length
        · rw [hlt i hlo]; exact hd
        · rcases hge i (by omega) with h1 | ⟨h1, _⟩
          · rw [h1]; exact hd
          · exact h1
      refine ⟨h1.imp (dd i) (dd j), ?_⟩
      simp only
      rw [hro] at h2
      by_cases hlo : s.bl.length ≤ i
      · have := h2.1 hlo; omega
      · have hj' : ¬ s.bl.length ≤ j := fun h => hlo (h2.2 h)
        have g1 : g.bl[i]? = some b := by
          have : i < g.bl.length := by rw [hs.bl]; omega
          have h3 := hx.ge.bl i _ (List.getElem?_eq_getElem this)
          rw [hi] at h3; cases h3
          exact List.getElem?_eq_getElem this
        have g2 : g.bl[j]? = some b := by
          have : j < g.bl.length := by rw [hs.bl]; omega
          have h3 := hx.ge.bl j _ (List.getElem?_eq_getElem this)
          rw [hj] at h3; cases h3
          exact List.getElem?_eq_getElem this
        rcases hs.inj i j b g1 g2 with h3 | ⟨_, h3⟩
        · exact absurd h3 hne
        · exact h3
  · refine ⟨hx.ge, hx.dfr, hx.base, hx.old, hx.size, hx.os, hx.out, hx.tape, rfl, hx.rt, fun i hi => ?_, hx.tks, fun i b hi hb => hx.hp i b (by simp only; omega) hb, hx.immOld⟩
    show bl[i]? = _
    rw [hlt i (by omega)]
    exact hx.bls i (by simp only; omega)

theorem sameL_eq : ∀ {a b : List AB}, AB.sameL a b = true → a = b
  | [], [], _ => rfl
  | [], _ :: _, h => by simp [AB.sameL] at h
  | _ :: _, [], h => by simp [AB.sameL] at h
  | x :: a, y :: b, h => by
    simp only [AB.sameL, Bool.and_eq_true] at h
    rw [sameL_eq h.2]
    have h1 := h.1
    cases x <;> cases y <;> simp [AB.same] at h1 <;> simp [h1]

/- two orders -/
theorem join_sim {N lo : Nat} {vars : List Nat} {bu : Bool} {ks : List Nat} {f f' : Fr} {s s' : St} {o : Out} {A D : R} (h : joinR bu ks f.rnd s A D = some (o, f', s')) {g : Gh} {w : World} (hs : StR L.toLk (CkR P L) g s w) {M : Machine} {B : Frame} {cs0 : List Frame} {k : List Item} (b : Bool)
    (hsim : ∀ {o : Out} {f1 : Fr} {s1 : St}, (if b then A else D) = some (o, f1, s1) → ∃ g' w' tm' df', SimTo P L N vars lo g { s with ro := s.bl.length } w M B cs0 k o f.rnd f1 s1 g' w' tm' df') :
    ∃ g' w' tm' df', SimTo P L N vars lo g s w M B cs0 k o f.rnd f' s' g' w' tm' df' := by
  unfold joinR at h
  split at h
  · rename_i oo f1 s1 o2 f2 s2
    simp only [Option.ite_none_right_eq_some, Option.some.injEq, Prod.mk.injEq] at h
    · obtain ⟨⟨⟨⟨rfl, he⟩, hd, hr, hrd⟩, ⟨hl, ht⟩, hb⟩, rfl, rfl, rfl⟩ := h
      -- the order that came
      obtain ⟨fx, sx, hx, hfd, hfr, hfc, hex, hlx, htx, hbx⟩ : ∃ fx sx, (if b then some (oo, f1, s1) else some (oo, f2, s2)) = some (oo, fx, sx) ∧ f1.defers = fx.defers ∧ f1.rcv = fx.rcv ∧ f1.recd = fx.recd ∧ f1.env.kill ks = fx.env.kill ks ∧ sx.bl.length = s1.bl.length ∧ s1.tk = sx.tk ∧
          (if bu then (sx.bl.drop s.bl.length).all AB.isCells = true else s1.bl.drop s.bl.length = sx.bl.drop s.bl.length) := by
        cases b with
        | true => exact ⟨f1, s1, rfl, rfl, rfl, rfl, rfl, rfl, rfl, by cases bu with
          | true => simp only [if_true, Bool.and_eq_true] at hb ⊢; exact hb.1
          | false => rfl⟩
        | false => exact ⟨f2, s2, rfl, hd, hr, hrd, he, hl.symm, ht, by cases bu with
          | true => simp only [if_true, Bool.and_eq_true] at hb ⊢; exact hb.2
          | false => simp only [Bool.false_eq_true, if_false] at hb ⊢; exact sameL_eq hb⟩
      obtain ⟨g', w', tm', df', q⟩ := hsim hx
      have hlow : ∀ i, i < s.bl.length → sx.bl[i]? = s.bl[i]? := fun i hi => q.ext.bls i (by simpa using hi)
      have hrt := q.ext.rt
      have hrt : sx.rt = s.rt := hrt
      have hlen : s.bl.length ≤ sx.bl.length := by
        rcases Nat.lt_or_ge sx.bl.length s.bl.length with h | h
        · have := hlow sx.bl.length h
          rw [List.getElem?_eq_none (Nat.le_refl _), List.getElem?_eq_getElem h] at this
          cases this
        · exact h
      obtain ⟨bl, hbl⟩ : ∃ bl, bl = s.bl ++ (if bu then (s1.bl.drop s.bl.length).map (fun _ => AB.dead) else s1.bl.drop s.bl.length) := ⟨_, rfl⟩
      rw [← hbl]
      have key := StR.unshut hs q.st q.ext (bl := bl) (by rw [hbl]; split <;> simp <;> omega) (fun i hi => by rw [hbl, List.getElem?_append_left hi, hlow i hi]) (fun i hi => by
        rw [hbl, List.getElem?_append_right hi]
        cases bu with
        | true =>
          simp only [if_true] at hbx ⊢
          by_cases h2 : i < sx.bl.length
          · refine .inr ⟨?_, sx.bl[i], List.getElem?_eq_getElem h2, ?_⟩
            · rw [List.getElem?_map, List.getElem?_eq_getElem (by simp; omega)]; rfl
            · refine List.all_eq_true.1 hbx _ ?_
              rw [List.mem_iff_getElem?]
              exact ⟨i - s.bl.length, by rw [List.getElem?_drop, show s.bl.length + (i - s.bl.length) = i by omega]; exact List.getElem?_eq_getElem h2⟩
          · refine .inl ?_
            rw [List.getElem?_eq_none (by simp; omega), List.getElem?_eq_none (by omega)]
        | false =>
          simp only [Bool.false_eq_true, if_false] at hbx ⊢
          refine .inl ?_
          rw [hbx, List.getElem?_drop, show s.bl.length + (i - s.bl.length) = i by omega])
      have hst : ({ s with bl := bl, tk := s1.tk } : St) = { sx with bl := bl, ro := s.ro } := by
        rw [htx]
        cases s; cases sx
        simp only at hrt
        subst hrt; rfl
      rw [hst]
      have hfe : ({ f1 with env := f1.env.kill ks, rnd := f.rnd } : Fr) = { fx with env := fx.env.kill ks } := by
        have := q.rnd
        cases f1; cases fx
        simp only at hfd hfr hfc hex this
        subst hfd hfr hfc this
        rw [hex]
      rw [hfe]
      exact ⟨g', w', tm', df', key.1, key.2, q.fr.kill ks, q.rcv, q.rnd, q.to⟩
  · cases h

/- a region and what comes behind -/
theorem then_sim {n N lo : Nat} {vars : List Nat} {rest : ICode} {c : Code} (hrest : CodeSim P L E call n N vars c rest) {f f1 : Fr} {s s1 : St} {o : Out} {q : R} (h : thenR (codeA E call n rest) q = some (o, f1, s1)) {g : Gh} {w : World} (hgl : GlR L E g w) {M : Machine} {B : Frame} {cs0 : List Frame} {k : List Item}
    (hsim : ∀ {o : Out} {f1 : Fr} {s1 : St}, q = some (o, f1, s1) → ∃ g' w' tm' df', SimTo P L N vars lo g s w M B cs0 (.code c :: k) o f.rnd f1 s1 g' w' tm' df') :
    ∃ g' w' tm' df', SimTo P L N vars lo g s w M B cs0 k o f.rnd f1 s1 g' w' tm' df' := by
  unfold thenR at h
  split at h
  · rename_i f2 s2
    obtain ⟨g1, w1, tm1, df1, h2⟩ := hsim rfl
    obtain ⟨g2, w2, tm2, df2, h3⟩ := hrest h h2.st (hgl.ext h2.ext) h2.fr h2.rcv k
    exact ⟨g2, w2, tm2, df2, h3.head h2.to h2.ext h2.rnd⟩
  · rename_i hn
    obtain ⟨g1, w1, tm1, df1, h2⟩ := hsim h
    refine ⟨g1, w1, tm1, df1, SimTo.pass (k' := .code c :: k) (fun e => ?_) (fun id _ => rfl) h2⟩
    subst e
    exact hn _ _ h

theorem code_sim (hinj : ∀ a b, L.tyOf a = L.tyOf b → a = b) (hcall : CallSim P L E call) (hcalm : CalmOk E call) {n N : Nat} {vars : List Nat} : ∀ (c : Code) (ic : ICode), ckCode P L N vars ic c = true → CodeSim P L E call n N vars c ic := by
  intro c
  induction c with
  | skip =>
    intro ic hck f f' s s' o h g w hs hgl lo tm df hf B cs0 hrc k
    cases ic <;> simp [ckCode] at hck
    simp only [codeA, Option.some.injEq, Prod.mk.injEq] at h
    obtain ⟨rfl, rfl, rfl⟩ := h
    exact ⟨g, w, tm, df, hs, .refl _ _ _, hf, hrc, rfl, .one s_skip⟩
  | label l =>
    intro ic hck f f' s s' o h g w hs hgl lo tm df hf B cs0 hrc k
    cases ic <;> simp [ckCode] at hck
    simp only [codeA, Option.some.injEq, Prod.mk.injEq] at h
    obtain ⟨rfl, rfl, rfl⟩ := h
    exact ⟨g, w, tm, df, hs, .refl _ _ _, hf, hrc, rfl, .one s_label⟩
  | region id ops draw =>
    intro ic hck f f' s s' o h g w hs hgl lo tm df hf B cs0 hrc k
    cases ic with
    | region ops keep draw' => exact region_sim hinj hcall hcalm hck h hs hgl hf hrc k
    | alt ord x y bu ops keep rest ks =>
      cases rest with
      | skip =>
        simp only [ckCode, Bool.and_eq_true] at hck
        obtain ⟨⟨⟨⟨rfl, hops⟩, hkeep⟩, hdst⟩, hmix, halt⟩ := hck
        simp only [codeA] at h
        obtain ⟨b, hb⟩ := region_alt (id := id) hinj hcall hcalm hops hkeep hdst hmix halt hs.shutRo (hgl.ext (g' := g) (w' := w) (s := s) (s' := s) (.refl _ _ _)) hf hrc k
        refine join_sim h hs b fun {o f1 s1} hq => ?_
        have hq' : thenR (fun f s => some (.normal, f, s)) (regR keep f.env (opsA E call true (if b then ops else inOrd ord ops) f f.env { s with ro := s.bl.length })) = some (o, f1, s1) := by
          cases b with
          | true => exact hq
          | false => exact hq
        refine hb ?_
        rw [← hq']
        generalize regR keep f.env (opsA E call true (if b then ops else inOrd ord ops) f f.env { s with ro := s.bl.length }) = q
        unfold thenR
        split <;> rfl
      | _ => simp [ckCode] at hck
    | _ => simp [ckCode] at hck
  | seq a b iha ihb =>
    intro ic hck f f' s s' o h g w hs hgl lo tm df hf B cs0 hrc k
    cases ic with
    | seq a' b' =>
      simp only [ckCode, Bool.and_eq_true] at hck
      simp only [codeA] at h
      split at h
      · rename_i f1 s1 h1
        obtain ⟨g1, w1, tm1, df1, h2⟩ := iha _ hck.1 h1 hs hgl hf hrc (.code b :: k)
        obtain ⟨g2, w2, tm2, df2, h3⟩ := ihb _ hck.2 h h2.st (hgl.ext h2.ext) h2.fr h2.rcv k
        exact ⟨g2, w2, tm2, df2, h3.head (.head s_seq h2.to) h2.ext h2.rnd⟩
      · rename_i hn
        obtain ⟨g1, w1, tm1, df1, h2⟩ := iha _ hck.1 h hs hgl hf hrc (.code b :: k)
        refine ⟨g1, w1, tm1, df1, SimTo.head (.one s_seq) (.refl _ _ _) rfl (SimTo.pass (k' := .code b :: k) (fun e => ?_) (fun id _ => rfl) h2)⟩
        subst e
        exact hn _ _ h
    | alt ord x y bu ops keep rest ks =>
      cases a with
      | region id cops draw =>
        cases draw with
        | true =>
          simp only [ckCode, Bool.and_eq_true] at hck
          obtain ⟨⟨⟨⟨hops, hkeep⟩, hdst⟩, hmix, halt⟩, hrest⟩ := hck
          simp only [codeA] at h
          obtain ⟨b', hb⟩ := region_alt (id := id) hinj hcall hcalm hops hkeep hdst hmix halt hs.shutRo hgl hf hrc (.code b :: k)
          obtain ⟨g1, w1, tm1, df1, h1⟩ := join_sim (k := k) (M := lone (mkF B tm df (.code (.region id cops true) :: .code b :: k)) (csAt f.recd cs0) w) h hs b' fun {o f1 s1} hq => by
            have hq' : thenR (codeA E call n rest) (regR keep f.env (opsA E call true (if b' then ops else inOrd ord ops) f f.env { s with ro := s.bl.length })) = some (o, f1, s1) := by
              cases b' with
              | true => exact hq
              | false => exact hq
            exact then_sim (ihb _ hrest) hq' hgl hb
          exact ⟨g1, w1, tm1, df1, SimTo.head (.one s_seq) (.refl _ _ _) rfl h1⟩
        | false => simp [ckCode] at hck
      | _ => simp [ckCode] at hck
    | _ => simp [ckCode] at hck
  | cond x a b iha ihb =>
    intro ic hck f f' s s' o h g w hs hgl lo tm df hf B cs0 hrc k
    cases ic with
    | cond x' a' b' =>
      simp only [ckCode, Bool.and_eq_true] at hck
      have hx := (evs_of (E := E) hf.env hgl).rep _ _ hck.1.1
      simp only [codeA] at h
      split at h
      · rename_i hv
        rw [hv] at hx; simp only [Rep] at hx
        obtain ⟨g1, w1, tm1, df1, h2⟩ := iha _ hck.1.2 h hs hgl hf hrc k
        exact ⟨g1, w1, tm1, df1, SimTo.head (.one (s_cond (t := true) hx)) (.refl _ _ _) rfl h2⟩
      · rename_i hv
        rw [hv] at hx; simp only [Rep] at hx
        obtain ⟨g1, w1, tm1, df1, h2⟩ := ihb _ hck.2 h hs hgl hf hrc k
        exact ⟨g1, w1, tm1, df1, SimTo.head (.one (s_cond (t := false) hx)) (.refl _ _ _) rfl h2⟩
      · cases h
    | _ => simp [ckCode] at hck
  | block id b ih =>
    intro ic hck f f' s s' o h g w hs hgl lo tm df hf B cs0 hrc k
    cases ic with
    | block id' b' =>
      simp only [ckCode, Bool.and_eq_true, beq_iff_eq] at hck
      obtain ⟨rfl, hck⟩ := hck
      simp only [codeA] at h
      split at h
      · rename_i j f1 s1 h1
        obtain ⟨g1, w1, tm1, df1, h2⟩ := ih _ hck h1 hs hgl hf hrc (.inBlock id :: k)
        split at h
        · rename_i hj
          subst hj
          simp only [Option.some.injEq, Prod.mk.injEq] at h
          obtain ⟨rfl, rfl, rfl⟩ := h
          obtain ⟨k2, e1, e2⟩ := h2.to
          refine ⟨g1, w1, tm1, df1, h2.st, h2.ext, h2.fr, h2.rcv, h2.rnd, Steps.head s_block (Steps.trans e2 (.one (s_exit ?_)))⟩
          rw [e1]; simp [exitTo]
        · rename_i hj
          simp only [Option.some.injEq, Prod.mk.injEq] at h
          obtain ⟨rfl, rfl, rfl⟩ := h
          refine ⟨g1, w1, tm1, df1, SimTo.head (.one s_block) (.refl _ _ _) rfl (SimTo.pass (k' := .inBlock id :: k) (by simp) (fun id' e => ?_) h2)⟩
          cases e
          simp [exitTo, Ne.symm hj]
      · rename_i hn
        obtain ⟨g1, w1, tm1, df1, h2⟩ := ih _ hck h hs hgl hf hrc (.inBlock id :: k)
        cases o with
        | normal => exact ⟨g1, w1, tm1, df1, h2.st, h2.ext, h2.fr, h2.rcv, h2.rnd, Steps.head s_block (Steps.trans h2.to (.one s_inBlock))⟩
        | exit j => exact absurd h (hn _ _ _)
        | ret => exact ⟨g1, w1, tm1, df1, SimTo.head (.one s_block) (.refl _ _ _) rfl (SimTo.pass (k' := .inBlock id :: k) (by simp) (fun id' e => by cases e) h2)⟩
        | pan v => exact ⟨g1, w1, tm1, df1, SimTo.head (.one s_block) (.refl _ _ _) rfl (SimTo.pass (k' := .inBlock id :: k) (by simp) (fun id' e => by cases e) h2)⟩
    | _ => simp [ckCode] at hck
  | loop b ih =>
    intro ic hck f f' s s' o h g w hs hgl lo tm df hf B cs0 hrc k
    cases ic with
    | loop ks b' =>
      simp only [ckCode] at hck
      simp only [codeA] at h
      obtain ⟨g1, w1, tm1, df1, h2⟩ := iter_sim (ih _ hck) n h hs hgl hf hrc k
      exact ⟨g1, w1, tm1, df1, SimTo.head (.one s_loop) (.refl _ _ _) rfl h2⟩
    | _ => simp [ckCode] at hck
  | rangeFunc x ps a b _ _ =>
    intro ic hck
    exact range_sim hcall hck
  | exit id =>
    intro ic hck f f' s s' o h g w hs hgl lo tm df hf B cs0 hrc k
    cases ic <;> simp [ckCode] at hck
    subst hck
    simp only [codeA, Option.some.injEq, Prod.mk.injEq] at h
    obtain ⟨rfl, rfl, rfl⟩ := h
    exact ⟨g, w, tm, df, hs, .refl _ _ _, hf, hrc, rfl, ⟨k, rfl, .refl _ _⟩⟩
  | ret =>
    intro ic hck f f' s s' o h g w hs hgl lo tm df hf B cs0 hrc k
    cases ic <;> simp [ckCode] at hck
    simp only [codeA, Option.some.injEq, Prod.mk.injEq] at h
    obtain ⟨rfl, rfl, rfl⟩ := h
    exact ⟨g, w, tm, df, hs, .refl _ _ _, hf, hrc, rfl, ⟨k, .refl _ _⟩⟩
  | scope b ih =>
    intro ic hck f f' s s' o h g w hs hgl lo tm df hf B cs0 hrc k
    simp only [ckCode] at hck
    obtain ⟨g1, w1, tm1, df1, h2⟩ := ih _ hck h hs hgl hf hrc (.inScope b :: k)
    cases o with
    | normal => exact ⟨g1, w1, tm1, df1, h2.st, h2.ext, h2.fr, h2.rcv, h2.rnd, Steps.head s_scope (Steps.trans h2.to (.one s_inScope))⟩
    | exit j => exact ⟨g1, w1, tm1, df1, SimTo.head (.one s_scope) (.refl _ _ _) rfl (SimTo.pass (k' := .inScope b :: k) (by simp) (fun id' e => rfl) h2)⟩
    | ret => exact ⟨g1, w1, tm1, df1, SimTo.head (.one s_scope) (.refl _ _ _) rfl (SimTo.pass (k' := .inScope b :: k) (by simp) (fun id' e => by cases e) h2)⟩
    | pan v => exact ⟨g1, w1, tm1, df1, SimTo.head (.one s_scope) (.refl _ _ _) rfl (SimTo.pass (k' := .inScope b :: k) (by simp) (fun id' e => by cases e) h2)⟩
  | goto l => intro ic hck; simp [ckCode] at hck
  | refuse y => intro ic hck; simp [ckCode] at hck
end
end Ab

/- A frame's end: calls that were put off, results; what a callee leaves of the state. Its condition: calls do what the abstract run says. -/
namespace Ab
open Go

section
variable {P : Program} {L : Link} {E : IEnv} {call : Caller}

theorem StR.takeDfr {C : CodeR} {g g0 : Gh} {s s0 : St} {w w0 : World} (h : StR L.toLk C g s w) {d : Nat} (hd : d ∈ g.dfr) (h0 : StR L.toLk C g0 s0 w0) (hx : Ext g0 s0 w0 g s w) (hd0 : w0.heap.size ≤ d) :
    StR L.toLk C { g with dfr := g.dfr.filter fun x => decide (x ≠ d) } s (w.putObj d (.deferred none)) ∧ GE g w { g with dfr := g.dfr.filter fun x => decide (x ≠ d) } (w.putObj d (.deferred none)) ∧ Ext g0 s0 w0 { g with dfr := g.dfr.filter fun x => decide (x ≠ d) } s (w.putObj d (.deferred none)) ∧ RowKit.Below g.base w (w.putObj d (.deferred none)) := by
  obtain ⟨hh, hb⟩ := h.dfr d hd
  obtain ⟨p1, p2, p3⟩ := heap_putObj (o' := .deferred none) hh
  have hge : GE g w { g with dfr := g.dfr.filter fun x => decide (x ≠ d) } (w.putObj d (.deferred none)) := by
    refine ⟨fun _ _ h => h, fun _ T hT => ⟨T, hT, Nat.le_refl _, fun _ => rfl⟩, fun b o hi => ⟨hi, ?_⟩, fun _ h => h, .no p2 hh fun _ _ _ h => by cases h⟩
    by_cases e : b = d
    · subst e; simp only [World.cell?, p1, hh]
    · exact cell?_congr (p2 b e) _
  have hbl : ∀ (i b : Nat), g.bl[i]? = some b → b ≠ d := fun i b hi e => by
    subst e
    obtain ⟨x, _, hx⟩ := h.ab? hi
    exact hx.notDeferred hh
  refine ⟨⟨h.bl, h.tk, fun i b x hi hx => (h.blocks i b x hi hx).mono hge (p2 b (hbl i b hi)), h.inj, h.sep, h.blBase, ?_, h.tokInj, fun b o hi => by rw [p3]; exact h.immIn b o hi, by rw [p3]; exact h.baseIn, ?_, ?_, h.ro, h.rt⟩, hge, ?_, ⟨rfl, rfl, rfl, by rw [p3]; exact Nat.le_refl _, fun k hk => p2 k (by omega)⟩⟩
  · intro t T hT
    have T' := (h.toks t T hT).same (w' := w.putObj d (.deferred none)) (p2 _ fun e => by
      obtain ⟨c, e', fz, h1, _⟩ := (h.toks t T hT).space
      rw [e, hh] at h1; cases h1)
    exact ⟨T'.spot, T'.space, T'.top, T'.free, T'.own, T'.base⟩
  · intro x hx
    simp only [List.mem_filter, decide_eq_true_eq] at hx
    obtain ⟨h1, h2⟩ := h.dfr x hx.1
    exact ⟨(p2 x hx.2).trans h1, h2⟩
  · intro x hx
    obtain ⟨lp, h1⟩ := h.lps x hx
    exact ⟨lp, (p2 x fun e => by subst e; rw [hh] at h1; cases h1).trans h1⟩
  · refine ⟨hx.ge.trans hge, fun x hx0 => ?_, hx.base, fun b hb0 => (p2 b fun e => ?_).trans (hx.old b hb0), by rw [p3]; exact hx.size, hx.os, hx.out, hx.tape, hx.ro, hx.rt, hx.bls, hx.tks, fun i b hi hb0 => (p2 b (hbl i b (hx.ge.bl i b hb0))).trans (hx.hp i b hi hb0), hx.immOld⟩
    · simp only [List.mem_filter, decide_eq_true_eq]
      refine ⟨hx.dfr x hx0, fun e => ?_⟩
      subst e
      exact absurd (lt_of_heap (h0.dfr x hx0).1) (by omega)
    · subst e
      rw [hx.base] at hb; omega

def ModeR (L : Lk) (g : Gh) (w : World) : Option AV → FrameMode → Prop
  | none, m => m = .returning
  | some v, m => ∃ pv, m = .panicking [{ v := pv, recovered := false }] ∧ Rep L g w v pv

theorem ModeR.mono {L : Lk} {g g' : Gh} {w w' : World} (hg : GE g w g' w') {p : Option AV} {m : FrameMode} (h : ModeR L g w p m) : ModeR L g' w' p m := by
  cases p with
  | none => exact h
  | some v => obtain ⟨pv, h1, h2⟩ := h; exact ⟨pv, h1, Rep.mono hg _ _ h2⟩

theorem ModeR.notRun {L : Lk} {g : Gh} {w : World} {p : Option AV} {m : FrameMode} (h : ModeR L g w p m) : m ≠ .run := by
  cases p with
  | none => rw [show m = .returning from h]; simp
  | some v => obtain ⟨pv, h1, _⟩ := h; rw [h1]; simp

theorem s_unwind_mark {fr : Frame} {cs : List Frame} {w w' : World} {d : Nat} {ds calls : List Deferred} (hm : fr.mode ≠ .run) (hd : fr.defers = { target := .collected d, args := #[] } :: ds) (ht : (Instr.takeDeferred d).run P w = .ok calls w') :
    step P (lone fr cs w) = .next (lone { fr with defers := calls ++ ds } cs w') := by
  refine step_lone_go ?_
  cases hmode : fr.mode with
  | run => exact absurd hmode hm
  | returning => simp [stepG, unwind, hmode, hd, Sem.runT_eq, ht]
  | panicking chain => simp [stepG, unwind, hmode, hd, Sem.runT_eq, ht]

theorem s_unwind_call {fr : Frame} {cs : List Frame} {w : World} {fv : Fn} {cap : Array Value} {args : Array Value} {ds : List Deferred} {nx : Next} {F : CallKind → Frame} (hm : fr.mode ≠ .run) (hd : fr.defers = { target := .fn fv cap, args } :: ds)
    (hi : (invoke (.fn fv cap) args).run P w = .ok nx w) (hF : StartsBy P nx F) :
    step P (lone fr cs w) = .next (lone (F .deferred) ({ fr with defers := ds } :: cs) w) := by
  refine step_lone_go ?_
  rcases hF with ⟨f, a, rfl, rfl⟩ | ⟨l, f, tms, a, b, rfl, rfl⟩
  · cases hmode : fr.mode with
    | run => exact absurd hmode hm
    | returning => simp [stepG, unwind, callDeferred, hmode, hd, Sem.runT_eq, hi]
    | panicking chain => simp [stepG, unwind, callDeferred, hmode, hd, Sem.runT_eq, hi]
  · cases hmode : fr.mode with
    | run => exact absurd hmode hm
    | returning => simp [stepG, unwind, callDeferred, hmode, hd, Sem.runT_eq, hi]
    | panicking chain => simp [stepG, unwind, callDeferred, hmode, hd, Sem.runT_eq, hi]

theorem unwind_sim (hcall : CallSim P L E call) {g0 : Gh} {s0 : St} {w0 : World} (h0 : StR L.toLk (CkR P L) g0 s0 w0) {lo : Nat} (hlo : w0.heap.size ≤ lo) : ∀ {df : List Deferred} {ds : List (AV × List AV)} {g : Gh} {w : World} (_ : DRel L.toLk g w lo ds df) {p : Option AV} {s : St} {p' : Option AV} {s' : St} (_ : unwindA E call ds p s = some (p', s'))
    (_ : StR L.toLk (CkR P L) g s w) (_ : Ext g0 s0 w0 g s w) (_ : GlR L E g w) (fr : Frame) (cs : List Frame) (_ : fr.defers = df) (_ : ModeR L.toLk g w p fr.mode),
    ∃ g' w' m', StR L.toLk (CkR P L) g' s' w' ∧ Ext g0 s0 w0 g' s' w' ∧ GE g w g' w' ∧ ModeR L.toLk g' w' p' m' ∧ Steps P (lone fr cs w) (lone { fr with defers := [], mode := m' } cs w')
  | [], ds, g, w, hD, p, s, p', s', h, hs, hx, hgl, fr, cs, hfr, hm => by
    cases hD
    simp only [unwindA, Option.some.injEq, Prod.mk.injEq] at h
    obtain ⟨rfl, rfl⟩ := h
    refine ⟨g, w, fr.mode, hs, hx, .refl _ _, hm, ?_⟩
    rw [← hfr]; exact .refl _ _
  | c :: df, ds, g, w, hD, p, s, p', s', h, hs, hx, hgl, fr, cs, hfr, hm => by
    cases hD with
    | coll d _ _ hd hld hn hr =>
      obtain ⟨a1, a2, a3, a4⟩ := hs.takeDfr hd h0 hx (by omega)
      have hr' := hr.mono' a2 (fun c hc d' e hd' => by
        simp only [List.mem_filter, decide_eq_true_eq]
        refine ⟨hd', fun e' => ?_⟩
        subst e'
        exact hn c hc e)
      obtain ⟨g', w', m', b1, b2, b3, b4, b5⟩ := unwind_sim hcall h0 hlo hr' h a1 a3 (hgl.mono' a2 rfl a4) { fr with defers := [] ++ df } cs rfl (hm.mono a2)
      exact ⟨g', w', m', b1, b2, a2.trans b3, b4, .head (s_unwind_mark hm.notRun hfr (run_takeDeferred (hs.dfr d hd).1)) b5⟩
    | call tgt args fv first cap cargs ds' _ htg ha hr =>
      simp only [unwindA] at h
      split at h
      · rename_i hown
        split at h
        · rename_i v recd s1 hc
          obtain ⟨F, ⟨fv', first', cap', nx, hfun, hinv, hst⟩, _, hdfr⟩ := hcall _ _ _ _ _ _ _ hc g w _ _ hs hgl htg ha
          cases hfun
          obtain ⟨g1, w1, c1, c2, c3⟩ := hdfr hown { fr with defers := df } cs (by
            cases p with
            | none => exact hm
            | some v => exact hm)
          simp only at c3
          obtain ⟨g', w', m', b1, b2, b3, b4, b5⟩ := unwind_sim hcall h0 hlo (hr.mono c2.ge c2.dfr) h c1 (hx.trans c2) (hgl.ext c2) { { fr with defers := df } with mode := if recd then .returning else fr.mode } cs rfl (by
            cases recd with
            | true => rfl
            | false => exact hm.mono c2.ge)
          exact ⟨g', w', m', b1, b2, c2.ge.trans b3, b4, .head (s_unwind_call hm.notRun hfr hinv hst) (Steps.trans c3 b5)⟩
        · cases h
      · cases h

def resOk (P : Program) : List ResultVar → List IRes → Bool
  | [], [] => true
  | .tmp t :: r, .t n :: q => t == n && resOk P r q
  | .cell a t :: r, .cell b agg n :: q => a == b && isAggP P t == some agg && szOf P t == some n && (agg || n == 1) && resOk P r q
  | _, _ => false

theorem loadVar_sound {C : CodeR} {g : Gh} {s : St} {w : World} (hs : StR L.toLk C g s w) {t : TypeId} {agg : Bool} {n : Nat} (ha : isAggP P t = some agg) (hn : szOf P t = some n) (h1 : agg = true ∨ n = 1) {a x : AV} {ca : Value}
    (hra : Rep L.toLk g w a ca) (h : loadA s agg n a = some x) : ∃ ad cv, ca = .pointer (some ad) ∧ (loadVar t ad).run P w = .ok cv w ∧ Rep L.toLk g w x cv := by
  obtain ⟨cv, h2, h3⟩ := loadA_sound (P := P) hs ha hn h1 hra h
  cases a <;> simp only [loadA] at h <;> try cases h
  · simp only [Rep] at hra
    obtain ⟨b, _, rfl⟩ := hra
    exact ⟨_, cv, rfl, by simpa [Instr.loadAt, Instr.sureAddr] using h2, h3⟩
  · simp only [Rep] at hra
    obtain ⟨b, _, _, rfl, _⟩ := hra
    exact ⟨_, cv, rfl, by simpa [Instr.loadAt, Instr.sureAddr] using h2, h3⟩

def resStep (tm : Array Value) : ResultVar → Sem Value
  | .tmp t => pure (tm.getD t undef)
  | .cell a t => do loadVar t (← asAddr (tm.getD a undef))

theorem results_eq (fn : Func) (tm : Array Value) : results fn tm = (do
    let vs ← fn.results.mapM (resStep tm)
    pure (if h : vs.size = 1 then vs[0] else .tuple vs)) := by
  unfold results
  congr 1

theorem res_sound {C : CodeR} {g : Gh} {s : St} {w : World} (hs : StR L.toLk C g s w) {e : Env} {tm : Array Value} (he : EnvR L.toLk g w e tm) : ∀ {rs : List ResultVar} {is : List IRes} {vs : List AV}, resOk P rs is = true → resA e s is = some vs →
    ∃ cs, (rs.mapM (resStep tm)).run P w = .ok cs w ∧ RepL L.toLk g w vs cs
  | [], [], vs, _, h => by
    simp only [resA, Option.some.injEq] at h
    subst h
    exact ⟨[], by simp [Sem.run_pure], by simp [RepL]⟩
  | .tmp t :: r, .t n :: q, vs, hk, h => by
    simp only [resOk, Bool.and_eq_true, beq_iff_eq] at hk
    obtain ⟨rfl, hk⟩ := hk
    simp only [resA] at h
    split at h
    · rename_i us hus
      cases h
      obtain ⟨cs, h1, h2⟩ := res_sound hs he hk hus
      exact ⟨tm.getD t undef :: cs, by simp only [List.mapM_cons, resStep, Sem.run_bind, Sem.run_pure, Result.andThen_ok, h1], by simp only [RepL]; exact ⟨_, _, rfl, he t, h2⟩⟩
    · cases h
  | .cell a t :: r, .cell b agg n :: q, vs, hk, h => by
    simp only [resOk, Bool.and_eq_true, beq_iff_eq, Bool.or_eq_true] at hk
    obtain ⟨⟨⟨⟨rfl, ha⟩, hn⟩, h1⟩, hk⟩ := hk
    simp only [resA] at h
    split at h
    · rename_i v us hv hus
      cases h
      obtain ⟨cs, h2, h3⟩ := res_sound hs he hk hus
      obtain ⟨ad, cv, h4, h5, h6⟩ := loadVar_sound (P := P) hs ha hn h1 (he a) hv
      refine ⟨cv :: cs, ?_, by simp only [RepL]; exact ⟨_, _, rfl, h6, h3⟩⟩
      simp only [List.mapM_cons, resStep, Sem.run_bind, h4, asAddr, Sem.run_pure, Result.andThen_ok, h5, h2]
    · cases h
  | [], _ :: _, _, hk, _ => by simp [resOk] at hk
  | .tmp _ :: _, [], _, hk, _ => by simp [resOk] at hk
  | .cell _ _ :: _, [], _, hk, _ => by simp [resOk] at hk
  | .tmp _ :: _, .cell _ _ _ :: _, _, hk, _ => by simp [resOk] at hk
  | .cell _ _ :: _, .t _ :: _, _, hk, _ => by simp [resOk] at hk

theorem results_sound {C : CodeR} {g : Gh} {s : St} {w : World} (hs : StR L.toLk C g s w) {e : Env} {tm : Array Value} (he : EnvR L.toLk g w e tm) {fn : Func} {is : List IRes} {vs : List AV} (hk : resOk P fn.results.toList is = true) (h : resA e s is = some vs) :
    ∃ cv, (results fn tm).run P w = .ok cv w ∧ Rep L.toLk g w (resOne vs) cv := by
  obtain ⟨cs, h1, h2⟩ := res_sound (P := P) hs he hk h
  have h3 : (fn.results.mapM (resStep tm)).run P w = .ok cs.toArray w := by
    rw [run_mapM_array, h1]; rfl
  refine ⟨if h : cs.toArray.size = 1 then cs.toArray[0] else .tuple cs.toArray, ?_, ?_⟩
  · rw [results_eq, Sem.run_bind, h3]
    simp only [Result.andThen_ok, Sem.run_pure]
  · match vs, cs, h2 with
    | [], [], _ => simp [resOne, Rep, RepL]
    | [v], [c], h2 =>
      simp only [RepL] at h2
      obtain ⟨_, _, e, h4, _⟩ := h2
      cases e
      simpa [resOne] using h4
    | v :: v' :: vs, c :: c' :: cs, h2 =>
      simp only [resOne, List.size_toArray, List.length_cons]
      rw [dif_neg (by omega)]
      simp only [Rep]
      exact ⟨_, rfl, h2⟩
    | [], _ :: _, h2 => simp [RepL] at h2
    | _ :: _, [], h2 => simp [RepL] at h2
    | [_], _ :: _ :: _, h2 => simp [RepL] at h2
    | _ :: _ :: _, [_], h2 =>
      have := h2.length
      simp at this
end
end Ab

/- What a callee leaves of the state; whole calls. Its conditions: functions are as the given texts say; calls further in do what the abstract run says. -/
namespace Ab
open Go

section
variable {P : Program} {L : Link} {E : IEnv} {call : Caller}

/- what is never written again when a call's own blocks are shut -/
def Gh.shut (g : Gh) (Q : Nat → Prop) : Gh := { g with imm := fun b o => g.imm b o ∨ Q b }

theorem GE.shut (g : Gh) (Q : Nat → Prop) (w : World) : GE g w (g.shut Q) w := ⟨fun _ _ h => h, fun _ T h => ⟨T, h, Nat.le_refl _, fun _ => rfl⟩, fun _ _ h => ⟨.inl h, rfl⟩, fun _ h => h, .refl _⟩

theorem restore {C : CodeR} {g gE : Gh} {s s2 : St} {w wE : World} (h : StR L.toLk C gE s2 wE) (hs : StR L.toLk C g s w) (hx : Ext g { s with ro := s.bl.length, rt := s.tk.length } w gE s2 wE) (ts : List TokI)
    (hts : ts = [] ∨ ∃ t T, ts = [T] ∧ gE.tk[t]? = some T ∧ s.tk.length ≤ t) (Q : Nat → Prop) (hQ : ∀ b, Q b → ∃ i, s.bl.length ≤ i ∧ gE.bl[i]? = some b) :
    StR L.toLk C { gE.shut Q with bl := g.bl, tk := g.tk ++ ts } { s with tk := s.tk ++ ts.map (·.top) } wE ∧ Ext g s w { gE.shut Q with bl := g.bl, tk := g.tk ++ ts } { s with tk := s.tk ++ ts.map (·.top) } wE := by
  have hlen : g.tk.length = s.tk.length := by rw [← hs.tk]; simp
  have hge : GE g w { gE.shut Q with bl := g.bl, tk := g.tk ++ ts } wE :=
    ⟨fun _ _ h => h, fun t T hT => ⟨T, by rw [List.getElem?_append_left (List.getElem?_eq_some_iff.1 hT).1]; exact hT, Nat.le_refl _, fun _ => rfl⟩, fun b o hi => ⟨.inl (hx.ge.imm b o hi).1, (hx.ge.imm b o hi).2⟩, hx.ge.lps, hx.ge.size⟩
  have hhp : ∀ (i b : Nat), g.bl[i]? = some b → wE.heap[b]? = w.heap[b]? := fun i b hb => hx.hp i b (by
    have := (List.getElem?_eq_some_iff.1 hb).1
    rw [hs.bl] at this; exact this) hb
  have hold : ∀ (t : Nat) (T : TokI), g.tk[t]? = some T → gE.tk[t]? = some T := by
    intro t T hT
    obtain ⟨T', h1, h2, h3⟩ := hx.ge.tk t T hT
    have hlt : t < s.tk.length := by rw [← hlen]; exact (List.getElem?_eq_some_iff.1 hT).1
    have h4 := hx.tks t hlt
    rw [← h.tk] at h4
    have h5 : s.tk[t]? = some T.top := by rw [← hs.tk]; simp [hT]
    simp only [h5, List.getElem?_map, h1, Option.map_some, Option.some.injEq] at h4
    rw [h3 h4] at h1
    exact h1
  have hcase : ∀ (t : Nat) (T : TokI), (g.tk ++ ts)[t]? = some T → (∃ u, gE.tk[u]? = some T ∧ (t < s.tk.length → u = t) ∧ (s.tk.length ≤ t → t = s.tk.length ∧ s.tk.length ≤ u ∧ ts = [T])) := by
    intro t T hT
    by_cases ht : t < g.tk.length
    · rw [List.getElem?_append_left ht] at hT
      exact ⟨t, hold t T hT, fun _ => rfl, fun h => by omega⟩
    · rw [List.getElem?_append_right (by omega)] at hT
      rcases hts with rfl | ⟨u, T', rfl, h1, h2⟩
      · simp at hT
      · have h0 : t - g.tk.length = 0 := by
          have := (List.getElem?_eq_some_iff.1 hT).1
          simp at this; omega
        rw [h0] at hT
        simp at hT
        subst hT
        exact ⟨u, h1, fun h => by omega, fun _ => ⟨by omega, h2, rfl⟩⟩
  refine ⟨⟨hs.bl, by simp [hs.tk], fun i b x hi hxx => (hs.blocks i b x hi hxx).mono hge (hhp i b hi), hs.inj, ?_, fun i b hi => h.blBase i b (hx.ge.bl i b hi), ?_, ?_, ?_, h.baseIn, h.dfr, h.lps, hs.ro, by have := hs.rt; simp; omega⟩, ?_⟩
  · rintro i b o hi (hb | hb)
    · exact h.sep i b o (hx.ge.bl i b hi) hb
    · obtain ⟨j, hj, hjb⟩ := hQ b hb
      have h1 := (List.getElem?_eq_some_iff.1 hi).1
      rw [hs.bl] at h1
      have hro : s2.ro = s.bl.length := hx.ro
      rcases h.inj i j b (hx.ge.bl i b hi) hjb with he | ⟨_, hr⟩
      · omega
      · have := hr.2 (by omega); omega
  · intro t T hT
    obtain ⟨u, h1, _⟩ := hcase t T hT
    have T' := h.toks u T h1
    refine ⟨T'.spot, T'.space, T'.top, ?_, fun hm => T'.own ?_, T'.base⟩
    · rintro o ho (hb | hb)
      · exact T'.free o ho hb
      · obtain ⟨j, hj, hjb⟩ := hQ _ hb
        exact T'.own (List.mem_of_getElem? hjb)
    · obtain ⟨j, hj⟩ := List.mem_iff_getElem?.1 hm
      exact List.mem_of_getElem? (hx.ge.bl j _ hj)
  · intro t u T U hT hU he
    obtain ⟨t', h1, h2, h3⟩ := hcase t T hT
    obtain ⟨u', h4, h5, h6⟩ := hcase u U hU
    have := h.tokInj t' u' T U h1 h4 he
    by_cases ht : t < s.tk.length <;> by_cases hu : u < s.tk.length
    · rw [← h2 ht, ← h5 hu]; exact this
    · have := h2 ht; have := h6 (by omega); omega
    · have := h5 hu; have := h3 (by omega); omega
    · have := h3 (by omega); have := h6 (by omega); omega
  · rintro b o (hb | hb)
    · exact h.immIn b o hb
    · obtain ⟨j, hj, hjb⟩ := hQ b hb
      exact h.lt hjb
  · refine ⟨hge, hx.dfr, hx.base, hx.old, hx.size, hx.os, hx.out, hx.tape, rfl, rfl, fun _ _ => rfl, fun i hi => ?_, fun i b hi hb => hhp i b hb, fun b o hb hi => ?_⟩
    rotate_left 1
    · rcases hi with hi | hi
      · exact hx.immOld b o hb hi
      · obtain ⟨j, hj, hjb⟩ := hQ b hi
        have := h.blBase j b hjb
        rw [hx.base] at this
        omega
    have := hs.rt
    show (s.tk ++ _)[i]? = _
    rw [List.getElem?_append_left (by omega)]

/- the blocks of cells from lo on -/
def OwnQ (g : Gh) (lo : Nat) (b : Nat) : Prop := ∃ i, lo ≤ i ∧ g.bl[i]? = some b

theorem frz_rep {C : CodeR} {g : Gh} {s : St} {w : World} (h : StR L.toLk C g s w) (lo : Nat) : ∀ (k : Nat) (v : AV) (cv : Value), Rep L.toLk g w v cv → Rep L.toLk (g.shut (OwnQ g lo)) w (frz s lo k v) cv
  | 0, v, cv, hr => by simp only [frz]; exact Rep.mono (GE.shut _ _ _) _ _ hr
  | k + 1, v, cv, hr => by
    have hge := GE.shut g (OwnQ g lo) w
    have list : ∀ (xs : List AV) (vs : List Value), RepL L.toLk g w xs vs → RepL L.toLk (g.shut (OwnQ g lo)) w (xs.map (frz s lo k)) vs := by
      intro xs
      induction xs with
      | nil => intro vs hv; simpa [RepL] using hv
      | cons x xs ih =>
        intro vs hv
        simp only [RepL, List.map_cons] at hv ⊢
        obtain ⟨u, r, rfl, h1, h2⟩ := hv
        exact ⟨u, r, rfl, frz_rep h lo k x u h1, ih r h2⟩
    cases v with
    | msl i off sz n =>
      simp only [frz]
      split
      · rename_i hlo
        split
        · rename_i xs hxs
          obtain ⟨hz, hn, b, a, cap, vs, us, rest, e, hb, rfl, hcap, ha, k1, k2, h1, hle, k3⟩ := elems_rep h hr hxs
          have hul := k1.length
          have hfl := flat_length fun u hu => (k2 u hu).1
          simp only [Rep]
          refine ⟨some a, cap, us, by rw [AV.untokL_length, List.length_map, hn], by rw [AV.untokL_length, List.length_map, hn]; exact hcap, AV.untokL_idem _, (list _ _ k1).untok_same, k2, ⟨fun hne => ?_, fun j c hj => ?_⟩, rfl⟩
          · have : 0 < n := by
              rcases Nat.eq_zero_or_pos n with h0 | h0
              · exact absurd (List.eq_nil_of_length_eq_zero (by rw [AV.untokL_length, List.length_map, hn, h0])) hne
              · exact h0
            rw [ha (by omega)]
          · have hjl := (List.getElem?_eq_some_iff.1 hj).1
            have hpos : 0 < cap := by
              rcases Nat.eq_zero_or_pos n with h0 | h0
              · rw [hfl, hul, hn, h0] at hjl; simp at hjl
              · omega
            have ha' := ha hpos
            subst ha'
            refine ⟨.inr ⟨i, hlo, hb⟩, ?_⟩
            rw [cell?_of h1]
            rw [k3, List.getElem?_take] at hj
            split at hj
            · rw [List.getElem?_drop] at hj
              simp only [List.getElem?_toArray]
              rw [List.getElem?_append_left (List.getElem?_eq_some_iff.1 hj).1]
              exact hj
            · cases hj
        · exact Rep.mono hge _ _ hr
      · exact Rep.mono hge _ _ hr
    | agg cs =>
      simp only [frz, Rep] at hr ⊢
      obtain ⟨vs, rfl, h1, h2⟩ := hr
      exact ⟨vs, rfl, list _ _ h1, h2⟩
    | tup cs =>
      simp only [frz, Rep] at hr ⊢
      obtain ⟨vs, rfl, h1⟩ := hr
      exact ⟨vs, rfl, list _ _ h1⟩
    | iface t u =>
      simp only [frz, Rep] at hr ⊢
      obtain ⟨c, rfl, h1⟩ := hr
      exact ⟨c, rfl, frz_rep h lo k u c h1⟩
    | _ => simp only [frz]; exact Rep.mono hge _ _ hr

theorem fin_sound {C : CodeR} {g gE : Gh} {s s2 : St} {w wE : World} {m : Mode} (h : StR L.toLk C gE s2 wE) (hs : StR L.toLk C g s w) (hx : Ext g (s0Of m s) w gE s2 wE) {v v' : AV} {cv : Value} {s' : St} (hv : Rep L.toLk gE wE v cv) (hf : finA m s.bl.length s s2 v = some (v', s')) :
    ∃ g', StR L.toLk C g' { s' with ro := s.ro, rt := s.rt } wE ∧ Ext g s w g' { s' with ro := s.ro, rt := s.rt } wE ∧ Rep L.toLk g' wE v' cv := by
  have plain : ∀ (hx : Ext g { s with ro := s.bl.length, rt := s.tk.length } w gE s2 wE) (Q : Nat → Prop) (hQ : ∀ b, Q b → ∃ i, s.bl.length ≤ i ∧ gE.bl[i]? = some b) (v : AV) (hv : Rep L.toLk (gE.shut Q) wE v cv) (hd : v.data = true),
      ∃ g', StR L.toLk C g' { s with ro := s.ro, rt := s.rt } wE ∧ Ext g s w g' { s with ro := s.ro, rt := s.rt } wE ∧ Rep L.toLk g' wE v.untok cv := by
    intro hx Q hQ v hv hd
    have hr := restore h hs hx [] (.inl rfl) Q hQ
    simp only [List.map_nil, List.append_nil] at hr
    exact ⟨_, hr.1, hr.2, Rep.untok (g := gE.shut Q) (g' := { gE.shut Q with bl := g.bl, tk := g.tk }) (w := wE) (w' := wE) true (fun e => by cases e) (fun b o hi => ⟨hi, rfl⟩) v cv (fun _ => hd) hv⟩
  have plain0 : ∀ (hx : Ext g { s with ro := s.bl.length, rt := s.tk.length } w gE s2 wE) (hd : v.data = true), ∃ g', StR L.toLk C g' { s with ro := s.ro, rt := s.rt } wE ∧ Ext g s w g' { s with ro := s.ro, rt := s.rt } wE ∧ Rep L.toLk g' wE v.untok cv :=
    fun hx hd => plain hx (fun _ => False) (fun _ h => h.elim) v (Rep.mono (GE.shut _ _ _) _ _ hv) hd
  have frozen : ∀ (hx : Ext g { s with ro := s.bl.length, rt := s.tk.length } w gE s2 wE) (hd : (frz s2 s.bl.length 8 v).data = true),
      ∃ g', StR L.toLk C g' { s with ro := s.ro, rt := s.rt } wE ∧ Ext g s w g' { s with ro := s.ro, rt := s.rt } wE ∧ Rep L.toLk g' wE (frz s2 s.bl.length 8 v).untok cv :=
    fun hx hd => plain hx (OwnQ gE s.bl.length) (fun _ h => h) _ (frz_rep h s.bl.length 8 v cv hv) hd
  cases m with
  | eff =>
    simp only [finA, Option.some.injEq, Prod.mk.injEq] at hf
    obtain ⟨rfl, rfl⟩ := hf
    have e : ({ s2 with ro := s.ro, rt := s.rt } : St) = s2 := by
      have h1 := hx.ro; have h2 := hx.rt
      simp only [s0Of] at h1 h2
      rw [← h1, ← h2]
    rw [e]
    exact ⟨gE, h, hx, hv⟩
  | pure =>
    simp only [finA] at hf
    split at hf
    · rename_i hd
      simp only [Option.some.injEq, Prod.mk.injEq] at hf
      obtain ⟨rfl, rfl⟩ := hf
      exact plain0 hx hd
    · split at hf
      · rename_i hd
        simp only [Option.some.injEq, Prod.mk.injEq] at hf
        obtain ⟨rfl, rfl⟩ := hf
        exact frozen hx hd
      · cases hf
  | thaw =>
    simp only [finA] at hf
    split at hf
    · rename_i hd
      simp only [Option.some.injEq, Prod.mk.injEq] at hf
      obtain ⟨rfl, rfl⟩ := hf
      exact plain0 hx hd
    · split at hf
      · rename_i hd
        simp only [Option.some.injEq, Prod.mk.injEq] at hf
        obtain ⟨rfl, rfl⟩ := hf
        exact frozen hx hd
      · cases hf
  | keep =>
    simp only [finA] at hf
    split at hf
    · rename_i hd
      split at hf
      · rename_i t z xs
        split at hf
        · rename_i ht
          simp only [Option.some.injEq, Prod.mk.injEq] at hf
          obtain ⟨rfl, rfl⟩ := hf
          have hlen : g.tk.length = s.tk.length := by rw [← hs.tk]; simp
          have hu : Rep L.toLk gE wE (.sl .any z xs) cv := by
            have := Rep.untok_same hv
            simpa only [AV.untok] using this
          simp only [Rep] at hv
          obtain ⟨a, cap, vs, rfl, hc, hu2, hr2, hz, hl, hsome, T, hT, hle, heq⟩ := hv
          have htop : T.top = xs.length := by
            have := ht.2
            rw [← h.tk] at this
            simpa [hT] using this
          have hr := restore h hs hx [T] (.inr ⟨t, T, rfl, hT, ht.1⟩) (fun _ => False) (fun _ h => h.elim)
          simp only [List.map_cons, List.map_nil, htop] at hr
          refine ⟨_, hr.1, hr.2, ?_⟩
          have h3 : Rep L.toLk { gE.shut (fun _ => False) with bl := g.bl, tk := g.tk ++ [T] } wE (AV.sl .any z xs).untok (.slice a xs.length cap) :=
            Rep.untok (g := gE) (g' := { gE.shut (fun _ => False) with bl := g.bl, tk := g.tk ++ [T] }) (w := wE) (w' := wE) true (fun e => by cases e) (fun b o hi => ⟨.inl hi, rfl⟩) _ _ (fun _ => by simpa only [AV.data] using hd) hu
          simp only [AV.untok, Rep] at h3
          obtain ⟨a', cap', vs', e1, k1, k2, k3, k4, k5, _⟩ := h3
          cases e1
          simp only [Rep]
          refine ⟨a, cap, vs', rfl, k1, k2, k3, k4, k5, hsome, T, ?_, hle, heq⟩
          show (g.tk ++ [T])[s.tk.length]? = some T
          rw [← hlen]; simp
        · simp only [Option.some.injEq, Prod.mk.injEq] at hf
          obtain ⟨rfl, rfl⟩ := hf
          have := plain0 hx hd
          simpa only [AV.untok] using this
      · simp only [Option.some.injEq, Prod.mk.injEq] at hf
        obtain ⟨rfl, rfl⟩ := hf
        exact plain0 hx hd
    · split at hf
      · rename_i hd
        simp only [Option.some.injEq, Prod.mk.injEq] at hf
        obtain ⟨rfl, rfl⟩ := hf
        exact frozen hx hd
      · cases hf

/- plain values need nothing of the caller's -/
mutual
theorem AV.plain_spec : ∀ x : AV, x.plain = true → x.data = true ∧ x.untok = x
  | .bool _, _ | .int _ _, _ | .str _, _ | .nilp, _ | .nilf, _ | .nilif, _ | .map none, _ => ⟨rfl, rfl⟩
  | .sl .any _ _, h | .sl .nil _ _, h | .sl .full _ _, h => ⟨by simpa only [AV.plain, AV.data] using h, rfl⟩
  | .rptr _ _, h => ⟨by simpa only [AV.plain, AV.data] using h, rfl⟩
  | .iface t v, h => by
    obtain ⟨h1, h2⟩ := AV.plain_spec v (by simpa only [AV.plain] using h)
    exact ⟨by simpa only [AV.data] using h1, by simp only [AV.untok, h2]⟩
  | .agg cs, h => by
    obtain ⟨h1, h2⟩ := AV.plainL_spec cs (by simpa only [AV.plain] using h)
    exact ⟨by simpa only [AV.data] using h1, by simp only [AV.untok, h2]⟩
  | .tup cs, h => by
    obtain ⟨h1, h2⟩ := AV.plainL_spec cs (by simpa only [AV.plain] using h)
    exact ⟨by simpa only [AV.data] using h1, by simp only [AV.untok, h2]⟩
  | .fn f a c, h => by
    simp only [AV.plain, Bool.and_eq_true] at h
    obtain ⟨h1, h2⟩ := AV.plainL_spec a h.1
    obtain ⟨h3, h4⟩ := AV.plainL_spec c h.2
    exact ⟨by simp only [AV.data, h1, h3, Bool.and_self], by simp only [AV.untok, h2, h4]⟩
  | .sl (.tok _) _ _, h | .ptr _ _, h | .raw _ _ _, h | .msl _ _ _ _, h | .map (some _), h | .yield _, h | .junk, h => by simp [AV.plain] at h
theorem AV.plainL_spec : ∀ x : List AV, AV.plainL x = true → AV.dataL x = true ∧ AV.untokL x = x
  | [], _ => ⟨rfl, rfl⟩
  | x :: xs, h => by
    simp only [AV.plainL, Bool.and_eq_true] at h
    obtain ⟨h1, h2⟩ := AV.plain_spec x h.1
    obtain ⟨h3, h4⟩ := AV.plainL_spec xs h.2
    exact ⟨by simp only [AV.dataL, h1, h3, Bool.and_self], by simp only [AV.untokL, h2, h4]⟩
end

/- the start that sees nothing of the caller's -/
def Gh.bare (g : Gh) (w : World) : Gh := { bl := [], tk := [], imm := g.imm, base := w.heap.size, dfr := [], lps := g.lps }
def stB : St := { bl := [], tk := [], ro := 0, rt := 0 }

theorem bare_rep {g : Gh} {w : World} {xs : List AV} {vs : List Value} (h : RepL L.toLk g w xs vs) (hp : AV.plainL xs = true) : RepL L.toLk (g.bare w) w xs vs := by
  obtain ⟨h1, h2⟩ := AV.plainL_spec xs hp
  have := RepL.untok (g := g) (g' := g.bare w) (w := w) (w' := w) true (fun e => by cases e) (fun b o hi => ⟨hi, rfl⟩) xs vs (fun _ => h1) h
  rwa [h2] at this
theorem bare_st {C : CodeR} {g : Gh} {s : St} {w : World} (hs : StR L.toLk C g s w) : StR L.toLk C (g.bare w) stB w where
  bl := rfl
  tk := rfl
  blocks i b x h := by simp [Gh.bare] at h
  inj i j b h := by simp [Gh.bare] at h
  sep i b o h := by simp [Gh.bare] at h
  blBase i b h := by simp [Gh.bare] at h
  toks t T h := by simp [Gh.bare] at h
  tokInj t u T U h := by simp [Gh.bare] at h
  immIn := hs.immIn
  baseIn := Nat.le_refl _
  dfr d h := by simp [Gh.bare] at h
  lps := hs.lps
  ro := Nat.le_refl _
  rt := Nat.le_refl _
theorem bare_gl {C : CodeR} {g : Gh} {s : St} {w : World} (hs : StR L.toLk C g s w) (h : GlR L E g w) : GlR L E (g.bare w) w :=
  ⟨fun n => by
    rcases h.plain n with h1 | h1
    · rw [h1]; simp [Rep]
    · obtain ⟨h2, h3⟩ := AV.plain_spec _ h1
      have := Rep.untok (g := g) (g' := g.bare w) (w := w) (w' := w) true (fun e => by cases e) (fun b o hi => ⟨hi, rfl⟩) _ _ (fun _ => h2) (h.glob n)
      rwa [h3] at this, h.plain, Nat.le_trans h.base hs.baseIn, h.below⟩

theorem bare_back {C : CodeR} {g gE : Gh} {s s2 : St} {w wE : World} (h : StR L.toLk C gE s2 wE) (hs : StR L.toLk C g s w) (hx : Ext (g.bare w) stB w gE s2 wE) (Q : Nat → Prop) (hQ : ∀ b, Q b → ∃ i : Nat, gE.bl[i]? = some b) :
    StR L.toLk C { gE.shut Q with bl := g.bl, tk := g.tk, base := g.base, dfr := gE.dfr ++ g.dfr } s wE ∧ Ext g s w { gE.shut Q with bl := g.bl, tk := g.tk, base := g.base, dfr := gE.dfr ++ g.dfr } s wE := by
  have hbase : gE.base = w.heap.size := hx.base
  have hold : ∀ b, b < w.heap.size → wE.heap[b]? = w.heap[b]? := hx.old
  have hQ2 : ∀ b, Q b → w.heap.size ≤ b := fun b hb => by
    obtain ⟨i, hi⟩ := hQ b hb
    have := h.blBase i b hi
    omega
  have himm : ∀ b o, b < w.heap.size → (gE.imm b o ∨ Q b) → g.imm b o := fun b o hb hi => by
    rcases hi with hi | hi
    · exact hx.immOld b o hb hi
    · have := hQ2 b hi; omega
  have hge : GE g w { gE.shut Q with bl := g.bl, tk := g.tk, base := g.base, dfr := gE.dfr ++ g.dfr } wE :=
    ⟨fun _ _ h => h, fun t T hT => ⟨T, hT, Nat.le_refl _, fun _ => rfl⟩, fun b o hi => ⟨.inl (hx.ge.imm b o hi).1, (hx.ge.imm b o hi).2⟩, hx.ge.lps, hx.ge.size⟩
  have hbi := hs.baseIn
  have hsz := hx.size
  refine ⟨⟨hs.bl, hs.tk, fun i b x hi hxx => (hs.blocks i b x hi hxx).mono hge (hold b (hs.lt hi)), hs.inj, ?_, hs.blBase, ?_, hs.tokInj, ?_, Nat.le_trans hbi hsz, ?_, h.lps, hs.ro, hs.rt⟩, ?_⟩
  · intro i b o hi hb
    exact hs.sep i b o hi (himm b o (hs.lt hi) hb)
  · intro t T hT
    have T0 := hs.toks t T hT
    obtain ⟨c, e, fz, h1, _⟩ := T0.space
    have hlt := lt_of_heap h1
    have T' := T0.same (hold _ hlt)
    exact ⟨T'.spot, T'.space, T'.top, fun o ho hb => T'.free o ho (himm _ _ hlt hb), T'.own, T'.base⟩
  · rintro b o (hb | hb)
    · exact h.immIn b o hb
    · obtain ⟨i, hi⟩ := hQ b hb
      exact h.lt hi
  · intro d hd
    rcases List.mem_append.1 hd with hd | hd
    · obtain ⟨h1, h2⟩ := h.dfr d hd
      exact ⟨h1, by show g.base ≤ d; omega⟩
    · obtain ⟨h1, h2⟩ := hs.dfr d hd
      exact ⟨by rw [hold d (lt_of_heap h1)]; exact h1, h2⟩
  · refine ⟨hge, fun d hd => List.mem_append_right _ hd, rfl, fun b hb => hold b (by omega), hsz, hx.os, hx.out, hx.tape, rfl, rfl, fun _ _ => rfl, fun _ _ => rfl, fun i b _ hb => hold b (hs.lt hb), fun b o hb hi => himm b o (by omega) hi⟩

theorem fin_bare {C : CodeR} {g gE : Gh} {s s2 : St} {w wE : World} {m : Mode} (hm : isPure m = true) (h : StR L.toLk C gE s2 wE) (hs : StR L.toLk C g s w) (hx : Ext (g.bare w) stB w gE s2 wE) {v v' : AV} {cv : Value} {s' : St} (hv : Rep L.toLk gE wE v cv) (hf : finA m 0 s s2 v = some (v', s')) :
    ∃ g', StR L.toLk C g' { s' with ro := s.ro, rt := s.rt } wE ∧ Ext g s w g' { s' with ro := s.ro, rt := s.rt } wE ∧ Rep L.toLk g' wE v' cv := by
  have plain : ∀ (Q : Nat → Prop) (hQ : ∀ b, Q b → ∃ i : Nat, gE.bl[i]? = some b) (v : AV) (hv : Rep L.toLk (gE.shut Q) wE v cv) (hd : v.data = true),
      ∃ g', StR L.toLk C g' { s with ro := s.ro, rt := s.rt } wE ∧ Ext g s w g' { s with ro := s.ro, rt := s.rt } wE ∧ Rep L.toLk g' wE v.untok cv := by
    intro Q hQ v hv hd
    have hr := bare_back h hs hx Q hQ
    exact ⟨_, hr.1, hr.2, Rep.untok (g := gE.shut Q) (g' := { gE.shut Q with bl := g.bl, tk := g.tk, base := g.base, dfr := gE.dfr ++ g.dfr }) (w := wE) (w' := wE) true (fun e => by cases e) (fun b o hi => ⟨hi, rfl⟩) v cv (fun _ => hd) hv⟩
  have hf : (if v.data then some (v.untok, s) else if (frz s2 0 8 v).data then some ((frz s2 0 8 v).untok, s) else none) = some (v', s') := by cases m <;> first | exact hf | cases hm
  split at hf
  · rename_i hd
    simp only [Option.some.injEq, Prod.mk.injEq] at hf
    obtain ⟨rfl, rfl⟩ := hf
    exact plain (fun _ => False) (fun _ h => h.elim) v (Rep.mono (GE.shut _ _ _) _ _ hv) hd
  · split at hf
    · rename_i hd
      simp only [Option.some.injEq, Prod.mk.injEq] at hf
      obtain ⟨rfl, rfl⟩ := hf
      exact plain (OwnQ gE 0) (fun b ⟨i, _, hi⟩ => ⟨i, hi⟩) _ (frz_rep h 0 8 v cv hv) hd
    · cases hf

/- a function of the program is as its given text says -/
structure FnOk (P : Program) (L : Link) (f : Nat) (F : IFn) : Prop where
  out : ∃ fn c vars, P.funcs[L.fnOf f]? = some fn ∧ fn.body = some c ∧ (fn.name == "runtime.NumGoroutine") = false ∧ ckCode P L fn.ntmps vars F.body c = true ∧ (∀ i, i < F.np → vars.contains i = true) ∧ resOk P fn.results.toList F.res = true

theorem get_envOf : ∀ (args : List AV) (k i : Nat), (envOf k args).get i = if k ≤ i then args.getD (i - k) .junk else .junk
  | [], k, i => by simp [envOf, Env.get]
  | v :: r, k, i => by
    simp only [envOf, Env.get, get_envOf r]
    by_cases h1 : i = k
    · subst h1; rw [if_pos rfl, if_pos (Nat.le_refl _)]; simp
    · rw [if_neg h1]
      by_cases h2 : k ≤ i
      · rw [if_pos (by omega), if_pos h2, show i - k = (i - (k + 1)) + 1 by omega, List.getD_cons_succ]
      · rw [if_neg (by omega), if_neg h2]

theorem mem_envOf : ∀ {args : List AV} {k : Nat} {p : Nat × AV}, p ∈ envOf k args → p.1 < k + args.length
  | [], _, _, h => by simp [envOf] at h
  | v :: r, k, p, h => by
    simp only [envOf, List.mem_cons] at h
    rcases h with rfl | h
    · simp
    · have := mem_envOf h
      simp only [List.length_cons]; omega

theorem envR_enter {g : Gh} {w : World} {args : List AV} {cargs : List Value} (h : RepL L.toLk g w args cargs) (n : Nat) : EnvR L.toLk g w (envOf 0 args) (cargs.toArray ++ Array.replicate n undef) := by
  intro i
  rw [get_envOf]
  simp only [Nat.zero_le, if_true, Nat.sub_zero]
  cases hi : args[i]? with
  | none => rw [List.getD_eq_getElem?_getD, hi]; simp [Rep]
  | some x =>
    obtain ⟨v, hv, hr⟩ := h.get hi
    rw [List.getD_eq_getElem?_getD, hi]
    have hlt := (List.getElem?_eq_some_iff.1 hv).1
    have : (cargs.toArray ++ Array.replicate n undef).getD i undef = v := by
      rw [Array.getD_eq_getD_getElem?, Array.getElem?_append_left (by simpa using hlt)]
      simp [hv]
    rw [this]
    exact hr

theorem s_end {B : Frame} {tm : Array Value} {df : List Deferred} {cs : List Frame} {w : World} (h : B.roundOf = none) : step P (lone (mkF B tm df []) cs w) = .next (lone { mkF B tm df [] with mode := .returning } cs w) :=
  step_lone_go (by simp [stepG, stepG.exec, mkF, h])
theorem s_ret {B : Frame} {tm : Array Value} {df : List Deferred} {k : List Item} {cs : List Frame} {w : World} (h : B.roundOf = none) : step P (lone (mkF B tm df (.code .ret :: k)) cs w) = .next (lone { mkF B tm df (.code .ret :: k) with mode := .returning } cs w) :=
  step_lone_go (by simp [stepG, stepG.exec, mkF, h])

theorem s_leave_panic {fr c : Frame} {cs : List Frame} {w : World} {chain : List PanicEntry} (hd : fr.defers = []) (hm : fr.mode = .panicking chain) (hn : NoCall fr.todo) : step P (lone fr (c :: cs) w) = .next (lone (c.raise chain) cs w) := by
  have hc : fr.catches P = false := by
    unfold Frame.catches
    split
    · rename_i _ h2
      rw [h2] at hn; exact hn.elim
    · rfl
  exact step_lone_go (by simp [stepG, unwind, hc, hm, hd])

theorem RcvR.calm {g : Gh} {w : World} {f : Fr} {B : Frame} {cs0 : List Frame} (h : RcvR L.toLk g w f B cs0) (hk : B.kind = .normal ∨ ∃ c r, cs0 = c :: r ∧ c.mode = .returning) : f.recd = false := by
  obtain ⟨_, _, h3⟩ := h
  cases hr : f.recd with
  | false => rfl
  | true =>
    rw [hr] at h3
    cases hv : f.rcv <;> rw [hv] at h3 <;> simp only at h3
    obtain ⟨h4, c, r, pv, rfl, h5⟩ := h3
    rcases hk with hk | ⟨c', r', e, hk⟩
    · rw [h4] at hk; cases hk
    · cases e; rw [h5] at hk; cases hk

theorem run_sim (hinj : ∀ a b, L.tyOf a = L.tyOf b → a = b) (hcall : CallSim P L E call) (hcalm : CalmOk E call) {f : Nat} {F : IFn} (hF : FnOk P L f F) {n : Nat} {pn : Option AV} {args : List AV} {s s' : St} {r : CRes} {recd : Bool} (h : runA E call n F pn args s = some (r, recd, s'))
    {g : Gh} {w : World} (hs : StR L.toLk (CkR P L) g s w) (hgl : GlR L E g w) {cargs : List Value} (ha : RepL L.toLk g w args cargs) (kind : CallKind) (cs0 : List Frame)
    (hk : match pn with
      | none => kind = .normal ∨ (kind = .deferred ∧ ∃ c r, cs0 = c :: r ∧ c.mode = .returning)
      | some v => kind = .deferred ∧ ∃ c r pv, cs0 = c :: r ∧ c.mode = .panicking [{ v := pv, recovered := false }] ∧ Rep L.toLk g w v pv) :
    ∃ g' w' fn fr cv, P.funcs[L.fnOf f]? = some fn ∧ StR L.toLk (CkR P L) g' s' w' ∧ Ext g s w g' s' w' ∧ fr.fn = L.fnOf f ∧ fr.kind = kind ∧ fr.defers = [] ∧ NoCall fr.todo ∧
      (recd = true → kind = .deferred ∧ ∃ c r pv, cs0 = c :: r ∧ c.mode = .panicking [{ v := pv, recovered := false }]) ∧
      Steps P (lone (Frame.enter P (L.fnOf f) cargs.toArray kind) cs0 w) (lone fr (csAt recd cs0) w') ∧
      (match r with
      | .ret v => Rep L.toLk g' w' v cv ∧ fr.mode = .returning ∧ (results fn fr.tmps).run P w' = .ok cv w'
      | .pan v => Rep L.toLk g' w' v cv ∧ fr.mode = .panicking [{ v := cv, recovered := false }]) := by
  obtain ⟨fn, c, vars, hfn, hbody, hname, hck, hvars, hres⟩ := hF.out
  unfold runA at h
  split at h
  · cases h
  · rename_i hnp
    simp only [ne_eq, Decidable.not_not] at hnp
    obtain ⟨gS, sS, hsS, hs0, hglS, haS, hpnS, hfinS⟩ : ∃ gS sS, startA F.mode pn args s = sS ∧ StR L.toLk (CkR P L) gS sS w ∧ GlR L E gS w ∧ RepL L.toLk gS w args cargs ∧ (∀ v pv, pn = some v → Rep L.toLk g w v pv → Rep L.toLk gS w v pv) ∧
        (∀ {gE : Gh} {s2 : St} {wE : World}, StR L.toLk (CkR P L) gE s2 wE → Ext gS sS w gE s2 wE → ∀ {v v' : AV} {cv : Value} {s' : St}, Rep L.toLk gE wE v cv → finA F.mode sS.bl.length s s2 v = some (v', s') →
          ∃ g', StR L.toLk (CkR P L) g' { s' with ro := s.ro, rt := s.rt } wE ∧ Ext g s w g' { s' with ro := s.ro, rt := s.rt } wE ∧ Rep L.toLk g' wE v' cv) := by
      by_cases hst : (isPure F.mode && pn.isNone && AV.plainL args) = true
      · refine ⟨g.bare w, stB, by unfold startA; rw [if_pos hst]; rfl, bare_st hs, bare_gl hs hgl, ?_, ?_, ?_⟩
        · simp only [Bool.and_eq_true] at hst
          exact bare_rep ha hst.2
        · intro v pv hpn
          rw [hpn] at hst
          simp at hst
        · intro gE s2 wE h1 h2 v v' cv s' h3 h4
          simp only [Bool.and_eq_true] at hst
          exact fin_bare hst.1.1 h1 hs h2 h3 h4
      · refine ⟨g, s0Of F.mode s, by unfold startA; rw [if_neg hst], ?_, hgl, ha, fun _ _ _ h => h, ?_⟩
        · cases hm : F.mode
          case eff => exact hs
          all_goals exact ⟨hs.bl, hs.tk, hs.blocks, fun i j b h1 h2 => by
            have l1 := (List.getElem?_eq_some_iff.1 h1).1
            have l2 := (List.getElem?_eq_some_iff.1 h2).1
            rw [hs.bl] at l1 l2
            rcases hs.inj i j b h1 h2 with he | ⟨hd, _⟩
            · exact .inl he
            · exact .inr ⟨hd, by show s.bl.length ≤ i ↔ s.bl.length ≤ j; constructor <;> intro _ <;> omega⟩, hs.sep, hs.blBase, hs.toks, hs.tokInj, hs.immIn, hs.baseIn, hs.dfr, hs.lps, Nat.le_refl _, Nat.le_refl _⟩
        · intro gE s2 wE h1 h2 v v' cv s' h3 h4
          have hlen : (s0Of F.mode s).bl.length = s.bl.length := by cases F.mode <;> rfl
          rw [hlen] at h4
          exact fin_sound h1 hs h2 h3 h4
    rw [hsS] at h
    have henter : Frame.enter P (L.fnOf f) cargs.toArray kind = mkF (Frame.enter P (L.fnOf f) cargs.toArray kind) (cargs.toArray ++ Array.replicate (fn.ntmps - cargs.toArray.size) undef) [] [.code c] := by
      simp [Frame.enter, mkF, hfn, hbody]
    generalize hB : Frame.enter P (L.fnOf f) cargs.toArray kind = B at henter
    have hBr : B.roundOf = none := by rw [← hB]; rfl
    have hBk : B.kind = kind := by rw [← hB]; rfl
    have hBf : B.fn = L.fnOf f := by rw [← hB]; rfl
    split at h
    · cases h
    · rename_i o f1 s1 hcode
      have hrc : RcvR L.toLk gS w { env := envOf 0 args, defers := [], rcv := pn, recd := false, rnd := false } B cs0 := by
        refine ⟨by rw [hBr]; rfl, fun l hl => (by rw [hBr] at hl; cases hl), ?_⟩
        cases pn with
        | none =>
          simp only at hk ⊢
          rw [hBk]
          exact .inr hk
        | some v =>
          simp only at hk ⊢
          rw [hBk]
          obtain ⟨k1, c, r, pv, k2, k3, k4⟩ := hk
          exact ⟨k1, c, r, pv, k2, k3, hpnS v pv rfl k4⟩
      have hfr : FrR L.toLk fn.ntmps vars w.heap.size gS w { env := envOf 0 args, defers := [], rcv := pn, recd := false, rnd := false } (cargs.toArray ++ Array.replicate (fn.ntmps - cargs.toArray.size) undef) [] :=
        ⟨envR_enter haS _, fun p hp => hvars _ (by have := mem_envOf hp; omega), by simp; omega, .nil, Nat.le_refl _⟩
      obtain ⟨g1, w1, tm1, df1, h1⟩ := code_sim hinj hcall hcalm c F.body hck hcode hs0 hglS hfr hrc []
      -- the body is left
      have left : ∀ p : Option AV, outPan o = some p →
          ∃ td m, NoCall td ∧ ModeR L.toLk g1 w1 p m ∧ Steps P (lone B cs0 w) (lone { mkF B tm1 df1 td with mode := m } (csAt f1.recd cs0) w1) := by
        intro p hp
        rw [henter]
        have hto := h1.to
        cases o with
        | normal =>
          simp only [outPan, Option.some.injEq] at hp
          subst hp
          exact ⟨[], .returning, trivial, rfl, Steps.trans hto (.one (s_end hBr))⟩
        | ret =>
          simp only [outPan, Option.some.injEq] at hp
          subst hp
          obtain ⟨k', hto⟩ := hto
          exact ⟨.code .ret :: k', .returning, trivial, rfl, Steps.trans hto (.one (s_ret hBr))⟩
        | pan v =>
          simp only [outPan, Option.some.injEq] at hp
          subst hp
          obtain ⟨cv, td, h2, h3, h4⟩ := hto
          exact ⟨td, _, h3, ⟨cv, rfl, h2⟩, h4⟩
        | exit id => cases hp
      split at h
      · cases h
      · rename_i p hp
        obtain ⟨td, m, htd, hm, hst⟩ := left p hp
        split at h
        · cases h
        · rename_i v s2 hu
          obtain ⟨g2, w2, m2, b1, b2, b3, b4, b5⟩ := unwind_sim hcall hs0 (Nat.le_refl _) h1.fr.dfr hu h1.st h1.ext (hglS.ext h1.ext) { mkF B tm1 df1 td with mode := m } (csAt f1.recd cs0) rfl hm
          obtain ⟨pv, rfl, hrv⟩ := b4
          split at h
          · rename_i v' s3 hfin
            simp only [Option.some.injEq, Prod.mk.injEq] at h
            obtain ⟨rfl, rfl, rfl⟩ := h
            obtain ⟨g3, c1, c2, c3⟩ := hfinS b1 b2 hrv hfin
            refine ⟨g3, w2, fn, { { mkF B tm1 df1 td with mode := m } with defers := [], mode := .panicking [{ v := pv, recovered := false }] }, pv, hfn, c1, c2, hBf, hBk, ?_, htd, fun hr => ?_, Steps.trans hst b5, c3, rfl⟩
            · rfl
            · have := h1.rcv.2.2
              rw [hr] at this
              cases hv : f1.rcv <;> rw [hv] at this <;> simp only at this
              rw [hBk] at this
              exact this
          · cases h
        · rename_i s2 hu
          obtain ⟨g2, w2, m2, b1, b2, b3, b4, b5⟩ := unwind_sim hcall hs0 (Nat.le_refl _) h1.fr.dfr hu h1.st h1.ext (hglS.ext h1.ext) { mkF B tm1 df1 td with mode := m } (csAt f1.recd cs0) rfl hm
          have b4' : m2 = .returning := b4
          subst b4'
          split at h
          · cases h
          · rename_i vs hvs
            obtain ⟨cv, hr1, hr2⟩ := results_sound (P := P) (fn := fn) b1 (h1.fr.env.mono b3) hres hvs
            split at h
            · rename_i v' s3 hfin
              simp only [Option.some.injEq, Prod.mk.injEq] at h
              obtain ⟨rfl, rfl, rfl⟩ := h
              obtain ⟨g3, c1, c2, c3⟩ := hfinS b1 b2 hr2 hfin
              refine ⟨g3, w2, fn, { { mkF B tm1 df1 td with mode := m } with defers := [], mode := .returning }, cv, hfn, c1, c2, hBf, hBk, ?_, htd, fun hr => ?_, Steps.trans hst b5, c3, rfl, hr1⟩
              · rfl
              · have := h1.rcv.2.2
                rw [hr] at this
                cases hv : f1.rcv <;> rw [hv] at this <;> simp only at this
                rw [hBk] at this
                exact this
            · cases h
end
end Ab
