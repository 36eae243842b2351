/- A frame's end: calls that were put off, results; what a callee leaves of the state. Its condition: calls do what the abstract run says. -/
import Derived.Test.YtooeglbpejfklaaGreatDoorAb06
set_option linter.all false
namespace Ab
open Go

section
variable {P : Program} {L : Link} {E : IEnv} {call : Caller}

theorem StR.takeDfr {C : CodeR} {g g0 : Gh} {s s0 : St} {w w0 : World} (h : StR L.toLk C g s w) {d : Nat} (hd : d ∈ g.dfr) (h0 : StR L.toLk C g0 s0 w0) (hx : Ext g0 s0 w0 g s w) (hd0 : w0.heap.size ≤ d) :
    StR L.toLk C { g with dfr := g.dfr.filter fun x => decide (x ≠ d) } s (w.putObj d (.deferred none)) ∧ GE g w { g with dfr := g.dfr.filter fun x => decide (x ≠ d) } (w.putObj d (.deferred none)) ∧ Ext g0 s0 w0 { g with dfr := g.dfr.filter fun x => decide (x ≠ d) } s (w.putObj d (.deferred none)) ∧ RowKit.Below g.base w (w.putObj d (.deferred none)) := by
  obtain ⟨hh, hb⟩ := h.dfr d hd
  obtain ⟨p1, p2, p3⟩ := heap_putObj (o' := .deferred none) hh
  have hge : GE g w { g with dfr := g.dfr.filter fun x => decide (x ≠ d) } (w.putObj d (.deferred none)) := by
    refine ⟨fun _ _ h => h, fun _ T hT => ⟨T, hT, Nat.le_refl _, fun _ => rfl⟩, fun b o hi => ⟨hi, ?_⟩, fun _ h => h⟩
    by_cases e : b = d
    · subst e; simp only [World.cell?, p1, hh]
    · exact cell?_congr (p2 b e) _
  have hbl : ∀ (i b : Nat), g.bl[i]? = some b → b ≠ d := fun i b hi e => by
    subst e
    obtain ⟨x, _, hx⟩ := h.ab? hi
    exact hx.notDeferred hh
  refine ⟨⟨h.bl, h.tk, fun i b x hi hx => (h.blocks i b x hi hx).mono hge (p2 b (hbl i b hi)), h.inj, h.sep, h.blBase, ?_, h.tokInj, fun b o hi => by rw [p3]; exact h.immIn b o hi, by rw [p3]; exact h.baseIn, ?_, ?_, h.ro, h.rt⟩, hge, ?_, ⟨rfl, rfl, rfl, by rw [p3]; exact Nat.le_refl _, fun k hk => p2 k (by omega)⟩⟩
  · intro t T hT
    have T' := (h.toks t T hT).same (w' := w.putObj d (.deferred none)) (p2 _ fun e => by
      obtain ⟨c, e', fz, h1, _⟩ := (h.toks t T hT).space
      rw [e, hh] at h1; cases h1)
    exact ⟨T'.spot, T'.space, T'.top, T'.free, T'.own, T'.base⟩
  · intro x hx
    simp only [List.mem_filter, decide_eq_true_eq] at hx
    obtain ⟨h1, h2⟩ := h.dfr x hx.1
    exact ⟨(p2 x hx.2).trans h1, h2⟩
  · intro x hx
    obtain ⟨lp, h1⟩ := h.lps x hx
    exact ⟨lp, (p2 x fun e => by subst e; rw [hh] at h1; cases h1).trans h1⟩
  · refine ⟨hx.ge.trans hge, fun x hx0 => ?_, hx.base, fun b hb0 => (p2 b fun e => ?_).trans (hx.old b hb0), by rw [p3]; exact hx.size, hx.os, hx.out, hx.tape, hx.ro, hx.rt, hx.bls, hx.tks, fun i b hi hb0 => (p2 b (hbl i b (hx.ge.bl i b hb0))).trans (hx.hp i b hi hb0), hx.immOld⟩
    · simp only [List.mem_filter, decide_eq_true_eq]
      refine ⟨hx.dfr x hx0, fun e => ?_⟩
      subst e
      exact absurd (lt_of_heap (h0.dfr x hx0).1) (by omega)
    · subst e
      rw [hx.base] at hb; omega

def ModeR (L : Lk) (g : Gh) (w : World) : Option AV → FrameMode → Prop
  | none, m => m = .returning
  | some v, m => ∃ pv, m = .panicking [{ v := pv, recovered := false }] ∧ Rep L g w v pv

theorem ModeR.mono {L : Lk} {g g' : Gh} {w w' : World} (hg : GE g w g' w') {p : Option AV} {m : FrameMode} (h : ModeR L g w p m) : ModeR L g' w' p m := by
  cases p with
  | none => exact h
  | some v => obtain ⟨pv, h1, h2⟩ := h; exact ⟨pv, h1, Rep.mono hg _ _ h2⟩

theorem ModeR.notRun {L : Lk} {g : Gh} {w : World} {p : Option AV} {m : FrameMode} (h : ModeR L g w p m) : m ≠ .run := by
  cases p with
  | none => rw [show m = .returning from h]; simp
  | some v => obtain ⟨pv, h1, _⟩ := h; rw [h1]; simp

theorem s_unwind_mark {fr : Frame} {cs : List Frame} {w w' : World} {d : Nat} {ds calls : List Deferred} (hm : fr.mode ≠ .run) (hd : fr.defers = { target := .collected d, args := #[] } :: ds) (ht : (Instr.takeDeferred d).run P w = .ok calls w') :
    step P (lone fr cs w) = .next (lone { fr with defers := calls ++ ds } cs w') := by
  refine step_lone_go ?_
  cases hmode : fr.mode with
  | run => exact absurd hmode hm
  | returning => simp [stepG, unwind, hmode, hd, Sem.runT_eq, ht]
  | panicking chain => simp [stepG, unwind, hmode, hd, Sem.runT_eq, ht]

theorem s_unwind_call {fr : Frame} {cs : List Frame} {w : World} {fv : Fn} {cap : Array Value} {args : Array Value} {ds : List Deferred} {nx : Next} {F : CallKind → Frame} (hm : fr.mode ≠ .run) (hd : fr.defers = { target := .fn fv cap, args } :: ds)
    (hi : (invoke (.fn fv cap) args).run P w = .ok nx w) (hF : StartsBy P nx F) :
    step P (lone fr cs w) = .next (lone (F .deferred) ({ fr with defers := ds } :: cs) w) := by
  refine step_lone_go ?_
  rcases hF with ⟨f, a, rfl, rfl⟩ | ⟨l, f, tms, a, b, rfl, rfl⟩
  · cases hmode : fr.mode with
    | run => exact absurd hmode hm
    | returning => simp [stepG, unwind, callDeferred, hmode, hd, Sem.runT_eq, hi]
    | panicking chain => simp [stepG, unwind, callDeferred, hmode, hd, Sem.runT_eq, hi]
  · cases hmode : fr.mode with
    | run => exact absurd hmode hm
    | returning => simp [stepG, unwind, callDeferred, hmode, hd, Sem.runT_eq, hi]
    | panicking chain => simp [stepG, unwind, callDeferred, hmode, hd, Sem.runT_eq, hi]

theorem unwind_sim (hcall : CallSim P L E call) {g0 : Gh} {s0 : St} {w0 : World} (h0 : StR L.toLk (CkR P L) g0 s0 w0) {lo : Nat} (hlo : w0.heap.size ≤ lo) : ∀ {df : List Deferred} {ds : List (AV × List AV)} {g : Gh} {w : World} (_ : DRel L.toLk g w lo ds df) {p : Option AV} {s : St} {p' : Option AV} {s' : St} (_ : unwindA E call ds p s = some (p', s'))
    (_ : StR L.toLk (CkR P L) g s w) (_ : Ext g0 s0 w0 g s w) (_ : GlR L E g w) (fr : Frame) (cs : List Frame) (_ : fr.defers = df) (_ : ModeR L.toLk g w p fr.mode),
    ∃ g' w' m', StR L.toLk (CkR P L) g' s' w' ∧ Ext g0 s0 w0 g' s' w' ∧ GE g w g' w' ∧ ModeR L.toLk g' w' p' m' ∧ Steps P (lone fr cs w) (lone { fr with defers := [], mode := m' } cs w')
  | [], ds, g, w, hD, p, s, p', s', h, hs, hx, hgl, fr, cs, hfr, hm => by
    cases hD
    simp only [unwindA, Option.some.injEq, Prod.mk.injEq] at h
    obtain ⟨rfl, rfl⟩ := h
    refine ⟨g, w, fr.mode, hs, hx, .refl _ _, hm, ?_⟩
    rw [← hfr]; exact .refl _ _
  | c :: df, ds, g, w, hD, p, s, p', s', h, hs, hx, hgl, fr, cs, hfr, hm => by
    cases hD with
    | coll d _ _ hd hld hn hr =>
      obtain ⟨a1, a2, a3, a4⟩ := hs.takeDfr hd h0 hx (by omega)
      have hr' := hr.mono' a2 (fun c hc d' e hd' => by
        simp only [List.mem_filter, decide_eq_true_eq]
        refine ⟨hd', fun e' => ?_⟩
        subst e'
        exact hn c hc e)
      obtain ⟨g', w', m', b1, b2, b3, b4, b5⟩ := unwind_sim hcall h0 hlo hr' h a1 a3 (hgl.mono' a2 rfl a4) { fr with defers := [] ++ df } cs rfl (hm.mono a2)
      exact ⟨g', w', m', b1, b2, a2.trans b3, b4, .head (s_unwind_mark hm.notRun hfr (run_takeDeferred (hs.dfr d hd).1)) b5⟩
    | call tgt args fv first cap cargs ds' _ htg ha hr =>
      simp only [unwindA] at h
      split at h
      · rename_i hown
        split at h
        · rename_i v recd s1 hc
          obtain ⟨F, ⟨fv', first', cap', nx, hfun, hinv, hst⟩, _, hdfr⟩ := hcall _ _ _ _ _ _ _ hc g w _ _ hs hgl htg ha
          cases hfun
          obtain ⟨g1, w1, c1, c2, c3⟩ := hdfr hown { fr with defers := df } cs (by
            cases p with
            | none => exact hm
            | some v => exact hm)
          simp only at c3
          obtain ⟨g', w', m', b1, b2, b3, b4, b5⟩ := unwind_sim hcall h0 hlo (hr.mono c2.ge c2.dfr) h c1 (hx.trans c2) (hgl.ext c2) { { fr with defers := df } with mode := if recd then .returning else fr.mode } cs rfl (by
            cases recd with
            | true => rfl
            | false => exact hm.mono c2.ge)
          exact ⟨g', w', m', b1, b2, c2.ge.trans b3, b4, .head (s_unwind_call hm.notRun hfr hinv hst) (Steps.trans c3 b5)⟩
        · cases h
      · cases h

def resOk (P : Program) : List ResultVar → List IRes → Bool
  | [], [] => true
  | .tmp t :: r, .t n :: q => t == n && resOk P r q
  | .cell a t :: r, .cell b agg n :: q => a == b && isAggP P t == some agg && szOf P t == some n && (agg || n == 1) && resOk P r q
  | _, _ => false

theorem loadVar_sound {C : CodeR} {g : Gh} {s : St} {w : World} (hs : StR L.toLk C g s w) {t : TypeId} {agg : Bool} {n : Nat} (ha : isAggP P t = some agg) (hn : szOf P t = some n) (h1 : agg = true ∨ n = 1) {a x : AV} {ca : Value}
    (hra : Rep L.toLk g w a ca) (h : loadA s agg n a = some x) : ∃ ad cv, ca = .pointer (some ad) ∧ (loadVar t ad).run P w = .ok cv w ∧ Rep L.toLk g w x cv := by
  obtain ⟨cv, h2, h3⟩ := loadA_sound (P := P) hs ha hn h1 hra h
  cases a <;> simp only [loadA] at h <;> try cases h
  · simp only [Rep] at hra
    obtain ⟨b, _, rfl⟩ := hra
    exact ⟨_, cv, rfl, by simpa [Instr.loadAt, Instr.sureAddr] using h2, h3⟩
  · simp only [Rep] at hra
    obtain ⟨b, _, _, rfl, _⟩ := hra
    exact ⟨_, cv, rfl, by simpa [Instr.loadAt, Instr.sureAddr] using h2, h3⟩

def resStep (tm : Array Value) : ResultVar → Sem Value
  | .tmp t => pure (tm.getD t undef)
  | .cell a t => do loadVar t (← asAddr (tm.getD a undef))

theorem results_eq (fn : Func) (tm : Array Value) : results fn tm = (do
    let vs ← fn.results.mapM (resStep tm)
    pure (if h : vs.size = 1 then vs[0] else .tuple vs)) := by
  unfold results
  congr 1

theorem res_sound {C : CodeR} {g : Gh} {s : St} {w : World} (hs : StR L.toLk C g s w) {e : Env} {tm : Array Value} (he : EnvR L.toLk g w e tm) : ∀ {rs : List ResultVar} {is : List IRes} {vs : List AV}, resOk P rs is = true → resA e s is = some vs →
    ∃ cs, (rs.mapM (resStep tm)).run P w = .ok cs w ∧ RepL L.toLk g w vs cs
  | [], [], vs, _, h => by
    simp only [resA, Option.some.injEq] at h
    subst h
    exact ⟨[], by simp [Sem.run_pure], by simp [RepL]⟩
  | .tmp t :: r, .t n :: q, vs, hk, h => by
    simp only [resOk, Bool.and_eq_true, beq_iff_eq] at hk
    obtain ⟨rfl, hk⟩ := hk
    simp only [resA] at h
    split at h
    · rename_i us hus
      cases h
      obtain ⟨cs, h1, h2⟩ := res_sound hs he hk hus
      exact ⟨tm.getD t undef :: cs, by simp only [List.mapM_cons, resStep, Sem.run_bind, Sem.run_pure, Result.andThen_ok, h1], by simp only [RepL]; exact ⟨_, _, rfl, he t, h2⟩⟩
    · cases h
  | .cell a t :: r, .cell b agg n :: q, vs, hk, h => by
    simp only [resOk, Bool.and_eq_true, beq_iff_eq, Bool.or_eq_true] at hk
    obtain ⟨⟨⟨⟨rfl, ha⟩, hn⟩, h1⟩, hk⟩ := hk
    simp only [resA] at h
    split at h
    · rename_i v us hv hus
      cases h
      obtain ⟨cs, h2, h3⟩ := res_sound hs he hk hus
      obtain ⟨ad, cv, h4, h5, h6⟩ := loadVar_sound (P := P) hs ha hn h1 (he a) hv
      refine ⟨cv :: cs, ?_, by simp only [RepL]; exact ⟨_, _, rfl, h6, h3⟩⟩
      simp only [List.mapM_cons, resStep, Sem.run_bind, h4, asAddr, Sem.run_pure, Result.andThen_ok, h5, h2]
    · cases h
  | [], _ :: _, _, hk, _ => by simp [resOk] at hk
  | .tmp _ :: _, [], _, hk, _ => by simp [resOk] at hk
  | .cell _ _ :: _, [], _, hk, _ => by simp [resOk] at hk
  | .tmp _ :: _, .cell _ _ _ :: _, _, hk, _ => by simp [resOk] at hk
  | .cell _ _ :: _, .t _ :: _, _, hk, _ => by simp [resOk] at hk

theorem results_sound {C : CodeR} {g : Gh} {s : St} {w : World} (hs : StR L.toLk C g s w) {e : Env} {tm : Array Value} (he : EnvR L.toLk g w e tm) {fn : Func} {is : List IRes} {vs : List AV} (hk : resOk P fn.results.toList is = true) (h : resA e s is = some vs) :
    ∃ cv, (results fn tm).run P w = .ok cv w ∧ Rep L.toLk g w (resOne vs) cv := by
  obtain ⟨cs, h1, h2⟩ := res_sound (P := P) hs he hk h
  have h3 : (fn.results.mapM (resStep tm)).run P w = .ok cs.toArray w := by
    rw [run_mapM_array, h1]; rfl
  refine ⟨if h : cs.toArray.size = 1 then cs.toArray[0] else .tuple cs.toArray, ?_, ?_⟩
  · rw [results_eq, Sem.run_bind, h3]
    simp only [Result.andThen_ok, Sem.run_pure]
  · match vs, cs, h2 with
    | [], [], _ => simp [resOne, Rep, RepL]
    | [v], [c], h2 =>
      simp only [RepL] at h2
      obtain ⟨_, _, e, h4, _⟩ := h2
      cases e
      simpa [resOne] using h4
    | v :: v' :: vs, c :: c' :: cs, h2 =>
      simp only [resOne, List.size_toArray, List.length_cons]
      rw [dif_neg (by omega)]
      simp only [Rep]
      exact ⟨_, rfl, h2⟩
    | [], _ :: _, h2 => simp [RepL] at h2
    | _ :: _, [], h2 => simp [RepL] at h2
    | [_], _ :: _ :: _, h2 => simp [RepL] at h2
    | _ :: _ :: _, [_], h2 =>
      have := h2.length
      simp at this
end
end Ab

/- What a callee leaves of the state; whole calls. Its conditions: functions are as the given texts say; calls further in do what the abstract run says. -/
namespace Ab
open Go

section
variable {P : Program} {L : Link} {E : IEnv} {call : Caller}

/- what is never written again when a call's own blocks are shut -/
def Gh.shut (g : Gh) (Q : Nat → Prop) : Gh := { g with imm := fun b o => g.imm b o ∨ Q b }

theorem GE.shut (g : Gh) (Q : Nat → Prop) (w : World) : GE g w (g.shut Q) w := ⟨fun _ _ h => h, fun _ T h => ⟨T, h, Nat.le_refl _, fun _ => rfl⟩, fun _ _ h => ⟨.inl h, rfl⟩, fun _ h => h⟩

theorem restore {C : CodeR} {g gE : Gh} {s s2 : St} {w wE : World} (h : StR L.toLk C gE s2 wE) (hs : StR L.toLk C g s w) (hx : Ext g { s with ro := s.bl.length, rt := s.tk.length } w gE s2 wE) (ts : List TokI)
    (hts : ts = [] ∨ ∃ t T, ts = [T] ∧ gE.tk[t]? = some T ∧ s.tk.length ≤ t) (Q : Nat → Prop) (hQ : ∀ b, Q b → ∃ i, s.bl.length ≤ i ∧ gE.bl[i]? = some b) :
    StR L.toLk C { gE.shut Q with bl := g.bl, tk := g.tk ++ ts } { s with tk := s.tk ++ ts.map (·.top) } wE ∧ Ext g s w { gE.shut Q with bl := g.bl, tk := g.tk ++ ts } { s with tk := s.tk ++ ts.map (·.top) } wE := by
  have hlen : g.tk.length = s.tk.length := by rw [← hs.tk]; simp
  have hge : GE g w { gE.shut Q with bl := g.bl, tk := g.tk ++ ts } wE :=
    ⟨fun _ _ h => h, fun t T hT => ⟨T, by rw [List.getElem?_append_left (List.getElem?_eq_some_iff.1 hT).1]; exact hT, Nat.le_refl _, fun _ => rfl⟩, fun b o hi => ⟨.inl (hx.ge.imm b o hi).1, (hx.ge.imm b o hi).2⟩, hx.ge.lps⟩
  have hhp : ∀ (i b : Nat), g.bl[i]? = some b → wE.heap[b]? = w.heap[b]? := fun i b hb => hx.hp i b (by
    have := (List.getElem?_eq_some_iff.1 hb).1
    rw [hs.bl] at this; exact this) hb
  have hold : ∀ (t : Nat) (T : TokI), g.tk[t]? = some T → gE.tk[t]? = some T := by
    intro t T hT
    obtain ⟨T', h1, h2, h3⟩ := hx.ge.tk t T hT
    have hlt : t < s.tk.length := by rw [← hlen]; exact (List.getElem?_eq_some_iff.1 hT).1
    have h4 := hx.tks t hlt
    rw [← h.tk] at h4
    have h5 : s.tk[t]? = some T.top := by rw [← hs.tk]; simp [hT]
    simp only [h5, List.getElem?_map, h1, Option.map_some, Option.some.injEq] at h4
    rw [h3 h4] at h1
    exact h1
  have hcase : ∀ (t : Nat) (T : TokI), (g.tk ++ ts)[t]? = some T → (∃ u, gE.tk[u]? = some T ∧ (t < s.tk.length → u = t) ∧ (s.tk.length ≤ t → t = s.tk.length ∧ s.tk.length ≤ u ∧ ts = [T])) := by
    intro t T hT
    by_cases ht : t < g.tk.length
    · rw [List.getElem?_append_left ht] at hT
      exact ⟨t, hold t T hT, fun _ => rfl, fun h => by omega⟩
    · rw [List.getElem?_append_right (by omega)] at hT
      rcases hts with rfl | ⟨u, T', rfl, h1, h2⟩
      · simp at hT
      · have h0 : t - g.tk.length = 0 := by
          have := (List.getElem?_eq_some_iff.1 hT).1
          simp at this; omega
        rw [h0] at hT
        simp at hT
        subst hT
        exact ⟨u, h1, fun h => by omega, fun _ => ⟨by omega, h2, rfl⟩⟩
  refine ⟨⟨hs.bl, by simp [hs.tk], fun i b x hi hxx => (hs.blocks i b x hi hxx).mono hge (hhp i b hi), hs.inj, ?_, fun i b hi => h.blBase i b (hx.ge.bl i b hi), ?_, ?_, ?_, h.baseIn, h.dfr, h.lps, hs.ro, by have := hs.rt; simp; omega⟩, ?_⟩
  · rintro i b o hi (hb | hb)
    · exact h.sep i b o (hx.ge.bl i b hi) hb
    · obtain ⟨j, hj, hjb⟩ := hQ b hb
      have := h.inj i j b (hx.ge.bl i b hi) hjb
      have h1 := (List.getElem?_eq_some_iff.1 hi).1
      rw [hs.bl] at h1
      omega
  · intro t T hT
    obtain ⟨u, h1, _⟩ := hcase t T hT
    have T' := h.toks u T h1
    refine ⟨T'.spot, T'.space, T'.top, ?_, fun hm => T'.own ?_, T'.base⟩
    · rintro o ho (hb | hb)
      · exact T'.free o ho hb
      · obtain ⟨j, hj, hjb⟩ := hQ _ hb
        exact T'.own (List.mem_of_getElem? hjb)
    · obtain ⟨j, hj⟩ := List.mem_iff_getElem?.1 hm
      exact List.mem_of_getElem? (hx.ge.bl j _ hj)
  · intro t u T U hT hU he
    obtain ⟨t', h1, h2, h3⟩ := hcase t T hT
    obtain ⟨u', h4, h5, h6⟩ := hcase u U hU
    have := h.tokInj t' u' T U h1 h4 he
    by_cases ht : t < s.tk.length <;> by_cases hu : u < s.tk.length
    · rw [← h2 ht, ← h5 hu]; exact this
    · have := h2 ht; have := h6 (by omega); omega
    · have := h5 hu; have := h3 (by omega); omega
    · have := h3 (by omega); have := h6 (by omega); omega
  · rintro b o (hb | hb)
    · exact h.immIn b o hb
    · obtain ⟨j, hj, hjb⟩ := hQ b hb
      exact h.lt hjb
  · refine ⟨hge, hx.dfr, hx.base, hx.old, hx.size, hx.os, hx.out, hx.tape, rfl, rfl, fun _ _ => rfl, fun i hi => ?_, fun i b hi hb => hhp i b hb, fun b o hb hi => ?_⟩
    rotate_left 1
    · rcases hi with hi | hi
      · exact hx.immOld b o hb hi
      · obtain ⟨j, hj, hjb⟩ := hQ b hi
        have := h.blBase j b hjb
        rw [hx.base] at this
        omega
    have := hs.rt
    show (s.tk ++ _)[i]? = _
    rw [List.getElem?_append_left (by omega)]

/- the blocks of cells from lo on -/
def OwnQ (g : Gh) (lo : Nat) (b : Nat) : Prop := ∃ i, lo ≤ i ∧ g.bl[i]? = some b

theorem frz_rep {C : CodeR} {g : Gh} {s : St} {w : World} (h : StR L.toLk C g s w) (lo : Nat) : ∀ (k : Nat) (v : AV) (cv : Value), Rep L.toLk g w v cv → Rep L.toLk (g.shut (OwnQ g lo)) w (frz s lo k v) cv
  | 0, v, cv, hr => by simp only [frz]; exact Rep.mono (GE.shut _ _ _) _ _ hr
  | k + 1, v, cv, hr => by
    have hge := GE.shut g (OwnQ g lo) w
    have list : ∀ (xs : List AV) (vs : List Value), RepL L.toLk g w xs vs → RepL L.toLk (g.shut (OwnQ g lo)) w (xs.map (frz s lo k)) vs := by
      intro xs
      induction xs with
      | nil => intro vs hv; simpa [RepL] using hv
      | cons x xs ih =>
        intro vs hv
        simp only [RepL, List.map_cons] at hv ⊢
        obtain ⟨u, r, rfl, h1, h2⟩ := hv
        exact ⟨u, r, rfl, frz_rep h lo k x u h1, ih r h2⟩
    cases v with
    | msl i off sz n =>
      simp only [frz]
      split
      · rename_i hlo
        split
        · rename_i xs hxs
          obtain ⟨hz, hn, b, a, cap, vs, us, rest, e, hb, rfl, hcap, ha, k1, k2, h1, hle, k3⟩ := elems_rep h hr hxs
          have hul := k1.length
          have hfl := flat_length fun u hu => (k2 u hu).1
          simp only [Rep]
          refine ⟨some a, cap, us, by rw [AV.untokL_length, List.length_map, hn], by rw [AV.untokL_length, List.length_map, hn]; exact hcap, AV.untokL_idem _, (list _ _ k1).untok_same, k2, ⟨fun hne => ?_, fun j c hj => ?_⟩, rfl⟩
          · have : 0 < n := by
              rcases Nat.eq_zero_or_pos n with h0 | h0
              · exact absurd (List.eq_nil_of_length_eq_zero (by rw [AV.untokL_length, List.length_map, hn, h0])) hne
              · exact h0
            rw [ha (by omega)]
          · have hjl := (List.getElem?_eq_some_iff.1 hj).1
            have hpos : 0 < cap := by
              rcases Nat.eq_zero_or_pos n with h0 | h0
              · rw [hfl, hul, hn, h0] at hjl; simp at hjl
              · omega
            have ha' := ha hpos
            subst ha'
            refine ⟨.inr ⟨i, hlo, hb⟩, ?_⟩
            rw [cell?_of h1]
            rw [k3, List.getElem?_take] at hj
            split at hj
            · rw [List.getElem?_drop] at hj
              simp only [List.getElem?_toArray]
              rw [List.getElem?_append_left (List.getElem?_eq_some_iff.1 hj).1]
              exact hj
            · cases hj
        · exact Rep.mono hge _ _ hr
      · exact Rep.mono hge _ _ hr
    | agg cs =>
      simp only [frz, Rep] at hr ⊢
      obtain ⟨vs, rfl, h1, h2⟩ := hr
      exact ⟨vs, rfl, list _ _ h1, h2⟩
    | tup cs =>
      simp only [frz, Rep] at hr ⊢
      obtain ⟨vs, rfl, h1⟩ := hr
      exact ⟨vs, rfl, list _ _ h1⟩
    | iface t u =>
      simp only [frz, Rep] at hr ⊢
      obtain ⟨c, rfl, h1⟩ := hr
      exact ⟨c, rfl, frz_rep h lo k u c h1⟩
    | _ => simp only [frz]; exact Rep.mono hge _ _ hr

theorem fin_sound {C : CodeR} {g gE : Gh} {s s2 : St} {w wE : World} {m : Mode} (h : StR L.toLk C gE s2 wE) (hs : StR L.toLk C g s w) (hx : Ext g (s0Of m s) w gE s2 wE) {v v' : AV} {cv : Value} {s' : St} (hv : Rep L.toLk gE wE v cv) (hf : finA m s.bl.length s s2 v = some (v', s')) :
    ∃ g', StR L.toLk C g' { s' with ro := s.ro, rt := s.rt } wE ∧ Ext g s w g' { s' with ro := s.ro, rt := s.rt } wE ∧ Rep L.toLk g' wE v' cv := by
  have plain : ∀ (hx : Ext g { s with ro := s.bl.length, rt := s.tk.length } w gE s2 wE) (Q : Nat → Prop) (hQ : ∀ b, Q b → ∃ i, s.bl.length ≤ i ∧ gE.bl[i]? = some b) (v : AV) (hv : Rep L.toLk (gE.shut Q) wE v cv) (hd : v.data = true),
      ∃ g', StR L.toLk C g' { s with ro := s.ro, rt := s.rt } wE ∧ Ext g s w g' { s with ro := s.ro, rt := s.rt } wE ∧ Rep L.toLk g' wE v.untok cv := by
    intro hx Q hQ v hv hd
    have hr := restore h hs hx [] (.inl rfl) Q hQ
    simp only [List.map_nil, List.append_nil] at hr
    exact ⟨_, hr.1, hr.2, Rep.untok (g := gE.shut Q) (g' := { gE.shut Q with bl := g.bl, tk := g.tk }) (w := wE) (w' := wE) true (fun e => by cases e) (fun b o hi => ⟨hi, rfl⟩) v cv (fun _ => hd) hv⟩
  have plain0 : ∀ (hx : Ext g { s with ro := s.bl.length, rt := s.tk.length } w gE s2 wE) (hd : v.data = true), ∃ g', StR L.toLk C g' { s with ro := s.ro, rt := s.rt } wE ∧ Ext g s w g' { s with ro := s.ro, rt := s.rt } wE ∧ Rep L.toLk g' wE v.untok cv :=
    fun hx hd => plain hx (fun _ => False) (fun _ h => h.elim) v (Rep.mono (GE.shut _ _ _) _ _ hv) hd
  have frozen : ∀ (hx : Ext g { s with ro := s.bl.length, rt := s.tk.length } w gE s2 wE) (hd : (frz s2 s.bl.length 8 v).data = true),
      ∃ g', StR L.toLk C g' { s with ro := s.ro, rt := s.rt } wE ∧ Ext g s w g' { s with ro := s.ro, rt := s.rt } wE ∧ Rep L.toLk g' wE (frz s2 s.bl.length 8 v).untok cv :=
    fun hx hd => plain hx (OwnQ gE s.bl.length) (fun _ h => h) _ (frz_rep h s.bl.length 8 v cv hv) hd
  cases m with
  | eff =>
    simp only [finA, Option.some.injEq, Prod.mk.injEq] at hf
    obtain ⟨rfl, rfl⟩ := hf
    have e : ({ s2 with ro := s.ro, rt := s.rt } : St) = s2 := by
      have h1 := hx.ro; have h2 := hx.rt
      simp only [s0Of] at h1 h2
      rw [← h1, ← h2]
    rw [e]
    exact ⟨gE, h, hx, hv⟩
  | pure =>
    simp only [finA] at hf
    split at hf
    · rename_i hd
      simp only [Option.some.injEq, Prod.mk.injEq] at hf
      obtain ⟨rfl, rfl⟩ := hf
      exact plain0 hx hd
    · split at hf
      · rename_i hd
        simp only [Option.some.injEq, Prod.mk.injEq] at hf
        obtain ⟨rfl, rfl⟩ := hf
        exact frozen hx hd
      · cases hf
  | thaw =>
    simp only [finA] at hf
    split at hf
    · rename_i hd
      simp only [Option.some.injEq, Prod.mk.injEq] at hf
      obtain ⟨rfl, rfl⟩ := hf
      exact plain0 hx hd
    · split at hf
      · rename_i hd
        simp only [Option.some.injEq, Prod.mk.injEq] at hf
        obtain ⟨rfl, rfl⟩ := hf
        exact frozen hx hd
      · cases hf
  | keep =>
    simp only [finA] at hf
    split at hf
    · rename_i hd
      split at hf
      · rename_i t z xs
        split at hf
        · rename_i ht
          simp only [Option.some.injEq, Prod.mk.injEq] at hf
          obtain ⟨rfl, rfl⟩ := hf
          have hlen : g.tk.length = s.tk.length := by rw [← hs.tk]; simp
          have hu : Rep L.toLk gE wE (.sl .any z xs) cv := by
            have := Rep.untok_same hv
            simpa only [AV.untok] using this
          simp only [Rep] at hv
          obtain ⟨a, cap, vs, rfl, hc, hu2, hr2, hz, hl, hsome, T, hT, hle, heq⟩ := hv
          have htop : T.top = xs.length := by
            have := ht.2
            rw [← h.tk] at this
            simpa [hT] using this
          have hr := restore h hs hx [T] (.inr ⟨t, T, rfl, hT, ht.1⟩) (fun _ => False) (fun _ h => h.elim)
          simp only [List.map_cons, List.map_nil, htop] at hr
          refine ⟨_, hr.1, hr.2, ?_⟩
          have h3 : Rep L.toLk { gE.shut (fun _ => False) with bl := g.bl, tk := g.tk ++ [T] } wE (AV.sl .any z xs).untok (.slice a xs.length cap) :=
            Rep.untok (g := gE) (g' := { gE.shut (fun _ => False) with bl := g.bl, tk := g.tk ++ [T] }) (w := wE) (w' := wE) true (fun e => by cases e) (fun b o hi => ⟨.inl hi, rfl⟩) _ _ (fun _ => by simpa only [AV.data] using hd) hu
          simp only [AV.untok, Rep] at h3
          obtain ⟨a', cap', vs', e1, k1, k2, k3, k4, k5, _⟩ := h3
          cases e1
          simp only [Rep]
          refine ⟨a, cap, vs', rfl, k1, k2, k3, k4, k5, hsome, T, ?_, hle, heq⟩
          show (g.tk ++ [T])[s.tk.length]? = some T
          rw [← hlen]; simp
        · simp only [Option.some.injEq, Prod.mk.injEq] at hf
          obtain ⟨rfl, rfl⟩ := hf
          have := plain0 hx hd
          simpa only [AV.untok] using this
      · simp only [Option.some.injEq, Prod.mk.injEq] at hf
        obtain ⟨rfl, rfl⟩ := hf
        exact plain0 hx hd
    · split at hf
      · rename_i hd
        simp only [Option.some.injEq, Prod.mk.injEq] at hf
        obtain ⟨rfl, rfl⟩ := hf
        exact frozen hx hd
      · cases hf

/- plain values need nothing of the caller's -/
mutual
theorem AV.plain_spec : ∀ x : AV, x.plain = true → x.data = true ∧ x.untok = x
  | .bool _, _ | .int _ _, _ | .str _, _ | .nilp, _ | .nilf, _ | .nilif, _ | .map none, _ => ⟨rfl, rfl⟩
  | .sl .any _ _, h | .sl .nil _ _, h | .sl .full _ _, h => ⟨by simpa only [AV.plain, AV.data] using h, rfl⟩
  | .rptr _ _, h => ⟨by simpa only [AV.plain, AV.data] using h, rfl⟩
  | .iface t v, h => by
    obtain ⟨h1, h2⟩ := AV.plain_spec v (by simpa only [AV.plain] using h)
    exact ⟨by simpa only [AV.data] using h1, by simp only [AV.untok, h2]⟩
  | .agg cs, h => by
    obtain ⟨h1, h2⟩ := AV.plainL_spec cs (by simpa only [AV.plain] using h)
    exact ⟨by simpa only [AV.data] using h1, by simp only [AV.untok, h2]⟩
  | .tup cs, h => by
    obtain ⟨h1, h2⟩ := AV.plainL_spec cs (by simpa only [AV.plain] using h)
    exact ⟨by simpa only [AV.data] using h1, by simp only [AV.untok, h2]⟩
  | .fn f a c, h => by
    simp only [AV.plain, Bool.and_eq_true] at h
    obtain ⟨h1, h2⟩ := AV.plainL_spec a h.1
    obtain ⟨h3, h4⟩ := AV.plainL_spec c h.2
    exact ⟨by simp only [AV.data, h1, h3, Bool.and_self], by simp only [AV.untok, h2, h4]⟩
  | .sl (.tok _) _ _, h | .ptr _ _, h | .raw _ _ _, h | .msl _ _ _ _, h | .map (some _), h | .yield _, h | .junk, h => by simp [AV.plain] at h
theorem AV.plainL_spec : ∀ x : List AV, AV.plainL x = true → AV.dataL x = true ∧ AV.untokL x = x
  | [], _ => ⟨rfl, rfl⟩
  | x :: xs, h => by
    simp only [AV.plainL, Bool.and_eq_true] at h
    obtain ⟨h1, h2⟩ := AV.plain_spec x h.1
    obtain ⟨h3, h4⟩ := AV.plainL_spec xs h.2
    exact ⟨by simp only [AV.dataL, h1, h3, Bool.and_self], by simp only [AV.untokL, h2, h4]⟩
end

/- the start that sees nothing of the caller's -/
def Gh.bare (g : Gh) (w : World) : Gh := { bl := [], tk := [], imm := g.imm, base := w.heap.size, dfr := [], lps := g.lps }
def stB : St := { bl := [], tk := [], ro := 0, rt := 0 }

theorem bare_rep {g : Gh} {w : World} {xs : List AV} {vs : List Value} (h : RepL L.toLk g w xs vs) (hp : AV.plainL xs = true) : RepL L.toLk (g.bare w) w xs vs := by
  obtain ⟨h1, h2⟩ := AV.plainL_spec xs hp
  have := RepL.untok (g := g) (g' := g.bare w) (w := w) (w' := w) true (fun e => by cases e) (fun b o hi => ⟨hi, rfl⟩) xs vs (fun _ => h1) h
  rwa [h2] at this
theorem bare_st {C : CodeR} {g : Gh} {s : St} {w : World} (hs : StR L.toLk C g s w) : StR L.toLk C (g.bare w) stB w where
  bl := rfl
  tk := rfl
  blocks i b x h := by simp [Gh.bare] at h
  inj i j b h := by simp [Gh.bare] at h
  sep i b o h := by simp [Gh.bare] at h
  blBase i b h := by simp [Gh.bare] at h
  toks t T h := by simp [Gh.bare] at h
  tokInj t u T U h := by simp [Gh.bare] at h
  immIn := hs.immIn
  baseIn := Nat.le_refl _
  dfr d h := by simp [Gh.bare] at h
  lps := hs.lps
  ro := Nat.le_refl _
  rt := Nat.le_refl _
theorem bare_gl {C : CodeR} {g : Gh} {s : St} {w : World} (hs : StR L.toLk C g s w) (h : GlR L E g w) : GlR L E (g.bare w) w :=
  ⟨fun n => by
    rcases h.plain n with h1 | h1
    · rw [h1]; simp [Rep]
    · obtain ⟨h2, h3⟩ := AV.plain_spec _ h1
      have := Rep.untok (g := g) (g' := g.bare w) (w := w) (w' := w) true (fun e => by cases e) (fun b o hi => ⟨hi, rfl⟩) _ _ (fun _ => h2) (h.glob n)
      rwa [h3] at this, h.plain, Nat.le_trans h.base hs.baseIn, h.below⟩

theorem bare_back {C : CodeR} {g gE : Gh} {s s2 : St} {w wE : World} (h : StR L.toLk C gE s2 wE) (hs : StR L.toLk C g s w) (hx : Ext (g.bare w) stB w gE s2 wE) (Q : Nat → Prop) (hQ : ∀ b, Q b → ∃ i : Nat, gE.bl[i]? = some b) :
    StR L.toLk C { gE.shut Q with bl := g.bl, tk := g.tk, base := g.base, dfr := gE.dfr ++ g.dfr } s wE ∧ Ext g s w { gE.shut Q with bl := g.bl, tk := g.tk, base := g.base, dfr := gE.dfr ++ g.dfr } s wE := by
  have hbase : gE.base = w.heap.size := hx.base
  have hold : ∀ b, b < w.heap.size → wE.heap[b]? = w.heap[b]? := hx.old
  have hQ2 : ∀ b, Q b → w.heap.size ≤ b := fun b hb => by
    obtain ⟨i, hi⟩ := hQ b hb
    have := h.blBase i b hi
    omega
  have himm : ∀ b o, b < w.heap.size → (gE.imm b o ∨ Q b) → g.imm b o := fun b o hb hi => by
    rcases hi with hi | hi
    · exact hx.immOld b o hb hi
    · have := hQ2 b hi; omega
  have hge : GE g w { gE.shut Q with bl := g.bl, tk := g.tk, base := g.base, dfr := gE.dfr ++ g.dfr } wE :=
    ⟨fun _ _ h => h, fun t T hT => ⟨T, hT, Nat.le_refl _, fun _ => rfl⟩, fun b o hi => ⟨.inl (hx.ge.imm b o hi).1, (hx.ge.imm b o hi).2⟩, hx.ge.lps⟩
  have hbi := hs.baseIn
  have hsz := hx.size
  refine ⟨⟨hs.bl, hs.tk, fun i b x hi hxx => (hs.blocks i b x hi hxx).mono hge (hold b (hs.lt hi)), hs.inj, ?_, hs.blBase, ?_, hs.tokInj, ?_, Nat.le_trans hbi hsz, ?_, h.lps, hs.ro, hs.rt⟩, ?_⟩
  · intro i b o hi hb
    exact hs.sep i b o hi (himm b o (hs.lt hi) hb)
  · intro t T hT
    have T0 := hs.toks t T hT
    obtain ⟨c, e, fz, h1, _⟩ := T0.space
    have hlt := lt_of_heap h1
    have T' := T0.same (hold _ hlt)
    exact ⟨T'.spot, T'.space, T'.top, fun o ho hb => T'.free o ho (himm _ _ hlt hb), T'.own, T'.base⟩
  · rintro b o (hb | hb)
    · exact h.immIn b o hb
    · obtain ⟨i, hi⟩ := hQ b hb
      exact h.lt hi
  · intro d hd
    rcases List.mem_append.1 hd with hd | hd
    · obtain ⟨h1, h2⟩ := h.dfr d hd
      exact ⟨h1, by show g.base ≤ d; omega⟩
    · obtain ⟨h1, h2⟩ := hs.dfr d hd
      exact ⟨by rw [hold d (lt_of_heap h1)]; exact h1, h2⟩
  · refine ⟨hge, fun d hd => List.mem_append_right _ hd, rfl, fun b hb => hold b (by omega), hsz, hx.os, hx.out, hx.tape, rfl, rfl, fun _ _ => rfl, fun _ _ => rfl, fun i b _ hb => hold b (hs.lt hb), fun b o hb hi => himm b o (by omega) hi⟩

theorem fin_bare {C : CodeR} {g gE : Gh} {s s2 : St} {w wE : World} {m : Mode} (hm : isPure m = true) (h : StR L.toLk C gE s2 wE) (hs : StR L.toLk C g s w) (hx : Ext (g.bare w) stB w gE s2 wE) {v v' : AV} {cv : Value} {s' : St} (hv : Rep L.toLk gE wE v cv) (hf : finA m 0 s s2 v = some (v', s')) :
    ∃ g', StR L.toLk C g' { s' with ro := s.ro, rt := s.rt } wE ∧ Ext g s w g' { s' with ro := s.ro, rt := s.rt } wE ∧ Rep L.toLk g' wE v' cv := by
  have plain : ∀ (Q : Nat → Prop) (hQ : ∀ b, Q b → ∃ i : Nat, gE.bl[i]? = some b) (v : AV) (hv : Rep L.toLk (gE.shut Q) wE v cv) (hd : v.data = true),
      ∃ g', StR L.toLk C g' { s with ro := s.ro, rt := s.rt } wE ∧ Ext g s w g' { s with ro := s.ro, rt := s.rt } wE ∧ Rep L.toLk g' wE v.untok cv := by
    intro Q hQ v hv hd
    have hr := bare_back h hs hx Q hQ
    exact ⟨_, hr.1, hr.2, Rep.untok (g := gE.shut Q) (g' := { gE.shut Q with bl := g.bl, tk := g.tk, base := g.base, dfr := gE.dfr ++ g.dfr }) (w := wE) (w' := wE) true (fun e => by cases e) (fun b o hi => ⟨hi, rfl⟩) v cv (fun _ => hd) hv⟩
  have hf : (if v.data then some (v.untok, s) else if (frz s2 0 8 v).data then some ((frz s2 0 8 v).untok, s) else none) = some (v', s') := by cases m <;> first | exact hf | cases hm
  split at hf
  · rename_i hd
    simp only [Option.some.injEq, Prod.mk.injEq] at hf
    obtain ⟨rfl, rfl⟩ := hf
    exact plain (fun _ => False) (fun _ h => h.elim) v (Rep.mono (GE.shut _ _ _) _ _ hv) hd
  · split at hf
    · rename_i hd
      simp only [Option.some.injEq, Prod.mk.injEq] at hf
      obtain ⟨rfl, rfl⟩ := hf
      exact plain (OwnQ gE 0) (fun b ⟨i, _, hi⟩ => ⟨i, hi⟩) _ (frz_rep h 0 8 v cv hv) hd
    · cases hf

/- a function of the program is as its given text says -/
structure FnOk (P : Program) (L : Link) (f : Nat) (F : IFn) : Prop where
  out : ∃ fn c vars, P.funcs[L.fnOf f]? = some fn ∧ fn.body = some c ∧ (fn.name == "runtime.NumGoroutine") = false ∧ ckCode P L fn.ntmps vars F.body c = true ∧ (∀ i, i < F.np → vars.contains i = true) ∧ resOk P fn.results.toList F.res = true

theorem get_envOf : ∀ (args : List AV) (k i : Nat), (envOf k args).get i = if k ≤ i then args.getD (i - k) .junk else .junk
  | [], k, i => by simp [envOf, Env.get]
  | v :: r, k, i => by
    simp only [envOf, Env.get, get_envOf r]
    by_cases h1 : i = k
    · subst h1; rw [if_pos rfl, if_pos (Nat.le_refl _)]; simp
    · rw [if_neg h1]
      by_cases h2 : k ≤ i
      · rw [if_pos (by omega), if_pos h2, show i - k = (i - (k + 1)) + 1 by omega, List.getD_cons_succ]
      · rw [if_neg (by omega), if_neg h2]

theorem mem_envOf : ∀ {args : List AV} {k : Nat} {p : Nat × AV}, p ∈ envOf k args → p.1 < k + args.length
  | [], _, _, h => by simp [envOf] at h
  | v :: r, k, p, h => by
    simp only [envOf, List.mem_cons] at h
    rcases h with rfl | h
    · simp
    · have := mem_envOf h
      simp only [List.length_cons]; omega

theorem envR_enter {g : Gh} {w : World} {args : List AV} {cargs : List Value} (h : RepL L.toLk g w args cargs) (n : Nat) : EnvR L.toLk g w (envOf 0 args) (cargs.toArray ++ Array.replicate n undef) := by
  intro i
  rw [get_envOf]
  simp only [Nat.zero_le, if_true, Nat.sub_zero]
  cases hi : args[i]? with
  | none => rw [List.getD_eq_getElem?_getD, hi]; simp [Rep]
  | some x =>
    obtain ⟨v, hv, hr⟩ := h.get hi
    rw [List.getD_eq_getElem?_getD, hi]
    have hlt := (List.getElem?_eq_some_iff.1 hv).1
    have : (cargs.toArray ++ Array.replicate n undef).getD i undef = v := by
      rw [Array.getD_eq_getD_getElem?, Array.getElem?_append_left (by simpa using hlt)]
      simp [hv]
    rw [this]
    exact hr

theorem s_end {B : Frame} {tm : Array Value} {df : List Deferred} {cs : List Frame} {w : World} (h : B.roundOf = none) : step P (lone (mkF B tm df []) cs w) = .next (lone { mkF B tm df [] with mode := .returning } cs w) :=
  step_lone_go (by simp [stepG, stepG.exec, mkF, h])
theorem s_ret {B : Frame} {tm : Array Value} {df : List Deferred} {k : List Item} {cs : List Frame} {w : World} (h : B.roundOf = none) : step P (lone (mkF B tm df (.code .ret :: k)) cs w) = .next (lone { mkF B tm df (.code .ret :: k) with mode := .returning } cs w) :=
  step_lone_go (by simp [stepG, stepG.exec, mkF, h])

theorem s_leave_panic {fr c : Frame} {cs : List Frame} {w : World} {chain : List PanicEntry} (hd : fr.defers = []) (hm : fr.mode = .panicking chain) (hn : NoCall fr.todo) : step P (lone fr (c :: cs) w) = .next (lone (c.raise chain) cs w) := by
  have hc : fr.catches P = false := by
    unfold Frame.catches
    split
    · rename_i _ h2
      rw [h2] at hn; exact hn.elim
    · rfl
  exact step_lone_go (by simp [stepG, unwind, hc, hm, hd])

theorem RcvR.calm {g : Gh} {w : World} {f : Fr} {B : Frame} {cs0 : List Frame} (h : RcvR L.toLk g w f B cs0) (hk : B.kind = .normal ∨ ∃ c r, cs0 = c :: r ∧ c.mode = .returning) : f.recd = false := by
  obtain ⟨_, _, h3⟩ := h
  cases hr : f.recd with
  | false => rfl
  | true =>
    rw [hr] at h3
    cases hv : f.rcv <;> rw [hv] at h3 <;> simp only at h3
    obtain ⟨h4, c, r, pv, rfl, h5⟩ := h3
    rcases hk with hk | ⟨c', r', e, hk⟩
    · rw [h4] at hk; cases hk
    · cases e; rw [h5] at hk; cases hk

theorem run_sim (hinj : ∀ a b, L.tyOf a = L.tyOf b → a = b) (hcall : CallSim P L E call) (hcalm : CalmOk E call) {f : Nat} {F : IFn} (hF : FnOk P L f F) {n : Nat} {pn : Option AV} {args : List AV} {s s' : St} {r : CRes} {recd : Bool} (h : runA E call n F pn args s = some (r, recd, s'))
    {g : Gh} {w : World} (hs : StR L.toLk (CkR P L) g s w) (hgl : GlR L E g w) {cargs : List Value} (ha : RepL L.toLk g w args cargs) (kind : CallKind) (cs0 : List Frame)
    (hk : match pn with
      | none => kind = .normal ∨ (kind = .deferred ∧ ∃ c r, cs0 = c :: r ∧ c.mode = .returning)
      | some v => kind = .deferred ∧ ∃ c r pv, cs0 = c :: r ∧ c.mode = .panicking [{ v := pv, recovered := false }] ∧ Rep L.toLk g w v pv) :
    ∃ g' w' fn fr cv, P.funcs[L.fnOf f]? = some fn ∧ StR L.toLk (CkR P L) g' s' w' ∧ Ext g s w g' s' w' ∧ fr.fn = L.fnOf f ∧ fr.kind = kind ∧ fr.defers = [] ∧ NoCall fr.todo ∧
      (recd = true → kind = .deferred ∧ ∃ c r pv, cs0 = c :: r ∧ c.mode = .panicking [{ v := pv, recovered := false }]) ∧
      Steps P (lone (Frame.enter P (L.fnOf f) cargs.toArray kind) cs0 w) (lone fr (csAt recd cs0) w') ∧
      (match r with
      | .ret v => Rep L.toLk g' w' v cv ∧ fr.mode = .returning ∧ (results fn fr.tmps).run P w' = .ok cv w'
      | .pan v => Rep L.toLk g' w' v cv ∧ fr.mode = .panicking [{ v := cv, recovered := false }]) := by
  obtain ⟨fn, c, vars, hfn, hbody, hname, hck, hvars, hres⟩ := hF.out
  unfold runA at h
  split at h
  · cases h
  · rename_i hnp
    simp only [ne_eq, Decidable.not_not] at hnp
    obtain ⟨gS, sS, hsS, hs0, hglS, haS, hpnS, hfinS⟩ : ∃ gS sS, startA F.mode pn args s = sS ∧ StR L.toLk (CkR P L) gS sS w ∧ GlR L E gS w ∧ RepL L.toLk gS w args cargs ∧ (∀ v pv, pn = some v → Rep L.toLk g w v pv → Rep L.toLk gS w v pv) ∧
        (∀ {gE : Gh} {s2 : St} {wE : World}, StR L.toLk (CkR P L) gE s2 wE → Ext gS sS w gE s2 wE → ∀ {v v' : AV} {cv : Value} {s' : St}, Rep L.toLk gE wE v cv → finA F.mode sS.bl.length s s2 v = some (v', s') →
          ∃ g', StR L.toLk (CkR P L) g' { s' with ro := s.ro, rt := s.rt } wE ∧ Ext g s w g' { s' with ro := s.ro, rt := s.rt } wE ∧ Rep L.toLk g' wE v' cv) := by
      by_cases hst : (isPure F.mode && pn.isNone && AV.plainL args) = true
      · refine ⟨g.bare w, stB, by unfold startA; rw [if_pos hst]; rfl, bare_st hs, bare_gl hs hgl, ?_, ?_, ?_⟩
        · simp only [Bool.and_eq_true] at hst
          exact bare_rep ha hst.2
        · intro v pv hpn
          rw [hpn] at hst
          simp at hst
        · intro gE s2 wE h1 h2 v v' cv s' h3 h4
          simp only [Bool.and_eq_true] at hst
          exact fin_bare hst.1.1 h1 hs h2 h3 h4
      · refine ⟨g, s0Of F.mode s, by unfold startA; rw [if_neg hst], ?_, hgl, ha, fun _ _ _ h => h, ?_⟩
        · cases hm : F.mode
          case eff => exact hs
          all_goals exact ⟨hs.bl, hs.tk, hs.blocks, hs.inj, hs.sep, hs.blBase, hs.toks, hs.tokInj, hs.immIn, hs.baseIn, hs.dfr, hs.lps, Nat.le_refl _, Nat.le_refl _⟩
        · intro gE s2 wE h1 h2 v v' cv s' h3 h4
          have hlen : (s0Of F.mode s).bl.length = s.bl.length := by cases F.mode <;> rfl
          rw [hlen] at h4
          exact fin_sound h1 hs h2 h3 h4
    rw [hsS] at h
    have henter : Frame.enter P (L.fnOf f) cargs.toArray kind = mkF (Frame.enter P (L.fnOf f) cargs.toArray kind) (cargs.toArray ++ Array.replicate (fn.ntmps - cargs.toArray.size) undef) [] [.code c] := by
      simp [Frame.enter, mkF, hfn, hbody]
    generalize hB : Frame.enter P (L.fnOf f) cargs.toArray kind = B at henter
    have hBr : B.roundOf = none := by rw [← hB]; rfl
    have hBk : B.kind = kind := by rw [← hB]; rfl
    have hBf : B.fn = L.fnOf f := by rw [← hB]; rfl
    split at h
    · cases h
    · rename_i o f1 s1 hcode
      have hrc : RcvR L.toLk gS w { env := envOf 0 args, defers := [], rcv := pn, recd := false, rnd := false } B cs0 := by
        refine ⟨by rw [hBr]; rfl, fun l hl => (by rw [hBr] at hl; cases hl), ?_⟩
        cases pn with
        | none =>
          simp only at hk ⊢
          rw [hBk]
          exact .inr hk
        | some v =>
          simp only at hk ⊢
          rw [hBk]
          obtain ⟨k1, c, r, pv, k2, k3, k4⟩ := hk
          exact ⟨k1, c, r, pv, k2, k3, hpnS v pv rfl k4⟩
      have hfr : FrR L.toLk fn.ntmps vars w.heap.size gS w { env := envOf 0 args, defers := [], rcv := pn, recd := false, rnd := false } (cargs.toArray ++ Array.replicate (fn.ntmps - cargs.toArray.size) undef) [] :=
        ⟨envR_enter haS _, fun p hp => hvars _ (by have := mem_envOf hp; omega), by simp; omega, .nil, Nat.le_refl _⟩
      obtain ⟨g1, w1, tm1, df1, h1⟩ := code_sim hinj hcall hcalm c F.body hck hcode hs0 hglS hfr hrc []
      -- the body is left
      have left : ∀ p : Option AV, outPan o = some p →
          ∃ td m, NoCall td ∧ ModeR L.toLk g1 w1 p m ∧ Steps P (lone B cs0 w) (lone { mkF B tm1 df1 td with mode := m } (csAt f1.recd cs0) w1) := by
        intro p hp
        rw [henter]
        have hto := h1.to
        cases o with
        | normal =>
          simp only [outPan, Option.some.injEq] at hp
          subst hp
          exact ⟨[], .returning, trivial, rfl, Steps.trans hto (.one (s_end hBr))⟩
        | ret =>
          simp only [outPan, Option.some.injEq] at hp
          subst hp
          obtain ⟨k', hto⟩ := hto
          exact ⟨.code .ret :: k', .returning, trivial, rfl, Steps.trans hto (.one (s_ret hBr))⟩
        | pan v =>
          simp only [outPan, Option.some.injEq] at hp
          subst hp
          obtain ⟨cv, td, h2, h3, h4⟩ := hto
          exact ⟨td, _, h3, ⟨cv, rfl, h2⟩, h4⟩
        | exit id => cases hp
      split at h
      · cases h
      · rename_i p hp
        obtain ⟨td, m, htd, hm, hst⟩ := left p hp
        split at h
        · cases h
        · rename_i v s2 hu
          obtain ⟨g2, w2, m2, b1, b2, b3, b4, b5⟩ := unwind_sim hcall hs0 (Nat.le_refl _) h1.fr.dfr hu h1.st h1.ext (hglS.ext h1.ext) { mkF B tm1 df1 td with mode := m } (csAt f1.recd cs0) rfl hm
          obtain ⟨pv, rfl, hrv⟩ := b4
          split at h
          · rename_i v' s3 hfin
            simp only [Option.some.injEq, Prod.mk.injEq] at h
            obtain ⟨rfl, rfl, rfl⟩ := h
            obtain ⟨g3, c1, c2, c3⟩ := hfinS b1 b2 hrv hfin
            refine ⟨g3, w2, fn, { { mkF B tm1 df1 td with mode := m } with defers := [], mode := .panicking [{ v := pv, recovered := false }] }, pv, hfn, c1, c2, hBf, hBk, ?_, htd, fun hr => ?_, Steps.trans hst b5, c3, rfl⟩
            · rfl
            · have := h1.rcv.2.2
              rw [hr] at this
              cases hv : f1.rcv <;> rw [hv] at this <;> simp only at this
              rw [hBk] at this
              exact this
          · cases h
        · rename_i s2 hu
          obtain ⟨g2, w2, m2, b1, b2, b3, b4, b5⟩ := unwind_sim hcall hs0 (Nat.le_refl _) h1.fr.dfr hu h1.st h1.ext (hglS.ext h1.ext) { mkF B tm1 df1 td with mode := m } (csAt f1.recd cs0) rfl hm
          have b4' : m2 = .returning := b4
          subst b4'
          split at h
          · cases h
          · rename_i vs hvs
            obtain ⟨cv, hr1, hr2⟩ := results_sound (P := P) (fn := fn) b1 (h1.fr.env.mono b3) hres hvs
            split at h
            · rename_i v' s3 hfin
              simp only [Option.some.injEq, Prod.mk.injEq] at h
              obtain ⟨rfl, rfl, rfl⟩ := h
              obtain ⟨g3, c1, c2, c3⟩ := hfinS b1 b2 hr2 hfin
              refine ⟨g3, w2, fn, { { mkF B tm1 df1 td with mode := m } with defers := [], mode := .returning }, cv, hfn, c1, c2, hBf, hBk, ?_, htd, fun hr => ?_, Steps.trans hst b5, c3, rfl, hr1⟩
              · rfl
              · have := h1.rcv.2.2
                rw [hr] at this
                cases hv : f1.rcv <;> rw [hv] at this <;> simp only at this
                rw [hBk] at this
                exact this
            · cases h
end
end Ab

/- Rounds of loops over functions; all calls; the last law. Its conditions: functions are as the given texts say; hand-proved functions do what is said of them. -/
namespace Ab
open Go Go.RowKit

section
variable {P : Program} {L : Link} {E : IEnv} {call : Caller}

theorem EnvR.put {g : Gh} {w : World} {e : Env} {tm : Array Value} (h : EnvR L.toLk g w e tm) {p : Nat} (hp : p < tm.size) {v : AV} {cv : Value} (hv : Rep L.toLk g w v cv) : EnvR L.toLk g w (e.put p v) (tm.setIfInBounds p cv) := by
  intro i
  rw [get_put _ _ _ _ hp, Env.get_put]
  split
  · exact hv
  · exact h i

theorem putAll_sound {g : Gh} {w : World} {N : Nat} {vars : List Nat} : ∀ {ps : List Nat} {vs : List AV} {cs : List Value} {e : Env} {tm : Array Value}, (∀ p ∈ ps, p < N ∧ vars.contains p = true) → N ≤ tm.size → RepL L.toLk g w vs cs → EnvR L.toLk g w e tm → EnvD vars e →
    EnvR L.toLk g w (putAll ps vs e) ((ps.zip cs).foldl (fun tm (t, a) => tm.setIfInBounds t a) tm) ∧ EnvD vars (putAll ps vs e) ∧ N ≤ ((ps.zip cs).foldl (fun tm (t, a) => tm.setIfInBounds t a) tm).size
  | [], vs, cs, e, tm, _, hN, _, he, hd => by simp [putAll]; exact ⟨he, hd, hN⟩
  | p :: ps, [], cs, e, tm, _, hN, hr, he, hd => by
    simp only [RepL] at hr; subst hr
    simp [putAll]; exact ⟨he, hd, hN⟩
  | p :: ps, v :: vs, cs, e, tm, hp, hN, hr, he, hd => by
    simp only [RepL] at hr
    obtain ⟨c, r, rfl, h1, h2⟩ := hr
    simp only [putAll, List.zip_cons_cons, List.foldl_cons]
    have h3 := hp p (List.mem_cons_self ..)
    exact putAll_sound (fun q hq => hp q (List.mem_cons_of_mem _ hq)) (by simpa using hN) h2 (he.put (by omega) h1) (hd.put h3.2 v)

theorem s_beginRound {B : Frame} {tm : Array Value} {df : List Deferred} {k : List Item} {cs : List Frame} {w w' : World} {l : Nat} (hB : B.roundOf = some l) (h : (Instr.beginRound l).run P w = .ok () w') :
    step P (lone (mkF B tm df (.beginRound :: k)) cs w) = .next (lone (mkF B tm df k) cs w') := by
  refine step_lone_go ?_
  have hr : ((do (Option.elim B.roundOf (stuck "beginRound: no round") Instr.beginRound); pure Next.skip : Sem Next)).run P w = .ok .skip w' := by
    simp only [hB, Option.elim, Sem.run_bind, h, Result.andThen_ok, Sem.run_pure]
  simp only [stepG, stepG.exec, mkF, stepG.apply, Sem.runT_eq, hr, if_true, GStep.bare_after]
  rfl

/- a round's end -/
def Jump : Option Code → List Item → Prop
  | none, td => td = []
  | some (.exit id), td => ∃ k, td = .code (.exit id) :: k ∧ exitTo id k = none
  | some .ret, td => ∃ k, td = .code .ret :: k
  | some _, _ => False

theorem s_endRound {B : Frame} {tm : Array Value} {df : List Deferred} {td : List Item} {c : Frame} {cs : List Frame} {w w' : World} {l : Nat} {j : Option Code} {v : Value} (hB : B.roundOf = some l) (hj : Jump j td) (h : (Instr.endRound l j).run P w = .ok v w') :
    (B.kind = .normal → step P (lone (mkF B tm df td) (c :: cs) w) = .next (lone (c.finish v) cs w')) ∧
    (B.kind = .deferred → c.mode = .returning → step P (lone (mkF B tm df td) (c :: cs) w) = .next (lone c cs w')) := by
  have key : ∀ (k : CallKind), B.kind = k → (stepG P true { frame := mkF B tm df td, callers := c :: cs, status := .running, dying := none } w).bare = (doReturn P true (mkF B tm df td) (c :: cs) none v w').bare := by
    intro k hk
    cases j with
    | none =>
      subst hj
      simp only [stepG, stepG.exec, mkF, hB, Sem.runT_eq, h, GStep.bare_after]
    | some j =>
      cases j with
      | exit id =>
        obtain ⟨k, rfl, he⟩ := hj
        simp only [stepG, stepG.exec, mkF, hB, he, Option.elim, Sem.runT_eq, h, GStep.bare_after]
      | ret =>
        obtain ⟨k, rfl⟩ := hj
        simp only [stepG, stepG.exec, mkF, hB, Sem.runT_eq, h, GStep.bare_after]
      | _ => exact hj.elim
  refine ⟨fun hk => step_lone_go ?_, fun hk hm => step_lone_go ?_⟩
  · rw [key _ hk]
    simp [doReturn, mkF, hk]
  · rw [key _ hk]
    simp [doReturn, mkF, hk, hm]

theorem round_sim (hinj : ∀ a b, L.tyOf a = L.tyOf b → a = b) (hcall : CallSim P L E call) (hcalm : CalmOk E call) {n i : Nat} {args : List AV} {s s' : St} {r : CRes} {recd : Bool} (h : roundA E call n i args s = some (r, recd, s'))
    {g : Gh} {w : World} (hs : StR L.toLk (CkR P L) g s w) (hgl : GlR L E g w) {b : Nat} (hb : g.bl[i]? = some b) {cargs : List Value} (ha : RepL L.toLk g w args cargs) :
    recd = false ∧ ∃ f tms as bd, (Instr.yield b cargs.toArray).run P w = .ok (.round b f tms as bd) w ∧
    (∀ c cs, ∃ g' w' cv, StR L.toLk (CkR P L) g' s' w' ∧ Ext g s w g' s' w' ∧ (match r with
      | .ret v => Rep L.toLk g' w' v cv ∧ Steps P (lone (Frame.round b f tms as bd .normal) (c :: cs) w) (lone (c.finish cv) cs w')
      | .pan v => Rep L.toLk g' w' v cv ∧ Steps P (lone (Frame.round b f tms as bd .normal) (c :: cs) w) (lone (c.raise [{ v := cv, recovered := false }]) cs w'))) ∧
    (∀ c cs, c.mode = .returning → ∃ g' w', StR L.toLk (CkR P L) g' s' w' ∧ Ext g s w g' s' w' ∧ (match r with
      | .ret _ => Steps P (lone (Frame.round b f tms as bd .deferred) (c :: cs) w) (lone c cs w')
      | .pan _ => True)) := by
  unfold roundA at h
  split at h
  · rename_i AL hAL
    split at h
    · rename_i hcond
      obtain ⟨hnum, hro⟩ := hcond
      obtain ⟨hlp, lp, N, vars, d1, d2, d3, d4, d5, d6, d7, d8, d9, d10⟩ := hs.blocks _ _ _ hb hAL
      have hy := run_yield (P := P) (args := cargs.toArray) d1 (by rw [d4]; simp [ha.length, hnum])
      split at h
      · rename_i f1 s1 hc1
        split at h
        · rename_i AL1 hAL1
          split at h
          · rename_i hready
            split at h
            · rename_i o f2 s2 hc2
              split at h
              · rename_i AL2 hAL2
                -- what the machine's frame does, for either kind of call
                have hzip : (lp.params.zip cargs.toArray).foldl (fun tmps (t, a) => tmps.setIfInBounds t a) lp.tmps = (AL.ps.zip cargs).foldl (fun tm (t, a) => tm.setIfInBounds t a) lp.tmps := by
                  rw [← Array.foldl_toList, Array.toList_zip, d4]
                rw [hzip] at hy
                obtain ⟨p1, p2, p3⟩ := putAll_sound (L := L) (ps := AL.ps) d10 d5 ha d8 d9
                have run : ∀ (kind : CallKind) (cs0 : List Frame), (kind = .normal ∨ ∃ c r, cs0 = c :: r ∧ c.mode = .returning) →
                    ∃ g2 w2 tm2 df2, StR L.toLk (CkR P L) g2 s2 w2 ∧ Ext g s w g2 s2 w2 ∧ DRel L.toLk g2 w2 w.heap.size f2.defers df2 ∧ To P L (lone (Frame.round b lp.fn ((AL.ps.zip cargs).foldl (fun tm (t, a) => tm.setIfInBounds t a) lp.tmps) lp.assign lp.body kind) cs0 w) (Frame.round b lp.fn ((AL.ps.zip cargs).foldl (fun tm (t, a) => tm.setIfInBounds t a) lp.tmps) lp.assign lp.body kind) tm2 df2 [] cs0 g2 w2 o := by
                  intro kind cs0 hk
                  have hfr : FrR L.toLk N vars w.heap.size g w { env := putAll AL.ps args AL.env, defers := [], rcv := none, recd := false, rnd := true } ((AL.ps.zip cargs).foldl (fun tm (t, a) => tm.setIfInBounds t a) lp.tmps) [] := ⟨p1, p2, p3, .nil, Nat.le_refl _⟩
                  have hself : Frame.round b lp.fn ((AL.ps.zip cargs).foldl (fun tm (t, a) => tm.setIfInBounds t a) lp.tmps) lp.assign lp.body kind = mkF (Frame.round b lp.fn ((AL.ps.zip cargs).foldl (fun tm (t, a) => tm.setIfInBounds t a) lp.tmps) lp.assign lp.body kind) ((AL.ps.zip cargs).foldl (fun tm (t, a) => tm.setIfInBounds t a) lp.tmps) [] [.code lp.assign, .beginRound, .code lp.body] := rfl
                  have hB : (Frame.round b lp.fn ((AL.ps.zip cargs).foldl (fun tm (t, a) => tm.setIfInBounds t a) lp.tmps) lp.assign lp.body kind).roundOf = some b := rfl
                  have hBk : (Frame.round b lp.fn ((AL.ps.zip cargs).foldl (fun tm (t, a) => tm.setIfInBounds t a) lp.tmps) lp.assign lp.body kind).kind = kind := rfl
                  generalize Frame.round b lp.fn ((AL.ps.zip cargs).foldl (fun tm (t, a) => tm.setIfInBounds t a) lp.tmps) lp.assign lp.body kind = B at hself hB hBk
                  have hrc : RcvR L.toLk g w { env := putAll AL.ps args AL.env, defers := [], rcv := none, recd := false, rnd := true } B cs0 := ⟨by rw [hB]; rfl, fun l hl => by rw [hB] at hl; cases hl; exact hlp, .inl rfl⟩
                  have hk' : B.kind = .normal ∨ ∃ c r, cs0 = c :: r ∧ c.mode = .returning := by rw [hBk]; exact hk
                  obtain ⟨g1, w1, tm1, df1, h1⟩ := code_sim hinj hcall hcalm lp.assign AL.assign d6 hc1 hs hgl hfr hrc [.beginRound, .code lp.body]
                  have e1 := h1.rcv.calm hk'
                  have hb1 := h1.ext.ge.bl _ _ hb
                  obtain ⟨_, lp1, N1, vars1, q1, q2, q3, q4, q5, q6, q7, q8, q9, q10⟩ := h1.st.blocks _ _ _ hb1 hAL1
                  rw [hready] at q2
                  have hbeg := run_beginRound (P := P) q1 q2
                  obtain ⟨z1, z2, z3⟩ := heap_putObj (o' := .loop { lp1 with state := .busy }) q1
                  have hset := StR.setb h1.st hb1 (by rw [h1.ext.ro]; exact hro) (ab := .loop { AL1 with st := .busy }) z1 z2 z3 ⟨rfl, rfl, rfl⟩ (fun hge => ⟨hge.lps _ (h1.ext.ge.lps _ hlp), _, N1, vars1, z1, rfl, q3, q4, q5, q6, q7, q8.mono hge, q9, q10⟩) (fun _ => ⟨_, rfl⟩)
                  have hfr1 : FrR L.toLk N vars w.heap.size g1 (w1.putObj b (.loop { lp1 with state := .busy })) f1 tm1 df1 := ⟨h1.fr.env.mono hset.2.ge, h1.fr.dom, h1.fr.size, h1.fr.dfr.mono hset.2.ge hset.2.dfr, Nat.le_trans h1.fr.lo hset.2.size⟩
                  obtain ⟨g2, w2, tm2, df2, h2⟩ := code_sim hinj hcall hcalm lp.body AL.body d7 hc2 hset.1 (hgl.ext (h1.ext.trans hset.2)) hfr1 (h1.rcv.mono hset.2.ge) []
                  have e2 := h2.rcv.calm hk'
                  refine ⟨g2, w2, tm2, df2, h2.st, h1.ext.trans (hset.2.trans h2.ext), h2.fr.dfr, ?_⟩
                  have hto := h2.to
                  have hst1 := h1.to
                  rw [e1] at hto hst1
                  rw [e2] at hto
                  refine To.head ?_ hto
                  rw [hself]
                  exact Steps.trans hst1 (.one (s_beginRound hB hbeg))
                -- the end, but for a panic
                have fin : ∀ (j : Option Code) (ast : LSt) (ape : Option Pend) (g2 : Gh) (w2 : World), StR L.toLk (CkR P L) g2 s2 w2 → Ext g s w g2 s2 w2 → LStRep ast (if j.isNone then .ready else .done) → PendRep ape j →
                    ∃ w3, (Instr.endRound b j).run P w2 = .ok (.bool j.isNone) w3 ∧ StR L.toLk (CkR P L) g2 (s2.setb i (.loop { AL2 with st := ast, pend := ape })) w3 ∧ Ext g s w g2 (s2.setb i (.loop { AL2 with st := ast, pend := ape })) w3 := by
                  intro j ast ape g2 w2 hs2 hx2 hst hpe
                  have hb2 := hx2.ge.bl _ _ hb
                  obtain ⟨_, lp2, N2, vars2, q1, q2, q3, q4, q5, q6, q7, q8, q9, q10⟩ := hs2.blocks _ _ _ hb2 hAL2
                  have hend := run_endRound (P := P) j q1
                  obtain ⟨z1, z2, z3⟩ := heap_putObj (o' := .loop { lp2 with state := if j.isNone then .ready else .done, pending := j }) q1
                  have hset := StR.setb hs2 hb2 (by rw [hx2.ro]; exact hro) (ab := .loop { AL2 with st := ast, pend := ape }) z1 z2 z3 ⟨rfl, rfl, rfl⟩ (fun hge => ⟨hge.lps _ (hx2.ge.lps _ hlp), _, N2, vars2, z1, hst, hpe, q4, q5, q6, q7, q8.mono hge, q9, q10⟩) (fun _ => ⟨_, rfl⟩)
                  exact ⟨_, hend, hset.1, hx2.trans hset.2⟩
                have whole : ∀ (j : Option Code) (ast : LSt) (ape : Option Pend), LStRep ast (if j.isNone then .ready else .done) → PendRep ape j →
                    (∀ {M : Machine} {B : Frame} {tm : Array Value} {df : List Deferred} {cs : List Frame} {g : Gh} {w : World}, To P L M B tm df [] cs g w o → ∃ td, Jump j td ∧ Steps P M (lone (mkF B tm df td) cs w)) →
                    r = .ret (.bool j.isNone) → s' = s2.setb i (.loop { AL2 with st := ast, pend := ape }) →
                    ∃ f tms as bd, (Instr.yield b cargs.toArray).run P w = .ok (.round b f tms as bd) w ∧
                      (∀ c cs, ∃ g' w' cv, StR L.toLk (CkR P L) g' s' w' ∧ Ext g s w g' s' w' ∧ (match r with
                        | .ret v => Rep L.toLk g' w' v cv ∧ Steps P (lone (Frame.round b f tms as bd .normal) (c :: cs) w) (lone (c.finish cv) cs w')
                        | .pan v => Rep L.toLk g' w' v cv ∧ Steps P (lone (Frame.round b f tms as bd .normal) (c :: cs) w) (lone (c.raise [{ v := cv, recovered := false }]) cs w'))) ∧
                      (∀ c cs, c.mode = .returning → ∃ g' w', StR L.toLk (CkR P L) g' s' w' ∧ Ext g s w g' s' w' ∧ (match r with
                        | .ret _ => Steps P (lone (Frame.round b f tms as bd .deferred) (c :: cs) w) (lone c cs w')
                        | .pan _ => True)) := by
                  intro j ast ape hst hpe hto hr hs'
                  subst hr; subst hs'
                  refine ⟨_, _, _, _, hy, fun c cs => ?_, fun c cs hm => ?_⟩
                  · obtain ⟨g2, w2, tm2, df2, a1, a2, _, a3⟩ := run .normal (c :: cs) (.inl rfl)
                    obtain ⟨td, hj, a4⟩ := hto a3
                    obtain ⟨w3, b1, b2, b3⟩ := fin j ast ape g2 w2 a1 a2 hst hpe
                    exact ⟨g2, w3, .bool j.isNone, b2, b3, by simp [Rep], Steps.trans a4 (.one ((s_endRound rfl hj b1).1 rfl))⟩
                  · obtain ⟨g2, w2, tm2, df2, a1, a2, _, a3⟩ := run .deferred (c :: cs) (.inr ⟨c, cs, rfl, hm⟩)
                    obtain ⟨td, hj, a4⟩ := hto a3
                    obtain ⟨w3, b1, b2, b3⟩ := fin j ast ape g2 w2 a1 a2 hst hpe
                    exact ⟨g2, w3, b2, b3, Steps.trans a4 (.one ((s_endRound rfl hj b1).2 rfl hm))⟩
                cases o with
                | normal =>
                  simp only [Option.some.injEq, Prod.mk.injEq] at h
                  obtain ⟨h1, rfl, h3⟩ := h
                  exact ⟨rfl, whole none .ready none rfl rfl (fun ht => ⟨[], rfl, ht⟩) h1.symm h3.symm⟩
                | exit id =>
                  simp only [Option.some.injEq, Prod.mk.injEq] at h
                  obtain ⟨h1, rfl, h3⟩ := h
                  exact ⟨rfl, whole (some (.exit id)) .done (some (.exit id)) rfl rfl (fun ht => by obtain ⟨k', e, ht⟩ := ht; exact ⟨_, ⟨k', rfl, e⟩, ht⟩) h1.symm h3.symm⟩
                | ret =>
                  simp only [Option.some.injEq, Prod.mk.injEq] at h
                  obtain ⟨h1, rfl, h3⟩ := h
                  exact ⟨rfl, whole (some .ret) .done (some .ret) rfl rfl (fun ht => by obtain ⟨k', ht⟩ := ht; exact ⟨_, ⟨k', rfl⟩, ht⟩) h1.symm h3.symm⟩
                | pan v =>
                  simp only at h
                  split at h
                  · rename_i hdf
                    simp only [Option.some.injEq, Prod.mk.injEq] at h
                    obtain ⟨rfl, rfl, rfl⟩ := h
                    refine ⟨rfl, _, _, _, _, hy, fun c cs => ?_, fun c cs hm => ?_⟩
                    · obtain ⟨g2, w2, tm2, df2, a1, a2, a0, a3⟩ := run .normal (c :: cs) (.inl rfl)
                      obtain ⟨cv, td, b1, b2, b3⟩ := a3
                      rw [List.isEmpty_iff.1 hdf] at a0
                      obtain ⟨g3, w3, m3, c1, c2, c3, c4, c5⟩ := unwind_sim hcall hs (Nat.le_refl _) a0 (p := some v) (p' := some v) rfl a1 a2 (hgl.ext a2) { mkF (Frame.round b lp.fn ((AL.ps.zip cargs).foldl (fun tm (t, a) => tm.setIfInBounds t a) lp.tmps) lp.assign lp.body .normal) tm2 df2 td with mode := .panicking [{ v := cv, recovered := false }] } (c :: cs) rfl ⟨cv, rfl, b1⟩
                      obtain ⟨pv, rfl, c6⟩ := c4
                      exact ⟨g3, w3, pv, c1, c2, c6, Steps.trans b3 (Steps.trans c5 (.one (s_leave_panic rfl rfl b2)))⟩
                    · obtain ⟨g2, w2, tm2, df2, a1, a2, _, _⟩ := run .deferred (c :: cs) (.inr ⟨c, cs, rfl, hm⟩)
                      exact ⟨g2, w2, a1, a2, trivial⟩
                  · cases h
              · cases h
            · cases h
          · cases h
        · cases h
      · cases h
    · cases h
  · cases h

/- what is said of hand-proved functions -/
def PrimOk (P : Program) (L : Link) (E : IEnv) : Prop := ∀ f args v, E.fns f = none → E.prim f args = some v → ∀ (g : Gh) (w : World) (cargs : List Value), GlR L E g w → RepL L.toLk g w args cargs →
  (callFunc (L.fnOf f) cargs.toArray).run P w = .ok (.enter (L.fnOf f) cargs.toArray) w ∧ Calls P (L.fnOf f) cargs.toArray w fun e w' => ∃ cv, e = .returned cv ∧ Below w.heap.size w w' ∧ ∀ g' w'', Rep L.toLk g' w'' v cv

theorem StR.below {C : CodeR} {g : Gh} {s : St} {w w' : World} (h : StR L.toLk C g s w) (hb : Below w.heap.size w w') : StR L.toLk C g s w' ∧ Ext g s w g s w' := by
  have hh : ∀ b, b < w.heap.size → w'.heap[b]? = w.heap[b]? := hb.block
  have hge : GE g w g w' := ⟨fun _ _ h => h, fun _ T h => ⟨T, h, Nat.le_refl _, fun _ => rfl⟩, fun b o hi => ⟨hi, cell?_congr (hh b (h.immIn b o hi)) _⟩, fun _ h => h⟩
  refine ⟨⟨h.bl, h.tk, fun i b x hi hx => (h.blocks i b x hi hx).mono hge (hh b (h.lt hi)), h.inj, h.sep, h.blBase, fun t T hT => (h.toks t T hT).same (hh _ ?_), h.tokInj, fun b o hi => Nat.lt_of_lt_of_le (h.immIn b o hi) hb.size, Nat.le_trans h.baseIn hb.size, ?_, ?_, h.ro, h.rt⟩, ?_⟩
  · obtain ⟨c, e, fz, h1, _⟩ := (h.toks t T hT).space; exact lt_of_heap h1
  · intro d hd
    obtain ⟨h1, h2⟩ := h.dfr d hd
    exact ⟨by rw [hh d (lt_of_heap h1)]; exact h1, h2⟩
  · intro d hd
    obtain ⟨lp, h1⟩ := h.lps d hd
    exact ⟨lp, by rw [hh d (lt_of_heap h1)]; exact h1⟩
  · exact ⟨hge, fun _ h => h, rfl, fun b hb' => hh b (by have := h.baseIn; omega), hb.size, hb.os, hb.output, hb.tape, rfl, rfl, fun _ _ => rfl, fun _ _ => rfl, fun i b _ hb' => hh b (h.lt hb'), fun _ _ _ h => h⟩

structure EnvOk (P : Program) (L : Link) (E : IEnv) : Prop where
  inj : ∀ a b, L.tyOf a = L.tyOf b → a = b
  fns : ∀ f F, E.fns f = some F → FnOk P L f F
  prim : PrimOk P L E

theorem calm_call1 (n : Nat) : ∀ tgt args s v rd s', calm E tgt = true → callA E n none tgt args s = some (.ret v, rd, s') → s' = s := by
  intro tgt args s v rd s' hc h
  cases n with
  | zero => simp [callA] at h
  | succ n =>
    cases tgt with
    | fn f a c =>
      simp only [callA] at h
      simp only [calm] at hc
      split at h
      · rename_i F hF
        simp only [hF] at hc
        have hm : F.mode = .pure ∨ F.mode = .thaw := by
          cases hm : F.mode <;> rw [hm] at hc <;> simp_all
        unfold runA at h
        split at h
        · cases h
        · split at h
          · cases h
          · split at h
            · cases h
            · split at h
              · cases h
              · split at h
                · simp at h
                · cases h
              · split at h
                · cases h
                · split at h
                  · rename_i v' s3 hfin
                    simp only [Option.some.injEq, Prod.mk.injEq] at h
                    obtain ⟨_, _, rfl⟩ := h
                    rcases hm with hm | hm <;> rw [hm] at hfin <;> simp only [finA] at hfin
                    · split at hfin
                      · cases hfin; rfl
                      · split at hfin
                        · cases hfin; rfl
                        · cases hfin
                    · split at hfin
                      · cases hfin; rfl
                      · split at hfin
                        · cases hfin; rfl
                        · cases hfin
                  · cases h
      · simp only [Option.isSome_none, Bool.false_eq_true, if_false] at h
        split at h
        · simp only [Option.some.injEq, Prod.mk.injEq] at h
          obtain ⟨_, _, rfl⟩ := h; rfl
        · cases h
    | _ => simp [calm] at hc

theorem finA_any {m : Mode} (hm : isPure m = true) {lo : Nat} {s s2 s' : St} {v v' : AV} (h : finA m lo s s2 v = some (v', s')) : ∀ t : St, finA m lo t s2 v = some (v', t) := by
  intro t
  cases m <;> first | (cases hm; done) | skip
  all_goals
    simp only [finA] at h ⊢
    split at h
    · rename_i hd
      cases h
      rw [if_pos hd]
    · rename_i hd
      rw [if_neg hd]
      split at h
      · rename_i hd2
        cases h
        rw [if_pos hd2]
      · cases h

theorem calm_call2 (n : Nat) : ∀ tgt args s v rd s', calm E tgt = true → plainCall tgt args = true → callA E n none tgt args s = some (.ret v, rd, s') → ∀ s2, callA E n none tgt args s2 = some (.ret v, rd, s2) := by
  intro tgt args s v rd s' hc hp h s2
  cases n with
  | zero => simp [callA] at h
  | succ n =>
    cases tgt with
    | fn f a c =>
      simp only [plainCall] at hp
      simp only [callA] at h ⊢
      simp only [calm] at hc
      cases hF : E.fns f with
      | none =>
        simp only [hF, Option.isSome_none, Bool.false_eq_true, if_false] at h ⊢
        split at h
        · simp only [Option.some.injEq, Prod.mk.injEq] at h
          obtain ⟨h1, rfl, rfl⟩ := h
          cases h1; rfl
        · cases h
      | some F =>
        simp only [hF] at hc h ⊢
        have hm : isPure F.mode = true := by cases hm : F.mode <;> rw [hm] at hc <;> simp_all [isPure]
        have hst : ∀ t : St, startA F.mode none (a ++ args ++ c) t = { bl := [], tk := [], ro := 0, rt := 0 } := fun t => by
          unfold startA; rw [if_pos (by rw [hm, hp]; rfl)]
        unfold runA at h ⊢
        rw [hst] at h ⊢
        split at h
        · cases h
        · rename_i hnp
          rw [if_neg hnp]
          split at h
          · cases h
          · rename_i o f1 s1 hcode
            try (rw [hcode]; simp only)
            split at h
            · cases h
            · rename_i p hpo
              split at h
              · cases h
              · split at h <;> simp at h
              · rename_i s3 hu
                try simp only [hu]
                split at h
                · cases h
                · rename_i vs hvs
                  try simp only [hvs]
                  split at h
                  · rename_i v' s4 hfin
                    simp only [Option.some.injEq, Prod.mk.injEq] at h
                    obtain ⟨h1, h2, _⟩ := h
                    cases h1
                    have h3 := finA_any hm hfin s2
                    rw [h3, h2]
                  · cases h
    | _ => simp [calm] at hc

theorem calm_call (n : Nat) : CalmOk E (callA E n) := ⟨calm_call1 n, calm_call2 n⟩

theorem run_callFunc_body {fn : Func} {c : Code} {f : FuncId} {args : Array Value} {w : World} (hf : P.funcs[f]? = some fn) (hb : fn.body = some c) (hn : (fn.name == "runtime.NumGoroutine") = false) : (callFunc f args).run P w = .ok (.enter f args) w := by
  have hn' : fn.name ≠ "runtime.NumGoroutine" := by simpa using hn
  simp [callFunc, Sem.run_bind, run_program, hf, hb, hn']

theorem call_sim (hE : EnvOk P L E) : ∀ n, CallSim P L E (callA E n)
  | 0 => by intro pn tgt args s r recd s' h; simp [callA] at h
  | n + 1 => by
    intro pn tgt args s r recd s' h g w ctgt cargs hs hgl ht ha
    have ih := call_sim hE n
    cases tgt with
    | fn f first caps =>
      simp only [Rep] at ht
      obtain ⟨fs, cps, rfl, hfs, hcs⟩ := ht
      have hargs : RepL L.toLk g w (first ++ args ++ caps) (fs ++ cargs ++ cps) := (hfs.append ha).append hcs
      have hcat : fs.toArray ++ cargs.toArray ++ cps.toArray = (fs ++ cargs ++ cps).toArray := by simp
      simp only [callA] at h
      split at h
      · rename_i F hF
        have hFok := hE.fns f F hF
        obtain ⟨fn0, c0, _, hfn0, hb0, hn0, _⟩ := hFok.out
        refine ⟨fun k => Frame.enter P (L.fnOf f) (fs ++ cargs ++ cps).toArray k, ⟨_, _, _, _, rfl, ?_, .inl ⟨_, _, rfl, rfl⟩⟩, ?_, ?_⟩
        · show (callFunc (L.fnOf f) (fs.toArray ++ cargs.toArray ++ cps.toArray)).run P w = _
          rw [hcat]; exact run_callFunc_body hfn0 hb0 hn0
        · rintro rfl c cs
          obtain ⟨g', w', fn, fr, cv, h0, h1, h2, h3, h4, h5, h6, h7, h8, h9⟩ := run_sim hE.inj ih (calm_call n) hFok h hs hgl hargs .normal (c :: cs) (.inl rfl)
          have hrec : recd = false := by
            cases hr : recd with
            | false => rfl
            | true => have := (h7 hr).1; cases this
          rw [hrec] at h8
          refine ⟨g', w', cv, h1, h2, ?_⟩
          cases r with
          | ret v =>
            obtain ⟨a1, a2, a3⟩ := h9
            exact ⟨a1, Steps.trans h8 (.one (step_leave_returned ⟨a2, h5, h4, fn, by rw [h3]; exact h0, a3⟩))⟩
          | pan v =>
            obtain ⟨a1, a2⟩ := h9
            exact ⟨a1, Steps.trans h8 (.one (s_leave_panic h5 a2 h6))⟩
        · intro _ c cs hm
          obtain ⟨g', w', fn, fr, cv, h0, h1, h2, h3, h4, h5, h6, h7, h8, h9⟩ := run_sim hE.inj ih (calm_call n) hFok h hs hgl hargs .deferred (c :: cs) (by
            cases pn with
            | none => exact .inr ⟨rfl, c, cs, rfl, hm⟩
            | some v => obtain ⟨pv, h1, h2⟩ := hm; exact ⟨rfl, c, cs, pv, rfl, h1, h2⟩)
          refine ⟨g', w', h1, h2, ?_⟩
          cases r with
          | ret v =>
            obtain ⟨a1, a2, a3⟩ := h9
            simp only
            refine Steps.trans h8 ?_
            cases hr : recd with
            | false =>
              have hset : settle c.mode = c.mode := by
                cases pn with
                | none => rw [show c.mode = .returning from hm]; rfl
                | some v => obtain ⟨pv, h1, _⟩ := hm; rw [h1]; rfl
              have := step_going_returned (P := P) (fr := fr) (c := c) (cs := cs) (w := w') (v := cv) h4 ⟨a2, h5, fn, by rw [h3]; exact h0, a3⟩
              rw [hset] at this
              exact .one this
            | true =>
              obtain ⟨_, c', r', pv, e, hcm⟩ := h7 hr
              cases e
              have := step_going_returned (P := P) (fr := fr) (c := { c with mode := .panicking [{ v := pv, recovered := true }] }) (cs := cs) (w := w') (v := cv) h4 ⟨a2, h5, fn, by rw [h3]; exact h0, a3⟩
              simp only [csAt, hcm]
              exact .one this
          | pan v => trivial
      · rename_i hF
        split at h
        · cases h
        · rename_i hpn
          split at h
          · rename_i v hv
            simp only [Option.some.injEq, Prod.mk.injEq] at h
            obtain ⟨rfl, rfl, rfl⟩ := h
            obtain ⟨k1, k2⟩ := hE.prim f _ v hF hv g w _ hgl hargs
            refine ⟨fun k => Frame.enter P (L.fnOf f) (fs ++ cargs ++ cps).toArray k, ⟨_, _, _, _, rfl, ?_, .inl ⟨_, _, rfl, rfl⟩⟩, ?_, ?_⟩
            · show (callFunc (L.fnOf f) (fs.toArray ++ cargs.toArray ++ cps.toArray)).run P w = _
              rw [hcat]; exact k1
            · rintro rfl c cs
              obtain ⟨e, w', fr, ⟨cv, rfl, hbel, hrep⟩, hcm, _, hl⟩ := k2 (c :: cs)
              obtain ⟨b1, b2⟩ := hs.below hbel
              exact ⟨g, w', cv, b1, b2, hrep g w', Steps.trans hcm (.one (step_leave_returned hl))⟩
            · intro hown
              simp [ownFn, hF] at hown
          · cases h
    | yield i =>
      simp only [callA] at h
      split at h
      · cases h
      · rename_i hpn
        simp only [Rep] at ht
        obtain ⟨b, hb, rfl⟩ := ht
        obtain ⟨rfl, f, tms, as, bd, h1, h2, h3⟩ := round_sim hE.inj ih (calm_call n) h hs hgl hb ha
        refine ⟨fun k => Frame.round b f tms as bd k, ⟨_, _, _, _, rfl, ?_, .inr ⟨_, _, _, _, _, rfl, rfl⟩⟩, ?_, ?_⟩
        · simpa [invoke] using h1
        · rintro rfl c cs
          obtain ⟨g', w', cv, a1, a2, a3⟩ := h2 c cs
          refine ⟨g', w', cv, a1, a2, ?_⟩
          cases r <;> exact a3
        · intro _ c cs hm
          cases pn with
          | some v => simp at hpn
          | none =>
            obtain ⟨g', w', a1, a2, a3⟩ := h3 c cs hm
            refine ⟨g', w', a1, a2, ?_⟩
            cases r with
            | ret v => simpa using a3
            | pan v => trivial
    | _ => simp [callA] at h
end
end Ab

/- The last law: what an abstract call comes to, the machine's call comes to. Its conditions: functions are as the given texts say; hand-proved functions do what is said of them. -/
namespace Ab
open Go Go.RowKit

/- at the start: all that lies in memory is never written -/
def g0 (w : World) : Gh := { bl := [], tk := [], imm := fun b _ => b < w.heap.size, base := w.heap.size, dfr := [], lps := [] }
def st0 : St := { bl := [], tk := [], ro := 0, rt := 0 }

variable {P : Program} {L : Link} {E : IEnv}

theorem str0 (C : CodeR) (w : World) : StR L.toLk C (g0 w) st0 w where
  bl := rfl
  tk := rfl
  blocks i b x h := by simp [g0] at h
  inj i j b h := by simp [g0] at h
  sep i b o h := by simp [g0] at h
  blBase i b h := by simp [g0] at h
  toks t T h := by simp [g0] at h
  tokInj t u T U h := by simp [g0] at h
  immIn b o h := h
  baseIn := Nat.le_refl _
  dfr d h := by simp [g0] at h
  lps d h := by simp [g0] at h
  ro := Nat.le_refl _
  rt := Nat.le_refl _

theorem calls_of (hE : EnvOk P L E) {f : Nat} {n : Nat} {args : List AV} {v : AV} {rd : Bool} {s' : St} (h : callA E n none (.fn f [] []) args st0 = some (.ret v, rd, s')) (hf : (E.fns f).isSome = true) {w : World} (hgl : GlR L E (g0 w) w) {cargs : List Value} (ha : RepL L.toLk (g0 w) w args cargs) :
    Calls P (L.fnOf f) cargs.toArray w fun e w' => (∃ cv g', e = .returned cv ∧ Rep L.toLk g' w' v cv) ∧ Below w.heap.size w w' := by
  cases n with
  | zero => simp [callA] at h
  | succ n =>
    cases hF : E.fns f with
    | none => rw [hF] at hf; cases hf
    | some F =>
      simp only [callA, hF, List.nil_append, List.append_nil] at h
      intro cs
      obtain ⟨g', w', fn, fr, cv, h0, h1, h2, h3, h4, h5, h6, h7, h8, a1, a2, a3⟩ := run_sim hE.inj (call_sim hE n) (calm_call n) (hE.fns f F hF) h (str0 _ w) hgl ha .normal cs (.inl rfl)
      have hrec : rd = false := by
        cases hr : rd with
        | false => rfl
        | true => have := (h7 hr).1; cases this
      rw [hrec] at h8
      exact ⟨.returned cv, w', fr, ⟨⟨cv, g', rfl, a1⟩, ⟨h2.os, h2.tape, h2.out, h2.size, h2.old⟩⟩, h8, h3, a2, h5, h4, fn, by rw [h3]; exact h0, a3⟩

/- a law's function: it answers true -/
theorem calls_true (hE : EnvOk P L E) {f : Nat} {n : Nat} {args : List AV} {rd : Bool} {s' : St} (h : callA E n none (.fn f [] []) args st0 = some (.ret (.bool true), rd, s')) (hf : (E.fns f).isSome = true) {w : World} (hgl : GlR L E (g0 w) w) {cargs : List Value} (ha : RepL L.toLk (g0 w) w args cargs) :
    Calls P (L.fnOf f) cargs.toArray w fun e w' => e = .returned (.bool true) ∧ Below w.heap.size w w' := by
  intro cs
  obtain ⟨e, w', fr, ⟨⟨cv, g', rfl, hr⟩, hb⟩, h2⟩ := calls_of hE h hf hgl ha cs
  simp only [Rep] at hr
  exact ⟨_, w', fr, ⟨by rw [hr], hb⟩, h2⟩
end Ab

/- A table of given texts against a program. No condition. -/
namespace Ab
open Go Go.RowKit

def fnCk (P : Program) (L : Link) (F : IFn) (vars : List Nat) (fn : Func) : Bool :=
  match fn.body with
  | some c => !(fn.name == "runtime.NumGoroutine") && ckCode P L fn.ntmps vars F.body c && (List.range F.np).all (vars.contains ·) && resOk P fn.results.toList F.res
  | none => false

abbrev Table := List (Nat × IFn × List Nat)
def rowOk (P : Program) (L : Link) (r : Nat × IFn × List Nat) : Bool := match P.funcs[L.fnOf r.1]? with
  | some fn => fnCk P L r.2.1 r.2.2 fn
  | none => false
def tabOk (P : Program) (L : Link) : Table → Bool
  | [] => true
  | r :: rs => rowOk P L r && tabOk P L rs

def Table.fn : Table → Nat → Option IFn
  | [], _ => none
  | r :: rs, f => if f = r.1 then some r.2.1 else Table.fn rs f

theorem fnOk_of_row {P : Program} {L : Link} {r : Nat × IFn × List Nat} (h : rowOk P L r = true) : FnOk P L r.1 r.2.1 := by
  unfold rowOk at h
  split at h
  · rename_i fn hfn
    unfold fnCk at h
    split at h
    · rename_i c hc
      simp only [Bool.and_eq_true, Bool.not_eq_true'] at h
      obtain ⟨⟨⟨h1, h2⟩, h3⟩, h4⟩ := h
      exact ⟨fn, c, r.2.2, hfn, hc, h1, h2, fun i hi => List.all_eq_true.1 h3 i (List.mem_range.2 hi), h4⟩
    · cases h
  · cases h

theorem fns_of_tab {P : Program} {L : Link} : ∀ {t : Table}, tabOk P L t = true → ∀ f F, t.fn f = some F → FnOk P L f F
  | [], _, f, F, h => by simp [Table.fn] at h
  | r :: rs, hk, f, F, h => by
    simp only [tabOk, Bool.and_eq_true] at hk
    simp only [Table.fn] at h
    split at h
    · rename_i hf
      cases h; subst hf
      exact fnOk_of_row hk.1
    · exact fns_of_tab hk.2 f F h

def selfLink (w : World) : Link := { fnOf := fun n => n, tyOf := fun n => n, glOf := fun n => n, w0 := w }
end Ab
