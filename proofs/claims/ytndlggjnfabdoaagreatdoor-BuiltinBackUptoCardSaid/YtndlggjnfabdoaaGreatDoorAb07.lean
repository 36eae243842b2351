/- Regions whose order is drawn: each order that the machine may take comes to what the text's order comes to. Its condition: calm calls leave the blocks as they are. -/
import Derived.Test.YtndlggjnfabdoaaGreatDoorAb06
import Derived.Orders
import Derived.RangeFuncNested
set_option linter.all false
namespace Ab
open Go

def EnvEq (e e' : Env) : Prop := ∀ i, e.get i = e'.get i
def bindE (d : Option Nat) (v : AV) (e : Env) : Env := match d with | some d => (d, v) :: e | none => e

section
variable {E : IEnv} {e e' : Env}

theorem Opd.ev_congr : ∀ {x : Opd}, (∀ i ∈ x.slots, e.get i = e'.get i) → x.ev E e = x.ev E e'
  | .t n, h => h n (by simp [Opd.slots])
  | .c _, _ => rfl
  | .g _, _ => rfl

theorem Opd.ev_all (h : EnvEq e e') : Opd.ev E e = Opd.ev E e' := by funext x; exact Opd.ev_congr fun i _ => h i

theorem evs_congr : ∀ {xs : List Opd}, (∀ i ∈ odsSlots xs, e.get i = e'.get i) → xs.map (Opd.ev E e) = xs.map (Opd.ev E e')
  | [], _ => rfl
  | x :: r, h => by
    simp only [List.map_cons]
    rw [Opd.ev_congr (x := x) fun i hi => h i (by simp [odsSlots, hi]), evs_congr (xs := r) fun i hi => h i (by simp [odsSlots, hi])]

theorem opt_congr {x : Option Opd} (h : ∀ i ∈ optSlots x, e.get i = e'.get i) : x.map (Opd.ev E e) = x.map (Opd.ev E e') := by
  cases x with
  | none => rfl
  | some x => simp only [Option.map_some]; rw [Opd.ev_congr h]

theorem build_congr : ∀ {ps : List (Nat × Nat × Opd)}, (∀ i ∈ odsSlots (ps.map fun p => p.2.2), e.get i = e'.get i) →
    ps.map (fun (o, n, x) => (o, n, Opd.ev E e x)) = ps.map (fun (o, n, x) => (o, n, Opd.ev E e' x))
  | [], _ => rfl
  | (o, n, x) :: r, h => by
    simp only [List.map_cons]
    rw [Opd.ev_congr (x := x) fun i hi => h i (by simp [odsSlots, hi]), build_congr (ps := r) fun i hi => h i (by simp only [List.map_cons, odsSlots]; exact List.mem_append_right _ hi)]

theorem bslice_congr : ∀ {ps : List (Nat × Opd)}, (∀ i ∈ odsSlots (ps.map fun p => p.2), e.get i = e'.get i) →
    ps.map (fun (i, x) => (i, (Opd.ev E e x).untok)) = ps.map (fun (i, x) => (i, (Opd.ev E e' x).untok))
  | [], _ => rfl
  | (n, x) :: r, h => by
    simp only [List.map_cons]
    rw [Opd.ev_congr (x := x) fun i hi => h i (by simp [odsSlots, hi]), bslice_congr (ps := r) fun i hi => h i (by simp only [List.map_cons, odsSlots]; exact List.mem_append_right _ hi)]

theorem opA_congr (io : IOp) (h : ∀ i ∈ io.slots, e.get i = e'.get i) (s : St) : opA (Opd.ev E e) s io = opA (Opd.ev E e') s io := by
  have key : ∀ x : Opd, (∀ i, i ∈ x.slots → i ∈ io.slots) → Opd.ev E e x = Opd.ev E e' x := fun x hx => Opd.ev_congr fun i hi => h i (hx i hi)
  have keyL : ∀ xs : List Opd, (∀ i, i ∈ odsSlots xs → i ∈ io.slots) → xs.map (Opd.ev E e) = xs.map (Opd.ev E e') := fun x hx => evs_congr fun i hi => h i (hx i hi)
  have keyO : ∀ x : Option Opd, (∀ i, i ∈ optSlots x → i ∈ io.slots) → x.map (Opd.ev E e) = x.map (Opd.ev E e') := fun x hx => opt_congr fun i hi => h i (hx i hi)
  cases io with
  | mov x | box _ x | load _ _ x | nilchk x | un _ x | conv _ x | mkif _ x | faddr _ x | field _ _ _ x | ranges x | nexts x | tassert _ _ _ x | ext x _ | len _ x | cap x =>
    simp only [opA, key x (fun i hi => hi)]
  | pick a b c => simp only [opA, key a (fun i hi => by simp [IOp.slots, hi]), key b (fun i hi => by simp [IOp.slots, hi]), key c (fun i hi => by simp [IOp.slots, hi])]
  | store _ a b | bin _ _ a b | iaddr _ a b | aaddr _ _ a b | index a b | aindex _ _ _ a b | lookup _ _ a b _ | app _ a b | appz _ a b | appm _ a b | mkms _ _ a b | del _ a b =>
    simp only [opA, key a (fun i hi => by simp [IOp.slots, hi]), key b (fun i hi => by simp [IOp.slots, hi])]
  | mapset _ a b c => simp only [opA, key a (fun i hi => by simp [IOp.slots, hi]), key b (fun i hi => by simp [IOp.slots, hi]), key c (fun i hi => by simp [IOp.slots, hi])]
  | build z ps => simp only [opA]; rw [build_congr h]
  | bslice sz z len ps => simp only [opA]; rw [bslice_congr h]
  | mkfn f a b => simp only [opA]; rw [keyL a (fun i hi => by simp [IOp.slots, hi]), keyL b (fun i hi => by simp [IOp.slots, hi])]
  | slice sz a b c d => simp only [opA]; rw [key a (fun i hi => by simp [IOp.slots, hi]), keyO b (fun i hi => by simp [IOp.slots, hi]), keyO c (fun i hi => by simp [IOp.slots, hi]), keyO d (fun i hi => by simp [IOp.slots, hi])]
  | mm m xs => simp only [opA]; rw [keyL xs (fun i hi => hi)]
  | alloc _ | mkmap | recover | panic _ | mkslice _ _ _ _ _ | call _ _ | defer _ _ => rfl

theorem opA_quiet {ev : Opd → AV} {io : IOp} (hq : io.quiet = true) (s s0 : St) : opA ev s io = valStep ((opA ev s0 io).map (·.1)) s := by
  cases io <;> simp only [IOp.quiet] at hq <;> (try cases hq) <;> simp only [opA] <;> (try rfl) <;> repeat' split
  all_goals first
    | rfl
    | (simp_all [valStep]; done)
    | (simp only [valStep]; repeat' split) <;> simp_all
end

section
variable {E : IEnv} {call : Caller}

def outA (E : IEnv) (call : Caller) (o : IOper) (e : Env) (s : St) : Option (AV × St) :=
  match goA E o e with
  | none => none
  | some false => some (.tup [], s)
  | some true => match o.op with
    | .call g args => if o.mp && !calm E (g.ev E e) then none else if o.pl && !plainCall (g.ev E e) (args.map (Opd.ev E e)) then none else
      match call none (g.ev E e) (args.map (Opd.ev E e)) s with
      | some (.ret v, _, s') => if chkOk (Opd.ev E e) s s' o.chk then some (v, s') else none
      | _ => none
    | .defer _ _ | .panic _ | .recover => none
    | op => keepSt (Opd.ev E e) s o (opA (Opd.ev E e) s op)

theorem finO_eq (o : IOper) (v : AV) (f : Fr) (e : Env) (s : St) : finO o v f e s = some (none, f, bindE o.dst v e, s) := by
  unfold finO bindE
  split <;> rename_i h <;> simp [h]

theorem stepA_draw (o : IOper) (f : Fr) (e : Env) (s : St) :
    stepA E call true o f e s = (match outA E call o e s with | some (v, s') => some (none, f, bindE o.dst v e, s') | none => none) := by
  unfold stepA outA
  cases goA E o e with
  | none => rfl
  | some b =>
    cases b with
    | false => simp only [finO_eq]
    | true =>
      simp only [runO]
      cases o.op with
      | call g args =>
        simp only
        split
        · rfl
        · split
          · rfl
          cases call none (g.ev E e) (args.map (Opd.ev E e)) s with
          | none => rfl
          | some q =>
            obtain ⟨r, b, s'⟩ := q
            cases r with
            | ret v => simp only; split <;> simp only [finO_eq]
            | pan v => rfl
      | defer g args => simp
      | panic x => simp
      | recover => simp
      | _ =>
        simp only [finO_eq]
        generalize keepSt _ _ _ _ = q
        cases q <;> rfl

def outsA (E : IEnv) (call : Caller) : List IOper → Env → St → Option (Env × St)
  | [], e, s => some (e, s)
  | o :: r, e, s => match outA E call o e s with
    | some (v, s') => outsA E call r (bindE o.dst v e) s'
    | none => none

theorem opsA_draw : ∀ (os : List IOper) (f : Fr) (e : Env) (s : St),
    opsA E call true os f e s = (match outsA E call os e s with | some (e', s') => some (none, f, e', s') | none => none)
  | [], _, _, _ => rfl
  | o :: r, f, e, s => by
    simp only [opsA, outsA, stepA_draw]
    cases outA E call o e s with
    | none => rfl
    | some q => obtain ⟨v, s'⟩ := q; simp only [opsA_draw r]

theorem outA_congr {o : IOper} {e e' : Env} (h : ∀ i ∈ o.reads, e.get i = e'.get i) (s : St) : outA E call o e s = outA E call o e' s := by
  have hg : guardA o.guard e = guardA o.guard e' := by
    unfold guardA
    cases hg : o.guard with
    | none => rfl
    | some p => obtain ⟨i, b⟩ := p; simp only; rw [h i (by simp [IOper.reads, hg])]
  have hop : ∀ i ∈ o.op.slots, e.get i = e'.get i := fun i hi => h i (by simp [IOper.reads, hi])
  have hch : ∀ (cs : List IChk) (s s' : St), (∀ i ∈ (cs.flatMap fun c => c.a.slots), e.get i = e'.get i) → chkOk (Opd.ev E e) s s' cs = chkOk (Opd.ev E e') s s' cs := by
    intro cs s s'
    induction cs with
    | nil => intro _; rfl
    | cons c r ih =>
      intro hc
      simp only [chkOk, IChk.addr]
      rw [Opd.ev_congr (x := c.a) fun i hi => hc i (by simp [hi]), ih fun i hi => hc i (by rw [List.flatMap_cons]; exact List.mem_append_right _ hi)]
  have hch' := fun s s' => hch o.chk s s' fun i hi => h i (by simp only [IOper.reads]; exact List.mem_append_right _ hi)
  have hpin : pinOk (Opd.ev E e) o = pinOk (Opd.ev E e') o := by
    unfold pinOk
    cases ho : o.op with
    | load agg n a =>
      rw [ho] at hop
      simp only
      rw [Opd.ev_congr (x := a) fun i hi => hop i hi]
      have : ∀ cs : List IChk, (∀ i ∈ (cs.flatMap fun c => c.a.slots), e.get i = e'.get i) → (cs.all fun c => pinC (Opd.ev E e) agg n (Opd.ev E e' a) c) = (cs.all fun c => pinC (Opd.ev E e') agg n (Opd.ev E e' a) c) := by
        intro cs
        induction cs with
        | nil => intro _; rfl
        | cons c r ih =>
          intro hc
          simp only [List.all_cons, pinC, IChk.addr]
          simp only [pinC, IChk.addr] at ih
          rw [Opd.ev_congr (x := c.a) fun i hi => hc i (by simp [hi]), ih fun i hi => hc i (by rw [List.flatMap_cons]; exact List.mem_append_right _ hi)]
      exact this o.chk fun i hi => h i (by simp only [IOper.reads]; exact List.mem_append_right _ hi)
    | _ => rfl
  have hgo : goA E o e = goA E o e' := by unfold goA; rw [hg, hpin]
  have hst : ∀ s q, keepSt (Opd.ev E e) s o q = keepSt (Opd.ev E e') s o q := fun s q => by
    unfold keepSt
    split
    · cases q with
      | none => rfl
      | some y => simp only [chkSt, hch']
    · rfl
  unfold outA
  rw [hgo]
  cases goA E o e' with
  | none => rfl
  | some b =>
    cases b with
    | false => rfl
    | true =>
      simp only
      cases ho : o.op with
      | call g args =>
        rw [ho] at hop
        simp only [IOp.slots, List.mem_append] at hop
        simp only
        rw [Opd.ev_congr (x := g) fun i hi => hop i (.inl hi), evs_congr (xs := args) fun i hi => hop i (.inr hi)]
        simp only [hch']
      | defer _ _ | panic _ | recover => rfl
      | _ => simp only; rw [ho] at hop; rw [opA_congr _ hop s, hst]

theorem outA_env {o : IOper} {e e' : Env} (h : EnvEq e e') (s : St) : outA E call o e s = outA E call o e' s := outA_congr (fun i _ => h i) s

theorem EnvEq.bind {e e' : Env} (h : EnvEq e e') (d : Option Nat) (v : AV) : EnvEq (bindE d v e) (bindE d v e') := by
  intro i
  cases d with
  | none => exact h i
  | some d => simp only [bindE, Env.get, h i]

theorem outsA_env : ∀ {os : List IOper} {e e' : Env} {s : St} {e1 : Env} {s1 : St}, EnvEq e e' → outsA E call os e s = some (e1, s1) → ∃ e1', outsA E call os e' s = some (e1', s1) ∧ EnvEq e1 e1'
  | [], e, e', s, e1, s1, h, ho => by
    simp only [outsA, Option.some.injEq, Prod.mk.injEq] at ho ⊢
    obtain ⟨rfl, rfl⟩ := ho
    exact ⟨e', ⟨rfl, rfl⟩, h⟩
  | o :: r, e, e', s, e1, s1, h, ho => by
    simp only [outsA] at ho ⊢
    rw [outA_env h] at ho
    cases hq : outA E call o e' s with
    | none => rw [hq] at ho; cases ho
    | some q =>
      obtain ⟨v, s'⟩ := q
      rw [hq] at ho
      exact outsA_env (h.bind o.dst v) ho

/- calm calls leave the state as it is -/
structure CalmOk (E : IEnv) (call : Caller) : Prop where
  one : ∀ tgt args s v rd s', calm E tgt = true → call none tgt args s = some (.ret v, rd, s') → s' = s
  two : ∀ tgt args s v rd s', calm E tgt = true → plainCall tgt args = true → call none tgt args s = some (.ret v, rd, s') → ∀ s2, call none tgt args s2 = some (.ret v, rd, s2)

theorem outA_quiet {o : IOper} (hq : o.op.quiet = true) {e : Env} {s s1 : St} {v : AV} (h : outA E call o e s = some (v, s1)) : s1 = s ∧ ∀ s', outA E call o e s' = some (v, s') := by
  unfold outA at h ⊢
  split at h
  · cases h
  · cases h; exact ⟨rfl, fun _ => rfl⟩
  · cases ho : o.op <;> rw [ho] at hq <;> have hq2 := hq <;> (try cases hq2) <;> simp only [ho, keepSt] at h ⊢ <;>
      first
      | (rw [opA_quiet hq s s] at h
         simp only [valStep] at h
         split at h
         · rename_i u hu
           cases h
           refine ⟨rfl, fun s' => ?_⟩
           rw [opA_quiet hq s' s, hu]; rfl
         · cases h)

theorem chkOk_self (ev : Opd → AV) (s : St) : ∀ cs : List IChk, chkOk ev s s cs = true
  | [] => rfl
  | c :: r => by simp only [chkOk, chkOk_self ev s r, beq_self_eq_true, Bool.and_self]

theorem goA_pin {o : IOper} {e : Env} (h : goA E o e = some true) : pinOk (Opd.ev E e) o = true := by
  unfold goA at h
  split at h
  · split at h
    · assumption
    · cases h
  · rename_i hx; exact absurd h hx

theorem pinC_r {ev : Opd → AV} {agg : Bool} {n : Nat} {a : AV} {c : IChk} (hc : c.a = .c .nilp) (h : pinC ev agg n a c = true) : ∃ x o, a = .rptr x o := by
  unfold pinC at h
  rw [hc] at h
  cases a <;> simp at h
  exact ⟨_, _, rfl⟩
theorem pinC_l {ev : Opd → AV} {agg : Bool} {n : Nat} {a : AV} {c : IChk} {s s' : St} (h : pinC ev agg n a c = true) (hl : loadC s c.agg c.n (c.addr ev) = loadC s' c.agg c.n (c.addr ev)) : loadA s agg n a = loadA s' agg n a := by
  unfold pinC at h
  split at h
  · split at h
    · rfl
    · cases h
  · simp only [Bool.or_eq_true, Bool.and_eq_true, beq_iff_eq] at h
    rcases h with ⟨⟨h1, h2⟩, h3⟩ | h
    · rw [h1, h2, h3] at hl
      unfold loadC at hl
      split at hl
      · rfl
      · exact hl
    · split at h
      · rename_i i o z m j p hadr
        simp only [beq_iff_eq] at h
        subst h
        rw [hadr] at hl
        simp only [loadC] at hl
        have : s.cell? i = s'.cell? i := by
          cases h1 : s.cell? i <;> cases h2 : s'.cell? i <;> rw [h1, h2] at hl <;> simp only [Option.map_none, Option.map_some, Option.some.injEq, AV.agg.injEq] at hl <;> first | rfl | (rw [hl]) | (cases hl)
        simp only [loadA, this]
      · cases h

theorem outA_free (hc : CalmOk E call) {o : IOper} (hq : o.free = true) {e : Env} {s s1 : St} {v : AV} (h : outA E call o e s = some (v, s1)) : s1 = s ∧ ∀ s', outA E call o e s' = some (v, s') := by
  unfold IOper.free at hq
  simp only [Bool.or_eq_true, Bool.and_eq_true] at hq
  rcases hq with (hq | ⟨hq, hp⟩) | hq
  · exact outA_quiet hq h
  · unfold outA at h ⊢
    split at h
    · cases h
    · cases h; exact ⟨rfl, fun _ => rfl⟩
    · cases ho : o.op with
      | call g args =>
        simp only [ho] at h ⊢
        split at h
        · cases h
        · rename_i h1
          simp only [if_neg h1]
          split at h
          · cases h
          · rename_i h2
            simp only [if_neg h2]
            have hmp : o.mp = true := by unfold IOper.pl at hp; simp only [Bool.and_eq_true] at hp; exact hp.1
            simp only [hmp, Bool.true_and, Bool.not_eq_true', Bool.not_eq_false] at h1
            simp only [hp, Bool.true_and, Bool.not_eq_true', Bool.not_eq_false] at h2
            split at h
            · rename_i v' rd s2 hcall
              split at h
              · cases h
                have e1 := hc.one _ _ _ _ _ _ h1 hcall
                refine ⟨e1, fun s' => ?_⟩
                rw [hc.two _ _ _ _ _ _ h1 h2 hcall s']
                simp only [chkOk_self, if_true]
              · cases h
            · cases h
      | _ => rw [ho] at hq; cases hq
  · unfold IOper.fl at hq
    simp only [Bool.and_eq_true, List.any_eq_true, beq_iff_eq] at hq
    obtain ⟨hl, c, hm, hca⟩ := hq
    unfold outA at h ⊢
    split at h
    · cases h
    · cases h; exact ⟨rfl, fun _ => rfl⟩
    · rename_i hgo
      have hpin := goA_pin hgo
      cases ho : o.op with
      | load agg n a =>
        simp only [pinOk, ho, List.all_eq_true] at hpin
        obtain ⟨x, p, hx⟩ := pinC_r hca (hpin c hm)
        simp only [ho, keepSt, opA, hx, loadA, valStep] at h ⊢
        split at h
        · rename_i u hu
          cases h
          exact ⟨rfl, fun _ => rfl⟩
        · cases h
      | _ => rw [ho] at hl; cases hl

theorem outA_load {o : IOper} (hq : o.op.isLoad = true) {e : Env} {s s1 : St} {v : AV} (h : outA E call o e s = some (v, s1)) :
    s1 = s ∧ ∀ s', (∀ agg n a, o.op = .load agg n a → pinOk (Opd.ev E e) o = true → loadA s' agg n (a.ev E e) = loadA s agg n (a.ev E e)) → outA E call o e s' = some (v, s') := by
  unfold outA at h ⊢
  split at h
  · cases h
  · cases h; exact ⟨rfl, fun _ _ => rfl⟩
  · rename_i hgo
    have hpin := goA_pin hgo
    cases ho : o.op with
    | load agg n a =>
      simp only [ho, keepSt, opA] at h ⊢
      simp only [valStep] at h ⊢
      split at h
      · rename_i u hu
        cases h
        refine ⟨rfl, fun s' hl => ?_⟩
        rw [hl agg n a rfl hpin, hu]
      · cases h
    | _ => rw [ho] at hq; cases hq

theorem chkOk_mem {ev : Opd → AV} {s s' : St} : ∀ {cs : List IChk} {c : IChk}, chkOk ev s s' cs = true → c ∈ cs → loadC s c.agg c.n (c.addr ev) = loadC s' c.agg c.n (c.addr ev)
  | [], _, _, h => by cases h
  | d :: r, c, h, hm => by
    simp only [chkOk, Bool.and_eq_true, beq_iff_eq] at h
    rcases List.mem_cons.1 hm with rfl | hm
    · exact h.1
    · exact chkOk_mem h.2 hm

theorem outA_call {o l : IOper} (hp : passes o l = true) (hcl : (o.op.isCall || o.op.isStore) = true) {e : Env} {s s1 : St} {v : AV} (h : outA E call o e s = some (v, s1)) :
    ∀ agg n a, l.op = .load agg n a → pinOk (Opd.ev E e) l = true → loadA s1 agg n (a.ev E e) = loadA s agg n (a.ev E e) := by
  intro agg n a hl hpin
  have key : ∀ {s s1 : St}, chkOk (Opd.ev E e) s s1 o.chk = true → loadA s1 agg n (a.ev E e) = loadA s agg n (a.ev E e) := by
    intro s s1 hch
    simp only [passes, hl, Bool.or_eq_true, List.any_eq_true, List.contains_iff_mem] at hp
    rcases hp with hp | ⟨x, hx, hp⟩
    · have := chkOk_mem hch hp
      simp only [IChk.addr] at this
      unfold loadC at this
      split at this
      · rename_i hm; simp only [hm, loadA]
      · exact this.symm
    · simp only [pinOk, hl, List.all_eq_true] at hpin
      exact (pinC_l (hpin x hx) (chkOk_mem hch hp)).symm
  unfold outA at h
  split at h
  · cases h
  · cases h; rfl
  · cases ho : o.op with
    | call g args =>
      simp only [ho] at h
      split at h
      · cases h
      · split at h
        · cases h
        split at h
        · rename_i v' rd s2 hcall
          split at h
          · rename_i hch
            cases h
            exact key hch
          · cases h
        · cases h
    | store n' a' v' =>
      simp only [ho, keepSt] at h
      generalize opA _ _ _ = q at h
      cases q with
      | none => cases h
      | some y =>
        simp only [chkSt] at h
        split at h
        · rename_i hch
          cases h
          exact key hch
        · cases h
    | _ => rw [ho] at hcl; cases hcl

theorem outA_still (hc : CalmOk E call) {o : IOper} (hp : o.still = true) {e : Env} {s s1 : St} {v : AV} (h : outA E call o e s = some (v, s1)) : s1 = s := by
  unfold IOper.still at hp
  simp only [Bool.or_eq_true] at hp
  rcases hp with (hp | hp) | hp
  · exact (outA_quiet hp h).1
  · exact (outA_load hp h).1
  · unfold outA at h
    split at h
    · cases h
    · cases h; rfl
    · cases ho : o.op with
      | call g args =>
        rw [ho] at hp
        simp only [ho] at h
        split at h
        · cases h
        · rename_i hmp
          split at h
          · cases h
          split at h
          · rename_i v' rd s2 hcall
            split at h
            · cases h
              simp only at hp
              rw [hp] at hmp
              simp only [Bool.true_and, Bool.not_eq_true', Bool.not_eq_false] at hmp
              exact hc.one _ _ _ _ _ _ hmp hcall
            · cases h
          · cases h
      | slice sz x lo hi mx =>
        simp only [ho, keepSt, opA, valStep] at h
        split at h
        · cases h; rfl
        · cases h
      | lookup c z m k ok =>
        simp only [ho, keepSt, opA] at h
        split at h
        · split at h
          · cases h
          · split at h
            · cases h
            · cases h; rfl
            · cases h; rfl
        · cases h
      | len c x =>
        simp only [ho, keepSt, opA] at h
        split at h <;> first | (cases h; rfl) | skip
        · split at h
          · cases h; rfl
          · cases h
        · cases h
      | _ => rw [ho] at hp; cases hp

theorem apartO_spec {a b : IOper} (h : apartO a b = true) : (∀ d, a.dst = some d → d ∉ b.reads ∧ b.dst ≠ some d) ∧ (∀ d, b.dst = some d → d ∉ a.reads ∧ a.dst ≠ some d) := by
  unfold apartO at h
  simp only [Bool.and_eq_true] at h
  refine ⟨fun d hd => ?_, fun d hd => ?_⟩
  · have := h.1; rw [hd] at this; simp at this; exact this
  · have := h.2; rw [hd] at this; simp at this; exact this

theorem bindE_congr {o : IOper} {d : Option Nat} (h : ∀ x, d = some x → x ∉ o.reads) (v : AV) (e : Env) (s : St) : outA E call o (bindE d v e) s = outA E call o e s := by
  refine outA_congr (fun i hi => ?_) s
  cases d with
  | none => rfl
  | some d =>
    simp only [bindE, Env.get]
    rw [if_neg]
    rintro rfl
    exact h i rfl hi

theorem loadA_push {s : St} {b : AB} {agg : Bool} {n : Nat} {a v : AV} (h : loadA s agg n a = some v) : loadA (s.push b) agg n a = some v := by
  unfold loadA at h ⊢
  split at h
  · rename_i i off
    split at h
    · rename_i cs hcs
      have : (s.push b).cell? i = some cs := by
        unfold St.cell? at hcs ⊢
        split at hcs
        · rename_i cs' hbl
          cases hcs
          have hi := (List.getElem?_eq_some_iff.1 hbl).1
          show (match (s.bl ++ [b])[i]? with | some (.cells cs) => some cs | _ => none) = _; rw [List.getElem?_append_left hi, hbl]
        · cases hcs
      simp only [this]; exact h
    · cases h
  · split at h
    · rename_i cs hcs; exact h
    · cases h
  · cases h

theorem outA_alloc {o : IOper} (hq : o.op.isAlloc = true) {e : Env} {s s1 : St} {v : AV} (h : outA E call o e s = some (v, s1)) : s1 = s ∨ ∃ b, s1 = s.push b := by
  unfold outA at h
  split at h
  · cases h
  · cases h; exact .inl rfl
  · cases ho : o.op with
    | alloc z =>
      simp only [ho, keepSt, opA] at h
      cases h; exact .inr ⟨_, rfl⟩
    | box n x =>
      simp only [ho, keepSt, opA] at h
      split at h
      · split at h
        · cases h; exact .inr ⟨_, rfl⟩
        · cases h
      · cases h
    | _ => rw [ho] at hq; cases hq

theorem outA_load_push {o : IOper} (hq : o.op.isLoad = true) {e : Env} {s s1 : St} {v : AV} (h : outA E call o e s = some (v, s1)) (b : AB) : outA E call o e (s.push b) = some (v, s.push b) := by
  unfold outA at h ⊢
  split at h
  · cases h
  · cases h; rfl
  · cases ho : o.op with
    | load agg n a =>
      simp only [ho, keepSt, opA, valStep] at h ⊢
      split at h
      · rename_i u hu
        cases h
        rw [loadA_push hu]
      · cases h
    | _ => rw [ho] at hq; cases hq

theorem outA_app {o : IOper} (hq : o.op.isApp = true) {e : Env} {s s1 : St} {v : AV} (h : outA E call o e s = some (v, s1)) : ∃ tk, s1 = { s with tk := tk } := by
  unfold outA at h
  split at h
  · cases h
  · cases h; exact ⟨s.tk, rfl⟩
  · cases ho : o.op with
    | app sz x y =>
      simp only [ho, keepSt, opA] at h
      unfold appA at h
      split at h
      · split at h
        · split at h
          · cases h; exact ⟨s.tk, rfl⟩
          · split at h
            · cases h
            · cases h; exact ⟨_, rfl⟩
            · cases h; exact ⟨_, rfl⟩
            · split at h
              · cases h; exact ⟨_, rfl⟩
              · cases h
        · cases h
      · cases h
    | _ => rw [ho] at hq; cases hq
theorem ysS_tk (s : St) (tk : List Nat) (sz : Nat) (y : AV) : ysS { s with tk := tk } sz y = ysS s sz y := by
  cases y <;> simp [ysS, elemsA, St.cell?]
theorem loadA_tk (s : St) (tk : List Nat) (agg : Bool) (n : Nat) (a : AV) : loadA { s with tk := tk } agg n a = loadA s agg n a := by
  cases a <;> simp [loadA, St.cell?]
theorem swap_state (hc : CalmOk E call) {a b : IOper} (hs : swapOk a b = true) {e : Env} {s s1 s2 : St} {va vb : AV} (ha : outA E call a e s = some (va, s1)) (hb : outA E call b e s1 = some (vb, s2)) :
    ∃ s1', outA E call b e s = some (vb, s1') ∧ outA E call a e s1' = some (va, s2) := by
  unfold swapOk at hs
  simp only [Bool.and_eq_true, Bool.or_eq_true] at hs
  rcases hs.2 with ((((((hq | hq) | hq) | hq) | hq) | hq) | hq) | hq
  · obtain ⟨rfl, h⟩ := outA_free hc hq ha
    exact ⟨s2, hb, h s2⟩
  · obtain ⟨rfl, h⟩ := outA_free hc hq hb
    exact ⟨s, h s, ha⟩
  · have h1 := outA_still hc hq.1 ha
    have h2 := outA_still hc hq.2 hb
    subst h1; subst h2
    exact ⟨_, hb, ha⟩
  · obtain ⟨rfl, h⟩ := outA_load hq.1.1 ha
    exact ⟨s2, hb, h s2 fun agg n x hx hp => outA_call hq.2 (by simpa using hq.1.2) hb agg n x hx hp⟩
  · obtain ⟨rfl, h⟩ := outA_load hq.1.2 hb
    exact ⟨s, h s fun agg n x hx hp => (outA_call hq.2 (by simpa using hq.1.1) ha agg n x hx hp).symm, ha⟩
  · have h1 := (outA_load hq.1 ha).1
    subst h1
    rcases outA_alloc hq.2 hb with rfl | ⟨b', rfl⟩
    · exact ⟨_, hb, ha⟩
    · exact ⟨_, hb, outA_load_push hq.1 ha b'⟩
  · obtain ⟨rfl, h⟩ := outA_load hq.1 ha
    obtain ⟨tk, rfl⟩ := outA_app hq.2 hb
    exact ⟨_, hb, h _ fun agg n x _ _ => loadA_tk _ _ _ _ _⟩
  · obtain ⟨rfl, h⟩ := outA_load hq.2 hb
    obtain ⟨tk, rfl⟩ := outA_app hq.1 ha
    exact ⟨s, h _ fun agg n x _ _ => (loadA_tk _ _ _ _ _).symm, ha⟩

theorem swap_two (hc : CalmOk E call) {a b : IOper} (hs : swapOk a b = true) {r : List IOper} {e : Env} {s : St} {e' : Env} {s' : St} (h : outsA E call (a :: b :: r) e s = some (e', s')) :
    ∃ e'', outsA E call (b :: a :: r) e s = some (e'', s') ∧ EnvEq e' e'' := by
  have hap := apartO_spec (a := a) (b := b) (by unfold swapOk at hs; simp only [Bool.and_eq_true] at hs; exact hs.1)
  simp only [outsA] at h ⊢
  cases ha : outA E call a e s with
  | none => rw [ha] at h; cases h
  | some q =>
    obtain ⟨va, s1⟩ := q
    rw [ha] at h
    simp only at h
    rw [bindE_congr (fun x hx => (hap.1 x hx).1)] at h
    cases hb : outA E call b e s1 with
    | none => rw [hb] at h; cases h
    | some q =>
      obtain ⟨vb, s2⟩ := q
      rw [hb] at h
      simp only at h
      obtain ⟨s1', h1, h2⟩ := swap_state hc hs ha hb
      rw [h1]
      simp only
      rw [bindE_congr (fun x hx => (hap.2 x hx).1), h2]
      refine outsA_env (fun i => ?_) h
      cases had : a.dst with
      | none => rfl
      | some d =>
        cases hbd : b.dst with
        | none => rfl
        | some d' =>
          have hne : d' ≠ d := by
            have := (hap.1 d had).2
            rw [hbd] at this
            simpa using this
          simp only [bindE, Env.get]
          by_cases h1 : i = d
          · subst h1; rw [if_pos rfl, if_pos rfl, if_neg (Ne.symm hne)]
          · rw [if_neg h1, if_neg h1]

theorem outsA_append {l r : List IOper} : ∀ {e : Env} {s : St}, outsA E call (l ++ r) e s = (match outsA E call l e s with | some (e', s') => outsA E call r e' s' | none => none) := by
  induction l with
  | nil => intro e s; rfl
  | cons o l ih =>
    intro e s
    simp only [List.cons_append, outsA]
    cases outA E call o e s with
    | none => rfl
    | some q => exact ih

theorem front (hc : CalmOk E call) {b : IOper} {r : List IOper} : ∀ {l : List IOper} (_ : ∀ a ∈ l, swapOk a b = true) {e : Env} {s : St} {e' : Env} {s' : St} (_ : outsA E call (l ++ b :: r) e s = some (e', s')),
    ∃ e'', outsA E call (b :: (l ++ r)) e s = some (e'', s') ∧ EnvEq e' e''
  | [], _, _, _, e', _, h => ⟨e', h, fun _ => rfl⟩
  | a :: l, hl, e, s, e', s', h => by
    simp only [List.cons_append, outsA] at h
    cases ha : outA E call a e s with
    | none => rw [ha] at h; cases h
    | some q =>
      obtain ⟨va, s1⟩ := q
      rw [ha] at h
      obtain ⟨e1, h1, q1⟩ := front hc (fun x hx => hl x (List.mem_cons_of_mem _ hx)) h
      have h2 : outsA E call (a :: b :: (l ++ r)) e s = some (e1, s') := by
        simp only [outsA, ha] at h1 ⊢
        exact h1
      obtain ⟨e2, h3, q2⟩ := swap_two hc (hl a (List.mem_cons_self ..)) h2
      exact ⟨e2, h3, fun i => (q1 i).trans (q2 i)⟩
end
end Ab

/- A drawn order against the text's order; regions. Its conditions: calm calls leave the blocks as they are; calls do what the abstract run says. -/
namespace Ab
open Go

section
variable {E : IEnv} {call : Caller} {cops : Array Oper} {ios : List IOper} {ah : List (List Nat)}

theorem mem_preds {o : Oper} {d : Nat} : d ∈ preds o ↔ ∃ x ∈ o.after.toList, Region.binds .any x = true ∧ x.on = d := by
  simp [preds, and_assoc]

theorem edgesOk_spec : ∀ {os : List Oper} {n : Nat}, edgesOk n os = true → ∀ (i : Nat) (o : Oper), os[i]? = some o → ∀ d ∈ preds o, d < n + i
  | [], _, _, _, _, h => by simp at h
  | x :: os, n, hk, i, o, h => by
    simp only [edgesOk, Bool.and_eq_true, List.all_eq_true, decide_eq_true_eq] at hk
    cases i with
    | zero => simp at h; subst h; simpa using hk.1
    | succ i =>
      simp at h
      intro d hd
      have := edgesOk_spec hk.2 i o h d hd
      omega

theorem aheadOk_spec : ∀ {os : List Oper} {n : Nat}, aheadOk ah n os = true → ∀ (i : Nat) (o : Oper), os[i]? = some o → ∀ j ∈ ah.getD (n + i) [], j ∈ preds o ∨ ∃ d ∈ preds o, j ∈ ah.getD d []
  | [], _, _, _, _, h => by simp at h
  | x :: os, n, hk, i, o, h => by
    simp only [aheadOk, Bool.and_eq_true, List.all_eq_true, Bool.or_eq_true, List.contains_iff_mem, List.any_eq_true] at hk
    cases i with
    | zero => simp only [List.getElem?_cons_zero, Option.some.injEq] at h; subst h; exact hk.1
    | succ i =>
      simp only [List.getElem?_cons_succ] at h
      have := aheadOk_spec hk.2 i o h
      rwa [show n + (i + 1) = n + 1 + i by omega]

theorem mem_ready {listed : Array Bool} {i : Nat} : i ∈ Region.ready .any cops listed ↔ i < cops.size ∧ listed.getD i true = false ∧ ∃ o, cops[i]? = some o ∧ ∀ d ∈ preds o, listed.getD d false = true := by
  simp only [Region.ready, List.mem_filter, List.mem_range, Bool.and_eq_true, Bool.not_eq_true']
  refine and_congr_right fun hi => and_congr_right fun _ => ?_
  rw [Array.getElem?_eq_getElem hi]
  simp only [Option.map_some, Option.getD_some, Array.all_eq_true', Bool.or_eq_true, Bool.not_eq_true', Option.some.injEq, exists_eq_left']
  constructor
  · intro h d hd
    obtain ⟨x, hx, hb, rfl⟩ := mem_preds.1 hd
    rcases h x (Array.mem_toList_iff.1 hx) with h | h
    · rw [hb] at h; cases h
    · exact h
  · intro h x hx
    cases hb : Region.binds .any x with
    | false => exact .inl rfl
    | true => exact .inr (h _ (mem_preds.2 ⟨x, Array.mem_toList_iff.2 hx, hb, rfl⟩))

def remOf (n : Nat) (listed : Array Bool) : List Nat := (List.range n).filter fun i => !listed.getD i true

theorem go_facts (hed : edgesOk 0 cops.toList = true) (hah : aheadOk ah 0 cops.toList = true) :
    ∀ (fuel t : Nat) (listed : Array Bool), listed.size = cops.size → (∀ i, listed.getD i false = true → ∀ j ∈ ah.getD i [], listed.getD j false = true) → (remOf cops.size listed).length = fuel →
      (Region.linearise.go .any cops fuel t listed []).Perm (remOf cops.size listed) ∧ ∀ x y, List.Sublist [y, x] (Region.linearise.go .any cops fuel t listed []) → x ∉ ah.getD y []
  | 0, t, listed, hsz, hdown, hlen => by
    have hn : remOf cops.size listed = [] := List.eq_nil_of_length_eq_zero hlen
    have h0 : Region.linearise.go .any cops 0 t listed [] = [] := by simp [Region.linearise.go]
    rw [h0, hn]
    exact ⟨.refl _, fun x y h => by cases h⟩
  | fuel + 1, t, listed, hsz, hdown, hlen => by
    have hmemrem : ∀ i, i ∈ remOf cops.size listed ↔ i < cops.size ∧ listed.getD i true = false := fun i => by simp [remOf]
    have hsame : ∀ i, i < cops.size → listed.getD i true = listed.getD i false := fun i hi => by
      simp only [Array.getD_eq_getD_getElem?]
      rw [Array.getElem?_eq_getElem (by omega)]; rfl
    have hsorted : (remOf cops.size listed).Pairwise (· < ·) := List.Pairwise.filter _ List.pairwise_lt_range
    -- the least that is left can go
    have hne : Region.ready .any cops listed ≠ [] := by
      cases hr : remOf cops.size listed with
      | nil => rw [hr] at hlen; cases hlen
      | cons m r =>
        have hm := (hmemrem m).1 (by rw [hr]; exact List.mem_cons_self ..)
        have hm' : m ∈ Region.ready .any cops listed := by
          refine mem_ready.2 ⟨hm.1, hm.2, cops[m], Array.getElem?_eq_getElem hm.1, fun d hd => ?_⟩
          have hlt : d < m := by simpa using edgesOk_spec hed m cops[m] (by rw [Array.getElem?_toList, Array.getElem?_eq_getElem hm.1]) d hd
          cases hd : listed.getD d false with
          | true => rfl
          | false =>
            have : d ∈ remOf cops.size listed := (hmemrem d).2 ⟨by omega, by rw [hsame d (by omega)]; exact hd⟩
            rw [hr] at this hsorted
            rcases List.mem_cons.1 this with rfl | h
            · omega
            · have := (List.pairwise_cons.1 hsorted).1 d h; omega
        intro h0; rw [h0] at hm'; cases hm'
    have hlt : t % (Region.ready .any cops listed).length < (Region.ready .any cops listed).length := Nat.mod_lt _ (List.length_pos_iff.2 hne)
    simp only [Region.linearise.go]
    change ((match (Region.ready .any cops listed)[t % (Region.ready .any cops listed).length]? with
      | some i => Region.linearise.go .any cops fuel (t / (Region.ready .any cops listed).length) (listed.setIfInBounds i true) [i]
      | none => [].reverse)).Perm (remOf cops.size listed) ∧ ∀ x y, List.Sublist [y, x] (match (Region.ready .any cops listed)[t % (Region.ready .any cops listed).length]? with
      | some i => Region.linearise.go .any cops fuel (t / (Region.ready .any cops listed).length) (listed.setIfInBounds i true) [i]
      | none => [].reverse) → x ∉ ah.getD y []
    rw [List.getElem?_eq_getElem hlt]
    have hmem := List.getElem_mem hlt
    generalize (Region.ready .any cops listed)[t % (Region.ready .any cops listed).length] = i at hmem
    obtain ⟨hi, hil, o, ho, hpre⟩ := mem_ready.1 hmem
    simp only
    rw [linearise_go_acc, List.reverse_singleton, List.singleton_append]
    have hahi : ∀ j ∈ ah.getD i [], listed.getD j false = true := by
      intro j hj
      have := aheadOk_spec hah i o (by rw [Array.getElem?_toList]; exact ho) j (by simpa using hj)
      rcases this with h | ⟨d, hd, hj⟩
      · exact hpre j h
      · exact hdown d (hpre d hd) j hj
    obtain ⟨l, r, hlr⟩ := List.append_of_mem ((hmemrem i).2 ⟨hi, hil⟩)
    rw [hlr] at hsorted
    have hpw := List.pairwise_append.1 hsorted
    have hl : ∀ a ∈ l, a < i := fun a ha => hpw.2.2 a ha i (List.mem_cons_self ..)
    have hr : ∀ a ∈ r, i < a := fun a ha => (List.pairwise_cons.1 hpw.2.1).1 a ha
    have hrem' : remOf cops.size (listed.setIfInBounds i true) = l ++ r := by
      have h1 : remOf cops.size (listed.setIfInBounds i true) = (remOf cops.size listed).filter fun j => decide (j ≠ i) := by
        simp only [remOf, List.filter_filter]
        refine List.filter_congr fun j _ => ?_
        simp only [Array.getD_eq_getD_getElem?, Array.getElem?_setIfInBounds]
        by_cases hj : i = j
        · subst hj
          have : i < listed.size := by omega
          simp [this]
        · simp [hj, Ne.symm hj]
      rw [h1, hlr, List.filter_append, List.filter_cons_of_neg (by simp), List.filter_eq_self.2 fun a ha => by have := hl a ha; simp; omega, List.filter_eq_self.2 fun a ha => by have := hr a ha; simp; omega]
    have hlen' : (remOf cops.size (listed.setIfInBounds i true)).length = fuel := by
      rw [hrem', List.length_append]
      rw [hlr, List.length_append, List.length_cons] at hlen
      omega
    have hset : ∀ j, (listed.setIfInBounds i true).getD j false = true ↔ j = i ∨ listed.getD j false = true := by
      intro j
      simp only [Array.getD_eq_getD_getElem?, Array.getElem?_setIfInBounds]
      by_cases hj : i = j
      · subst hj
        have : i < listed.size := by omega
        simp [this]
      · simp [hj, Ne.symm hj]
    obtain ⟨p1, p2⟩ := go_facts hed hah fuel (t / (Region.ready .any cops listed).length) (listed.setIfInBounds i true) (by simpa using hsz) (by
      intro j hj k hk
      rw [hset] at hj ⊢
      rcases hj with rfl | hj
      · exact .inr (hahi k hk)
      · exact .inr (hdown j hj k hk)) hlen'
    refine ⟨?_, fun x y hxy => ?_⟩
    · rw [hlr]
      rw [hrem'] at p1
      exact (List.Perm.cons i p1).trans List.perm_middle.symm
    · cases hxy with
      | cons _ h => exact p2 x y h
      | cons_cons _ h =>
        intro hx
        have hxs : x ∈ Region.linearise.go .any cops fuel (t / (Region.ready .any cops listed).length) (listed.setIfInBounds i true) [] := List.singleton_sublist.1 h
        have := p1.mem_iff.1 hxs
        rw [hrem'] at this
        have hxr : x ∈ remOf cops.size listed := by
          rw [hlr]
          rcases List.mem_append.1 this with h | h
          · exact List.mem_append_left _ h
          · exact List.mem_append_right _ (List.mem_cons_of_mem _ h)
        obtain ⟨hx1, hx2⟩ := (hmemrem x).1 hxr
        rw [hsame x hx1, hahi x hx] at hx2
        cases hx2

theorem range_map_getD : ∀ (l : List IOper), (List.range l.length).map (fun i => l.getD i default) = l := by
  intro l
  refine List.ext_getElem (by simp) fun i h1 h2 => ?_
  simp at h1
  simp [h1]

/- two orders whose differences are all harmless -/
theorem sort_sound (hc : CalmOk E call) : ∀ (σ ord : List Nat) {e : Env} {s : St} {e' : Env} {s' : St}, ord.Nodup → σ.Perm ord → (∀ x y, List.Sublist [x, y] ord → List.Sublist [y, x] σ → swapOk (ios.getD x default) (ios.getD y default) = true) →
    outsA E call (ord.map fun i => ios.getD i default) e s = some (e', s') → ∃ e'', outsA E call (σ.map fun i => ios.getD i default) e s = some (e'', s') ∧ EnvEq e' e''
  | [], ord, e, s, e', s', hn, hp, hsw, h => by
    rw [hp.symm.eq_nil] at h
    simp only [List.map_nil, outsA, Option.some.injEq, Prod.mk.injEq] at h
    obtain ⟨rfl, rfl⟩ := h
    exact ⟨e, by simp [outsA], fun _ => rfl⟩
  | i :: σ, ord, e, s, e', s', hn, hp, hsw, h => by
    obtain ⟨l, r, hlr⟩ := List.append_of_mem (hp.mem_iff.1 (List.mem_cons_self ..))
    subst hlr
    have hp' : σ.Perm (l ++ r) := (List.perm_cons i).1 (hp.trans List.perm_middle)
    have hil : i ∉ l := by
      intro hi
      have := (List.nodup_append.1 hn).2.2 i hi i (List.mem_cons_self ..)
      exact this rfl
    have hfr : ∀ a ∈ l.map (fun i => ios.getD i default), swapOk a (ios.getD i default) = true := by
      intro a ha
      obtain ⟨j, hj, rfl⟩ := List.mem_map.1 ha
      have hjσ : j ∈ σ := hp'.mem_iff.2 (List.mem_append_left _ hj)
      refine hsw j i ?_ (List.Sublist.cons_cons i (List.singleton_sublist.2 hjσ))
      obtain ⟨l1, l2, rfl⟩ := List.append_of_mem hj
      have h1 : List.Sublist [j] (l1 ++ j :: l2) := List.singleton_sublist.2 (by simp)
      exact List.Sublist.append h1 (List.singleton_sublist.2 (List.mem_cons_self ..) : List.Sublist [i] (i :: r))
    rw [List.map_append, List.map_cons] at h
    obtain ⟨e1, h1, q1⟩ := front hc hfr h
    rw [← List.map_append] at h1
    simp only [List.map_cons, outsA] at h1 ⊢
    cases hq : outA E call (ios.getD i default) e s with
    | none => rw [hq] at h1; cases h1
    | some q =>
      obtain ⟨v, s1⟩ := q
      rw [hq] at h1
      simp only at h1 ⊢
      have hsub : List.Sublist (l ++ r) (l ++ i :: r) := List.Sublist.append_left (List.sublist_cons_self i r) l
      obtain ⟨e2, h2, q2⟩ := sort_sound hc σ (l ++ r) (hn.sublist hsub) hp' (fun x y h1 h2 => hsw x y (h1.trans hsub) (h2.trans (List.sublist_cons_self i σ))) h1
      exact ⟨e2, h2, fun x => (q1 x).trans (q2 x)⟩

theorem sched_facts (h1 : edgesOk 0 cops.toList = true) (h2 : aheadOk (aheadOf cops.toList) 0 cops.toList = true) (t : Nat) :
    (Region.schedule true cops t).Perm (List.range cops.size) ∧ ∀ x y, List.Sublist [y, x] (Region.schedule true cops t) → x ∉ (aheadOf cops.toList).getD y [] := by
  simp only [Region.schedule, Bool.true_or, if_true, Region.linearise]
  have hrem : remOf cops.size (Array.replicate cops.size false) = List.range cops.size := by
    refine List.filter_eq_self.2 fun a ha => ?_
    simp only [List.mem_range] at ha
    simp [ha]
  have := go_facts (ah := aheadOf cops.toList) h1 h2 cops.size t (Array.replicate cops.size false) (by simp) (by
      intro i hi
      exfalso
      simp only [Array.getD_eq_getD_getElem?, Array.getElem?_replicate] at hi
      split at hi <;> simp at hi) (by rw [hrem]; simp)
  rw [hrem] at this
  exact this

theorem order_sound (hc : CalmOk E call) (h1 : edgesOk 0 cops.toList = true) (h2 : aheadOk (aheadOf cops.toList) 0 cops.toList = true) (t : Nat) {ord : List Nat} (hn : ord.Nodup) (hp : ord.Perm (List.range cops.size))
    (hsw : ∀ x y, List.Sublist [x, y] ord → List.Sublist [y, x] (Region.schedule true cops t) → x ∉ (aheadOf cops.toList).getD y [] → swapOk (ios.getD x default) (ios.getD y default) = true)
    {e : Env} {s : St} {f f' : Fr} {e' : Env} {s' : St} {p : Option AV} (h : opsA E call true (ord.map fun i => ios.getD i default) f e s = some (p, f', e', s')) :
    ∃ e'', opsA E call true ((Region.schedule true cops t).map fun i => ios.getD i default) f e s = some (p, f', e'', s') ∧ EnvEq e' e'' ∧ ∀ i ∈ Region.schedule true cops t, i < cops.size := by
  simp only [opsA_draw] at h ⊢
  obtain ⟨hσ, hah⟩ := sched_facts h1 h2 t
  cases ho : outsA E call (ord.map fun i => ios.getD i default) e s with
  | none => rw [ho] at h; cases h
  | some q =>
    obtain ⟨e1, s1⟩ := q
    rw [ho] at h
    simp only [Option.some.injEq, Prod.mk.injEq] at h
    obtain ⟨rfl, rfl, rfl, rfl⟩ := h
    obtain ⟨e2, h4, h5⟩ := sort_sound (ios := ios) hc (Region.schedule true cops t) ord hn (hσ.trans hp.symm) (fun x y a b => hsw x y a b (hah x y b)) ho
    exact ⟨e2, by rw [h4], h5, fun i hi => by simpa using hσ.mem_iff.1 hi⟩

theorem sub_lt : ∀ {n k x y : Nat}, List.Sublist [x, y] (List.range' k n) → x < y ∧ y < k + n
  | 0, _, _, _, h => by cases h
  | n + 1, k, x, y, h => by
    rw [List.range'_succ] at h
    cases h with
    | cons _ h => have := sub_lt h; omega
    | cons_cons _ h =>
      have := List.singleton_sublist.1 h
      simp only [List.mem_range'_1] at this
      omega

theorem schedule_sound (hc : CalmOk E call) (hlen : ios.length = cops.size) (hk : drawOk cops.toList ios = true) (t : Nat) {e : Env} {s : St} {f f' : Fr} {e' : Env} {s' : St} {p : Option AV} (h : opsA E call true ios f e s = some (p, f', e', s')) :
    ∃ e'', opsA E call true ((Region.schedule true cops t).map fun i => ios.getD i default) f e s = some (p, f', e'', s') ∧ EnvEq e' e'' ∧ ∀ i ∈ Region.schedule true cops t, i < cops.size := by
  simp only [drawOk, Bool.and_eq_true] at hk
  obtain ⟨⟨h1, h2⟩, h3⟩ := hk
  refine order_sound hc h1 h2 t (ord := List.range cops.size) List.nodup_range (.refl _) (fun x y a _ c => ?_) (by rw [← hlen, range_map_getD]; exact h)
  rw [List.range_eq_range'] at a
  have := sub_lt a
  simp only [swapsOk, List.all_eq_true, List.mem_range, Bool.or_eq_true, List.contains_iff_mem] at h3
  rcases h3 y (by omega) x this.1 with h | h
  · exact absurd h c
  · exact h

theorem ordOk_nodup {p q : Nat} : ∀ {l : List Nat}, ordOk ah ios p q l = true → l.Nodup
  | [], _ => List.nodup_nil
  | y :: r, h => by
    simp only [ordOk, Bool.and_eq_true, Bool.not_eq_true', List.contains_eq_mem, decide_eq_false_iff_not] at h
    exact List.nodup_cons.2 ⟨h.1.2, ordOk_nodup h.2⟩
theorem ordOk_spec {p q : Nat} : ∀ {l : List Nat}, ordOk ah ios p q l = true → ∀ x y, List.Sublist [x, y] l → x ∈ ah.getD y [] ∨ swapOk (ios.getD x default) (ios.getD y default) = true ∨ (x = q ∧ y = p)
  | [], _, x, y, hs => by cases hs
  | z :: r, h, x, y, hs => by
    simp only [ordOk, Bool.and_eq_true, List.all_eq_true, Bool.or_eq_true, beq_iff_eq, List.contains_iff_mem] at h
    cases hs with
    | cons _ hs => exact ordOk_spec h.2 x y hs
    | cons_cons _ hs =>
      rcases h.1.1 y (List.singleton_sublist.1 hs) with (h | h) | h
      · exact .inl h
      · exact .inr (.inl h)
      · exact .inr (.inr h)

theorem sub_two : ∀ {σ : List Nat} {p q : Nat}, σ.Nodup → List.Sublist [p, q] σ → ¬ List.Sublist [q, p] σ
  | [], _, _, _, h, _ => by cases h
  | a :: σ, p, q, hn, h, h' => by
    have hn' := List.nodup_cons.1 hn
    cases h with
    | cons _ h =>
      cases h' with
      | cons _ h' => exact sub_two hn'.2 h h'
      | cons_cons _ h' => exact hn'.1 (h.subset (by simp))
    | cons_cons _ h =>
      cases h' with
      | cons _ h' => exact hn'.1 (h'.subset (by simp))
      | cons_cons _ h' => exact hn'.1 (List.singleton_sublist.1 h)

/- one of two orders -/
theorem alt_sound (hc : CalmOk E call) (hlen : ios.length = cops.size) {ord : List Nat} {p q : Nat} (hk : altOk ord p q cops.toList ios = true) (t : Nat) :
    ∃ b : Bool, ∀ {e : Env} {s : St} {f f' : Fr} {e' : Env} {s' : St} {pn : Option AV} (_ : opsA E call true (if b then ios else inOrd ord ios) f e s = some (pn, f', e', s')),
      ∃ e'', opsA E call true ((Region.schedule true cops t).map fun i => ios.getD i default) f e s = some (pn, f', e'', s') ∧ EnvEq e' e'' ∧ ∀ i ∈ Region.schedule true cops t, i < cops.size := by
  simp only [altOk, Bool.and_eq_true] at hk
  obtain ⟨⟨⟨⟨h1, h2⟩, h3⟩, h4⟩, h5⟩ := hk
  obtain ⟨hσ, hah⟩ := sched_facts h1 h2 t
  have hnd : (Region.schedule true cops t).Nodup := hσ.nodup_iff.2 List.nodup_range
  by_cases hpq : List.Sublist [q, p] (Region.schedule true cops t)
  · refine ⟨false, fun {e s f f' e' s' pn} h => ?_⟩
    simp only [Bool.false_eq_true, if_false, inOrd] at h
    have hn4 := ordOk_nodup h4
    refine order_sound hc h1 h2 t (ord := ord) hn4 (by rw [← hlen]; exact List.isPerm_iff.1 h5) (fun x y a b c => ?_) h
    rcases ordOk_spec h4 x y a with h | h | ⟨rfl, rfl⟩
    · exact absurd h c
    · exact h
    · exact absurd b (sub_two hnd hpq)
  · refine ⟨true, fun {e s f f' e' s' pn} h => ?_⟩
    simp only [if_true] at h
    refine order_sound hc h1 h2 t (ord := List.range cops.size) List.nodup_range (.refl _) (fun x y a b c => ?_) (by rw [← hlen, range_map_getD]; exact h)
    rw [← hlen] at a
    rcases ordOk_spec h3 x y a with h | h | ⟨rfl, rfl⟩
    · exact absurd h c
    · exact h
    · exact absurd b hpq
end
end Ab

/- The abstract run of a code against the machine's. Its conditions: calls do what the abstract run says; calm calls leave the blocks as they are. -/
namespace Ab
open Go

def outOf : Option AV → Out
  | none => .normal
  | some v => .pan v

/- where a code comes to -/
def To (P : Program) (L : Link) (M : Machine) (B : Frame) (tm : Array Value) (df : List Deferred) (k : List Item) (cs : List Frame) (g : Gh) (w : World) : Out → Prop
  | .normal => Steps P M (lone (mkF B tm df k) cs w)
  | .exit id => ∃ k', exitTo id k' = exitTo id k ∧ Steps P M (lone (mkF B tm df (.code (.exit id) :: k')) cs w)
  | .ret => ∃ k', Steps P M (lone (mkF B tm df (.code .ret :: k')) cs w)
  | .pan v => ∃ cv td, Rep L.toLk g w v cv ∧ NoCall td ∧ Steps P M (lone { mkF B tm df td with mode := .panicking [{ v := cv, recovered := false }] } cs w)

section
variable {P : Program} {L : Link} {E : IEnv} {call : Caller}

theorem To.head {M M' : Machine} {B : Frame} {tm : Array Value} {df : List Deferred} {k : List Item} {cs : List Frame} {g : Gh} {w : World} {o : Out} (h : Steps P M M') (h' : To P L M' B tm df k cs g w o) : To P L M B tm df k cs g w o := by
  cases o with
  | normal => exact h.trans h'
  | exit id => obtain ⟨k', h1, h2⟩ := h'; exact ⟨k', h1, h.trans h2⟩
  | ret => obtain ⟨k', h2⟩ := h'; exact ⟨k', h.trans h2⟩
  | pan v => obtain ⟨cv, td, h1, h0, h2⟩ := h'; exact ⟨cv, td, h1, h0, h.trans h2⟩

/- a place that exits pass by -/
theorem To.pass {M : Machine} {B : Frame} {tm : Array Value} {df : List Deferred} {k k' : List Item} {cs : List Frame} {g : Gh} {w : World} {o : Out} (hn : o ≠ .normal) (hk : ∀ id, o = .exit id → exitTo id k' = exitTo id k) (h : To P L M B tm df k' cs g w o) : To P L M B tm df k cs g w o := by
  cases o with
  | normal => exact absurd rfl hn
  | exit id => obtain ⟨k2, h1, h2⟩ := h; exact ⟨k2, h1.trans (hk id rfl), h2⟩
  | ret => exact h
  | pan v => exact h

structure SimTo (P : Program) (L : Link) (N : Nat) (vars : List Nat) (lo : Nat) (g : Gh) (s : St) (w : World) (M : Machine) (B : Frame) (cs0 : List Frame) (k : List Item) (o : Out) (rnd : Bool) (f' : Fr) (s' : St) (g' : Gh) (w' : World) (tm' : Array Value) (df' : List Deferred) : Prop where
  st : StR L.toLk (CkR P L) g' s' w'
  ext : Ext g s w g' s' w'
  fr : FrR L.toLk N vars lo g' w' f' tm' df'
  rcv : RcvR L.toLk g' w' f' B cs0
  rnd : f'.rnd = rnd
  to : To P L M B tm' df' k (csAt f'.recd cs0) g' w' o

theorem SimTo.head {N lo : Nat} {vars : List Nat} {g g1 g' : Gh} {s s1 s' : St} {w w1 w' : World} {M M1 : Machine} {B : Frame} {cs0 : List Frame} {k : List Item} {o : Out} {rnd rnd1 : Bool} {f' : Fr} {tm' : Array Value} {df' : List Deferred}
    (h : Steps P M M1) (he : Ext g s w g1 s1 w1) (hr : rnd1 = rnd) (h' : SimTo P L N vars lo g1 s1 w1 M1 B cs0 k o rnd1 f' s' g' w' tm' df') : SimTo P L N vars lo g s w M B cs0 k o rnd f' s' g' w' tm' df' :=
  ⟨h'.st, he.trans h'.ext, h'.fr, h'.rcv, h'.rnd.trans hr, h'.to.head h⟩

theorem SimTo.pass {N lo : Nat} {vars : List Nat} {g g' : Gh} {s s' : St} {w w' : World} {M : Machine} {B : Frame} {cs0 : List Frame} {k k' : List Item} {o : Out} {rnd : Bool} {f' : Fr} {tm' : Array Value} {df' : List Deferred}
    (hn : o ≠ .normal) (hk : ∀ id, o = .exit id → exitTo id k' = exitTo id k) (h : SimTo P L N vars lo g s w M B cs0 k' o rnd f' s' g' w' tm' df') : SimTo P L N vars lo g s w M B cs0 k o rnd f' s' g' w' tm' df' :=
  ⟨h.st, h.ext, h.fr, h.rcv, h.rnd, h.to.pass hn hk⟩

theorem FrR.keep {N lo : Nat} {vars : List Nat} {g : Gh} {w : World} {f f1 : Fr} {tm : Array Value} {df : List Deferred} {loc : Env} {keep : List Nat} (hl : EnvR L.toLk g w loc tm) (hd : EnvD vars f.env) (hN : N ≤ tm.size) (hdf : DRel L.toLk g w lo f1.defers df) (hlo : lo ≤ w.heap.size)
    (hk : keep.all (vars.contains ·) = true) (hs : ∀ i, vars.contains i = true → keep.contains i = false → loc.get i = f.env.get i) : FrR L.toLk N vars lo g w { f1 with env := keepA loc keep f.env } tm df := by
  refine ⟨fun i => ?_, hd.keep hk, hN, hdf, hlo⟩
  show Rep L.toLk g w ((keepA loc keep f.env).get i) _
  rw [keepA_get]
  split
  · exact hl i
  · rename_i hki
    cases hv : vars.contains i with
    | false => rw [hd.get_junk hv]; simp [Rep]
    | true => rw [← hs i hv (by simpa using hki)]; exact hl i

theorem ckOpers_len {N : Nat} {cops : Array Oper} : ∀ {os : List Oper} {ios : List IOper}, ckOpers P L N cops os ios = true → ios.length = os.length
  | [], [], _ => rfl
  | [], _ :: _, h => by simp [ckOpers] at h
  | _ :: _, [], h => by simp [ckOpers] at h
  | _ :: os, _ :: ios, h => by simp only [ckOpers, Bool.and_eq_true] at h; simp [ckOpers_len h.2]
theorem ckOpers_one {N : Nat} {cops : Array Oper} : ∀ {os : List Oper} {ios : List IOper} {i : Nat} {o : Oper}, ckOpers P L N cops os ios = true → os[i]? = some o → ckOper P L N cops o (ios.getD i default) = true
  | [], _, _, _, _, h2 => by simp at h2
  | _ :: _, [], _, _, h, _ => by simp [ckOpers] at h
  | a :: os, b :: ios, i, o, h, h2 => by
    simp only [ckOpers, Bool.and_eq_true] at h
    cases i with
    | zero => simp only [List.getElem?_cons_zero, Option.some.injEq] at h2; subst h2; exact h.1
    | succ i => simpa using ckOpers_one h.2 (by simpa using h2)
theorem ckOpers_pair {N : Nat} {cops : Array Oper} {ops : List IOper} (hops : ckOpers P L N cops cops.toList ops = true) : ∀ (is : List Nat), (∀ i ∈ is, i < cops.size) → Paired P L N cops is (is.map fun i => ops.getD i default)
  | [], _ => trivial
  | i :: is, hi => by
    have hlt := hi i (List.mem_cons_self ..)
    exact ⟨⟨cops[i], Array.getElem?_eq_getElem hlt, ckOpers_one hops (by rw [Array.getElem?_toList, Array.getElem?_eq_getElem hlt])⟩, ckOpers_pair hops is fun j hj => hi j (List.mem_cons_of_mem _ hj)⟩

/- an order, and what it comes to -/
theorem order_run (hinj : ∀ a b, L.tyOf a = L.tyOf b → a = b) (hcall : CallSim P L E call) {N lo : Nat} {vars : List Nat} {id : Nat} {cops : Array Oper} {draw : Bool} {keep : List Nat} (hkeep : keep.all (vars.contains ·) = true)
    {f : Fr} {s : St} {g : Gh} {w : World} (hgl : GlR L E g w) {tm : Array Value} {df : List Deferred} (hf : FrR L.toLk N vars lo g w f tm df)
    {B : Frame} {cs0 : List Frame} (hrc : RcvR L.toLk g w f B cs0) (k : List Item)
    (is : List Nat) (os : List IOper) (g1 : Gh) (w1 : World) (hs1 : StR L.toLk (CkR P L) g1 s w1) (hx1 : Ext g s w g1 s w1) (hst : Steps P (lone (mkF B tm df (.code (.region id cops draw) :: k)) (csAt f.recd cs0) w) (lone (mkF B tm df (.inRegion cops is :: k)) (csAt f.recd cs0) w1))
    (hp : Paired P L N cops is os) (p : Option AV) (f1 : Fr) (e1 e2 : Env) (s1 : St) (hA : opsA E call draw os f f.env s = some (p, f1, e1, s1)) (hq : EnvEq e2 e1) (hget : ∀ i, vars.contains i = true → keep.contains i = false → e2.get i = f.env.get i)
    (o : Out) (ho : o = outOf p) :
    ∃ g' w' tm' df', SimTo P L N vars lo g s w (lone (mkF B tm df (.code (.region id cops draw) :: k)) (csAt f.recd cs0) w) B cs0 k o f.rnd { f1 with env := keepA e2 keep f.env } s1 g' w' tm' df' := by
  obtain ⟨g2, w2, tm2, df2, b1, b2, b3, b4, b5, b6, b7, b8, b9⟩ := ops_sound hinj hcall hp hA hs1 (hgl.ext hx1) (hf.env.mono hx1.ge) hf.size (hf.dfr.mono hx1.ge hx1.dfr) (hrc.mono hx1.ge) k
  have b3' : EnvR L.toLk g2 w2 e2 tm2 := fun i => by rw [hq i]; exact b3 i
  refine ⟨g2, w2, tm2, df2, b1, hx1.trans b2, FrR.keep b3' hf.dom b4 b5 (by have := hf.lo; have := hx1.size; have := b2.size; omega) hkeep hget, b6, b7, ?_⟩
  cases p with
  | none => subst ho; exact hst.trans b9
  | some v =>
    subst ho
    obtain ⟨cv, td, c1, c0, c2⟩ := b9
    exact ⟨cv, td, c1, c0, hst.trans c2⟩

theorem keepA_congr {loc e2 : Env} (h : EnvEq loc e2) (keep : List Nat) (e : Env) : keepA loc keep e = keepA e2 keep e := by
  induction keep generalizing e with
  | nil => rfl
  | cons k r ih => simp only [keepA]; rw [h k]; exact ih _

theorem slot_of {keep vars : List Nat} {ops : List IOper} (hdst : ops.all (fun o => match o.dst with | some d => keep.contains d || !vars.contains d | none => true) = true) (i : Nat) (hv : vars.contains i = true) (hk : keep.contains i = false) : ∀ o ∈ ops, o.dst ≠ some i := by
  intro o ho hd
  have := List.all_eq_true.1 hdst o ho
  rw [hd] at this
  simp only [Bool.or_eq_true, Bool.not_eq_true'] at this
  rcases this with h | h
  · rw [hk] at h; cases h
  · rw [hv] at h; cases h

theorem regR_inv {keep : List Nat} {e : Env} {q : Option (Option AV × Fr × Env × St)} {o : Out} {f' : Fr} {s' : St} (h : regR keep e q = some (o, f', s')) : ∃ p loc f1, q = some (p, f1, loc, s') ∧ f' = { f1 with env := keepA loc keep e } ∧ o = outOf p := by
  unfold regR at h
  split at h
  · simp only [Option.some.injEq, Prod.mk.injEq] at h
    obtain ⟨rfl, rfl, rfl⟩ := h
    exact ⟨none, _, _, rfl, rfl, rfl⟩
  · simp only [Option.some.injEq, Prod.mk.injEq] at h
    obtain ⟨rfl, rfl, rfl⟩ := h
    exact ⟨some _, _, _, rfl, rfl, rfl⟩
  · cases h

theorem region_sim (hinj : ∀ a b, L.tyOf a = L.tyOf b → a = b) (hcall : CallSim P L E call) (hcalm : CalmOk E call) {N lo n : Nat} {vars : List Nat} {id : Nat} {cops : Array Oper} {draw : Bool} {ops : List IOper} {keep : List Nat} {draw' : Bool} (hck : ckCode P L N vars (.region ops keep draw') (.region id cops draw) = true)
    {f f' : Fr} {s s' : St} {o : Out} (h : codeA E call n (.region ops keep draw') f s = some (o, f', s')) {g : Gh} {w : World} (hs : StR L.toLk (CkR P L) g s w) (hgl : GlR L E g w) {tm : Array Value} {df : List Deferred} (hf : FrR L.toLk N vars lo g w f tm df)
    {B : Frame} {cs0 : List Frame} (hrc : RcvR L.toLk g w f B cs0) (k : List Item) :
    ∃ g' w' tm' df', SimTo P L N vars lo g s w (lone (mkF B tm df (.code (.region id cops draw) :: k)) (csAt f.recd cs0) w) B cs0 k o f.rnd f' s' g' w' tm' df' := by
  simp only [ckCode, Bool.and_eq_true, beq_iff_eq] at hck
  obtain ⟨⟨⟨⟨rfl, hops⟩, hkeep⟩, hdst⟩, hdr⟩ := hck
  have hlen : ops.length = cops.size := by simpa using ckOpers_len hops
  have hreg : regR keep f.env (opsA E call draw ops f f.env s) = some (o, f', s') := by
    rw [← h]; simp only [codeA, regR]
  obtain ⟨p, loc, f1, hA, rfl, ho⟩ := regR_inv hreg
  have hget : ∀ i, vars.contains i = true → keep.contains i = false → loc.get i = f.env.get i := fun i hv hk => opsA_get hA (slot_of hdst i hv hk)
  cases draw with
  | false =>
    refine order_run hinj hcall hkeep hgl hf hrc k (List.range cops.size) ops g w hs (.refl _ _ _) (.one s_region) ?_ p f1 loc loc s' hA (fun _ => rfl) hget o ho
    have := ckOpers_pair hops (List.range cops.size) (fun i hi => List.mem_range.1 hi)
    rwa [← hlen, range_map_getD, hlen] at this
  | true =>
    simp only [Bool.not_true, Bool.false_or, Bool.and_eq_true] at hdr
    obtain ⟨hmix, hdr⟩ := hdr
    obtain ⟨e2, h1, h2, h3⟩ := schedule_sound hcalm hlen hdr (w.tape w.drawn (.order B.fn id)) hA
    have hst := s_region_draw (P := P) (B := B) (tm := tm) (df := df) (k := k) (cs := csAt f.recd cs0) (w := w) (id := id) (ops := cops)
    rw [hmix] at hst
    have hsame := StR.same hs (w' := { w with drawn := w.drawn + 1 }) rfl ⟨rfl, rfl, rfl⟩
    exact order_run hinj hcall hkeep hgl hf hrc k _ _ g { w with drawn := w.drawn + 1 } hsame.1 hsame.2 (.one hst) (ckOpers_pair hops _ h3) p f1 e2 loc s' h1 h2 hget o ho

/- one of two texts of a region -/
theorem region_alt (hinj : ∀ a b, L.tyOf a = L.tyOf b → a = b) (hcall : CallSim P L E call) (hcalm : CalmOk E call) {N lo : Nat} {vars : List Nat} {id : Nat} {cops : Array Oper} {ops : List IOper} {keep : List Nat} {ord : List Nat} {x y : Nat}
    (hops : ckOpers P L N cops cops.toList ops = true) (hkeep : keep.all (vars.contains ·) = true) (hdst : ops.all (fun o => match o.dst with | some d => keep.contains d || !vars.contains d | none => true) = true) (hmix : P.follows .mixedOrders = true) (halt : altOk ord x y cops.toList ops = true)
    {f : Fr} {s : St} {g : Gh} {w : World} (hs : StR L.toLk (CkR P L) g s w) (hgl : GlR L E g w) {tm : Array Value} {df : List Deferred} (hf : FrR L.toLk N vars lo g w f tm df)
    {B : Frame} {cs0 : List Frame} (hrc : RcvR L.toLk g w f B cs0) (k : List Item) :
    ∃ b : Bool, ∀ {o : Out} {f' : Fr} {s' : St}, regR keep f.env (opsA E call true (if b then ops else inOrd ord ops) f f.env s) = some (o, f', s') →
      ∃ g' w' tm' df', SimTo P L N vars lo g s w (lone (mkF B tm df (.code (.region id cops true) :: k)) (csAt f.recd cs0) w) B cs0 k o f.rnd f' s' g' w' tm' df' := by
  have hlen : ops.length = cops.size := by simpa using ckOpers_len hops
  obtain ⟨b, hb⟩ := alt_sound (E := E) (call := call) hcalm hlen halt (w.tape w.drawn (.order B.fn id))
  refine ⟨b, fun {o f' s'} hreg => ?_⟩
  obtain ⟨p, loc, f1, hA, rfl, ho⟩ := regR_inv hreg
  have hget : ∀ i, vars.contains i = true → keep.contains i = false → loc.get i = f.env.get i := fun i hv hk => opsA_get hA (by
    cases b with
    | true => exact slot_of hdst i hv hk
    | false =>
      intro o ho
      simp only [Bool.false_eq_true, if_false, inOrd] at ho
      obtain ⟨j, _, rfl⟩ := List.mem_map.1 ho
      by_cases hj : j < ops.length
      · have : ops.getD j default ∈ ops := by
          rw [List.getD_eq_getElem?_getD, List.getElem?_eq_getElem hj]
          exact List.getElem_mem hj
        exact slot_of hdst i hv hk _ this
      · rw [List.getD_eq_getElem?_getD, List.getElem?_eq_none (by omega)]
        intro h; cases h)
  obtain ⟨e2, h1, h2, h3⟩ := hb hA
  have hst := s_region_draw (P := P) (B := B) (tm := tm) (df := df) (k := k) (cs := csAt f.recd cs0) (w := w) (id := id) (ops := cops)
  rw [hmix] at hst
  have hsame := StR.same hs (w' := { w with drawn := w.drawn + 1 }) rfl ⟨rfl, rfl, rfl⟩
  exact order_run hinj hcall hkeep hgl hf hrc k _ _ g { w with drawn := w.drawn + 1 } hsame.1 hsame.2 (.one hst) (ckOpers_pair hops _ h3) p f1 e2 loc s' h1 h2 hget o ho
end
end Ab
