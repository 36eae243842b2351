/- Parts of the proof, made small by program. No condition but what is told. -/
import Derived.Test.YtbncnjpohgbgjaaGreatAb08
set_option linter.all false
set_option maxHeartbeats 8000000
namespace Ab
open Go
abbrev IV (r : Bool) (e : bF) : Fr := { env := e, defers := [], rcv := none, recd := false, rnd := r }
abbrev AH := Ek -> bF -> St -> Prop
def Al (N : bF -> St -> Prop) (Q : AH) : AH
 | .normal, e, s => N e s
 | o, e, s => Q o e s
def zl (id : Nat) (Q : AH) : AH
 | .exit j, e, s => if j = id then Q .normal e s else Q (.exit j) e s
 | o, e, s => Q o e s
def Jj (r : Bool) (keep : List Nat) (Q : AH) (e : bF) : Option (Option AV × Fr × bF × St) -> Prop
 | some (none, f, loc, s) => f = IV r e /\ Q .normal (om loc keep e) s
 | some (some v, f, loc, s) => f = IV r e /\ Q (.pan v) (om loc keep e) s
 | none => False
def wp (E : ak) (call : en) (n : Nat) (r : Bool) : ae -> AH -> bF -> St -> Prop
 | .skip, Q, e, s => Q .normal e s
 | .region ops keep draw, Q, e, s => Jj r keep Q e (pD E call draw ops (IV r e) e s)
 | .seq a b, Q, e, s => wp E call n r a (Al (wp E call n r b Q) Q) e s
 | .cond c a b, Q, e, s => ∃ t, c.ev E e = .bool t /\ (if t then wp E call n r a Q e s else wp E call n r b Q e s)
 | .block id b, Q, e, s => wp E call n r b (zl id Q) e s
 | .loop ks b, Q, e, s => ∃ o e' s', BG (bj E call n b) ks n (IV r e) s = some (o, IV r e', s') /\ Q o e' s'
 | .rangeFn g ps a b, Q, e, s => ∃ o s', bj E call n (.rangeFn g ps a b) (IV r e) s = some (o, IV r e, s') /\ Q o e s'
 | .exit id, Q, e, s => Q (.exit id) e s
 | .ret, Q, e, s => Q .ret e s
 | .alt ord p q bu ops keep rest ks, Q, e, s => ∃ o e' s', bj E call n (.alt ord p q bu ops keep rest ks) (IV r e) s = some (o, IV r e', s') /\ Q o e' s'
section
variable {E : ak} {call : en} {n : Nat} {r : Bool} {Q : AH} {e : bF} {s : St} {N : bF -> St -> Prop}
@[simp] theorem SF : Al N Q .normal e s = N e s := rfl
@[simp] theorem T5 (i : Nat) : Al N Q (.exit i) e s = Q (.exit i) e s := rfl
@[simp] theorem Ul : Al N Q .ret e s = Q .ret e s := rfl
@[simp] theorem Uk (v : AV) : Al N Q (.pan v) e s = Q (.pan v) e s := rfl
@[simp] theorem RK (id : Nat) : zl id Q .normal e s = Q .normal e s := rfl
@[simp] theorem Tt (id : Nat) : zl id Q .ret e s = Q .ret e s := rfl
@[simp] theorem Ts (id : Nat) (v : AV) : zl id Q (.pan v) e s = Q (.pan v) e s := rfl
@[simp] theorem ST (id j : Nat) : zl id Q (.exit j) e s = if j = id then Q .normal e s else Q (.exit j) e s := rfl
@[simp] theorem TM (keep : List Nat) (f : Fr) (loc : bF) : Jj r keep Q e (some (none, f, loc, s)) = (f = IV r e /\ Q .normal (om loc keep e) s) := rfl
@[simp] theorem Uj (keep : List Nat) (f : Fr) (loc : bF) (v : AV) : Jj r keep Q e (some (some v, f, loc, s)) = (f = IV r e /\ Q (.pan v) (om loc keep e) s) := rfl
@[simp] theorem U6 : wp E call n r .skip Q e s = Q .normal e s := rfl
@[simp] theorem Um (ops : List aK) (keep : List Nat) (draw : Bool) : wp E call n r (.region ops keep draw) Q e s = Jj r keep Q e (pD E call draw ops (IV r e) e s) := rfl
@[simp] theorem Vn (a b : ae) : wp E call n r (.seq a b) Q e s = wp E call n r a (Al (wp E call n r b Q) Q) e s := rfl
@[simp] theorem U4 (c : bN) (a b : ae) : wp E call n r (.cond c a b) Q e s = ∃ t, c.ev E e = .bool t /\ (if t then wp E call n r a Q e s else wp E call n r b Q e s) := rfl
@[simp] theorem UW (id : Nat) (b : ae) : wp E call n r (.block id b) Q e s = wp E call n r b (zl id Q) e s := rfl
@[simp] theorem U5 (id : Nat) : wp E call n r (.exit id) Q e s = Q (.exit id) e s := rfl
@[simp] theorem Vm : wp E call n r .ret Q e s = Q .ret e s := rfl
theorem nu : ∀ {c : ae} {Q : AH} {e : bF} {s : St}, wp E call n r c Q e s -> ∃ o e' s', bj E call n c (IV r e) s = some (o, IV r e', s') /\ Q o e' s'
 | .skip, Q, e, s, h => ⟨_, e, s, by simp only [bj], h⟩
 | .exit _, Q, e, s, h => ⟨_, e, s, by simp only [bj], h⟩
 | .ret, Q, e, s, h => ⟨_, e, s, by simp only [bj], h⟩
 | .region ops keep draw, Q, e, s, h => by
  simp only [wp] at h
  simp only [bj]
  cases hq : pD E call draw ops (IV r e) e s with
  | none => rw [hq] at h; exact h.elim
  | some x =>
   obtain ⟨p, f', loc, s'⟩ := x
   rw [hq] at h
   cases p with
   | none =>
    simp only [Jj] at h
    obtain ⟨rfl, q⟩ := h
    exact ⟨_, _, _, rfl, q⟩
   | some v =>
    simp only [Jj] at h
    obtain ⟨rfl, q⟩ := h
    exact ⟨_, _, _, rfl, q⟩
 | .seq a b, Q, e, s, h => by
  obtain ⟨o, e1, s1, h1, q⟩ := nu (c := a) h
  simp only [bj, h1]
  cases o with
  | normal => exact nu (c := b) q
  | _ => exact ⟨_, _, _, rfl, q⟩
 | .cond c a b, Q, e, s, h => by
  obtain ⟨t, h1, q⟩ := h
  simp only [bj, h1]
  cases t
  ·exact nu (c := b) q
  ·exact nu (c := a) q
 | .block id b, Q, e, s, h => by
  obtain ⟨o, e1, s1, h1, q⟩ := nu (c := b) h
  simp only [bj, h1]
  cases o with
  | exit j =>
   simp only [zl] at q
   by_cases hj : j = id
   ·simp only [hj, if_true] at q ⊢; exact ⟨_, _, _, rfl, q⟩
   ·simp only [hj, if_false] at q ⊢; exact ⟨_, _, _, rfl, q⟩
  | _ => exact ⟨_, _, _, rfl, q⟩
 | .loop ks b, Q, e, s, h => by
  obtain ⟨o, e1, s1, h1, q⟩ := h
  exact ⟨o, e1, s1, by simp only [bj]; exact h1, q⟩
 | .rangeFn g ps a b, Q, e, s, h => by
  obtain ⟨o, s1, h1, q⟩ := h
  exact ⟨o, e, s1, h1, q⟩
 | .alt _ _ _ _ _ _ _ _, Q, e, s, h => h
theorem Oz {ks : List Nat} {b : ae} (m : Nat) (Inv : Nat -> bF -> St -> Prop)
  (step : ∀ i e s, i < m -> Inv i e s -> wp E call n r b (Al (fun e s => Inv (i + 1) (e.kill ks) s) Q) e s)
  (last : ∀ e s, Inv m e s -> wp E call n r b (Al (fun _ _ => False) Q) e s) :
  ∀ (j i : Nat) (e : bF) (s : St) (k : Nat), i + j = m -> j < k -> Inv i (e.kill ks) s -> ∃ o e' s', BG (bj E call n b) ks k (IV r e) s = some (o, IV r e', s') /\ Q o e' s'
 | 0, i, e, s, k + 1, hi, hk, h => by
  obtain ⟨o, e1, s1, h1, q⟩ := nu (last _ _ (by rw [show m = i by omega]; exact h))
  cases o with
  | normal => exact q.elim
  | _ => exact ⟨_, e1, s1, by simp only [BG, h1], q⟩
 | j + 1, i, e, s, k + 1, hi, hk, h => by
  obtain ⟨o, e1, s1, h1, q⟩ := nu (step i _ _ (by omega) h)
  cases o with
  | normal =>
   obtain ⟨o2, e2, s2, h2, q2⟩ := Oz m Inv step last j (i + 1) e1 s1 k (by omega) (by omega) q
   exact ⟨o2, e2, s2, by simp only [BG, h1]; exact h2, q2⟩
  | _ => exact ⟨_, e1, s1, by simp only [BG, h1], q⟩
theorem aA {ks : List Nat} {b : ae} (m : Nat) (Inv : Nat -> bF -> St -> Prop) (hm : m < n) (h0 : Inv 0 (e.kill ks) s)
  (step : ∀ i e s, i < m -> Inv i e s -> wp E call n r b (Al (fun e s => Inv (i + 1) (e.kill ks) s) Q) e s)
  (last : ∀ e s, Inv m e s -> wp E call n r b (Al (fun _ _ => False) Q) e s) : wp E call n r (.loop ks b) Q e s :=
 Oz m Inv step last m 0 e s n (by omega) hm h0
end
section
variable {E : ak} {call : en} {n : Nat} {r : Bool} {Q : AH} {e : bF} {s : St}
theorem Rw (a b : ae) (f : Fr) : bj E call n (.seq a b) f s = Do (bj E call n b) (bj E call n a f s) := by
 simp only [bj]; unfold Do; split <;> rfl
theorem SB (ops : List aK) (keep : List Nat) (draw : Bool) (f : Fr) : bj E call n (.region ops keep draw) f s = Fh keep f.env (pD E call draw ops f f.env s) := by
 simp only [bj]; unfold Fh; split <;> rfl
theorem Hd : ∀ {l : List AB}, l.all AB.isCells = true -> AB.sameL l l = true
 | [], _ => rfl
 | x :: l, h => by
  simp only [List.all_cons, Bool.and_eq_true] at h
  simp only [AB.sameL, Hd h.2, Bool.and_true]
  have := h.1
  cases x <;> simp [AB.isCells, AB.same] at this ⊢
def MK (ks : List Nat) (s : St) (o0 : Ek) (e0 : bF) (tk0 : List Nat) (C : List AB -> Prop) : AH := fun o e s' => o = o0 /\ e.kill ks = e0 /\ s'.tk = tk0 /\ ∃ cs, s'.bl = s.bl ++ cs /\ C cs
@[simp] theorem U0 (ks : List Nat) (s : St) (o0 : Ek) (e0 : bF) (tk0 : List Nat) (C : List AB -> Prop) (o : Ek) (e : bF) (s' : St) : MK ks s o0 e0 tk0 C o e s' = (o = o0 /\ e.kill ks = e0 /\ s'.tk = tk0 /\ ∃ cs, s'.bl = s.bl ++ cs /\ C cs) := rfl
theorem RH {ord : List Nat} {p q : Nat} {bu : Bool} {ops : List aK} {keep : List Nat} {rest : ae} {ks : List Nat} (o0 : Ek) (e0 : bF) (tk0 : List Nat) (news : List AB) (C : List AB -> Prop)
  (hC : ∀ c d, C c -> C d -> c.length = d.length /\ (if bu then c.all AB.isCells && d.all AB.isCells else AB.sameL c d) = true /\ (if bu then c.map (fun _ => AB.dead) else c) = news)
  (hA : wp E call n r (.seq (.region ops keep true) rest) (MK ks s o0 e0 tk0 C) e { s with ro := s.bl.length })
  (hB : wp E call n r (.seq (.region (wo ord ops) keep true) rest) (MK ks s o0 e0 tk0 C) e { s with ro := s.bl.length })
  (hQ : Q o0 e0 { s with bl := s.bl ++ news, tk := tk0 }) : wp E call n r (.alt ord p q bu ops keep rest ks) Q e s := by
 obtain ⟨o1, e1, s1, h1, rfl, q1, r1, c, b1, hc⟩ := nu hA
 obtain ⟨o2, e2, s2, h2, rfl, q2, r2, d, b2, hd⟩ := nu hB
 refine ⟨_, e0, _, ?_, hQ⟩
 rw [Rw, SB] at h1 h2
 obtain ⟨k1, k2, k3⟩ := hC c d hc hd
 simp only [bj]
 simp only at h1 h2
 rw [h1, h2]
 have d1 : s1.bl.drop s.bl.length = c := by rw [b1]; simp
 have d2 : s2.bl.drop s.bl.length = d := by rw [b2]; simp
 simp only [OA, d1, d2, q1, q2, r1, r2]
 rw [if_pos ⟨by simp, ⟨by rw [b1, b2]; simp [k1], trivial⟩, k2⟩, k3]
theorem SP {ord : List Nat} {p q : Nat} {ops : List aK} {keep : List Nat} {rest : ae} {ks : List Nat} (o0 : Ek) (e0 : bF) (tk0 : List Nat) (news : List AB) (hn : news.all AB.isCells = true)
  (hA : wp E call n r (.seq (.region ops keep true) rest) (MK ks s o0 e0 tk0 (· = news)) e { s with ro := s.bl.length })
  (hB : wp E call n r (.seq (.region (wo ord ops) keep true) rest) (MK ks s o0 e0 tk0 (· = news)) e { s with ro := s.bl.length })
  (hQ : Q o0 e0 { s with bl := s.bl ++ news, tk := tk0 }) : wp E call n r (.alt ord p q false ops keep rest ks) Q e s :=
 RH o0 e0 tk0 news (· = news) (fun c d h1 h2 => by subst h1; subst h2; exact ⟨rfl, by simpa using Hd hn, rfl⟩) hA hB hQ
theorem SO {ord : List Nat} {p q : Nat} {ops : List aK} {keep : List Nat} {rest : ae} {ks : List Nat} (o0 : Ek) (e0 : bF) (tk0 : List Nat) (m : Nat)
  (hA : wp E call n r (.seq (.region ops keep true) rest) (MK ks s o0 e0 tk0 fun c => c.all AB.isCells = true /\ c.length = m) e { s with ro := s.bl.length })
  (hB : wp E call n r (.seq (.region (wo ord ops) keep true) rest) (MK ks s o0 e0 tk0 fun c => c.all AB.isCells = true /\ c.length = m) e { s with ro := s.bl.length })
  (hQ : Q o0 e0 { s with bl := s.bl ++ List.replicate m .dead, tk := tk0 }) : wp E call n r (.alt ord p q true ops keep rest ks) Q e s :=
 RH o0 e0 tk0 (List.replicate m .dead) (fun c => c.all AB.isCells = true /\ c.length = m) (fun c d h1 h2 => ⟨by rw [h1.2, h2.2], by simp [h1.1, h2.1], by rw [if_pos rfl, <- h1.2]; exact List.map_const' ..⟩) hA hB hQ
end
def Ge (res : List yl) (v : AV) : AH := fun o e s => (o = .normal \/ o = .ret) /\ ∃ vs, uU e s res = some vs /\ (fo vs).data = true /\ (fo vs).untok = v
@[simp] theorem SZ (res : List yl) (v : AV) (e : bF) (s : St) : Ge res v .normal e s = ∃ vs, uU e s res = some vs /\ (fo vs).data = true /\ (fo vs).untok = v := by simp [Ge]
@[simp] theorem UB (res : List yl) (v : AV) (e : bF) (s : St) : Ge res v .ret e s = ∃ vs, uU e s res = some vs /\ (fo vs).data = true /\ (fo vs).untok = v := by simp [Ge]
theorem bG.byW {E : ak} {f : Nat} {first caps : List AV} {F : bS} (hF : E.fns f = some F) (hm : F.mode = .pure) {args : List AV} (hn : (first ++ args ++ caps).length = F.np) {v : AV} {K : Nat}
  (h : ∀ k, K <= k -> ∀ bl tk, wp E (au E k) k false F.body (Ge F.res v) (pj 0 (first ++ args ++ caps)) { bl, tk, ro := bl.length, rt := tk.length }) : bG (K + 1) E (.fn f first caps) args v := by
 refine bG.of hF hm hn fun k hk bl tk => ?_
 obtain ⟨o, e', s', h1, ho, vs, h2, h3, h4⟩ := nu (h k hk bl tk)
 simp only [U1, Sc]
 rw [h1]
 rcases ho with rfl | rfl <;> simp [-fo, rz, h2, h3, h4]
theorem Fn.byW {E : ak} {f : Nat} {first caps : List AV} {F : bS} (hF : E.fns f = some F) (hm : F.mode = .pure) {args : List AV} (hn : (first ++ args ++ caps).length = F.np) {v : AV}
  (h : ∃ K, ∀ k, K <= k -> ∀ bl tk, wp E (au E k) k false F.body (Ge F.res v) (pj 0 (first ++ args ++ caps)) { bl, tk, ro := bl.length, rt := tk.length }) : Fn E (.fn f first caps) args v := by
 obtain ⟨K, h⟩ := h
 exact ⟨K + 1, bG.byW hF hm hn h⟩
def Sb (s0 : St) (Post : AV -> St -> Prop) : Option (AV × St) -> Prop
 | some (v, s) => Post v { s with ro := s0.ro, rt := s0.rt }
 | none => False
@[simp] theorem Uh (s0 : St) (Post : AV -> St -> Prop) (v : AV) (s : St) : Sb s0 Post (some (v, s)) = Post v { s with ro := s0.ro, rt := s0.rt } := rfl
def QD (res : List yl) (m : FG) (s0 : St) (Post : AV -> St -> Prop) : AH := fun o e s' => (o = .normal \/ o = .ret) /\ ∃ vs, uU e s' res = some vs /\ Sb s0 Post (cD m s0.bl.length s0 s' (fo vs))
@[simp] theorem SY (res : List yl) (m : FG) (s0 : St) (Post : AV -> St -> Prop) (e : bF) (s : St) : QD res m s0 Post .normal e s = ∃ vs, uU e s res = some vs /\ Sb s0 Post (cD m s0.bl.length s0 s (fo vs)) := by simp [QD]
@[simp] theorem Uz (res : List yl) (m : FG) (s0 : St) (Post : AV -> St -> Prop) (e : bF) (s : St) : QD res m s0 Post .ret e s = ∃ vs, uU e s res = some vs /\ Sb s0 Post (cD m s0.bl.length s0 s (fo vs)) := by simp [QD]
theorem cI {E : ak} {f : Nat} {first caps : List AV} {F : bS} (hF : E.fns f = some F) {args : List AV} (hn : (first ++ args ++ caps).length = F.np) {k : Nat} {s : St} {Post : AV -> St -> Prop}
  (h : wp E (au E k) k false F.body (QD F.res F.mode s Post) (pj 0 (first ++ args ++ caps)) (jk F.mode s)) (hm : z8 F.mode = false := by rfl) : ∃ v s', au E (k + 1) none (.fn f first caps) args s = some (.ret v, false, s') /\ Post v s' := by
 obtain ⟨o, e', s1, h1, ho, vs, h2, h3⟩ := nu h
 have hst : gc F.mode none (first ++ args ++ caps) s = jk F.mode s := by unfold gc; rw [hm]; rfl
 have hlo : (jk F.mode s).bl.length = s.bl.length := by cases F.mode <;> rfl
 cases hf : cD F.mode s.bl.length s s1 (fo vs) with
 | none => rw [hf] at h3; exact h3.elim
 | some x =>
  obtain ⟨v', s2⟩ := x
  rw [hf] at h3
  refine ⟨v', { s2 with ro := s.ro, rt := s.rt }, ?_, h3⟩
  rcases ho with rfl | rfl <;> simp only [au, hF, wA, hn, ne_eq, not_true_eq_false, if_false, hst, hlo, h1, rz, hJ, h2, hf]
def sw (lo : Nat) (s : St) (v : AV) (r : AV) : Prop := if v.data then v.untok = r else (frz s lo 8 v).data = true /\ (frz s lo 8 v).untok = r
def QC (res : List yl) (lo : Nat) (r : AV) : AH := fun o e s => (o = .normal \/ o = .ret) /\ ∃ vs, uU e s res = some vs /\ sw lo s (fo vs) r
@[simp] theorem SX (res : List yl) (lo : Nat) (r : AV) (e : bF) (s : St) : QC res lo r .normal e s = ∃ vs, uU e s res = some vs /\ sw lo s (fo vs) r := by simp [QC]
@[simp] theorem Uy (res : List yl) (lo : Nat) (r : AV) (e : bF) (s : St) : QC res lo r .ret e s = ∃ vs, uU e s res = some vs /\ sw lo s (fo vs) r := by simp [QC]
theorem zt {E : ak} {f : Nat} {first caps : List AV} {F : bS} (hF : E.fns f = some F) {args : List AV} (hn : (first ++ args ++ caps).length = F.np) {k : Nat} {r : AV}
  (h : ∀ bl tk, wp E (au E k) k false F.body (QC F.res bl.length r) (pj 0 (first ++ args ++ caps)) { bl, tk, ro := bl.length, rt := tk.length }) (s : St) (hm : F.mode = .pure := by rfl) : au E (k + 1) none (.fn f first caps) args s = some (.ret r, false, s) := by
 obtain ⟨bl, tk, hst⟩ : ∃ bl tk, gc F.mode none (first ++ args ++ caps) s = { bl, tk, ro := bl.length, rt := tk.length } := by
  unfold gc
  split
  ·exact ⟨[], [], rfl⟩
  ·exact ⟨s.bl, s.tk, by rw [hm]; rfl⟩
 obtain ⟨o, e', s1, h1, ho, vs, h2, h3⟩ := nu (h bl tk)
 have hfin : cD .pure bl.length s s1 (fo vs) = some (r, s) := by
  unfold sw at h3
  simp only [cD]
  split at h3
  ·rename_i hd; rw [if_pos hd, h3]
  ·rename_i hd; rw [if_neg hd, if_pos h3.1, h3.2]
 rw [hm] at hst
 rcases ho with rfl | rfl <;> simp only [au, hF, wA, hn, ne_eq, not_true_eq_false, if_false, hm, hst, h1, rz, hJ, h2, hfin]
def Pj (res : List yl) (lo : Nat) (Q : AV -> Prop) : AH := fun o e s => (o = .normal \/ o = .ret) /\ ∃ vs, uU e s res = some vs /\ ∃ r, sw lo s (fo vs) r /\ Q r
@[simp] theorem SW (res : List yl) (lo : Nat) (Q : AV -> Prop) (e : bF) (s : St) : Pj res lo Q .normal e s = ∃ vs, uU e s res = some vs /\ ∃ r, sw lo s (fo vs) r /\ Q r := by simp [Pj]
@[simp] theorem Ux (res : List yl) (lo : Nat) (Q : AV -> Prop) (e : bF) (s : St) : Pj res lo Q .ret e s = ∃ vs, uU e s res = some vs /\ ∃ r, sw lo s (fo vs) r /\ Q r := by simp [Pj]
theorem bW {lo : Nat} {s : St} {v : AV} (h : v.data = true) : sw lo s v v.untok := by simp [sw, h]
theorem fK {E : ak} {f : Nat} {first caps : List AV} {F : bS} (hF : E.fns f = some F) {args : List AV} (hn : (first ++ args ++ caps).length = F.np) {k : Nat} {Q : AV -> Prop}
  (h : ∀ bl tk, wp E (au E k) k false F.body (Pj F.res bl.length Q) (pj 0 (first ++ args ++ caps)) { bl, tk, ro := bl.length, rt := tk.length }) (s : St) (hm : F.mode = .pure := by rfl) : ∃ r, Q r /\ au E (k + 1) none (.fn f first caps) args s = some (.ret r, false, s) := by
 obtain ⟨bl, tk, hst⟩ : ∃ bl tk, gc F.mode none (first ++ args ++ caps) s = { bl, tk, ro := bl.length, rt := tk.length } := by
  unfold gc
  split
  ·exact ⟨[], [], rfl⟩
  ·exact ⟨s.bl, s.tk, by rw [hm]; rfl⟩
 obtain ⟨o, e', s1, h1, ho, vs, h2, r, h3, hq⟩ := nu (h bl tk)
 have hfin : cD .pure bl.length s s1 (fo vs) = some (r, s) := by
  unfold sw at h3
  simp only [cD]
  split at h3
  ·rename_i hd; rw [if_pos hd, h3]
  ·rename_i hd; rw [if_neg hd, if_pos h3.1, h3.2]
 rw [hm] at hst
 refine ⟨r, hq, ?_⟩
 rcases ho with rfl | rfl <;> simp only [au, hF, wA, hn, ne_eq, not_true_eq_false, if_false, hm, hst, h1, rz, hJ, h2, hfin]
mutual
@[simp] theorem AV.untok_untok : ∀ x : AV, x.untok.untok = x.untok
 | .sl (.tok _) _ _ | .sl .any _ _ | .sl .nil _ _ | .sl .full _ _ | .raw _ _ _ | .bool _ | .int _ _ | .str _ | .nilp | .ptr _ _ | .rptr _ _ | .msl _ _ _ _ | .map _ | .yield _ | .nilf | .nilif | .junk => by simp [AV.untok]
 | .agg cs | .tup cs => by simp [AV.untok, AV.untokL_untokL cs]
 | .iface _ v => by simp [AV.untok, AV.untok_untok v]
 | .fn _ a c => by simp [AV.untok, AV.untokL_untokL a, AV.untokL_untokL c]
@[simp] theorem AV.untokL_untokL : ∀ xs : List AV, AV.untokL (AV.untokL xs) = AV.untokL xs
 | [] => rfl
 | x :: xs => by simp [AV.untokL, AV.untok_untok x, AV.untokL_untokL xs]
end
@[simp] theorem untokL_length : ∀ l : List AV, (AV.untokL l).length = l.length
 | [] => rfl
 | _ :: l => by simp [AV.untokL, untokL_length l]
def gb (z T : Nat) (ys : List AV) : AV := if ys = [] then .sl .nil z [] else .sl (.tok T) z ys
def cU (tk : List Nat) (ys : List AV) : List Nat := if ys = [] then tk else tk ++ [ys.length]
def ti (z : Nat) (ys : List AV) : AV := if ys = [] then .sl .nil z [] else .sl .any z ys
@[simp] theorem UJ (z T : Nat) : gb z T [] = .sl .nil z [] := rfl
@[simp] theorem Dh (tk : List Nat) : cU tk [] = tk := rfl
theorem Ci (z T : Nat) (ys : List AV) : (gb z T ys).untok = ti z ys := by
 unfold gb ti; split <;> rfl
theorem DY (z T : Nat) (ys : List AV) : (gb z T ys).data = AV.dataL ys := by
 unfold gb; split
 ·rename_i h; subst h; rfl
 ·rfl
theorem lG (z : Nat) (ys : List AV) : ∃ o, ti z ys = .sl o z ys /\ (o = .nil -> ys = []) := by
 unfold ti; split
 ·rename_i h; subst h; exact ⟨_, rfl, fun _ => rfl⟩
 ·exact ⟨_, rfl, fun h => by cases h⟩
theorem qG (z T : Nat) (ys : List AV) : ∃ o, gb z T ys = .sl o z ys /\ (o = .nil -> ys = []) /\ (AV.sl o z ys).untok = ti z ys := by
 unfold gb ti; split
 ·rename_i h; subst h; exact ⟨_, rfl, (fun _ => rfl), rfl⟩
 ·exact ⟨_, rfl, (fun h => by cases h), rfl⟩
theorem Qj {bl : List AB} {tk : List Nat} {ro rt z : Nat} {ys zs : List AV} {o : gu} (hl : ys.length + zs.length <= aO) (hr : rt <= tk.length) :
  oc { bl, tk := cU tk ys, ro, rt } z (gb z tk.length ys) (.sl o z zs) = some (gb z tk.length (ys ++ AV.untokL zs), { bl, tk := cU tk (ys ++ AV.untokL zs), ro, rt }) := by
 cases zs with
 | nil => by_cases hy : ys = [] <;> simp [gb, cU, oc, oZ, AV.untokL, hy] <;> simpa using hl
 | cons a zs =>
  simp only [List.length_cons] at hl
  by_cases hy : ys = []
  ·subst hy
   simp only [List.length_nil, Nat.zero_add] at hl
   simp [gb, cU, oc, oZ, AV.untokL, hl]
  ·simp [gb, cU, oc, oZ, AV.untokL, hy, hl, hr]
theorem pQ {bl : List AB} {tk : List Nat} {ro rt z : Nat} {ys : List AV} {y : AV} {o : gu} (hl : ys.length < aO) (hr : rt <= tk.length) :
  oc { bl, tk := cU tk ys, ro, rt } z (gb z tk.length ys) (.sl o z [y]) = some (gb z tk.length (ys ++ [y.untok]), { bl, tk := cU tk (ys ++ [y.untok]), ro, rt }) :=
 Qj (zs := [y]) hl hr
theorem gT.untokL : ∀ {ts : List Tm} {ys : List AV}, gT ts ys -> gT ts (AV.untokL ys)
 | [], _, h => by simp only [gT] at h; subst h; simp [gT, AV.untokL]
 | t :: ts, _, h => by
  simp only [gT] at h
  obtain ⟨y, r, rfl, h1, h2⟩ := h
  simp only [AV.untokL, gT]
  exact ⟨_, _, rfl, h1.untok, gT.untokL h2⟩
theorem Sl.end {ts : List Tm} {ys : List AV} (h : gT ts ys) (hm : ys.length <= maxLen) : Sl ts (ti 3 ys) := by
 obtain ⟨o, h1, h2⟩ := lG 3 ys
 exact ⟨o, ys, h1, ⟨hm, h2⟩, h⟩
open Go
def G7 (i : Nat) (L : Cr) (Post : Bool -> St -> Prop) : AH := fun o _ s => s.bl[i]? = some (.loop { L with st := .busy }) /\ (match o with
 | .normal => Post true (s.setb i (.loop { L with st := .ready, pend := none }))
 | .exit id => Post false (s.setb i (.loop { L with st := .done, pend := some (.exit id) }))
 | .ret => Post false (s.setb i (.loop { L with st := .done, pend := some .ret }))
 | .pan _ => False)
section
variable {i : Nat} {L : Cr} {Post : Bool -> St -> Prop} {e : bF} {s : St}
@[simp] theorem RO : G7 i L Post .normal e s = (s.bl[i]? = some (.loop { L with st := .busy }) /\ Post true (s.setb i (.loop { L with st := .ready, pend := none }))) := rfl
@[simp] theorem S9 (id : Nat) : G7 i L Post (.exit id) e s = (s.bl[i]? = some (.loop { L with st := .busy }) /\ Post false (s.setb i (.loop { L with st := .done, pend := some (.exit id) }))) := rfl
@[simp] theorem TS : G7 i L Post .ret e s = (s.bl[i]? = some (.loop { L with st := .busy }) /\ Post false (s.setb i (.loop { L with st := .done, pend := some .ret }))) := rfl
end
def NU (E : ak) (call : en) (n : Nat) (i : Nat) (L : Cr) (Post : Bool -> St -> Prop) : AH := fun o e s => o = .normal /\ s.bl[i]? = some (.loop L) /\ wp E call n true L.body (G7 i L Post) e (s.setb i (.loop { L with st := .busy }))
@[simp] theorem RP (E : ak) (call : en) (n : Nat) (i : Nat) (L : Cr) (Post : Bool -> St -> Prop) (e : bF) (s : St) : NU E call n i L Post .normal e s = (s.bl[i]? = some (.loop L) /\ wp E call n true L.body (G7 i L Post) e (s.setb i (.loop { L with st := .busy }))) := by simp [NU]
theorem BY {E : ak} {k i : Nat} {args : List AV} {s : St} {L : Cr} {Post : Bool -> St -> Prop} (hL : s.bl[i]? = some (.loop L)) (hst : L.st = .ready) (hn : args.length = L.ps.length) (hro : s.ro <= i)
  (h : wp E (au E k) k true L.assign (NU E (au E k) k i L Post) (nn L.ps args L.env) s) : ∃ b s', au E (k + 1) none (.yield i) args s = some (.ret (.bool b), false, s') /\ Post b s' := by
 obtain ⟨o, e1, s1, h1, rfl, h2, h3⟩ := nu h
 obtain ⟨o2, e2, s2, h4, h5, h6⟩ := nu h3
 have hc : bj E (au E k) k L.assign { env := nn L.ps args L.env, defers := [], rcv := none, recd := false, rnd := true } s = some (.normal, IV true e1, s1) := h1
 have hb : bj E (au E k) k L.body (IV true e1) (s1.setb i (.loop { L with st := .busy })) = some (o2, IV true e2, s2) := h4
 cases o2 with
 | normal => exact ⟨true, _, by simp only [au, Option.isSome_none, Bool.false_eq_true, if_false, D3, hL, hn, hro, and_self, if_true, hc, h2, hst, hb, h5], h6⟩
 | exit id => exact ⟨false, _, by simp only [au, Option.isSome_none, Bool.false_eq_true, if_false, D3, hL, hn, hro, and_self, if_true, hc, h2, hst, hb, h5], h6⟩
 | ret => exact ⟨false, _, by simp only [au, Option.isSome_none, Bool.false_eq_true, if_false, D3, hL, hn, hro, and_self, if_true, hc, h2, hst, hb, h5], h6⟩
 | pan v => exact h6.elim
def UK (i : Nat) (e : bF) (Q : AH) (s : St) : Prop := ∃ L, s.bl[i]? = some (.loop L) /\ ((L.st = .ready /\ L.pend = none /\ Q .normal e (s.setb i (.loop { L with st := .exhausted }))) \/ (∃ id, L.st = .done /\ L.pend = some (.exit id) /\ Q (.exit id) e (s.setb i (.loop { L with st := .exhausted }))) \/ (L.st = .done /\ L.pend = some .ret /\ Q .ret e (s.setb i (.loop { L with st := .exhausted }))))
theorem HL {E : ak} {call : en} {n : Nat} {r : Bool} {g : bN} {ps : List Nat} {a b : ae} {Q : AH} {e : bF} {s : St}
  (h : ∃ v rd s', call none (g.ev E e) [.yield s.bl.length] (s.push (.loop { st := .ready, pend := none, env := e, ps, assign := a, body := b })) = some (.ret v, rd, s') /\ UK s.bl.length e Q s') : wp E call n r (.rangeFn g ps a b) Q e s := by
 obtain ⟨v, rd, s', h1, L, h2, h3⟩ := h
 simp only [wp, bj, h1, h2]
 rcases h3 with ⟨h4, h5, q⟩ | ⟨id, h4, h5, q⟩ | ⟨h4, h5, q⟩
 ·rw [if_neg (by rw [h4]; exact fun h => by cases h)]; simp only [h5]; exact ⟨_, _, rfl, by simpa only [h5] using q⟩
 ·rw [if_neg (by rw [h4]; exact fun h => by cases h)]; simp only [h5]; exact ⟨_, _, rfl, by simpa only [h5] using q⟩
 ·rw [if_neg (by rw [h4]; exact fun h => by cases h)]; simp only [h5]; exact ⟨_, _, rfl, by simpa only [h5] using q⟩
open Go Go.RowKit
mutual
def Ig : Tm -> List Tm
 | .mk k s kids => .mk k s kids :: bI kids
def bI : List Tm -> List Tm
 | [] => []
 | t :: ts => Ig t ++ bI ts
end
theorem A3 (t : Tm) : Ig t = t :: bI t.kids := by cases t; simp only [Ig, Tm.kids]
theorem el (t : Tm) (ts : List Tm) : bI (t :: ts) = t :: (bI t.kids ++ bI ts) := by simp only [bI, A3, List.cons_append]
theorem iW : ∀ a b : List Tm, bI (a ++ b) = bI a ++ bI b
 | [], b => by simp [bI]
 | t :: a, b => by simp [bI, iW a b]
mutual
theorem Mj : ∀ t : Tm, (Ig t).length = nT t
 | .mk k s kids => by simp only [Ig, nT, List.length_cons, kh kids]; omega
theorem kh : ∀ ts : List Tm, (bI ts).length = aV ts
 | [] => rfl
 | t :: ts => by simp only [bI, aV, List.length_append, Mj t, kh ts]
end
def mF {α : Type} (y : α -> Tm -> Option α) : α -> List Tm -> Option α
 | a, [] => some a
 | a, t :: ts => match y a t with
  | some b => mF y b ts
  | none => none
theorem CZ {α : Type} (y : α -> Tm -> Option α) : ∀ (a : α) (l r : List Tm), mF y a (l ++ r) = match mF y a l with | some b => mF y b r | none => none
 | a, [], r => rfl
 | a, t :: l, r => by
  simp only [List.cons_append, mF]
  cases y a t with
  | none => rfl
  | some b => exact CZ y b l r
open Go Go.RowKit
mutual
def kW (d : Nat) (left n : Int) : List Tm -> Int
 | [] => n
 | t :: ts => if n <= left then (if 150 < d then left + 1 else kW d left (n + (1 + sH (d + 1) (left - n - 1) t)) ts) else n
def sH (d : Nat) (left : Int) : Tm -> Int
 | .mk _ _ kids => kW d left 0 kids
end
theorem PK (d : Nat) (left : Int) (t : Tm) : sH d left t = kW d left 0 t.kids := by cases t; simp only [sH, Tm.kids]
mutual
theorem tu (d : Nat) (left n : Int) : ∀ ts : List Tm, 0 <= n -> n <= kW d left n ts /\ kW d left n ts <= max n (left + 1)
 | [], h => by simp only [kW]; omega
 | t :: ts, h => by
  simp only [kW]
  split
  ·split
   ·omega
   ·have h1 := De (d + 1) (left - n - 1) t
    have h2 := tu d left (n + (1 + sH (d + 1) (left - n - 1) t)) ts (by omega)
    omega
  ·omega
theorem De (d : Nat) (left : Int) : ∀ t : Tm, 0 <= sH d left t /\ sH d left t <= max 0 (left + 1)
 | .mk _ _ kids => by
  have := tu d left 0 kids (by omega)
  simp only [sH]; omega
end
mutual
theorem xB (d : Nat) (left n : Int) : ∀ ts : List Tm, 0 <= n -> kW d left n ts <= left -> kW d left n ts = n + aV ts
 | [], h, h' => by simp only [kW, aV]; omega
 | t :: ts, h, h' => by
  simp only [kW] at h' ⊢
  split at h'
  ·rename_i h1
   rw [if_pos h1]
   split at h'
   ·omega
   ·rename_i h2
    rw [if_neg h2]
    have h3 := De (d + 1) (left - n - 1) t
    have h4 := tu d left (n + (1 + sH (d + 1) (left - n - 1) t)) ts (by omega)
    have h5 := xB d left (n + (1 + sH (d + 1) (left - n - 1) t)) ts (by omega) h'
    have h6 := Kn (d + 1) (left - n - 1) t (by omega)
    simp only [aV]
    omega
  ·omega
theorem Kn (d : Nat) (left : Int) : ∀ t : Tm, sH d left t <= left -> 1 + sH d left t = nT t
 | .mk _ _ kids, h => by
  simp only [sH] at h ⊢
  have := xB d left 0 kids (by omega) h
  simp only [nT]; omega
end
mutual
def sJ : List Tm -> Bool
 | [] => true
 | t :: ts => Hg t && sJ ts
def Hg : Tm -> Bool
 | .mk _ s kids => decide (s.length <= 600) && sJ kids
end
theorem PY (t : Tm) : Hg t = (decide (t.text.length <= 600) && sJ t.kids) := by cases t; rw [Hg]; rfl
mutual
theorem Cm : ∀ ts : List Tm, sJ ts = true -> ∀ t ∈ bI ts, t.text.length <= 600
 | [], _, t, h => by simp [bI] at h
 | u :: ts, hs, t, h => by
  simp only [sJ, Bool.and_eq_true] at hs
  simp only [bI, List.mem_append] at h
  rcases h with h | h
  ·exact NQ u hs.1 t h
  ·exact Cm ts hs.2 t h
theorem NQ : ∀ u : Tm, Hg u = true -> ∀ t ∈ Ig u, t.text.length <= 600
 | .mk k s kids, hs, t, h => by
  simp only [Hg, Bool.and_eq_true, decide_eq_true_eq] at hs
  simp only [Ig, List.mem_cons] at h
  rcases h with rfl | h
  ·exact hs.1
  ·exact Cm kids hs.2 t h
end
def Ak (ts : List Tm) (m : Int) : Bool := decide (kW 0 m 0 ts <= m) && sJ ts
theorem Kx {ts : List Tm} {m : Int} (h : Ak ts m = true) : (aV ts : Int) <= m := by
 simp only [Ak, Bool.and_eq_true, decide_eq_true_eq] at h
 have := xB 0 m 0 ts (by omega) h.1
 omega
theorem Ky {ts : List Tm} {m : Int} (h : Ak ts m = true) : ∀ t ∈ bI ts, t.text.length <= 600 := by
 simp only [Ak, Bool.and_eq_true] at h
 exact Cm ts h.2
open Go
def sb (o : gu) (z T : Nat) (ys : List AV) : AV := if ys = [] then .sl o z [] else .sl (.tok T) z ys
def JN (o : gu) (z : Nat) (ys : List AV) : AV := if ys = [] then .sl o z [] else .sl .any z ys
@[simp] theorem Dg (o : gu) (z T : Nat) : sb o z T [] = .sl o z [] := rfl
theorem Ch {o : gu} (ho : o = .nil \/ o = .full) (z T : Nat) (ys : List AV) : (sb o z T ys).untok = JN o z ys := by
 rcases ho with rfl | rfl <;> unfold sb JN <;> split <;> rfl
theorem PP (o : gu) (z T : Nat) (ys : List AV) : (sb o z T ys).data = AV.dataL ys := by
 unfold sb; split
 ·rename_i h; subst h; rfl
 ·rfl
theorem Gb {o : gu} (ho : o = .nil \/ o = .full) (z : Nat) (ys : List AV) : (JN o z ys).untok = JN o z ys := by
 rcases ho with rfl | rfl <;> unfold JN <;> split <;> rfl
theorem Ok (o : gu) (z : Nat) (ys : List AV) : ∃ o', JN o z ys = .sl o' z ys /\ (o' = .nil -> ys = []) := by
 unfold JN; split
 ·rename_i h; subst h; exact ⟨_, rfl, fun _ => rfl⟩
 ·exact ⟨_, rfl, fun h => by cases h⟩
theorem AZ (o : gu) (z T : Nat) (ys : List AV) : ∃ o', sb o z T ys = .sl o' z ys /\ (o' = .nil -> ys = []) := by
 unfold sb; split
 ·rename_i h; subst h; exact ⟨_, rfl, (fun _ => rfl)⟩
 ·exact ⟨_, rfl, (fun h => by cases h)⟩
theorem vQ {o0 : gu} (h0 : o0 = .nil \/ o0 = .full) {bl : List AB} {tk : List Nat} {ro rt z : Nat} {ys zs : List AV} {o : gu} (hl : ys.length + zs.length <= aO) (hr : rt <= tk.length) :
  oc { bl, tk := cU tk ys, ro, rt } z (sb o0 z tk.length ys) (.sl o z zs) = some (sb o0 z tk.length (ys ++ AV.untokL zs), { bl, tk := cU tk (ys ++ AV.untokL zs), ro, rt }) := by
 cases zs with
 | nil => by_cases hy : ys = [] <;> simp [sb, cU, oc, oZ, AV.untokL, hy] <;> simpa using hl
 | cons a zs =>
  simp only [List.length_cons] at hl
  by_cases hy : ys = []
  ·subst hy
   simp only [List.length_nil, Nat.zero_add] at hl
   rcases h0 with rfl | rfl <;> simp [sb, cU, oc, oZ, AV.untokL, hl]
  ·simp [sb, cU, oc, oZ, AV.untokL, hy, hl, hr]
theorem vP {o0 : gu} (h0 : o0 = .nil \/ o0 = .full) {bl : List AB} {tk : List Nat} {ro rt z : Nat} {ys : List AV} {y : AV} {o : gu} (hl : ys.length < aO) (hr : rt <= tk.length) :
  oc { bl, tk := cU tk ys, ro, rt } z (sb o0 z tk.length ys) (.sl o z [y]) = some (sb o0 z tk.length (ys ++ [y.untok]), { bl, tk := cU tk (ys ++ [y.untok]), ro, rt }) :=
 vQ h0 (zs := [y]) hl hr
end Ab
namespace Ab.C
open Go Ab Go.RowKit
set_option maxRecDepth 10000
def jF (t : Tm) : List UInt8 := if t.kind = 5 then 115 :: 46 :: t.text else if t.kind = 6 then 116 :: 46 :: t.text else if t.kind = 7 then 101 :: 46 :: t.text else []
def vH (t : Tm) : Bool := decide (5 <= t.kind) && decide (t.kind <= 7)
theorem Dd (t : Tm) : (jF t == []) = !vH t := by
 unfold jF vH
 split
 ·rename_i h; simp [h]
 ·split
  ·rename_i h; simp [h]
  ·split
   ·rename_i h; simp [h]
   ·simp; omega
section
variable {E : ak} (hE : E.fns = af.fn ag)
include hE
theorem BE {t : Tm} {x : AV} (h : Rt t x) : bG 1 E (.fn hG [] []) [x] (.bool (vH t)) := by
 obtain ⟨v, rfl, hv⟩ := h.open
 obtain ⟨o, ks, rfl, hlk⟩ := hv.len
 refine bG.byW (vk hE) rfl rfl (K := 0) fun k hk bl tk => ?_
 unfold vH
 by_cases a1 : 5 <= t.kind <;> by_cases a2 : t.kind <= 7 <;> simp [mC, vf, aa, ac, a1, a2]
theorem CW {t : Tm} {x : AV} (h : Rt t x) : bG 1 E (.fn ff [] []) [x] (.bool (vH t)) := by
 obtain ⟨v, rfl, hv⟩ := h.open
 obtain ⟨o, ks, rfl, hlk⟩ := hv.len
 refine bG.byW (ut hE) rfl rfl (K := 0) fun k hk bl tk => ?_
 unfold vH
 by_cases a1 : 5 <= t.kind <;> by_cases a2 : t.kind <= 7 <;> simp [iZ, m6, aa, ac, a1, a2]
theorem On {t : Tm} {x : AV} (h : Rt t x) (hs : t.text.length <= 1048576) : bG 2 E (.fn sa [] []) [x] (.str (jF t)) := by
 have h1 := BE hE h
 obtain ⟨v, rfl, hv⟩ := h.open
 obtain ⟨o, ks, rfl, hlk⟩ := hv.len
 have hmm : aO = 1073741824 := rfl
 refine bG.byW (LR hE) rfl rfl (K := 1) fun k hk bl tk => ?_
 have h2 := h1 k hk
 have hc := CI hE [] []
 have hl : 2 + t.text.length <= 1073741824 := by omega
 have hl1 : (1 : Nat) + 1 <= aO := by omega
 have hl2 : (1 : Nat) + 1 + t.text.length <= aO := by omega
 unfold jF
 by_cases a5 : t.kind = 5
 ·have hv : vH t = true := by simp [vH, a5]
  rw [hv] at h2
  rw [a5] at h2
  simp [pd, rR, aa, ac, h2, a5, et, Lj, hl, hl1, hl2, show IntKind.wrap .i64 0 = 0 from by decide, aO]
 ·by_cases a6 : t.kind = 6
  ·have hv : vH t = true := by simp [vH, a6]
   rw [hv] at h2
   rw [a6] at h2
   simp [pd, rR, aa, ac, h2, a6, et, Lj, hl, hl1, hl2, show IntKind.wrap .i64 1 = 1 from by decide, aO]
  ·by_cases a7 : t.kind = 7
   ·have hv : vH t = true := by simp [vH, a7]
    rw [hv] at h2
    rw [a7] at h2
    simp [pd, rR, aa, ac, h2, a7, et, Lj, hl, hl1, hl2, show IntKind.wrap .i64 2 = 2 from by decide, aO]
   ·have hv : vH t = false := by simp [vH]; omega
    rw [hv] at h2
    simp [pd, rR, aa, ac, h2, a5, a6, a7]
theorem zC {t : Tm} {x : AV} (h : Rt t x) (hs : t.text.length <= 1048576) : bG 2 E (.fn eE [] []) [x] (.str (jF t)) := by
 obtain ⟨v, rfl, hv⟩ := h.open
 obtain ⟨o, ks, rfl, hlk⟩ := hv.len
 have hmm : aO = 1073741824 := rfl
 refine bG.byW (zM hE) rfl rfl (K := 1) fun k hk bl tk => ?_
 have hl2 : (2 : Nat) + t.text.length <= aO := by omega
 unfold jF
 by_cases a5 : t.kind = 5
 ·simp [ez, gB, aa, ac, a5, hl2]
 have b5 : (t.kind == 5) = false := by simpa using a5
 by_cases a6 : t.kind = 6
 ·simp [ez, gB, aa, ac, a6, hl2]
 have b6 : (t.kind == 6) = false := by simpa using a6
 by_cases a7 : t.kind = 7
 ·simp [ez, gB, aa, ac, a7, hl2]
 have b7 : (t.kind == 7) = false := by simpa using a7
 simp [ez, gB, aa, ac, a5, a6, a7, b5, b6, b7]
theorem Nf (l : List (List UInt8)) (n : List UInt8) (o : gu) (hm : l.length <= 1048576) : bG (l.length + 3) E (.fn fp [] []) [.sl o 1 (l.map .str), .str n] (.bool (l.contains n)) :=
 bG.byW (A6 hE) rfl rfl (K := l.length + 2) fun k hk bl tk => by
  obtain ⟨R, hR⟩ : ∃ R, R = l.contains n := ⟨_, rfl⟩
  rw [<- hR]
  simp [nQ, sT]
  refine aA l.length (fun i e st => R = (l.drop i).contains n /\ e = [(0, .sl o 1 (l.map .str)), (1, .str n), (5, .int .i64 i)] /\ st = { bl, tk, ro := bl.length, rt := tk.length }) (by omega) (by simp [hR]) ?_ ?_
  ·rintro i e st hi ⟨hq, rfl, rfl⟩
   have e1 : et (.int .i64 i) l.length = some i := av hi
   have hwr : IntKind.wrap .i64 ((i : Int) + 1) = i + 1 := ar (by omega) (by omega)
   rw [List.drop_eq_getElem_cons hi, List.contains_cons] at hq
   have g : (l.map AV.str)[i]? = some (.str l[i]) := by simp [hi]
   by_cases hh : l[i] = n
   ·have : R = true := by rw [hq, hh]; simp
    simp [j0, hi, e1, hh, this]
   ·have b : (l[i] == n) = false := by simpa using hh
    have b' : (n == l[i]) = false := by rw [Bool.eq_false_iff]; intro h; exact hh (eq_of_beq h).symm
    rw [b', Bool.false_or] at hq
    simp [j0, hi, e1, b, hwr]
    simpa using hq
  ·rintro e st ⟨hq, rfl, rfl⟩
   rw [List.drop_length] at hq
   simp [j0, hq]
omit hE in
theorem wr {ts : List Tm} {t : Tm} (h : t ∈ ts) : (∀ u ∈ bI t.kids, u ∈ bI ts) /\ t ∈ bI ts := by
 obtain ⟨a, b, rfl⟩ := List.append_of_mem h
 rw [iW, el]
 exact ⟨fun u hu => by simp [hu], by simp⟩
def m4 (out : List (List UInt8)) (t : Tm) : List (List UInt8) := if jF t == [] || out.contains (jF t) then out else out ++ [jF t]
def Fg (ts : List Tm) (out : List (List UInt8)) : List (List UInt8) := (bI ts).foldl m4 out
omit hE in
theorem Iu (out : List (List UInt8)) (t : Tm) : (m4 out t).length <= out.length + 1 := by unfold m4; split <;> simp
omit hE in
theorem Gu : ∀ (l : List Tm) (out : List (List UInt8)), (l.foldl m4 out).length <= out.length + l.length
 | [], out => by simp
 | t :: l, out => by have := Iu out t; have := Gu l (m4 out t); simp only [List.foldl_cons, List.length_cons]; omega
omit hE in
theorem OC (ts : List Tm) (out : List (List UInt8)) : (Fg ts out).length <= out.length + aV ts := by
 have := Gu (bI ts) out; rw [kh] at this; exact this
def gu.calm (o : gu) : Prop := o = .nil \/ o = .full \/ o = .any
theorem Lz : ∀ (n : Nat) {ts : List Tm} {v : AV} {out : List (List UInt8)} {o : gu}, aV ts < n -> out.length + aV ts <= 1048576 -> (∀ t ∈ bI ts, t.text.length <= 1048576) -> Sl ts v -> (o = .nil -> out = []) ->
  ∀ k, 3 * aV ts + out.length + 10 <= k -> ∀ s, ∃ r, (∃ o', gu.calm o' /\ r = .sl o' 1 ((Fg ts out).map .str) /\ (o' = .nil -> Fg ts out = [])) /\ au E k none (.fn fQ [] []) [v, .sl o 1 (out.map .str)] s = some (.ret r, false, s)
 | 0, _, _, _, _, h, _, _, _, _ => by omega
 | n + 1, ts, v, out, o, hn, hm, hW, hv, ho => fun k hk s => by
  obtain ⟨o1, xs, rfl, ⟨hm1, _⟩, h1⟩ := hv
  have hl1 := h1.length
  have hmx : maxLen = 9223372036854775807 := rfl
  have hmm : aO = 1073741824 := rfl
  obtain ⟨k, rfl⟩ : ∃ j, k = j + 1 := ⟨k - 1, by omega⟩
  refine fK (yF hE) rfl (fun bl tk => ?_) s
  have hlt := aC ts
  simp [mh, qX]
  refine aA xs.length (fun i e st => ∃ o2 h, (i = 0 \/ gu.calm o2) /\ (o2 = .nil -> Fg (ts.take i) out = []) /\ e = [(0, .sl o1 3 xs), (1, .sl o2 1 ((Fg (ts.take i) out).map .str)), (5, .int .i64 i)] /\ st = { bl, tk := tk ++ h, ro := bl.length, rt := tk.length }) (by omega) ⟨o, [], .inl rfl, by simpa [Fg, bI] using ho, by simp [Fg, bI], by simp⟩ ?_ ?_
  ·rintro i e st hi ⟨o2, h, hc2, hn2, rfl, rfl⟩
   obtain ⟨t, ht⟩ : ∃ t, ts[i]? = some t := ⟨_, List.getElem?_eq_getElem (by omega)⟩
   obtain ⟨x, hx, hrt⟩ := h1.get ht
   have hmem := List.mem_of_getElem? ht
   obtain ⟨hk1, hk2⟩ := wr hmem
   have hnm := zC hE hrt (hW t hk2) k (by omega)
   obtain ⟨vx, rfl, hvx⟩ := hrt.open
   obtain ⟨hi1, hx1⟩ := List.getElem?_eq_some_iff.1 hx
   have e1 : et (.int .i64 i) xs.length = some i := av hi1
   have hwr : IntKind.wrap .i64 ((i : Int) + 1) = i + 1 := ar (by omega) (by omega)
   have hle := f8 hmem
   rw [g7] at hle
   have hln : aV (ts.take i) + aV (ts.drop i) = aV ts := by rw [<- kp, List.take_append_drop]
   have hdr : nT t <= aV (ts.drop i) := by
    obtain ⟨hi2, ht1⟩ := List.getElem?_eq_some_iff.1 ht
    rw [List.drop_eq_getElem_cons hi2, ht1]; simp only [aV]; omega
   rw [g7] at hdr
   have hll := OC (ts.take i) out
   obtain ⟨L, hL⟩ : ∃ L, L = Fg (ts.take i) out := ⟨_, rfl⟩
   rw [<- hL] at hll hn2
   have hstep : Fg (ts.take (i + 1)) out = Fg t.kids (m4 L t) := by
    rw [List.take_add_one, ht, hL]
    simp only [Fg, iW, Option.toList_some, el, bI, A3, List.append_nil, List.foldl_append, List.foldl_cons, List.foldl_nil]
   have hal := Iu L t
   have hh := Nf hE L (jF t) o2 (by omega) k (by omega)
   obtain ⟨ow, kw, rfl⟩ : ∃ o xs, vx = .sl o 3 xs := by obtain ⟨o, xs, h, _⟩ := hvx; exact ⟨o, xs, h⟩
   rw [<- hL, hstep]
   have ih := fun (o3 : gu) (h3 : o3 = .nil -> m4 L t = []) => Lz n (out := m4 L t) (o := o3) (by omega) (by omega) (fun u hu => hW u (hk1 u hu)) hvx h3 k (by omega)
   cases hb : (jF t == [] || L.contains (jF t)) with
   | true =>
    have ha : m4 L t = L := by unfold m4; rw [hb]; rfl
    rw [ha] at ih ⊢
    obtain ⟨r, ⟨o4, hc4, rfl, hn4⟩, hcall⟩ := ih o2 hn2 { bl, tk := tk ++ h, ro := bl.length, rt := tk.length }
    by_cases hz : jF t = []
    ·rw [hz] at hnm
     simp [eZ, hi, e1, hx1, hwr, hnm, hcall]
     first | exact ⟨hc4, hn4⟩ | exact hn4 | exact ⟨hc4, hn4, _, rfl⟩ | exact ⟨_, hc4, hn4, _, rfl⟩
    ·have hz' : (jF t == []) = false := by simpa using hz
     rw [hz', Bool.false_or] at hb
     rw [hb] at hh
     have hz2 : (jF t).isEmpty = false := by cases h5 : jF t with | nil => exact absurd h5 hz | cons _ _ => rfl
     simp [eZ, hi, e1, hx1, hwr, hnm, hz2, hh, hcall]
     first | exact ⟨hc4, hn4⟩ | exact hn4 | exact ⟨hc4, hn4, _, rfl⟩ | exact ⟨_, hc4, hn4, _, rfl⟩
   | false =>
    have ha : m4 L t = L ++ [jF t] := by unfold m4; rw [hb]; rfl
    simp only [Bool.or_eq_false_iff] at hb
    have hz2 : (jF t).isEmpty = false := by cases h5 : jF t with | nil => rw [h5] at hb; simp at hb | cons _ _ => rfl
    have hh' := hh
    rw [hb.2] at hh'
    have hu : AV.untokL (L.map AV.str) = L.map AV.str := by
     clear hL hll hn2 hstep hal hh hh' ih hb ha
     induction L with
     | nil => rfl
     | cons a l ih => simp only [List.map_cons, AV.untokL, ih, AV.untok]
    have a1 : oc { bl, tk := tk ++ h, ro := bl.length, rt := tk.length } 1 (.sl .full 1 []) (.sl o2 1 (L.map .str)) = some (sb .full 1 (tk ++ h).length (L.map .str), { bl, tk := cU (tk ++ h) (L.map .str), ro := bl.length, rt := tk.length }) := by
     have := vQ (o0 := .full) (.inr rfl) (bl := bl) (tk := tk ++ h) (ro := bl.length) (rt := tk.length) (z := 1) (ys := []) (zs := L.map .str) (o := o2) (by simp; omega) (by simp)
     rw [hu] at this
     simpa using this
    have a2 : oc { bl, tk := cU (tk ++ h) (L.map .str), ro := bl.length, rt := tk.length } 1 (sb .full 1 (tk ++ h).length (L.map .str)) (.sl .full 1 [.str (jF t)]) = some (.sl (.tok (tk ++ h).length) 1 ((L ++ [jF t]).map .str), { bl, tk := cU (tk ++ h) ((L ++ [jF t]).map .str), ro := bl.length, rt := tk.length }) := by
     have := vP (o0 := .full) (.inr rfl) (bl := bl) (tk := tk ++ h) (ro := bl.length) (rt := tk.length) (z := 1) (ys := L.map .str) (y := .str (jF t)) (o := .full) (by simp; omega) (by simp)
     rw [this]; simp [sb, AV.untok]
    obtain ⟨h', hh2⟩ : ∃ h', cU (tk ++ h) ((L ++ [jF t]).map .str) = tk ++ h' := ⟨h ++ [(L ++ [jF t]).length], by simp [cU]⟩
    rw [hh2] at a2
    rw [ha] at ih ⊢
    obtain ⟨r, ⟨o4, hc4, rfl, hn4⟩, hcall⟩ := ih (.tok (tk ++ h).length) (fun h => by cases h) { bl, tk := tk ++ h', ro := bl.length, rt := tk.length }
    simp [eZ, hi, e1, hx1, hwr, hnm, hz2, hh', aq, bE, az]
    simp only [List.length_append, List.map_append, List.map_cons, List.map_nil] at a1 a2 hcall
    simp [a1, a2, hcall, hi, e1, hx1, hwr]
    first | exact ⟨hc4, hn4⟩ | exact hn4 | exact ⟨hc4, hn4, _, rfl⟩ | exact ⟨_, hc4, hn4, _, rfl⟩
  ·rintro e st ⟨o2, h, hc2, hn2, rfl, rfl⟩
   rw [List.take_of_length_le (by omega)] at hn2 ⊢
   have hd : AV.dataL ((Fg ts out).map AV.str) = true := by
    generalize Fg ts out = L
    induction L with
    | nil => rfl
    | cons a l ih => simp only [List.map_cons, AV.dataL, ih, AV.data, Bool.and_self]
   simp [eZ]
   refine ⟨_, bW (by simpa [AV.data] using hd), ?_⟩
   cases o2 <;> simp only [AV.untok] <;> first
    | exact ⟨_, .inl rfl, rfl, hn2⟩
    | exact ⟨_, .inr (.inl rfl), rfl, fun h => by cases h⟩
    | exact ⟨_, .inr (.inr rfl), rfl, fun h => by cases h⟩
theorem CT {ts : List Tm} {v : AV} (hm : aV ts <= 1048576) (hW : ∀ t ∈ bI ts, t.text.length <= 1048576) (hv : Sl ts v) :
  ∀ k, 3 * aV ts + 12 <= k -> ∀ s, ∃ r, (∃ o', gu.calm o' /\ r = .sl o' 1 ((Fg ts []).map .str) /\ (o' = .nil -> Fg ts [] = [])) /\ au E k none (.fn cV [] []) [v] s = some (.ret r, false, s) := fun k hk s => by
 obtain ⟨k, rfl⟩ : ∃ j, k = j + 1 := ⟨k - 1, by omega⟩
 refine fK (nN hE) rfl (fun bl tk => ?_) s
 obtain ⟨r, ⟨o4, hc4, rfl, hn4⟩, hcall⟩ := Lz hE _ (Nat.lt_succ_self _) (out := []) (o := .nil) (by simpa using hm) hW hv (fun _ => rfl) k (by simp; omega) { bl, tk, ro := bl.length, rt := tk.length }
 simp only [List.map_nil] at hcall
 have hd : AV.dataL ((Fg ts []).map AV.str) = true := by
  generalize Fg ts [] = L
  induction L with
  | nil => rfl
  | cons a l ih => simp only [List.map_cons, AV.dataL, ih, AV.data, Bool.and_self]
 simp [fC, nK, hcall]
 refine ⟨_, bW (by simpa [AV.data] using hd), ?_⟩
 rcases hc4 with rfl | rfl | rfl <;> simp only [AV.untok]
 ·exact ⟨_, .inl rfl, rfl, hn4⟩
 ·exact ⟨_, .inr (.inl rfl), rfl, fun h => by cases h⟩
 ·exact ⟨_, .inr (.inr rfl), rfl, fun h => by cases h⟩
end
open Go Ab Go.RowKit
set_option maxRecDepth 10000
def nl (b : List (List UInt8)) (ts : List Tm) : Nat := (ts.filter fun t => t.kind == 7 && !b.contains (jF t)).length
def tw (n : List UInt8) (ts : List Tm) : Nat := ((bI ts).filter fun t => jF t == n).length
mutual
def Ui (b : List (List UInt8)) : Tm -> Bool
 | .mk _ _ kids => decide (nl b kids <= 1) && PF b kids
def PF (b : List (List UInt8)) : List Tm -> Bool
 | [] => true
 | t :: ts => Ui b t && PF b ts
end
theorem Q1 (b : List (List UInt8)) (t : Tm) : Ui b t = (decide (nl b t.kids <= 1) && PF b t.kids) := by cases t; rw [Ui]; rfl
def xA (b : List (List UInt8)) (ts : List Tm) : Bool := decide (nl b ts <= 1) && PF b ts
def O4 (b : List (List UInt8)) (ts : List Tm) (v : List UInt8) : Bool := (v.getD 0 0).toNat != 115 && !b.contains v && decide (1 < tw v ts)
def xG (b : List (List UInt8)) (ts : List Tm) : Bool := !((Fg ts []).any (O4 b ts)) && xA b ts
theorem Q9 (b : List (List UInt8)) (ts : List Tm) : nl b ts <= ts.length := List.length_filter_le _ _
theorem OF (n : List UInt8) (ts : List Tm) : tw n ts <= aV ts := by have := List.length_filter_le (fun t => jF t == n) (bI ts); rw [kh] at this; exact this
theorem AR {ts : List Tm} {i : Nat} {t : Tm} (h : ts[i]? = some t) : aV (ts.take i) + (1 + aV t.kids) + aV (ts.drop (i + 1)) = aV ts := by
 obtain ⟨hi, h1⟩ := List.getElem?_eq_some_iff.1 h
 have : ts = ts.take i ++ (t :: ts.drop (i + 1)) := by rw [<- h1, <- List.drop_eq_getElem_cons hi, List.take_append_drop]
 have h2 := congrArg aV this
 rw [kp] at h2
 simp only [aV, g7] at h2
 omega
theorem take_succ {α : Type} {ts : List α} {i : Nat} {t : α} (h : ts[i]? = some t) : ts.take (i + 1) = ts.take i ++ [t] := by rw [List.take_add_one, h]; rfl
section
variable {E : ak} (hE : E.fns = af.fn ag)
include hE
theorem Sj {ts : List Tm} {v : AV} (b : List (List UInt8)) (ob : gu) (hm : aV ts <= 1048576) (hb : b.length <= 1048576) (hW : ∀ t ∈ bI ts, t.text.length <= 1048576) (hv : Sl ts v) : bG (ts.length + b.length + 6) E (.fn j5 [] []) [v, .sl ob 1 (b.map .str)] (.int .i64 (nl b ts)) := by
 obtain ⟨o1, xs, rfl, ⟨hm1, _⟩, h1⟩ := hv
 have hl1 := h1.length
 have hlt := aC ts
 refine bG.byW (zP hE) rfl rfl (K := ts.length + b.length + 5) fun k hk bl tk => ?_
 simp [mU, rM]
 refine aA xs.length (fun i e st => e = [(0, .sl o1 3 xs), (1, .sl ob 1 (b.map .str)), (5, .int .i64 (nl b (ts.take i))), (6, .int .i64 i)] /\ st = { bl, tk, ro := bl.length, rt := tk.length }) (by omega) ⟨rfl, rfl⟩ ?_ ?_
 ·rintro i e st hi ⟨rfl, rfl⟩
  obtain ⟨t, ht⟩ : ∃ t, ts[i]? = some t := ⟨_, List.getElem?_eq_getElem (by omega)⟩
  obtain ⟨x, hx, hrt⟩ := h1.get ht
  have hmem := List.mem_of_getElem? ht
  obtain ⟨hk1, hk2⟩ := wr hmem
  have hnm := zC hE hrt (hW t hk2) k (by omega)
  have hh := Nf hE b (jF t) ob hb k (by omega)
  obtain ⟨vx, rfl, hvx⟩ := hrt.open
  obtain ⟨hi1, hx1⟩ := List.getElem?_eq_some_iff.1 hx
  have e1 : et (.int .i64 i) xs.length = some i := av hi1
  have hwr : IntKind.wrap .i64 ((i : Int) + 1) = i + 1 := ar (by omega) (by omega)
  have hle := Q9 b (ts.take i)
  have hle2 : (ts.take i).length <= i := by simp; omega
  have hwc : IntKind.wrap .i64 ((nl b (ts.take i) : Int) + 1) = nl b (ts.take i) + 1 := ar (by omega) (by omega)
  have hst : nl b (ts.take (i + 1)) = nl b (ts.take i) + (if t.kind == 7 && !b.contains (jF t) then 1 else 0) := by
   rw [take_succ ht]; simp only [nl, List.filter_append, List.length_append, List.filter_cons, List.filter_nil]; split <;> rfl
  rw [hst]
  by_cases c7 : t.kind = 7
  ·have b7 : (t.kind == 7) = true := by simpa using c7
   rw [b7, Bool.true_and]
   cases cb : b.contains (jF t) with
   | true => rw [cb] at hh; simp [fL, hi, e1, hx1, hwr, hnm, hh, b7]
   | false => rw [cb] at hh; simp [fL, hi, e1, hx1, hwr, hnm, hh, b7, hwc]
  ·have b7 : (t.kind == 7) = false := by simpa using c7
   simp [fL, hi, e1, hx1, hwr, b7]
 ·rintro e st ⟨rfl, rfl⟩
  rw [List.take_of_length_le (by omega)]
  simp [fL]
theorem IQ (nm : List UInt8) : ∀ (n : Nat) {ts : List Tm} {v : AV}, aV ts < n -> aV ts <= 1048576 -> (∀ t ∈ bI ts, t.text.length <= 1048576) -> Sl ts v -> bG (2 * aV ts + 6) E (.fn fg [] []) [v, .str nm] (.int .i64 (tw nm ts))
 | 0, _, _, h, _, _, _ => by omega
 | n + 1, ts, v, hn, hm, hW, hv => by
  obtain ⟨o1, xs, rfl, ⟨hm1, _⟩, h1⟩ := hv
  have hl1 := h1.length
  have hlt := aC ts
  refine bG.byW (xh hE) rfl rfl (K := 2 * aV ts + 5) fun k hk bl tk => ?_
  simp [lv, pU]
  refine aA xs.length (fun i e st => e = [(0, .sl o1 3 xs), (1, .str nm), (5, .int .i64 (tw nm (ts.take i))), (6, .int .i64 i)] /\ st = { bl, tk, ro := bl.length, rt := tk.length }) (by omega) ⟨rfl, rfl⟩ ?_ ?_
  ·rintro i e st hi ⟨rfl, rfl⟩
   obtain ⟨t, ht⟩ : ∃ t, ts[i]? = some t := ⟨_, List.getElem?_eq_getElem (by omega)⟩
   obtain ⟨x, hx, hrt⟩ := h1.get ht
   have hmem := List.mem_of_getElem? ht
   obtain ⟨hk1, hk2⟩ := wr hmem
   have hnm := zC hE hrt (hW t hk2) k (by omega)
   obtain ⟨vx, rfl, hvx⟩ := hrt.open
   obtain ⟨hi1, hx1⟩ := List.getElem?_eq_some_iff.1 hx
   have e1 : et (.int .i64 i) xs.length = some i := av hi1
   have hwr : IntKind.wrap .i64 ((i : Int) + 1) = i + 1 := ar (by omega) (by omega)
   have hsp := AR ht
   have ih := IQ nm n (by omega) (by omega) (fun u hu => hW u (hk1 u hu)) hvx k (by omega)
   obtain ⟨ow, kw, rfl⟩ : ∃ o xs, vx = .sl o 3 xs := by obtain ⟨o, xs, h, _⟩ := hvx; exact ⟨o, xs, h⟩
   have hle := OF nm (ts.take i)
   have hle2 := OF nm t.kids
   have hst : tw nm (ts.take (i + 1)) = tw nm (ts.take i) + ((if jF t == nm then 1 else 0) + tw nm t.kids) := by
    rw [take_succ ht]; simp only [tw, iW, el, bI, List.append_nil, A3, List.filter_append, List.length_append, List.filter_cons]; split <;> simp; omega
   have hwc : IntKind.wrap .i64 ((tw nm (ts.take i) : Int) + 1) = tw nm (ts.take i) + 1 := ar (by omega) (by omega)
   have hwd : IntKind.wrap .i64 ((tw nm (ts.take i) : Int) + 1 + tw nm t.kids) = tw nm (ts.take i) + (1 + tw nm t.kids) := by rw [ar (by omega) (by omega)]; omega
   have hwe : IntKind.wrap .i64 ((tw nm (ts.take i) : Int) + tw nm t.kids) = tw nm (ts.take i) + tw nm t.kids := ar (by omega) (by omega)
   rw [hst]
   cases c : jF t == nm with
   | true => simp [gW, hi, e1, hx1, hwr, hnm, c, ih, hwc, hwd]
   | false => simp [gW, hi, e1, hx1, hwr, hnm, c, ih, hwe]
  ·rintro e st ⟨rfl, rfl⟩
   rw [List.take_of_length_le (by omega)]
   simp [gW]
theorem Ly (b : List (List UInt8)) (ob : gu) (hb : b.length <= 1048576) : ∀ (n : Nat) {ts : List Tm} {v : AV}, aV ts < n -> aV ts <= 1048576 -> (∀ t ∈ bI ts, t.text.length <= 1048576) -> Sl ts v -> bG (2 * aV ts + b.length + 10) E (.fn fS [] []) [v, .sl ob 1 (b.map .str)] (.bool (xA b ts))
 | 0, _, _, h, _, _, _ => by omega
 | n + 1, ts, v, hn, hm, hW, hv => by
  have hop := Sj hE b ob hm hb hW hv
  obtain ⟨o1, xs, rfl, ⟨hm1, _⟩, h1⟩ := hv
  have hl1 := h1.length
  have hlt := aC ts
  refine bG.byW (yI hE) rfl rfl (K := 2 * aV ts + b.length + 9) fun k hk bl tk => ?_
  have hop := hop k (by omega)
  unfold xA
  by_cases c1 : nl b ts <= 1
  ·have c1' : ¬ (1 : Int) < nl b ts := by omega
   simp only [c1, decide_true, Bool.true_and]
   obtain ⟨R, hR⟩ : ∃ R, R = PF b ts := ⟨_, rfl⟩
   rw [<- hR]
   simp [jn, mq, hop, c1']
   refine aA xs.length (fun i e st => R = PF b (ts.drop i) /\ e = [(0, .sl o1 3 xs), (1, .sl ob 1 (b.map .str)), (5, .int .i64 i)] /\ st = { bl, tk, ro := bl.length, rt := tk.length }) (by omega) ⟨by simp [hR], rfl, rfl⟩ ?_ ?_
   ·rintro i e st hi ⟨hq, rfl, rfl⟩
    obtain ⟨t, ht⟩ : ∃ t, ts[i]? = some t := ⟨_, List.getElem?_eq_getElem (by omega)⟩
    obtain ⟨x, hx, hrt⟩ := h1.get ht
    have hmem := List.mem_of_getElem? ht
    obtain ⟨hk1, hk2⟩ := wr hmem
    obtain ⟨vx, rfl, hvx⟩ := hrt.open
    obtain ⟨hi1, hx1⟩ := List.getElem?_eq_some_iff.1 hx
    have e1 : et (.int .i64 i) xs.length = some i := av hi1
    have hwr : IntKind.wrap .i64 ((i : Int) + 1) = i + 1 := ar (by omega) (by omega)
    have hsp := AR ht
    have ih := Ly b ob hb n (by omega) (by omega) (fun u hu => hW u (hk1 u hu)) hvx k (by omega)
    obtain ⟨ow, kw, rfl⟩ : ∃ o xs, vx = .sl o 3 xs := by obtain ⟨o, xs, h, _⟩ := hvx; exact ⟨o, xs, h⟩
    obtain ⟨hi2, ht1⟩ := List.getElem?_eq_some_iff.1 ht
    rw [List.drop_eq_getElem_cons hi2, ht1] at hq
    simp only [PF, Q1] at hq
    rw [show (decide (nl b t.kids <= 1) && PF b t.kids) = xA b t.kids from rfl] at hq
    cases c : xA b t.kids with
    | true => rw [c] at ih hq; rw [Bool.true_and] at hq; simp [iE, hi, e1, hx1, hwr, ih]; exact hq
    | false => rw [c] at ih hq; rw [Bool.false_and] at hq; simp [iE, hi, e1, hx1, hwr, ih, hq]
   ·rintro e st ⟨hq, rfl, rfl⟩
    rw [List.drop_of_length_le (by omega)] at hq
    simp [iE, hq, PF]
  ·have c1' : (1 : Int) < nl b ts := by omega
   simp [jn, mq, hop, c1', c1]
omit hE in
theorem OX {P : List UInt8 -> Prop} {t : Tm} (h : vH t = true -> P (jF t)) {out : List (List UInt8)} (ho : ∀ n ∈ out, P n) : ∀ n ∈ m4 out t, P n := by
 intro n hn
 unfold m4 at hn
 split at hn
 ·exact ho n hn
 ·rename_i hc
  rcases List.mem_append.1 hn with hn | hn
  ·exact ho n hn
  ·simp at hn; subst hn
   apply h
   simp only [Bool.or_eq_true, not_or, Bool.not_eq_true] at hc
   have := Dd t
   rw [hc.1] at this
   simpa using this.symm
omit hE in
theorem OD {P : List UInt8 -> Prop} : ∀ {l : List Tm}, (∀ t ∈ l, vH t = true -> P (jF t)) -> ∀ {out : List (List UInt8)}, (∀ n ∈ out, P n) -> ∀ n ∈ l.foldl m4 out, P n
 | [], _, out, ho, n, hn => ho n hn
 | t :: l, h, out, ho, n, hn => OD (fun u hu => h u (List.mem_cons_of_mem _ hu)) (OX (h t (List.mem_cons_self ..)) ho) n hn
theorem zD {ts : List Tm} {v : AV} (b : List (List UInt8)) (ob : gu) (hm : aV ts <= 1048576) (hb : b.length <= 1048576) (hW : ∀ t ∈ bI ts, t.text.length <= 1048576) (hv : Sl ts v) :
  bG (3 * aV ts + b.length + 20) E (.fn dW [] []) [v, .sl ob 1 (b.map .str)] (.bool (xG b ts)) := by
 have hli := Ly hE b ob hb _ (Nat.lt_succ_self _) hm hW hv
 have hva := CT hE hm hW hv
 have hoc := fun nm => IQ hE nm _ (Nat.lt_succ_self _) hm hW hv
 obtain ⟨o1, xs, rfl, _⟩ := hv
 refine bG.byW (rZ hE) rfl rfl (K := 3 * aV ts + b.length + 19) fun k hk bl tk => ?_
 obtain ⟨r, ⟨o2, hc2, rfl, hn2⟩, hcv⟩ := hva k (by omega) { bl, tk, ro := bl.length, rt := tk.length }
 have hli := hli k (by omega)
 have hlen := OC ts []
 simp only [List.length_nil, Nat.zero_add] at hlen
 have hne : ∀ n ∈ Fg ts [], n ≠ [] := OD (P := fun n => n ≠ []) (fun t _ hv => by have := Dd t; rw [hv] at this; simpa using this) (by simp)
 obtain ⟨V, hV⟩ : ∃ V, V = Fg ts [] := ⟨_, rfl⟩
 unfold xG
 rw [<- hV] at hlen hne hcv ⊢
 obtain ⟨R, hR⟩ : ∃ R, R = (!(V.any (O4 b ts)) && xA b ts) := ⟨_, rfl⟩
 rw [<- hR]
 simp [gw, lg, hcv]
 refine aA V.length (fun i e st => R = (!((V.drop i).any (O4 b ts)) && xA b ts) /\ e = [(0, .sl o1 3 xs), (1, .sl ob 1 (b.map .str)), (5, .sl o2 1 (V.map .str)), (6, .int .i64 i)] /\ st = { bl, tk, ro := bl.length, rt := tk.length }) (by omega) ⟨by simp [hR], rfl, rfl⟩ ?_ ?_
 ·rintro i e st hi ⟨hq, rfl, rfl⟩
  have e1 : et (.int .i64 i) V.length = some i := av hi
  have hwr : IntKind.wrap .i64 ((i : Int) + 1) = i + 1 := ar (by omega) (by omega)
  rw [List.drop_eq_getElem_cons hi, List.any_cons] at hq
  have hh := Nf hE b V[i] ob hb k (by omega)
  have ho := hoc V[i] k (by omega)
  have hne1 := hne V[i] (List.getElem_mem hi)
  have hp : 0 < V[i].length := by cases h : V[i] with | nil => exact absurd h hne1 | cons _ _ => simp
  have e0 : et (.int .i64 0) V[i].length = some 0 := av hp
  unfold O4 at hq
  have h115 : (((V[i].getD 0 0).toNat : Int) != 115) = ((V[i].getD 0 0).toNat != 115) := by rw [Bool.eq_iff_iff]; simp; omega
  have hgd : V[i].getD 0 0 = V[i][0] := by rw [List.getD_eq_getElem?_getD, List.getElem?_eq_getElem hp]; rfl
  rw [hgd] at h115 hq
  cases c1 : (V[i][0].toNat != 115) with
  | false =>
   rw [c1] at h115 hq
   simp only [Bool.false_and, Bool.false_or] at hq
   simp [bH, hi, e1, e0, hp, h115, hwr]
   exact hq
  | true =>
   rw [c1] at h115 hq
   cases c2 : b.contains V[i] with
   | true =>
    rw [c2] at hh hq
    simp only [Bool.true_and, Bool.not_true, Bool.false_and, Bool.false_or] at hq
    simp [bH, hi, e1, e0, hp, h115, hwr, hh]
    exact hq
   | false =>
    rw [c2] at hh hq
    simp only [Bool.true_and, Bool.not_false] at hq
    by_cases c3 : 1 < tw V[i] ts
    ·have c3' : (1 : Int) < tw V[i] ts := by omega
     simp only [c3, decide_true, Bool.true_or, Bool.not_true, Bool.false_and] at hq
     simp [bH, hi, e1, e0, hp, h115, hwr, hh, ho, c3', hq]
    ·have c3' : ¬ (1 : Int) < tw V[i] ts := by omega
     simp only [c3, decide_false, Bool.false_or] at hq
     simp [bH, hi, e1, e0, hp, h115, hwr, hh, ho, c3']
     exact hq
 ·rintro e st ⟨hq, rfl, rfl⟩
  rw [List.drop_length] at hq
  simp only [List.any_nil, Bool.not_false, Bool.true_and] at hq
  simp [bH, hq, hli]
end
open Go Ab Go.RowKit
set_option maxRecDepth 10000
mutual
def UT (b : List (List UInt8)) : Tm -> List (List UInt8) -> Option (List (List UInt8))
 | .mk _ _ kids, met => Kz b kids 0 met
def Kz (b : List (List UInt8)) : List Tm -> Nat -> List (List UInt8) -> Option (List (List UInt8))
 | [], n, met => if n <= 1 then some met else none
 | t :: ts, n, met =>
  if (t.kind == 6 || t.kind == 7) && !b.contains (jF t) then
   (if met.contains (jF t) then none else match UT b t (met ++ [jF t]) with
    | some m => Kz b ts (if t.kind == 7 then n + 1 else n) m
    | none => none)
  else match UT b t met with
   | some m => Kz b ts n m
   | none => none
end
theorem NS (b : List (List UInt8)) (t : Tm) (met : List (List UInt8)) : UT b t met = Kz b t.kids 0 met := by cases t; rw [UT]; rfl
def oL (b : List (List UInt8)) (ts : List Tm) : Bool := (Kz b ts 0 []).isSome
def KQ (l : List (List UInt8)) : List (AV × AV) := l.map fun n => (.str n, .bool true)
theorem Gf (n : List UInt8) : ∀ l : List (List UInt8), CR (.str n) (KQ l) = some (if l.contains n then some (.bool true) else none)
 | [] => rfl
 | m :: l => by
  simp only [KQ, List.map_cons, CR, wq, List.contains_cons]
  by_cases h : n = m
  ·subst h; simp
  ·have h1 : (n == m) = false := by simpa using h
   have := Gf n l
   simp only [KQ] at this
   simp only [h1, Bool.false_or, this]
theorem Ku (n : List UInt8) : ∀ l : List (List UInt8), l.contains n = false -> Hf (.str n) (.bool true) (KQ l) = some (KQ (l ++ [n]))
 | [], _ => rfl
 | m :: l, h => by
  simp only [List.contains_cons, Bool.or_eq_false_iff] at h
  have := Ku n l h.2
  simp only [KQ] at this
  simp only [KQ, List.map_cons, Hf, wq, h.1, this, List.cons_append]
theorem lY {α : Type} (P : List α) (x y : α) (g : List α) : (P ++ x :: g).set P.length y = P ++ y :: g := by
 rw [List.set_append_right _ _ (by omega)]; simp
section
variable {E : ak} (hE : E.fns = af.fn ag)
include hE
theorem yd (b : List (List UInt8)) (P : List AB) (ib : Nat) (hib : P[ib]? = some (.amap (KQ b))) (tk : List Nat) (ro rt : Nat) (hro : ro <= P.length) : ∀ (n : Nat) {ts : List Tm} {v : AV} (met : List (List UInt8)) (g : List AB) (k : Nat),
  aV ts < n -> aV ts <= 1048576 -> (∀ t ∈ bI ts, t.text.length <= 1048576) -> Sl ts v -> 2 * aV ts + 8 <= k ->
  ∃ rv s', au E k none (.fn jd [] []) [v, .map (some ib), .map (some P.length)] { bl := P ++ .amap (KQ met) :: g, tk, ro, rt } = some (.ret rv, false, s') /\
   ∃ r met' g', rv = .bool r /\ s' = { bl := P ++ .amap (KQ met') :: g', tk, ro, rt } /\ (match Kz b ts 0 met with | some m => r = true /\ met' = m | none => r = false)
 | 0, _, _, _, _, _, h, _, _, _, _ => by omega
 | n + 1, ts, v, met, g, k, hn, hm, hW, hv, hk => by
  obtain ⟨o1, xs, rfl, ⟨hm1, _⟩, h1⟩ := hv
  have hl1 := h1.length
  have hlt := aC ts
  have hib' : ∀ r, (P ++ r)[ib]? = some (.amap (KQ b)) := fun r => by
   obtain ⟨hi, _⟩ := List.getElem?_eq_some_iff.1 hib
   rw [List.getElem?_append_left hi]; exact hib
  obtain ⟨k, rfl⟩ : ∃ j, k = j + 1 := ⟨k - 1, by omega⟩
  refine cI (Cc hE) rfl ?_
  obtain ⟨R, hR⟩ : ∃ R, R = Kz b ts 0 met := ⟨_, rfl⟩
  simp only [<- hR]
  simp [oP, tX, jk]
  refine aA xs.length (fun i e st => ∃ op met' g', R = Kz b (ts.drop i) op met' /\ op <= i /\ e = [(1, .map (some ib)), (2, .map (some P.length)), (7, .int .i64 op), (11, .sl o1 3 xs), (12, .int .i64 xs.length), (13, .int .i64 i)] /\ st = { bl := P ++ .amap (KQ met') :: g', tk, ro, rt }) (by omega) ⟨0, met, g, by simp [hR], Nat.le_refl _, rfl, rfl⟩ ?_ ?_
  ·rintro i e st hi ⟨op, met', g', hq, hop, rfl, rfl⟩
   obtain ⟨t, ht⟩ : ∃ t, ts[i]? = some t := ⟨_, List.getElem?_eq_getElem (by omega)⟩
   obtain ⟨x, hx, hrt⟩ := h1.get ht
   have hmem := List.mem_of_getElem? ht
   obtain ⟨hk1, hk2⟩ := wr hmem
   have hnm := On hE hrt (hW t hk2) k (by omega)
   obtain ⟨vx, rfl, hvx⟩ := hrt.open
   obtain ⟨hi1, hx1⟩ := List.getElem?_eq_some_iff.1 hx
   obtain ⟨hi2, ht1⟩ := List.getElem?_eq_some_iff.1 ht
   have e1 : et (.int .i64 i) xs.length = some i := av hi1
   have hwr : IntKind.wrap .i64 ((i : Int) + 1) = i + 1 := ar (by omega) (by omega)
   have hwo : IntKind.wrap .i64 ((op : Int) + 1) = ((op + 1 : Nat) : Int) := by rw [ar (by omega) (by omega)]; omega
   have hsp := AR ht
   obtain ⟨ow, kw, rfl⟩ : ∃ o xs, vx = .sl o 3 xs := by obtain ⟨o, xs, h, _⟩ := hvx; exact ⟨o, xs, h⟩
   have ih := fun met2 g2 => yd b P ib hib tk ro rt hro n met2 g2 k (by omega) (by omega) (fun u hu => hW u (hk1 u hu)) hvx (by omega)
   rw [List.drop_eq_getElem_cons hi2, ht1, Kz, NS, NS] at hq
   have hfb := Gf (jF t) b
   have hfm := Gf (jF t) met'
   have hro2 : ro <= P.length + (g'.length + 1) := by omega
   have hg0 : ∀ c : AB, (P ++ AB.amap (KQ met') :: (g' ++ [c]))[P.length + (g'.length + 1)]? = some c := fun c => by
    rw [aa]; simp
   have hgs : ∀ c d : AB, (P ++ AB.amap (KQ met') :: (g' ++ [c])).set (P.length + (g'.length + 1)) d = P ++ AB.amap (KQ met') :: (g' ++ [d]) := fun c d => by
    rw [aj]; simp
   have hg1 : ∀ (m : List (List UInt8)) (c : AB), (P ++ AB.amap (KQ m) :: (g' ++ [c]))[P.length + (g'.length + 1)]? = some c := fun m c => by
    rw [aa]; simp
   by_cases h6 : t.kind = 6
   ·have b6 : (t.kind == 6) = true := by simpa using h6
    have b7 : (t.kind == 7) = false := by rw [h6]; rfl
    simp only [b6, b7, Bool.or_true, Bool.true_or, Bool.or_false, Bool.false_or, Bool.true_and, Bool.false_eq_true, if_false, if_true] at hq
    cases cb : b.contains (jF t) with
    | true =>
     rw [cb] at hq hfb
     simp only [Bool.not_true, Bool.false_eq_true, if_false, if_true] at hq hfb
     obtain ⟨rv, s', hcall, r, met2, g2, rfl, rfl, hres⟩ := ih met' (g' ++ [.cells [.int .i64 t.kind, .str t.text, .sl ow 3 kw]])
     cases hs : Kz b t.kids 0 met' with
     | none =>
      rw [hs] at hq hres
      simp only at hres hq
      subst hres
      simp [aL, hi, e1, hx1, hwr, hnm, hro2, hg0, hgs, hg1, b6, b7, St.map?, hib', mH, lY, hfb, hcall, hq, cD]
      first | done | exact ⟨_, rfl⟩
     | some m =>
      rw [hs] at hq hres
      simp only at hres hq
      obtain ⟨rfl, rfl⟩ := hres
      simp [aL, hi, e1, hx1, hwr, hnm, hro2, hg0, hgs, hg1, b6, b7, St.map?, hib', mH, lY, hfb, hcall, cD]
      exact ⟨_, met2, hq, by omega, by omega, rfl⟩
    | false =>
     rw [cb] at hq hfb
     simp only [Bool.not_false, Bool.false_eq_true, if_false, if_true] at hq hfb
     cases cm : met'.contains (jF t) with
     | true =>
      rw [cm] at hq hfm
      simp only [if_true] at hq hfm
      simp [aL, hi, e1, hx1, hwr, hnm, hro2, hg0, hgs, hg1, b6, b7, St.map?, hib', mH, lY, hfb, hfm, hq, cD]
      first | done | exact ⟨_, rfl⟩
     | false =>
      have hset := Ku (jF t) met' cm
      rw [cm] at hq hfm
      simp only [Bool.false_eq_true, if_false] at hq hfm
      obtain ⟨rv, s', hcall, r, met2, g2, rfl, rfl, hres⟩ := ih (met' ++ [jF t]) (g' ++ [.cells [.int .i64 t.kind, .str t.text, .sl ow 3 kw]])
      cases hs : Kz b t.kids 0 (met' ++ [jF t]) with
      | none =>
       rw [hs] at hq hres
       simp only at hres hq
       subst hres
       simp [aL, hi, e1, hx1, hwr, hnm, hro2, hg0, hgs, hg1, b6, b7, St.map?, hib', mH, lY, hfb, hfm, hset, hro, hwo, hcall, hq, cD]
       first | done | exact ⟨_, rfl⟩
      | some m =>
       rw [hs] at hq hres
       simp only at hres hq
       obtain ⟨rfl, rfl⟩ := hres
       simp [aL, hi, e1, hx1, hwr, hnm, hro2, hg0, hgs, hg1, b6, b7, St.map?, hib', mH, lY, hfb, hfm, hset, hro, hwo, hcall, cD]
       exact ⟨_, met2, hq, by omega, by omega, rfl⟩
   by_cases h7 : t.kind = 7
   ·have b6 : (t.kind == 6) = false := by simpa using h6
    have b7 : (t.kind == 7) = true := by simpa using h7
    simp only [b6, b7, Bool.or_true, Bool.true_or, Bool.or_false, Bool.false_or, Bool.true_and, Bool.false_eq_true, if_false, if_true] at hq
    cases cb : b.contains (jF t) with
    | true =>
     rw [cb] at hq hfb
     simp only [Bool.not_true, Bool.false_eq_true, if_false, if_true] at hq hfb
     obtain ⟨rv, s', hcall, r, met2, g2, rfl, rfl, hres⟩ := ih met' (g' ++ [.cells [.int .i64 t.kind, .str t.text, .sl ow 3 kw]])
     cases hs : Kz b t.kids 0 met' with
     | none =>
      rw [hs] at hq hres
      simp only at hres hq
      subst hres
      simp [aL, hi, e1, hx1, hwr, hnm, hro2, hg0, hgs, hg1, b6, b7, St.map?, hib', mH, lY, hfb, hcall, hq, cD]
      first | done | exact ⟨_, rfl⟩
     | some m =>
      rw [hs] at hq hres
      simp only at hres hq
      obtain ⟨rfl, rfl⟩ := hres
      simp [aL, hi, e1, hx1, hwr, hnm, hro2, hg0, hgs, hg1, b6, b7, St.map?, hib', mH, lY, hfb, hcall, cD]
      exact ⟨_, met2, hq, by omega, by omega, rfl⟩
    | false =>
     rw [cb] at hq hfb
     simp only [Bool.not_false, Bool.false_eq_true, if_false, if_true] at hq hfb
     cases cm : met'.contains (jF t) with
     | true =>
      rw [cm] at hq hfm
      simp only [if_true] at hq hfm
      simp [aL, hi, e1, hx1, hwr, hnm, hro2, hg0, hgs, hg1, b6, b7, St.map?, hib', mH, lY, hfb, hfm, hq, cD]
      first | done | exact ⟨_, rfl⟩
     | false =>
      have hset := Ku (jF t) met' cm
      rw [cm] at hq hfm
      simp only [Bool.false_eq_true, if_false] at hq hfm
      obtain ⟨rv, s', hcall, r, met2, g2, rfl, rfl, hres⟩ := ih (met' ++ [jF t]) (g' ++ [.cells [.int .i64 t.kind, .str t.text, .sl ow 3 kw]])
      cases hs : Kz b t.kids 0 (met' ++ [jF t]) with
      | none =>
       rw [hs] at hq hres
       simp only at hres hq
       subst hres
       simp [aL, hi, e1, hx1, hwr, hnm, hro2, hg0, hgs, hg1, b6, b7, St.map?, hib', mH, lY, hfb, hfm, hset, hro, hwo, hcall, hq, cD]
       first | done | exact ⟨_, rfl⟩
      | some m =>
       rw [hs] at hq hres
       simp only at hres hq
       obtain ⟨rfl, rfl⟩ := hres
       simp [aL, hi, e1, hx1, hwr, hnm, hro2, hg0, hgs, hg1, b6, b7, St.map?, hib', mH, lY, hfb, hfm, hset, hro, hwo, hcall, cD]
       exact ⟨_, met2, hq, by omega, by omega, rfl⟩
   ·have b6 : (t.kind == 6) = false := by simpa using h6
    have b7 : (t.kind == 7) = false := by simpa using h7
    simp only [b6, b7, Bool.or_self, Bool.false_and, Bool.false_eq_true, if_false] at hq
    obtain ⟨rv, s', hcall, r, met2, g2, rfl, rfl, hres⟩ := ih met' (g' ++ [.cells [.int .i64 t.kind, .str t.text, .sl ow 3 kw]])
    cases hs : Kz b t.kids 0 met' with
    | none =>
     rw [hs] at hq hres
     simp only at hres hq
     subst hres
     simp [aL, hi, e1, hx1, hwr, hnm, hro2, hg0, hgs, hg1, b6, b7, St.map?, hib', mH, lY, b6, hcall, hq, cD]
     first | done | exact ⟨_, rfl⟩
    | some m =>
     rw [hs] at hq hres
     simp only at hres hq
     obtain ⟨rfl, rfl⟩ := hres
     simp [aL, hi, e1, hx1, hwr, hnm, hro2, hg0, hgs, hg1, b6, b7, St.map?, hib', mH, lY, b6, hcall, cD]
     exact ⟨_, met2, hq, by omega, by omega, rfl⟩
  ·rintro e st ⟨op, met', g', hq, hop, rfl, rfl⟩
   rw [List.drop_of_length_le (by omega), Kz] at hq
   by_cases h1 : op <= 1
   ·have h1' : (op : Int) <= 1 := by omega
    rw [if_pos h1] at hq
    simp [aL, h1', hq, cD]
   ·have h1' : ¬ (op : Int) <= 1 := by omega
    rw [if_neg h1] at hq
    simp [aL, h1', hq, cD]
    exact ⟨_, rfl⟩
theorem DN {ts : List Tm} {v : AV} (ob : gu) (hm : aV ts <= 1048576) (hW : ∀ t ∈ bI ts, t.text.length <= 1048576) (hv : Sl ts v) : bG (2 * aV ts + 10) E (.fn jw [] []) [v, .sl ob 1 []] (.bool (oL [] ts)) := by
 have hv0 := hv
 obtain ⟨o1, xs, rfl, _⟩ := hv
 refine bG.byW (yw hE) rfl rfl (K := 2 * aV ts + 9) fun k hk bl tk => ?_
 obtain ⟨rv, s', hcall, r, met', g', rfl, rfl, hres⟩ := yd hE [] (bl ++ [.amap []]) bl.length (by simp [KQ]) tk bl.length tk.length (by simp) _ [] [] k (Nat.lt_succ_self _) hm hW hv0 (by omega)
 simp [KQ] at hcall
 have hr : r = oL [] ts := by
  unfold oL
  cases h : Kz [] ts 0 [] with
  | none => rw [h] at hres; simpa using hres
  | some m => rw [h] at hres; simpa using hres.1
 rw [<- hr]
 simp [l8, qP]
 refine aA 0 (fun i e s => i = 0 /\ e = [(0, .sl o1 3 xs), (5, .map (some bl.length)), (9, .sl ob 1 []), (10, .int .i64 0), (11, .int .i64 0)] /\ s = { bl := bl ++ [.amap []], tk, ro := bl.length, rt := tk.length }) (by omega) (by simp) (fun i e st hi _ => by omega) ?_
 rintro e st ⟨_, rfl, rfl⟩
 simp [qn, hcall]
end
end Ab.C
namespace Ab
open Go
def MY (n : Nat) : Int := if (97 <= n /\ n <= 122) \/ (65 <= n /\ n <= 90) then 5 else if 48 <= n /\ n <= 57 then 6 else if n = 45 \/ n = 95 then 4 else if n = 32 \/ n = 9 \/ n = 10 \/ n = 13 then 8 else 0
def PA (n : Nat) (c : Int) : Bool := (IntKind.wrap .u8 ((BitVec.ofInt 8 (MY n) &&& BitVec.ofInt 8 c).toNat : Nat)) != 0
def f6 (s : List UInt8) (c : Int) : Bool := s.all fun b => PA b.toNat c
def DS (s : List UInt8) (aO : Int) : Bool := s != [] && decide ((s.length : Int) <= aO) && PA (s.getD 0 0).toNat 1 && f6 s 4
def dc (s : List UInt8) : List UInt8 × Bool := match s with
 | 45 :: r => (r, true)
 | s => (s, false)
def PL (s : List UInt8) : Bool :=
 let d := (dc s).1
 !(d == [] || decide (500 < d.length) || !f6 d 2) && ((d.getD 0 0).toNat != 48 || (d.length == 1 && !(dc s).2))
def sI (s : List UInt8) (p : Int -> Bool) (want : Bool) : Nat -> Nat -> Int
 | 0, _ => -1
 | n + 1, pos => if pos < s.length then (if p (Go.Utf8.decode ⟨s.toArray⟩ pos).1 == want then (pos : Int) else sI s p want n (pos + (Go.Utf8.decode ⟨s.toArray⟩ pos).2)) else -1
def qF (c : Int) : Bool := decide (c < 32) || decide (126 < c)
def ME (s : List UInt8) : Bool := s != [] && decide (s.length <= 60) && !decide (0 <= sI s qF true (s.length + 1) 0)
def iw (t : Tm) : Bool :=
 if t.kind = 4 then t.text == [] else if t.kind = 8 then DS t.text 40 else if 0 < t.kids.length then false
 else if t.kind = 1 then t.text.length == 1 else if t.kind = 2 then ME t.text else if t.kind = 3 then PL t.text
 else if t.kind = 5 \/ t.kind = 6 \/ t.kind = 7 then t.text != [] && decide (t.text.length <= 40) && f6 t.text 3 else false
theorem M4 (s : ByteArray) (i : Nat) : 1 <= (Go.Utf8.decode s i).2 := by
 unfold Go.Utf8.decode
 dsimp only
 repeat' split
 all_goals simp
end Ab
namespace Ab.C
open Go Ab Go.RowKit
set_option maxRecDepth 10000
section
variable {E : ak} (hE : E.fns = af.fn ag)
include hE
theorem Nh (n : Nat) : bG 1 E (.fn qB [] []) [.int .u8 n] (.int .u8 (MY n)) :=
 bG.byW (GG hE) rfl rfl (K := 0) fun k hk bl tk => by
  unfold MY
  by_cases a1 : 97 <= n
  ·by_cases a2 : n <= 122
   ·have b1 : (97 : Int) <= n := by omega
    have b2 : (n : Int) <= 122 := by omega
    simp [bK, co, a1, a2, b1, b2]
   ·have b1 : (97 : Int) <= n := by omega
    have b2 : ¬ (n : Int) <= 122 := by omega
    have b3 : (65 : Int) <= n := by omega
    have b4 : ¬ (n : Int) <= 90 := by omega
    have b5 : (48 : Int) <= n := by omega
    have b6 : ¬ (n : Int) <= 57 := by omega
    have b7 : ((n : Int) == 45) = false := by simp; omega
    have b8 : ((n : Int) == 95) = false := by simp; omega
    have b9 : ((n : Int) == 32) = false := by simp; omega
    have b10 : ((n : Int) == 9) = false := by simp; omega
    have b11 : ((n : Int) == 10) = false := by simp; omega
    have b12 : ((n : Int) == 13) = false := by simp; omega
    rw [if_neg (by omega), if_neg (by omega), if_neg (by omega), if_neg (by omega)]
    simp [bK, co, b1, b2, b3, b4, b5, b6, b7, b8, b9, b10, b11, b12]
  have b1 : ¬ (97 : Int) <= n := by omega
  by_cases a3 : 65 <= n
  ·have b3 : (65 : Int) <= n := by omega
   by_cases a4 : n <= 90
   ·have b4 : (n : Int) <= 90 := by omega
    simp [bK, co, a1, a3, a4, b1, b3, b4]
   ·have b4 : ¬ (n : Int) <= 90 := by omega
    have b5 : (48 : Int) <= n := by omega
    have b6 : ¬ (n : Int) <= 57 := by omega
    have b7 : ((n : Int) == 45) = false := by simp; omega
    have b9 : ((n : Int) == 32) = false := by simp; omega
    have b10 : ((n : Int) == 9) = false := by simp; omega
    have b11 : ((n : Int) == 10) = false := by simp; omega
    have b12 : ((n : Int) == 13) = false := by simp; omega
    rw [if_neg (by omega), if_neg (by omega)]
    by_cases a8 : n = 95
    ·have b8 : ((n : Int) == 95) = true := by simp; omega
     rw [if_pos (by omega)]
     simp [bK, co, b1, b3, b4, b5, b6, b7, b8]
    ·have b8 : ((n : Int) == 95) = false := by simp; omega
     rw [if_neg (by omega), if_neg (by omega)]
     simp [bK, co, b1, b3, b4, b5, b6, b7, b8, b9, b10, b11, b12]
  have b3 : ¬ (65 : Int) <= n := by omega
  rw [if_neg (by omega)]
  by_cases a5 : 48 <= n
  ·have b5 : (48 : Int) <= n := by omega
   by_cases a6 : n <= 57
   ·have b6 : (n : Int) <= 57 := by omega
    simp [bK, co, a5, a6, b1, b3, b5, b6]
   ·have b6 : ¬ (n : Int) <= 57 := by omega
    have b7 : ((n : Int) == 45) = false := by simp; omega
    have b8 : ((n : Int) == 95) = false := by simp; omega
    have b9 : ((n : Int) == 32) = false := by simp; omega
    have b10 : ((n : Int) == 9) = false := by simp; omega
    have b11 : ((n : Int) == 10) = false := by simp; omega
    have b12 : ((n : Int) == 13) = false := by simp; omega
    rw [if_neg (by omega), if_neg (by omega), if_neg (by omega)]
    simp [bK, co, b1, b3, b5, b6, b7, b8, b9, b10, b11, b12]
  have b5 : ¬ (48 : Int) <= n := by omega
  have b8 : ((n : Int) == 95) = false := by simp; omega
  rw [if_neg (by omega)]
  by_cases a7 : n = 45
  ·subst a7
   simp [bK, co, b1, b3, b5]
  have b7 : ((n : Int) == 45) = false := by simp; omega
  rw [if_neg (by omega)]
  by_cases a9 : n = 32
  ·subst a9
   simp [bK, co, b1, b3, b5, b8, b7]
  have b9 : ((n : Int) == 32) = false := by simp; omega
  by_cases a10 : n = 9
  ·subst a10
   simp [bK, co, b1, b3, b5, b8, b7, b9]
  have b10 : ((n : Int) == 9) = false := by simp; omega
  by_cases a11 : n = 10
  ·subst a11
   simp [bK, co, b1, b3, b5, b8, b7, b9, b10]
  have b11 : ((n : Int) == 10) = false := by simp; omega
  by_cases a12 : n = 13
  ·subst a12
   simp [bK, co, b1, b3, b5, b8, b7, b9, b10, b11]
  have b12 : ((n : Int) == 13) = false := by simp; omega
  rw [if_neg (by omega)]
  simp [bK, co, b1, b3, b5, b8, b7, b9, b10, b11, b12]
theorem S1 (n : Nat) (c : Int) : bG 2 E (.fn ww [] []) [.int .u8 n, .int .u8 c] (.bool (PA n c)) :=
 bG.byW (Pz hE) rfl rfl (K := 1) fun k hk bl tk => by
  simp [DA, Iz, Nh hE n k (by omega), PA]
  rfl
theorem Gp (s : List UInt8) (hs : s.length <= maxLen) (c : Int) : bG (s.length + 4) E (.fn nH [] []) [.str s, .int .u8 c] (.bool (f6 s c)) :=
 bG.byW (J8 hE) rfl rfl (K := s.length + 3) fun k hk bl tk => by
  have hmx : maxLen = 9223372036854775807 := rfl
  simp [wP, CA]
  refine aA s.length (fun i e st => f6 s c = f6 (s.drop i) c /\ e = [(0, .str s), (1, .int .u8 c), (7, .int .i64 s.length), (8, .int .i64 i)] /\ st = { bl, tk, ro := bl.length, rt := tk.length }) (by omega) (by simp) ?_ ?_
  ·rintro i e st hi ⟨hq, rfl, rfl⟩
   have e1 : et (.int .i64 i) s.length = some i := av hi
   have hwr : IntKind.wrap .i64 ((i : Int) + 1) = i + 1 := ar (by omega) (by omega)
   rw [List.drop_eq_getElem_cons hi] at hq
   have h1 := S1 hE s[i].toNat c k (by omega)
   unfold f6 at hq ⊢
   rw [List.all_cons] at hq
   cases hp : PA s[i].toNat c with
   | true =>
    rw [hp, Bool.true_and] at hq
    rw [hp] at h1
    simp [rC, hi, e1, hwr, h1]
    simpa using hq
   | false =>
    rw [hp, Bool.false_and] at hq
    rw [hp] at h1
    simp [rC, hi, e1, hwr, h1]
    simpa using hq
  ·rintro e st ⟨hq, rfl, rfl⟩
   rw [List.drop_length] at hq
   have hq' : f6 s c = true := hq
   simp [rC, hq']
theorem H0 (s : List UInt8) (hs : s.length <= maxLen) (m : Int) : bG (s.length + 5) E (.fn mJ [] []) [.str s, .int .i64 m] (.bool (DS s m)) :=
 bG.byW (C7 hE) rfl rfl (K := s.length + 4) fun k hk bl tk => by
  have h1 := Gp hE s hs 4 k (by omega)
  cases s with
  | nil => simp [gR, jX, DS]
  | cons b r =>
   have h2 := S1 hE b.toNat 1 k (by omega)
   unfold DS
   by_cases c1 : (((b :: r).length : Nat) : Int) <= m
   ·simp only [List.length_cons, Int.natCast_add, Int.cast_ofNat_Int] at c1
    cases c2 : PA b.toNat 1 with
    | true =>
     rw [c2] at h2
     simp [gR, jX, c1, h1, h2, c2, et]
    | false =>
     rw [c2] at h2
     simp [gR, jX, c1, h1, h2, c2, et]
   ·simp only [List.length_cons, Int.natCast_add, Int.cast_ofNat_Int] at c1
    simp [gR, jX, c1, h1, h2, et]
theorem Lq (s : List UInt8) : bG 4 E (.fn kC [] []) [.str s, .str [45]] (.tup [.str (dc s).1, .bool (dc s).2]) := by
 have hh : bG 1 E (.fn dz [] []) [.str s, .str [45]] (.bool (dc s).2) :=
  bG.byW (qj hE) rfl rfl (K := 0) fun k hk bl tk => by
   cases s with
   | nil => simp [cd, dv, dc]
   | cons b r =>
    have c1 : (1 : Int) <= (r.length : Int) + 1 := by omega
    by_cases hb : b = 45
    ·subst hb
     simp [cd, dv, dc, c1, sK, mE]
    ·have : dc (b :: r) = (b :: r, false) := by unfold dc; split; rename_i h; cases h; exact absurd rfl hb; rfl
     simp [cd, dv, this, c1, sK, mE, hb]
 have hc : bG 3 E (.fn dy [] []) [.str s, .str [45]] (.tup [.str (dc s).1, .bool (dc s).2]) :=
  bG.byW (qe hE) rfl rfl (K := 2) fun k hk bl tk => by
   have h1 := hh k (by omega)
   cases s with
   | nil => simp [bZ, du, h1, dc]
   | cons b r =>
    by_cases hb : b = 45
    ·subst hb
     have c1 : (1 : Int) <= (r.length : Int) + 1 := by omega
     simp [bZ, du, h1, dc, sK, mE, c1]
    ·have : dc (b :: r) = (b :: r, false) := by unfold dc; split; rename_i h; cases h; exact absurd rfl hb; rfl
     rw [this] at h1 ⊢
     simp [bZ, du, h1]
 exact bG.byW (Bc hE) rfl rfl (K := 3) fun k hk bl tk => by simp [nW, sY, hc k (by omega)]
theorem Lv (s : List UInt8) (hs : s.length <= maxLen) : bG (s.length + 8) E (.fn oJ [] []) [.str s] (.bool (PL s)) :=
 bG.byW (Fb hE) rfl rfl (K := s.length + 7) fun k hk bl tk => by
  have h1 := Lq hE s k (by omega)
  have hle : (dc s).1.length <= s.length := by unfold dc; split <;> simp
  have h2 := Gp hE (dc s).1 (by omega) 2 k (by omega)
  unfold PL
  generalize dc s = q at *
  obtain ⟨d, neg⟩ := q
  simp only at *
  cases d with
  | nil => simp [ft, im, h1]
  | cons b r =>
   by_cases c1 : 500 < (b :: r).length
   ·have c1' : (500 : Int) < (r.length : Int) + 1 := by simp at c1; omega
    simp only [List.length_cons] at c1
    simp [ft, im, h1, c1, c1']
   ·have c1' : ¬ (500 : Int) < (r.length : Int) + 1 := by simp at c1; omega
    simp only [List.length_cons] at c1
    cases c2 : f6 (b :: r) 2 with
    | false => rw [c2] at h2; simp [ft, im, h1, h2, c1, c1']
    | true =>
     rw [c2] at h2
     by_cases c3 : b.toNat = 48
     ·by_cases c4 : r = []
      ·subst c4
       simp [ft, im, h1, h2, c3, et]
      ·have c4' : ¬ r.length = 0 := by simpa using c4
       have c5 : (((r.length : Int) + 1) == 1) = false := by simp; omega
       simp [ft, im, h1, h2, c1, c1', c3, c4, c5, et]
     ·have c3' : (((b.toNat : Nat) : Int) != 48) = true := by simp; omega
      simp [ft, im, h1, h2, c1, c1', c3, c3', et]
end
open Go Ab Go.RowKit
set_option maxRecDepth 10000
def xy (n : Nat) : Bool := decide (97 <= n /\ n <= 122) || decide (65 <= n /\ n <= 90)
def B7 (n : Nat) : Bool := decide (48 <= n /\ n <= 57)
def Nr (n : Nat) : Bool := xy n || B7 n || decide (n = 45) || decide (n = 95)
theorem Vf : ∀ n < 256, PA n 1 = xy n := by decide +kernel
theorem Vg : ∀ n < 256, PA n 2 = B7 n := by decide +kernel
theorem Vh : ∀ n < 256, PA n 3 = (xy n || B7 n) := by decide +kernel
theorem Vi : ∀ n < 256, PA n 4 = Nr n := by decide +kernel
section
variable {E : ak} (hE : E.fns = af.fn ag)
include hE
theorem DM (n : Nat) : bG 1 E (.fn dN [] []) [.int .u8 n] (.bool (xy n)) :=
 bG.byW (xg hE) rfl rfl (K := 0) fun k hk bl tk => by
  by_cases a1 : (97 : Int) <= n <;> by_cases a2 : (n : Int) <= 122 <;> by_cases a3 : (65 : Int) <= n <;> by_cases a4 : (n : Int) <= 90 <;> simp [lu, pT, a1, a2, a3, a4, xy] <;> omega
theorem Gl (n : Nat) : bG 1 E (.fn ei [] []) [.int .u8 n] (.bool (B7 n)) :=
 bG.byW (yA hE) rfl rfl (K := 0) fun k hk bl tk => by
  by_cases a1 : (48 : Int) <= n <;> by_cases a2 : (n : Int) <= 57 <;> simp [mb, qS, a1, a2, B7] <;> omega
theorem QK (n : Nat) : bG 2 E (.fn jz [] []) [.int .u8 n] (.bool (Nr n)) :=
 bG.byW (yC hE) rfl rfl (K := 1) fun k hk bl tk => by
  have h1 := DM hE n k (by omega)
  have h2 := Gl hE n k (by omega)
  unfold Nr
  have e3 : ((n : Int) == 45) = decide (n = 45) := by rw [Bool.eq_iff_iff]; simp; omega
  have e4 : ((n : Int) == 95) = decide (n = 95) := by rw [Bool.eq_iff_iff]; simp; omega
  cases a1 : xy n <;> cases a2 : B7 n <;> rw [a1] at h1 <;> rw [a2] at h2 <;> cases a3 : decide (n = 45) <;> cases a4 : decide (n = 95) <;> rw [a3] at e3 <;> rw [a4] at e4 <;> simp [md, qU, h1, h2, e3, e4]
theorem Po (s : List UInt8) (hs : s.length <= maxLen) (m : Int) : bG (s.length + 5) E (.fn iL [] []) [.str s, .int .i64 m] (.bool (DS s m)) :=
 bG.byW (xe hE) rfl rfl (K := s.length + 4) fun k hk bl tk => by
  have hmx : maxLen = 9223372036854775807 := rfl
  unfold DS
  by_cases c0 : s = []
  ·subst c0; simp [dI, eV]
  have c0' : (s == []) = false := by simpa using c0
  have c0n : (s != []) = true := by simpa using c0
  by_cases c1 : (m : Int) < s.length
  ·have : ¬ ((s.length : Int) <= m) := by omega
   simp [dI, eV, c0', c1, this]
  have c1' : ((s.length : Int) <= m) := by omega
  have hp : 0 < s.length := by cases s with | nil => exact absurd rfl c0 | cons a r => simp
  have e0 : et (.int .i64 0) s.length = some 0 := av hp
  have hl : s.getD 0 0 = s[0] := by rw [List.getD_eq_getElem?_getD, List.getElem?_eq_getElem hp]; rfl
  have h1 := DM hE s[0].toNat k (by omega)
  rw [<- Vf _ (UInt8.toNat_lt _)] at h1
  cases c2 : PA s[0].toNat 1 with
  | false =>
   rw [c2] at h1
   simp [dI, eV, c0', c1, c1', e0, hp, h1, c2]
  | true =>
   rw [c2] at h1
   simp [dI, eV, c0', c0n, c1, c1', e0, hp, h1, c2]
   refine aA s.length (fun i e st => f6 s 4 = f6 (s.drop i) 4 /\ e = [(0, .str s), (5, .int .i64 i)] /\ st = { bl, tk, ro := bl.length, rt := tk.length }) (by omega) (by simp) ?_ ?_
   ·rintro i e st hi ⟨hq, rfl, rfl⟩
    have e1 : et (.int .i64 i) s.length = some i := av hi
    have hwr : IntKind.wrap .i64 ((i : Int) + 1) = i + 1 := ar (by omega) (by omega)
    rw [List.drop_eq_getElem_cons hi] at hq
    have h1 := QK hE s[i].toNat k (by omega)
    rw [<- Vi _ (UInt8.toNat_lt _)] at h1
    unfold f6 at hq ⊢
    rw [List.all_cons] at hq
    cases hp : PA s[i].toNat 4 with
    | true =>
     rw [hp, Bool.true_and] at hq
     rw [hp] at h1
     simp [gV, hi, e1, hwr, h1]
     simpa using hq
    | false =>
     rw [hp, Bool.false_and] at hq
     rw [hp] at h1
     simp [gV, hi, e1, hwr, h1]
     simpa using hq
   ·rintro e st ⟨hq, rfl, rfl⟩
    rw [List.drop_length] at hq
    have hq' : f6 s 4 = true := hq
    simp [gV, hq']
theorem QL (s : List UInt8) (hs : s.length <= maxLen) : bG (s.length + 5) E (.fn jA [] []) [.str s] (.bool (s != [] && decide (s.length <= 40) && f6 s 3)) :=
 bG.byW (yD hE) rfl rfl (K := s.length + 4) fun k hk bl tk => by
  have hmx : maxLen = 9223372036854775807 := rfl
  simp [mf, qV]
  refine aA s.length (fun i e st => f6 s 3 = f6 (s.drop i) 3 /\ e = [(0, .str s), (3, .int .i64 i)] /\ st = { bl, tk, ro := bl.length, rt := tk.length }) (by omega) (by simp) ?_ ?_
  ·rintro i e st hi ⟨hq, rfl, rfl⟩
   have e1 : et (.int .i64 i) s.length = some i := av hi
   have hwr : IntKind.wrap .i64 ((i : Int) + 1) = i + 1 := ar (by omega) (by omega)
   rw [List.drop_eq_getElem_cons hi] at hq
   have h1 := DM hE s[i].toNat k (by omega)
   have h2 := Gl hE s[i].toNat k (by omega)
   have h3 := Vh s[i].toNat (UInt8.toNat_lt _)
   unfold f6 at hq ⊢
   rw [List.all_cons, h3] at hq
   cases hp : xy s[i].toNat with
   | true =>
    rw [hp, Bool.true_or, Bool.true_and] at hq
    rw [hp] at h1
    simp [dK, hi, e1, hwr, h1]
    simpa using hq
   | false =>
    rw [hp] at h1 hq
    cases hp2 : B7 s[i].toNat with
    | true =>
     rw [hp2, Bool.or_true, Bool.true_and] at hq
     rw [hp2] at h2
     simp [dK, hi, e1, hwr, h1, h2]
     simpa using hq
    | false =>
     rw [hp2, Bool.or_false, Bool.false_and] at hq
     rw [hp2] at h2
     simp [dK, hi, e1, hwr, h1, h2]
     intro _ _
     simpa using hq
  ·rintro e st ⟨hq, rfl, rfl⟩
   rw [List.drop_length] at hq
   have hq' : f6 s 3 = true := hq
   by_cases c0 : s = []
   ·subst c0; simp [dK]
   ·have c0' : (s == []) = false := by simpa using c0
    have c0n : (s != []) = true := by simpa using c0
    have : (decide ((s.length : Int) <= 40)) = decide (s.length <= 40) := by congr 1; apply propext; omega
    simp [dK, c0', c0n, hq', this]
end
end Ab.C
