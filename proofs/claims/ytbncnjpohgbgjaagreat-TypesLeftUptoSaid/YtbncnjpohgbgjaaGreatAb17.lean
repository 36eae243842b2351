/- Parts of the proof, made small by program. No condition but what is told. -/
import Derived.Test.YtbncnjpohgbgjaaGreatAb15
import Derived.Test.YtbncnjpohgbgjaaGreatAb08
import Derived.Test.YtbncnjpohgbgjaaGreatAb01
import Derived.Test.YtbncnjpohgbgjaaGreatAb16
set_option linter.all false
set_option maxHeartbeats 8000000
namespace Ab.C
open Go Ab Go.RowKit
set_option maxRecDepth 10000
def kE (f t k i : Int) : Ed := { fr := f, to := t, kind := k, sym := .mk 0 [] [], exc := [], inner := i }
def kV (f t k i : Int) : AV := .agg [.int .i64 f, .int .i64 t, .int .i64 k, .int .i64 0, .str [], .sl .nil 3 [], .sl .nil 3 [], .int .i64 i]
theorem kR (f t k i : Int) : jq (kE f t k i) (kV f t k i) := ⟨_, _, rfl, Sl.nil, Sl.nil⟩
theorem kU (f t k i : Int) : (kV f t k i).untok = kV f t k i := by simp [kV, AV.untok, AV.untokL]
def uG (f t : Int) : List Ed := [kE f t 2 0, kE f t 3 0, kE f t 4 0]
def kZ (f t : Int) : List AV := [kV f t 2 0, kV f t 3 0, kV f t 4 0]
def Ie : Au := { n := 2, start := 0, fin := [1], eds := uG 0 1 }
def vw : Au := { n := 3, start := 0, fin := [1, 2], eds := uG 0 1 ++ kE 0 1 5 2 :: (uG 2 2 ++ [kE 2 2 5 2]) }
def gM (f t i : Int) : List AV := kZ f t ++ [kV f t 5 i]
theorem Mw (f t : Int) : cL jq (uG f t) (kZ f t) := ⟨_, _, rfl, kR _ _ _ _, _, _, rfl, kR _ _ _ _, _, _, rfl, kR _ _ _ _, rfl⟩
theorem T4 (f t i : Int) : AV.untokL (gM f t i) = gM f t i := by simp [gM, kZ, AV.untokL, kU]
theorem Tb (f t : Int) : AV.dataL (kZ f t) = true := eW (Mw f t)
theorem T3 (f t i : Int) : AV.dataL (gM f t i) = true := by simp [gM, kZ, kV, AV.dataL, AV.data]
theorem Tc : cL jq vw.eds (gM 0 1 2 ++ gM 2 2 2) := by
 have h : vw.eds = (uG 0 1 ++ [kE 0 1 5 2]) ++ (uG 2 2 ++ [kE 2 2 5 2]) := rfl
 rw [h]
 exact fZ (fZ (Mw 0 1) ⟨_, _, rfl, kR _ _ _ _, rfl⟩) (fZ (Mw 2 2) ⟨_, _, rfl, kR _ _ _ _, rfl⟩)
section
variable {E : ak} (hE : E.fns = af.fn ag)
include hE
theorem Gt (f t : Int) {k : Nat} (hk : 10 <= k) (s : St) : au E k none (.fn lW [] []) [.int .i64 f, .int .i64 t] s = some (.ret (gb 8 s.tk.length (kZ f t)), false, { s with tk := cU s.tk (kZ f t) }) := by
 obtain ⟨k, rfl⟩ : ∃ j, k = j + 1 := ⟨k - 1, by omega⟩
 obtain ⟨v, s', h1, rfl, rfl⟩ := cI (Fe hE) (first := []) (caps := []) (args := [.int .i64 f, .int .i64 t]) rfl (k := k) (s := s) (Post := fun v s' => v = gb 8 s.tk.length (kZ f t) /\ s' = { s with tk := cU s.tk (kZ f t) }) (by
  simp [ss, x9, jk]
  refine aA 3 (fun i e' st => e' = [(0, .int .i64 f), (1, .int .i64 t), (5, gb 8 s.tk.length ((kZ f t).take i)), (6, .int .i64 (2 + i))] /\ st = { bl := s.bl, tk := cU s.tk ((kZ f t).take i), ro := s.bl.length, rt := s.tk.length }) (by omega) ⟨by simp, by simp⟩ ?_ ?_
  ·rintro i e' st hi ⟨rfl, rfl⟩
   have hwr : IntKind.wrap .i64 ((2 : Int) + i + 1) = 2 + i + 1 := ar (by omega) (by omega)
   have hle : (2 : Int) + i <= 4 := by omega
   have hg : (kZ f t)[i]? = some (kV f t (2 + i) 0) := by
    match i, hi with
    | 0, _ => rfl
    | 1, _ => rfl
    | 2, _ => rfl
   have hs : (kZ f t).take (i + 1) = (kZ f t).take i ++ [kV f t (2 + i) 0] := by rw [List.take_succ, hg]; rfl
   have ha := pQ (bl := s.bl) (tk := s.tk) (ro := s.bl.length) (rt := s.tk.length) (z := 8) (ys := (kZ f t).take i) (y := kV f t (2 + i) 0) (o := .full) (by unfold aO; rw [List.length_take]; omega) (Nat.le_refl _)
   rw [kU, <- hs] at ha
   simp only [kV] at ha
   have e3 : (2 : Int) + (i + 1) = 2 + i + 1 := by omega
   simp [ru, hle, hwr, aq, bE, ai, az, ha, e3]
  ·rintro e' st ⟨rfl, rfl⟩
   rw [List.take_of_length_le (by simp [kZ])]
   simp [ru]
   rw [tE (Tb f t) rfl]
   simp)
 exact h1
theorem LI (f t i : Int) {k : Nat} (hk : 12 <= k) (s : St) : au E k none (.fn ox [] []) [.int .i64 f, .int .i64 t, .int .i64 i] s = some (.ret (gb 8 s.tk.length (gM f t i)), false, { s with tk := cU s.tk (gM f t i) }) := by
 obtain ⟨k, rfl⟩ : ∃ j, k = j + 1 := ⟨k - 1, by omega⟩
 have hs := fun st => Gt hE f t (k := k) (by omega) st
 obtain ⟨v, s', h1, rfl, rfl⟩ := cI (Ib hE) (first := []) (caps := []) (args := [.int .i64 f, .int .i64 t, .int .i64 i]) rfl (k := k) (s := s) (Post := fun v s' => v = gb 8 s.tk.length (gM f t i) /\ s' = { s with tk := cU s.tk (gM f t i) }) (by
  have ha := pQ (bl := s.bl) (tk := s.tk) (ro := s.bl.length) (rt := s.tk.length) (z := 8) (ys := kZ f t) (y := kV f t 5 i) (o := .full) (by simp [kZ, aO]) (Nat.le_refl _)
  rw [kU] at ha
  rw [show kZ f t ++ [kV f t 5 i] = gM f t i from rfl] at ha
  simp only [kV] at ha
  simp [vC, Bz, jk, hs, aq, bE, ai, az, ha]
  rw [tE (T3 f t i) rfl]
  simp)
 exact h1
def Jc : AV := .agg [.int .i64 2, .int .i64 0, .sl .full 1 [.int .i64 1], .sl .full 8 (kZ 0 1)]
def D6 : AV := .agg [.int .i64 3, .int .i64 0, .sl .full 1 [.int .i64 1, .int .i64 2], .sl .full 8 (gM 0 1 2 ++ gM 2 2 2)]
theorem Nl : bG 1 E (.fn kB [] []) [] Jc := by
 refine bG.byW (A8 hE) rfl rfl (K := 0) fun k hk bl tk => ?_
 simp [nS, sV, Jc, kZ, kV, aq, bE, ai, az, ac, aB]
theorem H5 : bG 1 E (.fn iP [] []) [] D6 := by
 refine bG.byW (xn hE) rfl rfl (K := 0) fun k hk bl tk => ?_
 simp [lz, pY, D6, gM, kZ, kV, aq, bE, ai, az, ac, aB]
end
theorem UI : tU Ie Jc := ⟨.full, .full, _, rfl, Mw 0 1, (fun h => by cases h), (fun h => by cases h)⟩
theorem T6 : tU vw D6 := ⟨.full, .full, _, rfl, Tc, (fun h => by cases h), (fun h => by cases h)⟩
open Go Ab
mutual
noncomputable def r7 : Tm -> Au
 | .mk k s kids => if k = 5 then Ie else if k = 6 then vw else if k = 7 then FK else if k = 4 then (lI (lU kids (mO []).1)).1 else (mO [.mk k s kids]).1
noncomputable def lU : List Tm -> Au -> Au
 | [], a => a
 | t :: r, a => lU r (lk a (r7 t)).1
end
noncomputable def ta (l : List Tm) : Au := lU l (mO []).1
mutual
def Sx : Tm -> Prop
 | .mk k s kids => (k = 4 -> RN kids (mO []).1 /\ (lI (lU kids (mO []).1)).2 = 0) /\ (k ≠ 5 -> k ≠ 6 -> k ≠ 7 -> k ≠ 4 -> (mO [.mk k s kids]).2 = 0)
def RN : List Tm -> Au -> Prop
 | [], _ => True
 | t :: r, a => Sx t /\ (lk a (r7 t)).2 = 0 /\ RN r (lk a (r7 t)).1
end
def S7 (l : List Tm) : Prop := (mO []).2 = 0 /\ RN l (mO []).1
theorem L3 (t : Tm) : r7 t = if t.kind = 5 then Ie else if t.kind = 6 then vw else if t.kind = 7 then FK else if t.kind = 4 then (lI (ta t.kids)).1 else (mO [t]).1 := by
 cases t; simp only [r7, Tm.kind, Tm.kids, ta]; rfl
theorem AX {t : Tm} (h : Sx t) (h4 : t.kind = 4) : RN t.kids (mO []).1 /\ (lI (ta t.kids)).2 = 0 := by
 cases t with | mk k s kids => simp only [Sx] at h; exact h.1 h4
theorem OG {t : Tm} (h : Sx t) (h5 : t.kind ≠ 5) (h6 : t.kind ≠ 6) (h7 : t.kind ≠ 7) (h4 : t.kind ≠ 4) : (mO [t]).2 = 0 := by
 cases t with | mk k s kids => simp only [Sx] at h; exact h.2 h5 h6 h7 h4
theorem GQ : ∀ (l : List Tm) (t : Tm) (a : Au), lU (l ++ [t]) a = (lk (lU l a) (r7 t)).1
 | [], t, a => by simp only [List.nil_append, lU]
 | x :: l, t, a => by simp only [List.cons_append, lU]; exact GQ l t _
theorem GR {l : List Tm} {i : Nat} {t : Tm} (h : l[i]? = some t) (a : Au) : lU (l.take (i + 1)) a = (lk (lU (l.take i) a) (r7 t)).1 := by
 rw [List.take_succ, h, Option.toList_some, GQ]
theorem AW : ∀ {l : List Tm} {i : Nat} {t : Tm} {a : Au}, RN l a -> l[i]? = some t -> Sx t /\ (lk (lU (l.take i) a) (r7 t)).2 = 0
 | [], i, t, a, _, h => by simp at h
 | x :: l, 0, t, a, h, ht => by
  simp only [RN] at h
  simp only [List.getElem?_cons_zero, Option.some.injEq] at ht
  subst ht
  exact ⟨h.1, by simpa only [List.take_zero, lU] using h.2.1⟩
 | x :: l, i + 1, t, a, h, ht => by
  simp only [RN] at h
  simp only [List.getElem?_cons_succ] at ht
  have := AW h.2.2 ht
  simpa only [List.take_succ_cons, lU] using this
theorem AK : Ba gN := ⟨by simp [gN], by simp [gN], fun e he => by cases he⟩
theorem RZ {a : Au} (h : Tr a) : Ba (lZ a) := by
 obtain ⟨_, _, hf, _, he, hw⟩ := h
 unfold lZ
 split
 ·refine ⟨by have := xI (bq a) (aY a) a.fin; simp only; omega, by have := xH (aE a) (bq a) (aY a) a.eds; simp only; omega, fun e hm => ?_⟩
  obtain ⟨d, hd, rfl⟩ := Jv hm
  exact (hw d hd).2.2.2.2
 ·exact ⟨by simp, by simp, fun e he => by cases he⟩
theorem JB {a : Au} (h : a.n <= 400 -> a.eds.length <= 4000 -> Tr a) : Ba (kq a).1 := by
 unfold kq
 split
 ·exact AK
 ·rename_i hc
  simp only [Bool.or_eq_true, decide_eq_true_eq, not_or] at hc
  exact RZ (h (by omega) (by omega))
theorem R1 {a : Au} (h : Ba a) : Ba (lI a).1 := by
 unfold lI
 split
 ·exact AK
 ·rename_i hc
  exact JB fun _ _ => KF (Rg.of h (by simpa using hc))
theorem Tk {a b : Au} (h : Ba a) (h' : Ba b) : Ba (lk a b).1 := by
 unfold lk
 split
 ·exact AK
 ·split
  ·exact AK
  ·rename_i h1 h2
   exact JB fun k1 k2 => KE (Rg.of h (by simpa using h1)) (Rg.of h' (by simpa using h2)) k1 k2
theorem FR {ts : List Tm} (hb : Bt ts) : Ba (mO ts).1 := by
 unfold mO
 split
 ·exact AK
 ·rename_i h
  exact JB fun h1 h2 => Ry hb (DE (by simpa using h)) h1 h2
theorem Tl {l : List Ed} (h : ∀ e ∈ l, e.sym = .mk 0 [] [] /\ e.exc = []) : ∀ e ∈ l, Be e := fun e he => by
 obtain ⟨h1, h2⟩ := h e he
 unfold Be; rw [h1, h2]; exact ⟨Fv, p8⟩
theorem Tn : Ba Ie := ⟨by simp [Ie], by simp [Ie, uG], Tl (by simp [Ie, uG, kE])⟩
theorem R0 : Ba vw := ⟨by simp [vw], by simp [vw, uG], Tl (by simp [vw, uG, kE])⟩
theorem Tj : Ba FK := ⟨by simp [FK], by simp [FK], Tl (by simp [FK, Eh])⟩
mutual
theorem JC : ∀ (t : Tm), Bt [t] -> Ba (r7 t)
 | .mk k s kids, hb => by
  have hk : Bt kids := hb.kids
  simp only [r7]
  split
  ·exact Tn
  ·split
   ·exact R0
   ·split
    ·exact Tj
    ·split
     ·exact R1 (wU kids _ hk (FR p8))
     ·exact FR hb
theorem wU : ∀ (l : List Tm) (a : Au), Bt l -> Ba a -> Ba (lU l a)
 | [], a, _, h => by simp only [lU]; exact h
 | t :: r, a, hb, h => by
  simp only [lU]
  exact wU r _ hb.tail (Tk h (JC t hb.head))
end
theorem Od {l : List Tm} (h : Bt l) (i : Nat) : Bt (l.take i) := h.sub ⟨[], l.drop i, by simp⟩
open Go Ab Go.RowKit
set_option maxRecDepth 10000
def RV (a : Au) (x : AV) : Prop := tU a x /\ x.untok = x
def RS (K : Nat) (E : ak) (tgt : AV) (args : List AV) (Q : AV -> Prop) : Prop := ∀ k, K <= k -> ∀ s, ∃ r, Q r /\ au E k none tgt args s = some (.ret r, false, s)
theorem G9 {a : Au} {x : AV} (h : RV a x) {lo : Nat} {s : St} : ∃ r, sw lo s x r /\ RV a r := ⟨x, by unfold sw; rw [if_pos h.1.data]; exact h.2, h⟩
theorem RV.agg {a : Au} {x : AV} (h : RV a x) : ∃ p q, x = .agg [.int .i64 a.n, .int .i64 a.start, p, q] := by
 obtain ⟨⟨of, oe, ys, rfl, _⟩, _⟩ := h
 exact ⟨_, _, rfl⟩
section
variable {E : ak} (hE : E.fns = af.fn ag)
include hE
theorem Or {a : Au} {x : AV} (h : RV a x) : bG 1 E (.fn aW [] []) [x, .int .i64 0] x := by
 have hd := h.1.data
 have hu := h.2
 obtain ⟨p, q, rfl⟩ := h.agg
 refine bG.byW (lj hE) rfl rfl (K := 0) fun k hk bl tk => ?_
 simp only [AV.data, AV.dataL, Bool.and_true, Bool.true_and] at hd
 simp only [AV.untok, AV.untokL, AV.agg.injEq, List.cons.injEq, true_and, and_true] at hu
 simp [dR, lh, aa, ac, aj, aB, hu, hd]
theorem Sh (hP : Pr E) {t : Tm} {x : AV} (hx : Rt t x) (hb : Bt [t]) (ko : Sx t) (ih : ∀ v, Sl t.kids v -> t.kind = 4 -> RS (12000010 + 4 * aV t.kids) E (.fn iq [] []) [v] (RV (ta t.kids))) :
  RS (12000008 + 4 * nT t) E (.fn dX [] []) [x] (RV (r7 t)) := by
 intro k hk s
 obtain ⟨k, rfl⟩ : ∃ j, k = j + 1 := ⟨k - 1, by omega⟩
 have hnt := g7 t
 have hx0 := hx
 obtain ⟨v, rfl, hv⟩ := hx.open
 refine fK (vm hE) rfl (fun bl tk => ?_) s
 have q0 : ∀ (c : AB) (r : List AB), (bl ++ c :: r)[bl.length]? = some c := fun c r => by rw [ac]; rfl
 have q1 : ∀ (c d : AB) (r : List AB), (bl ++ c :: d :: r)[bl.length + 1]? = some d := fun c d r => by rw [aa]; rfl
 have s1 : ∀ (c d f : AB) (r : List AB), (bl ++ c :: d :: r).set (bl.length + 1) f = bl ++ c :: f :: r := fun c d f r => by rw [aj]; rfl
 have r1 : bl.length <= bl.length + 1 := by omega
 rw [L3]
 by_cases h5 : t.kind = 5
 ·have c1 := fun st => Gt hE 0 1 (k := k) (by omega) st
  rw [if_pos h5]
  have v1 : ∀ T, gb 8 T (kZ 0 1) = .sl (.tok T) 8 (kZ 0 1) := fun T => rfl
  simp only [v1] at c1
  simp [-getElem?_pos, List.getElem?_cons_zero, List.getElem?_cons_succ, dS, gU, q0, q1, s1, r1, h5, c1, aq, bE, ai, az]
  refine ⟨_, bW (by simp [AV.data, AV.dataL, Tb]), ?_⟩
  refine ⟨⟨.full, .any, kZ 0 1, rfl, Mw 0 1, (fun h => by cases h), (fun h => by cases h)⟩, rfl⟩
 rw [if_neg h5]
 have h5' : (t.kind == 5) = false := by simpa using h5
 by_cases h6 : t.kind = 6
 ·have c1 := fun st => LI hE 0 1 2 (k := k) (by omega) st
  have c2 := fun st => LI hE 2 2 2 (k := k) (by omega) st
  rw [if_pos h6]
  have v1 : ∀ T, gb 8 T (gM 0 1 2) = .sl (.tok T) 8 (gM 0 1 2) := fun T => rfl
  have v2 : ∀ T, gb 8 T (gM 2 2 2) = .sl (.tok T) 8 (gM 2 2 2) := fun T => rfl
  have t1 : ∀ T, cU T (gM 0 1 2) = T ++ [4] := fun T => rfl
  have t2 : ∀ T, cU T (gM 2 2 2) = T ++ [4] := fun T => rfl
  simp only [v1, t1] at c1
  simp only [v2, t2] at c2
  obtain ⟨A, hA⟩ : ∃ A, A = gM 0 1 2 := ⟨_, rfl⟩
  obtain ⟨D, hD⟩ : ∃ D, D = gM 2 2 2 := ⟨_, rfl⟩
  have hRA : cL jq vw.eds (A ++ D) := by rw [hA, hD]; exact Tc
  have hDu : AV.untokL D = D := by rw [hD]; exact T4 2 2 2
  obtain ⟨out', h', ha, hok'⟩ := tV (out := .sl (.tok tk.length) 8 A) (z := 8) (ys := A) (tk := tk) (h := [4, 4]) (.inr ⟨0, rfl, by rw [hA]; rfl, by rw [hA]; exact List.cons_ne_nil _ _⟩) (ro := bl.length) (rt := tk.length) (o := .tok (tk.length + 1)) (ws := D) (by rw [hA, hD]; simp [gM, kZ, aO]) (Nat.le_refl _)
  rw [hDu] at hok'
  obtain ⟨o', rfl, _, hu'⟩ := hok'.sl
  rw [<- hA] at c1
  rw [<- hD] at c2
  clear v1 v2 t1 t2
  simp [-getElem?_pos, List.getElem?_cons_zero, List.getElem?_cons_succ, dS, gU, q0, q1, s1, r1, h6, c1, c2, ha, aq, bE, ai, az]
  refine ⟨_, bW (by simp [AV.data, AV.dataL, eW hRA]), ?_⟩
  simp only [AV.untok, AV.untokL, hu']
  obtain ⟨o2, ho2, hn2⟩ := lG 8 (A ++ D)
  rw [ho2]
  refine ⟨⟨.full, o2, A ++ D, rfl, hRA, (fun h => by cases h), hn2⟩, ?_⟩
  simp only [AV.untok, AV.untokL, <- ho2, oW]
 rw [if_neg h6]
 have h6' : (t.kind == 6) = false := by simpa using h6
 by_cases h7 : t.kind = 7
 ·have c1 := TD hE k (by omega)
  rw [if_pos h7]
  simp only [JA] at c1
  simp [-getElem?_pos, List.getElem?_cons_zero, List.getElem?_cons_succ, dS, gU, q0, q1, s1, r1, h7, c1, aq, bE, ai, az]
  exact G9 (a := FK) ⟨Ut, rfl⟩
 rw [if_neg h7]
 have h7' : (t.kind == 7) = false := by simpa using h7
 by_cases h4 : t.kind = 4
 ·rw [if_pos h4]
  obtain ⟨x1, hx1, c1⟩ := ih v hv h4 k (by omega) { bl := bl ++ [.cells [.int .i64 t.kind, .str t.text, v], .cells [.int .i64 0, .int .i64 0, .sl .nil 1 [], .sl .nil 8 []]], tk, ro := bl.length, rt := tk.length }
  have hBl : Ba (ta t.kids) := wU _ _ hb.kids (FR p8)
  obtain ⟨r2, ⟨x2, hr2, hx2, hu2⟩, c2⟩ := Sf hE hx1.1 hBl (k := k) (by omega) { bl := bl ++ [.cells [.int .i64 t.kind, .str t.text, v], .cells [.int .i64 0, .int .i64 0, .sl .nil 1 [], .sl .nil 8 []]], tk, ro := bl.length, rt := tk.length }
  subst hr2
  rw [(AX ko h4).2] at c2
  have c3 := Or hE ⟨hx2, hu2⟩ k (by omega)
  obtain ⟨p, q, rfl⟩ := RV.agg ⟨hx2, hu2⟩
  rw [h4] at c1 c2
  simp [-getElem?_pos, List.getElem?_cons_zero, List.getElem?_cons_succ, dS, gU, q0, q1, s1, r1, h4, c1, c2, c3, aq, bE, ai, az]
  exact G9 ⟨hx2, hu2⟩
 rw [if_neg h4]
 have h4' : (t.kind == 4) = false := by simpa using h4
 obtain ⟨r2, ⟨x2, hr2, hx2, hu2⟩, c2⟩ := Gm hE hP (ts := [t]) (v := .sl .full 3 [.agg [.int .i64 t.kind, .str t.text, v.untok]]) ⟨_, _, rfl, ⟨by simp [maxLen], fun h => by cases h⟩, by simp only [gT]; exact ⟨_, _, rfl, by simpa only [AV.untok, AV.untokL] using hx0.untok, rfl⟩⟩ hb (k := k) (by omega) { bl := bl ++ [.cells [.int .i64 t.kind, .str t.text, v], .cells [.int .i64 0, .int .i64 0, .sl .nil 1 [], .sl .nil 8 []]], tk, ro := bl.length, rt := tk.length }
 subst hr2
 rw [OG ko h5 h6 h7 h4] at c2
 have c3 := Or hE ⟨hx2, hu2⟩ k (by omega)
 obtain ⟨p, q, rfl⟩ := RV.agg ⟨hx2, hu2⟩
 simp [-getElem?_pos, List.getElem?_cons_zero, List.getElem?_cons_succ, dS, gU, q0, q1, s1, r1, h5', h6', h7', h4', c2, c3, aq, bE, ai, az]
 exact G9 ⟨hx2, hu2⟩
end
open Go Ab Go.RowKit
set_option maxRecDepth 10000
theorem RV.agg' {a : Au} {x : AV} (h : RV a x) : ∃ n s p q, x = .agg [n, s, p, q] := by
 obtain ⟨p, q, rfl⟩ := h.agg
 exact ⟨_, _, _, _, rfl⟩
theorem Rt.agg {t : Tm} {x : AV} (h : Rt t x) : ∃ a b c, x = .agg [a, b, c] := by
 obtain ⟨v, rfl, _⟩ := h.open
 exact ⟨_, _, _, rfl⟩
section
variable {E : ak} (hE : E.fns = af.fn ag)
include hE
theorem Pu (hP : Pr E) {l : List Tm} {v : AV} (hv : Sl l v) (hb : Bt l) (ko : S7 l) (hit : ∀ t ∈ l, ∀ x, Rt t x -> RS (12000008 + 4 * nT t) E (.fn dX [] []) [x] (RV (r7 t))) :
  RS (12000009 + 4 * aV l) E (.fn qD [] []) [v, .fn dX [] []] (RV (ta l)) := by
 intro k hk s
 obtain ⟨k, rfl⟩ : ∃ j, k = j + 1 := ⟨k - 1, by omega⟩
 obtain ⟨ov, xs, rfl, ⟨hxl, _⟩, hxs⟩ := hv
 have hll := hxs.length
 have hln := aC l
 refine fK (GJ hE) rfl (fun bl tk => ?_) s
 have q0 : ∀ (c : AB) (r : List AB), (bl ++ c :: r)[bl.length]? = some c := fun c r => by rw [ac]; rfl
 have q1 : ∀ (c d : AB) (r : List AB), (bl ++ c :: d :: r)[bl.length + 1]? = some d := fun c d r => by rw [aa]; rfl
 have s0 : ∀ (c f : AB) (r : List AB), (bl ++ c :: r).set bl.length f = bl ++ f :: r := fun c f r => by rw [aB]; rfl
 have s1 : ∀ (c d f : AB) (r : List AB), (bl ++ c :: d :: r).set (bl.length + 1) f = bl ++ c :: f :: r := fun c d f r => by rw [aj]; rfl
 have r1 : bl.length <= bl.length + 1 := by omega
 have h0 := ko.1
 obtain ⟨r0, ⟨x0, hr0, hx0, hu0⟩, c0⟩ := Gm hE hP (ts := []) (v := .sl .nil 3 []) Sl.nil p8 (k := k) (by omega) { bl := bl ++ [.cells [.int .i64 0, .int .i64 0, .sl .nil 1 [], .sl .nil 8 []]], tk, ro := bl.length, rt := tk.length }
 subst hr0
 rw [h0] at c0
 have c1 := Or hE ⟨hx0, hu0⟩ k (by omega)
 have hrv0 : RV (mO []).1 x0 := ⟨hx0, hu0⟩
 obtain ⟨n0, Qc, p0, p1, rfl⟩ := hrv0.agg'
 simp [-getElem?_pos, List.getElem?_cons_zero, List.getElem?_cons_succ, tS, zk, q0, q1, s1, r1, c0, c1, aq, bE, ai, az]
 refine aA l.length (fun i e' st => ∃ cs g, RV (lU (l.take i) (mO []).1) (.agg cs) /\ e' = [(1, .fn dX [] []), (4, .ptr bl.length 0), (5, .ptr (bl.length + 1) 0), (12, .sl ov 3 xs), (13, .int .i64 xs.length), (14, .int .i64 i)] /\ st = { bl := bl ++ .cells [.int .i64 0, .int .i64 0, .sl .nil 1 [], .sl .nil 8 []] :: .cells cs :: g, tk := tk, ro := bl.length, rt := tk.length }) (by omega) ⟨_, [], by simpa only [List.take_zero, lU] using hrv0, by simp, rfl⟩ ?_ ?_
 ·rintro i e' st hi ⟨cs, g, hrv, rfl, rfl⟩
  obtain ⟨t, ht⟩ : ∃ t, l[i]? = some t := ⟨_, List.getElem?_eq_getElem hi⟩
  have htm : t ∈ l := List.mem_of_getElem? ht
  obtain ⟨y, hy, hty⟩ := hxs.get ht
  obtain ⟨hi1, hy1⟩ := List.getElem?_eq_some_iff.1 hy
  have e1 : et (.int .i64 i) xs.length = some i := av (by omega)
  have hwr : IntKind.wrap .i64 ((i : Int) + 1) = i + 1 := ar (by omega) (by have := hb.1; omega)
  have hk2 := AW ko.2 ht
  have htn := f8 htm
  have q2 : ∀ (c d f : AB) (r : List AB), (bl ++ c :: d :: (g ++ f :: r))[bl.length + (g.length + 1 + 1)]? = some f := fun c d f r => by rw [aa]; simp
  have s2 : ∀ (c d f f' : AB) (r : List AB), (bl ++ c :: d :: (g ++ f :: r)).set (bl.length + (g.length + 1 + 1)) f' = bl ++ c :: d :: (g ++ f' :: r) := fun c d f f' r => by rw [aj]; simp
  have r2 : bl.length <= bl.length + (g.length + 1 + 1) := by omega
  obtain ⟨ya, yb, yc, rfl⟩ := Rt.agg hty
  obtain ⟨z0, z1, z2, z3, hcs⟩ := hrv.agg'
  cases hcs
  obtain ⟨x1, hx1, c2⟩ := hit t htm _ hty k (by omega) { bl := bl ++ .cells [.int .i64 0, .int .i64 0, .sl .nil 1 [], .sl .nil 8 []] :: .cells [z0, z1, z2, z3] :: (g ++ [.cells [ya, yb, yc]]), tk := tk, ro := bl.length, rt := tk.length }
  obtain ⟨r3, ⟨x3, hr3, hx3, hu3⟩, c3⟩ := Pn hE hP hrv.1 hx1.1 hrv.2 hx1.2 (wU _ _ (Od hb i) (FR p8)) (JC t (hb.mem htm)) (k := k) (by omega) { bl := bl ++ .cells [.int .i64 0, .int .i64 0, .sl .nil 1 [], .sl .nil 8 []] :: .cells [z0, z1, z2, z3] :: (g ++ [.cells [ya, yb, yc]]), tk := tk, ro := bl.length, rt := tk.length }
  subst hr3
  rw [hk2.2] at c3
  have c4 := Or hE ⟨hx3, hu3⟩ k (by omega)
  have hrv3 : RV (lk (lU (l.take i) (mO []).1) (r7 t)).1 x3 := ⟨hx3, hu3⟩
  obtain ⟨w0, w1, w2, w3, rfl⟩ := hrv3.agg'
  have hlt : (i : Int) < xs.length := by omega
  simp [-getElem?_pos, List.getElem?_cons_zero, List.getElem?_cons_succ, sG, hlt, e1, hy, hy1, hwr, q0, q1, q2, s1, s2, r1, r2, c2, c3, c4, CJ hE, DC hE, rV hE]
  rw [GR ht]
  exact hrv3
 ·rintro e' st ⟨cs, g, hrv, rfl, rfl⟩
  rw [List.take_of_length_le (Nat.le_refl _)] at hrv
  obtain ⟨z0, z1, z2, z3, hcs⟩ := hrv.agg'
  cases hcs
  simp [-getElem?_pos, List.getElem?_cons_zero, List.getElem?_cons_succ, sG, hll, q0, q1, s0, s1, r1]
  exact G9 hrv
theorem Gq (hP : Pr E) : ∀ (m : Nat) {l : List Tm} {v : AV}, aV l < m -> Bt l -> S7 l -> Sl l v -> RS (12000010 + 4 * aV l) E (.fn iq [] []) [v] (RV (ta l))
 | m + 1, l, v, hm, hb, ko, hv, k, hk, s => by
  obtain ⟨k, rfl⟩ : ∃ j, k = j + 1 := ⟨k - 1, by omega⟩
  have hj := Pu hE hP hv hb ko fun t ht x hx => Sh hE hP hx (hb.mem ht) (by
   obtain ⟨i, hi⟩ := List.mem_iff_getElem?.1 ht
   exact (AW ko.2 hi).1) fun w hw h4 => by
    have h1 := g7 t
    have h2 := f8 ht
    refine Gq hP m (by omega) (hb.mem ht).kids ⟨ko.1, ?_⟩ hw
    obtain ⟨i, hi⟩ := List.mem_iff_getElem?.1 ht
    exact (AX (AW ko.2 hi).1 h4).1
  refine fK (Fd hE) rfl (fun bl tk => ?_) s
  obtain ⟨x, hx, hc⟩ := hj k (by omega) { bl := bl ++ [.cells [.int .i64 0, .int .i64 0, .sl .nil 1 [], .sl .nil 8 []]], tk, ro := bl.length, rt := tk.length }
  obtain ⟨w0, w1, w2, w3, rfl⟩ := hx.agg'
  simp [sq, x8, ac, aB, hc]
  exact G9 hx
end
open Go Ab Go.RowKit
set_option maxRecDepth 10000
def RL (a : Au) (r : AV) : Prop := ∃ x, r = .tup [x, .int .i64 0] /\ RV a x
theorem RL.of {p : Au × Int} {r : AV} (h : FI p r) (h0 : p.2 = 0) : RL p.1 r := by
 obtain ⟨x, rfl, h1, h2⟩ := h
 exact ⟨x, by rw [h0], h1, h2⟩
theorem TR {a : Au} {x : AV} (h : RV a x) {lo : Nat} {s : St} : ∃ r, sw lo s (.tup [x, .int .i64 0]) r /\ RL a r := by
 refine ⟨_, bW ?_, x, Cn h.2 _, h⟩
 have := h.1.data
 simp [AV.data, AV.dataL, this]
theorem HV {α : Type} {l : List α} {i : Nat} {x : α} (h : l[i]? = some x) : (l.take (i + 1)).drop i = [x] := by
 obtain ⟨hi, hx⟩ := List.getElem?_eq_some_iff.1 h
 rw [List.drop_take, show i + 1 - i = 1 by omega, List.take_one, List.head?_drop, h]; rfl
section
variable {E : ak} (hE : E.fns = af.fn ag)
include hE
theorem Lw {l : List Tm} {v : AV} (hv : Sl l v) (hb : Bt l) (ko : S7 l) {k : Nat} (hk : 12000009 + 4 * aV l <= k) (hrec : ∀ t ∈ l, t.kind = 4 -> ∀ w, Sl t.kids w -> RS (12000010 + 4 * aV t.kids) E (.fn dH [] []) [w] (RL (ta t.kids))) (s : St) :
  ∃ r, RL (ta l) r /\ au E (k + 1) none (.fn dH [] []) [v] s = some (.ret r, false, s) := by
 obtain ⟨ov, xs, rfl, ⟨hxl, hxn⟩, hxs⟩ := hv
 have hll := hxs.length
 have hln := aC l
 refine fK (zW hE) rfl (fun bl tk => ?_) s
 have q0 : ∀ (c : AB) (r : List AB), (bl ++ c :: r)[bl.length]? = some c := fun c r => by rw [ac]; rfl
 have q1 : ∀ (c d : AB) (r : List AB), (bl ++ c :: d :: r)[bl.length + 1]? = some d := fun c d r => by rw [aa]; rfl
 have s0 : ∀ (c f : AB) (r : List AB), (bl ++ c :: r).set bl.length f = bl ++ f :: r := fun c f r => by rw [aB]; rfl
 have s1 : ∀ (c d f : AB) (r : List AB), (bl ++ c :: d :: r).set (bl.length + 1) f = bl ++ c :: f :: r := fun c d f r => by rw [aj]; rfl
 have r1 : bl.length <= bl.length + 1 := by omega
 have h0 := ko.1
 obtain ⟨r0, hr0, c0⟩ := zB hE (ts := []) (v := .sl .nil 3 []) Sl.nil p8 (k := k) (by omega) { bl := bl ++ [.cells [.int .i64 0, .int .i64 0, .sl .nil 1 [], .sl .nil 8 []]], tk, ro := bl.length, rt := tk.length }
 obtain ⟨x0, rfl, hrv0⟩ := RL.of hr0 h0
 obtain ⟨n0, Qc, p0, p1, rfl⟩ := hrv0.agg'
 simp [-getElem?_pos, List.getElem?_cons_zero, List.getElem?_cons_succ, mX, rQ, q0, q1, s1, r1, c0, aq, bE, ai, az]
 refine aA l.length (fun i e' st => ∃ cs g, RV (lU (l.take i) (mO []).1) (.agg cs) /\ e' = [(0, .sl ov 3 xs), (2, .ptr bl.length 0), (4, .ptr (bl.length + 1) 0), (6, .int .i64 i)] /\ st = { bl := bl ++ .cells [.int .i64 0, .int .i64 0, .sl .nil 1 [], .sl .nil 8 []] :: .cells cs :: g, tk := tk, ro := bl.length, rt := tk.length }) (by omega) ⟨_, [], by simpa only [List.take_zero, lU] using hrv0, by simp, rfl⟩ ?_ ?_
 ·rintro i e' st hi ⟨cs, g, hrv, rfl, rfl⟩
  obtain ⟨t, ht⟩ : ∃ t, l[i]? = some t := ⟨_, List.getElem?_eq_getElem hi⟩
  have htm : t ∈ l := List.mem_of_getElem? ht
  obtain ⟨y, hy, hty⟩ := hxs.get ht
  obtain ⟨hi1, hy1⟩ := List.getElem?_eq_some_iff.1 hy
  have e1 : et (.int .i64 i) xs.length = some i := av (by omega)
  have hwr : IntKind.wrap .i64 ((i : Int) + 1) = i + 1 := ar (by omega) (by have := hb.1; omega)
  have hk2 := AW ko.2 ht
  have htn := f8 htm
  have hnt := g7 t
  have q2 : ∀ (c d f : AB) (r : List AB), (bl ++ c :: d :: (g ++ f :: r))[bl.length + (g.length + 1 + 1)]? = some f := fun c d f r => by rw [aa]; simp
  have s2 : ∀ (c d f f' : AB) (r : List AB), (bl ++ c :: d :: (g ++ f :: r)).set (bl.length + (g.length + 1 + 1)) f' = bl ++ c :: d :: (g ++ f' :: r) := fun c d f f' r => by rw [aj]; simp
  have r2 : bl.length <= bl.length + (g.length + 1 + 1) := by omega
  have hty0 := hty
  obtain ⟨w, rfl, hw⟩ := hty.open
  obtain ⟨z0, z1, z2, z3, hcs⟩ := hrv.agg'
  cases hcs
  have hlt : (i : Int) < xs.length := by omega
  -- what is joined
  have cat : ∀ (x1 : AV) (B : List AB), RV (r7 t) x1 -> ∃ n s p q, RV (lU (l.take (i + 1)) (mO []).1) (.agg [n, s, p, q]) /\ au E k none (.fn fh [] []) [.agg [z0, z1, z2, z3], x1] { bl := B, tk := tk, ro := bl.length, rt := tk.length } = some (.ret (.tup [.agg [n, s, p, q], .int .i64 0]), false, { bl := B, tk := tk, ro := bl.length, rt := tk.length }) := by
   intro x1 B hx1
   obtain ⟨r3, hr3, c3⟩ := H1 hE hrv.1 hx1.1 (wU _ _ (Od hb i) (FR p8)) (JC t (hb.mem htm)) (k := k) (by omega) { bl := B, tk := tk, ro := bl.length, rt := tk.length }
   obtain ⟨x3, rfl, hrv3⟩ := RL.of hr3 hk2.2
   obtain ⟨w0, w1, w2, w3, rfl⟩ := hrv3.agg'
   exact ⟨_, _, _, _, by rw [GR ht]; exact hrv3, c3⟩
  have ie := L3 t
  by_cases h5 : t.kind = 5
  ·rw [if_pos h5] at ie
   have c1 := Nl hE k (by omega)
   simp only [Jc] at c1
   obtain ⟨n, st, p, q, hnext, c3⟩ := cat Jc (bl ++ .cells [.int .i64 0, .int .i64 0, .sl .nil 1 [], .sl .nil 8 []] :: .cells [z0, z1, z2, z3] :: (g ++ [.cells [.int .i64 2, .int .i64 0, .sl .full 1 [.int .i64 1], .sl .full 8 (kZ 0 1)]])) (by rw [ie]; exact ⟨UI, rfl⟩)
   simp only [Jc] at c3
   simp [-getElem?_pos, List.getElem?_cons_zero, List.getElem?_cons_succ, dn, hlt, e1, hy, hy1, hwr, q0, q1, q2, s1, s2, r1, r2, h5, c1, c3]
   exact hnext
  rw [if_neg h5] at ie
  have h5' : (t.kind == 5) = false := by simpa using h5
  by_cases h6 : t.kind = 6
  ·rw [if_pos h6] at ie
   have c1 := H5 hE k (by omega)
   obtain ⟨Z, hZ⟩ : ∃ Z, Z = gM 0 1 2 ++ gM 2 2 2 := ⟨_, rfl⟩
   simp only [D6, <- hZ] at c1
   obtain ⟨n, st, p, q, hnext, c3⟩ := cat D6 (bl ++ .cells [.int .i64 0, .int .i64 0, .sl .nil 1 [], .sl .nil 8 []] :: .cells [z0, z1, z2, z3] :: (g ++ [.cells [.int .i64 3, .int .i64 0, .sl .full 1 [.int .i64 1, .int .i64 2], .sl .full 8 Z]])) (by rw [ie]; exact ⟨T6, rfl⟩)
   simp only [D6, <- hZ] at c3
   simp [-getElem?_pos, List.getElem?_cons_zero, List.getElem?_cons_succ, dn, hlt, e1, hy, hy1, hwr, q0, q1, q2, s1, s2, r1, r2, h6, c1, c3]
   exact hnext
  rw [if_neg h6] at ie
  have h6' : (t.kind == 6) = false := by simpa using h6
  by_cases h7 : t.kind = 7
  ·rw [if_pos h7] at ie
   have c1 := Nk hE k (by omega)
   simp only [JA] at c1
   obtain ⟨n, st, p, q, hnext, c3⟩ := cat JA (bl ++ .cells [.int .i64 0, .int .i64 0, .sl .nil 1 [], .sl .nil 8 []] :: .cells [z0, z1, z2, z3] :: (g ++ [.cells [.int .i64 1, .int .i64 0, .sl .full 1 [.int .i64 0], .sl .full 8 [pa 2, pa 3, pa 4, pa 5]]])) (by rw [ie]; exact ⟨Ut, rfl⟩)
   simp only [JA] at c3
   simp [-getElem?_pos, List.getElem?_cons_zero, List.getElem?_cons_succ, dn, hlt, e1, hy, hy1, hwr, q0, q1, q2, s1, s2, r1, r2, h7, c1, c3]
   exact hnext
  rw [if_neg h7] at ie
  have h7' : (t.kind == 7) = false := by simpa using h7
  by_cases h4 : t.kind = 4
  ·rw [if_pos h4] at ie
   obtain ⟨rl, ⟨xl, rfl, hxl⟩, c1⟩ := hrec t htm h4 w hw k (by omega) { bl := bl ++ .cells [.int .i64 0, .int .i64 0, .sl .nil 1 [], .sl .nil 8 []] :: .cells [z0, z1, z2, z3] :: (g ++ [.cells [.int .i64 0, .int .i64 0, .sl .nil 1 [], .sl .nil 8 []]]), tk := tk, ro := bl.length, rt := tk.length }
   obtain ⟨a0, a1, a2, a3, rfl⟩ := hxl.agg'
   have hBl : Ba (ta t.kids) := wU _ _ (hb.mem htm).kids (FR p8)
   obtain ⟨r2', hr2, c2⟩ := LD hE hxl.1 hBl (k := k) (by omega) { bl := bl ++ .cells [.int .i64 0, .int .i64 0, .sl .nil 1 [], .sl .nil 8 []] :: .cells [z0, z1, z2, z3] :: (g ++ [.cells [a0, a1, a2, a3]]), tk := tk, ro := bl.length, rt := tk.length }
   obtain ⟨xw, rfl, hxw⟩ := RL.of hr2 (AX hk2.1 h4).2
   obtain ⟨b0, b1, b2, b3, rfl⟩ := hxw.agg'
   obtain ⟨n, st, p, q, hnext, c3⟩ := cat _ (bl ++ .cells [.int .i64 0, .int .i64 0, .sl .nil 1 [], .sl .nil 8 []] :: .cells [z0, z1, z2, z3] :: (g ++ [.cells [b0, b1, b2, b3]])) (by rw [ie]; exact hxw)
   simp [-getElem?_pos, List.getElem?_cons_zero, List.getElem?_cons_succ, dn, hlt, e1, hy, hy1, hwr, q0, q1, q2, s1, s2, r1, r2, h4, c1, c2, c3]
   exact hnext
  rw [if_neg h4] at ie
  have h4' : (t.kind == 4) = false := by simpa using h4
  obtain ⟨os, hos, hsl⟩ := Ro ov 3 (by simp) xs (some (.int .i64 i)) (some (.int .i64 ((i : Int) + 1))) (l := i) (h := i + 1) (by simp [mE]; omega) (by simp [mE]; omega)
  rw [HV hy] at hsl
  obtain ⟨r2', hr2, c2⟩ := zB hE (ts := [t]) (v := .sl os 3 [.agg [.int .i64 t.kind, .str t.text, w]]) ⟨_, _, rfl, ⟨by simp [maxLen], fun h => by rw [hxn (hos h)] at hi1; cases hi1⟩, by simp only [gT]; exact ⟨_, _, rfl, hty0, rfl⟩⟩ (hb.mem htm) (k := k) (by omega) { bl := bl ++ .cells [.int .i64 0, .int .i64 0, .sl .nil 1 [], .sl .nil 8 []] :: .cells [z0, z1, z2, z3] :: (g ++ [.cells [.int .i64 0, .int .i64 0, .sl .nil 1 [], .sl .nil 8 []]]), tk := tk, ro := bl.length, rt := tk.length }
  obtain ⟨xw, rfl, hxw⟩ := RL.of hr2 (OG hk2.1 h5 h6 h7 h4)
  obtain ⟨b0, b1, b2, b3, rfl⟩ := hxw.agg'
  obtain ⟨n, st, p, q, hnext, c3⟩ := cat _ (bl ++ .cells [.int .i64 0, .int .i64 0, .sl .nil 1 [], .sl .nil 8 []] :: .cells [z0, z1, z2, z3] :: (g ++ [.cells [b0, b1, b2, b3]])) (by rw [ie]; exact hxw)
  simp [-getElem?_pos, List.getElem?_cons_zero, List.getElem?_cons_succ, dn, hlt, e1, hy, hy1, hwr, q0, q1, q2, s1, s2, r1, r2, h5', h6', h7', h4', hsl, c2, c3]
  exact hnext
 ·rintro e' st ⟨cs, g, hrv, rfl, rfl⟩
  rw [List.take_of_length_le (Nat.le_refl _)] at hrv
  obtain ⟨z0, z1, z2, z3, hcs⟩ := hrv.agg'
  cases hcs
  simp [-getElem?_pos, List.getElem?_cons_zero, List.getElem?_cons_succ, dn, hll, q0, q1, s0, s1, r1]
  exact TR hrv
theorem Ew : ∀ (m : Nat) {l : List Tm} {v : AV}, aV l < m -> Bt l -> S7 l -> Sl l v -> RS (12000010 + 4 * aV l) E (.fn dH [] []) [v] (RL (ta l))
 | m + 1, l, v, hm, hb, ko, hv, k, hk, s => by
  obtain ⟨k, rfl⟩ : ∃ j, k = j + 1 := ⟨k - 1, by omega⟩
  refine Lw hE hv hb ko (by omega) (fun t ht h4 w hw => ?_) s
  have h1 := g7 t
  have h2 := f8 ht
  refine Ew m (by omega) (hb.mem ht).kids ⟨ko.1, ?_⟩ hw
  obtain ⟨i, hi⟩ := List.mem_iff_getElem?.1 ht
  exact (AX (AW ko.2 hi).1 h4).1
end
open Go Ab Go.RowKit
set_option maxRecDepth 10000
def xY (ts : List Tm) : Nat := ((bI ts).filter vH).length
theorem SK (ts : List Tm) : xY ts <= aV ts := by have := List.length_filter_le vH (bI ts); rw [kh] at this; exact this
theorem P7 {l : List Tm} {i : Nat} {t : Tm} (h : l[i]? = some t) : xY (l.take (i + 1)) = xY (l.take i) + ((if vH t then 1 else 0) + xY t.kids) := by
 have e : l.take (i + 1) = l.take i ++ [t] := by rw [List.take_succ, h, Option.toList_some]
 rw [e]
 unfold xY
 rw [iW, el]
 cases hv : vH t <;> simp [bI, List.filter_cons, hv] <;> omega
theorem Q3 (l : List Tm) (i : Nat) : aV (l.take i) <= aV l := by
 have := kp (l.take i) (l.drop i)
 rw [List.take_append_drop] at this; omega
noncomputable def iT (ts : List Tm) : Int := if dm 7 ts ≠ 0 then dm 7 ts else if oL [] ts then 0 else 24
section
variable {E : ak} (hE : E.fns = af.fn ag)
include hE
theorem wg : ∀ (m : Nat) {l : List Tm} {v : AV}, aV l < m -> aV l <= 1048576 -> Sl l v -> bG (2 * aV l + 3) E (.fn cW [] []) [v] (.int .i64 (xY l))
 | m + 1, l, v, hm, hl, hv => by
  obtain ⟨ov, xs, rfl, ⟨hxl, _⟩, hxs⟩ := hv
  have hll := hxs.length
  have hln := aC l
  refine bG.byW (nO hE) rfl rfl (K := 2 * aV l + 2) fun k hk bl tk => ?_
  simp [fE, nL]
  refine aA l.length (fun i e' st => ∃ g, e' = [(0, .sl ov 3 xs), (3, .int .i64 (xY (l.take i))), (4, .int .i64 i)] /\ st = { bl := g, tk := tk, ro := bl.length, rt := tk.length }) (by omega) ⟨bl, by simp [xY, bI], rfl⟩ ?_ ?_
  ·rintro i e' st hi ⟨g, rfl, rfl⟩
   obtain ⟨t, ht⟩ : ∃ t, l[i]? = some t := ⟨_, List.getElem?_eq_getElem hi⟩
   have htm : t ∈ l := List.mem_of_getElem? ht
   obtain ⟨y, hy, hty⟩ := hxs.get ht
   obtain ⟨hi1, hy1⟩ := List.getElem?_eq_some_iff.1 hy
   have e1 : et (.int .i64 i) xs.length = some i := av (by omega)
   have hwr : IntKind.wrap .i64 ((i : Int) + 1) = i + 1 := ar (by omega) (by omega)
   have hnt := g7 t
   have htn := f8 htm
   have c1 := CW hE hty k (by omega)
   obtain ⟨w, rfl, hw⟩ := hty.open
   have c2 := wg m (l := t.kids) (v := w) (by omega) (by omega) hw k (by omega)
   have hlt : (i : Int) < xs.length := by omega
   have hvn := P7 ht
   have b1 := SK (l.take (i + 1))
   have b2 := Q3 l (i + 1)
   cases hv : vH t with
   | true =>
    rw [hv] at c1 hvn
    simp only [if_true] at hvn
    have w1 : IntKind.wrap .i64 ((xY (l.take i) : Int) + 1) = xY (l.take i) + 1 := ar (by omega) (by omega)
    have w2 : IntKind.wrap .i64 ((xY (l.take i) : Int) + 1 + xY t.kids) = xY (l.take (i + 1)) := by rw [hvn, ar (by omega) (by omega)]; omega
    simp [fa, hlt, e1, hy, hy1, hwr, c1, c2, w1, w2]
   | false =>
    rw [hv] at c1 hvn
    simp only [Bool.false_eq_true, if_false, Nat.zero_add] at hvn
    have w2 : IntKind.wrap .i64 ((xY (l.take i) : Int) + xY t.kids) = xY (l.take (i + 1)) := by rw [hvn, ar (by omega) (by omega)]; omega
    simp [fa, hlt, e1, hy, hy1, hwr, c1, c2, w2]
  ·rintro e' st ⟨g, rfl, rfl⟩
   rw [List.take_of_length_le (Nat.le_refl _)]
   simp [fa, hll]
theorem Px {l : List Tm} {v : AV} (hb : Bt l) (hv : Sl l v) : bG 8000000 E (.fn qE [] []) [v] (.int .i64 (iT l)) := by
 have hn := hb.1
 have c1 := Ng hE hv (M := 1048576) (by rw [show aO = 1073741824 from rfl]; omega) I7 hb.2
 have c2 := DN hE .nil hb.1 hb.2 hv
 obtain ⟨ov, xs, rfl, _⟩ := hv.len
 refine bG.byW (GK hE) rfl rfl (K := 7999999) fun k hk bl tk => ?_
 have c1 := c1 k (by omega)
 have c2 := c2 k (by omega)
 unfold iT
 by_cases h : dm 7 l = 0
 ·rw [h] at c1
  cases hs : oL [] l <;> rw [hs] at c2 <;> simp [pO, ub, c1, c2, h]
 ·have h' : (dm 7 l == 0) = false := by simpa using h
  simp [pO, ub, c1, h, h']
theorem H6 (hst : ∀ l, Bt l -> xG [] l = oL [] l) {l : List Tm} {v : AV} (hb : Bt l) (hv : Sl l v) : bG 8000000 E (.fn iQ [] []) [v] (.int .i64 (iT l)) := by
 have hn := hb.1
 have c1 := Gs hE hv (M := 1048576) (by rw [show aO = 1073741824 from rfl]; omega) I7 hb.2
 have c2 := zD hE [] .nil hb.1 (by simp) hb.2 hv
 rw [hst l hb] at c2
 obtain ⟨ov, xs, rfl, _⟩ := hv.len
 refine bG.byW (xo hE) rfl rfl (K := 7999999) fun k hk bl tk => ?_
 have c1 := c1 k (by omega)
 have c2 := c2 k (by simp; omega)
 simp only [List.map_nil] at c2
 unfold iT
 by_cases h : dm 7 l = 0
 ·rw [h] at c1
  cases hs : oL [] l <;> rw [hs] at c2 <;> simp [iA, lD, c1, c2, h]
 ·have h' : (dm 7 l == 0) = false := by simpa using h
  simp [iA, lD, c1, h, h']
end
open Go Ab Go.RowKit
set_option maxRecDepth 10000
def zn (n : List UInt8) : List (List UInt8 × Nat) -> List (List UInt8 × Nat)
 | [] => [(n, 1)]
 | (m, k) :: r => if n = m then (m, k + 1) :: r else (m, k) :: zn n r
def CM (n : List UInt8) : List (List UInt8 × Nat) -> Option Nat
 | [] => none
 | (m, k) :: r => if n = m then some k else CM n r
def Df (c : List (List UInt8 × Nat)) (ts : List Tm) : List (List UInt8 × Nat) := (bI ts).foldl (fun c t => if vH t then zn (jF t) c else c) c
def IE (c : List (List UInt8 × Nat)) : List (AV × AV) := c.map fun p => (.str p.1, .int .i64 p.2)
def Qa (c : List (List UInt8 × Nat)) (B : Nat) : Prop := ∀ p ∈ c, p.2 <= B
theorem Ln (n : List UInt8) : ∀ c : List (List UInt8 × Nat), CR (.str n) (IE c) = some ((CM n c).map fun k => .int .i64 k)
 | [] => rfl
 | (m, k) :: r => by
  simp only [IE, List.map_cons, CR, wq, CM]
  by_cases h : n = m
  ·subst h; simp
  ·have h1 : (n == m) = false := by simpa using h
   have := Ln n r
   simp only [IE] at this
   simp only [h1, h, if_false, this]
theorem OO (n : List UInt8) : ∀ c : List (List UInt8 × Nat), Hf (.str n) (.int .i64 (((CM n c).getD 0 + 1 : Nat) : Int)) (IE c) = some (IE (zn n c))
 | [] => rfl
 | (m, k) :: r => by
  simp only [IE, List.map_cons, Hf, wq, CM, zn]
  by_cases h : n = m
  ·subst h; simp
  ·have h1 : (n == m) = false := by simpa using h
   have := OO n r
   simp only [IE] at this
   simp only [h1, h, if_false, this, List.map_cons]
theorem Lg {n : List UInt8} {B : Nat} : ∀ {c : List (List UInt8 × Nat)}, Qa c B -> (CM n c).getD 0 <= B
 | [], _ => by simp [CM]
 | (m, k) :: r, h => by
  simp only [CM]
  split
  ·exact h (m, k) (List.mem_cons_self ..)
  ·exact Lg fun p hp => h p (List.mem_cons_of_mem _ hp)
theorem FW {n : List UInt8} {B : Nat} : ∀ {c : List (List UInt8 × Nat)}, Qa c B -> Qa (zn n c) (B + 1)
 | [], _ => fun p hp => by simp only [zn, List.mem_singleton] at hp; subst hp; simp
 | (m, k) :: r, h => by
  have h0 := h (m, k) (List.mem_cons_self ..)
  have hr : Qa r B := fun p hp => h p (List.mem_cons_of_mem _ hp)
  simp only [zn]
  split
  ·intro p hp
   rcases List.mem_cons.1 hp with rfl | hp
   ·simp only at h0 ⊢; omega
   ·have := hr p hp; omega
  ·intro p hp
   rcases List.mem_cons.1 hp with rfl | hp
   ·simp only at h0 ⊢; omega
   ·exact FW hr p hp
theorem LL : ∀ {l : List Tm} {c : List (List UInt8 × Nat)} {B : Nat}, Qa c B -> Qa (l.foldl (fun c t => if vH t then zn (jF t) c else c) c) (B + l.length)
 | [], c, B, h => h
 | t :: l, c, B, h => by
  simp only [List.foldl_cons, List.length_cons]
  rw [show B + (l.length + 1) = (B + 1) + l.length by omega]
  refine LL ?_
  split
  ·exact FW h
  ·intro p hp; have := h p hp; omega
theorem Q5 {c : List (List UInt8 × Nat)} {B : Nat} (h : Qa c B) (ts : List Tm) : Qa (Df c ts) (B + aV ts) := by
 have := LL (l := bI ts) h
 rw [kh] at this; exact this
theorem PM {c : List (List UInt8 × Nat)} {l : List Tm} {i : Nat} {t : Tm} (h : l[i]? = some t) : Df c (l.take (i + 1)) = Df (if vH t then zn (jF t) (Df c (l.take i)) else Df c (l.take i)) t.kids := by
 have e : l.take (i + 1) = l.take i ++ [t] := by rw [List.take_succ, h, Option.toList_some]
 rw [e]
 unfold Df
 rw [iW, el, List.foldl_append, List.foldl_cons]
 simp [bI]
section
variable {E : ak} (hE : E.fns = af.fn ag)
include hE
theorem uj (P : List AB) (tk : List Nat) (ro rt : Nat) (hro : ro <= P.length) : ∀ (n : Nat) {ts : List Tm} {v : AV} (c : List (List UInt8 × Nat)) (g : List AB) (k : Nat),
  aV ts < n -> aV ts <= 1048576 -> (∀ t ∈ bI ts, t.text.length <= 1048576) -> Qa c (1048576 - aV ts) -> Sl ts v -> 2 * aV ts + 8 <= k ->
  ∃ g', au E k none (.fn kG [] []) [v, .map (some P.length)] { bl := P ++ .amap (IE c) :: g, tk, ro, rt } = some (.ret (.map (some P.length)), false, { bl := P ++ .amap (IE (Df c ts)) :: g', tk, ro, rt })
 | 0, _, _, _, _, _, h, _, _, _, _, _ => by omega
 | n + 1, ts, v, c, g, k, hn, hm, hW, hB, hv, hk => by
  obtain ⟨o1, xs, rfl, ⟨hm1, _⟩, h1⟩ := hv
  have hl1 := h1.length
  have hlt := aC ts
  obtain ⟨k, rfl⟩ : ∃ j, k = j + 1 := ⟨k - 1, by omega⟩
  obtain ⟨rv, s', hcall, g', rfl, rfl⟩ := cI (Bg hE) (first := []) (caps := []) (args := [.sl o1 3 xs, .map (some P.length)]) rfl (k := k) (s := { bl := P ++ .amap (IE c) :: g, tk, ro, rt }) (Post := fun rv s' => ∃ g', rv = .map (some P.length) /\ s' = { bl := P ++ .amap (IE (Df c ts)) :: g', tk, ro, rt }) (by
   simp [nZ, s8, jk]
   refine aA xs.length (fun i e st => ∃ g', e = [(1, .map (some P.length)), (7, .sl o1 3 xs), (8, .int .i64 xs.length), (9, .int .i64 i)] /\ st = { bl := P ++ .amap (IE (Df c (ts.take i))) :: g', tk, ro, rt }) (by omega) ⟨g, rfl, by simp [Df, bI]⟩ ?_ ?_
   ·rintro i e st hi ⟨g', rfl, rfl⟩
    obtain ⟨t, ht⟩ : ∃ t, ts[i]? = some t := ⟨_, List.getElem?_eq_getElem (by omega)⟩
    obtain ⟨x, hx, hrt⟩ := h1.get ht
    have hmem := List.mem_of_getElem? ht
    obtain ⟨hk1, hk2⟩ := wr hmem
    have hiv := BE hE hrt k (by omega)
    have hnm := On hE hrt (hW t hk2) k (by omega)
    obtain ⟨vx, rfl, hvx⟩ := hrt.open
    obtain ⟨hi1, hx1⟩ := List.getElem?_eq_some_iff.1 hx
    have e1 : et (.int .i64 i) xs.length = some i := av hi1
    have hwr : IntKind.wrap .i64 ((i : Int) + 1) = i + 1 := ar (by omega) (by omega)
    have hsp := AR ht
    obtain ⟨C, hC⟩ : ∃ C, C = Df c (ts.take i) := ⟨_, rfl⟩
    have hCB : Qa C (1048576 - aV ts + aV (ts.take i)) := by rw [hC]; exact Q5 hB _
    have hnx := PM (c := c) ht
    rw [<- hC] at hnx ⊢
    have hro2 : ro <= P.length + (g'.length + 1) := by omega
    have hg0 : ∀ (m d : AB), (P ++ m :: (g' ++ [d]))[P.length + (g'.length + 1)]? = some d := fun m d => by rw [aa]; simp
    have hgs : ∀ (m d d' : AB), (P ++ m :: (g' ++ [d])).set (P.length + (g'.length + 1)) d' = P ++ m :: (g' ++ [d']) := fun m d d' => by rw [aj]; simp
    have q0 : ∀ (m : AB) (r : List AB), (P ++ m :: r)[P.length]? = some m := fun c r => by rw [ac]; rfl
    have s0 : ∀ (m m' : AB) (r : List AB), (P ++ m :: r).set P.length m' = P ++ m' :: r := fun m m' r => by rw [aB]; rfl
    have hll : (i : Int) < xs.length := by omega
    cases hvt : vH t with
    | true =>
     rw [hvt] at hiv
     simp only [hvt, if_true] at hnx
     have hle := Lg (n := jF t) hCB
     have hf := Ln (jF t) C
     have hset := OO (jF t) C
     have hCB' : Qa (zn (jF t) C) (1048576 - aV t.kids) := fun p hp => by have := FW hCB p hp; omega
     obtain ⟨g2, hrec⟩ := uj P tk ro rt hro n (zn (jF t) C) (g' ++ [.cells [.int .i64 t.kind, .str t.text, vx]]) k (by omega) (by omega) (fun u hu => hW u (hk1 u hu)) hCB' hvx (by omega)
     have hwo : ∀ m : Nat, m <= 2000000 -> IntKind.wrap .i64 ((m : Int) + 1) = ((m + 1 : Nat) : Int) := fun m hm => by rw [ar (by omega) (by omega)]; omega
     cases hc : CM (jF t) C with
     | none =>
      rw [hc] at hf hset
      simp only [Option.map_none, Option.getD_none, Nat.zero_add] at hf hset
      have hw1 : IntKind.wrap .i64 ((0 : Int) + 1) = 1 := by decide
      have hset' : Hf (.str (jF t)) (.int .i64 1) (IE C) = some (IE (zn (jF t) C)) := hset
      have hw1' : IntKind.wrap .i64 1 = 1 := by decide
      simp [-getElem?_pos, List.getElem?_cons_zero, List.getElem?_cons_succ, gF, hll, e1, hx, hx1, hwr, hiv, hnm, hro, hro2, hg0, hgs, q0, s0, St.map?, mH, hf, hset', hw1, hw1', hrec, hnx]
     | some m =>
      rw [hc] at hf hset hle
      simp only [Option.map_some, Option.getD_some] at hf hset hle
      have hw1 := hwo m (by omega)
      have hset' : Hf (.str (jF t)) (.int .i64 ((m : Int) + 1)) (IE C) = some (IE (zn (jF t) C)) := by exact_mod_cast hset
      have hw2 : IntKind.wrap .i64 ((m : Int) + 1) = (m : Int) + 1 := by rw [hw1]; omega
      simp [-getElem?_pos, List.getElem?_cons_zero, List.getElem?_cons_succ, gF, hll, e1, hx, hx1, hwr, hiv, hnm, hro, hro2, hg0, hgs, q0, s0, St.map?, mH, hf, hset', hw2, hrec, hnx]
    | false =>
     rw [hvt] at hiv
     simp only [hvt, Bool.false_eq_true, if_false] at hnx
     have hCB' : Qa C (1048576 - aV t.kids) := fun p hp => by have := hCB p hp; omega
     obtain ⟨g2, hrec⟩ := uj P tk ro rt hro n C (g' ++ [.cells [.int .i64 t.kind, .str t.text, vx]]) k (by omega) (by omega) (fun u hu => hW u (hk1 u hu)) hCB' hvx (by omega)
     simp [-getElem?_pos, List.getElem?_cons_zero, List.getElem?_cons_succ, gF, hll, e1, hx, hx1, hwr, hiv, hnm, hro, hro2, hg0, hgs, q0, s0, hrec, hnx]
   ·rintro e st ⟨g', rfl, rfl⟩
    rw [List.take_of_length_le (by omega)]
    simp [gF, cD])
  exact ⟨g', hcall⟩
end
open Go Ab Go.RowKit
set_option maxRecDepth 10000
def vq (l : List Tm) : Bool := xY l == (Fg l []).length
noncomputable def wt (l : List Tm) : Au × Bool × Int := if iT l ≠ 0 then (gN, false, iT l) else (ta l, vq l, 0)
def Va (p : Au × Bool × Int) (r : AV) : Prop := ∃ x, r = .tup [x, .bool p.2.1, .int .i64 p.2.2] /\ RV p.1 x
structure Ps (E : ak) : Prop where
 single : ∀ {l : List Tm} {v : AV}, Bt l -> Sl l v -> ∀ (k : Nat) (s : St), au E (k + 1) none (.fn jh [] []) [v] s = some (.ret (.bool (vq l)), false, s)
theorem Ki {p : Au × Bool × Int} {x : AV} (h : RV p.1 x) {lo : Nat} {s : St} : ∃ r, sw lo s (.tup [x, .bool p.2.1, .int .i64 p.2.2]) r /\ Va p r := by
 refine ⟨_, bW ?_, x, ?_, h⟩
 ·have := h.1.data
  simp [AV.data, AV.dataL, this]
 ·simp only [AV.untok, AV.untokL, h.2]
section
variable {E : ak} (hE : E.fns = af.fn ag)
include hE
theorem Mz {k : Nat} {i2 : Nat} (s : St) : au E (k + 1) none (.fn kg [] [.ptr i2 0]) [] s = some (.ret (.tup []), false, s) := by
 have hp : ∀ l, gc .eff none l s = s := fun l => rfl
 simp [au, vl hE, pN, vg, wA, hp, hJ, cD, HN]
theorem LJ {k : Nat} {bl : List AB} {tk : List Nat} {v w0 w1 w2 w3 z0 z1 z2 z3 : AV} (hc : au E k none (.fn iq [] []) [v] { bl := bl ++ [.cells [v], .cells [z0, z1, z2, z3], .cells [.int .i64 0]], tk, ro := bl.length, rt := tk.length } = some (.ret (.agg [w0, w1, w2, w3]), false, { bl := bl ++ [.cells [v], .cells [z0, z1, z2, z3], .cells [.int .i64 0]], tk, ro := bl.length, rt := tk.length })) (hv1 : v.cells? = some [v]) :
  au E (k + 1 + 1) none (.fn oK [] []) [.fn nj [] [.ptr bl.length 0, .ptr (bl.length + 1) 0]] { bl := bl ++ [.cells [v], .cells [z0, z1, z2, z3]], tk, ro := bl.length, rt := tk.length } =
   some (.ret (.int .i64 0), false, { bl := bl ++ [.cells [v], .cells [w0, w1, w2, w3], .cells [.int .i64 0]], tk, ro := bl.length, rt := tk.length }) := by
 have hp : ∀ p l s, gc .eff p l s = s := fun p l s => rfl
 have q0 : ∀ (c : AB) (r : List AB), (bl ++ c :: r)[bl.length]? = some c := fun c r => by rw [ac]; rfl
 have q1 : ∀ (c d : AB) (r : List AB), (bl ++ c :: d :: r)[bl.length + 1]? = some d := fun c d r => by rw [aa]; rfl
 have q2 : ∀ (c d e : AB) (r : List AB), (bl ++ c :: d :: e :: r)[bl.length + 2]? = some e := fun c d e r => by rw [aa]; rfl
 have s1 : ∀ (c d f : AB) (r : List AB), (bl ++ c :: d :: r).set (bl.length + 1) f = bl ++ c :: f :: r := fun c d f r => by rw [aj]; rfl
 have s2 : ∀ (c d e f : AB) (r : List AB), (bl ++ c :: d :: e :: r).set (bl.length + 2) f = bl ++ c :: d :: f :: r := fun c d e f r => by rw [aj]; rfl
 have r1 : bl.length <= bl.length + 1 := by omega
 have r2 : bl.length <= bl.length + 2 := by omega
 have own : ∀ i, EL E (.fn kg [] [.ptr i 0]) = true := fun i => by simp [EL, vl hE]
 have gn := fun i st => Mz hE (k := k) (i2 := i) st
 have g1 : au E (k + 1) none (.fn nj [] [.ptr bl.length 0, .ptr (bl.length + 1) 0]) [] { bl := bl ++ [.cells [v], .cells [z0, z1, z2, z3], .cells [.int .i64 0]], tk, ro := bl.length, rt := tk.length } = some (.ret (.tup []), false, { bl := bl ++ [.cells [v], .cells [w0, w1, w2, w3], .cells [.int .i64 0]], tk, ro := bl.length, rt := tk.length }) := by
  rw [au]
  simp [-getElem?_pos, List.getElem?_cons_zero, List.getElem?_cons_succ, GI hE, tR, zj, wA, hp, q0, q1, s1, r1, hc, hJ, cD]
 rw [au]
 simp [-getElem?_pos, List.getElem?_cons_zero, List.getElem?_cons_succ, Fc hE, sn, x7, wA, hp, q0, q1, q2, s1, s2, r1, r2, g1, gn, own, hJ, cD]
theorem Sd (hP : Pr E) (hS : Ps E) {l : List Tm} {v : AV} (hv : Sl l v) (hb : Bt l) (ko : iT l = 0 -> S7 l) : RS 18000000 E (.fn qC [] []) [v] (Va (wt l)) := by
 intro k hk s
 obtain ⟨k, rfl⟩ : ∃ j, k = j + 1 := ⟨k - 1, by omega⟩
 obtain ⟨k', hk'⟩ : ∃ j, k = j + 1 := ⟨k - 1, by omega⟩
 obtain ⟨k2, hk2⟩ : ∃ j, k = j + 1 + 1 := ⟨k - 2, by omega⟩
 have c1 := Px hE hb hv k (by omega)
 have c9 := fun st => hS.single hb hv k' st
 rw [<- hk'] at c9
 have hv0 := hv
 have hn := hb.1
 obtain ⟨ov, xs, rfl, _⟩ := hv.len
 refine fK (Kb hE) rfl (fun bl tk => ?_) s
 have q0 : ∀ (c : AB) (r : List AB), (bl ++ c :: r)[bl.length]? = some c := fun c r => by rw [ac]; rfl
 have q1 : ∀ (c d : AB) (r : List AB), (bl ++ c :: d :: r)[bl.length + 1]? = some d := fun c d r => by rw [aa]; rfl
 have s1 : ∀ (c d f : AB) (r : List AB), (bl ++ c :: d :: r).set (bl.length + 1) f = bl ++ c :: f :: r := fun c d f r => by rw [aj]; rfl
 have r1 : bl.length <= bl.length + 1 := by omega
 by_cases h0 : iT l = 0
 ·have e : wt l = (ta l, vq l, 0) := by unfold wt; rw [if_neg (by simp [h0])]
  rw [e]
  rw [h0] at c1
  obtain ⟨x, hx, c2⟩ := Gq hE hP _ (Nat.lt_succ_self _) hb (ko h0) hv0 k2 (by omega) { bl := bl ++ [.cells [.sl ov 3 xs], .cells [.int .i64 0, .int .i64 0, .sl .nil 1 [], .sl .nil 8 []], .cells [.int .i64 0]], tk, ro := bl.length, rt := tk.length }
  obtain ⟨w0, w1, w2, w3, rfl⟩ := hx.agg'
  have c3 := LJ hE (k := k2) (bl := bl) (tk := tk) (v := .sl ov 3 xs) (z0 := .int .i64 0) (z1 := .int .i64 0) (z2 := .sl .nil 1 []) (z3 := .sl .nil 8 []) c2 rfl
  rw [<- hk2] at c3
  simp [-getElem?_pos, List.getElem?_cons_zero, List.getElem?_cons_succ, tf, wT, q0, q1, s1, r1, c1, c3, c9]
  exact Ki (p := (ta l, vq l, 0)) hx
 ·have h0' : (iT l == 0) = false := by simpa using h0
  have e : wt l = (gN, false, iT l) := by unfold wt; rw [if_pos h0]
  rw [e]
  simp [-getElem?_pos, List.getElem?_cons_zero, List.getElem?_cons_succ, tf, wT, q0, q1, s1, r1, c1, h0, h0', aq, bE, ai, az]
  exact Ki (p := (gN, false, iT l)) (x := vz) ⟨mK, rfl⟩
theorem LB (hst : ∀ l, Bt l -> xG [] l = oL [] l) {l : List Tm} {v : AV} (hv : Sl l v) (hb : Bt l) (ko : iT l = 0 -> S7 l) : RS 18000000 E (.fn j9 [] []) [v] (Va (wt l)) := by
 intro k hk s
 obtain ⟨k, rfl⟩ : ∃ j, k = j + 1 := ⟨k - 1, by omega⟩
 have c1 := H6 hE hst hb hv k (by omega)
 have hv0 := hv
 have hn := hb.1
 have c4 := wg hE _ (Nat.lt_succ_self _) hb.1 hv k (by omega)
 obtain ⟨ov, xs, rfl, _⟩ := hv.len
 refine fK (zV hE) rfl (fun bl tk => ?_) s
 have q0 : ∀ (c : AB) (r : List AB), (bl ++ c :: r)[bl.length]? = some c := fun c r => by rw [ac]; rfl
 have q1 : ∀ (c d : AB) (r : List AB), (bl ++ c :: d :: r)[bl.length + 1]? = some d := fun c d r => by rw [aa]; rfl
 have s0 : ∀ (c f : AB) (r : List AB), (bl ++ c :: r).set bl.length f = bl ++ f :: r := fun c f r => by rw [aB]; rfl
 have s1 : ∀ (c d f : AB) (r : List AB), (bl ++ c :: d :: r).set (bl.length + 1) f = bl ++ c :: f :: r := fun c d f r => by rw [aj]; rfl
 have r1 : bl.length <= bl.length + 1 := by omega
 by_cases h0 : iT l = 0
 ·have e : wt l = (ta l, vq l, 0) := by unfold wt; rw [if_neg (by simp [h0])]
  rw [e]
  rw [h0] at c1
  obtain ⟨r, ⟨x, rfl, hx⟩, c2⟩ := Ew hE _ (Nat.lt_succ_self _) hb (ko h0) hv0 k (by omega) { bl := bl ++ [.cells [.int .i64 0, .int .i64 0, .sl .nil 1 [], .sl .nil 8 []]], tk, ro := bl.length, rt := tk.length }
  obtain ⟨w0, w1, w2, w3, rfl⟩ := hx.agg'
  obtain ⟨r3, ⟨o3, _, rfl, _⟩, c3⟩ := CT hE hb.1 hb.2 hv0 k (by omega) { bl := bl ++ [.cells [.int .i64 0, .int .i64 0, .sl .nil 1 [], .sl .nil 8 []], .cells [w0, w1, w2, w3]], tk, ro := bl.length, rt := tk.length }
  have hon : ((xY l : Int) == ((Fg l []).length : Int)) = vq l := by
   unfold vq
   rw [Bool.eq_iff_iff, beq_iff_eq, beq_iff_eq]; exact Int.ofNat_inj
  simp [-getElem?_pos, List.getElem?_cons_zero, List.getElem?_cons_succ, jS, m8, q0, q1, s0, s1, r1, c1, c2, c3, c4, uP hE, uO hE, aq, bE, ai, az]
  rw [hon]
  exact Ki (p := (ta l, vq l, 0)) hx
 ·have h0' : (iT l == 0) = false := by simpa using h0
  have e : wt l = (gN, false, iT l) := by unfold wt; rw [if_pos h0]
  rw [e]
  simp [-getElem?_pos, List.getElem?_cons_zero, List.getElem?_cons_succ, jS, m8, q0, q1, s0, s1, r1, c1, h0, h0', aq, bE, ai, az]
  exact Ki (p := (gN, false, iT l)) (x := vz) ⟨mK, rfl⟩
end
open Go Ab
structure Un (c : List (List UInt8 × Nat)) (out : List (List UInt8)) (m : Nat) : Prop where
 nm : c.map (·.1) = out
 sum : (c.map (·.2)).sum = m
 pos : ∀ p ∈ c, 1 <= p.2
theorem K7 {n : List UInt8} : ∀ {c : List (List UInt8 × Nat)} {out : List (List UInt8)} {m : Nat}, Un c out m -> Un (zn n c) (if out.contains n then out else out ++ [n]) (m + 1)
 | [], out, m, h => by
  obtain ⟨rfl, rfl, _⟩ := h
  refine ⟨rfl, rfl, fun p hp => ?_⟩
  simp only [zn, List.mem_singleton] at hp
  subst hp; exact Nat.le_refl _
 | (a, k) :: r, out, m, h => by
  obtain ⟨rfl, rfl, h3⟩ := h
  have hr : Un r (r.map (·.1)) (r.map (·.2)).sum := ⟨rfl, rfl, fun p hp => h3 p (List.mem_cons_of_mem _ hp)⟩
  have h0 := h3 (a, k) (List.mem_cons_self ..)
  obtain ⟨i1, i2, i3⟩ := K7 (n := n) hr
  simp only [zn, List.map_cons, List.contains_cons]
  by_cases e : n = a
  ·subst e
   rw [if_pos rfl]
   simp only [BEq.rfl, Bool.true_or, if_true, List.map_cons, List.sum_cons]
   refine ⟨rfl, by simp only [List.map_cons, List.sum_cons]; omega, fun p hp => ?_⟩
   rcases List.mem_cons.1 hp with rfl | hp
   ·exact Nat.succ_le_succ (Nat.zero_le _)
   ·exact h3 p (List.mem_cons_of_mem _ hp)
  ·rw [if_neg e]
   have e' : (n == a) = false := by simpa using e
   simp only [e', Bool.false_or]
   refine ⟨?_, ?_, fun p hp => ?_⟩
   ·rw [List.map_cons, i1]; split <;> simp
   ·simp only [List.map_cons, List.sum_cons, i2]; omega
   ·rcases List.mem_cons.1 hp with rfl | hp
    ·exact h0
    ·exact i3 p hp
theorem Su {t : Tm} (h : vH t = true) : (jF t == []) = false := by
 unfold vH at h
 simp only [Bool.and_eq_true, decide_eq_true_eq] at h
 have : t.kind = 5 \/ t.kind = 6 \/ t.kind = 7 := by omega
 unfold jF
 rcases this with e | e | e <;> simp [e]
theorem TH {t : Tm} (h : vH t = false) : (jF t == []) = true := by
 have : t.kind ≠ 5 /\ t.kind ≠ 6 /\ t.kind ≠ 7 := by
  refine ⟨fun e => ?_, fun e => ?_, fun e => ?_⟩ <;> simp [vH, e] at h
 unfold jF
 rw [if_neg this.1, if_neg this.2.1, if_neg this.2.2]; rfl
theorem Gv : ∀ (l : List Tm) {c : List (List UInt8 × Nat)} {out : List (List UInt8)} {m : Nat}, Un c out m ->
  Un (l.foldl (fun c t => if vH t then zn (jF t) c else c) c) (l.foldl m4 out) (m + (l.filter vH).length)
 | [], c, out, m, h => h
 | t :: l, c, out, m, h => by
  simp only [List.foldl_cons]
  cases hv : vH t with
  | true =>
   have e : m4 out t = if out.contains (jF t) then out else out ++ [jF t] := by unfold m4; rw [Su hv]; simp
   rw [e, List.filter_cons_of_pos hv, List.length_cons, if_pos rfl]
   have := Gv l (K7 (n := jF t) h)
   rwa [show m + 1 + (l.filter vH).length = m + ((l.filter vH).length + 1) by omega] at this
  | false =>
   have e : m4 out t = out := by unfold m4; rw [TH hv]; simp
   rw [e, List.filter_cons_of_neg (by rw [hv]; decide), if_neg (by decide)]
   exact Gv l h
theorem N6 : ∀ (c : List (List UInt8 × Nat)), (∀ p ∈ c, 1 <= p.2) -> c.length <= (c.map (·.2)).sum /\ (c.all (fun p => decide (p.2 <= 1)) = true ↔ (c.map (·.2)).sum = c.length)
 | [], _ => by simp
 | p :: r, h => by
  obtain ⟨i1, i2⟩ := N6 r fun q hq => h q (List.mem_cons_of_mem _ hq)
  have h0 := h p (List.mem_cons_self ..)
  simp only [List.map_cons, List.sum_cons, List.length_cons, List.all_cons, Bool.and_eq_true, decide_eq_true_eq, i2]
  omega
theorem Q6 (l : List Tm) : ((Df [] l).all fun p => decide (p.2 <= 1)) = vq l := by
 have h := Gv (bI l) (c := []) (out := []) (m := 0) ⟨rfl, rfl, fun p hp => by cases hp⟩
 rw [Nat.zero_add] at h
 obtain ⟨h1, h2, h3⟩ := h
 have h4 := (N6 _ h3).2
 have h5 : (Df [] l).length = (Fg l []).length := by
  have := congrArg List.length h1
  rw [List.length_map] at this
  exact this
 have h6 : ((Df [] l).map (·.2)).sum = xY l := h2
 unfold vq
 rw [Bool.eq_iff_iff, beq_iff_eq, <- h5, <- h6]
 exact h4
open Go Ab Go.RowKit
def xu : List AV -> Option (List Int)
 | [] => some []
 | .int .i64 n :: r => match xu r with | some l => some (n :: l) | none => none
 | _ => none
theorem z6 : ∀ l : List Int, xu (ao l) = some l
 | [] => rfl
 | n :: l => by show (match xu (ao l) with | some l => some (n :: l) | none => none) = _; rw [z6 l]
theorem AU : ∀ {xs : List AV} {l : List Int}, xu xs = some l -> xs = ao l
 | [], l, h => by simp only [xu, Option.some.injEq] at h; subst h; rfl
 | x :: r, l, h => by
  unfold xu at h
  split at h
  ·rename_i e; cases e
  ·rename_i n q e
   cases e
   split at h
   ·rename_i m hm
    cases h
    rw [AU hm]; rfl
   ·cases h
  ·cases h
def JL : Nat -> List AV -> Option (List Tm)
 | 0, xs => match xs with | [] => some [] | _ => none
 | n + 1, xs => match xs with
  | [] => some []
  | .agg [.int .i64 k, .str s, .sl _ 3 ys] :: r => match JL n ys with
   | some a => match JL n r with
    | some b => some (.mk k s a :: b)
    | none => none
   | none => none
  | _ => none
theorem M3 : ∀ (n : Nat) {l : List Tm} {xs : List AV}, gT l xs -> aV l <= n -> JL n xs = some l
 | 0, l, xs, h, hn => by
  cases l with
  | nil => simp only [gT] at h; subst h; rfl
  | cons t r => have := GU t; simp only [aV] at hn; omega
 | n + 1, l, xs, h, hn => by
  cases l with
  | nil => simp only [gT] at h; subst h; rfl
  | cons t r =>
   obtain ⟨k, s, kids⟩ := t
   simp only [gT, Rt] at h
   obtain ⟨y, q, rfl, ⟨o, ys, rfl, _, h1⟩, h2⟩ := h
   simp only [aV, nT] at hn
   have e1 := M3 n h1 (by omega)
   have e2 := M3 n h2 (by omega)
   simp only [JL, e1, e2]
theorem NC {L : Lk} {g : Gh} {w : World} : ∀ (n : Nat) {l : List Tm} {xs : List AV} {vs : List Value}, JL n xs = some l -> aV l <= 1048576 -> aw L g w xs vs -> gT l xs
 | 0, l, xs, vs, h, hn, hr => by
  unfold JL at h
  split at h
  ·cases h; simp only [gT]
  ·cases h
 | n + 1, l, xs, vs, h, hn, hr => by
  unfold JL at h
  split at h
  ·cases h; simp only [gT]
  ·rename_i k s o ys r
   split at h
   ·rename_i a ha
    split at h
    ·rename_i b hb
     cases h
     simp only [aV, nT] at hn
     simp only [aw, ay] at hr
     obtain ⟨v, q, rfl, ⟨us, rfl, ⟨u1, r1, rfl, _, u2, r2, rfl, _, u3, r3, rfl, h3, _⟩, _⟩, hrr⟩ := hr
     obtain ⟨a', cap, ws, rfl, hc, _, hws, _, hl, ho⟩ := h3
     have i1 := NC n ha (by omega) hws
     have i2 := NC n hb (by omega) hrr
     simp only [gT, Rt]
     refine ⟨_, _, rfl, ⟨o, ys, rfl, ⟨?_, fun e => ?_⟩, i1⟩, i2⟩
     ·have := i1.length
      have := aC a
      have hm : maxLen = 9223372036854775807 := rfl
      omega
     ·subst e
      simp only [tT] at ho
      exact List.eq_nil_of_length_eq_zero ho.2.1
    ·cases h
   ·cases h
  ·cases h
def Vd (l : List Tm) : Bool := decide (aV l <= 1048576) && (bI l).all fun t => decide (t.text.length <= 1048576)
theorem Oc {l : List Tm} : Vd l = true ↔ Bt l := by
 simp only [Vd, Bool.and_eq_true, decide_eq_true_eq, List.all_eq_true, Bt]
def Ql : List Int -> Bool
 | [] => true
 | x :: l => l.all (fun y => decide (x < y)) && Ql l
theorem FO : ∀ {l : List Int}, Ql l = true ↔ ri l
 | [] => by simp [Ql, ri]
 | x :: l => by
  have := FO (l := l)
  simp only [Ql, Bool.and_eq_true, List.all_eq_true, decide_eq_true_eq, this, ri, List.pairwise_cons]
def FF : List AV -> St -> Option (AV × St)
 | [.sl _ 3 xs], s => match JL 1048576 xs with
  | some l => if Vd l then some (.bool (vq l), s) else none
  | none => none
 | _, _ => none
def RY : List AV -> St -> Option (AV × St)
 | [.sl _ 1 [.sl _ 1 xs, .sl _ 1 ys]], s => match xu xs with
  | some a => match xu ys with
   | some b => if decide (a.length + b.length <= aO) then some (ti 1 (ao (bg (a ++ b))), s) else none
   | none => none
  | none => none
 | _, _ => none
def TN (o : gu) (l : List Int) (s : St) : Bool := match o with
 | .nil => l.isEmpty
 | .tok t => !l.isEmpty && s.tk[t]? == some l.length
 | _ => false
def OQ : List AV -> St -> Option (AV × St)
 | [.sl o 1 xs], s => match xu xs with
  | some l => if Ql l && decide (l.length <= aO) && TN o l s then some (.tup [], s) else none
  | none => none
 | _, _ => none
def NI (f : Nat) (args : List AV) (s : St) : Option (AV × St) :=
 if f = jh then FF args s else if f = dj then RY args s else if f = cq then OQ args s else none
def E0 : ak := { fns := af.fn ag, glob := fun _ => .junk, prim := fun _ _ => none }
def EP : ak := { fns := af.fn ag, glob := fun _ => .junk, prim := fun _ _ => none, eff := fun f => f == jh || f == dj || f == cq, prims := NI }
set_option maxRecDepth 100000 in
theorem PJ : EP.fns jh = none := rfl
set_option maxRecDepth 100000 in
theorem TI : EP.fns dj = none := rfl
set_option maxRecDepth 100000 in
theorem Sv : EP.fns cq = none := rfl
theorem ps : Ps EP where
 single := by
  intro l v hb hv k s
  obtain ⟨o, xs, rfl, _, h⟩ := hv
  have hd := M3 1048576 h hb.1
  simp only [au, PJ, List.nil_append, List.append_nil]
  have he : EP.eff jh = true := rfl
  have hp : EP.prims jh [.sl o 3 xs] s = some (.bool (vq l), s) := by
   show FF [.sl o 3 xs] s = _
   simp only [FF, hd, Oc.2 hb, if_true]
  simp only [he, hp, if_true, Option.isSome_none, Bool.false_eq_true, if_false]
theorem pr : Pr EP where
 sort := by
  intro o L ha hl tk h ho k bl ro rt
  simp only [au, Sv, List.nil_append, List.append_nil]
  have he : EP.eff cq = true := rfl
  have hp : EP.prims cq [.sl o 1 (ao L)] { bl, tk := tk ++ h, ro, rt } = some (.tup [], { bl, tk := tk ++ h, ro, rt }) := by
   show OQ [.sl o 1 (ao L)] _ = _
   simp only [OQ, z6, FO.2 ha, decide_eq_true hl, Bool.true_and]
   rcases ho with ⟨h1, h2⟩ | ⟨q, h1, h2, h3⟩
   ·have : L = [] := by simpa [ao] using h1
    subst this
    simp only [AV.sl.injEq] at h2
    obtain ⟨rfl, _⟩ := h2
    rfl
   ·simp only [AV.sl.injEq, true_and] at h1
    obtain ⟨rfl, _⟩ := h1
    have e1 : L.isEmpty = false := by
     cases L with
     | nil => exact absurd rfl h3
     | cons => rfl
    have e2 : (tk ++ h)[tk.length + q]? = some L.length := by
     rw [aa, h2]; simp [ao]
    simp only [TN, e1, e2, Bool.not_false, Bool.true_and, BEq.rfl, if_true]
  simp only [he, hp, if_true, Option.isSome_none, Bool.false_eq_true, if_false]
 asc := by
  intro o o1 o2 l1 l2 hl k s
  simp only [au, TI, List.nil_append, List.append_nil]
  have he : EP.eff dj = true := rfl
  have hp : EP.prims dj [.sl o 1 [.sl o1 1 (ao l1), .sl o2 1 (ao l2)]] s = some (ti 1 (ao (bg (l1 ++ l2))), s) := by
   show RY [.sl o 1 [.sl o1 1 (ao l1), .sl o2 1 (ao l2)]] s = _
   simp only [RY, z6, decide_eq_true hl, if_true]
  simp only [he, hp, if_true, Option.isSome_none, Bool.false_eq_true, if_false]
open Go Ab Go.RowKit
set_option maxRecDepth 10000
def U9 (vs : List AV) : Prop := ∀ v ∈ vs, ∃ o ys, v = .sl o 1 ys
def um (T n : Nat) (ys : List AV) : AV := if n = 0 then .sl .nil 1 [] else .sl (.tok T) 1 ys
def ul (tk : List Nat) (n : Nat) (ys : List AV) : List Nat := if n = 0 then tk else tk ++ [ys.length]
theorem O2 {bl : List AB} {tk : List Nat} {ro rt n : Nat} {ys zs : List AV} {o : gu} (hl : ys.length + zs.length <= aO) (hr : rt <= tk.length) (h0 : n = 0 -> zs = []) (h1 : n = 0 -> ys = []) :
  oc { bl, tk := ul tk n ys, ro, rt } 1 (um tk.length n ys) (.sl o 1 zs) = some (um tk.length n (ys ++ AV.untokL zs), { bl, tk := ul tk n (ys ++ AV.untokL zs), ro, rt }) := by
 cases zs with
 | nil => by_cases hn : n = 0 <;> simp [um, ul, oc, oZ, AV.untokL, hn] <;> simpa using hl
 | cons a zs =>
  have hn : n ≠ 0 := fun h => by cases h0 h
  simp only [List.length_cons] at hl
  simp [um, ul, oc, oZ, AV.untokL, hn, hl, hr]
section
variable {E : ak} (hE : E.fns = af.fn ag)
include hE
theorem MU (n : Nat) (hn : n <= aO) : ∀ k, 1 <= k -> ∀ s, au E k none (.fn gt [] []) [.sl .nil 1 [], .int .i64 n] s = some (.ret (um s.tk.length n []), false, { s with tk := ul s.tk n [] }) := by
 intro k hk s
 obtain ⟨j, rfl⟩ : ∃ j, k = j + 1 := ⟨k - 1, by omega⟩
 have hmm : aO = 1073741824 := rfl
 have hw : IntKind.wrap .i64 (n : Int) = n := ar (by omega) (by omega)
 have hw0 : IntKind.wrap .i64 0 = 0 := ar (by omega) (by omega)
 have hlt0 : ¬ ((n : Int) < 0) := by omega
 have key := cI (vG hE) (first := []) (caps := []) (args := [.sl .nil 1 [], .int .i64 n]) rfl (k := j) (s := s) (Post := fun v s' => v = um s.tk.length n [] /\ s' = { s with tk := ul s.tk n [] }) (by
  by_cases h0 : n = 0
  ·subst h0
   simp [gk, km, jk, cD, um, ul, hw0, sK]
  ·have hpos : 0 < n := by omega
   simp [gk, km, jk, cD, um, ul, hw0, hw, sK, hlt0, hpos, hn, mE, h0])
 obtain ⟨v, s', h, rfl, rfl⟩ := key
 exact h
theorem I0 (T : Nat) (tk : List Nat) (ys : List AV) : um T ys.length ys = gb 1 T ys /\ ul tk ys.length ys = cU tk ys := by
 unfold um ul gb cU
 by_cases h : ys = []
 ·subst h; simp
 ·have : ys.length ≠ 0 := fun e => h (List.eq_nil_of_length_eq_zero e)
  simp [h, this]
theorem Nd (o : gu) {vs : List AV} (hS : U9 vs) (hv : vs.length <= 1048576) (hn : (bD vs).length <= aO) (hd : AV.dataL (bD vs) = true) {k : Nat} (hk : vs.length + 4 <= k) (s : St) :
  au E k none (.fn jf [] []) [.sl o 1 vs] s = some (.ret (gb 1 s.tk.length (bD vs)), false, { s with tk := cU s.tk (bD vs) }) := by
 obtain ⟨k, rfl⟩ : ∃ j, k = j + 1 := ⟨k - 1, by omega⟩
 have hK := MU hE (bD vs).length hn
 have hmm : aO = 1073741824 := rfl
 have hget : ∀ i, i < vs.length -> ∃ o ys, vs[i]? = some (.sl o 1 ys) := fun i hi => by
  obtain ⟨o, ys, h⟩ := hS _ (List.getElem_mem hi)
  exact ⟨o, ys, by rw [List.getElem?_eq_getElem hi, h]⟩
 obtain ⟨v, s', h1, rfl, rfl⟩ := cI (uv hE) (first := []) (caps := []) (args := [.sl o 1 vs]) rfl (k := k) (s := s) (Post := fun v s' => v = gb 1 s.tk.length (bD vs) /\ s' = { s with tk := cU s.tk (bD vs) }) (by
  simp [i6, na, jk]
  refine aA vs.length (fun i e st => e = [(0, .sl o 1 vs), (3, .int .i64 (bD (vs.take i)).length), (9, .sl o 1 vs), (10, .int .i64 vs.length), (11, .int .i64 i)] /\ st = { bl := s.bl, tk := s.tk, ro := s.bl.length, rt := s.tk.length }) (by omega) (by simp [bD]) ?_ ?_
  ·rintro i e st hi ⟨rfl, rfl⟩
   obtain ⟨o', ys, hx⟩ := hget i hi
   obtain ⟨_, hx1⟩ := List.getElem?_eq_some_iff.1 hx
   have e1 : et (.int .i64 i) vs.length = some i := av hi
   have hf := w8 hx
   have hle := CS vs (i + 1)
   have hfl : (bD (vs.take (i + 1))).length = (bD (vs.take i)).length + ys.length := by rw [hf]; simp
   have hw : IntKind.wrap .i64 ((i : Int) + 1) = i + 1 := ar (by omega) (by omega)
   have hw2 : IntKind.wrap .i64 (((bD (vs.take i)).length : Int) + ys.length) = (bD (vs.take (i + 1))).length := by rw [ar (by omega) (by omega)]; omega
   have hlt0 : ¬ (((bD (vs.take (i + 1))).length : Int) < 0) := by omega
   simp [iH, hi, e1, hx, hx1, hw, hw2, hlt0]
  ·rintro e st ⟨rfl, rfl⟩
   simp [iH, hK k (by omega)]
   refine aA vs.length (fun i e st => e = [(6, um s.tk.length (bD vs).length (bD (vs.take i))), (25, .sl o 1 vs), (26, .int .i64 vs.length), (27, .int .i64 i)] /\ st = { bl := s.bl, tk := ul s.tk (bD vs).length (bD (vs.take i)), ro := s.bl.length, rt := s.tk.length }) (by omega) (by simp [bD]) ?_ ?_
   ·rintro i e st hi ⟨rfl, rfl⟩
    obtain ⟨o', ys, hx⟩ := hget i hi
    obtain ⟨_, hx1⟩ := List.getElem?_eq_some_iff.1 hx
    have e1 : et (.int .i64 i) vs.length = some i := av hi
    have hf := w8 hx
    have hle := CS vs (i + 1)
    have hfl : (bD (vs.take (i + 1))).length = (bD (vs.take i)).length + ys.length := by rw [hf]; simp
    have hw : IntKind.wrap .i64 ((i : Int) + 1) = i + 1 := ar (by omega) (by omega)
    have hap := O2 (bl := s.bl) (tk := s.tk) (ro := s.bl.length) (rt := s.tk.length) (n := (bD vs).length) (ys := bD (vs.take i)) (zs := ys) (o := o') (by omega) (Nat.le_refl _) (fun h => List.eq_nil_of_length_eq_zero (by omega)) (fun h => List.eq_nil_of_length_eq_zero (by omega))
    rw [<- hf] at hap
    simp [iI, hi, e1, hx, hx1, hw, hap]
   ·rintro e st ⟨rfl, rfl⟩
    rw [List.take_of_length_le (Nat.le_refl _)]
    simp only [(I0 hE s.tk.length s.tk (bD vs)).1, (I0 hE s.tk.length s.tk (bD vs)).2]
    simp [iI]
    rw [tE hd rfl]
    simp)
 exact h1
end
end Ab.C
namespace Ab
open Go Go.RowKit
variable {P : Program} {L : eB} {E : ak}
theorem K9 (hE : Is P L E) {f : Nat} {n : Nat} {args : List AV} {v : AV} {rd : Bool} {s s' : St} (h : au E n none (.fn f [] []) args s = some (.ret v, rd, s')) (hf : (E.fns f).isSome = true) {g : Gh} {w : World} (hs : cp L.toLk (vA P L) g s w) (hgl : Bv L E g w) {cargs : List Value} (ha : aw L.toLk g w args cargs) :
  Calls P (L.fnOf f) cargs.toArray w fun e w' => ∃ cv g', e = .returned cv /\ cp L.toLk (vA P L) g' s' w' /\ nv g s w g' s' w' /\ ay L.toLk g' w' v cv := by
 cases n with
 | zero => simp [au] at h
 | succ n =>
  cases hF : E.fns f with
  | none => rw [hF] at hf; cases hf
  | some F =>
   simp only [au, hF, List.nil_append, List.append_nil] at h
   intro cs
   obtain ⟨g', w', fn, fr, cv, h0, h1, h2, h3, h4, h5, h6, h7, h8, a1, a2, a3⟩ := FD hE.inj (F0 hE n) (vZ n) (hE.fns f F hF) h hs hgl ha .normal cs (.inl rfl)
   have hrec : rd = false := by
    cases hr : rd with
    | false => rfl
    | true => have := (h7 hr).1; cases this
   rw [hrec] at h8
   exact ⟨.returned cv, w', fr, ⟨cv, g', rfl, h1, h2, a1⟩, h8, h3, a2, h5, h4, fn, by rw [h3]; exact h0, a3⟩
open Go Go.RowKit
variable {P : Program} {L : eB} {E : ak} {C : eR}
theorem OK {g : Gh} {s : St} {w w1 : World} (hs : cp L.toLk C g s w) (hh : w1.heap = w.heap) {args : List AV} {cargs : List Value} (hd : AV.dataL args = true) (ha : aw L.toLk g w args cargs) : aw L.toLk (g0 w1) w1 (AV.untokL args) cargs :=
 aw.untok true (fun e => by cases e) (fun b o hi => ⟨by show b < w1.heap.size; rw [hh]; exact hs.immIn b o hi, iV (by rw [hh]) o⟩) args cargs (fun _ => hd) ha
theorem S4 {E' : ak} (hj : ∀ n, E.glob n = .junk) {g : Gh} {s : St} {w w1 : World} (hs : cp L.toLk C g s w) (hgl : Bv L E' g w) (hh : w1.heap = w.heap) (h1 : w1.os = w.os) (h2 : w1.tape = w.tape) (h3 : w1.output = w.output) : Bv L E (g0 w1) w1 where
 glob n := by rw [hj n]; simp [ay]
 plain n := .inl (hj n)
 base := by show _ <= w1.heap.size; rw [hh]; exact Nat.le_trans hgl.base hs.baseIn
 below := hgl.below.trans ⟨h1, h2, h3, by rw [hh]; exact Nat.le_refl _, fun k _ => by rw [hh]⟩
theorem nv.below {g g' : Gh} {s s' : St} {w w' : World} (x : nv g s w g' s' w') : Below g.base w w' := ⟨x.os, x.tape, x.out, x.size, x.old⟩
theorem FS {B : Nat} {w w1 w2 : World} (hh : w1.heap = w.heap) (h1 : w1.os = w.os) (h2 : w1.tape = w.tape) (h3 : w1.output = w.output) (hb : Below B w1 w2) : Below B w w2 :=
 ⟨hb.os.trans h1, hb.tape.trans h2, hb.output.trans h3, by rw [<- hh]; exact hb.size, fun k hk => by rw [<- hh]; exact hb.block k hk⟩
theorem cp.shutNew {g : Gh} {s : St} {w w' : World} (hs : cp L.toLk C g s w) (hb : Below w.heap.size w w') :
  cp L.toLk C (g.shut fun b => w.heap.size <= b /\ b < w'.heap.size) s w' /\ nv g s w (g.shut fun b => w.heap.size <= b /\ b < w'.heap.size) s w' := by
 obtain ⟨h1, x1⟩ := hs.below hb
 have hge := GE.shut g (fun b => w.heap.size <= b /\ b < w'.heap.size) w'
 refine ⟨⟨h1.bl, h1.tk, fun i b x hi hx => (h1.blocks i b x hi hx).mono hge rfl, h1.inj, ?_, h1.blBase, fun t T hT => ?_, h1.tokInj, ?_, h1.baseIn, h1.dfr, h1.lps, h1.ro, h1.rt⟩,
  x1.trans ⟨hge, fun _ h => h, rfl, fun _ _ => rfl, Nat.le_refl _, rfl, rfl, rfl, rfl, rfl, fun _ _ => rfl, fun _ _ => rfl, fun _ _ _ _ => rfl, ?_⟩⟩
 ·rintro i b o hi (h | h)
  ·exact h1.sep i b o hi h
  ·have := hs.lt hi; omega
 ·have T1 := h1.toks t T hT
  obtain ⟨c, e, fz, h2, _⟩ := (hs.toks t T hT).space
  have hlt := aT h2
  exact ⟨T1.spot, T1.space, T1.top, fun o ho h => h.elim (T1.free o ho) fun h => by omega, T1.own, T1.base⟩
 ·rintro b o (h | h)
  ·exact h1.immIn b o h
  ·exact h.2
 ·rintro b o hlt (h | h)
  ·exact h
  ·have := hs.baseIn; omega
theorem SG {g : Gh} {s : St} {w : World} (h : cp L.toLk C g s w) {t z : Nat} {xs : List AV} (htk : s.tk[t]? = some xs.length) {v : Value} (hr : ay L.toLk g w (.sl (.tok t) z xs) v) (hne : xs ≠ []) (hz : 0 < z) :
  ∃ blk off cap vs, v = .slice (some ⟨blk, off, none⟩) xs.length cap /\ g.base <= blk /\ blk < w.heap.size /\ xs.length <= cap /\ aw L.toLk g w xs vs /\
   ∀ j c, (cM vs)[j]? = some c -> w.cell? ⟨blk, off + j, none⟩ = some c /\ w.frozen? ⟨blk, off + j, none⟩ = false := by
 simp only [ay] at hr
 obtain ⟨a, cap, vs, rfl, hc, hu, hvs, hsz, hl, ho⟩ := hr
 simp only [tT] at ho
 obtain ⟨ha, T, hT, h1, h2⟩ := ho
 have htop : T.top = xs.length := by
  have := h.tk
  have h3 : (g.tk.map (·.top))[t]? = some xs.length := by rw [this]; exact htk
  rw [List.getElem?_map, hT] at h3
  simpa using h3
 obtain ⟨rfl, rfl, rfl⟩ := h2 htop
 obtain ⟨s1, s2, s3, s4, s5, s6⟩ := h.toks t T hT
 obtain ⟨c, e, fz, k1, k2, k3⟩ := s2
 obtain ⟨⟨blk, off, spot⟩, tcap, tsz, top⟩ := T
 simp only at s1 k1 k2 hl s6 hc
 subst s1
 refine ⟨blk, off, tcap, vs, rfl, s6, aT k1, hc, hvs, fun j x hj => ?_⟩
 obtain ⟨i1, i2⟩ := hl.2 j x hj
 refine ⟨i2, ?_⟩
 rw [lR k1] at i2
 have hlt := (Array.getElem?_eq_some_iff.1 i2).1
 have := k3 (off + j) hlt
 simp only [World.frozen?, k1]
 simp only [Bool.and_eq_false_iff, decide_eq_false_iff_not]
 omega
theorem SC {g : Gh} {w w' : World} {α : Type} (f : α -> AV) (c : α -> Value) (hc1 : ∀ x, (c x).cells = #[c x]) (ho : ∀ x, bs (c x)) (hu : ∀ x, (f x).untok = f x) (hr : ∀ g w x, ay L.toLk g w (f x) (c x)) {l : List α} {blk off cap : Nat} (hne : l ≠ []) (hb1 : w.heap.size <= blk) (hb2 : blk < w'.heap.size) (hcap : l.length <= cap)
  (hcell : ∀ j x, l[j]? = some x -> w'.cell? ⟨blk, off + j, none⟩ = some (c x)) : ay L.toLk (g.shut fun b => w.heap.size <= b /\ b < w'.heap.size) w' (.sl .any 1 (l.map f)) (.slice (some ⟨blk, off, none⟩) l.length cap) := by
 simp only [ay]
 refine ⟨some ⟨blk, off, none⟩, cap, l.map c, by simp, by simpa using hcap, ?_, ?_, ?_, ⟨fun _ => rfl, fun j x hj => ?_⟩, rfl⟩
 ·clear hne hcap hcell
  induction l with
  | nil => rfl
  | cons x l ih => simp only [List.map_cons, AV.untokL, hu, ih]
 ·clear hne hcap hcell
  induction l with
  | nil => simp [aw]
  | cons x l ih => simp only [List.map_cons, aw]; exact ⟨_, _, rfl, hr _ _ x, ih⟩
 ·intro u hu
  obtain ⟨x, _, rfl⟩ := List.mem_map.1 hu
  refine ⟨by rw [hc1]; rfl, fun y hy => ?_⟩
  rw [hc1] at hy
  simp only [List.mem_cons, List.mem_nil_iff, or_false] at hy
  subst hy; exact ho x
 ·rw [p9 c hc1, List.getElem?_map] at hj
  cases hx : l[j]? with
  | none => rw [hx] at hj; cases hj
  | some x =>
   rw [hx] at hj; cases hj
   exact ⟨.inr ⟨hb1, hb2⟩, hcell j x hx⟩
end Ab
namespace Ab.C
open Go Ab Go.RowKit Go.Proofs Go.Shelf Go.Sort
set_option maxRecDepth 100000
theorem UA (w : World) : Is Tryz.prog (iU w) E0 where
 inj a b h := h
 fns f F h := Cb (Ru w) f F h
 prim f args v h1 h2 := by cases h2
theorem QB : E0.fns = af.fn ag := rfl
theorem sc (o : gu) (z : Nat) (xs : List AV) : ∃ o', (AV.sl o z xs).untok = .sl o' z xs := by cases o <;> exact ⟨_, rfl⟩
theorem PS {L : Lk} {g : Gh} {w : World} {c : List (List UInt8 × Nat)} {cs : List MapEntry} (h : tg L g w (IE c) cs) : cs.map (·.val) = c.map fun p => Value.int .i64 p.2 := by
 obtain ⟨h1, h2⟩ := h
 refine List.ext_getElem? fun i => ?_
 rw [List.getElem?_map, List.getElem?_map]
 cases hi : cs[i]? with
 | none =>
  have : c[i]? = none := by
   rw [List.getElem?_eq_none_iff] at hi ⊢
   simp only [IE, List.length_map] at h1; omega
  rw [this]; rfl
 | some e =>
  have hl := (List.getElem?_eq_some_iff.1 hi).1
  simp only [IE, List.length_map] at h1
  have hp : c[i]? = some c[i] := List.getElem?_eq_getElem (by omega)
  have := (h2 i (.str c[i].1) (.int .i64 c[i].2) e (by simp only [IE, List.getElem?_map, hp, Option.map_some]) hi).2
  simp only [ay] at this
  rw [hp]; simp only [Option.map_some, this]
theorem Kv (w0 : World) {g : Gh} {s : St} {w : World} {o : gu} {xs : List AV} {cargs : List Value} {l : List Tm} (hs : cp (iU w0).toLk (vA Tryz.prog (iU w0)) g s w) (hgl : Bv (iU w0) EP g w) (ha : aw (iU w0).toLk g w [.sl o 3 xs] cargs) (hd : JL 1048576 xs = some l) (hb : Bt l) :
  Calls Tryz.prog 16 cargs.toArray w fun e w' => e = .returned (.bool (vq l)) /\ Below w.heap.size w w' := by
 have ha0 := ha
 simp only [aw] at ha
 obtain ⟨v, q, rfl, hv, rfl⟩ := ha
 have hsl : Sl l (.sl o 3 xs) := by
  simp only [ay] at hv
  obtain ⟨a, cap, vs, rfl, hc, hu, hvs, hsz, hl, ho⟩ := hv
  have hrt := NC _ hd hb.1 hvs
  refine ⟨_, _, rfl, ⟨?_, fun e => ?_⟩, hrt⟩
  ·have := hrt.length
   have := aC l
   have := hb.1
   have hm : maxLen = 9223372036854775807 := rfl
   omega
  ·subst e; simp only [tT] at ho; exact List.eq_nil_of_length_eq_zero ho.2.1
 refine Mr v w (vq l) fun w1 hh h1 h2 h3 => ?_
 have hr0 := OK hs hh (by simp only [AV.dataL, hsl.data, Bool.and_self]) ha0
 have hp := (TY (vA Tryz.prog (iU w0)) w1 (L := iU w0)).push (o := .map #[] 0) (ab := .amap []) (w' := w1.alloc (.map #[] 0)) rfl ⟨rfl, rfl, rfl⟩ [] (by simp)
  (fun _ => ⟨#[], 0, by rw [jj (w := w1) rfl], ⟨rfl, fun i k v e h => by simp at h⟩, ⟨fun x h => by simp at h, by simp⟩⟩)
 obtain ⟨g'', hcall⟩ := uj QB [] [] 0 0 (Nat.le_refl _) (aV l + 1) [] [] (2 * aV l + 8) (Nat.lt_succ_self _) hb.1 hb.2 (fun p hp => by cases hp) hsl.untok (Nat.le_refl _)
 have hgl0 := (S4 (E := E0) (fun _ => rfl) hs hgl hh h1 h3 h2).ext hp.2
 have hr1 := aw.mono hp.2.ge _ _ hr0
 have hcs := K9 (UA w0) hcall rfl hp.1 hgl0 (cargs := [v, .map (some w1.heap.size)]) (by
  simp only [AV.untokL, aw] at hr1
  obtain ⟨v', r', e, hv', rfl⟩ := hr1
  cases e
  simp only [aw, ay]
  exact ⟨_, _, rfl, hv', _, _, rfl, ⟨_, rfl, rfl⟩, rfl⟩)
 rw [<- hh]
 refine Calls.mono hcs ?_
 rintro e w2 ⟨cv, g', rfl, hst, hext, hrep⟩
 have hbl0 := hext.ge.bl 0 w1.heap.size rfl
 simp only [ay] at hrep
 obtain ⟨b, hb1, rfl⟩ := hrep
 rw [show ([] : List AB).length = 0 from rfl] at hb1
 rw [hbl0] at hb1
 cases hb1
 have hbel := FS hh h1 h3 h2 (hp.2.trans hext).below
 obtain ⟨cs, clock, hheap, hM, hborn⟩ := hst.blocks 0 _ _ hbl0 rfl
 have hvals := PS hM
 refine ⟨rfl, hbel, cs, clock, hheap, hborn.1, hborn.2, fun x hx => ?_, ?_⟩
 ·have : x.val ∈ (cs.toList.map (·.val)) := List.mem_map.2 ⟨x, hx, rfl⟩
  rw [hvals] at this
  obtain ⟨p, _, e⟩ := List.mem_map.1 this
  exact ⟨_, e.symm⟩
 ·rw [<- Q6 l]
  have e1 : (cs.toList.all fun x => decide (valOf x.val <= 1)) = (cs.toList.map (·.val)).all fun v => decide (valOf v <= 1) := by rw [List.all_map]; rfl
  rw [e1, hvals, List.all_map]
  congr 1
  funext p
  simp only [Function.comp, valOf]
  exact decide_eq_decide.2 (by omega)
theorem I1 : ∀ {L : Lk} {g : Gh} {w : World} {l : List Int} {vs : List Value}, aw L g w (ao l) vs -> vs = l.map (Value.int .i64)
 | _, _, _, [], vs, h => by simpa [ao, aw] using h
 | L, g, w, x :: l, vs, h => by
  simp only [ao, List.map_cons, aw, ay] at h
  obtain ⟨v, r, rfl, rfl, h2⟩ := h
  rw [I1 (l := l) h2]; rfl
theorem IX {L : eB} {g : Gh} {s : St} {w : World} {C : eR} (h : cp L.toLk C g s w) {t : Nat} {zs : List Int} (htk : s.tk[t]? = some zs.length) {v : Value} (hr : ay L.toLk g w (.sl (.tok t) 1 (ao zs)) v) (hne : zs ≠ []) : It g.base zs v w := by
 obtain ⟨blk, off, cap, vs, rfl, h1, h2, h3, h4, h5⟩ := SG h (by simpa [ao] using htk) hr (by simpa [ao] using hne) (by decide)
 rw [I1 h4, p9 _ (fun _ => rfl)] at h5
 have hl : (ao zs).length = zs.length := by simp [ao]
 rw [hl] at h3 ⊢
 refine .inr ⟨blk, off, cap, rfl, hne, h1, h2, h3, fun j hj => ?_⟩
 have hj' : j < zs.length := by simpa using hj
 rw [oC hj']
 exact h5 j _ (by rw [List.getElem?_map, List.getElem?_eq_getElem hj']; rfl)
theorem IW {L : eB} {g : Gh} {w : World} {B z : Nat} {v : Value} (hr : ay L.toLk g w (.sl .nil z []) v) : It B [] v w := by
 simp only [ay] at hr
 obtain ⟨a, cap, vs, rfl, _, _, _, _, _, ho⟩ := hr
 simp only [tT] at ho
 obtain ⟨rfl, _, rfl⟩ := ho
 exact .inl ⟨rfl, rfl⟩
theorem O3 (w0 : World) {g : Gh} {s : St} {w : World} {o o1 o2 : gu} {a b : List Int} {cargs : List Value} (hs : cp (iU w0).toLk (vA Tryz.prog (iU w0)) g s w) (hgl : Bv (iU w0) EP g w) (ha : aw (iU w0).toLk g w [.sl o 1 [.sl o1 1 (ao a), .sl o2 1 (ao b)]] cargs) (hl : a.length + b.length <= aO) :
  Calls Tryz.prog 104 cargs.toArray w fun e w' => ∃ u, e = .returned u /\ Below w.heap.size w w' /\ It w.heap.size (bg (a ++ b)) u w' := by
 have hmm : aO = 1073741824 := rfl
 have ha0 := ha
 simp only [aw] at ha
 obtain ⟨v, q, rfl, hv, rfl⟩ := ha
 refine Qm v w (a ++ b) (by rw [List.length_append]; omega) fun w1 hh h1 h2 h3 => ?_
 have hfl : bD [.sl o1 1 (ao a), .sl o2 1 (ao b)] = ao (a ++ b) := by
  simp only [bD, (cJ a).2, (cJ b).2, List.append_nil, nh]
 have hr0 := OK hs hh (by simp [AV.dataL, AV.data, cJ]) ha0
 obtain ⟨o', ho'⟩ := sc o 1 [.sl o1 1 (ao a), .sl o2 1 (ao b)]
 simp only [AV.untokL, ho'] at hr0
 have hcall := Nd QB o' (vs := [.sl o1 1 (ao a), .sl o2 1 (ao b)]) (fun v hv => by
   simp only [List.mem_cons, List.mem_nil_iff, or_false] at hv
   rcases hv with rfl | rfl <;> exact ⟨_, _, rfl⟩) (by simp) (by rw [hfl]; simp only [ao, List.length_map, List.length_append]; omega) (by rw [hfl]; exact (cJ _).1) (k := 6) (by simp) Qc
 rw [hfl] at hcall
 have hgl0 := S4 (E := E0) (fun _ => rfl) hs hgl hh h1 h3 h2
 refine Calls.mono (K9 (UA w0) hcall rfl (TY _ w1) hgl0 hr0) ?_
 rintro e w2 ⟨cv, g', rfl, hst, hext, hrep⟩
 have hbel := FS hh h1 h3 h2 hext.below
 have hbase : g'.base = w.heap.size := by rw [hext.base, <- hh]; rfl
 refine ⟨cv, rfl, by rw [<- hh]; exact hbel, ?_⟩
 by_cases he : a ++ b = []
 ·rw [he] at hrep ⊢
  exact IW hrep
 ·have hne : ao (a ++ b) ≠ [] := by simpa [ao] using he
  rw [show gb 1 Qc.tk.length (ao (a ++ b)) = .sl (.tok 0) 1 (ao (a ++ b)) by unfold gb; rw [if_neg hne]; rfl] at hrep
  rw [<- hbase]
  refine IX hst ?_ hrep he
  show (cU [] (ao (a ++ b)))[0]? = _
  unfold cU; rw [if_neg hne]; simp [ao]
theorem xF (w0 : World) {g : Gh} {s : St} {w : World} {o : gu} {l : List Int} {cargs : List Value} (hs : cp (iU w0).toLk (vA Tryz.prog (iU w0)) g s w) (ha : aw (iU w0).toLk g w [.sl o 1 (ao l)] cargs) (hasc : ri l) (hl : l.length <= aO) (ho : (o = .nil /\ l = []) \/ ∃ t, o = .tok t /\ l ≠ [] /\ s.tk[t]? = some l.length) :
  Calls Tryz.prog 69 cargs.toArray w fun e w' => e = .returned (.tuple #[]) /\ Below w.heap.size w w' := by
 have hmm : aO = 1073741824 := rfl
 simp only [aw] at ha
 obtain ⟨v, q, rfl, hv, rfl⟩ := ha
 rcases ho with ⟨rfl, rfl⟩ | ⟨t, rfl, hne, htk⟩
 ·rcases IW (B := 0) hv with ⟨_, rfl⟩ | ⟨_, _, _, _, h, _⟩
  ·refine Calls.mono (Any.slices_Sort_int_none C9 none 0 w) ?_
   rintro e w' ⟨rfl, rfl⟩
   exact ⟨rfl, Below.refl _ _⟩
  ·exact absurd rfl h
 ·rcases IX hs htk hv hne with ⟨h, _⟩ | ⟨blk, off, cap, rfl, _, _, hlt, hcap, hH⟩
  ·exact absurd h hne
  ·refine Calls.mono (calls_of_every_depth fun D => AnyS.slices_Sort_int_alone C9 D blk off cap l w hH hlt (by omega)) ?_
   rintro e w' ⟨rfl, n, os, rfl⟩
   rw [Rq hasc, putRow_self _ _ blk off _ (holds_ahead _ w n blk off _ hH)]
   refine ⟨rfl, rfl, rfl, rfl, ?_, fun k hk => heap_grow_old _ _ hk⟩
   show w.heap.size <= (w.heap ++ os).size
   rw [Array.size_append]; omega
open Go Ab Go.RowKit Go.Proofs Go.Shelf Go.Sort
set_option maxRecDepth 100000
theorem R7 (args : Array Value) (w : World) : (callFunc 16 args).run Tryz.prog w = .ok (.enter 16 args) w := enters_of Tryz.func16 (by kernel_rfl) rfl args w
theorem QE (args : Array Value) (w : World) : (callFunc 104 args).run Tryz.prog w = .ok (.enter 104 args) w := enters_of Tryz.func104 (by kernel_rfl) rfl args w
theorem R8 (args : Array Value) (w : World) : (callFunc 69 args).run Tryz.prog w = .ok (.enter 69 args) w := enters_of Tryz.func69 (by kernel_rfl) rfl args w
theorem Py {L : eB} {C : eR} {g : Gh} {s : St} {w w' : World} (hs : cp L.toLk C g s w) (hb : Below w.heap.size w w') {zs : List Int} {u : Value} (h : It w.heap.size zs u w') :
  ∃ g', cp L.toLk C g' s w' /\ nv g s w g' s w' /\ ay L.toLk g' w' (ti 1 (ao zs)) u := by
 rcases h with ⟨rfl, rfl⟩ | ⟨blk, off, cap, rfl, hne, h1, h2, h3, hH⟩
 ·obtain ⟨a1, a2⟩ := hs.below hb
  refine ⟨g, a1, a2, ?_⟩
  show ay _ _ _ (.sl .nil 1 []) _
  simp [ay, aw, AV.untokL, tT]
  exact ⟨none, 0, ⟨rfl, rfl⟩, rfl, rfl, rfl⟩
 ·obtain ⟨a1, a2⟩ := hs.shutNew hb
  refine ⟨_, a1, a2, ?_⟩
  have hne' : ao zs ≠ [] := by simpa [ao] using hne
  unfold ti; rw [if_neg hne']
  exact SC (.int .i64) (Value.int .i64) (fun _ => rfl) (fun _ => trivial) (fun _ => rfl) (fun g w x => by simp only [ay]) hne h1 h2 h3 fun j x hj => by
   obtain ⟨hjl, rfl⟩ := List.getElem?_eq_some_iff.1 hj
   have := (hH j (by simpa using hjl)).1
   rwa [oC hjl] at this
theorem PQ (w0 : World) : N4 Tryz.prog (iU w0) EP := by
 intro f args s v s' hn heff hp0 g w cargs hs hgl ha
 have hp : NI f args s = some (v, s') := hp0
 clear hp0
 unfold NI at hp
 split at hp
 ·rename_i hf
  subst hf
  unfold FF at hp
  split at hp
  ·rename_i o xs
   split at hp
   ·rename_i l hd
    split at hp
    ·rename_i hb
     cases hp
     refine ⟨R7 _ _, Calls.mono (Kv w0 hs hgl ha hd (Oc.1 hb)) ?_⟩
     rintro e w' ⟨rfl, hbel⟩
     obtain ⟨a1, a2⟩ := hs.below hbel
     exact ⟨_, g, rfl, a1, a2, by simp only [ay]⟩
    ·cases hp
   ·cases hp
  ·cases hp
 ·split at hp
  ·rename_i hf
   subst hf
   unfold RY at hp
   split at hp
   ·rename_i o o1 xs o2 ys
    split at hp
    ·rename_i a hA
     split at hp
     ·rename_i b hB
      split at hp
      ·rename_i hl
       cases hp
       obtain rfl := AU hA
       obtain rfl := AU hB
       refine ⟨QE _ _, Calls.mono (O3 w0 hs hgl ha (of_decide_eq_true hl)) ?_⟩
       rintro e w' ⟨u, rfl, hbel, hf⟩
       obtain ⟨g', a1, a2, a3⟩ := Py hs hbel hf
       exact ⟨u, g', rfl, a1, a2, a3⟩
      ·cases hp
     ·cases hp
    ·cases hp
   ·cases hp
  ·split at hp
   ·rename_i hf
    subst hf
    unfold OQ at hp
    split at hp
    ·rename_i o xs
     split at hp
     ·rename_i l hA
      split at hp
      ·rename_i hc
       cases hp
       obtain rfl := AU hA
       simp only [Bool.and_eq_true, decide_eq_true_eq] at hc
       obtain ⟨⟨h1, h2⟩, h3⟩ := hc
       refine ⟨R8 _ _, Calls.mono (xF w0 hs ha (FO.1 h1) h2 ?_) ?_⟩
       ·unfold TN at h3
        split at h3
        ·left; exact ⟨rfl, List.isEmpty_iff.1 h3⟩
        ·right
         simp only [Bool.and_eq_true, Bool.not_eq_true', beq_iff_eq] at h3
         refine ⟨_, rfl, fun e => ?_, h3.2⟩
         rw [e] at h3; exact absurd h3.1 (by decide)
        ·cases h3
       ·rintro e w' ⟨rfl, hbel⟩
        obtain ⟨a1, a2⟩ := hs.below hbel
        exact ⟨_, g, rfl, a1, a2, by simp only [ay, aw]; exact ⟨[], rfl, rfl⟩⟩
      ·cases hp
     ·cases hp
    ·cases hp
   ·cases hp
theorem Ve (w : World) : Is Tryz.prog (iU w) EP where
 inj a b h := h
 fns f F h := Cb (Ru w) f F h
 prim f args v h1 h2 := by cases h2
 prims := PQ w
end Ab.C
