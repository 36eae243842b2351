/- Parts of the proof, made small by program. No condition but what is told. -/
import Derived.Test.YtbncnjpohgbgjaaGreatAb08
import Derived.Test.YtbncnjpohgbgjaaGreatAb09
import Derived.Test.YtbncnjpohgbgjaaGreatAb17
import Derived.Test.YtbncnjpohgbgjaaGreatAb14
import Derived.Test.YtbncnjpohgbgjaaGreatAb15
set_option linter.all false
set_option maxHeartbeats 8000000
namespace Ab.C
open Go Ab Go.RowKit
set_option maxRecDepth 10000
section
variable {E : ak} (hE : E.fns = af.fn ag)
include hE
theorem LA : ∀ (n : Nat) {ts : List Tm} {v : AV} (d : Nat) (left : Int), aV ts < n -> d <= 151 -> -1 <= left -> left <= 1000000 -> Sl ts v -> bG (2 * aV ts + 3) E (.fn dr [] []) [v, .int .i64 left, .int .i64 d] (.int .i64 (kW d left 0 ts))
 | 0, _, _, _, _, h, _, _, _, _ => by omega
 | n + 1, ts, v, d, left, hn, hd, hl0, hl1, hv => by
  obtain ⟨o1, xs, rfl, ⟨hm1, _⟩, h1⟩ := hv
  have hl := h1.length
  have hlt := aC ts
  have hmx : maxLen = 9223372036854775807 := rfl
  refine bG.byW (yy hE) rfl rfl (K := 2 * aV ts + 2) fun k hk bl tk => ?_
  simp [l9, qQ]
  refine aA xs.length (fun i e s => ∃ m : Int, 0 <= m /\ m <= left + 1 /\ kW d left 0 ts = kW d left m (ts.drop i) /\ e = [(0, .sl o1 3 xs), (1, .int .i64 left), (2, .int .i64 d), (7, .int .i64 m), (8, .int .i64 i)] /\ s = { bl := bl, tk, ro := bl.length, rt := tk.length }) (by omega) ⟨0, by simp; omega⟩ ?_ ?_
  ·rintro i e s hi ⟨m, hm0, hm1', hq, rfl, rfl⟩
   obtain ⟨t, ht⟩ : ∃ t, ts[i]? = some t := ⟨_, List.getElem?_eq_getElem (by omega)⟩
   obtain ⟨x, hx, hrx⟩ := h1.get ht
   obtain ⟨kx, rfl, hkx⟩ := hrx.open
   obtain ⟨hi1, hx1⟩ := List.getElem?_eq_some_iff.1 hx
   have e1 : et (.int .i64 i) xs.length = some i := av hi1
   have hwr : IntKind.wrap .i64 ((i : Int) + 1) = i + 1 := ar (by omega) (by omega)
   obtain ⟨hti, ht1⟩ := List.getElem?_eq_some_iff.1 ht
   have hle := f8 (List.mem_of_getElem? ht)
   rw [g7] at hle
   rw [List.drop_eq_getElem_cons hti, ht1, kW] at hq
   by_cases c1 : m <= left
   ·rw [if_pos c1] at hq
    by_cases c2 : 150 < d
    ·rw [if_pos c2] at hq
     have c2' : (150 : Int) < (d : Int) := by omega
     have w1 : IntKind.wrap .i64 (left + 1) = left + 1 := ar (by omega) (by omega)
     simp [eX, hi, c1, c2', w1, hq]
    ·rw [if_neg c2, PK] at hq
     have c2' : ¬ (150 : Int) < (d : Int) := by omega
     have hb := tu (d + 1) (left - m - 1) 0 t.kids (by omega)
     have hc := LA n (d + 1) (left - m - 1) (by omega) (by omega) (by omega) (by omega) hkx k (by omega)
     obtain ⟨r, hr⟩ : ∃ r, r = kW (d + 1) (left - m - 1) 0 t.kids := ⟨_, rfl⟩
     rw [<- hr] at hc hq hb
     have w1 : IntKind.wrap .i64 (left - m) = left - m := ar (by omega) (by omega)
     have w2 : IntKind.wrap .i64 (left - m - 1) = left - m - 1 := ar (by omega) (by omega)
     have w3 : IntKind.wrap .i64 ((d : Int) + 1) = (d : Int) + 1 := ar (by omega) (by omega)
     have w4 : IntKind.wrap .i64 (1 + r) = 1 + r := ar (by omega) (by omega)
     have w5 : IntKind.wrap .i64 (m + (1 + r)) = m + (1 + r) := ar (by omega) (by omega)
     have hc' : ∀ s, au E k none (.fn dr [] []) [kx, .int .i64 (left - m - 1), .int .i64 ((d : Int) + 1)] s = some (.ret (.int .i64 r), false, s) := by exact_mod_cast hc
     simp [eX, hi, c1, c2', e1, hi1, hx, hx1, w1, w2, w3, w4, w5, hc', hwr]
     exact ⟨_, by omega, by omega, hq, rfl⟩
   ·rw [if_neg c1] at hq
    simp [eX, hi, c1, hq]
  ·rintro e s ⟨m, hm0, hm1', hq, rfl, rfl⟩
   rw [List.drop_of_length_le (by omega), kW] at hq
   simp [eX, hq]
theorem LH : ∀ (n : Nat) {ts : List Tm} {v : AV}, aV ts < n -> Sl ts v -> bG (2 * aV ts + 3) E (.fn fO [] []) [v] (.bool (sJ ts))
 | 0, _, _, h, _ => by omega
 | n + 1, ts, v, hn, hv => by
  obtain ⟨o1, xs, rfl, ⟨hm1, _⟩, h1⟩ := hv
  have hl := h1.length
  have hlt := aC ts
  have hmx : maxLen = 9223372036854775807 := rfl
  refine bG.byW (yz hE) rfl rfl (K := 2 * aV ts + 2) fun k hk bl tk => ?_
  simp [ma, qR]
  refine aA xs.length (fun i e s => sJ ts = sJ (ts.drop i) /\ e = [(0, .sl o1 3 xs), (3, .int .i64 i)] /\ s = { bl := bl, tk, ro := bl.length, rt := tk.length }) (by omega) (by simp) ?_ ?_
  ·rintro i e s hi ⟨hq, rfl, rfl⟩
   obtain ⟨t, ht⟩ : ∃ t, ts[i]? = some t := ⟨_, List.getElem?_eq_getElem (by omega)⟩
   obtain ⟨x, hx, hrx⟩ := h1.get ht
   obtain ⟨kx, rfl, hkx⟩ := hrx.open
   obtain ⟨hi1, hx1⟩ := List.getElem?_eq_some_iff.1 hx
   have e1 : et (.int .i64 i) xs.length = some i := av hi1
   have hwr : IntKind.wrap .i64 ((i : Int) + 1) = i + 1 := ar (by omega) (by omega)
   obtain ⟨hti, ht1⟩ := List.getElem?_eq_some_iff.1 ht
   have hle := f8 (List.mem_of_getElem? ht)
   rw [g7] at hle
   rw [List.drop_eq_getElem_cons hti, ht1, sJ, PY] at hq
   by_cases c1 : t.text.length <= 600
   ·have c1' : ¬ (600 : Int) < (t.text.length : Int) := by omega
    have hc := LH n (by omega) hkx k (by omega)
    simp only [c1, decide_true, Bool.true_and] at hq
    cases c2 : sJ t.kids with
    | true =>
     rw [c2, Bool.true_and] at hq
     rw [c2] at hc
     simp [eY, hi, c1', e1, hi1, hx, hx1, hc, hwr, hq]
    | false =>
     rw [c2, Bool.false_and] at hq
     rw [c2] at hc
     simp [eY, hi, c1', e1, hi1, hx, hx1, hc, hwr, hq]
   ·have c1' : (600 : Int) < (t.text.length : Int) := by omega
    simp only [c1, decide_false, Bool.false_and] at hq
    simp [eY, hi, c1', e1, hi1, hx, hx1, hwr, hq]
  ·rintro e s ⟨hq, rfl, rfl⟩
   rw [List.drop_of_length_le (by omega), sJ] at hq
   simp [eY, hq]
theorem QM {ts : List Tm} {v : AV} (hv : Sl ts v) (m : Int) (h0 : 0 <= m) (h1 : m <= 1000000) : bG (2 * aV ts + 4) E (.fn jy [] []) [v, .int .i64 m] (.bool (Ak ts m)) := by
 have hn := LA hE _ 0 m (Nat.lt_succ_self _) (by omega) (by omega) h1 hv
 have hs := LH hE _ (Nat.lt_succ_self _) hv
 refine bG.byW (yx hE) rfl rfl (K := 2 * aV ts + 3) fun k hk bl tk => ?_
 have hn' : ∀ s, au E k none (.fn dr [] []) [v, .int .i64 m, .int .i64 0] s = some (.ret (.int .i64 (kW 0 m 0 ts)), false, s) := by exact_mod_cast hn k hk
 have hs' := hs k hk
 unfold Ak
 by_cases c : kW 0 m 0 ts <= m
 ·simp [jm, mo, hn', hs', c]
 ·simp [jm, mo, hn', hs', c]
end
open Go Ab Go.RowKit
set_option maxRecDepth 10000
section
variable {E : ak} (hE : E.fns = af.fn ag)
include hE
theorem Nj {a : Au} {x y : AV} (ha : tU a x) (hb : tU a y) (hB : Ba a) : bG 8000000 E (.fn j4 [] []) [x, y] (.bool true) := by
 obtain ⟨of, oe, ys, rfl, hes, hnf, hne⟩ := ha
 obtain ⟨of', oe', ys', rfl, hes', hnf', hne'⟩ := hb
 have hl1 := hes.length
 have hl2 := hes'.length
 obtain ⟨hBf, hBe, hBs⟩ := hB
 refine bG.byW (zL hE) rfl rfl (K := 7999999) fun k hk bl tk => ?_
 have q0 : ∀ (c : AB) (r : List AB), (bl ++ c :: r)[bl.length]? = some c := fun c r => by rw [ac]; rfl
 have q1 : ∀ (c d : AB) (r : List AB), (bl ++ c :: d :: r)[bl.length + 1]? = some d := fun c d r => by rw [aa]; rfl
 have hle : ys.length = ys'.length := by omega
 simp [-getElem?_pos, List.getElem?_cons_zero, List.getElem?_cons_succ, mR, rI, q0, q1, hle]
 obtain ⟨c1, hc1⟩ : ∃ c, c = AB.cells [.int .i64 a.n, .int .i64 a.start, .sl of 1 (ao a.fin), .sl oe 8 ys] := ⟨_, rfl⟩
 obtain ⟨c2, hc2⟩ : ∃ c, c = AB.cells [.int .i64 a.n, .int .i64 a.start, .sl of' 1 (ao a.fin), .sl oe' 8 ys'] := ⟨_, rfl⟩
 refine aA a.fin.length (fun i e' st => e' = [(2, .ptr bl.length 0), (3, .ptr (bl.length + 1) 0), (5, .int .i64 i)] /\ st = { bl := bl ++ [c1, c2], tk := tk, ro := bl.length, rt := tk.length }) (by omega) ⟨rfl, by rw [hc1, hc2]⟩ ?_ ?_
 ·rintro i e' st hi ⟨rfl, rfl⟩
  obtain ⟨f, hf⟩ : ∃ t, a.fin[i]? = some t := ⟨_, List.getElem?_eq_getElem (by omega)⟩
  have hx := ep hf
  obtain ⟨hi1', hx1⟩ := List.getElem?_eq_some_iff.1 hx
  have e1 : et (.int .i64 i) a.fin.length = some i := av hi
  have hwr : IntKind.wrap .i64 ((i : Int) + 1) = i + 1 := ar (by omega) (by omega)
  simp [-getElem?_pos, List.getElem?_cons_zero, List.getElem?_cons_succ, ms, hi, e1, hx, hx1, hwr, q0, q1, hc1, hc2]
 ·rintro e' st ⟨rfl, rfl⟩
  simp [-getElem?_pos, List.getElem?_cons_zero, List.getElem?_cons_succ, ms, q0, q1, hc1]
  rw [<- hc1]
  refine aA a.eds.length (fun i e' st => ∃ g, e' = [(2, .ptr bl.length 0), (3, .ptr (bl.length + 1) 0), (6, .int .i64 i)] /\ st = { bl := bl ++ c1 :: c2 :: g, tk := tk, ro := bl.length, rt := tk.length }) (by omega) ⟨[], rfl, rfl⟩ ?_ ?_
  ·rintro i e' st hi ⟨g, rfl, rfl⟩
   obtain ⟨e, he⟩ : ∃ e, a.eds[i]? = some e := ⟨_, List.getElem?_eq_getElem hi⟩
   obtain ⟨y1, hy1, hr1⟩ := cL.get hes he
   obtain ⟨y2, hy2, hr2⟩ := cL.get hes' he
   obtain ⟨v, w, rfl, hv, hw⟩ := hr1
   obtain ⟨v', w', rfl, hv', hw'⟩ := hr2
   obtain ⟨hi1, hg1⟩ := List.getElem?_eq_some_iff.1 hy1
   obtain ⟨hi2, hg2⟩ := List.getElem?_eq_some_iff.1 hy2
   have hBt := hBs e (List.mem_of_getElem? he)
   have e1 : et (.int .i64 i) ys.length = some i := av (by omega)
   have e2 : et (.int .i64 i) ys'.length = some i := av (by omega)
   have hwr : IntKind.wrap .i64 ((i : Int) + 1) = i + 1 := ar (by omega) (by omega)
   have hlt : (i : Int) < ys.length := by omega
   have hlt' : (i : Int) < ys'.length := by omega
   have hs1 : Sl [e.sym] (.sl .full 3 [.agg [.int .i64 e.sym.kind, .str e.sym.text, v.untok]]) := ⟨_, _, rfl, ⟨by simp [maxLen], fun h => by cases h⟩, by
    simp only [gT]
    refine ⟨_, _, rfl, ?_, rfl⟩
    have := Rt.mk (k := e.sym.kind) (s := e.sym.text) hv.untok
    cases hsym : e.sym; rw [hsym] at this; exact this⟩
   have hs2 : Sl [e.sym] (.sl .full 3 [.agg [.int .i64 e.sym.kind, .str e.sym.text, v'.untok]]) := ⟨_, _, rfl, ⟨by simp [maxLen], fun h => by cases h⟩, by
    simp only [gT]
    refine ⟨_, _, rfl, ?_, rfl⟩
    have := Rt.mk (k := e.sym.kind) (s := e.sym.text) hv'.untok
    cases hsym : e.sym; rw [hsym] at this; exact this⟩
   have g1 := xa hE hs1 hs2 k (by have := hBt.1.1; omega)
   have g2 := xa hE hw hw' k (by have := hBt.2.1; omega)
   rw [wY] at g1 g2
   have zz : ((0 : Int) == 0) = true := rfl
   rw [zz] at g1 g2
   obtain ⟨B, hBB⟩ : ∃ B, B = bl ++ c1 :: c2 :: g := ⟨_, rfl⟩
   have p0 : ∀ r, (B ++ r)[bl.length]? = some c1 := fun r => by rw [hBB]; simp only [List.append_assoc, List.cons_append]; exact q0 _ _
   have p1 : ∀ r, (B ++ r)[bl.length + 1]? = some c2 := fun r => by rw [hBB]; simp only [List.append_assoc, List.cons_append]; exact q1 _ _ _
   have p0' : B[bl.length]? = some c1 := by have := p0 []; rwa [List.append_nil] at this
   have p1' : B[bl.length + 1]? = some c2 := by have := p1 []; rwa [List.append_nil] at this
   rw [hc1] at p0 p0'
   rw [hc2] at p1 p1'
   have t0 : ∀ (c : AB) (r : List AB), (B ++ c :: r)[B.length]? = some c := fun c r => by rw [ac]; rfl
   have t1 : ∀ (c d : AB) (r : List AB), (B ++ c :: d :: r)[B.length + 1]? = some d := fun c d r => by rw [aa]; rfl
   have u0 : ∀ (c f : AB) (r : List AB), (B ++ c :: r).set B.length f = B ++ f :: r := fun c f r => by rw [aB]; rfl
   have u1 : ∀ (c d f : AB) (r : List AB), (B ++ c :: d :: r).set (B.length + 1) f = B ++ c :: f :: r := fun c d f r => by rw [aj]; rfl
   have v1 : B.length <= B.length + 1 := by omega
   have hbl : bl.length <= B.length := by rw [hBB]; simp
   rw [<- hBB]
   simp [-getElem?_pos, List.getElem?_cons_zero, List.getElem?_cons_succ, mw, hlt, p0', p1']
   refine SO .normal [(2, .ptr bl.length 0), (3, .ptr (bl.length + 1) 0), (6, .int .i64 i), (61, .bool true)] tk 2 ?_ ?_ ?_
   ·simp [-getElem?_pos, List.getElem?_cons_zero, List.getElem?_cons_succ, hlt, hlt', e1, e2, hy1, hy2, hg1, hg2, p0, p1, p0', p1', t0, t1, u0, u1, v1, g1, g2, aq, bE, ai, az, AB.isCells]
   ·simp [-getElem?_pos, List.getElem?_cons_zero, List.getElem?_cons_succ, wo, hlt, hlt', e1, e2, hy1, hy2, hg1, hg2, p0, p1, p0', p1', t0, t1, u0, u1, v1, g1, g2, aq, bE, ai, az, AB.isCells]
   ·simp [hwr, hBB]
  ·rintro e' st ⟨g, rfl, rfl⟩
   simp [-getElem?_pos, List.getElem?_cons_zero, List.getElem?_cons_succ, mw, q0, q1, hc1, hl1]
end
open Go Ab Go.RowKit
set_option maxRecDepth 10000
theorem Rp {l : List Tm} (h : Ak l 14 = true) : Bt l /\ aV l <= 14 := by
 have h1 := Kx h
 have h2 := Ky h
 exact ⟨⟨by omega, fun t ht => by have := h2 t ht; omega⟩, by omega⟩
section
variable {E : ak} (hE : E.fns = af.fn ag)
include hE
theorem JT (hP : Pr E) (hS : Ps E) (hst : ∀ l, Bt l -> xG [] l = oL [] l) (ko : ∀ l, Bt l -> aV l <= 14 -> iT l = 0 -> S7 l) (ha : Fn E (.fn eh [] []) [] (.bool true)) {l : List Tm} {v : AV} (hv : Sl l v) : Fn E (.fn jK [] []) [v] (.bool true) := by
 obtain ⟨Ka, ha⟩ := ha
 have c1 := QM hE hv 14 (by omega) (by omega)
 have hv0 := hv
 obtain ⟨ov, xs, rfl, _⟩ := hv.len
 refine Fn.byW (uQ hE) rfl rfl ⟨Ka + 2 * aV l + 20000000, fun k hk bl tk => ?_⟩
 have c1 := c1 k (by omega)
 have ca := ha k (by omega)
 have q0 : ∀ (c : AB) (r : List AB), (bl ++ c :: r)[bl.length]? = some c := fun c r => by rw [ac]; rfl
 have q1 : ∀ (c d : AB) (r : List AB), (bl ++ c :: d :: r)[bl.length + 1]? = some d := fun c d r => by rw [aa]; rfl
 have s0 : ∀ (c f : AB) (r : List AB), (bl ++ c :: r).set bl.length f = bl ++ f :: r := fun c f r => by rw [aB]; rfl
 have s1 : ∀ (c d f : AB) (r : List AB), (bl ++ c :: d :: r).set (bl.length + 1) f = bl ++ c :: f :: r := fun c d f r => by rw [aj]; rfl
 have r1 : bl.length <= bl.length + 1 := by omega
 cases hs : Ak l 14 with
 | false =>
  rw [hs] at c1
  simp [fB, jH, c1, ca]
 | true =>
  rw [hs] at c1
  obtain ⟨hb, h14⟩ := Rp hs
  obtain ⟨r, ⟨x, rfl, hx⟩, c2⟩ := Sd hE hP hS hv0 hb (ko l hb h14) k (by omega) { bl := bl, tk := tk, ro := bl.length, rt := tk.length }
  obtain ⟨w0, w1, w2, w3, rfl⟩ := hx.agg'
  obtain ⟨r', ⟨x', rfl, hx'⟩, c3⟩ := LB hE hst hv0 hb (ko l hb h14) k (by omega) { bl := bl ++ [.cells [w0, w1, w2, w3]], tk := tk, ro := bl.length, rt := tk.length }
  obtain ⟨z0, z1, z2, z3, rfl⟩ := hx'.agg'
  have hBa : Ba (wt l).1 := by
   unfold wt
   split
   ·exact AK
   ·exact wU _ _ hb (FR p8)
  have c4 := Nj hE hx.1 hx'.1 hBa k (by omega)
  obtain ⟨P, hP'⟩ : ∃ P, P = wt l := ⟨_, rfl⟩
  rw [<- hP'] at c2 c3
  simp [-getElem?_pos, List.getElem?_cons_zero, List.getElem?_cons_succ, fB, jH, c1, c2, c3, c4, ca, q0, q1, s0, s1, r1, HN]
end
open Go Ab
def Oy (t : Tm) : Bool := t.kind == 6 || t.kind == 7
def tv (ts : List Tm) : List (List UInt8) := ((bI ts).filter Oy).map jF
def zw (met : List (List UInt8)) : List (List UInt8) -> Bool
 | [] => true
 | x :: r => !met.contains x && zw (met ++ [x]) r
theorem vh : ∀ (a b met : List (List UInt8)), zw met (a ++ b) = (zw met a && zw (met ++ a) b)
 | [], b, met => by simp [zw]
 | x :: a, b, met => by simp only [List.cons_append, zw, vh a b, Bool.and_assoc, List.append_assoc, List.nil_append]
theorem F3 : ∀ (l met : List (List UInt8)), zw met l = true ↔ l.Nodup /\ ∀ x ∈ l, x ∉ met
 | [], met => by simp [zw]
 | x :: l, met => by
  rw [zw, Bool.and_eq_true, F3 l, List.nodup_cons, Bool.not_eq_true', List.contains_eq_mem, decide_eq_false_iff_not]
  constructor
  ·rintro ⟨h1, h2, h3⟩
   refine ⟨⟨fun hx => h3 x hx (List.mem_append_right _ (List.mem_singleton.2 rfl)), h2⟩, fun y hy => ?_⟩
   rcases List.mem_cons.1 hy with rfl | hy
   ·exact h1
   ·exact fun hm => h3 y hy (List.mem_append_left _ hm)
  ·rintro ⟨⟨h1, h2⟩, h3⟩
   refine ⟨h3 x (List.mem_cons_self ..), h2, fun y hy hm => ?_⟩
   rcases List.mem_append.1 hm with hm | hm
   ·exact h3 y (List.mem_cons_of_mem _ hy) hm
   ·rw [List.mem_singleton] at hm; subst hm; exact h1 hy
theorem SI (t : Tm) (ts : List Tm) : tv (t :: ts) = (if Oy t then [jF t] else []) ++ (tv t.kids ++ tv ts) := by
 unfold tv
 rw [el]
 cases h : Oy t <;> simp [List.filter_cons, h]
theorem NE (t : Tm) (ts : List Tm) : nl [] (t :: ts) = (if t.kind == 7 then 1 else 0) + nl [] ts := by
 unfold nl
 cases h : t.kind == 7 <;> simp [List.filter_cons, h] <;> omega
theorem NT : ∀ (m : Nat) (ts : List Tm) (n : Nat) (met : List (List UInt8)), aV ts < m -> Kz [] ts n met = if zw met (tv ts) && decide (n + nl [] ts <= 1) && PF [] ts then some (met ++ tv ts) else none
 | m + 1, [], n, met, _ => by
  simp only [Kz, tv, bI, List.filter_nil, List.map_nil, zw, PF, Bool.true_and, Bool.and_true, List.append_nil, nl, List.length_nil, Nat.add_zero]
  by_cases h : n <= 1 <;> simp [h]
 | m + 1, t :: ts, n, met, hm => by
  have h1 := g7 t
  have hm' : nT t + aV ts < m + 1 := by simpa only [aV] using hm
  have hp := GU t
  have hsp : ∀ met, UT [] t met = if zw met (tv t.kids) && Ui [] t then some (met ++ tv t.kids) else none := fun met => by
   rw [NS, NT m t.kids 0 met (by omega), Q1, Nat.zero_add, Bool.and_assoc]
  have hts := fun n met => NT m ts n met (by omega)
  rw [Kz, SI, NE, PF]
  have hO : ((t.kind == 6 || t.kind == 7) && !([] : List (List UInt8)).contains (jF t)) = Oy t := by simp [Oy]
  rw [hO]
  cases ho : Oy t with
  | true =>
   simp only [if_true, hsp]
   rw [vh, vh]
   simp only [zw, Bool.and_true]
   cases c1 : met.contains (jF t) with
   | true => simp
   | false =>
    simp only [Bool.false_eq_true, if_false, Bool.not_false, Bool.true_and]
    cases c2 : zw (met ++ [jF t]) (tv t.kids) with
    | false => simp
    | true =>
     cases c3 : Ui [] t with
     | false => simp
     | true =>
      simp only [Bool.and_self, if_true, hts, Bool.true_and]
      rw [show (if (t.kind == 7) = true then n + 1 else n) + nl [] ts = n + ((if (t.kind == 7) = true then 1 else 0) + nl [] ts) by split <;> omega]
      simp only [List.append_assoc]
  | false =>
   have h7 : (t.kind == 7) = false := by
    unfold Oy at ho
    simp only [Bool.or_eq_false_iff] at ho
    exact ho.2
   simp only [Bool.false_eq_true, if_false, hsp, List.nil_append, h7, Nat.zero_add]
   rw [vh]
   cases c2 : zw met (tv t.kids) with
   | false => simp
   | true =>
    cases c3 : Ui [] t with
    | false => simp
    | true =>
     simp only [Bool.and_self, if_true, hts, Bool.true_and, List.append_assoc]
theorem NW (ts : List Tm) : oL [] ts = (zw [] (tv ts) && xA [] ts) := by
 unfold oL xA
 rw [NT _ ts 0 [] (Nat.lt_succ_self _), Nat.zero_add, Bool.and_assoc]
 split
 ·rename_i h; rw [h]; rfl
 ·rename_i h
  cases hc : (zw [] (tv ts) && (decide (nl [] ts <= 1) && PF [] ts)) with
  | true => exact absurd hc h
  | false => rfl
theorem PG {out : List (List UInt8)} {t : Tm} {v : List UInt8} : v ∈ m4 out t ↔ v ∈ out \/ (vH t = true /\ v = jF t) := by
 unfold m4
 rw [Dd]
 cases hv : vH t with
 | false => simp
 | true =>
  cases hc : out.contains (jF t) with
  | true =>
   have hmem := List.contains_iff_mem.1 hc
   simp only [Bool.not_true, Bool.or_true, if_true, true_and]
   exact ⟨.inl, fun h => h.elim id fun h => h ▸ hmem⟩
  | false => simp
theorem GT : ∀ {l : List Tm} {out : List (List UInt8)} {v : List UInt8}, v ∈ l.foldl m4 out ↔ v ∈ out \/ ∃ t ∈ l, vH t = true /\ v = jF t
 | [], out, v => by simp
 | t :: l, out, v => by
  rw [List.foldl_cons, GT, PG, or_assoc]
  refine or_congr_right ⟨?_, ?_⟩
  ·rintro (h | ⟨u, hu, h⟩)
   ·exact ⟨t, List.mem_cons_self .., h⟩
   ·exact ⟨u, List.mem_cons_of_mem _ hu, h⟩
  ·rintro ⟨u, hu, h⟩
   rcases List.mem_cons.1 hu with rfl | hu
   ·exact .inl h
   ·exact .inr ⟨u, hu, h⟩
theorem OB {ts : List Tm} {v : List UInt8} : v ∈ Fg ts [] ↔ ∃ t ∈ bI ts, vH t = true /\ v = jF t := by
 unfold Fg; rw [GT]; simp
theorem UG {t : Tm} (h : Oy t = true) : vH t = true := by
 unfold Oy at h; unfold vH
 simp only [Bool.or_eq_true, beq_iff_eq] at h
 simp only [Bool.and_eq_true, decide_eq_true_eq]
 omega
theorem DV {t : Tm} : Oy t = true ↔ vH t = true /\ ((jF t).getD 0 0).toNat ≠ 115 := by
 unfold Oy vH jF
 constructor
 ·intro h
  simp only [Bool.or_eq_true, beq_iff_eq] at h
  rcases h with h | h <;> simp [h]
 ·rintro ⟨h1, h2⟩
  simp only [Bool.and_eq_true, decide_eq_true_eq] at h1
  simp only [Bool.or_eq_true, beq_iff_eq]
  by_cases h5 : t.kind = 5
  ·simp [h5] at h2
  ·omega
theorem Q7 {ts : List Tm} {u : Tm} (hu : Oy u = true) : tw (jF u) ts = (tv ts).count (jF u) := by
 unfold tw tv
 induction bI ts with
 | nil => rfl
 | cons t l ih =>
  simp only [List.filter_cons]
  by_cases hn : jF t = jF u
  ·have hO : Oy t = true := by
    rw [DV] at hu ⊢
    have h1 := Dd t
    have h2 := Dd u
    rw [hn] at h1 ⊢
    rw [h1] at h2
    exact ⟨by cases hv : vH t <;> rw [hv] at h2 <;> simp [hu.1] at h2 ⊢, hu.2⟩
   simp only [hn, beq_self_eq_true, if_true, hO, List.length_cons, List.map_cons, List.count_cons_self, ih]
  ·have : (jF t == jF u) = false := by simpa using hn
   simp only [this, Bool.false_eq_true, if_false, ih]
   cases hO : Oy t
   ·simp
   ·simp only [if_true, List.map_cons]
    rw [List.count_cons_of_ne (by simpa using hn)]
theorem P1 (ts : List Tm) : xG [] ts = oL [] ts := by
 rw [NW]
 unfold xG
 congr 1
 rw [Bool.eq_iff_iff, F3]
 simp only [Bool.not_eq_true', List.any_eq_false, Bool.not_eq_true, List.not_mem_nil, not_false_eq_true, implies_true, and_true]
 rw [List.nodup_iff_count]
 constructor
 ·intro h v
  by_cases hv : v ∈ tv ts
  ·unfold tv at hv
   obtain ⟨t, ht, rfl⟩ := List.mem_map.1 hv
   obtain ⟨ht, hO⟩ := List.mem_filter.1 ht
   have h1 := h _ (OB.2 ⟨t, ht, UG hO, rfl⟩)
   rw [<- Q7 hO]
   unfold O4 at h1
   have h2 := (DV.1 hO).2
   simp only [List.contains_nil, Bool.not_false, Bool.and_true, Bool.and_eq_false_iff, bne_eq_false_iff_eq, decide_eq_false_iff_not] at h1
   rcases h1 with h1 | h1
   ·exact absurd h1 h2
   ·omega
  ·rw [List.count_eq_zero.2 hv]; omega
 ·intro h v hv
  obtain ⟨t, ht, hV, rfl⟩ := OB.1 hv
  unfold O4
  by_cases h2 : ((jF t).getD 0 0).toNat = 115
  ·have : (((jF t).getD 0 0).toNat != 115) = false := by simpa using h2
   rw [this]; rfl
  ·have hO := DV.2 ⟨hV, h2⟩
   have := h (jF t)
   rw [<- Q7 hO] at this
   have : decide (1 < tw (jF t) ts) = false := by simp; omega
   rw [this, Bool.and_false]
open Go Ab
theorem IN (i : Nat) : ∀ (l : List Int) (S : Nat -> Bool), S i = true \/ (∃ f ∈ l, f.toNat = i) -> (l.foldl (fun S f => tx S f.toNat) S) i = true
 | [], S, h => by
  rcases h with h | ⟨f, hf, _⟩
  ·exact h
  ·cases hf
 | x :: l, S, h => by
  refine IN i l _ ?_
  rcases h with h | ⟨f, hf, he⟩
  ·exact .inl (uI h)
  ·rcases List.mem_cons.1 hf with rfl | hf
   ·exact .inl (by simp [tx, he])
   ·exact .inr ⟨f, hf, he⟩
theorem QG {l : List Int} {f : Int} (h : f ∈ l) : oi l f.toNat = true := IN _ l _ (.inr ⟨f, h, rfl⟩)
theorem An (S : Nat -> Bool) (n : Nat) : tx S n n = true := by simp [tx]
theorem KG {S : Nat -> Bool} {n i : Nat} (h : tx S n i = true) : i = n \/ S i = true := by
 simp only [tx] at h; split at h
 ·exact .inl ‹_›
 ·exact .inr h
theorem Np {S T : Nat -> Bool} (hs : ∀ i, S i = true -> T i = true) {e : Ed} (h : ja S e = true) : ja T e = true := by
 simp only [ja, Bool.and_eq_true, Bool.or_eq_true] at h ⊢
 exact ⟨⟨hs _ h.1.1, h.1.2⟩, h.2.imp id (hs _)⟩
theorem Jk {e : Ed} : ∀ (l : List Ed) (S : Nat -> Bool), e ∈ l -> ja S e = true -> eK l S e.fr.toNat = true
 | x :: l, S, h, hg => by
  show eK l (BS S x) _ = true
  rcases List.mem_cons.1 h with rfl | h
  ·refine ji l _ _ ?_
   unfold BS; rw [if_pos hg]; exact An _ _
  ·exact Jk l _ h (Np (fun i hi => Hk hi) hg)
theorem Jl {A : Nat -> Bool} {e : Ed} (hg : ja A e = true) : ∀ (l : List Ed) (S : Nat -> Bool), e ∈ l -> S e.fr.toNat = true -> eq A l S e.to.toNat = true /\ (e.kind = 5 -> eq A l S e.inner.toNat = true)
 | x :: l, S, h, hs => by
  show eq A l (vv A S x) _ = true /\ (_ -> eq A l (vv A S x) _ = true)
  rcases List.mem_cons.1 h with rfl | h
  ·have h1 : vv A S e = if e.kind = 5 then tx (tx S e.to.toNat) e.inner.toNat else tx S e.to.toNat := by unfold vv; rw [hs, hg]; rfl
   refine ⟨iu A l _ _ ?_, fun h5 => iu A l _ _ ?_⟩
   ·rw [h1]; split
    ·exact uI (An _ _)
    ·exact An _ _
   ·rw [h1, if_pos h5]; exact An _ _
  ·exact Jl hg l _ h (Hl hs)
theorem GO {f : (Nat -> Bool) -> Nat -> Bool} (hf : ∀ S i, S i = true -> f S i = true) : ∀ (m : Nat) (S : Nat -> Bool) (i : Nat), S i = true -> s9 f m S i = true
 | 0, S, i, h => h
 | m + 1, S, i, h => hf _ _ (GO hf m S i h)
theorem AJ {a : Au} {f : Int} (h : f ∈ a.fin) : aE a f.toNat = true := GO (ji a.eds) _ _ _ (QG h)
theorem MJ {a : Au} {e : Ed} (he : e ∈ a.eds) (hlow : e.fr.toNat < 448) (hg : ja (aE a) e = true) : aE a e.fr.toNat = true := by
 have h3 := tI.1 (tF (ji a.eds) (oi a.fin)).2.2 _ hlow
 have h4 : eK a.eds (aE a) e.fr.toNat = true := Jk _ _ he hg
 exact h3.symm.trans h4
theorem EM (a : Au) : bq a a.start.toNat = true := GO (iu (aE a) a.eds) _ _ _ (An _ _)
theorem NJ {a : Au} {e : Ed} (he : e ∈ a.eds) (h1 : e.to.toNat < 448) (h2 : e.kind = 5 -> e.inner.toNat < 448) (hg : ja (aE a) e = true) (hr : bq a e.fr.toNat = true) :
  bq a e.to.toNat = true /\ (e.kind = 5 -> bq a e.inner.toNat = true) := by
 have h3 := tI.1 (tF (iu (aE a) a.eds) (Af a.start.toNat)).2.2
 obtain ⟨h4, h5⟩ : eq (aE a) a.eds (bq a) e.to.toNat = true /\ (e.kind = 5 -> eq (aE a) a.eds (bq a) e.inner.toNat = true) := Jl hg _ _ he hr
 exact ⟨(h3 _ h1).symm.trans h4, fun k => (h3 _ (h2 k)).symm.trans (h5 k)⟩
theorem Mh {A L : Nat -> Bool} : ∀ (l : List Ed) (S : Nat -> Bool), (∀ e ∈ l, L e.fr.toNat = true -> ja A e = true -> L e.to.toNat = true /\ (e.kind = 5 -> L e.inner.toNat = true)) -> (∀ i, S i = true -> L i = true) -> ∀ i, eq A l S i = true -> L i = true
 | [], S, _, h, i, hi => h i hi
 | e :: l, S, hc, h, i, hi => by
  refine Mh l (vv A S e) (fun x hx => hc x (List.mem_cons_of_mem _ hx)) (fun j hj => ?_) i hi
  unfold vv at hj
  split at hj
  ·rename_i hg
   simp only [Bool.and_eq_true] at hg
   obtain ⟨h1, h2⟩ := hc e (List.mem_cons_self ..) (h _ hg.1) hg.2
   split at hj
   ·rename_i h5
    rcases KG hj with rfl | hj
    ·exact h2 h5
    ·rcases KG hj with rfl | hj
     ·exact h1
     ·exact h _ hj
   ·rcases KG hj with rfl | hj
    ·exact h1
    ·exact h _ hj
  ·exact h _ hj
theorem QY {f : (Nat -> Bool) -> Nat -> Bool} {L : Nat -> Bool} (hf : ∀ S, (∀ i, S i = true -> L i = true) -> ∀ i, f S i = true -> L i = true) : ∀ (m : Nat) (S : Nat -> Bool), (∀ i, S i = true -> L i = true) -> ∀ i, s9 f m S i = true -> L i = true
 | 0, S, h => h
 | m + 1, S, h => hf _ (QY hf m S h)
theorem Rb {a : Au} {L : Nat -> Bool} (hs : L a.start.toNat = true) (hc : ∀ e ∈ a.eds, L e.fr.toNat = true -> L e.to.toNat = true /\ (e.kind = 5 -> L e.inner.toNat = true)) : ∀ i, bq a i = true -> L i = true :=
 QY (fun S hS => Mh _ S (fun e he h1 _ => hc e he h1) hS) _ _ fun i hi => by
  rcases KG hi with rfl | h
  ·exact hs
  ·cases h
theorem CN {P : Nat -> Bool} {i j : Nat} (hp : P i = true) (h : i < j) : aX P i < aX P j := by
 have h1 : aX P (i + 1) = aX P i + 1 := by simp only [aX, hp, if_true]
 have := DH P (i := i + 1) (n := j) (by omega)
 omega
theorem Lh {P : Nat -> Bool} {i j : Nat} (hi : P i = true) (hj : P j = true) (h : aX P i = aX P j) : i = j := by
 rcases Nat.lt_trichotomy i j with h1 | h1 | h1
 ·have := CN hi h1; omega
 ·exact h1
 ·have := CN hj h1; omega
theorem AT {P : Nat -> Bool} {i : Nat} (h : P i = true) : cS P i = aX P i := by unfold cS; rw [if_pos h]
theorem JJ (S T : Nat -> Bool) : ∀ k, aX (fun i => S i || T i) k <= aX S k + aX T k
 | 0 => Nat.le_refl _
 | k + 1 => by
  have := JJ S T k
  simp only [aX]
  by_cases hs : S k = true <;> by_cases ht : T k = true <;> simp [hs, ht] <;> omega
theorem i9 {S T : Nat -> Bool} : ∀ {k : Nat}, (∀ i, i < k -> S i = T i) -> aX S k = aX T k
 | 0, _ => rfl
 | k + 1, h => by simp only [aX, h k (by omega), i9 fun i hi => h i (Nat.lt_succ_of_lt hi)]
theorem ue (S : Nat -> Bool) (m : Nat) : ∀ k, aX S (m + k) = aX S m + aX (fun i => S (m + i)) k
 | 0 => rfl
 | k + 1 => by rw [<- Nat.add_assoc]; simp only [aX]; rw [ue S m k]; omega
theorem tC : ∀ k, aX (fun _ => false) k = 0
 | 0 => rfl
 | k + 1 => by simp only [aX, tC k]; rfl
def wn (P L : Nat -> Bool) (n j : Nat) : Bool := (List.range n).any fun i => P i && L i && aX P i == j
theorem LT {P L : Nat -> Bool} {n j : Nat} : wn P L n j = true ↔ ∃ i, i < n /\ P i = true /\ L i = true /\ aX P i = j := by
 simp only [wn, List.any_eq_true, List.mem_range, Bool.and_eq_true, beq_iff_eq, and_assoc]
theorem Ox {P L : Nat -> Bool} {n i : Nat} (hi : i < n) (hp : P i = true) : wn P L n (aX P i) = L i := by
 cases hl : L i with
 | true => exact LT.2 ⟨i, hi, hp, hl, rfl⟩
 | false =>
  cases h : wn P L n (aX P i) with
  | false => rfl
  | true =>
   obtain ⟨j, _, h1, h2, h3⟩ := LT.1 h
   rw [Lh h1 hp h3, hl] at h2; cases h2
theorem Kc (P L : Nat -> Bool) : ∀ n, aX (wn P L n) (aX P n) <= aX L n
 | 0 => Nat.le_refl _
 | n + 1 => by
  have ih := Kc P L n
  cases hp : P n with
  | false =>
   have e1 : aX P (n + 1) = aX P n := by simp [aX, hp]
   have e2 : wn P L (n + 1) = wn P L n := by
    funext j; simp [wn, List.range_succ, hp]
   have e3 := DH L (Nat.le_succ n)
   rw [e1, e2]; exact Nat.le_trans ih e3
  | true =>
   have e1 : aX P (n + 1) = aX P n + 1 := by simp [aX, hp]
   have e2 : ∀ j, j < aX P n -> wn P L (n + 1) j = wn P L n j := by
    intro j hj
    have : (aX P n == j) = false := by simp; omega
    simp [wn, List.range_succ, this]
   have e3 : wn P L (n + 1) (aX P n) = L n := Ox (Nat.lt_succ_self n) hp
   rw [e1]
   simp only [aX]
   rw [e3, i9 e2]; omega
open Go Ab
structure MI (n : Int) (e : Ed) : Prop where
 fr : 0 <= e.fr /\ e.fr < n
 to : 0 <= e.to /\ e.to < n
 inn : e.kind = 5 -> 0 <= e.inner /\ e.inner < n
 no : e.kind ≠ 5 -> e.inner = 0
 be : Be e
 exc : e.exc = []
 kind : 1 <= e.kind /\ e.kind <= 5
 sym : (if e.kind = 1 then tc e.sym else EW e.sym) = true
structure wQ (a : Au) : Prop where
 n : 1 <= a.n
 start : 0 <= a.start /\ a.start < a.n
 fin : ∀ f ∈ a.fin, 0 <= f /\ f < a.n
 asc : ri a.fin
 eds : ∀ e ∈ a.eds, MI a.n e
structure SR (a : Au) (L1 L2 : Nat -> Bool) (p q c1 c2 f1 d : Nat) : Prop where
 s : L1 a.start.toNat = true
 t1 : ∀ e ∈ a.eds, L1 e.fr.toNat = true -> L1 e.to.toNat = true /\ (e.kind = 5 -> L2 e.inner.toNat = true)
 t2 : ∀ e ∈ a.eds, L2 e.fr.toNat = true -> L2 e.to.toNat = true /\ (e.kind = 5 -> L2 e.inner.toNat = true)
 n1 : aX L1 a.n.toNat <= p
 n2 : aX L2 a.n.toNat <= q
 e1 : a.eds.countP (fun e => L1 e.fr.toNat) <= c1
 e2 : a.eds.countP (fun e => L2 e.fr.toNat) <= c2
 f : a.fin.countP (fun f => L1 f.toNat) <= f1
 d : a.eds.countP (fun e => e.fr.toNat == a.start.toNat) <= d
theorem MI.some {n : Int} {e : Ed} (h : MI n e) : ET e = true := by unfold ET; rw [h.exc]; simp
theorem MI.sok {n : Int} {e : Ed} (h : MI n e) : RJ n e := ⟨h.fr, h.to, h.inn, h.no, h.be⟩
theorem N8 {n : Int} : ∀ (l : List Int) (p : Option Int), (∀ f ∈ l, 0 <= f /\ f < n) -> (∀ q, p = some q -> ∀ f ∈ l, q < f) -> ri l -> BV n p l = true
 | [], _, _, _, _ => by simp only [BV]
 | x :: l, p, h, hp, ha => by
  have h1 := List.pairwise_cons.1 ha
  have h2 := N8 l (some x) (fun f hf => h f (List.mem_cons_of_mem _ hf)) (fun q hq f hf => by cases hq; exact h1.1 f hf) h1.2
  have h3 := oj.2 (h x (List.mem_cons_self ..))
  simp only [BV, h2, h3, Bool.and_true, Bool.true_and]
  cases p with
  | none => rfl
  | some q => exact decide_eq_true (hp q rfl x (List.mem_cons_self ..))
theorem FP {m : Int} : ∀ (l : List Int) (lo : Int), (∀ f ∈ l, lo <= f /\ f < m) -> ri l -> l.length <= (m - lo).toNat
 | [], _, _, _ => Nat.zero_le _
 | x :: l, lo, h, ha => by
  have h1 := List.pairwise_cons.1 ha
  have h2 := h x (List.mem_cons_self ..)
  have h3 := FP l (x + 1) (fun f hf => ⟨by have := h1.1 f hf; omega, (h f (List.mem_cons_of_mem _ hf)).2⟩) h1.2
  simp only [List.length_cons]; omega
theorem wQ.finL {a : Au} (h : wQ a) : a.fin.length <= a.n.toNat := by
 have := FP a.fin 0 h.fin h.asc
 rwa [Int.sub_zero] at this
theorem wQ.check {a : Au} (h : wQ a) (h1 : a.n <= 400) (h2 : a.eds.length <= 4000) : cP a = 0 := by
 have hf := h.finL
 have hl : xx a.eds = false := by
  unfold xx
  rw [List.any_eq_false]
  intro e he
  rw [(h.eds e he).exc]; decide
 have hs := oj.2 h.start
 have ha := N8 a.fin none h.fin (fun q hq => by cases hq) h.asc
 have hr : (a.eds.any fun e => !jL a.n e) = false := by
  rw [List.any_eq_false]
  intro e he
  obtain ⟨k1, k2, k3, k4, k5, k6, k7, k8⟩ := h.eds e he
  have i1 := oj.2 k1
  have i2 := oj.2 k2
  have i3 : (if e.kind = 5 then ql a.n e.inner else e.inner == 0) = true := by
   split
   ·exact oj.2 (k3 ‹_›)
   ·rw [k4 ‹_›]; rfl
  simp [jL, i1, i2, i3, k6, k7.1, k7.2, k8, E4]
 unfold cP
 rw [if_neg, if_neg, if_neg, if_neg]
 ·rw [hr]; decide
 ·rw [ha]; decide
 ·have := h.n
  simp [hs]; omega
 ·simp [hl]; omega
theorem wQ.tr {a : Au} (h : wQ a) (h1 : a.n <= 448) (h2 : a.eds.length <= 1048576) : Tr a := by
 have hf := h.finL
 exact ⟨⟨h.n, h1⟩, h.start, by omega, h.fin, h2, fun e he => (h.eds e he).sok⟩
section
variable {a : Au} (h : wQ a) (h1 : a.n <= 448)
include h h1
theorem AM {e : Ed} (he : e ∈ a.eds) (hg : (ja (aE a) e && bq a e.fr.toNat) = true) :
  aY a e.fr.toNat = true /\ aY a e.to.toNat = true /\ (e.kind = 5 -> aY a e.inner.toNat = true) := by
 simp only [Bool.and_eq_true] at hg
 obtain ⟨hg, hr⟩ := hg
 have hn := h.eds e he
 have k1 := hn.fr
 have k2 := hn.to
 have a1 := MJ he (by omega) hg
 obtain ⟨r1, r2⟩ := NJ he (by omega) (fun k => by have := hn.inn k; omega) hg hr
 simp only [ja, Bool.and_eq_true, Bool.or_eq_true, bne_iff_ne, ne_eq] at hg
 simp only [aY, Bool.and_eq_true]
 exact ⟨⟨hr, a1⟩, ⟨r1, hg.1.1⟩, fun k => ⟨r2 k, by rcases hg.2 with h | h; exact absurd k h; exact h⟩⟩
theorem GW {i : Int} (h0 : 0 <= i /\ i < a.n) (hp : aY a i.toNat = true) : 0 <= (cS (aY a) i.toNat : Int) /\ (cS (aY a) i.toNat : Int) < (aX (aY a) a.n.toNat : Nat) := by
 rw [AT hp]
 have := CN hp (i := i.toNat) (j := a.n.toNat) (by omega)
 omega
theorem Hp : ∀ y ∈ ln (aE a) (bq a) (aY a) a.eds, ∃ x, x ∈ a.eds /\ (ja (aE a) x && bq a x.fr.toNat) = true /\ y = iz (aY a) x := by
 have : ∀ (l out : List Ed), (∀ y ∈ out, ∃ x, x ∈ a.eds /\ (ja (aE a) x && bq a x.fr.toNat) = true /\ y = iz (aY a) x) -> (∀ x ∈ l, x ∈ a.eds) -> ∀ y ∈ l.foldl (pu (aE a) (bq a) (aY a)) out, ∃ x, x ∈ a.eds /\ (ja (aE a) x && bq a x.fr.toNat) = true /\ y = iz (aY a) x := by
  intro l
  induction l with
  | nil => intro out ho _ y hy; exact ho y hy
  | cons z l ih =>
   intro out ho hl y hy
   refine ih (pu _ _ _ out z) (fun w hw => ?_) (fun x hx => hl x (List.mem_cons_of_mem _ hx)) y hy
   unfold pu addE at hw
   split at hw
   ·rename_i hc
    split at hw
    ·exact ho w hw
    ·rcases List.mem_append.1 hw with hw | hw
     ·exact ho w hw
     ·simp only [List.mem_cons, List.mem_nil_iff, or_false] at hw
      exact ⟨z, hl z (List.mem_cons_self ..), hc, hw⟩
   ·exact ho w hw
 exact this a.eds [] (fun y hy => by cases hy) (fun x hx => hx)
theorem P4 : wQ (lZ a) := by
 unfold lZ
 split
 ·rename_i hs
  have hps : aY a a.start.toNat = true := by simp only [aY, EM, hs, Bool.true_and]
  have hps' := GW h h1 h.start hps
  refine ⟨?_, hps', ?_, ?_, ?_⟩
  ·show (1 : Int) <= (aX (aY a) a.n.toNat : Nat); omega
  ·intro f hf
   simp only [k9, List.mem_map, List.mem_filter] at hf
   obtain ⟨g, ⟨hg, hr⟩, rfl⟩ := hf
   exact GW h h1 (h.fin g hg) (by simp only [aY, hr, AJ hg, Bool.true_and])
  ·show ri (k9 _ _ _)
   unfold k9 ri
   rw [List.pairwise_map]
   refine (List.Pairwise.filter _ (List.Pairwise.imp_of_mem (S := fun x y => bq a x.toNat = true -> bq a y.toNat = true -> (cS (aY a) x.toNat : Int) < cS (aY a) y.toNat) ?_ h.asc)).imp_of_mem ?_
   ·intro x y hx hy hxy rx ry
    have px : aY a x.toNat = true := by simp only [aY, rx, AJ hx, Bool.true_and]
    have py : aY a y.toNat = true := by simp only [aY, ry, AJ hy, Bool.true_and]
    rw [AT px, AT py]
    have h2 := h.fin x hx
    have := CN px (i := x.toNat) (j := y.toNat) (by omega)
    omega
   ·intro x y hx hy hxy
    exact hxy (List.mem_filter.1 hx).2 (List.mem_filter.1 hy).2
  ·intro e he
   show MI (aX (aY a) a.n.toNat : Nat) e
   obtain ⟨x, hx, hg, rfl⟩ := Hp h h1 e he
   obtain ⟨b1, b2, b3⟩ := AM h h1 hx hg
   obtain ⟨k1, k2, k3, k4, k5, k6, k7, k8⟩ := h.eds x hx
   refine ⟨GW h h1 k1 b1, GW h h1 k2 b2, fun k => ?_, fun k => ?_, k5, k6, k7, k8⟩
   ·have k : x.kind = 5 := k
    simp only [iz, if_pos k]
    exact GW h h1 (k3 k) (b3 k)
   ·have k : x.kind ≠ 5 := k
    simp only [iz, if_neg k]
 ·exact ⟨by decide, by decide, fun f hf => (by cases hf), List.Pairwise.nil, fun e he => (by cases he)⟩
theorem Am (M L : Nat -> Bool) (hM : ∀ x ∈ a.eds, (ja (aE a) x && bq a x.fr.toNat) = true -> M (cS (aY a) x.fr.toNat) = true -> L x.fr.toNat = true) :
  (ln (aE a) (bq a) (aY a) a.eds).countP (fun e => M e.fr.toNat) <= a.eds.countP (fun e => L e.fr.toNat) := by
 have : ∀ (l out : List Ed), (∀ x ∈ l, x ∈ a.eds) -> (l.foldl (pu (aE a) (bq a) (aY a)) out).countP (fun e => M e.fr.toNat) <= out.countP (fun e => M e.fr.toNat) + l.countP (fun e => L e.fr.toNat) := by
  intro l
  induction l with
  | nil => intro out _; exact Nat.le_refl _
  | cons z l ih =>
   intro out hl
   have i1 := ih (pu (aE a) (bq a) (aY a) out z) fun x hx => hl x (List.mem_cons_of_mem _ hx)
   have i2 : (pu (aE a) (bq a) (aY a) out z).countP (fun e => M e.fr.toNat) <= out.countP (fun e => M e.fr.toNat) + (if L z.fr.toNat = true then 1 else 0) := by
    unfold pu addE
    split
    ·rename_i hc
     split
     ·omega
     ·rw [List.countP_append]
      cases hm : M (cS (aY a) z.fr.toNat) with
      | true =>
       have hl1 := hM z (hl z (List.mem_cons_self ..)) hc hm
       rw [if_pos hl1]
       have := List.countP_le_length (p := fun e : Ed => M e.fr.toNat) (l := [iz (aY a) z])
       simp only [List.length_cons, List.length_nil] at this
       omega
      | false =>
       have : (iz (aY a) z).fr.toNat = cS (aY a) z.fr.toNat := by simp [iz]
       rw [List.countP_cons_of_neg (by rw [this, hm]; decide)]
       simp
    ·omega
   rw [List.foldl_cons, List.countP_cons]
   omega
 have := this a.eds [] fun x hx => hx
 simpa [ln] using this
end
open Go Ab
theorem DI {α : Type} (p q : α -> Bool) : ∀ l : List α, l.countP (fun x => p x || q x) <= l.countP p + l.countP q
 | [] => Nat.le_refl _
 | x :: l => by
  have := DI p q l
  simp only [List.countP_cons]
  cases p x <;> cases q x <;> simp <;> omega
theorem nB {α : Type} {p : α -> Bool} {l : List α} (h : ∀ x ∈ l, p x = false) : l.countP p = 0 := by
 rw [List.countP_eq_zero]; intro x hx; rw [h x hx]; decide
theorem wZ {α : Type} (l : List α) : l.countP (fun _ => true) = l.length := by
 rw [List.countP_eq_length]; intro x _; rfl
theorem AP {α : Type} {p q : α -> Bool} {l : List α} (h : ∀ x ∈ l, p x = true -> q x = true) : l.countP p <= l.countP q := List.countP_mono_left h
theorem nb {α : Type} {p q : α -> Bool} {l : List α} (h : ∀ x ∈ l, p x = q x) : l.countP p = l.countP q := List.countP_congr fun x hx => by rw [h x hx]
structure Sz (a : Au) (p q c1 c2 f1 d : Nat) : Prop where
 nice : wQ a
 cov : ∃ L1 L2, SR a L1 L2 p q c1 c2 f1 d
 n : a.n <= p + q
 len : a.eds.length <= c1 + c2
theorem SH {a : Au} (h : wQ a) (h1 : a.n <= 448) {L1 L2 : Nat -> Bool} {p q c1 c2 f1 d : Nat} (hp : 1 <= p) (c : SR a L1 L2 p q c1 c2 f1 d) : Sz (lZ a) p q c1 c2 f1 d := by
 have hnice := P4 h h1
 cases hs : aE a a.start.toNat with
 | false =>
  have e : lZ a = { n := 1, start := 0, fin := [], eds := [] } := by unfold lZ; rw [if_neg (by rw [hs]; decide)]
  rw [e] at hnice ⊢
  refine ⟨hnice, ⟨fun _ => true, fun _ => false, rfl, fun e he => (by cases he), fun e he => (by cases he), ?_, ?_, Nat.zero_le _, Nat.zero_le _, Nat.zero_le _, Nat.zero_le _⟩, ?_, Nat.zero_le _⟩
  ·exact hp
  ·exact Nat.zero_le _
  ·show (1 : Int) <= (p : Int) + q; omega
 | true =>
  have e : lZ a = { n := aX (aY a) a.n.toNat, start := cS (aY a) a.start.toNat, fin := k9 (bq a) (aY a) a.fin, eds := ln (aE a) (bq a) (aY a) a.eds } := by
   unfold lZ; rw [if_pos hs]
  rw [e] at hnice ⊢
  have hps : aY a a.start.toNat = true := by simp only [aY, EM, hs, Bool.true_and]
  have hst := h.start
  have hin : ∀ i, bq a i = true -> (L1 i || L2 i) = true := by
   refine Rb (by rw [c.s]; rfl) fun e he hl => ?_
   simp only [Bool.or_eq_true] at hl ⊢
   rcases hl with hl | hl
   ·exact ⟨.inl (c.t1 e he hl).1, fun k => .inr ((c.t1 e he hl).2 k)⟩
   ·exact ⟨.inr (c.t2 e he hl).1, fun k => .inr ((c.t2 e he hl).2 k)⟩
  have at' : ∀ (L : Nat -> Bool) {i : Int}, 0 <= i /\ i < a.n -> aY a i.toNat = true -> wn (aY a) L a.n.toNat (cS (aY a) i.toNat) = L i.toNat := by
   intro L i hi hb
   rw [AT hb]
   exact Ox (by omega) hb
  have tn : ∀ {L L' : Nat -> Bool}, (∀ e ∈ a.eds, L e.fr.toNat = true -> L e.to.toNat = true /\ (e.kind = 5 -> L' e.inner.toNat = true)) ->
    ∀ e ∈ ln (aE a) (bq a) (aY a) a.eds, wn (aY a) L a.n.toNat e.fr.toNat = true -> wn (aY a) L a.n.toNat e.to.toNat = true /\ (e.kind = 5 -> wn (aY a) L' a.n.toNat e.inner.toNat = true) := by
   intro L L' ht e he hl
   obtain ⟨x, hx, hg, rfl⟩ := Hp h h1 e he
   obtain ⟨b1, b2, b3⟩ := AM h h1 hx hg
   have hn := h.eds x hx
   simp only [iz, Int.toNat_natCast] at hl ⊢
   rw [at' L hn.fr b1] at hl
   obtain ⟨t1, t2⟩ := ht x hx hl
   refine ⟨by rw [at' L hn.to b2]; exact t1, fun k => ?_⟩
   simp only [if_pos k, Int.toNat_natCast]
   rw [at' L' (hn.inn k) (b3 k)]
   exact t2 k
  have cn : ∀ {L : Nat -> Bool}, (ln (aE a) (bq a) (aY a) a.eds).countP (fun e => wn (aY a) L a.n.toNat e.fr.toNat) <= a.eds.countP (fun e => L e.fr.toNat) := by
   intro L
   refine Am h h1 _ _ fun x hx hg hm => ?_
   obtain ⟨b1, _, _⟩ := AM h h1 hx hg
   rwa [at' L (h.eds x hx).fr b1] at hm
  refine ⟨hnice, ⟨wn (aY a) L1 a.n.toNat, wn (aY a) L2 a.n.toNat, ?_, tn c.t1, tn c.t2, ?_, ?_, Nat.le_trans cn c.e1, Nat.le_trans cn c.e2, ?_, ?_⟩, ?_, ?_⟩
  ·show wn _ _ _ (Int.toNat (cS _ _ : Nat)) = true
   rw [Int.toNat_natCast, at' L1 hst hps]; exact c.s
  ·show aX _ (Int.toNat (aX _ _ : Nat)) <= p
   rw [Int.toNat_natCast]; exact Nat.le_trans (Kc _ _ _) c.n1
  ·show aX _ (Int.toNat (aX _ _ : Nat)) <= q
   rw [Int.toNat_natCast]; exact Nat.le_trans (Kc _ _ _) c.n2
  ·show (k9 _ _ _).countP _ <= f1
   refine Nat.le_trans ?_ c.f
   unfold k9
   rw [List.countP_map, List.countP_filter]
   refine AP fun f hf hm => ?_
   simp only [Function.comp, Int.toNat_natCast, Bool.and_eq_true] at hm
   have h2 := hm.1
   rwa [at' L1 (h.fin f hf) (by simp only [aY, hm.2, AJ hf, Bool.true_and])] at h2
  ·show (ln _ _ _ _).countP (fun e => e.fr.toNat == Int.toNat (cS _ _ : Nat)) <= d
   refine Nat.le_trans ?_ c.d
   rw [Int.toNat_natCast]
   refine Am h h1 (fun i => i == cS (aY a) a.start.toNat) (fun i => i == a.start.toNat) fun x hx hg hm => ?_
   obtain ⟨b1, _, _⟩ := AM h h1 hx hg
   rw [beq_iff_eq, AT b1, AT hps] at hm
   rw [beq_iff_eq]; exact Lh b1 hps hm
  ·show ((aX _ _ : Nat) : Int) <= p + q
   have k1 : aX (aY a) a.n.toNat <= aX (fun i => L1 i || L2 i) a.n.toNat := DG (fun i hi => hin i (by simp only [aY, Bool.and_eq_true] at hi; exact hi.1)) _
   have k2 := JJ L1 L2 a.n.toNat
   have := c.n1; have := c.n2
   omega
  ·show (ln _ _ _ _).length <= c1 + c2
   have k1 := Am h h1 (fun _ => true) (fun i => L1 i || L2 i) fun x hx hg _ => by
    simp only [Bool.and_eq_true] at hg; exact hin _ hg.2
   rw [wZ] at k1
   have k2 := DI (fun e : Ed => L1 e.fr.toNat) (fun e : Ed => L2 e.fr.toNat) a.eds
   have := c.e1; have := c.e2
   omega
theorem Fx {a : Au} (h : wQ a) (h1 : a.n <= 400) (h2 : a.eds.length <= 4000) {L1 L2 : Nat -> Bool} {p q c1 c2 f1 d : Nat} (hp : 1 <= p) (c : SR a L1 L2 p q c1 c2 f1 d) : (kq a).2 = 0 /\ Sz (kq a).1 p q c1 c2 f1 d := by
 unfold kq
 rw [if_neg (by simp; omega)]
 exact ⟨rfl, SH h (by omega) hp c⟩
theorem Sz.mono {a : Au} {p q c1 c2 f1 d p' q' c1' c2' f1' d' : Nat} (h : Sz a p q c1 c2 f1 d) (h1 : p <= p') (h2 : q <= q') (h3 : c1 <= c1') (h4 : c2 <= c2') (h5 : f1 <= f1') (h6 : d <= d') : Sz a p' q' c1' c2' f1' d' := by
 obtain ⟨k1, ⟨L1, L2, k2⟩, k3, k4⟩ := h
 obtain ⟨s, t1, t2, a1, a2, a3, a4, a5, a6⟩ := k2
 exact ⟨k1, ⟨L1, L2, s, t1, t2, by omega, by omega, by omega, by omega, by omega, by omega⟩, by omega, by omega⟩
theorem PH {n s : Int} (hs : 0 <= s /\ s < n) : MI (n + 2) (uy n s) := by
 refine ⟨?_, ?_, fun _ => ?_, fun k => absurd rfl k, Mc _ _, rfl, ?_, ?_⟩
 ·show 0 <= n /\ n < n + 2; omega
 ·show 0 <= n + 1 /\ n + 1 < n + 2; omega
 ·show 0 <= s /\ s < n + 2; omega
 ·show (1 : Int) <= 5 /\ (5 : Int) <= 5; omega
 ·rfl
theorem MI.mono {n m : Int} {e : Ed} (h : MI n e) (hm : n <= m) : MI m e := by
 obtain ⟨k1, k2, k3, k4, k5, k6, k7, k8⟩ := h
 exact ⟨by omega, by omega, fun k => by have := k3 k; omega, k4, k5, k6, k7, k8⟩
theorem P8 {a : Au} (h : wQ a) : wQ (Dz a) := by
 obtain ⟨h1, h2, h3, h4, h5⟩ := h
 refine ⟨?_, ?_, fun f hf => ?_, ?_, fun e he => ?_⟩
 ·show 1 <= a.n + 2; omega
 ·show 0 <= a.n /\ a.n < a.n + 2; omega
 ·show 0 <= f /\ f < a.n + 2
  rcases List.mem_append.1 hf with hf | hf
  ·have := h3 f hf; omega
  ·simp only [List.mem_cons, List.mem_nil_iff, or_false] at hf; omega
 ·refine List.pairwise_append.2 ⟨h4, List.pairwise_singleton _ _, fun x hx y hy => ?_⟩
  simp only [List.mem_cons, List.mem_nil_iff, or_false] at hy
  have := h3 x hx; omega
 ·show MI (a.n + 2) e
  rcases List.mem_append.1 he with he | he
  ·exact (h5 e he).mono (by omega)
  ·simp only [List.mem_cons, List.mem_nil_iff, or_false] at he
   subst he; exact PH h2
theorem RI {a : Au} (h : wQ a) {L1 L2 : Nat -> Bool} {p q c1 c2 f1 d : Nat} (c : SR a L1 L2 p q c1 c2 f1 d) :
  SR (Dz a) (fun i => decide (i = a.n.toNat) || decide (i = a.n.toNat + 1)) (fun i => decide (i < a.n.toNat) && (L1 i || L2 i)) 2 (p + q) 1 (c1 + c2) 1 1 := by
 have hn := h.n
 have hst := h.start
 have ne : (uy a.n a.start).fr = a.n /\ (uy a.n a.start).to = a.n + 1 /\ (uy a.n a.start).inner = a.start := ⟨rfl, rfl, rfl⟩
 refine ⟨?_, fun e he hl => ?_, fun e he hl => ?_, ?_, ?_, ?_, ?_, ?_, ?_⟩
 ·show (decide (a.n.toNat = a.n.toNat) || _) = true; simp
 ·simp only [Bool.or_eq_true, decide_eq_true_eq, Bool.and_eq_true] at hl ⊢
  rcases List.mem_append.1 he with he | he
  ·have := (h.eds e he).fr; omega
  ·simp only [List.mem_cons, List.mem_nil_iff, or_false] at he
   subst he
   rw [ne.2.1, ne.2.2]
   exact ⟨by omega, fun _ => ⟨by omega, .inl c.s⟩⟩
 ·simp only [Bool.or_eq_true, decide_eq_true_eq, Bool.and_eq_true] at hl ⊢
  rcases List.mem_append.1 he with he | he
  ·have hx := h.eds e he
   have := hx.to
   rcases hl.2 with hl | hl
   ·exact ⟨⟨by omega, .inl (c.t1 e he hl).1⟩, fun k => ⟨by have := hx.inn k; omega, .inr ((c.t1 e he hl).2 k)⟩⟩
   ·exact ⟨⟨by omega, .inr (c.t2 e he hl).1⟩, fun k => ⟨by have := hx.inn k; omega, .inr ((c.t2 e he hl).2 k)⟩⟩
  ·simp only [List.mem_cons, List.mem_nil_iff, or_false] at he
   subst he
   rw [ne.1] at hl; omega
 ·show aX _ (a.n + 2).toNat <= 2
  rw [show (a.n + 2).toNat = a.n.toNat + 2 by omega]
  generalize a.n.toNat = N
  rw [ue, i9 (k := N) (T := fun _ => false) (fun i hi => by simp; omega), tC, Nat.zero_add]
  exact AO _ 2
 ·show aX _ (a.n + 2).toNat <= p + q
  have k1 := c.n1
  have k2 := c.n2
  rw [show (a.n + 2).toNat = a.n.toNat + 2 by omega]
  generalize a.n.toNat = N at k1 k2
  rw [ue, i9 (k := 2) (T := fun _ => false) (fun i hi => by rw [decide_eq_false (show ¬ N + i < N by omega)]; rfl), tC,
   i9 (k := N) (T := fun i => L1 i || L2 i) (fun i hi => by rw [decide_eq_true hi]; rfl)]
  have := JJ L1 L2 N
  omega
 ·show (a.eds ++ [_]).countP _ <= 1
  rw [List.countP_append, nB (l := a.eds) (fun e he => by have := (h.eds e he).fr; simp; omega)]
  have := List.countP_le_length (p := fun e : Ed => decide (e.fr.toNat = a.n.toNat) || decide (e.fr.toNat = a.n.toNat + 1)) (l := [uy a.n a.start])
  simp only [List.length_cons, List.length_nil] at this
  omega
 ·show (a.eds ++ [_]).countP _ <= c1 + c2
  rw [List.countP_append, nB (l := [uy a.n a.start]) (fun e he => by
   simp only [List.mem_cons, List.mem_nil_iff, or_false] at he; subst he; rw [ne.1]; simp)]
  have k1 : a.eds.countP (fun e => decide (e.fr.toNat < a.n.toNat) && (L1 e.fr.toNat || L2 e.fr.toNat)) <= a.eds.countP (fun e => L1 e.fr.toNat || L2 e.fr.toNat) := AP fun e _ h => by simp only [Bool.and_eq_true] at h; exact h.2
  have k2 := DI (fun e : Ed => L1 e.fr.toNat) (fun e : Ed => L2 e.fr.toNat) a.eds
  have := c.e1; have := c.e2
  omega
 ·show (a.fin ++ [_]).countP _ <= 1
  rw [List.countP_append, nB (l := a.fin) (fun f hf => by have := h.fin f hf; simp; omega)]
  have := List.countP_le_length (p := fun f : Int => decide (f.toNat = a.n.toNat) || decide (f.toNat = a.n.toNat + 1)) (l := [a.n + 1])
  simp only [List.length_cons, List.length_nil] at this
  omega
 ·show (a.eds ++ [_]).countP (fun e : Ed => e.fr.toNat == a.n.toNat) <= 1
  rw [List.countP_append, nB (l := a.eds) (fun e he => by have := (h.eds e he).fr; simp; omega)]
  have := List.countP_le_length (p := fun e : Ed => e.fr.toNat == a.n.toNat) (l := [uy a.n a.start])
  simp only [List.length_cons, List.length_nil] at this
  omega
theorem SQ {a : Au} {p q c1 c2 f1 d : Nat} (h : Sz a p q c1 c2 f1 d) (b1 : p + q <= 398) (b2 : c1 + c2 <= 3999) : (lI a).2 = 0 /\ Sz (lI a).1 2 (p + q) 1 (c1 + c2) 1 1 := by
 obtain ⟨hn, ⟨L1, L2, hc⟩, h1, h2⟩ := h
 unfold lI
 rw [if_neg (by rw [hn.check (by omega) (by omega)]; decide)]
 refine Fx (P8 hn) ?_ ?_ (by omega) (RI hn hc)
 ·show a.n + 2 <= 400; omega
 ·show (a.eds ++ [_]).length <= 4000
  simp only [List.length_append, List.length_cons, List.length_nil]; omega
open Go Ab
theorem GM (P : Int -> Bool) (x : Int) : ∀ L : List Int, (nE L x).countP P <= L.countP P + (if P x then 1 else 0)
 | [] => by simp [nE, List.countP_cons]
 | y :: r => by
  have := GM P x r
  simp only [nE]
  split
  ·simp only [List.countP_cons]; omega
  ·split
   ·omega
   ·simp only [List.countP_cons]; omega
theorem Ex (P : Int -> Bool) : ∀ l L : List Int, (l.foldl nE L).countP P <= L.countP P + l.countP P
 | [], L => Nat.le_refl _
 | x :: l, L => by
  have h1 := Ex P l (nE L x)
  have h2 := GM P x L
  rw [List.foldl_cons, List.countP_cons]; omega
theorem Mt (P : Int -> Bool) (l : List Int) : (bg l).countP P <= l.countP P := by
 have := Ex P l []
 simpa [bg] using this
theorem Nw (M : Nat -> Bool) (T : List Ed) (f s : Int) : (uw T f s).countP (fun e => M e.fr.toNat) = if M f.toNat then T.countP (fun e => e.fr == s) else 0 := by
 unfold uw
 rw [List.countP_map]
 cases hm : M f.toNat with
 | true =>
  rw [if_pos rfl, List.countP_eq_length_filter (p := fun e : Ed => e.fr == s), <- wZ (T.filter _)]
  exact nb fun x hx => by simp [Function.comp, hm]
 | false =>
  rw [if_neg (by decide)]
  exact nB fun x hx => by simp [Function.comp, hm]
theorem r8 (M : Nat -> Bool) (T : List Ed) (s : Int) : ∀ l : List Int, (l.flatMap fun f => uw T f s).countP (fun e => M e.fr.toNat) = l.countP (fun f => M f.toNat) * T.countP (fun e => e.fr == s)
 | [] => by simp
 | f :: l => by
  rw [List.flatMap_cons, List.countP_append, Nw, r8 M T s l, List.countP_cons]
  cases M f.toNat with
  | true => simp [Nat.add_mul]; omega
  | false => simp
theorem CC {n m by' inn : Int} {e : Ed} (h : MI n e) (h1 : 0 <= by') (h2 : 0 <= inn) (h3 : n + by' <= m) (h4 : n + inn <= m) : MI m (mN by' inn e) := by
 obtain ⟨k1, k2, k3, k4, k5⟩ := CD h.sok h1 h2 h3 h4
 exact ⟨k1, k2, k3, k4, k5, h.exc, h.kind, h.sym⟩
section
variable {a b : Au} (ha : wQ a) (hb : wQ b)
include ha hb
theorem La {e : Ed} (he : e ∈ ud a b) : ∃ x ∈ b.eds, e = mN (2 * a.n) (2 * a.n) x := by
 simp only [ud, List.mem_map] at he
 obtain ⟨x, hx, rfl⟩ := he
 exact ⟨x, hx, rfl⟩
theorem F1 {e : Ed} (he : e ∈ wX a b) : (∃ x ∈ a.eds, e = mN 0 a.n x) \/ (∃ x ∈ a.eds, e = mN a.n a.n x) \/ (∃ x ∈ b.eds, e = mN (2 * a.n) (2 * a.n) x) \/
  ∃ f ∈ a.fin, ∃ x ∈ b.eds, x.fr = b.start /\ e = { mN (2 * a.n) (2 * a.n) x with fr := f } := by
 simp only [wX, List.mem_append] at he
 rcases he with ((he | he) | he) | he
 ·simp only [List.mem_map] at he
  obtain ⟨x, hx, rfl⟩ := he
  exact .inl ⟨x, hx, rfl⟩
 ·simp only [List.mem_map] at he
  obtain ⟨x, hx, rfl⟩ := he
  exact .inr (.inl ⟨x, hx, rfl⟩)
 ·exact .inr (.inr (.inl (La ha hb he)))
 ·simp only [List.mem_flatMap, uw, List.mem_map, List.mem_filter] at he
  obtain ⟨f, hf, y, ⟨hy, hs⟩, rfl⟩ := he
  obtain ⟨x, hx, rfl⟩ := La ha hb hy
  have : x.fr + 2 * a.n = b.start + 2 * a.n := by simpa [mN] using hs
  exact .inr (.inr (.inr ⟨f, hf, x, hx, by omega, rfl⟩))
theorem Qw : wQ (BZ a b) := by
 have := ha.n; have := hb.n; have := ha.start
 refine ⟨?_, ?_, fun f hf => ?_, Hj _, fun e he => ?_⟩
 ·show 1 <= 2 * a.n + b.n; omega
 ·show 0 <= a.start /\ a.start < 2 * a.n + b.n; omega
 ·show 0 <= f /\ f < 2 * a.n + b.n
  have hf : f ∈ nz a b := by rcases wB hf with h | h; exact h; cases h
  simp only [nz, List.mem_append, List.mem_map] at hf
  rcases hf with (⟨g, hg, rfl⟩ | ⟨g, hg, rfl⟩) | hf
  ·have := ha.fin g hg; omega
  ·have := hb.fin g hg; omega
  ·split at hf
   ·have := ha.fin f hf; omega
   ·cases hf
 ·show MI (2 * a.n + b.n) e
  rcases F1 ha hb he with ⟨x, hx, rfl⟩ | ⟨x, hx, rfl⟩ | ⟨x, hx, rfl⟩ | ⟨f, hf, x, hx, hs, rfl⟩
  ·exact CC (ha.eds x hx) (by omega) (by omega) (by omega) (by omega)
  ·exact CC (ha.eds x hx) (by omega) (by omega) (by omega) (by omega)
  ·exact CC (hb.eds x hx) (by omega) (by omega) (by omega) (by omega)
  ·obtain ⟨k1, k2, k3, k4, k5, k6, k7, k8⟩ := CC (m := 2 * a.n + b.n) (by' := 2 * a.n) (inn := 2 * a.n) (hb.eds x hx) (by omega) (by omega) (by omega) (by omega)
   have := ha.fin f hf
   exact ⟨by show 0 <= f /\ f < _; omega, k2, k3, k4, k5, k6, k7, k8⟩
variable {L1 L2 M1 M2 : Nat -> Bool} {p q c1 c2 f1 d p' q' c1' c2' f1' d' : Nat} (c : SR a L1 L2 p q c1 c2 f1 d) (c' : SR b M1 M2 p' q' c1' c2' f1' d')
include c c'
omit ha hb c c' in
theorem shift (n : Nat) (i : Int) (k : Int) (hi : 0 <= i) (hk : k = n) : (i + k).toNat = i.toNat + n := by omega
theorem R4 : SR (BZ a b) (fun i => decide (i < a.n.toNat) && L1 i || (decide (2 * a.n.toNat <= i) && M1 (i - 2 * a.n.toNat)))
  (fun i => decide (a.n.toNat <= i) && (decide (i < 2 * a.n.toNat) && L2 (i - a.n.toNat)) || (decide (2 * a.n.toNat <= i) && M2 (i - 2 * a.n.toNat)))
  (p + p') (q + q') (c1 + c1' + f1 * d') (c2 + c2') (f1 + f1') (a.eds.length + b.eds.length + a.fin.length * d' + a.eds.length) := by
 obtain ⟨n, hn⟩ : ∃ n : Nat, a.n = n := ⟨a.n.toNat, by have := ha.n; omega⟩
 obtain ⟨m, hm⟩ : ∃ m : Nat, b.n = m := ⟨b.n.toNat, by have := hb.n; omega⟩
 have hnn : a.n.toNat = n := by omega
 rw [hnn]
 obtain ⟨A, hA⟩ : ∃ A : Nat -> Bool, A = fun i => decide (i < n) && L1 i || (decide (2 * n <= i) && M1 (i - 2 * n)) := ⟨_, rfl⟩
 obtain ⟨B, hB⟩ : ∃ B : Nat -> Bool, B = fun i => decide (n <= i) && (decide (i < 2 * n) && L2 (i - n)) || (decide (2 * n <= i) && M2 (i - 2 * n)) := ⟨_, rfl⟩
 rw [<- hA, <- hB]
 have A0 : ∀ i : Nat, i < n -> A i = L1 i := fun i h => by rw [hA]; simp [h, show ¬ 2 * n <= i by omega]
 have A1 : ∀ i : Nat, i < n -> A (i + n) = false := fun i h => by rw [hA]; simp [show ¬ i + n < n by omega, show ¬ 2 * n <= i + n by omega]
 have A2 : ∀ i : Nat, A (i + 2 * n) = M1 i := fun i => by rw [hA]; simp [show ¬ i + 2 * n < n by omega, show 2 * n <= i + 2 * n by omega]
 have B0 : ∀ i : Nat, i < n -> B i = false := fun i h => by rw [hB]; simp [show ¬ n <= i by omega, show ¬ 2 * n <= i by omega]
 have B1 : ∀ i : Nat, i < n -> B (i + n) = L2 i := fun i h => by rw [hB]; simp [show n <= i + n by omega, show i + n < 2 * n by omega, show ¬ 2 * n <= i + n by omega]
 have B2 : ∀ i : Nat, B (i + 2 * n) = M2 i := fun i => by rw [hB]; simp [show n <= i + 2 * n by omega, show ¬ i + 2 * n < 2 * n by omega, show 2 * n <= i + 2 * n by omega]
 have t1 : ∀ i : Int, 0 <= i -> (i + a.n).toNat = i.toNat + n := fun i h => shift n i a.n h hn
 have t2 : ∀ i : Int, 0 <= i -> (i + 2 * a.n).toNat = i.toNat + 2 * n := fun i h => shift (2 * n) i (2 * a.n) h (by omega)
 have bf : ∀ (by' inn : Int) (e : Ed), (mN by' inn e).fr = e.fr + by' := fun _ _ _ => rfl
 have bt : ∀ (by' inn : Int) (e : Ed), (mN by' inn e).to = e.to + by' := fun _ _ _ => rfl
 have bk : ∀ (by' inn : Int) (e : Ed), (mN by' inn e).kind = e.kind := fun _ _ _ => rfl
 have bi : ∀ (by' inn : Int) (e : Ed), e.kind = 5 -> (mN by' inn e).inner = e.inner + inn := fun _ _ e h => by simp [mN, h]
 have lt : ∀ {i : Int}, 0 <= i /\ i < a.n -> i.toNat < n := fun h => by omega
 have hT : (ud a b).countP (fun e => e.fr == b.start + 2 * a.n) <= d' := by
  refine Nat.le_trans ?_ c'.d
  unfold ud
  rw [List.countP_map]
  refine AP fun e _ h => ?_
  simp only [Function.comp, bf, beq_iff_eq] at h ⊢
  rw [show e.fr = b.start by omega]
 have cT : ∀ (M N : Nat -> Bool), (∀ i : Nat, M (i + 2 * n) = N i) -> (ud a b).countP (fun e => M e.fr.toNat) = b.eds.countP (fun e => N e.fr.toNat) := by
  intro M N h
  unfold ud
  rw [List.countP_map]
  refine nb fun e he => ?_
  simp only [Function.comp, bf]
  rw [t2 _ (hb.eds e he).fr.1, h]
 have cA : ∀ (M N : Nat -> Bool), (∀ i : Nat, i < n -> M i = N i) -> (a.eds.map (mN 0 a.n)).countP (fun e => M e.fr.toNat) = a.eds.countP (fun e => N e.fr.toNat) := by
  intro M N h
  rw [List.countP_map]
  refine nb fun e he => ?_
  simp only [Function.comp, bf, Int.add_zero]
  exact h _ (lt (ha.eds e he).fr)
 have cB : ∀ (M N : Nat -> Bool), (∀ i : Nat, i < n -> M (i + n) = N i) -> (a.eds.map (mN a.n a.n)).countP (fun e => M e.fr.toNat) = a.eds.countP (fun e => N e.fr.toNat) := by
  intro M N h
  rw [List.countP_map]
  refine nb fun e he => ?_
  simp only [Function.comp, bf]
  rw [t1 _ (ha.eds e he).fr.1]
  exact h _ (lt (ha.eds e he).fr)
 have e0 : a.eds.countP (fun e => (fun _ : Nat => false) e.fr.toNat) = 0 := nB fun _ _ => rfl
 have cm : 2 * a.n + b.n = ((n + (n + m) : Nat) : Int) := by omega
 refine ⟨?_, fun e he hl => ?_, fun e he hl => ?_, ?_, ?_, ?_, ?_, ?_, ?_⟩
 ·show A a.start.toNat = true
  rw [A0 _ (lt ha.start)]; exact c.s
 ·rcases F1 ha hb he with ⟨x, hx, rfl⟩ | ⟨x, hx, rfl⟩ | ⟨x, hx, rfl⟩ | ⟨f, hf, x, hx, hs, rfl⟩
  ·have hN := ha.eds x hx
   rw [bf, Int.add_zero, A0 _ (lt hN.fr)] at hl
   obtain ⟨k1, k2⟩ := c.t1 x hx hl
   rw [bt, Int.add_zero, A0 _ (lt hN.to), bk]
   exact ⟨k1, fun k => by rw [bi _ _ _ k, t1 _ (hN.inn k).1, B1 _ (lt (hN.inn k))]; exact k2 k⟩
  ·have hN := ha.eds x hx
   rw [bf, t1 _ hN.fr.1, A1 _ (lt hN.fr)] at hl; cases hl
  ·have hN := hb.eds x hx
   rw [bf, t2 _ hN.fr.1, A2] at hl
   obtain ⟨k1, k2⟩ := c'.t1 x hx hl
   rw [bt, t2 _ hN.to.1, A2, bk]
   exact ⟨k1, fun k => by rw [bi _ _ _ k, t2 _ (hN.inn k).1, B2]; exact k2 k⟩
  ·have hN := hb.eds x hx
   obtain ⟨k1, k2⟩ := c'.t1 x hx (by rw [hs]; exact c'.s)
   show A (mN (2 * a.n) (2 * a.n) x).to.toNat = true /\ (x.kind = 5 -> B (mN (2 * a.n) (2 * a.n) x).inner.toNat = true)
   rw [bt, t2 _ hN.to.1, A2]
   exact ⟨k1, fun k => by rw [bi _ _ _ k, t2 _ (hN.inn k).1, B2]; exact k2 k⟩
 ·rcases F1 ha hb he with ⟨x, hx, rfl⟩ | ⟨x, hx, rfl⟩ | ⟨x, hx, rfl⟩ | ⟨f, hf, x, hx, hs, rfl⟩
  ·have hN := ha.eds x hx
   rw [bf, Int.add_zero, B0 _ (lt hN.fr)] at hl; cases hl
  ·have hN := ha.eds x hx
   rw [bf, t1 _ hN.fr.1, B1 _ (lt hN.fr)] at hl
   obtain ⟨k1, k2⟩ := c.t2 x hx hl
   rw [bt, t1 _ hN.to.1, B1 _ (lt hN.to), bk]
   exact ⟨k1, fun k => by rw [bi _ _ _ k, t1 _ (hN.inn k).1, B1 _ (lt (hN.inn k))]; exact k2 k⟩
  ·have hN := hb.eds x hx
   rw [bf, t2 _ hN.fr.1, B2] at hl
   obtain ⟨k1, k2⟩ := c'.t2 x hx hl
   rw [bt, t2 _ hN.to.1, B2, bk]
   exact ⟨k1, fun k => by rw [bi _ _ _ k, t2 _ (hN.inn k).1, B2]; exact k2 k⟩
  ·have := B0 _ (lt (ha.fin f hf))
   rw [show (Ed.fr { mN (2 * a.n) (2 * a.n) x with fr := f }) = f from rfl, this] at hl; cases hl
 ·show aX A (2 * a.n + b.n).toNat <= p + p'
  have k1 := c.n1
  have k2 := c'.n1
  rw [hnn] at k1
  rw [show b.n.toNat = m by omega] at k2
  have i1 : aX A n = aX L1 n := i9 A0
  have i2 : aX (fun i => A (n + i)) n = 0 := (i9 (fun i hi => by rw [Nat.add_comm]; exact A1 i hi)).trans (tC n)
  have i3 : aX (fun i => A (n + (n + i))) m = aX M1 m := i9 fun i _ => by rw [<- A2 i]; congr 1; omega
  rw [cm, Int.toNat_natCast, ue, ue]
  show aX A n + (aX (fun i => A (n + i)) n + aX (fun i => A (n + (n + i))) m) <= _
  omega
 ·show aX B (2 * a.n + b.n).toNat <= q + q'
  have k1 := c.n2
  have k2 := c'.n2
  rw [hnn] at k1
  rw [show b.n.toNat = m by omega] at k2
  have i1 : aX B n = 0 := (i9 B0).trans (tC n)
  have i2 : aX (fun i => B (n + i)) n = aX L2 n := i9 (fun i hi => by rw [Nat.add_comm]; exact B1 i hi)
  have i3 : aX (fun i => B (n + (n + i))) m = aX M2 m := i9 fun i _ => by rw [<- B2 i]; congr 1; omega
  rw [cm, Int.toNat_natCast, ue, ue]
  show aX B n + (aX (fun i => B (n + i)) n + aX (fun i => B (n + (n + i))) m) <= _
  omega
 ·show (wX a b).countP (fun e => A e.fr.toNat) <= _
  unfold wX
  rw [List.countP_append, List.countP_append, List.countP_append, r8, cT A M1 A2, cA A L1 A0, cB A (fun _ => false) A1, e0]
  rw [nb (l := a.fin) (q := fun f => L1 f.toNat) (fun f hf => A0 _ (lt (ha.fin f hf)))]
  have k1 := Nat.mul_le_mul c.f hT
  have := c.e1; have := c'.e1
  omega
 ·show (wX a b).countP (fun e => B e.fr.toNat) <= _
  unfold wX
  rw [List.countP_append, List.countP_append, List.countP_append, r8, cT B M2 B2, cA B (fun _ => false) B0, cB B L2 B1, e0]
  rw [nB (l := a.fin) (p := fun f => B f.toNat) (fun f hf => B0 _ (lt (ha.fin f hf)))]
  have := c.e2; have := c'.e2
  omega
 ·show (bg (nz a b)).countP (fun f => A f.toNat) <= _
  refine Nat.le_trans (Mt _ _) ?_
  unfold nz
  rw [List.countP_append, List.countP_append, List.countP_map, List.countP_map]
  rw [nB (l := a.fin) (fun f hf => by simp only [Function.comp]; rw [t1 _ (ha.fin f hf).1]; exact A1 _ (lt (ha.fin f hf)))]
  rw [nb (l := b.fin) (q := fun f => M1 f.toNat) (fun f hf => by simp only [Function.comp]; rw [t2 _ (hb.fin f hf).1]; exact A2 _)]
  have k1 : (if MH b.fin b.start then a.fin else []).countP (fun f => A f.toNat) <= f1 := by
   split
   ·rw [nb (l := a.fin) (q := fun f => L1 f.toNat) (fun f hf => A0 _ (lt (ha.fin f hf)))]; exact c.f
   ·exact Nat.zero_le _
  have := c'.f
  omega
 ·show (wX a b).countP _ <= _
  refine Nat.le_trans List.countP_le_length ?_
  have k1 := r8 (fun _ => true) (ud a b) (b.start + 2 * a.n) a.fin
  simp only [wZ] at k1
  have k2 := Nat.mul_le_mul_left a.fin.length hT
  have k3 : (ud a b).length = b.eds.length := by simp [ud]
  simp only [wX, List.length_append, List.length_map, k1, k3]
  omega
end
theorem Tv {a b : Au} {p q c1 c2 f1 d p' q' c1' c2' f1' : Nat} (h : Sz a p q c1 c2 f1 d) (h' : Sz b p' q' c1' c2' f1' 4) (hp : 1 <= p) (b1 : 2 * (p + q) + (p' + q') <= 400) (b2 : 2 * (c1 + c2) + (c1' + c2') + (p + q) * 4 <= 4000) :
  (lk a b).2 = 0 /\ Sz (lk a b).1 (p + p') (q + q') (c1 + c1' + f1 * 4) (c2 + c2') (f1 + f1') 4000 := by
 obtain ⟨hn, ⟨L1, L2, hc⟩, h1, h2⟩ := h
 obtain ⟨hn', ⟨M1, M2, hc'⟩, h1', h2'⟩ := h'
 have hf := hn.finL
 have hk := R4 hn hn' hc hc'
 have hl : (BZ a b).eds.length <= 4000 := by
  show (wX a b).length <= 4000
  have k1 := r8 (fun _ => true) (ud a b) (b.start + 2 * a.n) a.fin
  simp only [wZ] at k1
  have hT : (ud a b).countP (fun e => e.fr == b.start + 2 * a.n) <= 4 := by
   refine Nat.le_trans ?_ hc'.d
   unfold ud
   rw [List.countP_map]
   refine AP fun e _ h => ?_
   simp only [Function.comp, mN, beq_iff_eq] at h ⊢
   rw [show e.fr = b.start by omega]
  have k2 := Nat.mul_le_mul_left a.fin.length hT
  have k3 : (ud a b).length = b.eds.length := by simp [ud]
  simp only [wX, List.length_append, List.length_map, k1, k3]
  omega
 unfold lk
 rw [if_neg (by rw [hn.check (by omega) (by omega)]; decide), if_neg (by rw [hn'.check (by omega) (by omega)]; decide)]
 obtain ⟨r1, r2⟩ := Fx (Qw hn hn') (by show 2 * a.n + b.n <= 400; omega) hl (by omega) hk
 refine ⟨r1, r2.mono (Nat.le_refl _) (Nat.le_refl _) (Nat.le_refl _) (Nat.le_refl _) (Nat.le_refl _) ?_⟩
 omega
open Go Ab
def Cl (l : List Tm) : Prop := ∀ t ∈ bI l, t.kind <= 7 /\ iw t = true
theorem Cl.head {t : Tm} {l : List Tm} (h : Cl (t :: l)) : Cl [t] := fun u hu => h u (by
 rw [el] at hu ⊢
 simp only [bI, List.append_nil] at hu
 rcases List.mem_cons.1 hu with rfl | hu
 ·exact List.mem_cons_self ..
 ·exact List.mem_cons_of_mem _ (List.mem_append_left _ hu))
theorem Cl.tail {t : Tm} {l : List Tm} (h : Cl (t :: l)) : Cl l := fun u hu => h u (by
 rw [el]; exact List.mem_cons_of_mem _ (List.mem_append_right _ hu))
theorem Cl.kids {k : Int} {s : List UInt8} {l : List Tm} (h : Cl [.mk k s l]) : Cl l := fun u hu => h u (by
 rw [el]; exact List.mem_cons_of_mem _ (List.mem_append_left _ hu))
theorem Cl.self {t : Tm} (h : Cl [t]) : t.kind <= 7 /\ iw t = true := h t (by rw [el]; exact List.mem_cons_self ..)
theorem Uw {l : List Tm} (h : dm 7 l = 0) : Cl l := by
 unfold dm at h
 split at h
 ·omega
 ·split at h
  ·omega
  ·split at h
   ·rename_i ha
    intro t ht
    have := List.all_eq_true.1 ha t ht
    simpa using this
   ·omega
theorem PC {k : Int} {s : List UInt8} {l : List Tm} (h : iw (.mk k s l) = true) (h7 : k <= 7) (h4 : k ≠ 4) : l = [] := by
 have h8 : k ≠ 8 := by omega
 cases l with
 | nil => rfl
 | cons x r => simp [iw, Tm.kind, Tm.kids, h4, h8] at h
theorem QZ {k : Int} {s : List UInt8} (h : iw (.mk k s []) = true) (h7 : k <= 7) (n4 : k ≠ 4) (n5 : k ≠ 5) (n6 : k ≠ 6) (n7 : k ≠ 7) : 1 <= k /\ k <= 3 := by
 have n8 : k ≠ 8 := by omega
 by_cases e1 : k = 1
 ·omega
 ·by_cases e2 : k = 2
  ·omega
  ·by_cases e3 : k = 3
   ·omega
   ·simp [iw, Tm.kind, Tm.kids, n4, n8, e1, e2, e3, n5, n6, n7] at h
theorem Nu {k : Int} {s : List UInt8} (h : iw (.mk k s []) = true) (h4 : k <= 4) (n4 : k ≠ 4) : dm 4 [.mk k s []] = 0 := by
 have e1 : aV [Tm.mk k s []] = 1 := by simp [aV, nT]
 have e2 : qN [Tm.mk k s []] = 0 := by
  simp only [qN, M5, Tm.kind, Tm.kids]
  rw [if_neg (by simp; omega)]; rfl
 have e3 : bI [Tm.mk k s []] = [.mk k s []] := by rw [el]; rfl
 unfold dm
 rw [e1, e2, e3, if_neg (by decide), if_neg (by decide), if_pos]
 simp [Tm.kind, h4, h]
theorem R9 : MG [] = { n := 1, start := 0, fin := [0], eds := [] } := by simp [MG, E1, iD, b0, bg, nE]
theorem Sa {k : Int} {s : List UInt8} (h : k ≠ 4) : MG [.mk k s []] = { n := 2, start := 0, fin := [1], eds := [Mu 0 k s] } := by simp [MG, E1, iD, rS, h, b0, bg, nE]
theorem NB : (mO []).2 = 0 /\ Sz (mO []).1 1 0 0 0 1 4000 := by
 unfold mO
 rw [if_neg (by decide), R9]
 have hN : wQ { n := 1, start := 0, fin := [0], eds := [] } := ⟨by decide, by decide, by decide, (List.pairwise_singleton _ _ : ri [0]), fun e he => (by cases he)⟩
 exact Fx (L1 := fun _ => true) (L2 := fun _ => false) hN (by decide) (by decide) (by decide) ⟨rfl, fun e he => (by cases he), fun e he => (by cases he), by decide, by decide, by decide, by decide, by decide, by decide⟩
theorem TZ {k : Int} {s : List UInt8} (hb : Bt [.mk k s []]) (hr : iw (.mk k s []) = true) (h1 : 1 <= k /\ k <= 3) : (mO [.mk k s []]).2 = 0 /\ Sz (mO [.mk k s []]).1 2 0 1 0 1 1 := by
 have hc := Nu hr (by omega) (by omega)
 unfold mO
 rw [if_neg (by rw [hc]; decide), Sa (by omega)]
 have hs : tc (.mk k s []) = true := by
  simp only [tc, EB, Tm.kind, hc, Bool.and_eq_true]
  exact ⟨⟨decide_eq_true h1.1, decide_eq_true h1.2⟩, rfl⟩
 have hN : wQ { n := 2, start := 0, fin := [1], eds := [Mu 0 k s] } := by
  refine ⟨?_, ?_, ?_, (List.pairwise_singleton _ _ : ri [1]), fun e he => ?_⟩
  ·show (1 : Int) <= 2; decide
  ·show (0 : Int) <= 0 /\ (0 : Int) < 2; decide
  ·show ∀ f ∈ [(1 : Int)], 0 <= f /\ f < 2; decide
  ·simp only [List.mem_cons, List.mem_nil_iff, or_false] at he
   subst he
   refine ⟨?_, ?_, fun k => absurd k (show ¬ (1 : Int) = 5 by decide), fun _ => rfl, ⟨hb, p8⟩, rfl, ?_, hs⟩
   ·show (0 : Int) <= 0 /\ (0 : Int) < 2; decide
   ·show (0 : Int) <= 0 + 1 /\ (0 : Int) + 1 < 2; decide
   ·show (1 : Int) <= 1 /\ (1 : Int) <= 5; decide
 refine Fx (L1 := fun _ => true) (L2 := fun _ => false) hN ?_ ?_ (by decide) ⟨rfl, fun e he _ => ⟨rfl, fun k => ?_⟩, fun e he h => (by cases h), ?_, ?_, ?_, ?_, ?_, ?_⟩
 ·show (2 : Int) <= 400; decide
 ·show 1 <= 4000; decide
 ·simp only [List.mem_cons, List.mem_nil_iff, or_false] at he
  subst he; exact absurd k (show ¬ (1 : Int) = 5 by decide)
 ·exact AO _ 2
 ·exact Nat.le_of_eq (tC 2)
 ·exact List.countP_le_length
 ·exact Nat.le_of_eq (nB fun _ _ => rfl)
 ·exact List.countP_le_length
 ·exact List.countP_le_length
theorem Nt {n f t k i : Int} (h1 : 0 <= f /\ f < n) (h2 : 0 <= t /\ t < n) (h3 : 2 <= k /\ k <= 5) (h4 : k = 5 -> 0 <= i /\ i < n) (h5 : k ≠ 5 -> i = 0) : MI n (kE f t k i) := by
 refine ⟨h1, h2, h4, h5, ⟨Fv, p8⟩, rfl, ⟨by show 1 <= k; omega, h3.2⟩, ?_⟩
 show (if k = 1 then _ else _) = true
 rw [if_neg (by omega)]; rfl
theorem TL : Sz Ie 2 0 4 0 1 4 := by
 refine ⟨⟨by decide, by decide, by decide, List.pairwise_singleton _ _, fun e he => ?_⟩, ⟨fun _ => true, fun _ => false, rfl, fun e he _ => ⟨rfl, fun k => ?_⟩, fun e he h => (by cases h), by decide, by decide, by decide, by decide, by decide, by decide⟩, by decide, by decide⟩
 ·simp only [Ie, uG, List.mem_cons, List.mem_nil_iff, or_false] at he
  rcases he with rfl | rfl | rfl <;> exact Nt (by decide) (by decide) (by decide) (by decide) (by decide)
 ·simp only [Ie, uG, List.mem_cons, List.mem_nil_iff, or_false] at he
  rcases he with rfl | rfl | rfl <;> exact absurd k (by decide)
theorem SJ : Sz vw 2 1 4 4 1 4 := by
 refine ⟨⟨by decide, by decide, by decide, ?_, fun e he => ?_⟩, ⟨fun i => decide (i < 2), fun i => decide (i = 2), rfl, fun e he h => ?_, fun e he h => ?_, by decide, by decide, by decide, by decide, by decide, by decide⟩, by decide, by decide⟩
 ·show ri [1, 2]
  exact List.pairwise_cons.2 ⟨by decide, List.pairwise_singleton _ _⟩
 ·simp only [vw, uG, List.mem_cons, List.mem_append, List.mem_nil_iff, or_false] at he
  rcases he with (rfl | rfl | rfl) | rfl | (rfl | rfl | rfl) | rfl <;> exact Nt (by decide) (by decide) (by decide) (by decide) (by decide)
 ·simp only [vw, uG, List.mem_cons, List.mem_append, List.mem_nil_iff, or_false] at he
  rcases he with (rfl | rfl | rfl) | rfl | (rfl | rfl | rfl) | rfl <;> first | exact ⟨by decide, by decide⟩ | exact absurd h (by decide)
 ·simp only [vw, uG, List.mem_cons, List.mem_append, List.mem_nil_iff, or_false] at he
  rcases he with (rfl | rfl | rfl) | rfl | (rfl | rfl | rfl) | rfl <;> first | exact ⟨by decide, by decide⟩ | exact absurd h (by decide)
theorem Th : Sz FK 2 1 4 4 1 4 := by
 refine ⟨⟨by decide, by decide, by decide, List.pairwise_singleton _ _, fun e he => ?_⟩, ⟨fun _ => true, fun _ => true, rfl, fun e he h => ⟨rfl, fun _ => rfl⟩, fun e he h => ⟨rfl, fun _ => rfl⟩, by decide, by decide, by decide, by decide, by decide, by decide⟩, by decide, by decide⟩
 simp only [FK, List.mem_cons, List.mem_nil_iff, or_false] at he
 rcases he with rfl | rfl | rfl | rfl <;> exact Nt (k := _) (by decide) (by decide) (by decide) (by decide) (by decide)
mutual
theorem So : ∀ (t : Tm), Bt [t] -> Cl [t] -> nT t <= 14 -> Sx t /\ Sz (r7 t) 2 (3 * nT t - 2) 4 (80 * nT t - 76) 1 4
 | .mk k s kids, hb, hc, hn => by
  have hs := hc.self
  have hN : nT (.mk k s kids) = 1 + aV kids := by simp only [nT]
  rw [hN] at hn ⊢
  simp only [Sx, r7]
  by_cases e5 : k = 5
  ·subst e5
   rw [if_pos rfl]
   exact ⟨⟨fun h => absurd h (by decide), fun h => absurd rfl h⟩, TL.mono (by omega) (by omega) (by omega) (by omega) (by omega) (by omega)⟩
  by_cases e6 : k = 6
  ·subst e6
   rw [if_neg e5, if_pos rfl]
   exact ⟨⟨fun h => absurd h (by decide), fun _ h => absurd rfl h⟩, SJ.mono (by omega) (by omega) (by omega) (by omega) (by omega) (by omega)⟩
  by_cases e7 : k = 7
  ·subst e7
   rw [if_neg e5, if_neg e6, if_pos rfl]
   exact ⟨⟨fun h => absurd h (by decide), fun _ _ h => absurd rfl h⟩, Th.mono (by omega) (by omega) (by omega) (by omega) (by omega) (by omega)⟩
  rw [if_neg e5, if_neg e6, if_neg e7]
  by_cases e4 : k = 4
  ·subst e4
   rw [if_pos rfl]
   have hl := aC kids
   obtain ⟨k1, k2⟩ := Kj kids (mO []).1 0 0 hb.kids hc.kids NB.2 (by omega) (by omega)
   obtain ⟨k3, k4⟩ := SQ k2 (by omega) (by omega)
   exact ⟨⟨fun _ => ⟨k1, k3⟩, fun _ _ _ h => absurd rfl h⟩, k4.mono (by omega) (by omega) (by omega) (by omega) (by omega) (by omega)⟩
  ·rw [if_neg e4]
   obtain rfl := PC hs.2 hs.1 e4
   obtain ⟨k1, k2⟩ := TZ hb hs.2 (QZ hs.2 hs.1 e4 e5 e6 e7)
   exact ⟨⟨fun h => absurd h e4, fun _ _ _ _ => k1⟩, k2.mono (by omega) (by omega) (by omega) (by omega) (by omega) (by omega)⟩
theorem Kj : ∀ (l : List Tm) (a : Au) (m N : Nat), Bt l -> Cl l -> Sz a (1 + 2 * m) (3 * N - 2 * m) (64 * m) (80 * N - 76 * m) (1 + m) 4000 -> m <= N -> N + aV l <= 14 ->
  RN l a /\ Sz (lU l a) (1 + 2 * (m + l.length)) (3 * (N + aV l) - 2 * (m + l.length)) (64 * (m + l.length)) (80 * (N + aV l) - 76 * (m + l.length)) (1 + (m + l.length)) 4000
 | [], a, m, N, _, _, h, hm, hn => by
  simp only [RN, lU, aV, List.length_nil, Nat.add_zero]
  exact ⟨trivial, h⟩
 | t :: r, a, m, N, hb, hc, h, hm, hn => by
  have hN : aV (t :: r) = nT t + aV r := by simp only [aV]
  have ht := GU t
  rw [hN] at hn ⊢
  obtain ⟨i1, i2⟩ := So t hb.head hc.head (by omega)
  obtain ⟨j1, j2⟩ := Tv h i2 (by omega) (by omega) (by omega)
  obtain ⟨l1, l2⟩ := Kj r (lk a (r7 t)).1 (m + 1) (N + nT t) hb.tail hc.tail (j2.mono (by omega) (by omega) (by omega) (by omega) (by omega) (by omega)) (by omega) (by omega)
  simp only [RN, lU, List.length_cons]
  exact ⟨⟨i1, j1, l1⟩, l2.mono (by omega) (by omega) (by omega) (by omega) (by omega) (by omega)⟩
end
theorem ko {l : List Tm} (hb : Bt l) (hn : aV l <= 14) (h : iT l = 0) : S7 l := by
 have hc : dm 7 l = 0 := by
  unfold iT at h
  split at h
  ·exact h
  ·rename_i hc; exact Classical.not_not.1 hc
 exact ⟨NB.1, (Kj l (mO []).1 0 0 hb (Uw hc) NB.2 (by omega) (by omega)).1⟩
end Ab.C
