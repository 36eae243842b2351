/- Parts of the proof, made small by program. No condition but what is told. -/
import Derived.Test.YtbncnjpohgbgjaaGreatAb14
import Derived.Test.YtbncnjpohgbgjaaGreatAb09
import Derived.Test.YtbncnjpohgbgjaaGreatAb10
import Derived.Lib.SlicesCompact
import Derived.Test.YtbncnjpohgbgjaaGreatAb01
import Derived.WalkKit
import Derived.Sort.Grow
set_option linter.all false
set_option maxHeartbeats 8000000
namespace Ab.C
open Go Ab Go.RowKit
set_option maxRecDepth 10000
theorem Oj (s : St) (lo k : Nat) : ∀ {l : List Ed} {ys : List AV}, cL jq l ys -> ys.map (Ab.frz s lo k) = ys
 | [], _, h => by simp only [cL] at h; subst h; rfl
 | e :: l, _, h => by
  simp only [cL] at h
  obtain ⟨y, r, rfl, ⟨kv, ev, rfl, h1, h3⟩, h2⟩ := h
  obtain ⟨o1, x1, rfl, _⟩ := h1.len
  obtain ⟨o2, x2, rfl, _⟩ := h3.len
  simp only [List.map_cons, Oj s lo k h2]
  congr 1
  cases k with
  | zero => rfl
  | succ k =>
   simp only [Ab.frz, List.map_cons, List.map_nil]
   cases k <;> rfl
section
variable {E : ak} (hE : E.fns = af.fn ag)
include hE
theorem Gj {l : List Ed} {ys : List AV} (hes : cL jq l ys) {o : gu} (hno : o = .nil -> ys = []) (hl : ys.length <= aO) {k : Nat} (hk : 1 <= k) (s : St) :
  au E k none (.fn bo [] []) [.sl o 8 ys] s = some (if ys = [] then (.ret (rc o 8), false, s) else (.ret (.msl s.bl.length 0 8 ys.length), false, { s with bl := s.bl ++ [.cells (lc (AV.untokL ys))] })) := by
 obtain ⟨k, rfl⟩ : ∃ j, k = j + 1 := ⟨k - 1, by omega⟩
 by_cases h0 : ys = []
 ·subst h0
  rw [if_pos rfl]
  obtain ⟨v, s', h1, rfl, rfl⟩ := cI (ex hE) (first := []) (caps := []) (args := [.sl o 8 []]) rfl (k := k) (s := s) (Post := fun v s' => v = rc o 8 /\ s' = s) (by
   by_cases ho : o = .nil
   ·subst ho
    simp [aQ, bn, jk, HN, cD, rc]
   ·have ha := AI ho 8 8 []
    simp [aQ, bn, jk, ha, aq, bE, xZ, oZ, cD, rc, ho, AV.untokL, oT])
  exact h1
 ·rw [if_neg h0]
  have ho : o ≠ .nil := fun h => h0 (hno h)
  have hc := zu (CP (tD hes))
  have hul : (AV.untokL ys).length = ys.length := untokL_length ys
  obtain ⟨x, r, rfl⟩ : ∃ x r, ys = x :: r := by cases ys with | nil => exact absurd rfl h0 | cons x r => exact ⟨x, r, rfl⟩
  have ha := AI ho 8 8 (x :: r)
  simp only [List.length_cons] at hl
  obtain ⟨v, s', h1, rfl, rfl⟩ := cI (ex hE) (first := []) (caps := []) (args := [.sl o 8 (x :: r)]) rfl (k := k) (s := s) (Post := fun v s' => v = .msl s.bl.length 0 8 (x :: r).length /\ s' = { s with bl := s.bl ++ [.cells (lc (AV.untokL (x :: r)))] }) (by
   simp only [AV.untokL] at hc
   simp [aQ, bn, jk, ha, aq, bE, xZ, oZ, cD, hl, hc])
  exact h1
theorem DO {l : List Ed} {o : gu} {ys : List AV} (hes : cL jq l ys) (hno : o = .nil -> ys = []) (hl : l.length <= 1048576) {by' inn : Int} (hb : 0 <= by' /\ by' <= 1048576) (hi : 0 <= inn /\ inn <= 1048576) (hw : ∀ e ∈ l, UZ e) {k : Nat} (hk : 1048582 <= k) (s : St) :
  au E k none (.fn ga [] []) [.sl o 8 ys, .int .i64 by', .int .i64 inn] s = some (.ret (if ys = [] then rc o 8 else .sl .any 8 (ys.map (oR by' inn))), false, s) := by
 obtain ⟨k, rfl⟩ : ∃ j, k = j + 1 := ⟨k - 1, by omega⟩
 have hmm : aO = 1073741824 := rfl
 have hly := hes.length
 refine zt (E := E) (wk hE) (first := []) (caps := []) (args := [.sl o 8 ys, .int .i64 by', .int .i64 inn]) rfl (k := k) (fun bl tk => ?_) s
 have hc := fun st => Gj hE hes hno (by omega) (k := k) (by omega) st
 by_cases h0 : ys = []
 ·subst h0
  simp only [if_true] at hc ⊢
  obtain ⟨oe, hoe, hon⟩ : ∃ oe, rc o 8 = .sl oe 8 [] /\ (AV.sl oe 8 []).untok = .sl oe 8 [] := by unfold rc; split <;> exact ⟨_, rfl, rfl⟩
  rw [hoe] at hc ⊢
  simp [kJ, rp, hc]
  refine aA 0 (fun i e st => i = 0 /\ e = [(1, .int .i64 by'), (2, .int .i64 inn), (7, .sl oe 8 []), (12, .int .i64 0), (13, .int .i64 0)] /\ st = { bl, tk, ro := bl.length, rt := tk.length }) (by omega) (by simp) (fun i e st hi _ => by omega) ?_
  rintro e st ⟨_, rfl, rfl⟩
  simp [j3, sw, hon]
 ·simp only [if_neg h0] at hc ⊢
  obtain ⟨Z, hZ⟩ : ∃ Z, Z = ys.map (oR by' inn) := ⟨_, rfl⟩
  obtain ⟨U, hU⟩ : ∃ U, U = AV.untokL ys := ⟨_, rfl⟩
  have hZr := p7 (by' := by') (inn := inn) hes
  rw [<- hZ] at hZr ⊢
  rw [<- hU] at hc
  have hUr := tD hes
  rw [<- hU] at hUr
  have hZl : Z.length = ys.length := by rw [hZ]; simp
  have hUl : U.length = ys.length := by rw [hU]; simp
  have hZa := CP hZr.1
  have hUa := CP hUr
  simp [kJ, rp, hc]
  refine aA ys.length (fun i e st => e = [(1, .int .i64 by'), (2, .int .i64 inn), (7, .msl bl.length 0 8 ys.length), (12, .int .i64 ys.length), (13, .int .i64 i)] /\ st = { bl := bl ++ [.cells (lc (Z.take i ++ U.drop i))], tk, ro := bl.length, rt := tk.length }) (by omega) (by simp) ?_ ?_
  ·rintro i e st hi' ⟨rfl, rfl⟩
   obtain ⟨t, ht⟩ : ∃ t, l[i]? = some t := ⟨_, List.getElem?_eq_getElem (by omega)⟩
   obtain ⟨x, hx, hrx⟩ := hes.get ht
   obtain ⟨m1, m2, m3⟩ := hw t (List.mem_of_getElem? ht)
   obtain ⟨kv, ev, rfl, hkv, hev⟩ := hrx
   have hUi : U[i]? = some (.agg [.int .i64 t.fr, .int .i64 t.to, .int .i64 t.kind, .int .i64 t.sym.kind, .str t.sym.text, kv.untok, ev.untok, .int .i64 t.inner]) := by
    obtain ⟨y, hy, _⟩ := hUr.get ht
    have : ∀ (a : List AV) (j : Nat) (z : AV), a[j]? = some z -> (AV.untokL a)[j]? = some z.untok := by
     intro a
     induction a with
     | nil => intro j z h; simp at h
     | cons b a ih =>
      intro j z h
      cases j with
      | zero => simp only [List.getElem?_cons_zero, Option.some.injEq] at h; subst h; rfl
      | succ j => simp only [AV.untokL, List.getElem?_cons_succ] at h ⊢; exact ih j z h
    rw [hU, this _ _ _ hx]; simp [AV.untok, AV.untokL]
   obtain ⟨hUi2, hUi3⟩ := List.getElem?_eq_some_iff.1 hUi
   have e1 : et (.int .i64 i) ys.length = some i := av hi'
   have hwr : IntKind.wrap .i64 ((i : Int) + 1) = i + 1 := ar (by omega) (by omega)
   have w1 : IntKind.wrap .i64 (t.fr + by') = t.fr + by' := ar (by omega) (by omega)
   have w2 : IntKind.wrap .i64 (t.to + by') = t.to + by' := ar (by omega) (by omega)
   have hd : U.drop i = .agg [.int .i64 t.fr, .int .i64 t.to, .int .i64 t.kind, .int .i64 t.sym.kind, .str t.sym.text, kv.untok, ev.untok, .int .i64 t.inner] :: U.drop (i + 1) := by rw [List.drop_eq_getElem_cons hUi2, hUi3]
   have hZi : Z[i]? = some (oR by' inn (.agg [.int .i64 t.fr, .int .i64 t.to, .int .i64 t.kind, .int .i64 t.sym.kind, .str t.sym.text, kv, ev, .int .i64 t.inner])) := by rw [hZ]; simp [hx]
   have hzt : Z.take (i + 1) = Z.take i ++ [oR by' inn (.agg [.int .i64 t.fr, .int .i64 t.to, .int .i64 t.kind, .int .i64 t.sym.kind, .str t.sym.text, kv, ev, .int .i64 t.inner])] := by rw [List.take_succ, hZi]; rfl
   have htl : (Z.take i).length = i := by simp; omega
   have hagt : yi 8 (Z.take i) := fun y hy => hZa y (List.mem_of_mem_take hy)
   have hagr : yi 8 (U.drop (i + 1)) := fun y hy => hUa y (List.mem_of_mem_drop hy)
   have get : ∀ (cs : List AV) (j : Nat), j < cs.length -> (lc (Z.take i ++ .agg cs :: U.drop (i + 1)))[i * 8 + j]? = cs[j]? := fun cs j hj => by
    have := Ml (l := Z.take i) (r := U.drop (i + 1)) (cs := cs) hagt j hj
    rw [htl] at this; exact this
   have set : ∀ (cs : List AV) (j : Nat) (v : AV), j < cs.length -> (lc (Z.take i ++ .agg cs :: U.drop (i + 1))).take (i * 8 + j) ++ v :: (lc (Z.take i ++ .agg cs :: U.drop (i + 1))).drop (i * 8 + j + 1) = lc (Z.take i ++ .agg (cs.set j v) :: U.drop (i + 1)) := fun cs j v hj => by
    have := Mm (l := Z.take i) (r := U.drop (i + 1)) (cs := cs) hagt j hj v
    rw [htl] at this; exact this
   have len : ∀ (cs : List AV), cs.length = 8 -> (lc (Z.take i ++ .agg cs :: U.drop (i + 1))).length = ys.length * 8 := fun cs hcs => by
    rw [pq (z := 8)]
    ·simp only [List.length_append, htl, List.length_cons, List.length_drop, hUl]; congr 1; omega
    ·refine hagt.append fun y hy => ?_
     rcases List.mem_cons.1 hy with rfl | hy
     ·exact ⟨_, rfl, hcs⟩
     ·exact hagr y hy
   rw [hd]
   obtain ⟨c0, hc0⟩ : ∃ c, c = [AV.int .i64 t.fr, .int .i64 t.to, .int .i64 t.kind, .int .i64 t.sym.kind, .str t.sym.text, kv.untok, ev.untok, .int .i64 t.inner] := ⟨_, rfl⟩
   obtain ⟨c1, hc1⟩ : ∃ c, c = [AV.int .i64 (t.fr + by'), .int .i64 t.to, .int .i64 t.kind, .int .i64 t.sym.kind, .str t.sym.text, kv.untok, ev.untok, .int .i64 t.inner] := ⟨_, rfl⟩
   obtain ⟨c2, hc2⟩ : ∃ c, c = [AV.int .i64 (t.fr + by'), .int .i64 (t.to + by'), .int .i64 t.kind, .int .i64 t.sym.kind, .str t.sym.text, kv.untok, ev.untok, .int .i64 t.inner] := ⟨_, rfl⟩
   have g00 : (lc (Z.take i ++ .agg c0 :: U.drop (i + 1)))[i * 8]? = some (.int .i64 t.fr) := by have := get c0 0 (by rw [hc0]; simp); rw [hc0] at this ⊢; exact this
   have t00 := set c0 0 (.int .i64 (t.fr + by')) (by rw [hc0]; simp)
   rw [show c0.set 0 (.int .i64 (t.fr + by')) = c1 by rw [hc0, hc1]; rfl, Nat.add_zero] at t00
   have g11 : (lc (Z.take i ++ .agg c1 :: U.drop (i + 1)))[i * 8 + 1]? = some (.int .i64 t.to) := by have := get c1 1 (by rw [hc1]; simp); rw [hc1] at this ⊢; exact this
   have t11 := set c1 1 (.int .i64 (t.to + by')) (by rw [hc1]; simp)
   rw [show c1.set 1 (.int .i64 (t.to + by')) = c2 by rw [hc1, hc2]; rfl, show i * 8 + 1 + 1 = i * 8 + 2 by omega] at t11
   have g22 : (lc (Z.take i ++ .agg c2 :: U.drop (i + 1)))[i * 8 + 2]? = some (.int .i64 t.kind) := by have := get c2 2 (by rw [hc2]; simp); rw [hc2] at this ⊢; exact this
   have g27 : (lc (Z.take i ++ .agg c2 :: U.drop (i + 1)))[i * 8 + 7]? = some (.int .i64 t.inner) := by have := get c2 7 (by rw [hc2]; simp); rw [hc2] at this ⊢; exact this
   have l0 := len c0 (by rw [hc0]; rfl)
   have l1 := len c1 (by rw [hc1]; rfl)
   have l2 := len c2 (by rw [hc2]; rfl)
   have b0' : i * 8 + 1 <= (lc (Z.take i ++ .agg c0 :: U.drop (i + 1))).length := by omega
   have b1' : i * 8 + 2 <= (lc (Z.take i ++ .agg c1 :: U.drop (i + 1))).length := by omega
   have b2' : i * 8 + 8 <= (lc (Z.take i ++ .agg c2 :: U.drop (i + 1))).length := by omega
   rw [<- hc0]
   by_cases k5 : t.kind = 5
   ·have k5' : (t.kind == 5) = true := by simp [k5]
    have w3 : IntKind.wrap .i64 (t.inner + inn) = t.inner + inn := ar (by have := m3 k5; omega) (by have := m3 k5; omega)
    have t27 := set c2 7 (.int .i64 (t.inner + inn)) (by rw [hc2]; simp)
    rw [show i * 8 + 7 + 1 = i * 8 + 8 by omega] at t27
    have hfin : Z.take i ++ .agg (c2.set 7 (.int .i64 (t.inner + inn))) :: U.drop (i + 1) = Z.take (i + 1) ++ U.drop (i + 1) := by
     rw [hzt, hc2]; simp [oR, k5]
    rw [hfin] at t27
    simp [-getElem?_pos, List.getElem?_cons_zero, List.getElem?_cons_succ, j3, hi', e1, hwr, ac, aB, g00, t00, g11, t11, g22, g27, t27, w1, w2, w3, k5', b0', b1', b2']
   ·have k5' : (t.kind == 5) = false := by simpa using k5
    have hfin : Z.take i ++ .agg c2 :: U.drop (i + 1) = Z.take (i + 1) ++ U.drop (i + 1) := by
     rw [hzt, hc2]; simp [oR, k5]
    simp [-getElem?_pos, List.getElem?_cons_zero, List.getElem?_cons_succ, j3, hi', e1, hwr, ac, aB, g00, t00, g11, t11, g22, w1, w2, k5', b0', b1']
    rw [hfin]
  ·rintro e st ⟨rfl, rfl⟩
   rw [List.take_of_length_le (by omega), List.drop_of_length_le (by omega), List.append_nil]
   have hf := Ou (s := { bl := bl ++ [.cells (lc Z)], tk, ro := bl.length, rt := tk.length }) (lo := bl.length) (i := bl.length) (z := 8) (ys := Z) (Nat.le_refl _) (by simp [St.cell?, ac]) hZa (by omega) (fun k => Oj _ _ _ hZr.1)
   rw [hZl, hZr.2] at hf
   simp [j3, sw, hf, eW hZr.1, AV.data]
end
open Go Ab Go.RowKit
set_option maxRecDepth 10000
def Fj (e : bF) : Cr := { st := .ready, pend := none, env := e, ps := [7], assign := (.region [⟨(some 5), .alloc [.int .i64 0, .int .i64 0, .int .i64 0, .int .i64 0, .str [], .sl .nil 3 [], .sl .nil 3 [], .int .i64 0], none, [], false⟩, ⟨none, .store 8 (.t 5) (.t 7), none, [], false⟩] [5] false), body := bU }
section
variable {E : ak} (hE : E.fns = af.fn ag)
include hE
theorem P9 {B : List AB} {A : List AV} {o : gu} {tk h : List Nat} {ro rt : Nat} {g : List AB} {e : bF} {c0 c1 c2 c3 c4 c5 c6 c7 : AV} (e2 : e.get 2 = .ptr B.length 0) (ho : hI (.sl o 8 A) 8 A tk h) (hl : A.length + 1 <= aO) (hro : ro <= B.length) (hrt : rt <= tk.length) {k : Nat} :
  ∃ o' h', au E (k + 1) none (.yield (B.length + 1)) [.agg [c0, c1, c2, c3, c4, c5, c6, c7]] { bl := B ++ .cells [.sl o 8 A] :: .loop (Fj e) :: g, tk := tk ++ h, ro, rt } = some (.ret (.bool true), false, { bl := B ++ .cells [.sl o' 8 (A ++ [AV.agg [c0.untok, c1.untok, c2.untok, c3.untok, c4.untok, c5.untok, c6.untok, c7.untok]])] :: .loop (Fj e) :: (g ++ [.cells [c0, c1, c2, c3, c4, c5, c6, c7]]), tk := tk ++ h', ro, rt }) /\
   hI (.sl o' 8 (A ++ [AV.agg [c0.untok, c1.untok, c2.untok, c3.untok, c4.untok, c5.untok, c6.untok, c7.untok]])) 8 (A ++ [AV.agg [c0.untok, c1.untok, c2.untok, c3.untok, c4.untok, c5.untok, c6.untok, c7.untok]]) tk h' := by
 obtain ⟨v', h', a1, ok⟩ := tV (ro := ro) (rt := rt) (o := .full) (ws := [.agg [c0.untok, c1.untok, c2.untok, c3.untok, c4.untok, c5.untok, c6.untok, c7.untok]]) ho (by simpa using hl) hrt
 simp only [AV.untokL, AV.untok, AV.untok_untok] at a1 ok
 obtain ⟨o', hv, _⟩ := ok.sl
 subst hv
 refine ⟨o', h', ?_, ok⟩
 have q0 : ∀ (c : AB) (r : List AB), (B ++ c :: r)[B.length]? = some c := fun c r => by rw [ac]; rfl
 have q1 : ∀ (c d : AB) (r : List AB), (B ++ c :: d :: r)[B.length + 1]? = some d := fun c d r => by rw [aa]; rfl
 have s0 : ∀ (c f : AB) (r : List AB), (B ++ c :: r).set B.length f = B ++ f :: r := fun c f r => by rw [aB]; rfl
 have s1 : ∀ (c d f : AB) (r : List AB), (B ++ c :: d :: r).set (B.length + 1) f = B ++ c :: f :: r := fun c d f r => by rw [aj]; rfl
 have q2 : ∀ (c d f : AB), (B ++ c :: d :: (g ++ [f]))[B.length + (g.length + 1 + 1)]? = some f := fun c d f => by rw [aa]; simp
 have s2 : ∀ (c d f f' : AB), (B ++ c :: d :: (g ++ [f])).set (B.length + (g.length + 1 + 1)) f' = B ++ c :: d :: (g ++ [f']) := fun c d f f' => by rw [aj]; simp
 have r2 : ro <= B.length + (g.length + 1 + 1) := by omega
 have r1 : ro <= B.length + 1 := by omega
 obtain ⟨b, s', hc, hb, hs'⟩ := BY (E := E) (k := k) (i := B.length + 1) (args := [.agg [c0, c1, c2, c3, c4, c5, c6, c7]]) (s := { bl := B ++ .cells [.sl o 8 A] :: .loop (Fj e) :: g, tk := tk ++ h, ro, rt }) (L := Fj e)
  (Post := fun b s' => b = true /\ s' = { bl := B ++ .cells [.sl o' 8 (A ++ [AV.agg [c0.untok, c1.untok, c2.untok, c3.untok, c4.untok, c5.untok, c6.untok, c7.untok]])] :: .loop (Fj e) :: (g ++ [.cells [c0, c1, c2, c3, c4, c5, c6, c7]]), tk := tk ++ h', ro, rt }) (q1 _ _ _) rfl rfl r1 (by
   simp [-getElem?_pos, List.getElem?_cons_zero, List.getElem?_cons_succ, Fj, nn, bF.get_put, e2, q0, q1, s0, s1, q2, s2, r1, r2, hro, bU, aq, bE, ai, az, a1])
 rw [hc, hb, hs']
theorem K8 {T : List Ed} {ot : gu} {Zt : List AV} (hT : cL jq T Zt) (hTl : Zt.length <= 1048576) {B : List AB} {A : List AV} {o : gu} {tk h : List Nat} {ro rt : Nat} {e : bF} (e2 : e.get 2 = .ptr B.length 0) (ho : hI (.sl o 8 A) 8 A tk h) (hl : A.length + Zt.length <= aO) (hro : ro <= B.length) (hrt : rt <= tk.length)
  {i3 i5 i4 : Nat} {to' from' : Int} (h3 : B[i3]? = some (.cells [.sl ot 8 Zt])) (h5 : B[i5]? = some (.cells [.int .i64 from'])) (h4 : B[i4]? = some (.cells [.int .i64 to'])) {k : Nat} (hk : 1048580 <= k) :
  ∃ o' h' g, au E k none (.fn bY [] [.ptr i3 0, .ptr i5 0, .ptr i4 0]) [.yield (B.length + 1)] { bl := B ++ [.cells [.sl o 8 A], .loop (Fj e)], tk := tk ++ h, ro, rt } = some (.ret (.tup []), false, { bl := B ++ .cells [.sl o' 8 (A ++ cR to' from' Zt)] :: .loop (Fj e) :: g, tk := tk ++ h', ro, rt }) /\
   hI (.sl o' 8 (A ++ cR to' from' Zt)) 8 (A ++ cR to' from' Zt) tk h' := by
 obtain ⟨k, rfl⟩ : ∃ j, k = j + 1 := ⟨k - 1, by omega⟩
 obtain ⟨k', hk'⟩ : ∃ j, k = j + 1 := ⟨k - 1, by omega⟩
 have hlT := hT.length
 have hb : ∀ {i : Nat} {c : AB}, B[i]? = some c -> ∀ r, (B ++ r)[i]? = some c := fun h r => by rw [List.getElem?_append_left (List.getElem?_eq_some_iff.1 h).1, h]
 have p3 := hb h3
 have p5 := hb h5
 have p4 := hb h4
 obtain ⟨v, s', h1, o', h', g, rfl, rfl, ko⟩ := cI (DR hE) (first := []) (caps := [.ptr i3 0, .ptr i5 0, .ptr i4 0]) (args := [.yield (B.length + 1)]) rfl (k := k) (s := { bl := B ++ [.cells [.sl o 8 A], .loop (Fj e)], tk := tk ++ h, ro, rt })
  (Post := fun v s' => ∃ o' h' g, v = .tup [] /\ s' = { bl := B ++ .cells [.sl o' 8 (A ++ cR to' from' Zt)] :: .loop (Fj e) :: g, tk := tk ++ h', ro, rt } /\ hI (.sl o' 8 (A ++ cR to' from' Zt)) 8 (A ++ cR to' from' Zt) tk h') (by
  simp [-getElem?_pos, List.getElem?_cons_zero, List.getElem?_cons_succ, rm, vT, jk, p3]
  refine aA Zt.length (fun j e' st => ∃ o h g, hI (.sl o 8 (A ++ cR to' from' (Zt.take j))) 8 (A ++ cR to' from' (Zt.take j)) tk h /\ e' = [(0, .yield (B.length + 1)), (2, .ptr i5 0), (3, .ptr i4 0), (7, .sl ot 8 Zt), (8, .int .i64 Zt.length), (9, .int .i64 j)] /\ st = { bl := B ++ .cells [.sl o 8 (A ++ cR to' from' (Zt.take j))] :: .loop (Fj e) :: g, tk := tk ++ h, ro, rt }) (by omega) ⟨o, h, [], by simpa [cR] using ho, rfl, by simp [cR]⟩ ?_ ?_
  ·rintro j e' st hj ⟨o, h, g, ho, rfl, rfl⟩
   obtain ⟨t, ht⟩ : ∃ t, T[j]? = some t := ⟨_, List.getElem?_eq_getElem (by omega)⟩
   obtain ⟨x, hx, hrx⟩ := hT.get ht
   obtain ⟨hp, hn⟩ := DT (to' := to') (from' := from') hrx
   have hs := EG (to' := to') (from' := from') hx
   have hZl := rD to' from' (Zt.take j)
   rw [List.length_take] at hZl
   obtain ⟨kv, ev, rfl, hkv, hev⟩ := hrx
   obtain ⟨hi1, hx1⟩ := List.getElem?_eq_some_iff.1 hx
   have e1 : et (.int .i64 j) Zt.length = some j := av hj
   have hwr : IntKind.wrap .i64 ((j : Int) + 1) = j + 1 := ar (by omega) (by omega)
   have q2 : ∀ (c d f : AB), (B ++ c :: d :: (g ++ [f]))[B.length + (g.length + 1 + 1)]? = some f := fun c d f => by rw [aa]; simp
   have s2 : ∀ (c d f f' : AB), (B ++ c :: d :: (g ++ [f])).set (B.length + (g.length + 1 + 1)) f' = B ++ c :: d :: (g ++ [f']) := fun c d f f' => by rw [aj]; simp
   have r2 : ro <= B.length + (g.length + 1 + 1) := by omega
   obtain ⟨ok, ks, hke, _⟩ := hkv.len
   obtain ⟨oev, es, hee, _⟩ := hev.len
   subst hke
   subst hee
   obtain ⟨A1, hA1⟩ : ∃ A1, A1 = A ++ cR to' from' (Zt.take j) := ⟨_, rfl⟩
   have hA1l : A1.length + 1 <= aO := by rw [hA1]; simp; omega
   have hnext : A ++ cR to' from' (Zt.take (j + 1)) = A1 ++ (BH to' from' (.agg [.int .i64 t.fr, .int .i64 t.to, .int .i64 t.kind, .int .i64 t.sym.kind, .str t.sym.text, .sl ok 3 ks, .sl oev 3 es, .int .i64 t.inner])).toList := by rw [hs, hA1, List.append_assoc]
   rw [<- hA1] at ho ⊢
   rw [hnext]
   by_cases hf : t.fr = from'
   ·have hf' : (t.fr != from') = false := by simp [hf]
    simp only [BH, if_pos hf, Option.toList_some]
    obtain ⟨o', h', hy, oky⟩ := P9 hE (B := B) (A := A1) (o := o) (tk := tk) (h := h) (ro := ro) (rt := rt) (g := g ++ [.cells [.int .i64 to', .int .i64 t.to, .int .i64 t.kind, .int .i64 t.sym.kind, .str t.sym.text, .sl ok 3 ks, .sl oev 3 es, .int .i64 t.inner]]) (e := e) (c0 := .int .i64 to') (c1 := .int .i64 t.to) (c2 := .int .i64 t.kind) (c3 := .int .i64 t.sym.kind) (c4 := .str t.sym.text) (c5 := .sl ok 3 ks) (c6 := .sl oev 3 es) (c7 := .int .i64 t.inner) e2 ho hA1l hro hrt (k := k')
    rw [<- hk'] at hy
    simp only [AV.untok, List.append_assoc, List.cons_append, List.nil_append] at hy oky
    simp [-getElem?_pos, List.getElem?_cons_zero, List.getElem?_cons_succ, mI, hj, e1, hx, hx1, hwr, p5, p4, q2, s2, r2, hf', hy]
    exact oky
   ·have hf' : (t.fr != from') = true := by simpa using hf
    simp only [BH, if_neg hf, Option.toList_none, List.append_nil]
    simp [-getElem?_pos, List.getElem?_cons_zero, List.getElem?_cons_succ, mI, hj, e1, hx, hx1, hwr, p5, p4, q2, s2, r2, hf']
    exact ho
  ·rintro e' st ⟨o, h, g, ho, rfl, rfl⟩
   rw [List.take_of_length_le (Nat.le_refl _)] at ho ⊢
   simp [-getElem?_pos, mI, cD]
   exact ⟨o, h, ⟨rfl, rfl⟩, ho⟩)
 exact ⟨o', h', g, h1, ko⟩
theorem JP {T : List Ed} {ot : gu} {Zt : List AV} (hT : cL jq T Zt) (hTl : Zt.length <= 1048576) {B : List AB} {A : List AV} {o : gu} {tk h : List Nat} {ro rt : Nat} (ho : hI (.sl o 8 A) 8 A tk h) (hl : A.length + Zt.length <= aO) (hro : ro <= B.length) (hrt : rt <= tk.length)
  {i3 i5 i4 : Nat} {to' from' : Int} (h3 : B[i3]? = some (.cells [.sl ot 8 Zt])) (h5 : B[i5]? = some (.cells [.int .i64 from'])) (h4 : B[i4]? = some (.cells [.int .i64 to'])) {k : Nat} (hk : 1048582 <= k) :
  ∃ o' h' g, au E k none (.fn ba [] []) [.sl o 8 A, .fn bY [] [.ptr i3 0, .ptr i5 0, .ptr i4 0]] { bl := B, tk := tk ++ h, ro, rt } = some (.ret (.sl o' 8 (A ++ cR to' from' Zt)), false, { bl := B ++ g, tk := tk ++ h', ro, rt }) /\
   hI (.sl o' 8 (A ++ cR to' from' Zt)) 8 (A ++ cR to' from' Zt) tk h' := by
 obtain ⟨k, rfl⟩ : ∃ j, k = j + 1 := ⟨k - 1, by omega⟩
 obtain ⟨v, s', h1, o', h', g, rfl, rfl, ko⟩ := cI (jY hE) (first := []) (caps := []) (args := [.sl o 8 A, .fn bY [] [.ptr i3 0, .ptr i5 0, .ptr i4 0]]) rfl (k := k) (s := { bl := B, tk := tk ++ h, ro, rt })
  (Post := fun v s' => ∃ o' h' g, v = .sl o' 8 (A ++ cR to' from' Zt) /\ s' = { bl := B ++ g, tk := tk ++ h', ro, rt } /\ hI (.sl o' 8 (A ++ cR to' from' Zt)) 8 (A ++ cR to' from' Zt) tk h') (by
  simp [-getElem?_pos, List.getElem?_cons_zero, List.getElem?_cons_succ, ce, dT, jk]
  refine HL ?_
  obtain ⟨o', h', g, hc, ko⟩ := K8 hE hT hTl (B := B) (A := A) (o := o) (tk := tk) (h := h) (ro := ro) (rt := rt) (e := [(0, .sl o 8 A), (1, .fn bY [] [.ptr i3 0, .ptr i5 0, .ptr i4 0]), (2, .ptr B.length 0), (4, .sl .nil 8 []), (6, .fn bY [] [.ptr i3 0, .ptr i5 0, .ptr i4 0])]) rfl ho hl hro hrt h3 h5 h4 (k := k) (by omega)
  have q0 : ∀ (c : AB) (r : List AB), (B ++ c :: r)[B.length]? = some c := fun c r => by rw [ac]; rfl
  have q1 : ∀ (c d : AB) (r : List AB), (B ++ c :: d :: r)[B.length + 1]? = some d := fun c d r => by rw [aa]; rfl
  have s1 : ∀ (c d f : AB) (r : List AB), (B ++ c :: d :: r).set (B.length + 1) f = B ++ c :: f :: r := fun c d f r => by rw [aj]; rfl
  have hlen : (B ++ [AB.cells [.sl o 8 A]]).length = B.length + 1 := by simp
  refine ⟨.tup [], false, { bl := B ++ .cells [.sl o' 8 (A ++ cR to' from' Zt)] :: .loop (Fj [(0, .sl o 8 A), (1, .fn bY [] [.ptr i3 0, .ptr i5 0, .ptr i4 0]), (2, .ptr B.length 0), (4, .sl .nil 8 []), (6, .fn bY [] [.ptr i3 0, .ptr i5 0, .ptr i4 0])]) :: g, tk := tk ++ h', ro, rt }, ?_, ?_⟩
  ·rw [<- hc]
   simp only [hlen, St.push, List.append_assoc, List.cons_append, List.nil_append]
   rfl
  ·rw [hlen]
   refine ⟨_, q1 _ _ _, .inl ⟨rfl, rfl, ?_⟩⟩
   simp [-getElem?_pos, List.getElem?_cons_zero, List.getElem?_cons_succ, q0, q1, s1, cD]
   exact ko)
 exact ⟨o', h', g, h1, ko⟩
end
open Go Ab Go.RowKit
set_option maxRecDepth 10000
def bD : List AV -> List AV
 | [] => []
 | .sl _ _ ys :: r => AV.untokL ys ++ bD r
 | _ :: r => bD r
theorem w7 : ∀ a b : List AV, bD (a ++ b) = bD a ++ bD b
 | [], b => rfl
 | x :: a, b => by cases x <;> simp [bD, w7 a b]
def U8 (vs : List AV) : Prop := ∀ v ∈ vs, ∃ o ys, v = .sl o 8 ys
theorem w8 {vs : List AV} {i z : Nat} {o : gu} {ys : List AV} (h : vs[i]? = some (.sl o z ys)) : bD (vs.take (i + 1)) = bD (vs.take i) ++ AV.untokL ys := by
 rw [List.take_add_one, h, w7]; simp [bD]
theorem CS : ∀ (vs : List AV) (i : Nat), (bD (vs.take i)).length <= (bD vs).length := by
 intro vs i
 conv => rhs; rw [<- List.take_append_drop i vs, w7]
 simp
def zI (T n : Nat) (ys : List AV) : AV := if n = 0 then .sl .nil 8 [] else .sl (.tok T) 8 ys
def zH (tk : List Nat) (n : Nat) (ys : List AV) : List Nat := if n = 0 then tk else tk ++ [ys.length]
theorem Qi {bl : List AB} {tk : List Nat} {ro rt n : Nat} {ys zs : List AV} {o : gu} (hl : ys.length + zs.length <= aO) (hr : rt <= tk.length) (h0 : n = 0 -> zs = []) (h1 : n = 0 -> ys = []) :
  oc { bl, tk := zH tk n ys, ro, rt } 8 (zI tk.length n ys) (.sl o 8 zs) = some (zI tk.length n (ys ++ AV.untokL zs), { bl, tk := zH tk n (ys ++ AV.untokL zs), ro, rt }) := by
 cases zs with
 | nil => by_cases hn : n = 0 <;> simp [zI, zH, oc, oZ, AV.untokL, hn] <;> simpa using hl
 | cons a zs =>
  have hn : n ≠ 0 := fun h => by cases h0 h
  simp only [List.length_cons] at hl
  simp [zI, zH, oc, oZ, AV.untokL, hn, hl, hr]
section
variable {E : ak} (hE : E.fns = af.fn ag)
include hE
theorem Pc (n : Nat) (hn : n <= aO) : ∀ k, 1 <= k -> ∀ s, au E k none (.fn bC [] []) [.sl .nil 8 [], .int .i64 n] s = some (.ret (zI s.tk.length n []), false, { s with tk := zH s.tk n [] }) := by
 intro k hk s
 obtain ⟨j, rfl⟩ : ∃ j, k = j + 1 := ⟨k - 1, by omega⟩
 have hmm : aO = 1073741824 := rfl
 have hw : IntKind.wrap .i64 (n : Int) = n := ar (by omega) (by omega)
 have hw0 : IntKind.wrap .i64 0 = 0 := ar (by omega) (by omega)
 have hlt0 : ¬ ((n : Int) < 0) := by omega
 have key := cI (lH hE) (first := []) (caps := []) (args := [.sl .nil 8 [], .int .i64 n]) rfl (k := j) (s := s) (Post := fun v s' => v = zI s.tk.length n [] /\ s' = { s with tk := zH s.tk n [] }) (by
  by_cases h0 : n = 0
  ·subst h0
   simp [bz, cY, jk, cD, zI, zH, hw0, sK]
  ·have hpos : 0 < n := by omega
   simp [bz, cY, jk, cD, zI, zH, hw0, hw, sK, hlt0, hpos, hn, mE, h0])
 obtain ⟨v, s', h, rfl, rfl⟩ := key
 exact h
theorem LQ (T : Nat) (tk : List Nat) (ys : List AV) : zI T ys.length ys = gb 8 T ys /\ zH tk ys.length ys = cU tk ys := by
 unfold zI zH gb cU
 by_cases h : ys = []
 ·subst h; simp
 ·have : ys.length ≠ 0 := fun e => h (List.eq_nil_of_length_eq_zero e)
  simp [h, this]
theorem Nc (o : gu) {vs : List AV} (hS : U8 vs) (hv : vs.length <= 1048576) (hn : (bD vs).length <= aO) (hd : AV.dataL (bD vs) = true) {k : Nat} (hk : vs.length + 4 <= k) (s : St) :
  au E k none (.fn aS [] []) [.sl o 1 vs] s = some (.ret (gb 8 s.tk.length (bD vs)), false, { s with tk := cU s.tk (bD vs) }) := by
 obtain ⟨k, rfl⟩ : ∃ j, k = j + 1 := ⟨k - 1, by omega⟩
 have hK := Pc hE (bD vs).length hn
 have hmm : aO = 1073741824 := rfl
 have hget : ∀ i, i < vs.length -> ∃ o ys, vs[i]? = some (.sl o 8 ys) := fun i hi => by
  obtain ⟨o, ys, h⟩ := hS _ (List.getElem_mem hi)
  exact ⟨o, ys, by rw [List.getElem?_eq_getElem hi, h]⟩
 obtain ⟨v, s', h1, rfl, rfl⟩ := cI (kM hE) (first := []) (caps := []) (args := [.sl o 1 vs]) rfl (k := k) (s := s) (Post := fun v s' => v = gb 8 s.tk.length (bD vs) /\ s' = { s with tk := cU s.tk (bD vs) }) (by
  simp [cH, eC, jk]
  refine aA vs.length (fun i e st => e = [(0, .sl o 1 vs), (3, .int .i64 (bD (vs.take i)).length), (9, .sl o 1 vs), (10, .int .i64 vs.length), (11, .int .i64 i)] /\ st = { bl := s.bl, tk := s.tk, ro := s.bl.length, rt := s.tk.length }) (by omega) (by simp [bD]) ?_ ?_
  ·rintro i e st hi ⟨rfl, rfl⟩
   obtain ⟨o', ys, hx⟩ := hget i hi
   obtain ⟨_, hx1⟩ := List.getElem?_eq_some_iff.1 hx
   have e1 : et (.int .i64 i) vs.length = some i := av hi
   have hf := w8 hx
   have hle := CS vs (i + 1)
   have hfl : (bD (vs.take (i + 1))).length = (bD (vs.take i)).length + ys.length := by rw [hf]; simp
   have hw : IntKind.wrap .i64 ((i : Int) + 1) = i + 1 := ar (by omega) (by omega)
   have hw2 : IntKind.wrap .i64 (((bD (vs.take i)).length : Int) + ys.length) = (bD (vs.take (i + 1))).length := by rw [ar (by omega) (by omega)]; omega
   have hlt0 : ¬ (((bD (vs.take (i + 1))).length : Int) < 0) := by omega
   simp [cE, hi, e1, hx, hx1, hw, hw2, hlt0]
  ·rintro e st ⟨rfl, rfl⟩
   simp [cE, hK k (by omega)]
   refine aA vs.length (fun i e st => e = [(6, zI s.tk.length (bD vs).length (bD (vs.take i))), (25, .sl o 1 vs), (26, .int .i64 vs.length), (27, .int .i64 i)] /\ st = { bl := s.bl, tk := zH s.tk (bD vs).length (bD (vs.take i)), ro := s.bl.length, rt := s.tk.length }) (by omega) (by simp [bD]) ?_ ?_
   ·rintro i e st hi ⟨rfl, rfl⟩
    obtain ⟨o', ys, hx⟩ := hget i hi
    obtain ⟨_, hx1⟩ := List.getElem?_eq_some_iff.1 hx
    have e1 : et (.int .i64 i) vs.length = some i := av hi
    have hf := w8 hx
    have hle := CS vs (i + 1)
    have hfl : (bD (vs.take (i + 1))).length = (bD (vs.take i)).length + ys.length := by rw [hf]; simp
    have hw : IntKind.wrap .i64 ((i : Int) + 1) = i + 1 := ar (by omega) (by omega)
    have hap := Qi (bl := s.bl) (tk := s.tk) (ro := s.bl.length) (rt := s.tk.length) (n := (bD vs).length) (ys := bD (vs.take i)) (zs := ys) (o := o') (by omega) (Nat.le_refl _) (fun h => List.eq_nil_of_length_eq_zero (by omega)) (fun h => List.eq_nil_of_length_eq_zero (by omega))
    rw [<- hf] at hap
    simp [cG, hi, e1, hx, hx1, hw, hap]
   ·rintro e st ⟨rfl, rfl⟩
    rw [List.take_of_length_le (Nat.le_refl _)]
    simp only [(LQ hE s.tk.length s.tk (bD vs)).1, (LQ hE s.tk.length s.tk (bD vs)).2]
    simp [cG]
    rw [tE hd rfl]
    simp)
 exact h1
end
open Go Ab Go.RowKit
set_option maxRecDepth 10000
theorem LV {x : Int} : ∀ {L : List Int}, ri L -> ri (nE L x)
 | [], _ => List.pairwise_singleton _ _
 | y :: r, h => by
  have hr := (List.pairwise_cons.1 h).2
  have hy := (List.pairwise_cons.1 h).1
  simp only [nE]
  split
  ·rename_i hlt
   refine List.pairwise_cons.2 ⟨fun z hz => ?_, LV hr⟩
   rcases GN hz with rfl | hz
   ·exact hlt
   ·exact hy z hz
  ·rename_i hlt
   split
   ·exact h
   ·rename_i hne
    refine List.pairwise_cons.2 ⟨fun z hz => ?_, h⟩
    rcases List.mem_cons.1 hz with rfl | hz
    ·omega
    ·have := hy z hz; omega
theorem IT : ∀ (l L : List Int), ri L -> ri (l.foldl nE L)
 | [], _, h => h
 | x :: l, L, h => IT l _ (LV h)
theorem Hj (l : List Int) : ri (bg l) := IT l [] List.Pairwise.nil
theorem PZ (x y : List Int) : bg (bg x ++ y) = bg (x ++ y) := by
 have h : bg (bg x) = bg x := Jq (Hj x)
 unfold bg at h ⊢
 rw [List.foldl_append, List.foldl_append, h]
section
variable {E : ak} (hE : E.fns = af.fn ag)
include hE
theorem Si (v : AV) (a b : Int) {o : gu} {xs : List AV} (hv : v = .sl o 8 xs) {k : Nat} (hk : 1 <= k) {B : List AB} {tk : List Nat} {ro rt : Nat} :
  au E k none (.fn qv [] []) [v, .int .i64 a, .int .i64 b] { bl := B, tk, ro, rt } = some (.ret (.fn bY [] [.ptr B.length 0, .ptr (B.length + 2) 0, .ptr (B.length + 1) 0]), false, { bl := B ++ [.cells [v], .cells [.int .i64 a], .cells [.int .i64 b]], tk, ro, rt }) := by
 obtain ⟨k, rfl⟩ : ∃ j, k = j + 1 := ⟨k - 1, by omega⟩
 subst hv
 obtain ⟨v', s', h1, rfl, rfl⟩ := cI (GA hE) (first := []) (caps := []) (args := [.sl o 8 xs, .int .i64 a, .int .i64 b]) rfl (k := k) (s := { bl := B, tk, ro, rt }) (Post := fun v' s' => v' = .fn bY [] [.ptr B.length 0, .ptr (B.length + 2) 0, .ptr (B.length + 1) 0] /\ s' = { bl := B ++ [.cells [.sl o 8 xs], .cells [.int .i64 a], .cells [.int .i64 b]], tk, ro, rt }) (by
  simp [tN, ze, jk, cD])
 exact h1
theorem Lp (hP : Pr E) {a b : Au} {x y : AV} {ca cb : List AV} (ha : tU a x) (hb : tU b y) (hx : x = .agg ca) (hy : y = .agg cb) (hxu : x.untok = x) (hyu : y.untok = y) (hga : Rg a) (hgb : Rg b) {s : St} {i0 i1 : Nat} (hi0 : s.bl[i0]? = some (.cells ca)) (hi1 : s.bl[i1]? = some (.cells cb)) {k : Nat} (hk : 6000000 <= k) :
  ∃ z, (tU (BZ a b) z /\ z.untok = z /\ Ur z) /\ au E k none (.fn je [] [.ptr i0 0, .ptr i1 0]) [] s = some (.ret z, false, s) := by
 obtain ⟨k, rfl⟩ : ∃ j, k = j + 1 := ⟨k - 1, by omega⟩
 obtain ⟨k', hk'⟩ : ∃ j, k = j + 1 := ⟨k - 1, by omega⟩
 subst hx
 subst hy
 obtain ⟨of, oe, ya, ha, hea, hnf, hne⟩ := ha
 cases ha
 obtain ⟨of', oe', yb, hb, heb, hnf', hne'⟩ := hb
 cases hb
 simp only [AV.untok, AV.untokL, AV.agg.injEq, List.cons.injEq] at hxu hyu
 have hpa := G5 (by exact eW hea) hxu.2.2.2.1
 have hpb := G5 (by exact eW heb) hyu.2.2.2.1
 have hla := hea.length
 have hlb := heb.length
 refine CK (Cd hE) rfl fun bl tk hb' => ?_
 have hb' : bl = s.bl /\ tk = s.tk := by
  rcases hb' with h | h
  ·exact h
  ·simp [AV.plainL, AV.plain] at h
 obtain ⟨rfl, rfl⟩ := hb'
 have hi' : ∀ {i : Nat} {c : AB}, s.bl[i]? = some c -> ∀ r, (s.bl ++ r)[i]? = some c := fun h r => by rw [List.getElem?_append_left (List.getElem?_eq_some_iff.1 h).1, h]
 have p0 := hi' hi0
 have p1 := hi' hi1
 have q0 : ∀ (c : AB) (r : List AB), (s.bl ++ c :: r)[s.bl.length]? = some c := fun c r => by rw [ac]; rfl
 have s0 : ∀ (c f : AB) (r : List AB), (s.bl ++ c :: r).set s.bl.length f = s.bl ++ f :: r := fun c f r => by rw [aB]; rfl
 have q1 : ∀ (c d : AB) (r : List AB), (s.bl ++ c :: d :: r)[s.bl.length + 1]? = some d := fun c d r => by rw [aa]; rfl
 have s1 : ∀ (c d f : AB) (r : List AB), (s.bl ++ c :: d :: r).set (s.bl.length + 1) f = s.bl ++ c :: f :: r := fun c d f r => by rw [aj]; rfl
 have r1 : s.bl.length <= s.bl.length + 1 := by omega
 have hna := hga.n
 have hnb := hgb.n
 have hsa := hga.start
 have hsb := hgb.start
 have w2 : IntKind.wrap .i64 (2 * a.n) = 2 * a.n := ar (by omega) (by omega)
 have w3 : IntKind.wrap .i64 (2 * a.n + b.n) = 2 * a.n + b.n := ar (by omega) (by omega)
 have w4 : IntKind.wrap .i64 (b.start + 2 * a.n) = b.start + 2 * a.n := ar (by omega) (by omega)
 have hmm : aO = 1073741824 := rfl
 have hea' := hga.edsL
 have heb' := hgb.edsL
 have hfa' := hga.finL
 have hfb' := hgb.finL
 have pick : ∀ (o : gu) (z : Nat) (ys zs : List AV), (ys = [] -> zs = []) -> ∃ o', (if ys = [] then rc o z else .sl .any z zs) = .sl o' z zs /\ (AV.sl o' z zs).untok = .sl o' z zs := by
  intro o z ys zs h
  by_cases h0 : ys = []
  ·rw [if_pos h0, h h0]
   unfold rc; split <;> exact ⟨_, rfl, rfl⟩
  ·rw [if_neg h0]; exact ⟨_, rfl, rfl⟩
 have ct := fun st => DO hE (o := oe') heb hne' (by omega) (by' := 2 * a.n) (inn := 2 * a.n) (by omega) (by omega) hgb.mid (k := k) (by omega) st
 have c1 := fun st => DO hE (o := oe) hea hne (by omega) (by' := 0) (inn := a.n) (by omega) (by omega) hga.mid (k := k) (by omega) st
 have c2 := fun st => DO hE (o := oe) hea hne (by omega) (by' := a.n) (inn := a.n) (by omega) (by omega) hga.mid (k := k) (by omega) st
 obtain ⟨Zt, hZt⟩ : ∃ Z, Z = yb.map (oR (2 * a.n) (2 * a.n)) := ⟨_, rfl⟩
 obtain ⟨Z1, hZ1⟩ : ∃ Z, Z = ya.map (oR 0 a.n) := ⟨_, rfl⟩
 obtain ⟨Z2, hZ2⟩ : ∃ Z, Z = ya.map (oR a.n a.n) := ⟨_, rfl⟩
 have rt' := p7 (by' := 2 * a.n) (inn := 2 * a.n) heb
 have ra1 := p7 (by' := 0) (inn := a.n) hea
 have ra2 := p7 (by' := a.n) (inn := a.n) hea
 rw [<- hZt] at rt'
 simp only [<- hZt] at ct
 rw [<- hZ1] at ra1
 simp only [<- hZ1] at c1
 rw [<- hZ2] at ra2
 simp only [<- hZ2] at c2
 obtain ⟨ot, het, hut⟩ := pick oe' 8 yb Zt (fun h => by rw [hZt, h]; rfl)
 obtain ⟨o1, he1, hu1⟩ := pick oe 8 ya Z1 (fun h => by rw [hZ1, h]; rfl)
 obtain ⟨o2, he2, hu2⟩ := pick oe 8 ya Z2 (fun h => by rw [hZ2, h]; rfl)
 rw [het] at ct
 rw [he1] at c1
 rw [he2] at c2
 have hZtl : Zt.length = yb.length := by rw [hZt]; simp
 have hZ1l : Z1.length = ya.length := by rw [hZ1]; simp
 have hZ2l : Z2.length = ya.length := by rw [hZ2]; simp
 obtain ⟨E0, hE0⟩ : ∃ E0, E0 = Z1 ++ (Z2 ++ Zt) := ⟨_, rfl⟩
 have rE0 : cL jq (a.eds.map (mN 0 a.n) ++ (a.eds.map (mN a.n a.n) ++ ud a b)) E0 := by rw [hE0]; exact fZ ra1.1 (fZ ra2.1 rt'.1)
 have uE0 : AV.untokL E0 = E0 := by rw [hE0, untokL_append, untokL_append, ra1.2, ra2.2, rt'.2]
 have hfl : bD [.sl o1 8 Z1, .sl o2 8 Z2, .sl ot 8 Zt] = E0 := by simp only [bD, ra1.2, ra2.2, rt'.2, List.append_nil, hE0]
 have hE0l : E0.length = ya.length + (ya.length + yb.length) := by rw [hE0]; simp; omega
 have cc := fun st => Nc hE .full (vs := [.sl o1 8 Z1, .sl o2 8 Z2, .sl ot 8 Zt]) (fun v hv => by simp at hv; rcases hv with rfl | rfl | rfl <;> exact ⟨_, _, rfl⟩) (by simp) (by rw [hfl]; omega) (by rw [hfl]; exact eW rE0) (k := k) (by simp; omega) st
 simp only [hfl] at cc
 obtain ⟨hz, hz1, hz2, _⟩ := Ke 8 E0 s.tk []
 simp only [List.append_nil] at hz1 hz2
 obtain ⟨oE, hoE, _⟩ := qG 8 s.tk.length E0
 rw [hoE] at hz2
 have cc' : ∀ B r, au E k none (.fn aS [] []) [.sl .full 1 [.sl o1 8 Z1, .sl o2 8 Z2, .sl ot 8 Zt]] { bl := B, tk := s.tk, ro := r, rt := s.tk.length } = some (.ret (.sl oE 8 E0), false, { bl := B, tk := s.tk ++ hz, ro := r, rt := s.tk.length }) := fun B r => by
  have := cc { bl := B, tk := s.tk, ro := r, rt := s.tk.length }
  simp only [hoE, hz1] at this
  exact this
 clear cc
 simp [-getElem?_pos, List.getElem?_cons_zero, List.getElem?_cons_succ, oQ, tY, p0, p1, q0, q1, s0, s1, r1, w2, w3, aq, bE, ai, az, ct, c1, c2, ny hE, jO, AV.plainL, hpa, hpb, AV.plain, hu1, hu2, hut, cc']
 refine SP .normal [(0, .ptr i0 0), (1, .ptr i1 0), (2, .ptr s.bl.length 0), (3, .int .i64 a.n), (4, .sl ot 8 Zt), (5, .ptr (s.bl.length + 1) 0)] (s.tk ++ hz) [.cells [.int .i64 (2 * a.n + b.n), .int .i64 a.start, .sl .nil 1 [], .sl oE 8 E0]] rfl ?_ ?_ ?_
 ·simp [-getElem?_pos, List.getElem?_cons_zero, List.getElem?_cons_succ, p0, p1, q0, q1, s0, s1, r1, w2, w3, aq, bE, ai, az, ct, c1, c2, ny hE, jO, AV.plainL, hpa, hpb, AV.plain, hu1, hu2, hut, cc']
 ·simp [-getElem?_pos, List.getElem?_cons_zero, List.getElem?_cons_succ, wo, p0, p1, q0, q1, s0, s1, r1, w2, w3, aq, bE, ai, az, ct, c1, c2, ny hE, jO, AV.plainL, hpa, hpb, AV.plain, hu1, hu2, hut, cc']
 simp [-getElem?_pos, List.getElem?_cons_zero, List.getElem?_cons_succ, p0, p1, q0, q1, s0, s1, r1, w2, w3, aq, bE, ai, az, ct, c1, c2, ny hE, jO, AV.plainL, hpa, hpb, AV.plain, hu1, hu2, hut, cc']
 obtain ⟨sv, hsv⟩ : ∃ sv, sv = b.start + 2 * a.n := ⟨_, rfl⟩
 have w4' : IntKind.wrap .i64 sv = sv := by rw [hsv]; exact w4
 refine aA a.fin.length (fun i e' st => ∃ h o g, hI (.sl o 8 (E0 ++ iK sv Zt (a.fin.take i))) 8 (E0 ++ iK sv Zt (a.fin.take i)) s.tk h /\ e' = [(0, .ptr i0 0), (1, .ptr i1 0), (2, .ptr s.bl.length 0), (3, .int .i64 a.n), (4, .sl ot 8 Zt), (5, .ptr (s.bl.length + 1) 0), (38, .sl of 1 (ao a.fin)), (39, .int .i64 a.fin.length), (40, .int .i64 i)] /\ st = { bl := s.bl ++ .cells [.int .i64 0, .int .i64 0, .sl .nil 1 [], .sl .nil 8 []] :: .cells [.int .i64 (2 * a.n + b.n), .int .i64 a.start, .sl .nil 1 [], .sl o 8 (E0 ++ iK sv Zt (a.fin.take i))] :: g, tk := s.tk ++ h, ro := s.bl.length, rt := s.tk.length }) (by omega) ⟨hz, oE, [], by simpa [iK] using hz2, rfl, by simp [iK]⟩ ?_ ?_
 ·rintro i e' st hi ⟨h, o, g, ho, rfl, rfl⟩
  obtain ⟨f, hf⟩ : ∃ t, a.fin[i]? = some t := ⟨_, List.getElem?_eq_getElem (by omega)⟩
  have hx := ep hf
  obtain ⟨hi1', hx1⟩ := List.getElem?_eq_some_iff.1 hx
  have e1 : et (.int .i64 i) a.fin.length = some i := av hi
  have hwr : IntKind.wrap .i64 ((i : Int) + 1) = i + 1 := ar (by omega) (by omega)
  have hlm := Cf (st := sv) (Zt := Zt) (a.fin.take i)
  have hlm2 : (a.fin.take i).length * Zt.length <= 400 * 4000 := Nat.mul_le_mul (by rw [List.length_take]; omega) (by omega)
  obtain ⟨EE, hEE⟩ : ∃ EE, EE = E0 ++ iK sv Zt (a.fin.take i) := ⟨_, rfl⟩
  have hEl : EE.length + Zt.length <= aO := by rw [hEE]; simp; omega
  have hnx : E0 ++ iK sv Zt (a.fin.take (i + 1)) = EE ++ cR f sv Zt := by rw [EH hf, hEE, List.append_assoc]
  rw [<- hEE] at ho ⊢
  rw [hnx]
  obtain ⟨BB, hBB⟩ : ∃ BB, BB = s.bl ++ AB.cells [.int .i64 0, .int .i64 0, .sl .nil 1 [], .sl .nil 8 []] :: AB.cells [.int .i64 (2 * a.n + b.n), .int .i64 a.start, .sl .nil 1 [], .sl o 8 EE] :: g := ⟨_, rfl⟩
  have hlk := Si hE (.sl ot 8 Zt) f sv rfl (k := k) (by omega) (B := BB) (tk := s.tk ++ h) (ro := s.bl.length) (rt := s.tk.length)
  have hBl : s.bl.length <= BB.length := by rw [hBB]; simp
  obtain ⟨o', h', g', happ, ko⟩ := JP hE rt'.1 (ot := ot) (by omega) (B := BB ++ [.cells [.sl ot 8 Zt], .cells [.int .i64 f], .cells [.int .i64 sv]]) (A := EE) (o := o) (tk := s.tk) (h := h) (ro := s.bl.length) (rt := s.tk.length) ho hEl (by simp; omega) (Nat.le_refl _) (i3 := BB.length) (i5 := BB.length + 2) (i4 := BB.length + 1) (to' := f) (from' := sv) (by rw [ac]; rfl) (by rw [aa]; rfl) (by rw [aa]; rfl) (k := k) (by omega)
  obtain ⟨J3, hJ3⟩ : ∃ J, J = BB.length := ⟨_, rfl⟩
  obtain ⟨J4, hJ4⟩ : ∃ J, J = BB.length + 1 := ⟨_, rfl⟩
  obtain ⟨J5, hJ5⟩ : ∃ J, J = BB.length + 2 := ⟨_, rfl⟩
  rw [<- hJ4, <- hJ5, <- hJ3] at hlk happ
  rw [hBB] at hlk happ
  simp only [List.append_assoc, List.cons_append, List.nil_append] at hlk happ
  simp [-getElem?_pos, List.getElem?_cons_zero, List.getElem?_cons_succ, kz, hi, e1, hx, hx1, hwr, p0, p1, q0, q1, s1, r1, w2, w4', <- hsv, hlk, happ]
  exact ⟨h', o', ko, rfl, rfl⟩
 ·rintro e' st ⟨h, o, g, ho, rfl, rfl⟩
  rw [List.take_of_length_le (Nat.le_refl _)] at ho ⊢
  obtain ⟨EE, hEE⟩ : ∃ EE, EE = E0 ++ iK sv Zt a.fin := ⟨_, rfl⟩
  rw [<- hEE] at ho ⊢
  have rEE : cL jq (wX a b) EE := by
   rw [hEE]
   have h1 := wu (st := sv) rt'.1 a.fin
   have h2 := fZ rE0 h1.1
   have e : wX a b = (a.eds.map (mN 0 a.n) ++ (a.eds.map (mN a.n a.n) ++ ud a b)) ++ a.fin.flatMap (fun f => uw (ud a b) f (b.start + 2 * a.n)) := by unfold wX; simp only [List.append_assoc]
   rw [e, <- hsv]
   exact h2
  have uEE : AV.untokL EE = EE := by rw [hEE, untokL_append, uE0, (wu (st := sv) rt'.1 a.fin).2]
  have d1 := fun st => Ot hE (l := a.fin) (o := of) hnf (by' := a.n) (by omega) (fun f hf => by have := hga.fin f hf; omega) (by omega) (k := k) (by omega) st
  have d2 := fun st => Ot hE (l := b.fin) (o := of') hnf' (by' := 2 * a.n) (by omega) (fun f hf => by have := hgb.fin f hf; omega) (by omega) (k := k) (by omega) st
  have pickI : ∀ (o : gu) (l l' : List Int), (l = [] -> l' = []) -> ∃ o', (if l = [] then rc o 1 else .sl .any 1 (ao l')) = .sl o' 1 (ao l') /\ (AV.sl o' 1 (ao l')).untok = .sl o' 1 (ao l') := by
   intro o l l' h
   by_cases h0 : l = []
   ·rw [if_pos h0, h h0]
    unfold rc; split <;> exact ⟨_, rfl, rfl⟩
   ·rw [if_neg h0]; exact ⟨_, rfl, rfl⟩
  obtain ⟨v1, hv1, hv1u⟩ := pickI of a.fin (a.fin.map (fun f => f + a.n)) (fun h => by rw [h]; rfl)
  obtain ⟨v2, hv2, hv2u⟩ := pickI of' b.fin (b.fin.map (fun f => f + 2 * a.n)) (fun h => by rw [h]; rfl)
  simp only [hv1] at d1
  simp only [hv2] at d2
  have as1 := fun st => hP.asc .full v1 v2 (a.fin.map (fun f => f + a.n)) (b.fin.map (fun f => f + 2 * a.n)) (by rw [List.length_map, List.length_map, show aO = 1073741824 from rfl]; omega) k' st
  rw [<- hk'] at as1
  obtain ⟨x1, hx1, hx1n⟩ := lG 1 (ao (bg (a.fin.map (fun f => f + a.n) ++ b.fin.map (fun f => f + 2 * a.n))))
  have hx1u : (AV.sl x1 1 (ao (bg (a.fin.map (fun f => f + a.n) ++ b.fin.map (fun f => f + 2 * a.n))))).untok = .sl x1 1 (ao (bg (a.fin.map (fun f => f + a.n) ++ b.fin.map (fun f => f + 2 * a.n)))) := by rw [<- hx1]; exact oW _ _
  simp only [hx1] at as1
  have gf := E6 hE (l := b.fin) (o := of') (n := b.start) (by omega) k (by omega)
  obtain ⟨oz, hoz, hozn, huz⟩ := ho.sl
  cases hoz
  obtain ⟨z2, hz2', hz2n⟩ := lG 8 EE
  have hu2' : (AV.sl o 8 EE).untok = .sl z2 8 EE := by rw [huz, hz2']
  have hz2u : (AV.sl z2 8 EE).untok = .sl z2 8 EE := by rw [<- hz2']; exact oW _ _
  cases cf : MH b.fin b.start with
  | true =>
   rw [cf] at gf
   have hsl : (bg (a.fin.map (fun f => f + a.n) ++ b.fin.map (fun f => f + 2 * a.n))).length <= 1048576 := by
    have := qI (a.fin.map (fun f => f + a.n) ++ b.fin.map (fun f => f + 2 * a.n))
    simp only [List.length_append, List.length_map] at this
    omega
   have as2 := fun st => hP.asc .full x1 of (bg (a.fin.map (fun f => f + a.n) ++ b.fin.map (fun f => f + 2 * a.n))) a.fin (by rw [show aO = 1073741824 from rfl]; omega) k' st
   rw [<- hk'] at as2
   have hcf : bg (bg (a.fin.map (fun f => f + a.n) ++ b.fin.map (fun f => f + 2 * a.n)) ++ a.fin) = bg (nz a b) := by rw [PZ]; unfold nz; rw [cf]; rfl
   simp only [hcf] at as2
   obtain ⟨x2, hx2, hx2n⟩ := lG 1 (ao (bg (nz a b)))
   have hx2u : (AV.sl x2 1 (ao (bg (nz a b)))).untok = .sl x2 1 (ao (bg (nz a b))) := by rw [<- hx2]; exact oW _ _
   simp only [hx2] at as2
   simp [-getElem?_pos, List.getElem?_cons_zero, List.getElem?_cons_succ, kz, p0, p1, q0, q1, s0, s1, r1, w2, d1, d2, hv1u, hv2u, zr hE, aq, bE, ai, az, as1, gf, hx1u, hxu.2.2.1, as2]
   refine ⟨_, bW (by simp [cJ, eW rEE]), ?_⟩
   simp only [AV.untok, AV.untokL, hx2u, hu2']
   refine ⟨⟨x2, z2, EE, rfl, rEE, fun h => by have := hx2n h; show bg (nz a b) = []; simpa [ao] using this, hz2n⟩, by simp only [AV.untok, AV.untokL, hx2u, hz2u], ?_⟩
   intro e0 e1 e2 oe' ys' e
   simp only [AV.agg.injEq, List.cons.injEq, AV.sl.injEq] at e
   rw [<- e.2.2.2.1.2.2]; exact uEE
  | false =>
   rw [cf] at gf
   have hcf : bg (a.fin.map (fun f => f + a.n) ++ b.fin.map (fun f => f + 2 * a.n)) = bg (nz a b) := by unfold nz; rw [cf]; simp
   simp only [hcf] at as1 hx1n hx1u
   simp [-getElem?_pos, List.getElem?_cons_zero, List.getElem?_cons_succ, kz, p0, p1, q0, q1, s0, s1, r1, w2, d1, d2, hv1u, hv2u, zr hE, aq, bE, ai, az, as1, gf]
   refine ⟨_, bW (by simp [cJ, eW rEE]), ?_⟩
   simp only [AV.untok, AV.untokL, hx1u, hu2']
   refine ⟨⟨x1, z2, EE, rfl, rEE, fun h => by have := hx1n h; show bg (nz a b) = []; simpa [ao] using this, hz2n⟩, by simp only [AV.untok, AV.untokL, hx1u, hz2u], ?_⟩
   intro e0 e1 e2 oe' ys' e
   simp only [AV.agg.injEq, List.cons.injEq, AV.sl.injEq] at e
   rw [<- e.2.2.2.1.2.2]; exact uEE
theorem Pn (hP : Pr E) {a b : Au} {x y : AV} (ha : tU a x) (hb : tU b y) (hxu : x.untok = x) (hyu : y.untok = y) (hBa : Ba a) (hBb : Ba b) {k : Nat} (hk : 12000005 <= k) (s : St) :
  ∃ r, FI (lk a b) r /\ au E k none (.fn kQ [] []) [x, y] s = some (.ret r, false, s) := by
 obtain ⟨k, rfl⟩ : ∃ j, k = j + 1 := ⟨k - 1, by omega⟩
 have g1 := Sg hE ha hb hBa hBb k (by omega)
 have ha0 := ha
 have hb0 := hb
 obtain ⟨of, oe, ya, rfl, hea, _⟩ := ha
 obtain ⟨of', oe', yb, rfl, heb, _⟩ := hb
 refine fK (wj hE) rfl (fun bl tk => ?_) s
 have q0 : ∀ (c : AB) (r : List AB), (bl ++ c :: r)[bl.length]? = some c := fun c r => by rw [ac]; rfl
 have q1 : ∀ (c d : AB) (r : List AB), (bl ++ c :: d :: r)[bl.length + 1]? = some d := fun c d r => by rw [aa]; rfl
 have q2 : ∀ (c d f : AB) (r : List AB), (bl ++ c :: d :: f :: r)[bl.length + 2]? = some f := fun c d f r => by rw [aa]; rfl
 have s2 : ∀ (c d e f : AB) (r : List AB), (bl ++ c :: d :: e :: r).set (bl.length + 2) f = bl ++ c :: d :: f :: r := fun c d e f r => by rw [aj]; rfl
 have r2 : bl.length <= bl.length + 2 := by omega
 by_cases h0 : zm a b = 0
 ·rw [h0] at g1
  have h1 : cP a = 0 := by
   unfold zm at h0
   by_cases h : cP a = 0
   ·exact h
   ·rw [if_pos h] at h0; exact h0
  have h2 : cP b = 0 := by
   unfold zm at h0
   rw [if_neg (by simp [h1])] at h0; exact h0
  have hga := Rg.of hBa h1
  have hgb := Rg.of hBb h2
  have hop : lk a b = kq (BZ a b) := by unfold lk; rw [if_neg (by simp [h1]), if_neg (by simp [h2])]
  rw [hop]
  obtain ⟨r, ⟨xr, hr, hr2, hr3⟩, hc⟩ := B9 hE (pf := .fn je [] [.ptr bl.length 0, .ptr (bl.length + 1) 0]) (by simp [AV.plain, AV.plainL]) (a := BZ a b) (k := k) (by omega) (s := { bl := bl ++ [.cells [.int .i64 a.n, .int .i64 a.start, .sl of 1 (ao a.fin), .sl oe 8 ya], .cells [.int .i64 b.n, .int .i64 b.start, .sl of' 1 (ao b.fin), .sl oe' 8 yb], .cells [.int .i64 0, .int .i64 0, .sl .nil 1 [], .sl .nil 8 []]], tk, ro := bl.length, rt := tk.length }) (fun r tk ro rt => Lp hE hP ha0 hb0 rfl rfl hxu hyu hga hgb (by simp [ac]) (by simp [aa]) (by omega)) (fun h1 h2 => KE hga hgb h1 h2)
  subst hr
  have hr2' := hr2
  obtain ⟨z1, z2, zs, rfl, hzs, _⟩ := hr2
  simp [-getElem?_pos, List.getElem?_cons_zero, List.getElem?_cons_succ, kI, rn, q0, q1, q2, s2, r2, g1, hc, aq, bE, ai, az]
  exact w6 hr2' hr3
 ·have hop : lk a b = (gN, zm a b) := by
   by_cases h : cP a = 0
   ·have e1 : zm a b = cP b := by unfold zm; rw [if_neg (by simp [h])]
    have h2 : cP b ≠ 0 := fun h2 => h0 (by rw [e1, h2])
    unfold lk; rw [if_neg (by simp [h]), if_pos h2, e1]
   ·have e1 : zm a b = cP a := by unfold zm; rw [if_pos h]
    unfold lk; rw [if_pos h, e1]
  rw [hop]
  have h0' : (zm a b != 0) = true := by simpa using h0
  simp [-getElem?_pos, List.getElem?_cons_zero, List.getElem?_cons_succ, kI, rn, q0, q1, q2, s2, r2, g1, h0', h0, aq, bE, ai, az]
  exact ⟨_, bW (by rfl), _, rfl, mK, rfl⟩
end
open Go Ab Go.Lib
theorem N9 : ∀ {l l' : List Int}, ri l -> ri l' -> (∀ x, x ∈ l ↔ x ∈ l') -> l = l'
 | [], [], _, _, _ => rfl
 | [], y :: r, _, _, h => absurd ((h y).2 (List.mem_cons_self ..)) (by simp)
 | x :: r, [], _, _, h => absurd ((h x).1 (List.mem_cons_self ..)) (by simp)
 | x :: r, y :: q, h1, h2, h => by
  have a1 := List.pairwise_cons.1 h1
  have a2 := List.pairwise_cons.1 h2
  have e : x = y := by
   rcases List.mem_cons.1 ((h x).1 (List.mem_cons_self ..)) with e | e
   ·exact e
   ·rcases List.mem_cons.1 ((h y).2 (List.mem_cons_self ..)) with e' | e'
    ·exact e'.symm
    ·have := a1.1 y e'; have := a2.1 x e; omega
  subst e
  rw [N9 a1.2 a2.2 fun z => ?_]
  constructor
  ·intro hz
   rcases List.mem_cons.1 ((h z).1 (List.mem_cons_of_mem _ hz)) with e | e
   ·have := a1.1 z hz; omega
   ·exact e
  ·intro hz
   rcases List.mem_cons.1 ((h z).2 (List.mem_cons_of_mem _ hz)) with e | e
   ·have := a2.1 z hz; omega
   ·exact e
theorem C8 {x y : Int} : ∀ {L : List Int}, y = x \/ y ∈ L -> y ∈ nE L x
 | [], h => by rcases h with h | h; simp [nE, h]; cases h
 | z :: r, h => by
  simp only [nE]
  split
  ·rcases h with h | h
   ·exact List.mem_cons_of_mem _ (C8 (.inl h))
   ·rcases List.mem_cons.1 h with h | h
    ·rw [h]; exact List.mem_cons_self ..
    ·exact List.mem_cons_of_mem _ (C8 (.inr h))
  ·split
   ·rename_i e
    rcases h with h | h
    ·rw [h, <- e]; exact List.mem_cons_self ..
    ·exact h
   ·rcases h with h | h
    ·rw [h]; exact List.mem_cons_self ..
    ·exact List.mem_cons_of_mem _ h
theorem IU {y : Int} : ∀ {l L : List Int}, y ∈ l \/ y ∈ L -> y ∈ l.foldl nE L
 | [], L, h => by rcases h with h | h; cases h; exact h
 | x :: l, L, h => by
  refine IU (l := l) ?_
  rcases h with h | h
  ·rcases List.mem_cons.1 h with h | h
   ·exact .inr (C8 (.inl h))
   ·exact .inl h
  ·exact .inr (C8 (.inr h))
theorem Jb {y : Int} {l : List Int} : y ∈ bg l ↔ y ∈ l :=
 ⟨fun h => (wB h).elim id fun h => (nomatch h), fun h => IU (.inl h)⟩
theorem oC {zs : List Int} {j : Nat} (h : j < zs.length) : zs.toArray[j]! = zs[j] := by
 rw [getElem!_pos _ j (by simpa using h)]; simp
theorem Li {zs : List Int} (h : zs.Pairwise (· <= ·)) : ri (compact zs) := by
 unfold compact compactUpTo ri
 rw [List.pairwise_map]
 refine (List.Pairwise.filter _ List.pairwise_lt_range).imp_of_mem ?_
 intro i j hi hj hij
 have hj1 := List.mem_filter.1 hj
 have hjl := List.mem_range.1 hj1.1
 have hk := hj1.2
 simp only [keeps, decide_eq_true_eq] at hk
 have g := List.pairwise_iff_getElem.1 h
 rw [oC (by omega), oC hjl] at *
 rw [oC (show j - 1 < zs.length by omega)] at hk
 have h1 : zs[i] <= zs[j - 1] := by
  by_cases e : i = j - 1
  ·subst e; omega
  ·exact g i (j - 1) (by omega) (by omega) (by omega)
 have h2 : zs[j - 1] <= zs[j] := g (j - 1) j (by omega) hjl (by omega)
 rcases hk with hk | hk
 ·omega
 ·omega
theorem L9 {zs : List Int} {x : Int} : x ∈ compact zs ↔ x ∈ zs := by
 unfold compact compactUpTo
 simp only [List.mem_map, List.mem_filter, List.mem_range]
 constructor
 ·rintro ⟨j, ⟨hj, _⟩, rfl⟩
  rw [oC hj]; exact List.getElem_mem hj
 ·intro h
  obtain ⟨i, hi, rfl⟩ := List.getElem_of_mem h
  have key : ∀ i (hi : i < zs.length), ∃ a, (a < zs.length /\ keeps zs.toArray a = true) /\ zs.toArray[a]! = zs[i] := by
   intro i
   induction i with
   | zero => intro hi; exact ⟨0, ⟨hi, by simp [keeps]⟩, oC hi⟩
   | succ i ih =>
    intro hi
    cases hk : keeps zs.toArray (i + 1) with
    | true => exact ⟨i + 1, ⟨hi, hk⟩, oC hi⟩
    | false =>
     obtain ⟨a, h1, h2⟩ := ih (by omega)
     refine ⟨a, h1, h2.trans ?_⟩
     simp only [keeps, decide_eq_false_iff_not, not_or, ne_eq, Decidable.not_not, Nat.add_sub_cancel] at hk
     rw [oC hi, oC (show i < zs.length by omega)] at hk
     exact hk.2.symm
  exact key i hi
theorem JK (zs : List Int) : compact (zs.mergeSort fun x y => decide (x <= y)) = bg zs := by
 have hs : (zs.mergeSort fun x y => decide (x <= y)).Pairwise (· <= ·) := by
  have := List.pairwise_mergeSort (le := fun x y : Int => decide (x <= y)) (fun a b c h1 h2 => by simp only [decide_eq_true_eq] at *; omega) (fun a b => by simp only [Bool.or_eq_true, decide_eq_true_eq]; omega) zs
  exact this.imp fun h => of_decide_eq_true h
 refine N9 (Li hs) (Hj zs) fun x => ?_
 rw [L9, Jb, List.mem_mergeSort]
theorem Rq {zs : List Int} (h : ri zs) : (zs.mergeSort fun x y => decide (x <= y)) = zs := by
 refine List.mergeSort_of_pairwise (h.imp fun h => ?_)
 exact decide_eq_true (by omega)
open Go Ab Go.Proofs Go.RowKit Go.Shelf Go.Sort
def It (B : Nat) (zs : List Int) (v : Value) (w : World) : Prop :=
 (zs = [] /\ v = .slice none 0 0) \/ ∃ blk off cap, v = .slice (some ⟨blk, off, none⟩) zs.length cap /\ zs ≠ [] /\ B <= blk /\ blk < w.heap.size /\ zs.length <= cap /\ Holds (Value.int .i64) w blk off zs.toArray
theorem IA {B : Nat} {w0 w : World} (h : Below B w0 w) {blk off n : Nat} {d : Array Int} {os : Array Obj} (hb : B <= blk) (hs : B <= w.heap.size) : Below B w0 (grow (putRow (Value.int .i64) (Sort.ahead w n) blk off d) os) := by
 have hz : (putRow (Value.int .i64) (Sort.ahead w n) blk off d).heap.size = w.heap.size := by simp [putRow, mapBlock, Sort.ahead]
 refine h.trans ⟨rfl, rfl, rfl, ?_, fun k hk => ?_⟩
 ·show w.heap.size <= ((putRow (Value.int .i64) (Sort.ahead w n) blk off d).heap ++ os).size
  rw [Array.size_append, hz]; omega
 ·rw [heap_grow_old _ _ (by rw [hz]; omega)]
  have : blk ≠ k := by omega
  simp [putRow, mapBlock, Sort.ahead, Array.getElem?_modify, this]
set_option maxRecDepth 1000000 in
theorem Qm (v : Value) (w : World) (zs : List Int) (hz : zs.length <= 1073741824)
  (hcat : ∀ w1 : World, w1.heap = w.heap -> w1.os = w.os -> w1.output = w.output -> w1.tape = w.tape -> Calls Tryz.prog 131 #[v] w1 fun e w2 => ∃ u, e = .returned u /\ Below w.heap.size w w2 /\ It w.heap.size zs u w2) :
  Calls Tryz.prog 104 #[v] w fun e w' => ∃ u, e = .returned u /\ Below w.heap.size w w' /\ It w.heap.size (bg zs) u w' := by
 go_enter Tryz.func104, Tryz.ntmps104
 go_wp2_with fail
 refine (hcat _ rfl rfl rfl rfl).mono ?_
 rintro e w1 ⟨u, rfl, hbel, hf⟩
 rcases hf with ⟨rfl, rfl⟩ | ⟨blk, off, cap, rfl, hne, hB, hlt, hcap, hH⟩
 ·go_wp2_with fail
  refine (Any.slices_Sort_int_none C9 none 0 w1).mono ?_
  rintro e w2 ⟨rfl, rfl⟩
  go_wp2_with fail
  refine (Any.slices_Compact_int_empty EC none 0 w2).mono ?_
  rintro e w3 ⟨rfl, rfl⟩
  go_wp2
  go_ret
  exact ⟨_, rfl, hbel, .inl ⟨rfl, rfl⟩⟩
 ·have hl2 : (zs.mergeSort fun x y => decide (x <= y)).length = zs.length := List.length_mergeSort zs
  have X : Aside (Below w.heap.size w w1 /\ Holds (Value.int .i64) w1 blk off zs.toArray) := ⟨hbel, hH⟩
  have hS := calls_of_every_depth fun D => AnyS.slices_Sort_int_alone C9 D blk off cap zs w1 hH hlt (by omega)
  clear hbel hH
  go_wp2_with fail
  refine hS.mono ?_
  rintro e w2 ⟨rfl, n, os, rfl⟩
  have hH2 : Holds (Value.int .i64) (grow (putRow (Value.int .i64) (Sort.ahead w1 n) blk off (zs.mergeSort fun x y => decide (x <= y)).toArray) os) blk off (zs.mergeSort fun x y => decide (x <= y)).toArray :=
   holds_grow _ _ os blk off _ (by simpa [putRow, mapBlock, Sort.ahead] using hlt) (holds_putRow _ _ blk off _ _ (holds_ahead _ w1 n blk off _ X.out.2) (by simp))
  have hC := Any.slices_Compact_int EC blk off cap (zs.mergeSort fun x y => decide (x <= y)) _ hH2 (by omega) (by omega)
  rw [hl2, JK] at hC
  have HH : Aside (Holds (Value.int .i64) (grow (putRow (Value.int .i64) (Sort.ahead w1 n) blk off (zs.mergeSort fun x y => decide (x <= y)).toArray) os) blk off (zs.mergeSort fun x y => decide (x <= y)).toArray) := hH2
  clear hH2
  have hle : (bg zs).length <= zs.length := qI zs
  have hbl : w.heap.size <= w1.heap.size := X.out.1.size
  go_wp2_with fail
  refine hC.mono ?_
  rintro e w3 ⟨rfl, q, rfl⟩
  go_wp2
  go_ret
  have hb2 := IA (blk := blk) (off := off) (n := n) (d := (zs.mergeSort fun x y => decide (x <= y)).toArray) (os := os) X.out.1 hB hbl
  have hs2 := hb2.size
  have hne2 : bg zs ≠ [] := by
   intro h
   cases zs with
   | nil => exact hne rfl
   | cons x r => exact absurd ((Jb (l := x :: r)).2 (List.mem_cons_self ..)) (by rw [h]; simp)
  have hb3 := IA (blk := blk) (off := off) (n := q) (d := (bg zs ++ List.replicate (zs.length - (bg zs).length) 0).toArray) (os := #[]) hb2 hB hs2
  rw [grow_empty] at hb3
  have hH3 := holds_putRow (Value.int .i64) _ blk off _ (bg zs ++ List.replicate (zs.length - (bg zs).length) 0).toArray (holds_ahead _ _ q blk off _ HH.out) (by simp [hl2]; omega)
  refine ⟨_, rfl, hb3, .inr ⟨blk, off, cap, rfl, hne2, hB, ?_, by omega, fun j hj => ?_⟩⟩
  ·have : (putRow (Value.int .i64) (Sort.ahead (grow (putRow (Value.int .i64) (Sort.ahead w1 n) blk off (zs.mergeSort fun x y => decide (x <= y)).toArray) os) q) blk off (bg zs ++ List.replicate (zs.length - (bg zs).length) 0).toArray).heap.size = (w1.heap ++ os).size := by simp [putRow, mapBlock, Sort.ahead, grow]
   rw [this, Array.size_append]; omega
  ·have hj' : j < (bg zs).length := by simpa using hj
   obtain ⟨h1, h2⟩ := hH3 j (by simp; omega)
   refine ⟨h1.trans ?_, h2⟩
   rw [oC hj', oC (by simp; omega), List.getElem_append_left hj']
end Ab.C
