/- Parts of the proof, made small by program. No condition but what is told. -/
import Derived.Test.YtbncnjpohgbgjaaGreatAb12
import Derived.Test.YtbncnjpohgbgjaaGreatAb11
import Derived.Test.YtbncnjpohgbgjaaGreatAb08
import Derived.Test.YtbncnjpohgbgjaaGreatAb09
set_option linter.all false
set_option maxHeartbeats 8000000
namespace Ab.C
open Go Ab Go.RowKit
set_option maxRecDepth 10000
section
variable {E : ak} (hE : E.fns = af.fn ag)
include hE
theorem IS {x e : Ed} {cs : List AV} {y : AV} (hx : jq x (.agg cs)) {s : St} {i : Nat} (hi : s.bl[i]? = some (.cells cs)) (h : jq e y) (hb : Be x) {k : Nat} (hk : 4000001 <= k) :
  au E k none (.fn bX [] [.ptr i 0]) [y] s = some (.ret (.bool (pt x e)), false, s) := by
 obtain ⟨k, rfl⟩ : ∃ j, k = j + 1 := ⟨k - 1, by omega⟩
 have g1 := Sk hE hx h hb k (by omega)
 obtain ⟨kv, o', zs, hcs⟩ := hx.open
 cases hcs
 obtain ⟨kv', o2, zs', rfl⟩ := h.open
 refine vY (sD hE) rfl fun bl tk hb' => ?_
 have hb' : bl = s.bl /\ tk = s.tk := by
  rcases hb' with h | h
  ·exact h
  ·simp [AV.plainL, AV.plain] at h
 obtain ⟨rfl, rfl⟩ := hb'
 have hi' : ∀ r, (s.bl ++ r)[i]? = s.bl[i]? := fun r => List.getElem?_append_left (List.getElem?_eq_some_iff.1 hi).1
 simp [-getElem?_pos, List.getElem?_cons_zero, List.getElem?_cons_succ, ik, lP, ac, hi', hi, g1]
theorem Ue {a : Au} {of oe : gu} {ys : List AV} (ht : Tr a) {n : Nat} (hn : a.n = n) {k : Nat} (hk : 6000000 <= k) {bl : List AB} {tk : List Nat} {p : List AB} (A R : Nat -> Bool) (hp2 : p[2]? = some (.cells (eQ A))) (hp4 : p[4]? = some (.cells (eQ R))) {Q : AH} {e : bF} {s : St}
  (hs : s = Js bl tk p [.cells [.int .i64 0, .int .i64 0, .sl .nil 1 [], .sl .nil 8 []], .cells (nk n (fun i => R i && A i) 0)])
  (he : e.kill [0, 4, 8, 10, 12, 13, 22, 37, 46, 64, 65, 66, 67, 72, 84, 85, 86, 87, 100, 121, 132] = [(1, .ptr bl.length 0), (2, .ptr (bl.length + 1) 0), (3, .ptr (bl.length + 2) 0), (5, .ptr (bl.length + 4) 0), (6, .ptr (bl.length + p.length) 0), (7, .msl (bl.length + (p.length + 1)) 0 1 n), (35, .int .i64 n), (36, .int .i64 0)])
  (hQ : Q (.exit 0) [(1, .ptr bl.length 0), (2, .ptr (bl.length + 1) 0), (3, .ptr (bl.length + 2) 0), (5, .ptr (bl.length + 4) 0), (6, .ptr (bl.length + p.length) 0), (7, .msl (bl.length + (p.length + 1)) 0 1 n), (35, .int .i64 n), (36, .int .i64 n), (37, .bool false)] (Js bl tk p [.cells [.int .i64 (aX (fun i => R i && A i) n), .int .i64 0, .sl .nil 1 [], .sl .nil 8 []], .cells (nk n (fun i => R i && A i) n)])) :
  wp E (au E k) k false (.loop [0, 4, 8, 10, 12, 13, 22, 37, 46, 64, 65, 66, 67, 72, 84, 85, 86, 87, 100, 121, 132] cz) Q e s := by
 subst hs
 obtain ⟨⟨hn1, hn2⟩, _, _, _, hb, hw⟩ := ht
 have q3 := zG bl p hp2
 have qr := zG bl p hp4
 have qg := yu bl p
 have sg := Ck bl p
 have qh := Ez bl p
 have sh := Jp bl p
 have hrg : bl.length <= bl.length + p.length := by omega
 have hrh : bl.length <= bl.length + (p.length + 1) := by omega
 have t7 := Ho
 obtain ⟨P, hP⟩ : ∃ P, P = fun i => R i && A i := ⟨_, rfl⟩
 rw [<- hP] at hQ ⊢
 have hPi : ∀ i, P i = (R i && A i) := fun i => by rw [hP]
 refine aA n (fun i e' st => e' = [(1, .ptr bl.length 0), (2, .ptr (bl.length + 1) 0), (3, .ptr (bl.length + 2) 0), (5, .ptr (bl.length + 4) 0), (6, .ptr (bl.length + p.length) 0), (7, .msl (bl.length + (p.length + 1)) 0 1 n), (35, .int .i64 n), (36, .int .i64 i)] /\ st = Js bl tk p [.cells [.int .i64 (aX P i), .int .i64 0, .sl .nil 1 [], .sl .nil 8 []], .cells (nk n P i)]) (by omega) ⟨he, rfl⟩ ?_ ?_
 ·rintro i e' st hi ⟨rfl, rfl⟩
  have e1 : et (.int .i64 i) n = some i := av hi
  have g1 := nf hE R (n := i) (by omega) k (by omega)
  have g2 := nf hE A (n := i) (by omega) k (by omega)
  have l1 : i + 1 <= n := by omega
  have hwr : IntKind.wrap .i64 ((i : Int) + 1) = i + 1 := ar (by omega) (by omega)
  have hcl := AO P i
  have hwr2 : IntKind.wrap .i64 ((aX P i : Int) + 1) = aX P i + 1 := ar (by omega) (by omega)
  cases c1 : R i with
  | false =>
   have hPf : P i = false := by rw [hPi, c1]; rfl
   have hns := AS (n := n) P (i := i) (by simp [cS, hPf])
   have hcs : aX P (i + 1) = aX P i := by simp [aX, hPf]
   rw [c1] at g1
   simp [-getElem?_pos, List.getElem?_cons_zero, List.getElem?_cons_succ, cz, hi, e1, hwr, q3, qr, qg, sg, qh, sh, hrg, hrh, t7, aH, g1, hns, hcs]
  | true =>
  rw [c1] at g1
  cases c2 : A i with
  | false =>
   have hPf : P i = false := by rw [hPi, c1, c2]; rfl
   have hns := AS (n := n) P (i := i) (by simp [cS, hPf])
   have hcs : aX P (i + 1) = aX P i := by simp [aX, hPf]
   rw [c2] at g2
   simp [-getElem?_pos, List.getElem?_cons_zero, List.getElem?_cons_succ, cz, hi, e1, hwr, q3, qr, qg, sg, qh, sh, hrg, hrh, t7, aH, g1, g2, hns, hcs]
  | true =>
   have hPt : P i = true := by rw [hPi, c1, c2]; rfl
   have hns := Mf (n := n) P hi
   have hnm : cS P i = aX P i := by simp [cS, hPt]
   rw [hnm] at hns
   have hcs : aX P (i + 1) = aX P i + 1 := by simp [aX, hPt]
   rw [c2] at g2
   simp [-getElem?_pos, List.getElem?_cons_zero, List.getElem?_cons_succ, cz, hi, e1, hwr, hwr2, q3, qr, qg, sg, qh, sh, hrg, hrh, t7, aH, g1, g2, hns, hcs, l1]
 ·rintro e' st ⟨rfl, rfl⟩
  simp [-getElem?_pos, List.getElem?_cons_zero, List.getElem?_cons_succ, cz]
  exact hQ
theorem Ud {a : Au} (ht : Tr a) {n : Nat} (hn : a.n = n) {k : Nat} (hk : 6000000 <= k) {bl : List AB} {tk : List Nat} {p : List AB} (R P : Nat -> Bool) (hp4 : p[4]? = some (.cells (eQ R))) {of : gu} {N S : Int} {Q : AH} {e : bF} {s : St}
  (hs : s = Js bl tk p [.cells [.int .i64 N, .int .i64 S, .sl .nil 1 [], .sl .nil 8 []], .cells (nk n P n)])
  (he : e.kill [0, 4, 8, 10, 12, 13, 22, 35, 36, 37, 46, 67, 72, 84, 85, 86, 87, 100, 121, 132] = [(1, .ptr bl.length 0), (2, .ptr (bl.length + 1) 0), (3, .ptr (bl.length + 2) 0), (5, .ptr (bl.length + 4) 0), (6, .ptr (bl.length + p.length) 0), (7, .msl (bl.length + (p.length + 1)) 0 1 n), (64, .sl of 1 (ao a.fin)), (65, .int .i64 a.fin.length), (66, .int .i64 0)])
  (hQ : Q (.exit 2) [(1, .ptr bl.length 0), (2, .ptr (bl.length + 1) 0), (3, .ptr (bl.length + 2) 0), (5, .ptr (bl.length + 4) 0), (6, .ptr (bl.length + p.length) 0), (7, .msl (bl.length + (p.length + 1)) 0 1 n), (64, .sl of 1 (ao a.fin)), (65, .int .i64 a.fin.length), (66, .int .i64 a.fin.length), (67, .bool false)] { bl := bl ++ (p ++ [.cells [.int .i64 N, .int .i64 S, gb 1 tk.length (ao (k9 R P a.fin)), .sl .nil 8 []], .cells (nk n P n)]), tk := cU tk (ao (k9 R P a.fin)), ro := bl.length, rt := tk.length }) :
  wp E (au E k) k false (.loop [0, 4, 8, 10, 12, 13, 22, 35, 36, 37, 46, 67, 72, 84, 85, 86, 87, 100, 121, 132] dx) Q e s := by
 subst hs
 obtain ⟨⟨hn1, hn2⟩, _, hfl, hff, hb, hw⟩ := ht
 have qr := zG bl p hp4
 have qg := yu bl p
 have sg := Ck bl p
 have qh := Ez bl p
 have sh := Jp bl p
 have hrg : bl.length <= bl.length + p.length := by omega
 have hrh : bl.length <= bl.length + (p.length + 1) := by omega
 have t7 := Ho
 refine aA a.fin.length (fun i e' st => ∃ L, L = ao (k9 R P (a.fin.take i)) /\ e' = [(1, .ptr bl.length 0), (2, .ptr (bl.length + 1) 0), (3, .ptr (bl.length + 2) 0), (5, .ptr (bl.length + 4) 0), (6, .ptr (bl.length + p.length) 0), (7, .msl (bl.length + (p.length + 1)) 0 1 n), (64, .sl of 1 (ao a.fin)), (65, .int .i64 a.fin.length), (66, .int .i64 i)] /\ st = { bl := bl ++ (p ++ [.cells [.int .i64 N, .int .i64 S, gb 1 tk.length L, .sl .nil 8 []], .cells (nk n P n)]), tk := cU tk L, ro := bl.length, rt := tk.length }) (by omega) ⟨[], rfl, he, by simp⟩ ?_ ?_
 ·rintro i e' st hi ⟨L, hL, rfl, rfl⟩
  obtain ⟨t, ht⟩ : ∃ t, a.fin[i]? = some t := ⟨_, List.getElem?_eq_getElem (by omega)⟩
  have hx := ep ht
  obtain ⟨hi1, hx1⟩ := List.getElem?_eq_some_iff.1 hx
  obtain ⟨h0, h1⟩ := hff t (List.mem_of_getElem? ht)
  obtain ⟨m, rfl⟩ : ∃ m : Nat, t = m := ⟨t.toNat, by omega⟩
  have hmn : m < n := by omega
  have e1 : et (.int .i64 i) a.fin.length = some i := av hi
  have e2 : et (.int .i64 m) n = some m := av hmn
  have g1 := nf hE R (n := m) (by omega) k (by omega)
  have b2 := oy (n := n) P hmn
  obtain ⟨_, b2'⟩ := List.getElem?_eq_some_iff.1 b2
  have hwr : IntKind.wrap .i64 ((i : Int) + 1) = i + 1 := ar (by omega) (by omega)
  have hLl : L.length <= i := by
   have h1 := xI R P (a.fin.take i)
   rw [hL]; simp [ao] at h1 ⊢; omega
  have hf : k9 R P (a.fin.take (i + 1)) = k9 R P (a.fin.take i) ++ (if R m then [(cS P m : Int)] else []) := by
   unfold k9
   rw [List.take_succ, ht, List.filter_append, List.map_append]
   congr 1
   cases h : R m <;> simp [h]
  cases c1 : R m with
  | false =>
   rw [c1] at hf g1
   simp only [Bool.false_eq_true, if_false, List.append_nil] at hf
   have hf' : ao (k9 R P (a.fin.take (i + 1))) = L := by rw [hf, hL]
   simp [-getElem?_pos, List.getElem?_cons_zero, List.getElem?_cons_succ, dx, hi, e1, e2, hx, hx1, hwr, qr, qg, sg, qh, sh, hrg, hrh, t7, aH, g1, hf']
  | true =>
   rw [c1] at hf g1
   simp only [if_true] at hf
   have ha := pQ (bl := bl ++ (p ++ [.cells [.int .i64 N, .int .i64 S, gb 1 tk.length L, .sl .nil 8 []], .cells (nk n P n)])) (tk := tk) (ro := bl.length) (rt := tk.length) (z := 1) (ys := L) (y := .int .i64 (cS P m)) (o := .full) (by unfold aO; omega) (Nat.le_refl _)
   rw [show (AV.int IntKind.i64 (cS P m)).untok = .int .i64 (cS P m) by simp [AV.untok]] at ha
   have hf' : ao (k9 R P (a.fin.take (i + 1))) = L ++ [.int .i64 (cS P m)] := by rw [hf, hL]; simp [ao]
   obtain ⟨o2, ho2, _⟩ := qG 1 tk.length (L ++ [.int .i64 (cS P m)])
   rw [ho2] at ha
   simp [-getElem?_pos, List.getElem?_cons_zero, List.getElem?_cons_succ, dx, hi, e1, e2, hx, hx1, hwr, qr, qg, sg, qh, sh, hrg, hrh, t7, aH, g1, b2, b2', aq, bE, ai, az, ha, hf', ho2]
 ·rintro e' st ⟨L, hL, rfl, rfl⟩
  rw [List.take_of_length_le (by omega)] at hL
  subst hL
  simp [-getElem?_pos, List.getElem?_cons_zero, List.getElem?_cons_succ, dx]
  exact hQ
end
open Go Ab Go.RowKit
set_option maxRecDepth 10000
theorem UE (bl p g : List AB) (c d f f2 : AB) : (bl ++ (p ++ c :: d :: (g ++ [f, f2])))[bl.length + (p.length + (g.length + 1 + 1))]? = some f := by
 rw [aa]; simp
theorem UF (bl p g : List AB) (c d f f2 : AB) : (bl ++ (p ++ c :: d :: (g ++ [f, f2])))[bl.length + (p.length + (g.length + 1 + 1 + 1))]? = some f2 := by
 rw [aa]
 rw [List.getElem?_append_right (by omega), show p.length + (g.length + 1 + 1 + 1) - p.length = (g.length + 1) + 1 + 1 by omega]
 simp
theorem US (bl p g : List AB) (c d f f2 f' : AB) : (bl ++ (p ++ c :: d :: (g ++ [f, f2]))).set (bl.length + (p.length + (g.length + 1 + 1 + 1))) f' = bl ++ (p ++ c :: d :: (g ++ [f, f'])) := by
 rw [aj, List.set_append_right _ _ (by omega), show p.length + (g.length + 1 + 1 + 1) - p.length = (g.length + 1) + 1 + 1 by omega]
 simp
section
variable {E : ak} (hE : E.fns = af.fn ag)
include hE
theorem Uc {a : Au} {oe : gu} {ys : List AV} (hes : cL jq a.eds ys) (hyu : AV.untokL ys = ys) (ht : Tr a) {n : Nat} (hn : a.n = n) {k : Nat} (hk : 6000000 <= k) {bl : List AB} {tk : List Nat} {rt : Nat} (hrt : rt <= tk.length) {p : List AB} (A R P : Nat -> Bool) (hp2 : p[2]? = some (.cells (eQ A))) (hp4 : p[4]? = some (.cells (eQ R))) {N S F : AV} {Q : AH} {e : bF} {s : St}
  (hs : s = { bl := bl ++ (p ++ [.cells [N, S, F, .sl .nil 8 []], .cells (nk n P n)]), tk, ro := bl.length, rt })
  (he : e.kill [0, 1, 4, 8, 10, 12, 13, 22, 35, 36, 37, 46, 64, 65, 66, 67, 72, 87, 100, 121, 132] = [(2, .ptr (bl.length + 1) 0), (3, .ptr (bl.length + 2) 0), (5, .ptr (bl.length + 4) 0), (6, .ptr (bl.length + p.length) 0), (7, .msl (bl.length + (p.length + 1)) 0 1 n), (84, .sl oe 8 ys), (85, .int .i64 ys.length), (86, .int .i64 0)])
  (hQ : ∀ g zs, cL jq (ln A R P a.eds) zs -> AV.untokL zs = zs -> Q (.exit 4) [(2, .ptr (bl.length + 1) 0), (3, .ptr (bl.length + 2) 0), (5, .ptr (bl.length + 4) 0), (6, .ptr (bl.length + p.length) 0), (7, .msl (bl.length + (p.length + 1)) 0 1 n), (84, .sl oe 8 ys), (85, .int .i64 ys.length), (86, .int .i64 ys.length), (87, .bool false)] { bl := bl ++ (p ++ .cells [N, S, F, gb 8 tk.length zs] :: .cells (nk n P n) :: g), tk := cU tk zs, ro := bl.length, rt }) :
  wp E (au E k) k false (.loop [0, 1, 4, 8, 10, 12, 13, 22, 35, 36, 37, 46, 64, 65, 66, 67, 72, 87, 100, 121, 132] bB) Q e s := by
 subst hs
 have hly := hes.length
 have ht0 := ht
 obtain ⟨⟨hn1, hn2⟩, _, _, _, hb, hw⟩ := ht
 have qa := zG bl p hp2
 have qr := zG bl p hp4
 have qg := yu bl p
 have sg := Ck bl p
 have qh := Ez bl p
 have hrg : bl.length <= bl.length + p.length := by omega
 have t7 := Ho
 refine aA ys.length (fun i e' st => ∃ g zs, (cL jq (ln A R P (a.eds.take i)) zs /\ AV.untokL zs = zs) /\ e' = [(2, .ptr (bl.length + 1) 0), (3, .ptr (bl.length + 2) 0), (5, .ptr (bl.length + 4) 0), (6, .ptr (bl.length + p.length) 0), (7, .msl (bl.length + (p.length + 1)) 0 1 n), (84, .sl oe 8 ys), (85, .int .i64 ys.length), (86, .int .i64 i)] /\ st = { bl := bl ++ (p ++ .cells [N, S, F, gb 8 tk.length zs] :: .cells (nk n P n) :: g), tk := cU tk zs, ro := bl.length, rt }) (by omega) ⟨[], [], ⟨by simp [ln, cL], rfl⟩, he, rfl⟩ ?_ ?_
 ·rintro i e' st hi ⟨g, zs, ⟨hz, hzu⟩, rfl, rfl⟩
  obtain ⟨t, ht⟩ : ∃ t, a.eds[i]? = some t := ⟨_, List.getElem?_eq_getElem (by omega)⟩
  obtain ⟨x, hx, hrx⟩ := hes.get ht
  obtain ⟨hfr, hto, hin, hin0, hBe⟩ := hw t (List.mem_of_getElem? ht)
  have gg := JU hE A hrx (ht0.low t (List.mem_of_getElem? ht)) k (by omega)
  obtain ⟨m1, hm1⟩ : ∃ m : Nat, t.fr = m := ⟨t.fr.toNat, by omega⟩
  obtain ⟨m2, hm2⟩ : ∃ m : Nat, t.to = m := ⟨t.to.toNat, by omega⟩
  have gh := nf hE R (n := m1) (by omega) k (by omega)
  obtain ⟨kv, ev, rfl, hkv, hev⟩ := hrx
  obtain ⟨r, hcp, hrs, hru⟩ := Om hE _ (Nat.lt_succ_self _) (by have := hBe.2.1; unfold aO; omega) hev
  have hcp := hcp k (by have := hBe.2.1; omega)
  obtain ⟨orr, kr, hre, _⟩ := hrs.len
  subst hre
  obtain ⟨o', zs', rfl, _⟩ := hev.len
  have hpc : jO (.fn ke [] []) [.sl o' 3 zs'] = true := by
   have h1 := Hr hyu hx
   simp only [AV.untok, AV.untokL, AV.agg.injEq, List.cons.injEq] at h1
   exact NH (by have := hev.data; simpa [AV.data] using this) h1.2.2.2.2.2.2.1
  obtain ⟨hi1, hx1⟩ := List.getElem?_eq_some_iff.1 hx
  have e1 : et (.int .i64 i) ys.length = some i := av hi
  have e2 : et (.int .i64 m1) n = some m1 := av (by omega)
  have e3 : et (.int .i64 m2) n = some m2 := av (by omega)
  have t1 := oy (n := n) P (j := m1) (by omega)
  have t2 := oy (n := n) P (j := m2) (by omega)
  have hwr : IntKind.wrap .i64 ((i : Int) + 1) = i + 1 := ar (by omega) (by omega)
  have q4 := S3 bl p g
  have s4 := Ta bl p g
  have q5 := UE bl p g
  have q6 := UF bl p g
  have s6 := US bl p g
  have hro : bl.length <= bl.length + (p.length + (g.length + 1 + 1)) := by omega
  have hro6 : bl.length <= bl.length + (p.length + (g.length + 1 + 1 + 1)) := by omega
  obtain ⟨L, hL⟩ : ∃ L, L = ln A R P (a.eds.take i) := ⟨_, rfl⟩
  have hs : ln A R P (a.eds.take (i + 1)) = pu A R P L t := by rw [hL]; exact Hq ht
  have hLl : L.length <= i := by have := xH A R P (a.eds.take i); rw [<- hL] at this; rw [List.length_take] at this; omega
  rw [<- hL] at hz
  rw [hs]
  have hzl := hz.length
  unfold pu
  obtain ⟨o8, ho8, _⟩ := qG 8 tk.length zs
  rw [hm1, hm2] at gg
  cases c0 : ja A t with
  | false =>
   rw [c0] at gg
   simp [-getElem?_pos, List.getElem?_cons_zero, List.getElem?_cons_succ, bB, hi, e1, hx, hx1, hwr, qa, qr, qg, q4, s4, hro, t7, aH, hm1, hm2, gg]
   exact ⟨_, zs, ⟨hz, hzu⟩, ⟨rfl, rfl⟩, rfl⟩
  | true =>
  rw [c0] at gg
  cases c1 : R m1 with
  | false =>
   rw [c1] at gh
   simp [-getElem?_pos, List.getElem?_cons_zero, List.getElem?_cons_succ, bB, hi, e1, e2, hx, hx1, hwr, qa, qr, qg, q4, s4, hro, t7, aH, hm1, hm2, gg, gh, c1]
   exact ⟨_, zs, ⟨hz, hzu⟩, ⟨rfl, rfl⟩, rfl⟩
  | true =>
   rw [c1] at gh
   rw [hm1]
   simp only [Int.toNat_natCast, c0, c1, Bool.and_self, if_true]
   by_cases k5 : t.kind = 5
   ·obtain ⟨m3, hm3⟩ : ∃ m : Nat, t.inner = m := ⟨t.inner.toNat, by have := hin k5; omega⟩
    have hm3n : m3 < n := by have := hin k5; omega
    have e4 : et (.int .i64 m3) n = some m3 := av hm3n
    have t3 := oy (n := n) P (j := m3) hm3n
    have k5' : (t.kind == 5) = true := by simp [k5]
    rw [hm3] at gg
    simp [-getElem?_pos, List.getElem?_cons_zero, List.getElem?_cons_succ, bB, hi, e1, e2, e3, e4, hx, hx1, hwr, qa, qr, qg, qh, q4, s4, q5, q6, s6, hro, hro6, t7, aH, hm1, hm2, hm3, gg, gh, t1, t2, t3, hcp, hpc, Ep hE, k5']
    have hX : jq (iz P t) (.agg [.int .i64 (cS P m1), .int .i64 (cS P m2), .int .i64 t.kind, .int .i64 t.sym.kind, .str t.sym.text, kv, .sl orr 3 kr, .int .i64 (cS P m3)]) := ⟨kv, _, by simp [iz, hm1, hm2, hm3, k5], hkv, hrs⟩
    have hY : jq (iz P t) (.agg [.int .i64 (cS P m1), .int .i64 (cS P m2), .int .i64 t.kind, .int .i64 t.sym.kind, .str t.sym.text, kv.untok, .sl orr 3 kr, .int .i64 (cS P m3)]) := ⟨kv.untok, _, by simp [iz, hm1, hm2, hm3, k5], hkv.untok, hrs⟩
    obtain ⟨Y, hYe⟩ : ∃ Y, Y = AV.agg [.int .i64 (cS P m1), .int .i64 (cS P m2), .int .i64 t.kind, .int .i64 t.sym.kind, .str t.sym.text, kv.untok, .sl orr 3 kr, .int .i64 (cS P m3)] := ⟨_, rfl⟩
    rw [<- hYe] at hY
    have hYu : Y.untok = Y := by rw [hYe]; simp [AV.untok, AV.untokL, hru]
    have hBX : Be (iz P t) := hBe
    have hc := fun f1 : AB => nC hE hz (by omega) (o := o8) (pf := .fn bX [] [.ptr (bl.length + (p.length + (g.length + 1 + 1 + 1))) 0]) (q := pt (iz P t)) (K := 4000001) (s := { bl := bl ++ (p ++ .cells [N, S, F, .sl o8 8 zs] :: .cells (nk n P n) :: (g ++ [f1, .cells [.int .i64 (cS P m1), .int .i64 (cS P m2), .int .i64 t.kind, .int .i64 t.sym.kind, .str t.sym.text, kv, .sl orr 3 kr, .int .i64 (cS P m3)]])), tk := cU tk zs, ro := bl.length, rt }) (fun k' hk' s' hs' e x he hx => IS hE hX (by
     rcases hs' with h | h
     ·rw [h]; exact q6 _ _ _ _
     ·simp [AV.plain, AV.plainL] at h) hx hBX hk') (k := k) (by omega)
    rw [ho8]
    cases c5 : L.any (pt (iz P t)) with
    | true =>
     have had : addE L (iz P t) = L := by unfold addE; rw [if_pos c5]
     rw [had]
     rw [c5] at hc
     simp [-getElem?_pos, hc, hwr]
     exact ⟨_, zs, ⟨hz, hzu⟩, ⟨ho8.symm, rfl⟩, rfl⟩
    | false =>
     have had : addE L (iz P t) = L ++ [iz P t] := by unfold addE; rw [c5]; rfl
     rw [had]
     rw [c5] at hc
     obtain ⟨o9, ho9, _⟩ := qG 8 tk.length (zs ++ [Y])
     have ha := fun b => pQ (bl := b) (tk := tk) (ro := bl.length) (rt := rt) (z := 8) (ys := zs) (y := Y) (o := .full) (by unfold aO; omega) hrt
     rw [hYu, ho8, ho9, hYe] at ha
     simp [-getElem?_pos, List.getElem?_cons_zero, List.getElem?_cons_succ, hwr, qg, sg, hrg, q6, hc, aq, bE, ai, az, hru, ha]
     exact ⟨_, zs ++ [Y], ⟨wc hz hY, by rw [untokL_append, hzu]; simp [AV.untokL, hYu]⟩, ⟨by rw [ho9, hYe], rfl⟩, by rw [hYe]⟩
   ·have k5' : (t.kind == 5) = false := by simpa using k5
    simp [-getElem?_pos, List.getElem?_cons_zero, List.getElem?_cons_succ, bB, hi, e1, e2, e3, hx, hx1, hwr, qa, qr, qg, qh, q4, s4, q5, q6, s6, hro, hro6, t7, aH, hm1, hm2, gg, gh, t1, t2, hcp, hpc, Ep hE, k5']
    have hX : jq (iz P t) (.agg [.int .i64 (cS P m1), .int .i64 (cS P m2), .int .i64 t.kind, .int .i64 t.sym.kind, .str t.sym.text, kv, .sl orr 3 kr, .int .i64 (0)]) := ⟨kv, _, by simp [iz, hm1, hm2, k5], hkv, hrs⟩
    have hY : jq (iz P t) (.agg [.int .i64 (cS P m1), .int .i64 (cS P m2), .int .i64 t.kind, .int .i64 t.sym.kind, .str t.sym.text, kv.untok, .sl orr 3 kr, .int .i64 (0)]) := ⟨kv.untok, _, by simp [iz, hm1, hm2, k5], hkv.untok, hrs⟩
    obtain ⟨Y, hYe⟩ : ∃ Y, Y = AV.agg [.int .i64 (cS P m1), .int .i64 (cS P m2), .int .i64 t.kind, .int .i64 t.sym.kind, .str t.sym.text, kv.untok, .sl orr 3 kr, .int .i64 (0)] := ⟨_, rfl⟩
    rw [<- hYe] at hY
    have hYu : Y.untok = Y := by rw [hYe]; simp [AV.untok, AV.untokL, hru]
    have hBX : Be (iz P t) := hBe
    have hc := fun f1 : AB => nC hE hz (by omega) (o := o8) (pf := .fn bX [] [.ptr (bl.length + (p.length + (g.length + 1 + 1 + 1))) 0]) (q := pt (iz P t)) (K := 4000001) (s := { bl := bl ++ (p ++ .cells [N, S, F, .sl o8 8 zs] :: .cells (nk n P n) :: (g ++ [f1, .cells [.int .i64 (cS P m1), .int .i64 (cS P m2), .int .i64 t.kind, .int .i64 t.sym.kind, .str t.sym.text, kv, .sl orr 3 kr, .int .i64 (0)]])), tk := cU tk zs, ro := bl.length, rt }) (fun k' hk' s' hs' e x he hx => IS hE hX (by
     rcases hs' with h | h
     ·rw [h]; exact q6 _ _ _ _
     ·simp [AV.plain, AV.plainL] at h) hx hBX hk') (k := k) (by omega)
    rw [ho8]
    cases c5 : L.any (pt (iz P t)) with
    | true =>
     have had : addE L (iz P t) = L := by unfold addE; rw [if_pos c5]
     rw [had]
     rw [c5] at hc
     simp [-getElem?_pos, hc, hwr]
     exact ⟨_, zs, ⟨hz, hzu⟩, ⟨ho8.symm, rfl⟩, rfl⟩
    | false =>
     have had : addE L (iz P t) = L ++ [iz P t] := by unfold addE; rw [c5]; rfl
     rw [had]
     rw [c5] at hc
     obtain ⟨o9, ho9, _⟩ := qG 8 tk.length (zs ++ [Y])
     have ha := fun b => pQ (bl := b) (tk := tk) (ro := bl.length) (rt := rt) (z := 8) (ys := zs) (y := Y) (o := .full) (by unfold aO; omega) hrt
     rw [hYu, ho8, ho9, hYe] at ha
     simp [-getElem?_pos, List.getElem?_cons_zero, List.getElem?_cons_succ, hwr, qg, sg, hrg, q6, hc, aq, bE, ai, az, hru, ha]
     exact ⟨_, zs ++ [Y], ⟨wc hz hY, by rw [untokL_append, hzu]; simp [AV.untokL, hYu]⟩, ⟨by rw [ho9, hYe], rfl⟩, by rw [hYe]⟩
 ·rintro e' st ⟨g, zs, ⟨hz, hzu⟩, rfl, rfl⟩
  rw [List.take_of_length_le (by omega)] at hz
  simp [-getElem?_pos, List.getElem?_cons_zero, List.getElem?_cons_succ, bB]
  exact hQ g zs hz hzu
end
open Go Ab Go.RowKit
set_option maxRecDepth 10000
def Ur (x : AV) : Prop := ∀ c0 c1 c2 oe ys, x = .agg [c0, c1, c2, .sl oe 8 ys] -> AV.untokL ys = ys
section
variable {E : ak} (hE : E.fns = af.fn ag)
include hE
theorem Sm {a : Au} {x : AV} (ha : tU a x) (hu : Ur x) (ht : Tr a) {k : Nat} (hk : 6000000 <= k) (s : St) :
  ∃ r, (tU (lZ a) r /\ r.untok = r) /\ au E (k + 1) none (.fn fc [] []) [x] s = some (.ret r, false, s) := by
 have ha0 := ha
 obtain ⟨of, oe, ys, rfl, hes, _⟩ := ha
 have hyu := hu _ _ _ _ _ rfl
 have ht0 := ht
 obtain ⟨⟨hn1, hn2⟩, ⟨hs1, hs2⟩, hfl, hff, hb, hw⟩ := ht
 obtain ⟨n, hn⟩ : ∃ n : Nat, a.n = n := ⟨a.n.toNat, by omega⟩
 obtain ⟨m0, hm0⟩ : ∃ n : Nat, a.start = n := ⟨a.start.toNat, by omega⟩
 have hm0n : m0 < n := by omega
 have em0 : et (.int .i64 m0) n = some m0 := av hm0n
 have hly := hes.length
 have hmo : aO = 1073741824 := rfl
 have hmn : n <= aO := by omega
 have hm0' : a.start.toNat = m0 := by omega
 refine fK (uq hE) rfl (fun bl tk => ?_) s
 have hfin := Pt hE ha0 (fun f hf => by have := hff f hf; omega) hfl k (by omega)
 obtain ⟨m448, mlt, meq⟩ := tF (ji a.eds) (oi a.fin)
 have hg1 := Oq hE (pf := .fn dg [] [.ptr bl.length 0]) (by simp [AV.plain, AV.plainL]) (f := eK a.eds) (K := 1048590) (s := { bl := bl ++ [.cells (nw a of oe ys), .cells [.int .i64 0, .int .i64 0, .sl .nil 1 [], .sl .nil 8 []]], tk, ro := bl.length, rt := tk.length }) (oi a.fin) (fun k hk r tk ro rt S => QR hE ha0 rfl (by simp [nw, ac]) ht0.low hb S hk) mlt meq (k := k) (by omega)
 rw [show s9 (eK a.eds) (E5 (eK a.eds) (ji a.eds) (oi a.fin)) (oi a.fin) = aE a from rfl] at hg1
 have hh := nf hE (aE a) (n := m0) (by omega) k (by omega)
 have q0 : ∀ (c : AB) (r : List AB), (bl ++ c :: r)[bl.length]? = some c := fun c r => by rw [ac]; rfl
 have q1 : ∀ (c d : AB) (r : List AB), (bl ++ c :: d :: r)[bl.length + 1]? = some d := fun c d r => by rw [aa]; rfl
 have s1 : ∀ (c d f : AB) (r : List AB), (bl ++ c :: d :: r).set (bl.length + 1) f = bl ++ c :: f :: r := fun c d f r => by rw [aj]; rfl
 have q2 : ∀ (c d e : AB) (r : List AB), (bl ++ c :: d :: e :: r)[bl.length + 2]? = some e := fun c d e r => by rw [aa]; rfl
 have s2 : ∀ (c d e f : AB) (r : List AB), (bl ++ c :: d :: e :: r).set (bl.length + 2) f = bl ++ c :: d :: f :: r := fun c d e f r => by rw [aj]; rfl
 have r1 : bl.length <= bl.length + 1 := by omega
 have r2 : bl.length <= bl.length + 2 := by omega
 have t7 := Ho
 simp only [nw] at hg1
 rw [hm0] at hg1 hfin
 cases c0 : aE a m0 with
 | false =>
  rw [c0] at hh
  have hT : lZ a = { n := 1, start := 0, fin := [], eds := [] } := by unfold lZ; rw [hm0', c0]; rfl
  simp [-getElem?_pos, List.getElem?_cons_zero, List.getElem?_cons_succ, eS, i7, q0, q1, q2, s1, s2, r1, r2, hfin, hg1, t7, aH, hm0, hh, aq, bE, ai, az]
  exact ⟨_, bW (by rfl), by rw [hT]; exact ⟨.nil, .nil, [], rfl, rfl, fun _ => rfl, fun _ => rfl⟩, rfl⟩
 | true =>
  rw [c0] at hh
  have s3 : ∀ (c d e f f' : AB) (r : List AB), (bl ++ c :: d :: e :: f :: r).set (bl.length + 3) f' = bl ++ c :: d :: e :: f' :: r := fun c d e f f' r => by rw [aj]; rfl
  have q3 : ∀ (c d e f : AB) (r : List AB), (bl ++ c :: d :: e :: f :: r)[bl.length + 3]? = some f := fun c d e f r => by rw [aa]; rfl
  have q4 : ∀ (c d e f g : AB) (r : List AB), (bl ++ c :: d :: e :: f :: g :: r)[bl.length + 4]? = some g := fun c d e f g r => by rw [aa]; rfl
  have s4 : ∀ (c d e f g f' : AB) (r : List AB), (bl ++ c :: d :: e :: f :: g :: r).set (bl.length + 4) f' = bl ++ c :: d :: e :: f :: f' :: r := fun c d e f g f' r => by rw [aj]; rfl
  have q5 : ∀ (c d e f g h : AB) (r : List AB), (bl ++ c :: d :: e :: f :: g :: h :: r)[bl.length + 5]? = some h := fun c d e f g h r => by rw [aa]; rfl
  have s5 : ∀ (c d e f g h f' : AB) (r : List AB), (bl ++ c :: d :: e :: f :: g :: h :: r).set (bl.length + 5) f' = bl ++ c :: d :: e :: f :: g :: f' :: r := fun c d e f g h f' r => by rw [aj]; rfl
  have r4 : bl.length <= bl.length + 4 := by omega
  have r5 : bl.length <= bl.length + 5 := by omega
  have hpt := JW hE (fun _ => false) (n := m0) (by omega) (s := { bl := bl ++ [.cells [.int .i64 a.n, .int .i64 m0, .sl of 1 (ao a.fin), .sl oe 8 ys], .cells [.int .i64 0, .int .i64 0, .sl .nil 1 [], .sl .nil 8 []], .cells (eQ (aE a)), .cells [.int .u64 0, .int .u64 0, .int .u64 0, .int .u64 0, .int .u64 0, .int .u64 0, .int .u64 0]], tk, ro := bl.length, rt := tk.length }) (i := bl.length + 3) (by rw [ON, aa]; rfl) (Nat.le_add_right _ _) (k := k) (by omega)
  rw [show tx (fun _ => false) m0 = Af a.start.toNat by rw [hm0']; rfl] at hpt
  simp only [St.setb, s3] at hpt
  obtain ⟨m448', mlt', meq'⟩ := tF (iu (aE a) a.eds) (Af a.start.toNat)
  have hg2 := Oq hE (pf := .fn dh [] [.ptr bl.length 0, .ptr (bl.length + 2) 0]) (by simp [AV.plain, AV.plainL]) (f := eq (aE a) a.eds) (K := 1048590) (s := { bl := bl ++ [.cells (nw a of oe ys), .cells [.int .i64 0, .int .i64 0, .sl .nil 1 [], .sl .nil 8 []], .cells (eQ (aE a)), .cells (eQ (Af a.start.toNat))], tk, ro := bl.length, rt := tk.length }) (Af a.start.toNat) (fun k hk r tk ro rt S => QS hE ha0 rfl (by simp [nw, ac]) (by simp only [List.append_assoc, List.cons_append, List.nil_append]; exact q2 _ _ _ _) ht0.low hb S hk) mlt' meq' (k := k) (by omega)
  rw [show s9 (eq (aE a) a.eds) (E5 (eq (aE a) a.eds) (iu (aE a) a.eds) (Af a.start.toNat)) (Af a.start.toNat) = bq a from rfl] at hg2
  simp only [nw] at hg2
  rw [hm0'] at hpt hg2
  rw [hm0, hn] at hg2
  rw [hn] at hpt hg1 hfin
  simp [-getElem?_pos, List.getElem?_cons_zero, List.getElem?_cons_succ, eS, i7, q0, q1, q2, q3, q4, q5, s1, s2, s4, s5, r1, r2, r4, r5, hfin, hg1, t7, aH, hm0, hh, hpt, hg2, aq, bE, ai, az, hn, hmn]
  obtain ⟨p, hp⟩ : ∃ p, p = [AB.cells [.int .i64 n, .int .i64 m0, .sl of 1 (ao a.fin), .sl oe 8 ys], AB.cells [.int .i64 0, .int .i64 0, .sl .nil 1 [], .sl .nil 8 []], .cells (eQ (aE a)), .cells (eQ (Af m0)), .cells (eQ (bq a))] := ⟨_, rfl⟩
  have hz0 := OE n (fun i => bq a i && aE a i)
  refine Ue hE (of := of) (oe := oe) (ys := ys) ht0 hn hk (p := p) (aE a) (bq a) (by rw [hp]; rfl) (by rw [hp]; rfl) (by rw [hp, hz0]; rfl) (by rw [hp]; rfl) ?_
  have hp0 : p[0]? = some (AB.cells [.int .i64 n, .int .i64 m0, .sl of 1 (ao a.fin), .sl oe 8 ys]) := by rw [hp]; rfl
  have hp1 : p[1]? = some (AB.cells [.int .i64 0, .int .i64 0, .sl .nil 1 [], .sl .nil 8 []]) := by rw [hp]; rfl
  have hp2 : p[2]? = some (.cells (eQ (aE a))) := by rw [hp]; rfl
  have hp4 : p[4]? = some (.cells (eQ (bq a))) := by rw [hp]; rfl
  clear hp q0 q1 q2 q3 q4 q5 s1 s2 s3 s4 s5
  have q0 : ∀ r, (bl ++ (p ++ r))[bl.length]? = some (AB.cells [.int .i64 n, .int .i64 m0, .sl of 1 (ao a.fin), .sl oe 8 ys]) := C0 bl p hp0
  have q1 := zG bl p hp1
  have qg := yu bl p
  have sg := Ck bl p
  have qh := Ez bl p
  have hrg : bl.length <= bl.length + p.length := by omega
  have b2 := oy (n := n) (aY a) hm0n
  rw [show (fun i => bq a i && aE a i) = aY a from rfl]
  simp [-getElem?_pos, List.getElem?_cons_zero, List.getElem?_cons_succ, q0, qg, sg, qh, hrg, hn, hm0, em0, b2]
  refine Ud hE ht0 hn hk (p := p) (bq a) (aY a) hp4 (of := of) rfl rfl ?_
  simp [-getElem?_pos, List.getElem?_cons_zero, List.getElem?_cons_succ, q0]
  refine Uc hE hes hyu ht0 hn hk (FB _ _) (p := p) (aE a) (bq a) (aY a) hp2 hp4 (oe := oe) rfl rfl fun g zs hz hzu => ?_
  obtain ⟨FL, hFL⟩ : ∃ FL, FL = k9 (bq a) (aY a) a.fin := ⟨_, rfl⟩
  rw [<- hFL]
  obtain ⟨TT, hTT⟩ : ∃ TT, TT = (cU tk (ao FL)).length := ⟨_, rfl⟩
  rw [<- hTT]
  obtain ⟨TK, hTK⟩ : ∃ TK, TK = cU (cU tk (ao FL)) zs := ⟨_, rfl⟩
  rw [<- hTK]
  have h4 : 1 < p.length := (List.getElem?_eq_some_iff.1 hp1).1
  have q3 : ∀ (f : AB) (r : List AB), (bl ++ (p ++ r).set 1 f)[bl.length + 1]? = some f := fun f r => by rw [aa, List.getElem?_set_self (by simp; omega)]
  have hT : lZ a = { n := aX (aY a) n, start := cS (aY a) m0, fin := FL, eds := ln (aE a) (bq a) (aY a) a.eds } := by unfold lZ; rw [hm0', c0, if_pos rfl, hFL, hn]; rfl
  simp [-getElem?_pos, List.getElem?_cons_zero, List.getElem?_cons_succ, q1, q3, qg, r1]
  refine ⟨_, bW (by simp [DY, cJ, eW hz]), ?_⟩
  rw [hT]
  simp only [AV.untok, AV.untokL, Ci]
  obtain ⟨o1, h1, h1n⟩ := lG 1 (ao FL)
  obtain ⟨o2, h2, h2n⟩ := lG 8 zs
  rw [h1, h2]
  refine ⟨⟨o1, o2, zs, rfl, hz, fun h => ?_, h2n⟩, ?_⟩
  ·have := h1n h; simpa [ao] using this
  ·rw [<- h1, <- h2]; simp [AV.untok, AV.untokL]
end
open Go Ab Go.RowKit
set_option maxRecDepth 10000
def MH (l : List Int) (n : Int) : Bool := l.any fun f => f == n
section
variable {E : ak} (hE : E.fns = af.fn ag)
include hE
theorem JS {l : List Int} {o : gu} {n : Int} (hl : l.length <= 1048576) {k : Nat} (hk : 1048578 <= k) (s : St) :
  ∃ r, (∃ m, r = .int .i64 m /\ decide (0 <= m) = MH l n) /\ au E (k + 1) none (.fn fH [] []) [.sl o 1 (ao l), .int .i64 n] s = some (.ret r, false, s) := by
 refine fK (uT hE) rfl (fun bl tk => ?_) s
 simp [jG, nM]
 refine aA l.length (fun i e' st => MH (l.take i) n = false /\ e' = [(0, .sl o 1 (ao l)), (1, .int .i64 n), (7, .int .i64 l.length), (8, .int .i64 i)] /\ st = { bl, tk, ro := bl.length, rt := tk.length }) (by omega) ⟨by simp [MH], rfl, rfl⟩ ?_ ?_
 ·rintro i e' st hi ⟨hq, rfl, rfl⟩
  obtain ⟨t, ht⟩ : ∃ t, l[i]? = some t := ⟨_, List.getElem?_eq_getElem (by omega)⟩
  have hx := ep ht
  obtain ⟨hi1, hx1⟩ := List.getElem?_eq_some_iff.1 hx
  have e1 : et (.int .i64 i) l.length = some i := av hi
  have hwr : IntKind.wrap .i64 ((i : Int) + 1) = i + 1 := ar (by omega) (by omega)
  have hq2 : MH (l.take (i + 1)) n = (t == n) := by
   unfold MH at hq ⊢
   rw [List.take_succ, ht]; simp only [Option.toList_some, List.any_append, hq, List.any_cons, List.any_nil, Bool.or_false, Bool.false_or]
  by_cases s1 : t = n
  ·have s1' : (n == t) = true := by simp [s1]
   have ha : MH l n = true := List.any_eq_true.2 ⟨t, List.mem_of_getElem? ht, by simpa using s1⟩
   simp [fb, hi, e1, hx, hx1, hwr, s1']
   exact ⟨_, rfl, i, rfl, by rw [ha]; simp⟩
  ·have s1' : (n == t) = false := by simp; exact fun h => s1 h.symm
   have s2 : (t == n) = false := by simpa using s1
   rw [s2] at hq2
   simp [fb, hi, e1, hx, hx1, hwr, s1']
   simpa using hq2
 ·rintro e' st ⟨hq, rfl, rfl⟩
  rw [List.take_of_length_le (Nat.le_refl _)] at hq
  simp [fb]
  exact ⟨_, rfl, -1, rfl, by rw [hq]; rfl⟩
theorem E6 {l : List Int} {o : gu} {n : Int} (hl : l.length <= 1048576) : bG 1048581 E (.fn eu [] []) [.sl o 1 (ao l), .int .i64 n] (.bool (MH l n)) := by
 refine bG.byW (sE hE) rfl rfl (K := 1048580) fun k hk bl tk => ?_
 obtain ⟨k, rfl⟩ : ∃ j, k = j + 1 := ⟨k - 1, by omega⟩
 obtain ⟨r, ⟨m, rfl, hm⟩, hc⟩ := JS hE (o := o) (n := n) hl (k := k) (by omega) { bl, tk, ro := bl.length, rt := tk.length }
 simp [il, lQ, hc, hm]
theorem JX {a : Au} {x : AV} (ha : tU a x) (hb : a.fin.length <= 1048576) (n : Int) : bG 1048580 E (.fn jC [] []) [x, .int .i64 n] (.bool (MH a.fin n)) := by
 obtain ⟨of, oe, ys, rfl, _⟩ := ha
 refine bG.byW (yL hE) rfl rfl (K := 1048579) fun k hk bl tk => ?_
 have q0 : ∀ (c : AB) (r : List AB), (bl ++ c :: r)[bl.length]? = some c := fun c r => by rw [ac]; rfl
 obtain ⟨R, hR⟩ : ∃ R, R = MH a.fin n := ⟨_, rfl⟩
 rw [<- hR]
 simp [mj, qZ]
 refine aA a.fin.length (fun i e' st => R = MH (a.fin.drop i) n /\ e' = [(1, .int .i64 n), (2, .ptr bl.length 0), (5, .int .i64 i)] /\ st = { bl := bl ++ [.cells [.int .i64 a.n, .int .i64 a.start, .sl of 1 (ao a.fin), .sl oe 8 ys]], tk, ro := bl.length, rt := tk.length }) (by omega) ⟨by simpa using hR, rfl, rfl⟩ ?_ ?_
 ·rintro i e' st hi ⟨hq, rfl, rfl⟩
  obtain ⟨t, ht⟩ : ∃ t, a.fin[i]? = some t := ⟨_, List.getElem?_eq_getElem (by omega)⟩
  have hx := ep ht
  obtain ⟨hi1, hx1⟩ := List.getElem?_eq_some_iff.1 hx
  unfold MH at hq
  rw [FM ht] at hq
  have e1 : et (.int .i64 i) a.fin.length = some i := av hi
  have hwr : IntKind.wrap .i64 ((i : Int) + 1) = i + 1 := ar (by omega) (by omega)
  cases s1 : (t == n) with
  | true =>
   rw [s1] at hq
   simp only [Bool.true_or] at hq
   subst hq
   simp [iG, hi, e1, hx, hx1, hwr, q0, s1]
  | false =>
   rw [s1] at hq
   simp only [Bool.false_or] at hq
   simp [iG, hi, e1, hx, hx1, hwr, q0, s1]
   simpa [MH] using hq
 ·rintro e' st ⟨hq, rfl, rfl⟩
  rw [List.drop_of_length_le (Nat.le_refl _)] at hq
  have hq' : R = false := hq
  subst hq'
  simp [iG, q0]
end
open Go Ab Go.RowKit
set_option maxRecDepth 10000
def Eh (k : Int) : Ed := { fr := 0, to := 0, kind := k, sym := .mk 0 [] [], exc := [], inner := 0 }
def FK : Au := { n := 1, start := 0, fin := [0], eds := [Eh 2, Eh 3, Eh 4, Eh 5] }
def pa (k : Int) : AV := .agg [.int .i64 0, .int .i64 0, .int .i64 k, .int .i64 0, .str [], .sl .nil 3 [], .sl .nil 3 [], .int .i64 0]
def JA : AV := .agg [.int .i64 1, .int .i64 0, .sl .full 1 [.int .i64 0], .sl .full 8 [pa 2, pa 3, pa 4, pa 5]]
theorem OW (k : Int) : jq (Eh k) (pa k) := ⟨_, _, rfl, Sl.nil, Sl.nil⟩
theorem Ut : tU FK JA := by
 refine ⟨.full, .full, [pa 2, pa 3, pa 4, pa 5], rfl, ?_, (fun h => by cases h), (fun h => by cases h)⟩
 simp only [FK, cL]
 exact ⟨_, _, rfl, OW 2, _, _, rfl, OW 3, _, _, rfl, OW 4, _, _, rfl, OW 5, rfl⟩
section
variable {E : ak} (hE : E.fns = af.fn ag)
include hE
theorem TD : bG 1 E (.fn rE [] []) [] JA := by
 refine bG.byW (H9 hE) rfl rfl (K := 0) fun k hk bl tk => ?_
 simp [vB, By, JA, pa, aq, bE, ai, az, ac, aB]
theorem Nk : bG 1 E (.fn kA [] []) [] JA := by
 refine bG.byW (A7 hE) rfl rfl (K := 0) fun k hk bl tk => ?_
 simp [nR, sU, JA, pa, aq, bE, ai, az, ac, aB]
def zm (a b : Au) : Int := if cP a ≠ 0 then cP a else cP b
theorem Sg {a b : Au} {x y : AV} (ha : tU a x) (hb : tU b y) (hA : Ba a) (hB : Ba b) : bG 12000001 E (.fn qu [] []) [x, y] (.int .i64 (zm a b)) := by
 have g1 := Gi hE ha hA
 have g2 := Gi hE hb hB
 obtain ⟨of, oe, ys, rfl, _⟩ := ha
 obtain ⟨of', oe', ys', rfl, _⟩ := hb
 refine bG.byW (Gy hE) rfl rfl (K := 12000000) fun k hk bl tk => ?_
 have g1 := g1 k (by omega)
 have g2 := g2 k (by omega)
 have q0 : ∀ (c : AB) (r : List AB), (bl ++ c :: r)[bl.length]? = some c := fun c r => by rw [ac]; rfl
 have q1 : ∀ (c d : AB) (r : List AB), (bl ++ c :: d :: r)[bl.length + 1]? = some d := fun c d r => by rw [aa]; rfl
 unfold zm
 by_cases h : cP a = 0
 ·simp [pK, t6, q0, q1, g1, g2, h]
 ·have h' : (cP a != 0) = true := by simpa using h
  simp [pK, t6, q0, q1, g1, g2, h, h']
end
open Go Ab Go.RowKit
set_option maxRecDepth 10000
def mN (by' inn : Int) (e : Ed) : Ed := { e with fr := e.fr + by', to := e.to + by', inner := if e.kind = 5 then e.inner + inn else e.inner }
def uw (l : List Ed) (to' from' : Int) : List Ed := (l.filter fun e => e.fr == from').map fun e => { e with fr := to' }
def nE : List Int -> Int -> List Int
 | [], x => [x]
 | y :: r, x => if y < x then y :: nE r x else if y = x then y :: r else x :: y :: r
def bg (l : List Int) : List Int := l.foldl nE []
def gN : Au := { n := 0, start := 0, fin := [], eds := [] }
def uy (n start : Int) : Ed := { fr := n, to := n + 1, kind := 5, sym := .mk 0 [] [], exc := [], inner := start }
def Dz (a : Au) : Au := { n := a.n + 2, start := a.n, fin := a.fin ++ [a.n + 1], eds := a.eds ++ [uy a.n a.start] }
def nz (a b : Au) : List Int := a.fin.map (fun f => f + a.n) ++ b.fin.map (fun f => f + 2 * a.n) ++ (if MH b.fin b.start then a.fin else [])
def ud (a b : Au) : List Ed := b.eds.map (mN (2 * a.n) (2 * a.n))
def wX (a b : Au) : List Ed := a.eds.map (mN 0 a.n) ++ a.eds.map (mN a.n a.n) ++ ud a b ++ a.fin.flatMap (fun f => uw (ud a b) f (b.start + 2 * a.n))
def BZ (a b : Au) : Au := { n := 2 * a.n + b.n, start := a.start, fin := bg (nz a b), eds := wX a b }
noncomputable def kq (a : Au) : Au × Int := if decide (400 < a.n) || decide (4000 < (a.eds.length : Int)) then (gN, 7) else (lZ a, 0)
def vz : AV := .agg [.int .i64 0, .int .i64 0, .sl .nil 1 [], .sl .nil 8 []]
theorem mK : tU gN vz := ⟨.nil, .nil, [], rfl, rfl, fun _ => rfl, fun _ => rfl⟩
def FI (p : Au × Int) (r : AV) : Prop := ∃ x, r = .tup [x, .int .i64 p.2] /\ tU p.1 x /\ x.untok = x
theorem Cn {x : AV} (h : x.untok = x) (e : Int) : (AV.tup [x, .int .i64 e]).untok = .tup [x, .int .i64 e] := by simp [AV.untok, AV.untokL, h]
section
variable {E : ak} (hE : E.fns = af.fn ag)
include hE
theorem Fy {a : Au} {x : AV} (ha : tU a x) (ht : a.n <= 400 -> a.eds.length <= 4000 -> Tr a) {k : Nat} (hk : 6000002 <= k) (s : St) :
  ∃ r, FI (kq a) r /\ au E k none (.fn eI [] []) [x] s = some (.ret r, false, s) := by
 obtain ⟨k, rfl⟩ : ∃ j, k = j + 2 := ⟨k - 2, by omega⟩
 have ha0 := ha
 obtain ⟨of, oe, ys, rfl, hes, _⟩ := ha
 have hly := hes.length
 refine fK (zR hE) rfl (fun bl tk => ?_) s
 have q0 : ∀ (c : AB) (r : List AB), (bl ++ c :: r)[bl.length]? = some c := fun c r => by rw [ac]; rfl
 have q1 : ∀ (c d : AB) (r : List AB), (bl ++ c :: d :: r)[bl.length + 1]? = some d := fun c d r => by rw [aa]; rfl
 have s1 : ∀ (c d f : AB) (r : List AB), (bl ++ c :: d :: r).set (bl.length + 1) f = bl ++ c :: f :: r := fun c d f r => by rw [aj]; rfl
 have r1 : bl.length <= bl.length + 1 := by omega
 have z : ∃ r, FI (gN, 7) r /\ r = .tup [vz, .int .i64 7] := ⟨_, ⟨_, rfl, mK, rfl⟩, rfl⟩
 by_cases h1 : 400 < a.n
 ·have hf : kq a = (gN, 7) := by unfold kq; rw [if_pos (by simp [h1])]
  rw [hf]
  simp [-getElem?_pos, List.getElem?_cons_zero, List.getElem?_cons_succ, gx, jV, q0, q1, s1, r1, h1, aq, bE, ai, az]
  exact ⟨_, bW (by rfl), _, rfl, mK, rfl⟩
 ·by_cases h2 : (4000 : Int) < a.eds.length
  ·have hf : kq a = (gN, 7) := by unfold kq; rw [if_pos (by simp [h2])]
   rw [hf]
   simp [-getElem?_pos, List.getElem?_cons_zero, List.getElem?_cons_succ, gx, jV, q0, q1, s1, r1, h1, hly, h2, aq, bE, ai, az]
   exact ⟨_, bW (by rfl), _, rfl, mK, rfl⟩
  ·have hf : kq a = (lZ a, 0) := by unfold kq; rw [if_neg (by simp [h1, h2])]
   rw [hf]
   obtain ⟨r, ⟨hr, hru⟩, hc⟩ := LG hE ha0 (ht (by omega) (by omega)) (k := k) (by omega) { bl := bl ++ [.cells [.int .i64 a.n, .int .i64 a.start, .sl of 1 (ao a.fin), .sl oe 8 ys], .cells [.int .i64 0, .int .i64 0, .sl .nil 1 [], .sl .nil 8 []]], tk, ro := bl.length, rt := tk.length }
   have hr0 := hr
   obtain ⟨of', oe', ys', rfl, hes', _⟩ := hr
   simp [-getElem?_pos, List.getElem?_cons_zero, List.getElem?_cons_succ, gx, jV, q0, q1, s1, r1, h1, hly, h2, hc]
   refine ⟨_, bW (by simp [cJ, eW hes']), ?_⟩
   exact ⟨_, Cn hru _, hr0, hru⟩
end
open Go Ab Go.RowKit
set_option maxRecDepth 10000
def oR (by' inn : Int) : AV -> AV
 | .agg [.int _ f, .int _ t, .int _ k, a, b, c, d, .int _ i] => .agg [.int .i64 (f + by'), .int .i64 (t + by'), .int .i64 k, a, b, c.untok, d.untok, .int .i64 (if k = 5 then i + inn else i)]
 | x => x
theorem K0 {by' inn : Int} {e : Ed} {x : AV} (h : jq e x) : jq (mN by' inn e) (oR by' inn x) /\ (oR by' inn x).untok = oR by' inn x := by
 obtain ⟨kv, ev, rfl, h1, h2⟩ := h
 exact ⟨⟨_, _, rfl, h1.untok, h2.untok⟩, by simp [oR, AV.untok, AV.untokL]⟩
theorem p7 {by' inn : Int} : ∀ {l : List Ed} {ys : List AV}, cL jq l ys -> cL jq (l.map (mN by' inn)) (ys.map (oR by' inn)) /\ AV.untokL (ys.map (oR by' inn)) = ys.map (oR by' inn)
 | [], _, h => by simp only [cL] at h; subst h; exact ⟨rfl, rfl⟩
 | e :: l, _, h => by
  simp only [cL] at h
  obtain ⟨y, r, rfl, h1, h2⟩ := h
  have h3 := K0 (by' := by') (inn := inn) h1
  have h4 := p7 (by' := by') (inn := inn) h2
  refine ⟨⟨_, _, rfl, h3.1, h4.1⟩, ?_⟩
  simp only [List.map_cons, AV.untokL, h3.2, h4.2]
def UZ (e : Ed) : Prop := (0 <= e.fr /\ e.fr < 1048576) /\ (0 <= e.to /\ e.to < 1048576) /\ (e.kind = 5 -> 0 <= e.inner /\ e.inner < 1048576)
theorem tE {z lo : Nat} {s s' : St} {ys : List AV} (hd : AV.dataL ys = true) (ht : s'.tk = cU s.tk ys) : cD .keep lo s s' (gb z s.tk.length ys) = some (gb z s.tk.length ys, { s with tk := cU s.tk ys }) := by
 by_cases h : ys = []
 ·subst h; simp [cD, gb, cU, AV.data, AV.untok]
 ·simp only [gb, if_neg h, cU] at ht ⊢
  simp [cD, AV.data, hd, ht]
section
variable {E : ak} (hE : E.fns = af.fn ag)
include hE
theorem H2 {l : List Ed} {o : gu} {ys : List AV} (hes : cL jq l ys) (hl : l.length <= 1048576) {by' inn : Int} (hb : 0 <= by' /\ by' <= 1048576) (hi : 0 <= inn /\ inn <= 1048576) (hw : ∀ e ∈ l, UZ e) {k : Nat} (hk : 1048580 <= k) (s : St) :
  au E k none (.fn da [] []) [.sl o 8 ys, .int .i64 by', .int .i64 inn] s = some (.ret (gb 8 s.tk.length (ys.map (oR by' inn))), false, { s with tk := cU s.tk (ys.map (oR by' inn)) }) := by
 obtain ⟨k, rfl⟩ : ∃ j, k = j + 1 := ⟨k - 1, by omega⟩
 have hly := hes.length
 obtain ⟨Z, hZ⟩ : ∃ Z, Z = ys.map (oR by' inn) := ⟨_, rfl⟩
 rw [<- hZ]
 have hZl : Z.length = ys.length := by rw [hZ]; simp
 obtain ⟨v, s', h1, rfl, rfl⟩ := cI (xj hE) (first := []) (caps := []) (args := [.sl o 8 ys, .int .i64 by', .int .i64 inn]) rfl (k := k) (s := s) (Post := fun v s' => v = gb 8 s.tk.length Z /\ s' = { s with tk := cU s.tk Z }) (by
  simp [lw, pV, jk]
  refine aA ys.length (fun i e' st => ∃ g, e' = [(0, .sl o 8 ys), (1, .int .i64 by'), (2, .int .i64 inn), (7, gb 8 s.tk.length (Z.take i)), (8, .int .i64 i)] /\ st = { bl := s.bl ++ g, tk := cU s.tk (Z.take i), ro := s.bl.length, rt := s.tk.length }) (by omega) ⟨[], by simp, by simp⟩ ?_ ?_
  ·rintro i e' st hi' ⟨g, rfl, rfl⟩
   obtain ⟨t, ht⟩ : ∃ t, l[i]? = some t := ⟨_, List.getElem?_eq_getElem (by omega)⟩
   obtain ⟨x, hx, hrx⟩ := hes.get ht
   obtain ⟨m1, m2, m3⟩ := hw t (List.mem_of_getElem? ht)
   have hbu := (K0 (by' := by') (inn := inn) hrx).2
   obtain ⟨kv, ev, rfl, hkv, hev⟩ := hrx
   obtain ⟨hi1, hx1⟩ := List.getElem?_eq_some_iff.1 hx
   have e1 : et (.int .i64 i) ys.length = some i := av hi'
   have hwr : IntKind.wrap .i64 ((i : Int) + 1) = i + 1 := ar (by omega) (by omega)
   have w1 : IntKind.wrap .i64 (t.fr + by') = t.fr + by' := ar (by omega) (by omega)
   have w2 : IntKind.wrap .i64 (t.to + by') = t.to + by' := ar (by omega) (by omega)
   have q2 : ∀ (f : AB), (s.bl ++ (g ++ [f]))[s.bl.length + g.length]? = some f := fun f => by rw [aa]; simp
   have q3 : ∀ (f f' : AB), (s.bl ++ (g ++ [f])).set (s.bl.length + g.length) f' = s.bl ++ (g ++ [f']) := fun f f' => by rw [aj]; simp
   have hro : s.bl.length <= s.bl.length + g.length := by omega
   have hzi : Z[i]? = some (oR by' inn (.agg [.int .i64 t.fr, .int .i64 t.to, .int .i64 t.kind, .int .i64 t.sym.kind, .str t.sym.text, kv, ev, .int .i64 t.inner])) := by rw [hZ]; simp [hx]
   have hs : Z.take (i + 1) = Z.take i ++ [oR by' inn (.agg [.int .i64 t.fr, .int .i64 t.to, .int .i64 t.kind, .int .i64 t.sym.kind, .str t.sym.text, kv, ev, .int .i64 t.inner])] := by rw [List.take_succ, hzi]; rfl
   have ha := fun b => pQ (bl := b) (tk := s.tk) (ro := s.bl.length) (rt := s.tk.length) (z := 8) (ys := Z.take i) (y := oR by' inn (.agg [.int .i64 t.fr, .int .i64 t.to, .int .i64 t.kind, .int .i64 t.sym.kind, .str t.sym.text, kv, ev, .int .i64 t.inner])) (o := .full) (by unfold aO; rw [List.length_take]; omega) (Nat.le_refl _)
   rw [hbu, <- hs] at ha
   obtain ⟨ok, ks, rfl, _⟩ := hkv.len
   obtain ⟨oev, es, rfl, _⟩ := hev.len
   simp only [oR] at ha
   by_cases k5 : t.kind = 5
   ·have k5' : (t.kind == 5) = true := by simp [k5]
    have w3 : IntKind.wrap .i64 (t.inner + inn) = t.inner + inn := ar (by have := m3 k5; omega) (by have := m3 k5; omega)
    rw [if_pos k5] at ha
    simp [-getElem?_pos, List.getElem?_cons_zero, List.getElem?_cons_succ, gY, hi', e1, hx, hx1, hwr, w1, w2, w3, q2, q3, hro, k5', aq, bE, ai, az, ha]
   ·have k5' : (t.kind == 5) = false := by simpa using k5
    rw [if_neg k5] at ha
    simp [-getElem?_pos, List.getElem?_cons_zero, List.getElem?_cons_succ, gY, hi', e1, hx, hx1, hwr, w1, w2, q2, q3, hro, k5', aq, bE, ai, az, ha]
  ·rintro e' st ⟨g, rfl, rfl⟩
   rw [List.take_of_length_le (by omega)]
   have hd : AV.dataL Z = true := by rw [hZ]; exact eW (p7 hes).1
   simp [-getElem?_pos, gY]
   rw [tE hd rfl]
   simp)
 exact h1
theorem LF {l : List Int} {o : gu} {by' : Int} (hl : l.length <= 1048576) (hw : ∀ f ∈ l, 0 <= f /\ f < 1048576) (hb : 0 <= by' /\ by' <= 1048576) {k : Nat} (hk : 1048580 <= k) (s : St) :
  au E k none (.fn eJ [] []) [.sl o 1 (ao l), .int .i64 by'] s = some (.ret (gb 1 s.tk.length (ao (l.map (fun f => f + by')))), false, { s with tk := cU s.tk (ao (l.map (fun f => f + by'))) }) := by
 obtain ⟨k, rfl⟩ : ∃ j, k = j + 1 := ⟨k - 1, by omega⟩
 obtain ⟨L, hL⟩ : ∃ L, L = l.map (fun f => f + by') := ⟨_, rfl⟩
 rw [<- hL]
 have hLl : L.length = l.length := by rw [hL]; simp
 obtain ⟨v, s', h1, rfl, rfl⟩ := cI (zS hE) (first := []) (caps := []) (args := [.sl o 1 (ao l), .int .i64 by']) rfl (k := k) (s := s) (Post := fun v s' => v = gb 1 s.tk.length (ao L) /\ s' = { s with tk := cU s.tk (ao L) }) (by
  simp [mV, rO, jk]
  refine aA l.length (fun i e' st => e' = [(0, .sl o 1 (ao l)), (1, .int .i64 by'), (5, gb 1 s.tk.length (ao (L.take i))), (6, .int .i64 i)] /\ st = { bl := s.bl, tk := cU s.tk (ao (L.take i)), ro := s.bl.length, rt := s.tk.length }) (by omega) ⟨by simp [ao], by simp [ao]⟩ ?_ ?_
  ·rintro i e' st hi ⟨rfl, rfl⟩
   obtain ⟨t, ht⟩ : ∃ t, l[i]? = some t := ⟨_, List.getElem?_eq_getElem (by omega)⟩
   have hx := ep ht
   obtain ⟨hi1, hx1⟩ := List.getElem?_eq_some_iff.1 hx
   have hwt := hw t (List.mem_of_getElem? ht)
   have w1 : IntKind.wrap .i64 (t + by') = t + by' := ar (by omega) (by omega)
   have e1 : et (.int .i64 i) l.length = some i := av hi
   have hwr : IntKind.wrap .i64 ((i : Int) + 1) = i + 1 := ar (by omega) (by omega)
   have hs : ao (L.take (i + 1)) = ao (L.take i) ++ [.int .i64 (t + by')] := by
    have : L[i]? = some (t + by') := by rw [hL]; simp [ht]
    rw [List.take_succ, this]; simp [ao]
   have ha := pQ (bl := s.bl) (tk := s.tk) (ro := s.bl.length) (rt := s.tk.length) (z := 1) (ys := ao (L.take i)) (y := .int .i64 (t + by')) (o := .full) (by simp; unfold aO; omega) (Nat.le_refl _)
   rw [show (AV.int IntKind.i64 (t + by')).untok = .int .i64 (t + by') by simp [AV.untok], <- hs] at ha
   simp [mt, hi, e1, hx, hx1, hwr, w1, aq, bE, ai, az, ha]
  ·rintro e' st ⟨rfl, rfl⟩
   rw [List.take_of_length_le (by omega)]
   simp [mt]
   rw [tE (cJ L).1 rfl]
   simp)
 exact h1
end
open Go Ab Go.RowKit
set_option maxRecDepth 10000
def BH (to' from' : Int) : AV -> Option AV
 | .agg [.int _ f, t, k, a, b, c, d, i] => if f = from' then some (.agg [.int .i64 to', t, k, a, b, c.untok, d.untok, i]) else none
 | _ => none
def cR (to' from' : Int) (ys : List AV) : List AV := ys.filterMap (BH to' from')
theorem DT {to' from' : Int} {e : Ed} {x : AV} (h : jq e x) : (e.fr = from' -> ∃ y, BH to' from' x = some y /\ jq { e with fr := to' } y /\ y.untok = y) /\ (e.fr ≠ from' -> BH to' from' x = none) := by
 obtain ⟨kv, ev, rfl, h1, h2⟩ := h
 refine ⟨fun h => ⟨_, by simp only [BH]; rw [if_pos h], ⟨_, _, rfl, h1.untok, h2.untok⟩, by simp [AV.untok, AV.untokL]⟩, fun h => by simp only [BH]; rw [if_neg h]⟩
theorem xz {to' from' : Int} : ∀ {l : List Ed} {ys : List AV}, cL jq l ys -> cL jq (uw l to' from') (cR to' from' ys) /\ AV.untokL (cR to' from' ys) = cR to' from' ys
 | [], _, h => by simp only [cL] at h; subst h; exact ⟨rfl, rfl⟩
 | e :: l, _, h => by
  simp only [cL] at h
  obtain ⟨y, r, rfl, h1, h2⟩ := h
  obtain ⟨h3, h3'⟩ := DT (to' := to') (from' := from') h1
  have h4 := xz (to' := to') (from' := from') h2
  by_cases hf : e.fr = from'
  ·obtain ⟨z, a1, a2, a3⟩ := h3 hf
   have e1 : uw (e :: l) to' from' = { e with fr := to' } :: uw l to' from' := by simp [uw, hf]
   have e2 : cR to' from' (y :: r) = z :: cR to' from' r := by simp [cR, a1]
   rw [e1, e2]
   exact ⟨⟨_, _, rfl, a2, h4.1⟩, by simp only [AV.untokL, a3, h4.2]⟩
  ·have e1 : uw (e :: l) to' from' = uw l to' from' := by simp [uw, hf]
   have e2 : cR to' from' (y :: r) = cR to' from' r := by simp [cR, h3' hf]
   rw [e1, e2]; exact h4
theorem rD (to' from' : Int) (ys : List AV) : (cR to' from' ys).length <= ys.length := List.length_filterMap_le _ _
theorem EG {to' from' : Int} {ys : List AV} {i : Nat} {x : AV} (h : ys[i]? = some x) : cR to' from' (ys.take (i + 1)) = cR to' from' (ys.take i) ++ (BH to' from' x).toList := by
 unfold cR
 rw [List.take_succ, h, List.filterMap_append]
 congr 1
section
variable {E : ak} (hE : E.fns = af.fn ag)
include hE
theorem LE {l : List Ed} {o : gu} {ys : List AV} (hes : cL jq l ys) (hl : l.length <= 1048576) (to' from' : Int) : bG 1048580 E (.fn gH [] []) [.sl o 8 ys, .int .i64 to', .int .i64 from'] (ti 8 (cR to' from' ys)) := by
 have hly := hes.length
 refine bG.byW (r6 hE) rfl rfl (K := 1048579) fun k hk bl tk => ?_
 simp [jR, rN]
 refine aA ys.length (fun i e' st => ∃ g Z, Z = cR to' from' (ys.take i) /\ e' = [(0, .sl o 8 ys), (1, .int .i64 to'), (2, .int .i64 from'), (7, gb 8 tk.length Z), (8, .int .i64 i)] /\ st = { bl := bl ++ g, tk := cU tk Z, ro := bl.length, rt := tk.length }) (by omega) ⟨[], [], rfl, by simp, by simp⟩ ?_ ?_
 ·rintro i e' st hi' ⟨g, Z, hZ, rfl, rfl⟩
  obtain ⟨t, ht⟩ : ∃ t, l[i]? = some t := ⟨_, List.getElem?_eq_getElem (by omega)⟩
  obtain ⟨x, hx, hrx⟩ := hes.get ht
  obtain ⟨hp, hn⟩ := DT (to' := to') (from' := from') hrx
  have hs := EG (to' := to') (from' := from') hx
  rw [<- hZ] at hs
  have hZl : Z.length <= i := by have := rD to' from' (ys.take i); rw [<- hZ, List.length_take] at this; omega
  obtain ⟨kv, ev, rfl, hkv, hev⟩ := hrx
  obtain ⟨hi1, hx1⟩ := List.getElem?_eq_some_iff.1 hx
  have e1 : et (.int .i64 i) ys.length = some i := av hi'
  have hwr : IntKind.wrap .i64 ((i : Int) + 1) = i + 1 := ar (by omega) (by omega)
  have q2 : ∀ (f : AB), (bl ++ (g ++ [f]))[bl.length + g.length]? = some f := fun f => by rw [aa]; simp
  have q3 : ∀ (f f' : AB), (bl ++ (g ++ [f])).set (bl.length + g.length) f' = bl ++ (g ++ [f']) := fun f f' => by rw [aj]; simp
  have hro : bl.length <= bl.length + g.length := by omega
  obtain ⟨ok, ks, rfl, _⟩ := hkv.len
  obtain ⟨oev, es, rfl, _⟩ := hev.len
  by_cases hf : t.fr = from'
  ·obtain ⟨y, h1, h2, h3⟩ := hp hf
   have hf' : (t.fr == from') = true := by simp [hf]
   rw [h1] at hs
   simp only [Option.toList_some] at hs
   have ha := fun b => pQ (bl := b) (tk := tk) (ro := bl.length) (rt := tk.length) (z := 8) (ys := Z) (y := y) (o := .full) (by unfold aO; omega) (Nat.le_refl _)
   rw [h3, <- hs] at ha
   simp only [BH, if_pos hf, Option.some.injEq] at h1
   subst h1
   simp [-getElem?_pos, List.getElem?_cons_zero, List.getElem?_cons_succ, jt, hi', e1, hx, hx1, hwr, q2, q3, hro, hf', aq, bE, ai, az, ha]
  ·have hf' : (t.fr == from') = false := by simpa using hf
   rw [hn hf] at hs
   simp only [Option.toList_none, List.append_nil] at hs
   simp [-getElem?_pos, List.getElem?_cons_zero, List.getElem?_cons_succ, jt, hi', e1, hx, hx1, hwr, hf', hs]
 ·rintro e' st ⟨g, Z, hZ, rfl, rfl⟩
  rw [List.take_of_length_le (Nat.le_refl _)] at hZ
  subst hZ
  have hd := eW (xz (to' := to') (from' := from') hes).1
  simp [-getElem?_pos, jt, DY, Ci, hd]
end
open Go Ab Go.RowKit
set_option maxRecDepth 10000
def gL (L : List Int) (x : Int) : Nat := (L.takeWhile fun y => decide (y < x)).length
theorem xq (x : Int) : ∀ L : List Int, nE L x = if L[gL L x]? = some x then L else L.take (gL L x) ++ x :: L.drop (gL L x)
 | [] => by simp [nE, gL]
 | y :: r => by
  have ih := xq x r
  by_cases h : y < x
  ·have e : gL (y :: r) x = gL r x + 1 := by simp [gL, h]
   rw [e]
   simp only [nE, if_pos h, List.getElem?_cons_succ, List.take_succ_cons, List.drop_succ_cons, ih]
   split <;> rfl
  ·have e : gL (y :: r) x = 0 := by simp [gL, h]
   rw [e]
   simp only [nE, if_neg h, List.getElem?_cons_zero, List.take_zero, List.drop_zero, List.nil_append]
   by_cases h2 : y = x
   ·rw [if_pos h2, if_pos (by rw [h2])]
   ·rw [if_neg h2, if_neg (by simpa using h2)]
theorem OI (x : Int) (L : List Int) : gL L x <= L.length := (List.takeWhile_prefix _).length_le
theorem OJ (x : Int) : ∀ (L : List Int) (k : Nat), k < gL L x -> ∃ y, L[k]? = some y /\ y < x
 | [], k, h => by simp [gL] at h
 | y :: r, k, h => by
  by_cases hy : y < x
  ·have e : gL (y :: r) x = gL r x + 1 := by simp [gL, hy]
   cases k with
   | zero => exact ⟨y, rfl, hy⟩
   | succ k => exact OJ x r k (by omega)
  ·have e : gL (y :: r) x = 0 := by simp [gL, hy]
   omega
theorem Mi (x : Int) : ∀ (L : List Int) (y : Int), L[gL L x]? = some y -> ¬ y < x
 | [], y, h => by simp at h
 | z :: r, y, h => by
  by_cases hz : z < x
  ·have e : gL (z :: r) x = gL r x + 1 := by simp [gL, hz]
   rw [e, List.getElem?_cons_succ] at h
   exact Mi x r y h
  ·have e : gL (z :: r) x = 0 := by simp [gL, hz]
   rw [e] at h
   simp only [List.getElem?_cons_zero, Option.some.injEq] at h
   rw [<- h]; exact hz
theorem LX (L : List Int) (x : Int) : (nE L x).length <= L.length + 1 := by
 rw [xq]; split
 ·omega
 ·simp; omega
theorem NR {l : List Int} {i : Nat} {t : Int} (h : l[i]? = some t) : bg (l.take (i + 1)) = nE (bg (l.take i)) t := ng h
theorem Jr : ∀ (l L : List Int), (l.foldl nE L).length <= L.length + l.length
 | [], L => by simp
 | x :: l, L => by
  have h1 := Jr l (nE L x)
  have h2 := LX L x
  simp only [List.foldl_cons, List.length_cons]; omega
theorem qI (l : List Int) : (bg l).length <= l.length := by have := Jr l []; simpa [bg] using this
theorem nh (a b : List Int) : ao (a ++ b) = ao a ++ ao b := by simp [ao]
@[simp] theorem QW (a : List Int) : (ao a).length = a.length := by simp [ao]
section
variable {E : ak} (hE : E.fns = af.fn ag)
include hE
theorem Ub {l L : List Int} {o : gu} {i : Nat} {x : Int} (hx : l[i]? = some x) (hl : l.length <= 1048576) (hL : L.length <= 1048576) {j : Nat} {s : St} (hs : s.bl[j]? = some (.cells (ao L))) {k : Nat} (hk : 1048580 <= k) {Q : AH} {e : bF}
  (he : e.kill [2, 6, 10, 27, 44, 53] = [(0, .sl o 1 (ao l)), (3, .msl j 0 1 L.length), (4, .int .i64 i), (5, .int .i64 0)])
  (hQ : Q (.exit 2) [(0, .sl o 1 (ao l)), (3, .msl j 0 1 L.length), (4, .int .i64 i), (5, .int .i64 (gL L x)), (27, .bool false)] s) :
  wp E (au E k) k false (.loop [2, 6, 10, 27, 44, 53] dD) Q e s := by
 have hp := OI x L
 have hxx := ep hx
 obtain ⟨hi1, hx1⟩ := List.getElem?_eq_some_iff.1 hxx
 have hil : i < l.length := by simpa [ao] using hi1
 have e1 : et (.int .i64 i) l.length = some i := av hil
 refine aA (gL L x) (fun k' e' st => e' = [(0, .sl o 1 (ao l)), (3, .msl j 0 1 L.length), (4, .int .i64 i), (5, .int .i64 k')] /\ st = s) (by omega) ⟨he, rfl⟩ ?_ ?_
 ·rintro k' e' st hk' ⟨rfl, rfl⟩
  obtain ⟨y, hy, hlt⟩ := OJ x L k' hk'
  have hyy := ep hy
  have hkl : k' < L.length := by omega
  have e2 : et (.int .i64 k') L.length = some k' := av hkl
  have hwr : IntKind.wrap .i64 ((k' : Int) + 1) = k' + 1 := ar (by omega) (by omega)
  have hlt' : decide (y < x) = true := by simpa using hlt
  simp [-getElem?_pos, List.getElem?_cons_zero, List.getElem?_cons_succ, dD, hkl, e1, e2, hs, hyy, hxx, hx1, hlt, hwr]
 ·rintro e' st ⟨rfl, rfl⟩
  by_cases hlen : gL L x = L.length
  ·have hnl : ¬ gL L x < L.length := by omega
   simp [-getElem?_pos, List.getElem?_cons_zero, List.getElem?_cons_succ, dD, hnl]
   exact hQ
  ·have hkl : gL L x < L.length := by omega
   obtain ⟨y, hy⟩ : ∃ y, L[gL L x]? = some y := ⟨_, List.getElem?_eq_getElem hkl⟩
   have hyy := ep hy
   have e2 : et (.int .i64 (gL L x)) L.length = some (gL L x) := av hkl
   have hlt := Mi x L y hy
   simp [-getElem?_pos, List.getElem?_cons_zero, List.getElem?_cons_succ, dD, hkl, e1, e2, hs, hyy, hxx, hx1, hlt]
   exact hQ
theorem HK {l L : List Int} {o : gu} {i K : Nat} (hK : K <= L.length) (hL : L.length <= 1048576) {bl p : List AB} {tk : List Nat} (q0 : Int) {k : Nat} (hk : 1048580 <= k) {Q : AH} {e : bF}
  (he : e.kill [2, 10, 27, 44, 53] = [(0, .sl o 1 (ao l)), (3, .msl (bl.length + p.length) 0 1 (L.length + 1)), (4, .int .i64 i), (5, .int .i64 K), (6, .int .i64 L.length)])
  (hQ : ∀ q, Q (.exit 4) [(0, .sl o 1 (ao l)), (3, .msl (bl.length + p.length) 0 1 (L.length + 1)), (4, .int .i64 i), (5, .int .i64 K), (6, .int .i64 K), (53, .bool false)] { bl := bl ++ (p ++ [.cells (ao (L.take K ++ q :: L.drop K))]), tk, ro := bl.length, rt := tk.length }) :
  wp E (au E k) k false (.loop [2, 10, 27, 44, 53] gZ) Q e { bl := bl ++ (p ++ [.cells (ao (L ++ [q0]))]), tk, ro := bl.length, rt := tk.length } := by
 have qg := yu bl p
 have sg := Ck bl p
 have hrg : bl.length <= bl.length + p.length := by omega
 refine aA (L.length - K) (fun r e' st => ∃ q, e' = [(0, .sl o 1 (ao l)), (3, .msl (bl.length + p.length) 0 1 (L.length + 1)), (4, .int .i64 i), (5, .int .i64 K), (6, .int .i64 ((L.length - r : Nat) : Int))] /\ st = { bl := bl ++ (p ++ [.cells (ao (L.take (L.length - r) ++ q :: L.drop (L.length - r)))]), tk, ro := bl.length, rt := tk.length }) (by omega) ⟨q0, by simpa using he, by simp⟩ ?_ ?_
 ·rintro r e' st hr ⟨q, rfl, rfl⟩
  obtain ⟨j, hj⟩ : ∃ j, L.length - r = j + 1 := ⟨L.length - r - 1, by omega⟩
  have hj2 : L.length - (r + 1) = j := by omega
  have hjK : K < j + 1 := by omega
  have hjL : j < L.length := by omega
  obtain ⟨y, hy⟩ : ∃ y, L[j]? = some y := ⟨_, List.getElem?_eq_getElem hjL⟩
  obtain ⟨_, hy1⟩ := List.getElem?_eq_some_iff.1 hy
  rw [hj, hj2]
  obtain ⟨C, hC⟩ : ∃ C, C = L.take (j + 1) ++ q :: L.drop (j + 1) := ⟨_, rfl⟩
  have hCl : C.length = L.length + 1 := by rw [hC]; simp; omega
  have hCj : C[j]? = some y := by rw [hC, List.getElem?_append_left (by simp; omega), List.getElem?_take_of_lt (by omega), hy]
  have hc := ep hCj
  have hnew : (ao C).take (j + 1) ++ AV.int .i64 y :: (ao C).drop (j + 1 + 1) = ao (L.take j ++ y :: L.drop j) := by
   have h1 : L.take (j + 1) = L.take j ++ [y] := by rw [List.take_succ, hy]; rfl
   have h2 : L.drop j = y :: L.drop (j + 1) := by rw [List.drop_eq_getElem_cons hjL, hy1]
   have hlt : (L.take (j + 1)).length = j + 1 := by simp; omega
   have h3 : C.take (j + 1) = L.take (j + 1) := by rw [hC, List.take_append_of_le_length (by omega), List.take_of_length_le (by omega)]
   have h4 : C.drop (j + 1 + 1) = L.drop (j + 1) := by
    rw [hC, List.drop_append, List.drop_of_length_le (by omega), hlt, show j + 1 + 1 - (j + 1) = 1 by omega]; rfl
   unfold ao
   rw [<- List.map_take, <- List.map_drop, h3, h4, h1, h2]
   simp
  rw [<- hC]
  have e1 : et (.int .i64 j) (L.length + 1) = some j := av (by omega)
  have e2 : et (.int .i64 ((j : Int) + 1)) (L.length + 1) = some (j + 1) := by
   have := av (i := j + 1) (n := L.length + 1) (by omega)
   simpa using this
  have hw : IntKind.wrap .i64 (j : Int) = j := ar (by omega) (by omega)
  have hkj : (K : Int) < (j : Int) + 1 := by omega
  have hb : j + 1 + 1 <= C.length := by omega
  simp [-getElem?_pos, List.getElem?_cons_zero, List.getElem?_cons_succ, gZ, hkj, e1, e2, hw, qg, sg, hrg, hc, hb, hnew]
  exact ⟨_, rfl⟩
 ·rintro e' st ⟨q, rfl, rfl⟩
  rw [show L.length - (L.length - K) = K by omega]
  simp [-getElem?_pos, List.getElem?_cons_zero, List.getElem?_cons_succ, gZ]
  exact hQ q
end
open Go Ab Go.RowKit
set_option maxRecDepth 10000
theorem LY (L : List Int) (q x : Int) {K : Nat} (h : K <= L.length) : (ao (L.take K ++ q :: L.drop K)).take K ++ AV.int .i64 x :: (ao (L.take K ++ q :: L.drop K)).drop (K + 1) = ao (L.take K ++ x :: L.drop K) := by
 have hl : (L.take K).length = K := by simp; omega
 have h1 : (L.take K ++ q :: L.drop K).take K = L.take K := by rw [List.take_append_of_le_length (by omega), List.take_of_length_le (by omega)]
 have h2 : (L.take K ++ q :: L.drop K).drop (K + 1) = L.drop K := by rw [List.drop_append, List.drop_of_length_le (by omega), hl, show K + 1 - K = 1 by omega]; rfl
 unfold ao
 rw [<- List.map_take, <- List.map_drop, h1, h2]
 simp
theorem IG : ∀ (l : List AV), AV.chunk 1 l.length l = l
 | [] => rfl
 | x :: l => by simp only [List.length_cons, AV.chunk, if_true, List.headD_cons, List.drop_succ_cons, List.drop_zero, IG l]
theorem LN {s : St} {lo i : Nat} {L : List Int} (hlo : lo <= i) (hc : s.cell? i = some (ao L)) : Ab.frz s lo 8 (.msl i 0 1 L.length) = .sl .any 1 (ao L) := by
 have h1 : ug s (.msl i 0 1 L.length) = some (ao L) := by
  simp only [ug, hc]
  rw [if_pos ⟨by simp, by omega⟩, List.drop_zero]
  have := IG (ao L)
  rw [QW] at this
  rw [this]
 have h2 : Ab.frz s lo 8 (.msl i 0 1 L.length) = (if lo <= i then (match ug s (.msl i 0 1 L.length) with | some xs => .sl .any 1 (AV.untokL (xs.map (Ab.frz s lo 7))) | none => .msl i 0 1 L.length) else .msl i 0 1 L.length) := rfl
 rw [h2, if_pos hlo, h1]
 have h3 : (ao L).map (Ab.frz s lo 7) = ao L := by
  unfold ao; rw [List.map_map]; rfl
 simp only [h3, (cJ L).2]
theorem KY {bl p p' : List AB} {tk : List Nat} {L : List Int} (hp : p' = p ++ [.dead]) (hl : L.length + 1 <= aO) :
  xZ { bl := bl ++ (p ++ [.cells (ao L)]), tk, ro := bl.length, rt := tk.length } 1 (.msl (bl.length + p.length) 0 1 L.length) (.sl .full 1 [.int .i64 0]) = some (.msl (bl.length + p'.length) 0 1 (L.length + 1), { bl := bl ++ (p' ++ [.cells (ao (L ++ [0]))]), tk, ro := bl.length, rt := tk.length }) := by
 subst hp
 have q : (bl ++ (p ++ [AB.cells (ao L)]))[bl.length + p.length]? = some (.cells (ao L)) := yu bl p _ _
 have q2 : (bl ++ (p ++ [AB.cells (ao L)])).set (bl.length + p.length) .dead = bl ++ (p ++ [AB.dead]) := Ck bl p _ _ _
 have hr : bl.length <= bl.length + p.length := by omega
 simp [-getElem?_pos, xZ, Te, oZ, St.cell?, q, oT, St.setb, St.push, q2, hr, hl, AV.untokL, AV.untok, nh]
 rfl
theorem QX (q : Int) : ao [q] = [.int .i64 q] := rfl
def Vb (bl p : List AB) (L : List Int) (v : AV) (B : List AB) : Prop := (L = [] /\ v = .sl .nil 1 [] /\ B = bl ++ p) \/ (L ≠ [] /\ v = .msl (bl.length + p.length) 0 1 L.length /\ B = bl ++ (p ++ [.cells (ao L)]))
section
variable {E : ak} (hE : E.fns = af.fn ag)
include hE
theorem vD {l : List Int} {o : gu} (hl : l.length <= 1048576) {k : Nat} (hk : 1048581 <= k) (s : St) :
  au E k none (.fn fj [] []) [.sl o 1 (ao l)] s = some (.ret (ti 1 (ao (bg l))), false, s) := by
 obtain ⟨k, rfl⟩ : ∃ j, k = j + 1 := ⟨k - 1, by omega⟩
 refine zt (E := E) (xm hE) (first := []) (caps := []) (args := [.sl o 1 (ao l)]) rfl (k := k) (fun bl tk => ?_) s
 have hmm : aO = 1073741824 := rfl
 have hm1 : 1 <= aO := by omega
 simp [-getElem?_pos, ly, pX]
 refine aA l.length (fun i e' st => ∃ p v B L, L = bg (l.take i) /\ Vb bl p L v B /\ e' = [(0, .sl o 1 (ao l)), (3, v), (4, .int .i64 i)] /\ st = { bl := B, tk, ro := bl.length, rt := tk.length }) (by omega) ⟨[], _, _, _, rfl, .inl ⟨by simp [bg], rfl, by simp⟩, by simp, rfl⟩ ?_ ?_
 ·rintro i e' st hi ⟨p, v, B, L, hL, hrow, rfl, rfl⟩
  obtain ⟨x, hx⟩ : ∃ t, l[i]? = some t := ⟨_, List.getElem?_eq_getElem (by omega)⟩
  have hs := NR hx
  rw [<- hL] at hs
  have hLl : L.length <= i := by have := qI (l.take i); rw [<- hL, List.length_take] at this; omega
  have hxx := ep hx
  obtain ⟨hi1, hx1⟩ := List.getElem?_eq_some_iff.1 hxx
  have e1 : et (.int .i64 i) l.length = some i := av hi
  have hwr : IntKind.wrap .i64 ((i : Int) + 1) = i + 1 := ar (by omega) (by omega)
  rcases hrow with ⟨rfl, rfl, rfl⟩ | ⟨hne, rfl, rfl⟩
  ·simp [-getElem?_pos, List.getElem?_cons_zero, List.getElem?_cons_succ, eD, hi]
   refine aA 0 (fun k' e' st => e' = [(0, .sl o 1 (ao l)), (3, .sl .nil 1 []), (4, .int .i64 i), (5, .int .i64 0)] /\ st = { bl := bl ++ p, tk, ro := bl.length, rt := tk.length }) (by omega) ⟨rfl, rfl⟩ (fun k' _ _ h _ => by omega) ?_
   rintro e' st ⟨rfl, rfl⟩
   simp [-getElem?_pos, List.getElem?_cons_zero, List.getElem?_cons_succ, dD, aq, bE, ai, az, xZ, Te, oZ, oT, hm1]
   refine HK hE (l := l) (L := []) (o := o) (i := i) (K := 0) (by simp) (by simp) (bl := bl) (p := p) (tk := tk) 0 (k := k) (by omega) rfl fun q => ?_
   have qg := yu bl p
   have sg := Ck bl p
   have hrg : bl.length <= bl.length + p.length := by omega
   have e3 : et (.int .i64 0) 1 = some 0 := rfl
   simp [-getElem?_pos, List.getElem?_cons_zero, List.getElem?_cons_succ, qg, sg, hrg, e1, e3, hxx, hx1, hwr, QX q]
   exact ⟨p, .inr ⟨by rw [hs]; simp [nE], by rw [hs]; simp [nE], by rw [hs]; simp [nE, ao]⟩⟩
  ·have hr0 : (bl ++ (p ++ [AB.cells (ao L)]))[bl.length + p.length]? = some (.cells (ao L)) := yu bl p _ _
   simp [-getElem?_pos, List.getElem?_cons_zero, List.getElem?_cons_succ, eD, hi]
   refine Ub hE hx hl (L := L) (by omega) (j := bl.length + p.length) hr0 (by omega) rfl ?_
   have hp := OI x L
   by_cases hlen : gL L x = L.length
   ·have hnl : ¬ gL L x < L.length := by omega
    have hne2 : ¬ L[gL L x]? = some x := by rw [hlen]; simp
    obtain ⟨p', hp'⟩ : ∃ p', p' = p ++ [AB.dead] := ⟨_, rfl⟩
    have hap := KY (bl := bl) (tk := tk) (L := L) hp' (by omega)
    have hwl : IntKind.wrap .i64 (L.length : Int) = L.length := ar (by omega) (by omega)
    simp [-getElem?_pos, List.getElem?_cons_zero, List.getElem?_cons_succ, hnl, aq, bE, ai, az, hap, hwl]
    refine HK hE (l := l) (L := L) (o := o) (i := i) hp (by omega) (bl := bl) (p := p') (tk := tk) 0 (k := k) (by omega) rfl fun q => ?_
    have qg := yu bl p'
    have sg := Ck bl p'
    have hrg : bl.length <= bl.length + p'.length := by omega
    have e3 : et (.int .i64 (gL L x)) (L.length + 1) = some (gL L x) := av (by omega)
    have hput := LY L q x hp
    have hcl : gL L x + 1 <= min (gL L x) L.length + (L.length - gL L x + 1) := by omega
    simp [-getElem?_pos, List.getElem?_cons_zero, List.getElem?_cons_succ, qg, sg, hrg, e1, e3, hxx, hx1, hwr, hput, hcl]
    have hl2 : (L.take (gL L x) ++ x :: L.drop (gL L x)).length = L.length + 1 := by simp; omega
    rw [hs, xq, if_neg hne2]
    exact ⟨p', .inr ⟨by simp, by rw [hl2], rfl⟩⟩
   ·have hkl : gL L x < L.length := by omega
    obtain ⟨y, hy⟩ : ∃ y, L[gL L x]? = some y := ⟨_, List.getElem?_eq_getElem hkl⟩
    have hyy := ep hy
    have e2 : et (.int .i64 (gL L x)) L.length = some (gL L x) := av hkl
    by_cases hyx : y = x
    ·have hyx' : (y == x) = true := by simp [hyx]
     simp [-getElem?_pos, List.getElem?_cons_zero, List.getElem?_cons_succ, hkl, e1, e2, hr0, hyy, hxx, hx1, hyx', hwr]
     exact ⟨p, .inr ⟨by rw [hs, xq, if_pos (by rw [hy, hyx])]; exact hne, by rw [hs, xq, if_pos (by rw [hy, hyx])], by rw [hs, xq, if_pos (by rw [hy, hyx])]⟩⟩
    ·have hyx' : (y == x) = false := by simpa using hyx
     have hne2 : ¬ L[gL L x]? = some x := by rw [hy]; simpa using hyx
     obtain ⟨p', hp'⟩ : ∃ p', p' = p ++ [AB.dead] := ⟨_, rfl⟩
     have hap := KY (bl := bl) (tk := tk) (L := L) hp' (by omega)
     have hwl : IntKind.wrap .i64 (L.length : Int) = L.length := ar (by omega) (by omega)
     simp [-getElem?_pos, List.getElem?_cons_zero, List.getElem?_cons_succ, hkl, e1, e2, hr0, hyy, hxx, hx1, hyx', aq, bE, ai, az, hap, hwl]
     refine HK hE (l := l) (L := L) (o := o) (i := i) hp (by omega) (bl := bl) (p := p') (tk := tk) 0 (k := k) (by omega) rfl fun q => ?_
     have qg := yu bl p'
     have sg := Ck bl p'
     have hrg : bl.length <= bl.length + p'.length := by omega
     have e3 : et (.int .i64 (gL L x)) (L.length + 1) = some (gL L x) := av (by omega)
     have hput := LY L q x hp
     have hcl : gL L x + 1 <= min (gL L x) L.length + (L.length - gL L x + 1) := by omega
     simp [-getElem?_pos, List.getElem?_cons_zero, List.getElem?_cons_succ, qg, sg, hrg, e1, e3, hxx, hx1, hwr, hput, hcl]
     have hl2 : (L.take (gL L x) ++ x :: L.drop (gL L x)).length = L.length + 1 := by simp; omega
     rw [hs, xq, if_neg hne2]
     exact ⟨p', .inr ⟨by simp, by rw [hl2], rfl⟩⟩
 ·rintro e' st ⟨p, v, B, L, hL, hrow, rfl, rfl⟩
  rw [List.take_of_length_le (Nat.le_refl _)] at hL
  subst hL
  rcases hrow with ⟨h0, rfl, rfl⟩ | ⟨hne, rfl, rfl⟩
  ·rw [h0]
   simp [-getElem?_pos, eD, sw, ao, ti]
  ·have hfz := LN (s := { bl := bl ++ (p ++ [.cells (ao (bg l))]), tk, ro := bl.length, rt := tk.length }) (lo := bl.length) (i := bl.length + p.length) (L := bg l) (by omega) (by simp [-getElem?_pos, St.cell?, yu])
   have hne' : ao (bg l) ≠ [] := by simpa [ao] using hne
   simp [-getElem?_pos, eD, sw, hfz, cJ, ti, hne', AV.data]
end
open Go Ab
structure Rg (a : Au) : Prop where
 n : 1 <= a.n /\ a.n <= 400
 start : 0 <= a.start /\ a.start < a.n
 finL : a.fin.length <= 400
 fin : ∀ f ∈ a.fin, 0 <= f /\ f < a.n
 edsL : a.eds.length <= 4000
 eds : ∀ e ∈ a.eds, (0 <= e.fr /\ e.fr < a.n) /\ (0 <= e.to /\ e.to < a.n) /\ (e.kind = 5 -> 0 <= e.inner /\ e.inner < a.n) /\ (e.kind ≠ 5 -> e.inner = 0) /\ Be e
theorem oj {n k : Int} : ql n k = true ↔ 0 <= k /\ k < n := by simp [ql]
theorem KZ {n : Int} : ∀ (l : List Int) (p : Option Int), BV n p l = true -> ∀ f ∈ l, 0 <= f /\ f < n
 | [], _, _, f, hf => by cases hf
 | x :: l, p, h, f, hf => by
  simp only [BV, Bool.and_eq_true] at h
  rcases List.mem_cons.1 hf with rfl | hf
  ·exact oj.1 h.1.1
  ·exact KZ l _ h.2 f hf
theorem Rg.of {a : Au} (hb : Ba a) (h : cP a = 0) : Rg a := by
 unfold cP at h
 split at h
 ·omega
 ·rename_i h1
  simp only [Bool.or_eq_true, decide_eq_true_eq, not_or] at h1
  obtain ⟨⟨⟨h1, h2⟩, h3⟩, h4⟩ := h1
  split at h
  ·omega
  ·rename_i h5
   simp only [Bool.or_eq_true, decide_eq_true_eq, not_or, Bool.not_eq_true', Bool.not_eq_false] at h5
   obtain ⟨h5, h6⟩ := h5
   split at h
   ·omega
   ·rename_i h7
    simp only [Bool.not_eq_true', Bool.not_eq_false] at h7
    split at h
    ·omega
    ·rename_i h8
     refine ⟨by omega, oj.1 h6, by omega, KZ _ _ h7, by omega, fun e he => ?_⟩
     have h9 : jL a.n e = true := by
      cases hr : jL a.n e with
      | true => rfl
      | false => exact absurd (List.any_eq_true.2 ⟨e, he, by rw [hr]; rfl⟩) h8
     simp only [jL, Bool.and_eq_true] at h9
     obtain ⟨⟨⟨⟨⟨⟨⟨a1, a2⟩, _⟩, _⟩, _⟩, _⟩, _⟩, a3⟩ := h9
     refine ⟨oj.1 a1, oj.1 a2, fun h => ?_, fun h => ?_, hb.2.2 e he⟩
     ·rw [if_pos h] at a3; exact oj.1 a3
     ·rw [if_neg h] at a3; simpa using a3
theorem Rg.tr {a : Au} (h : Rg a) : Tr a := ⟨⟨h.n.1, by have := h.n.2; omega⟩, h.start, by have := h.finL; omega, h.fin, by have := h.edsL; omega, h.eds⟩
theorem Rg.mid {a : Au} (h : Rg a) : ∀ e ∈ a.eds, UZ e := fun e he => by
 obtain ⟨h1, h2, h3, _⟩ := h.eds e he
 have := h.n
 exact ⟨by omega, by omega, fun h => by have := h3 h; omega⟩
theorem p8 : Bt [] := ⟨by simp [aV], fun t h => by cases h⟩
theorem Fv : Bt [.mk 0 [] []] := ⟨by simp [aV, nT], fun t h => by
 have : bI [Tm.mk 0 [] []] = [Tm.mk 0 [] []] := by rw [el]; rfl
 rw [this] at h
 simp only [List.mem_cons, List.mem_nil_iff, or_false] at h
 subst h; simp [Tm.text]⟩
theorem Mc (n s : Int) : Be (uy n s) := ⟨Fv, p8⟩
theorem KF {a : Au} (h : Rg a) : Tr (Dz a) := by
 obtain ⟨h1, h2⟩ := h.n
 obtain ⟨h3, h4⟩ := h.start
 refine ⟨⟨?_, ?_⟩, ⟨?_, ?_⟩, ?_, ?_, ?_, ?_⟩
 ·show 1 <= a.n + 2; omega
 ·show a.n + 2 <= 448; omega
 ·show 0 <= a.n; omega
 ·show a.n < a.n + 2; omega
 ·show (a.fin ++ [a.n + 1]).length <= _; have := h.finL; simp; omega
 ·intro f hf
  show 0 <= f /\ f < a.n + 2
  rcases List.mem_append.1 hf with hf | hf
  ·have := h.fin f hf; omega
  ·simp at hf; omega
 ·show (a.eds ++ [_]).length <= _; have := h.edsL; simp; omega
 ·intro e he
  show (0 <= e.fr /\ e.fr < a.n + 2) /\ (0 <= e.to /\ e.to < a.n + 2) /\ (e.kind = 5 -> 0 <= e.inner /\ e.inner < a.n + 2) /\ (e.kind ≠ 5 -> e.inner = 0) /\ Be e
  rcases List.mem_append.1 he with he | he
  ·obtain ⟨b1, b2, b3, b4, b5⟩ := h.eds e he
   exact ⟨by omega, by omega, fun k => by have := b3 k; omega, b4, b5⟩
  ·simp only [List.mem_cons, List.mem_nil_iff, or_false] at he
   subst he
   refine ⟨by simp [uy]; omega, by simp [uy]; omega, fun _ => by simp [uy]; omega, fun k => absurd rfl k, Mc _ _⟩
theorem GN {x y : Int} : ∀ {L : List Int}, y ∈ nE L x -> y = x \/ y ∈ L
 | [], h => by simp [nE] at h; exact .inl h
 | z :: r, h => by
  simp only [nE] at h
  split at h
  ·rcases List.mem_cons.1 h with rfl | h
   ·exact .inr (List.mem_cons_self ..)
   ·rcases GN h with h | h
    ·exact .inl h
    ·exact .inr (List.mem_cons_of_mem _ h)
  ·split at h
   ·exact .inr h
   ·rcases List.mem_cons.1 h with rfl | h
    ·exact .inl rfl
    ·exact .inr h
theorem wB {y : Int} : ∀ {l L : List Int}, y ∈ l.foldl nE L -> y ∈ l \/ y ∈ L
 | [], L, h => .inr h
 | x :: l, L, h => by
  rcases wB (l := l) h with h | h
  ·exact .inl (List.mem_cons_of_mem _ h)
  ·rcases GN h with rfl | h
   ·exact .inl (List.mem_cons_self ..)
   ·exact .inr h
theorem Qv {a b : Au} (ha : Rg a) (hb : Rg b) : ∀ f ∈ nz a b, 0 <= f /\ f < 2 * a.n + b.n := by
 have := ha.n; have := hb.n
 intro f hf
 simp only [nz, List.mem_append, List.mem_map] at hf
 rcases hf with (⟨g, hg, rfl⟩ | ⟨g, hg, rfl⟩) | hf
 ·have := ha.fin g hg; omega
 ·have := hb.fin g hg; omega
 ·split at hf
  ·have := ha.fin f hf; omega
  ·cases hf
def RJ (m : Int) (e : Ed) : Prop := (0 <= e.fr /\ e.fr < m) /\ (0 <= e.to /\ e.to < m) /\ (e.kind = 5 -> 0 <= e.inner /\ e.inner < m) /\ (e.kind ≠ 5 -> e.inner = 0) /\ Be e
theorem CD {n m by' inn : Int} {e : Ed} (h : RJ n e) (h1 : 0 <= by') (h2 : 0 <= inn) (h3 : n + by' <= m) (h4 : n + inn <= m) : RJ m (mN by' inn e) := by
 obtain ⟨a1, a2, a3, a4, a5⟩ := h
 refine ⟨by simp only [mN]; omega, by simp only [mN]; omega, fun k => ?_, fun k => ?_, a5⟩
 ·have k' : e.kind = 5 := k
  simp only [mN, if_pos k']; have := a3 k'; omega
 ·have k' : e.kind ≠ 5 := k
  simp only [mN, if_neg k']; exact a4 k'
theorem Qu {a b : Au} (ha : Rg a) (hb : Rg b) : ∀ e ∈ wX a b, RJ (2 * a.n + b.n) e := by
 have := ha.n; have := hb.n
 intro e he
 have ht : ∀ e ∈ ud a b, RJ (2 * a.n + b.n) e := fun e he => by
  obtain ⟨d, hd, rfl⟩ := List.mem_map.1 he
  exact CD (hb.eds d hd) (by omega) (by omega) (by omega) (by omega)
 simp only [wX, List.mem_append] at he
 rcases he with ((he | he) | he) | he
 ·obtain ⟨d, hd, rfl⟩ := List.mem_map.1 he
  exact CD (ha.eds d hd) (by omega) (by omega) (by omega) (by omega)
 ·obtain ⟨d, hd, rfl⟩ := List.mem_map.1 he
  exact CD (ha.eds d hd) (by omega) (by omega) (by omega) (by omega)
 ·exact ht e he
 ·obtain ⟨f, hf, he⟩ := List.mem_flatMap.1 he
  obtain ⟨d, hd, rfl⟩ := List.mem_map.1 he
  have hd := ht d (List.mem_filter.1 hd).1
  have := ha.fin f hf
  exact ⟨by show 0 <= f /\ f < _; omega, hd.2.1, hd.2.2.1, hd.2.2.2.1, hd.2.2.2.2⟩
theorem F2 {a b : Au} (ha : Rg a) (hb : Rg b) : (nz a b).length <= 1200 := by
 have := ha.finL; have := hb.finL
 unfold nz
 split <;> simp <;> omega
theorem KE {a b : Au} (ha : Rg a) (hb : Rg b) (h1 : (BZ a b).n <= 400) (h2 : (BZ a b).eds.length <= 4000) : Tr (BZ a b) := by
 have := ha.n; have := hb.n; have := ha.start
 have hl := qI (nz a b)
 have hl2 := F2 ha hb
 refine ⟨⟨by simp only [BZ]; omega, by omega⟩, by simp only [BZ]; omega, ?_, ?_, by omega, ?_⟩
 ·show (bg (nz a b)).length <= _; omega
 ·intro f hf
  rcases wB hf with hf | hf
  ·exact Qv ha hb f hf
  ·cases hf
 ·exact Qu ha hb
open Go Ab Go.RowKit
set_option maxRecDepth 10000
theorem tD : ∀ {l : List Ed} {ys : List AV}, cL jq l ys -> cL jq l (AV.untokL ys)
 | [], _, h => by simp only [cL] at h; subst h; exact rfl
 | e :: l, _, h => by
  simp only [cL] at h
  obtain ⟨y, r, rfl, h1, h2⟩ := h
  exact ⟨_, _, rfl, h1.untok, tD h2⟩
theorem fZ : ∀ {l l' : List Ed} {ys zs : List AV}, cL jq l ys -> cL jq l' zs -> cL jq (l ++ l') (ys ++ zs)
 | [], _, _, _, h, h' => by simp only [cL] at h; subst h; exact h'
 | e :: l, _, _, _, h, h' => by
  simp only [cL] at h
  obtain ⟨y, r, rfl, h1, h2⟩ := h
  exact ⟨_, _, rfl, h1, fZ h2 h'⟩
noncomputable def lI (a : Au) : Au × Int := if cP a ≠ 0 then (gN, cP a) else kq (Dz a)
def vo (n s : Int) : AV := .agg [.int .i64 n, .int .i64 (n + 1), .int .i64 5, .int .i64 0, .str [], .sl .nil 3 [], .sl .nil 3 [], .int .i64 s]
theorem S6 (n s : Int) : jq (uy n s) (vo n s) := ⟨_, _, rfl, Sl.nil, Sl.nil⟩
theorem tU.data {a : Au} {x : AV} (h : tU a x) : x.data = true := by
 obtain ⟨o1, o2, zs, rfl, hzs, _⟩ := h
 simp [cJ, eW hzs]
theorem w6 {p : Au × Int} {x : AV} (h : tU p.1 x) (hu : x.untok = x) {lo : Nat} {s : St} : ∃ r, sw lo s (.tup [x, .int .i64 p.2]) r /\ FI p r := by
 refine ⟨_, bW ?_, _, Cn hu _, h, hu⟩
 have := h.data
 simp [AV.data, AV.dataL, this]
section
variable {E : ak} (hE : E.fns = af.fn ag)
include hE
theorem LD {a : Au} {x : AV} (ha : tU a x) (hb : Ba a) {k : Nat} (hk : 12000005 <= k) (s : St) :
  ∃ r, FI (lI a) r /\ au E k none (.fn j6 [] []) [x] s = some (.ret r, false, s) := by
 obtain ⟨k, rfl⟩ : ∃ j, k = j + 1 := ⟨k - 1, by omega⟩
 have g1 := w9 hE ha hb k (by omega)
 obtain ⟨of, oe, ys, rfl, hes, _⟩ := ha
 have hly := hes.length
 refine fK (zQ hE) rfl (fun bl tk => ?_) s
 have q0 : ∀ (c : AB) (r : List AB), (bl ++ c :: r)[bl.length]? = some c := fun c r => by rw [ac]; rfl
 have q1 : ∀ (c d : AB) (r : List AB), (bl ++ c :: d :: r)[bl.length + 1]? = some d := fun c d r => by rw [aa]; rfl
 have q2 : ∀ (c d f : AB) (r : List AB), (bl ++ c :: d :: f :: r)[bl.length + 2]? = some f := fun c d f r => by rw [aa]; rfl
 have s1 : ∀ (c d f : AB) (r : List AB), (bl ++ c :: d :: r).set (bl.length + 1) f = bl ++ c :: f :: r := fun c d f r => by rw [aj]; rfl
 have s2 : ∀ (c d e f : AB) (r : List AB), (bl ++ c :: d :: e :: r).set (bl.length + 2) f = bl ++ c :: d :: f :: r := fun c d e f r => by rw [aj]; rfl
 have r1 : bl.length <= bl.length + 1 := by omega
 have r2 : bl.length <= bl.length + 2 := by omega
 by_cases h0 : cP a = 0
 ·have hg := Rg.of hb h0
  have hn := hg.n
  have hop : lI a = kq (Dz a) := by unfold lI; rw [if_neg (by simp [h0])]
  rw [hop]
  rw [h0] at g1
  have w2 : IntKind.wrap .i64 (a.n + 2) = a.n + 2 := ar (by omega) (by omega)
  have w1 : IntKind.wrap .i64 (a.n + 1) = a.n + 1 := ar (by omega) (by omega)
  have hfl := hg.finL
  have hel := hg.edsL
  have hmm : aO = 1073741824 := rfl
  obtain ⟨oz, hoz, _⟩ := AZ .full 1 tk.length (ao a.fin ++ [.int .i64 (a.n + 1)])
  obtain ⟨F, hF⟩ : ∃ F, F = ao a.fin ++ [.int .i64 (a.n + 1)] := ⟨_, rfl⟩
  have a1 := fun b => vQ (o0 := .full) (.inr rfl) (bl := b) (tk := tk) (ro := bl.length) (rt := tk.length) (z := 1) (ys := []) (zs := ao a.fin) (o := of) (by simp; omega) (Nat.le_refl _)
  simp only [Dh, Dg, List.nil_append, (cJ a.fin).2] at a1
  have a2 := fun b => vP (o0 := .full) (.inr rfl) (bl := b) (tk := tk) (ro := bl.length) (rt := tk.length) (z := 1) (ys := ao a.fin) (y := .int .i64 (a.n + 1)) (o := .full) (by simp; omega) (Nat.le_refl _)
  rw [show (AV.int IntKind.i64 (a.n + 1)).untok = .int .i64 (a.n + 1) by simp [AV.untok], <- hF] at a2
  obtain ⟨tk1, htk1⟩ : ∃ t, t = cU tk F := ⟨_, rfl⟩
  rw [<- htk1] at a2
  have htl : tk.length <= tk1.length := by rw [htk1]; exact FB _ _
  obtain ⟨Y, hY⟩ : ∃ Y, Y = AV.untokL ys ++ [vo a.n a.start] := ⟨_, rfl⟩
  have a3 := fun b => vQ (o0 := .full) (.inr rfl) (bl := b) (tk := tk1) (ro := bl.length) (rt := tk.length) (z := 8) (ys := []) (zs := ys) (o := oe) (by simp; omega) htl
  simp only [Dh, Dg, List.nil_append] at a3
  have a4 := fun b => vP (o0 := .full) (.inr rfl) (bl := b) (tk := tk1) (ro := bl.length) (rt := tk.length) (z := 8) (ys := AV.untokL ys) (y := vo a.n a.start) (o := .full) (by simp; omega) htl
  rw [show (vo a.n a.start).untok = vo a.n a.start by simp [vo, AV.untok, AV.untokL], <- hY] at a4
  obtain ⟨oF, hoF, _⟩ := AZ .full 1 tk.length F
  obtain ⟨oY, hoY, _⟩ := AZ .full 8 tk1.length Y
  rw [hoF] at a2
  rw [hoY] at a4
  simp only [vo] at a4
  have hFi : F = ao (a.fin ++ [a.n + 1]) := by rw [hF, nh]; rfl
  have hYa : cL jq (a.eds ++ [uy a.n a.start]) Y := by rw [hY]; exact fZ (tD hes) ⟨_, _, rfl, S6 _ _, rfl⟩
  have hR : tU (Dz a) (.agg [.int .i64 (a.n + 2), .int .i64 a.n, .sl oF 1 F, .sl oY 8 Y]) := by
   rw [hFi]
   refine ⟨oF, oY, Y, rfl, hYa, fun h => ?_, fun h => ?_⟩
   ·subst h; rw [hFi] at hoF; unfold sb at hoF; split at hoF <;> cases hoF
   ·subst h; unfold sb at hoY; split at hoY <;> cases hoY
  obtain ⟨r, ⟨xr, hr, hr2, hr3⟩, hc⟩ := Fy hE hR (fun _ _ => KF hg) (k := k) (by omega) { bl := bl ++ [.cells [.int .i64 a.n, .int .i64 a.start, .sl of 1 (ao a.fin), .sl oe 8 ys], .cells [.int .i64 0, .int .i64 0, .sl .nil 1 [], .sl .nil 8 []], .cells [.int .i64 (a.n + 2), .int .i64 a.n, .sl oF 1 F, .sl oY 8 Y]], tk := cU tk1 Y, ro := bl.length, rt := tk.length }
  subst hr
  have hr2' := hr2
  obtain ⟨o1, o2, zs, rfl, hzs, _⟩ := hr2
  simp [-getElem?_pos, List.getElem?_cons_zero, List.getElem?_cons_succ, jQ, m7, q0, q1, q2, s1, s2, r1, r2, g1, w1, w2, aq, bE, ai, az, a1, a2, a3, a4, hc]
  exact w6 hr2' hr3
 ·have hop : lI a = (gN, cP a) := by unfold lI; rw [if_pos h0]
  rw [hop]
  have h0' : (cP a != 0) = true := by simpa using h0
  simp [-getElem?_pos, List.getElem?_cons_zero, List.getElem?_cons_succ, jQ, m7, q0, q1, q2, s1, s2, r1, r2, g1, h0', h0, aq, bE, ai, az]
  exact ⟨_, bW (by rfl), _, rfl, mK, rfl⟩
end
end Ab.C
namespace Ab
open Go Go.RowKit
@[simp] theorem oW (z : Nat) (ys : List AV) : (ti z ys).untok = ti z ys := by
 unfold ti; split <;> rfl
def hI (out : AV) (z : Nat) (ys : List AV) (tk h : List Nat) : Prop := (ys = [] /\ out = .sl .nil z []) \/ (∃ q, out = .sl (.tok (tk.length + q)) z ys /\ h[q]? = some ys.length /\ ys ≠ [])
theorem hI.more {out : AV} {z : Nat} {ys : List AV} {tk h : List Nat} (ho : hI out z ys tk h) (h' : List Nat) : hI out z ys tk (h ++ h') := by
 rcases ho with h1 | ⟨q, h1, h2, h3⟩
 ·exact .inl h1
 ·obtain ⟨hq, _⟩ := List.getElem?_eq_some_iff.1 h2
  exact .inr ⟨q, h1, by rw [List.getElem?_append_left hq]; exact h2, h3⟩
theorem hI.sl {out : AV} {z : Nat} {ys : List AV} {tk h : List Nat} (ho : hI out z ys tk h) : ∃ o, out = .sl o z ys /\ (o = .nil -> ys = []) /\ out.untok = ti z ys := by
 rcases ho with ⟨rfl, rfl⟩ | ⟨q, rfl, _, h3⟩
 ·exact ⟨_, rfl, fun _ => rfl, rfl⟩
 ·exact ⟨_, rfl, (fun h => by cases h), by unfold ti; rw [if_neg h3]; rfl⟩
end Ab
namespace Ab.C
open Go Ab
theorem tV {out : AV} {z : Nat} {ys : List AV} {tk h : List Nat} (ho : hI out z ys tk h) {ro rt : Nat} {o : gu} {ws : List AV} (hl : ys.length + ws.length <= aO) (hr : rt <= tk.length) :
  ∃ out' h', (∀ bl, oc { bl, tk := tk ++ h, ro, rt } z out (.sl o z ws) = some (out', { bl, tk := tk ++ h', ro, rt })) /\ hI out' z (ys ++ AV.untokL ws) tk h' := by
 cases ws with
 | nil =>
  refine ⟨out, h, fun bl => ?_, by simpa [AV.untokL] using ho⟩
  simp only [List.length_nil, Nat.add_zero] at hl
  rcases ho with ⟨rfl, rfl⟩ | ⟨q, rfl, h2, h3⟩
  ·simp [oc, oZ, AV.untokL]
  ·simp [oc, oZ, AV.untokL, hl]
 | cons w ws =>
  simp only [List.length_cons] at hl
  rcases ho with ⟨rfl, rfl⟩ | ⟨q, rfl, h2, h3⟩
  ·simp only [List.length_nil, Nat.zero_add] at hl
   refine ⟨.sl (.tok (tk.length + h.length)) z (AV.untokL (w :: ws)), h ++ [(w :: ws).length], fun bl => ?_, .inr ⟨h.length, by simp, by simp, by simp [AV.untokL]⟩⟩
   simp [oc, oZ, AV.untokL, hl]
  ·obtain ⟨hq, _⟩ := List.getElem?_eq_some_iff.1 h2
   refine ⟨.sl (.tok (tk.length + q)) z (ys ++ AV.untokL (w :: ws)), h.set q (ys.length + (w :: ws).length), fun bl => ?_, .inr ⟨q, rfl, by simp [hq], by simp [AV.untokL]⟩⟩
   have h5 : rt <= tk.length + q := by omega
   simp [oc, oZ, AV.untokL, hl, h5, h2, aa]
theorem Ke (z : Nat) (ys : List AV) (tk h : List Nat) : ∃ h', cU (tk ++ h) ys = tk ++ h' /\ hI (gb z (tk ++ h).length ys) z ys tk h' /\ ∀ out z' zs, hI out z' zs tk h -> hI out z' zs tk h' := by
 by_cases hy : ys = []
 ·subst hy
  exact ⟨h, rfl, .inl ⟨rfl, rfl⟩, fun _ _ _ h => h⟩
 ·refine ⟨h ++ [ys.length], by simp [cU, hy], .inr ⟨h.length, by simp [gb, hy], by simp, hy⟩, fun _ _ _ ho => ho.more _⟩
end Ab.C
