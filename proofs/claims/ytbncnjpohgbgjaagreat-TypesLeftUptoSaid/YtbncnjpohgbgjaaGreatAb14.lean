/- Parts of the proof, made small by program. No condition but what is told. -/
import Derived.Test.YtbncnjpohgbgjaaGreatAb13
set_option linter.all false
set_option maxHeartbeats 8000000
namespace Ab.C
open Go Ab Go.RowKit
set_option maxRecDepth 10000
noncomputable def lk (a b : Au) : Au × Int := if cP a ≠ 0 then (gN, cP a) else if cP b ≠ 0 then (gN, cP b) else kq (BZ a b)
def iK (st : Int) (Zt : List AV) (l : List Int) : List AV := l.flatMap fun f => cR f st Zt
theorem wu {st : Int} {T : List Ed} {Zt : List AV} (h : cL jq T Zt) : ∀ l : List Int, cL jq (l.flatMap fun f => uw T f st) (iK st Zt l) /\ AV.untokL (iK st Zt l) = iK st Zt l
 | [] => ⟨rfl, rfl⟩
 | f :: l => by
  have h1 := xz (to' := f) (from' := st) h
  have h2 := wu (st := st) h l
  simp only [iK, List.flatMap_cons] at h2 ⊢
  exact ⟨fZ h1.1 h2.1, by rw [untokL_append, h1.2, h2.2]⟩
theorem EH {st : Int} {Zt : List AV} {l : List Int} {i : Nat} {f : Int} (h : l[i]? = some f) : iK st Zt (l.take (i + 1)) = iK st Zt (l.take i) ++ cR f st Zt := by
 unfold iK
 rw [List.take_succ, h, List.flatMap_append]
 simp
theorem Cf {st : Int} {Zt : List AV} : ∀ l : List Int, (iK st Zt l).length <= l.length * Zt.length
 | [] => by simp [iK]
 | f :: l => by
  have h1 := rD f st Zt
  have h2 := Cf (st := st) (Zt := Zt) l
  simp only [iK, List.flatMap_cons, List.length_append, List.length_cons] at h2 ⊢
  rw [Nat.add_mul]; omega
section
variable {E : ak} (hE : E.fns = af.fn ag)
include hE
theorem DB {l : List Ed} {o : gu} {ys : List AV} (hes : cL jq l ys) (hl : l.length <= 1048576) {by' inn : Int} (hb : 0 <= by' /\ by' <= 1048576) (hi : 0 <= inn /\ inn <= 1048576) (hw : ∀ e ∈ l, UZ e) {k : Nat} (hk : 1048580 <= k) (tk h : List Nat) :
  ∃ o' h', (∀ B ro rt, au E k none (.fn da [] []) [.sl o 8 ys, .int .i64 by', .int .i64 inn] { bl := B, tk := tk ++ h, ro, rt } = some (.ret (.sl o' 8 (ys.map (oR by' inn))), false, { bl := B, tk := tk ++ h', ro, rt })) /\
   hI (.sl o' 8 (ys.map (oR by' inn))) 8 (ys.map (oR by' inn)) tk h' /\ ∀ out z' zs, hI out z' zs tk h -> hI out z' zs tk h' := by
 obtain ⟨h', h1, h2, h3⟩ := Ke 8 (ys.map (oR by' inn)) tk h
 obtain ⟨o', ho, _⟩ := qG 8 (tk ++ h).length (ys.map (oR by' inn))
 rw [ho] at h2
 refine ⟨o', h', fun B ro rt => ?_, h2, h3⟩
 have := H2 hE (o := o) hes hl hb hi hw hk { bl := B, tk := tk ++ h, ro, rt }
 rw [this]
 simp only [ho, h1]
theorem OH {l : List Int} {o : gu} {by' : Int} (hl : l.length <= 1048576) (hw : ∀ f ∈ l, 0 <= f /\ f < 1048576) (hb : 0 <= by' /\ by' <= 1048576) {k : Nat} (hk : 1048580 <= k) (tk h : List Nat) :
  ∃ o' h', (∀ B ro rt, au E k none (.fn eJ [] []) [.sl o 1 (ao l), .int .i64 by'] { bl := B, tk := tk ++ h, ro, rt } = some (.ret (.sl o' 1 (ao (l.map (fun f => f + by')))), false, { bl := B, tk := tk ++ h', ro, rt })) /\
   hI (.sl o' 1 (ao (l.map (fun f => f + by')))) 1 (ao (l.map (fun f => f + by'))) tk h' /\ ∀ out z' zs, hI out z' zs tk h -> hI out z' zs tk h' := by
 obtain ⟨h', h1, h2, h3⟩ := Ke 1 (ao (l.map (fun f => f + by'))) tk h
 obtain ⟨o', ho, _⟩ := qG 1 (tk ++ h).length (ao (l.map (fun f => f + by')))
 rw [ho] at h2
 refine ⟨o', h', fun B ro rt => ?_, h2, h3⟩
 have := LF hE (o := o) hl hw hb hk { bl := B, tk := tk ++ h, ro, rt }
 rw [this]
 simp only [ho, h1]
theorem H1 {a b : Au} {x y : AV} (ha : tU a x) (hb : tU b y) (hBa : Ba a) (hBb : Ba b) {k : Nat} (hk : 12000005 <= k) (s : St) :
  ∃ r, FI (lk a b) r /\ au E k none (.fn fh [] []) [x, y] s = some (.ret r, false, s) := by
 obtain ⟨k, rfl⟩ : ∃ j, k = j + 1 := ⟨k - 1, by omega⟩
 have g1 := w9 hE ha hBa k (by omega)
 have g2 := w9 hE hb hBb k (by omega)
 have gf := JX hE hb hBb.1 b.start k (by omega)
 obtain ⟨of, oe, ya, rfl, hea, _⟩ := ha
 obtain ⟨of', oe', yb, rfl, heb, _⟩ := hb
 have hla := hea.length
 have hlb := heb.length
 refine fK (xi hE) rfl (fun bl tk => ?_) s
 have q0 : ∀ (c : AB) (r : List AB), (bl ++ c :: r)[bl.length]? = some c := fun c r => by rw [ac]; rfl
 have q1 : ∀ (c d : AB) (r : List AB), (bl ++ c :: d :: r)[bl.length + 1]? = some d := fun c d r => by rw [aa]; rfl
 have q2 : ∀ (c d f : AB) (r : List AB), (bl ++ c :: d :: f :: r)[bl.length + 2]? = some f := fun c d f r => by rw [aa]; rfl
 have q3 : ∀ (c d e f : AB) (r : List AB), (bl ++ c :: d :: e :: f :: r)[bl.length + 3]? = some f := fun c d e f r => by rw [aa]; rfl
 have s2 : ∀ (c d e f : AB) (r : List AB), (bl ++ c :: d :: e :: r).set (bl.length + 2) f = bl ++ c :: d :: f :: r := fun c d e f r => by rw [aj]; rfl
 have s3 : ∀ (c d e f f' : AB) (r : List AB), (bl ++ c :: d :: e :: f :: r).set (bl.length + 3) f' = bl ++ c :: d :: e :: f' :: r := fun c d e f f' r => by rw [aj]; rfl
 have r2 : bl.length <= bl.length + 2 := by omega
 have r3 : bl.length <= bl.length + 3 := by omega
 by_cases h0 : cP a = 0
 ·rw [h0] at g1
  by_cases h1 : cP b = 0
  ·rw [h1] at g2
   have hga := Rg.of hBa h0
   have hgb := Rg.of hBb h1
   have hna := hga.n
   have hnb := hgb.n
   have hsa := hga.start
   have hsb := hgb.start
   have hop : lk a b = kq (BZ a b) := by unfold lk; rw [if_neg (by simp [h0]), if_neg (by simp [h1])]
   rw [hop]
   have w2 : IntKind.wrap .i64 (2 * a.n) = 2 * a.n := ar (by omega) (by omega)
   have w3 : IntKind.wrap .i64 (2 * a.n + b.n) = 2 * a.n + b.n := ar (by omega) (by omega)
   have w4 : IntKind.wrap .i64 (b.start + 2 * a.n) = b.start + 2 * a.n := ar (by omega) (by omega)
   have hmm : aO = 1073741824 := rfl
   have hea' := hga.edsL
   have heb' := hgb.edsL
   have hfa' := hga.finL
   have hfb' := hgb.finL
   -- the tail
   obtain ⟨ot, ht, ct, okt, _⟩ := DB hE (o := oe') heb (by omega) (by' := 2 * a.n) (inn := 2 * a.n) (by omega) (by omega) hgb.mid (k := k) (by omega) tk []
   obtain ⟨o1, h1', c1, ok1, _⟩ := DB hE (o := oe) hea (by omega) (by' := 0) (inn := a.n) (by omega) (by omega) hga.mid (k := k) (by omega) tk ht
   obtain ⟨o2, h2, c2, ok2, m2⟩ := DB hE (o := oe) hea (by omega) (by' := a.n) (inn := a.n) (by omega) (by omega) hga.mid (k := k) (by omega) tk h1'
   obtain ⟨Zt, hZt⟩ : ∃ Z, Z = yb.map (oR (2 * a.n) (2 * a.n)) := ⟨_, rfl⟩
   obtain ⟨Z1, hZ1⟩ : ∃ Z, Z = ya.map (oR 0 a.n) := ⟨_, rfl⟩
   obtain ⟨Z2, hZ2⟩ : ∃ Z, Z = ya.map (oR a.n a.n) := ⟨_, rfl⟩
   have rt' := p7 (by' := 2 * a.n) (inn := 2 * a.n) heb
   have ra1 := p7 (by' := 0) (inn := a.n) hea
   have ra2 := p7 (by' := a.n) (inn := a.n) hea
   rw [<- hZt] at ct okt rt'
   rw [<- hZ1] at c1 ok1 ra1
   rw [<- hZ2] at c2 ok2 ra2
   have hZtl : Zt.length = yb.length := by rw [hZt]; simp
   have hZ1l : Z1.length = ya.length := by rw [hZ1]; simp
   have hZ2l : Z2.length = ya.length := by rw [hZ2]; simp
   obtain ⟨v3, h3, a3, ok3⟩ := tV (ro := bl.length) (rt := tk.length) (o := o2) (ws := Z2) (m2 _ _ _ ok1) (by omega) (Nat.le_refl _)
   rw [ra2.2] at ok3
   obtain ⟨o3, hv3, _⟩ := ok3.sl
   subst hv3
   obtain ⟨v4, h4, a4, ok4⟩ := tV (ro := bl.length) (rt := tk.length) (o := ot) (ws := Zt) ok3 (by simp; omega) (Nat.le_refl _)
   rw [rt'.2] at ok4
   obtain ⟨o4, hv4, _⟩ := ok4.sl
   subst hv4
   simp only [List.append_nil] at ct
   simp [-getElem?_pos, List.getElem?_cons_zero, List.getElem?_cons_succ, eT, iB, q0, q1, q2, q3, s2, s3, r2, r3, g1, g2, w2, w3, aq, bE, ai, az, ct, c1, c2, a3, a4]
   obtain ⟨E0, hE0⟩ : ∃ E0, E0 = Z1 ++ (Z2 ++ Zt) := ⟨_, rfl⟩
   simp only [List.append_assoc] at ok4
   rw [<- hE0] at ok4 ⊢
   have hE0l : E0.length = ya.length + (ya.length + yb.length) := by rw [hE0]; simp; omega
   have rE0 : cL jq (a.eds.map (mN 0 a.n) ++ (a.eds.map (mN a.n a.n) ++ ud a b)) E0 := by rw [hE0]; exact fZ ra1.1 (fZ ra2.1 rt'.1)
   have uE0 : AV.untokL E0 = E0 := by rw [hE0, untokL_append, untokL_append, ra1.2, ra2.2, rt'.2]
   clear a3 a4 ct c1 c2 ok3 okt ok1 ok2 m2
   obtain ⟨sv, hsv⟩ : ∃ sv, sv = b.start + 2 * a.n := ⟨_, rfl⟩
   have w4' : IntKind.wrap .i64 sv = sv := by rw [hsv]; exact w4
   refine aA a.fin.length (fun i e' st => ∃ h o, hI (.sl o 8 (E0 ++ iK sv Zt (a.fin.take i))) 8 (E0 ++ iK sv Zt (a.fin.take i)) tk h /\ e' = [(2, .ptr bl.length 0), (3, .ptr (bl.length + 1) 0), (4, .ptr (bl.length + 2) 0), (8, .int .i64 a.n), (9, .ptr (bl.length + 3) 0), (10, .sl ot 8 Zt), (11, .int .i64 i)] /\ st = { bl := bl ++ [.cells [.int .i64 a.n, .int .i64 a.start, .sl of 1 (ao a.fin), .sl oe 8 ya], .cells [.int .i64 b.n, .int .i64 b.start, .sl of' 1 (ao b.fin), .sl oe' 8 yb], .cells [.int .i64 0, .int .i64 0, .sl .nil 1 [], .sl .nil 8 []], .cells [.int .i64 (2 * a.n + b.n), .int .i64 a.start, .sl .nil 1 [], .sl o 8 (E0 ++ iK sv Zt (a.fin.take i))]], tk := tk ++ h, ro := bl.length, rt := tk.length }) (by omega) ⟨h4, o4, by simpa [iK] using ok4, rfl, by simp [iK]⟩ ?_ ?_
   ·rintro i e' st hi ⟨h, o, ho, rfl, rfl⟩
    obtain ⟨f, hf⟩ : ∃ t, a.fin[i]? = some t := ⟨_, List.getElem?_eq_getElem (by omega)⟩
    have hx := ep hf
    obtain ⟨hi1, hx1⟩ := List.getElem?_eq_some_iff.1 hx
    have e1 : et (.int .i64 i) a.fin.length = some i := av hi
    have hwr : IntKind.wrap .i64 ((i : Int) + 1) = i + 1 := ar (by omega) (by omega)
    have gl := LE hE rt'.1 (o := ot) (by simp; omega) f sv k (by omega)
    obtain ⟨ol, hol, _⟩ := lG 8 (cR f sv Zt)
    rw [hol] at gl
    have hll := rD f sv Zt
    have hlm := Cf (st := sv) (Zt := Zt) (a.fin.take i)
    have hlm2 : (a.fin.take i).length * Zt.length <= 400 * 4000 := Nat.mul_le_mul (by rw [List.length_take]; omega) (by omega)
    obtain ⟨v', h', a5, ok5⟩ := tV (ro := bl.length) (rt := tk.length) (o := ol) (ws := cR f sv Zt) ho (by simp; omega) (Nat.le_refl _)
    rw [(xz rt'.1).2, List.append_assoc, <- EH hf] at ok5
    obtain ⟨o5, hv5, _⟩ := ok5.sl
    subst hv5
    simp [-getElem?_pos, List.getElem?_cons_zero, List.getElem?_cons_succ, gX, hi, e1, hx, hx1, hwr, q0, q1, q2, q3, s3, r3, w2, w4', <- hsv, gl, zq hE, a5]
    exact ⟨h', o5, ok5, rfl, rfl⟩
   ·rintro e' st ⟨h, o, ho, rfl, rfl⟩
    rw [List.take_of_length_le (Nat.le_refl _)] at ho ⊢
    obtain ⟨EE, hEE⟩ : ∃ EE, EE = E0 ++ iK sv Zt a.fin := ⟨_, rfl⟩
    rw [<- hEE] at ho ⊢
    have rEE : cL jq (wX a b) EE := by
     rw [hEE]
     have h1 := wu (st := sv) rt'.1 a.fin
     have h2 := fZ rE0 h1.1
     have e : wX a b = (a.eds.map (mN 0 a.n) ++ (a.eds.map (mN a.n a.n) ++ ud a b)) ++ a.fin.flatMap (fun f => uw (ud a b) f (b.start + 2 * a.n)) := by unfold wX; simp only [List.append_assoc]
     rw [e, <- hsv]
     exact h2
    have uEE : AV.untokL EE = EE := by rw [hEE, untokL_append, uE0, (wu (st := sv) rt'.1 a.fin).2]
    obtain ⟨p1, k1, d1, okp1, _⟩ := OH hE (l := a.fin) (o := of) (by' := a.n) (by omega) (fun f hf => by have := hga.fin f hf; omega) (by omega) (k := k) (by omega) tk h
    obtain ⟨p2, k2, d2, okp2, mp2⟩ := OH hE (l := b.fin) (o := of') (by' := 2 * a.n) (by omega) (fun f hf => by have := hgb.fin f hf; omega) (by omega) (k := k) (by omega) tk k1
    obtain ⟨v6, k3, a6, ok6⟩ := tV (ro := bl.length) (rt := tk.length) (o := p2) (ws := ao (b.fin.map (fun f => f + 2 * a.n))) (mp2 _ _ _ okp1) (by simp; omega) (Nat.le_refl _)
    rw [(cJ _).2, <- nh] at ok6
    obtain ⟨o6, hv6, _⟩ := ok6.sl
    subst hv6
    cases cf : MH b.fin b.start with
    | true =>
     rw [cf] at gf
     obtain ⟨v7, k4, a7, ok7⟩ := tV (ro := bl.length) (rt := tk.length) (o := of) (ws := ao a.fin) ok6 (by simp; omega) (Nat.le_refl _)
     rw [(cJ _).2, <- nh] at ok7
     obtain ⟨o7, hv7, _⟩ := ok7.sl
     subst hv7
     have hcf : a.fin.map (fun f => f + a.n) ++ b.fin.map (fun f => f + 2 * a.n) ++ a.fin = nz a b := by unfold nz; rw [cf]; rfl
     rw [hcf] at a7
     have gs := vD hE (l := nz a b) (o := o7) (by have := F2 hga hgb; omega) (k := k) (by omega)
     obtain ⟨o8, ho8, ho8n⟩ := lG 1 (ao (bg (nz a b)))
     rw [ho8] at gs
     have hR : tU (BZ a b) (.agg [.int .i64 (2 * a.n + b.n), .int .i64 a.start, .sl o8 1 (ao (bg (nz a b))), .sl o 8 EE]) := ⟨o8, o, EE, rfl, rEE, fun h => (by have := ho8n h; show bg (nz a b) = []; simpa [ao] using this), fun h => (by
      obtain ⟨oq, h1, h2, _⟩ := ho.sl
      cases h1; exact h2 h)⟩
     obtain ⟨r, ⟨xr, hr, hr2, hr3⟩, hc⟩ := Fy hE hR (fun h1 h2 => KE hga hgb h1 h2) (k := k) (by omega) { bl := bl ++ [.cells [.int .i64 a.n, .int .i64 a.start, .sl of 1 (ao a.fin), .sl oe 8 ya], .cells [.int .i64 b.n, .int .i64 b.start, .sl of' 1 (ao b.fin), .sl oe' 8 yb], .cells [.int .i64 0, .int .i64 0, .sl .nil 1 [], .sl .nil 8 []], .cells [.int .i64 (2 * a.n + b.n), .int .i64 a.start, .sl o8 1 (ao (bg (nz a b))), .sl o 8 EE]], tk := tk ++ k4, ro := bl.length, rt := tk.length }
     subst hr
     have hr2' := hr2
     obtain ⟨z1, z2, zs, rfl, hzs, _⟩ := hr2
     simp [-getElem?_pos, List.getElem?_cons_zero, List.getElem?_cons_succ, gX, q0, q1, q2, q3, s2, s3, r2, r3, w2, d1, d2, a6, gf, a7, gs, hc]
     exact w6 hr2' hr3
    | false =>
     rw [cf] at gf
     have hcf : a.fin.map (fun f => f + a.n) ++ b.fin.map (fun f => f + 2 * a.n) = nz a b := by unfold nz; rw [cf]; simp
     rw [hcf] at a6
     have gs := vD hE (l := nz a b) (o := o6) (by have := F2 hga hgb; omega) (k := k) (by omega)
     obtain ⟨o8, ho8, ho8n⟩ := lG 1 (ao (bg (nz a b)))
     rw [ho8] at gs
     have hR : tU (BZ a b) (.agg [.int .i64 (2 * a.n + b.n), .int .i64 a.start, .sl o8 1 (ao (bg (nz a b))), .sl o 8 EE]) := ⟨o8, o, EE, rfl, rEE, fun h => (by have := ho8n h; show bg (nz a b) = []; simpa [ao] using this), fun h => (by
      obtain ⟨oq, h1, h2, _⟩ := ho.sl
      cases h1; exact h2 h)⟩
     obtain ⟨r, ⟨xr, hr, hr2, hr3⟩, hc⟩ := Fy hE hR (fun h1 h2 => KE hga hgb h1 h2) (k := k) (by omega) { bl := bl ++ [.cells [.int .i64 a.n, .int .i64 a.start, .sl of 1 (ao a.fin), .sl oe 8 ya], .cells [.int .i64 b.n, .int .i64 b.start, .sl of' 1 (ao b.fin), .sl oe' 8 yb], .cells [.int .i64 0, .int .i64 0, .sl .nil 1 [], .sl .nil 8 []], .cells [.int .i64 (2 * a.n + b.n), .int .i64 a.start, .sl o8 1 (ao (bg (nz a b))), .sl o 8 EE]], tk := tk ++ k3, ro := bl.length, rt := tk.length }
     subst hr
     have hr2' := hr2
     obtain ⟨z1, z2, zs, rfl, hzs, _⟩ := hr2
     simp [-getElem?_pos, List.getElem?_cons_zero, List.getElem?_cons_succ, gX, q0, q1, q2, q3, s2, s3, r2, r3, w2, d1, d2, a6, gf, gs, hc]
     exact w6 hr2' hr3
  ·have hop : lk a b = (gN, cP b) := by unfold lk; rw [if_neg (by simp [h0]), if_pos h1]
   rw [hop]
   have h1' : (cP b != 0) = true := by simpa using h1
   simp [-getElem?_pos, List.getElem?_cons_zero, List.getElem?_cons_succ, eT, iB, q0, q1, q2, s2, r2, g1, g2, h1', h1, aq, bE, ai, az]
   exact ⟨_, bW (by rfl), _, rfl, mK, rfl⟩
 ·have hop : lk a b = (gN, cP a) := by unfold lk; rw [if_pos h0]
  rw [hop]
  have h0' : (cP a != 0) = true := by simpa using h0
  simp [-getElem?_pos, List.getElem?_cons_zero, List.getElem?_cons_succ, eT, iB, q0, q1, q2, s2, r2, g1, h0', h0, aq, bE, ai, az]
  exact ⟨_, bW (by rfl), _, rfl, mK, rfl⟩
end
open Go Ab
structure Bs where
 n : Int
 F : List Int
 E : List Ed
def Mu (p : Int) (k : Int) (s : List UInt8) : Ed := { fr := p, to := p + 1, kind := 1, sym := .mk k s [], exc := [], inner := 0 }
def wx (p n : Int) : Ed := { fr := p, to := p + 1, kind := 5, sym := .mk 0 [] [], exc := [], inner := n }
mutual
def rS (first : Int) (i : Nat) : Tm -> Bs -> Bs
 | .mk k s kids, st => if k = 4 then iD st.n 0 kids { n := st.n + (kids.length + 1), F := st.F ++ [st.n + kids.length], E := st.E ++ [wx (first + i) st.n] }
  else { st with E := st.E ++ [Mu (first + i) k s] }
def iD (first : Int) (i : Nat) : List Tm -> Bs -> Bs
 | [], st => st
 | t :: r, st => iD first (i + 1) r (rS first i t st)
end
def E1 (l : List Tm) (st : Bs) : Bs := iD st.n 0 l { n := st.n + (l.length + 1), F := st.F ++ [st.n + l.length], E := st.E }
theorem En {first : Int} {i : Nat} {t : Tm} {st : Bs} (h : t.kind = 4) : rS first i t st = E1 t.kids { st with E := st.E ++ [wx (first + i) st.n] } := by
 cases t with | mk k s kids => simp only [Tm.kind] at h; simp only [rS, if_pos h, E1, Tm.kids]
theorem ID {first : Int} {i : Nat} {t : Tm} {st : Bs} (h : t.kind ≠ 4) : rS first i t st = { st with E := st.E ++ [Mu (first + i) t.kind t.text] } := by
 cases t with | mk k s kids => simp only [Tm.kind] at h; simp only [rS, if_neg h, Tm.kind, Tm.text]
theorem IB (first : Int) : ∀ (l : List Tm) (j : Nat) (t : Tm) (st : Bs), iD first j (l ++ [t]) st = rS first (j + l.length) t (iD first j l st)
 | [], j, t, st => by simp [iD]
 | x :: l, j, t, st => by
  simp only [List.cons_append, iD, List.length_cons]
  rw [IB first l (j + 1) t, show j + 1 + l.length = j + (l.length + 1) by omega]
theorem IC {first : Int} {l : List Tm} {i : Nat} {t : Tm} (h : l[i]? = some t) (st : Bs) : iD first 0 (l.take (i + 1)) st = rS first i t (iD first 0 (l.take i) st) := by
 obtain ⟨hi, _⟩ := List.getElem?_eq_some_iff.1 h
 rw [List.take_succ, h, Option.toList_some, IB, List.length_take, show 0 + min i l.length = i by omega]
def Grow (m : Nat) (st st' : Bs) : Prop := st.n <= st'.n /\ st'.n <= st.n + m /\ st'.F.length <= st.F.length + m /\ st'.E.length <= st.E.length + m
theorem Grow.trans {m m' : Nat} {a b c : Bs} (h : Grow m a b) (h' : Grow m' b c) : Grow (m + m') a c := by
 obtain ⟨h1, h2, h3, h4⟩ := h
 obtain ⟨k1, k2, k3, k4⟩ := h'
 exact ⟨by omega, by omega, by omega, by omega⟩
theorem Grow.mono {m m' : Nat} {a b : Bs} (h : Grow m a b) (hm : m <= m') : Grow m' a b := by
 obtain ⟨h1, h2, h3, h4⟩ := h
 exact ⟨by omega, by omega, by omega, by omega⟩
mutual
theorem MS (first : Int) (i : Nat) : ∀ (t : Tm) (st : Bs), Grow (2 * nT t - 1) st (rS first i t st)
 | .mk k s kids, st => by
  have ih := vU st.n 0 kids { n := st.n + (kids.length + 1), F := st.F ++ [st.n + kids.length], E := st.E ++ [wx (first + i) st.n] }
  have hl := aC kids
  have hn : nT (.mk k s kids) = 1 + aV kids := by simp only [nT]
  rw [hn]
  simp only [rS]
  split
  ·obtain ⟨h1, h2, h3, h4⟩ := ih
   simp only [List.length_append, List.length_cons, List.length_nil] at h1 h2 h3 h4
   exact ⟨by omega, by omega, by omega, by omega⟩
  ·refine ⟨?_, ?_, ?_, ?_⟩
   ·show st.n <= st.n; omega
   ·show st.n <= st.n + _; omega
   ·show st.F.length <= _; omega
   ·show (st.E ++ [_]).length <= _; simp only [List.length_append, List.length_cons, List.length_nil]; omega
theorem vU (first : Int) (i : Nat) : ∀ (l : List Tm) (st : Bs), Grow (2 * aV l - l.length) st (iD first i l st)
 | [], st => by
  simp only [iD]
  exact ⟨by omega, by omega, by omega, by omega⟩
 | t :: r, st => by
  have h1 := MS first i t st
  have h2 := vU first (i + 1) r (rS first i t st)
  have hl := aC r
  have hp := GU t
  simp only [iD]
  refine (h1.trans h2).mono ?_
  simp only [aV, List.length_cons]; omega
end
theorem CE (l : List Tm) (st : Bs) : Grow (2 * aV l + 1) st (E1 l st) := by
 have h := vU st.n 0 l { n := st.n + (l.length + 1), F := st.F ++ [st.n + l.length], E := st.E }
 have hl := aC l
 obtain ⟨h1, h2, h3, h4⟩ := h
 simp only [List.length_append, List.length_cons, List.length_nil] at h1 h2 h3 h4
 exact ⟨by show _ <= (iD _ _ _ _).n; omega, by show (iD _ _ _ _).n <= _; omega, by show (iD _ _ _ _).F.length <= _; omega, by show (iD _ _ _ _).E.length <= _; omega⟩
open Go Ab Go.RowKit
set_option maxRecDepth 10000
def NY (p k : Int) (s : List UInt8) : AV := .agg [.int .i64 p, .int .i64 (p + 1), .int .i64 1, .int .i64 k, .str s, .sl .nil 3 [], .sl .nil 3 [], .int .i64 0]
def Ko (p n : Int) : AV := .agg [.int .i64 p, .int .i64 (p + 1), .int .i64 5, .int .i64 0, .str [], .sl .nil 3 [], .sl .nil 3 [], .int .i64 n]
theorem UU (p k : Int) (s : List UInt8) : jq (Mu p k s) (NY p k s) := ⟨_, _, rfl, Sl.nil, Sl.nil⟩
theorem UH (p n : Int) : jq (wx p n) (Ko p n) := ⟨_, _, rfl, Sl.nil, Sl.nil⟩
def Sy : gu -> Option Nat
 | .tok t => some t
 | _ => none
def Ir (o o' : gu) : Prop := ∀ t, Sy o = some t -> Sy o' = some t -> False
theorem Ir.symm {o o' : gu} (h : Ir o o') : Ir o' o := fun t h1 h2 => h t h2 h1
structure N3 (st : Bs) (tk h : List Nat) (oF oE : gu) (ys : List AV) : Prop where
 F : hI (.sl oF 1 (ao st.F)) 1 (ao st.F) tk h
 E : hI (.sl oE 8 ys) 8 ys tk h
 R : cL jq st.E ys
 u : AV.untokL ys = ys
 ap : Ir oF oE
theorem N7 {o : gu} {z : Nat} {ys : List AV} {tk h : List Nat} (ho : hI (.sl o z ys) z ys tk h) {o2 : gu} {z2 : Nat} {ys2 : List AV} (ho2 : hI (.sl o2 z2 ys2) z2 ys2 tk h) (hne : Ir o o2) {ro rt : Nat} {ow : gu} {w : AV} (hw : w.untok = w) (hl : ys.length + 1 <= aO) (hr : rt <= tk.length) :
  ∃ o' h', (∀ bl, oc { bl, tk := tk ++ h, ro, rt } z (.sl o z ys) (.sl ow z [w]) = some (.sl o' z (ys ++ [w]), { bl, tk := tk ++ h', ro, rt })) /\ hI (.sl o' z (ys ++ [w])) z (ys ++ [w]) tk h' /\ hI (.sl o2 z2 ys2) z2 ys2 tk h' /\ Ir o' o2 := by
 rcases ho with ⟨rfl, h1⟩ | ⟨q, h1, h2, h3⟩
 ·cases h1
  simp only [List.length_nil, Nat.zero_add] at hl
  refine ⟨.tok (tk.length + h.length), h ++ [1], fun bl => ?_, .inr ⟨h.length, by simp, by simp, by simp⟩, ho2.more _, ?_⟩
  ·simp [oc, oZ, AV.untokL, hl, hw]
  ·intro t e1 e2
   simp only [Sy, Option.some.injEq] at e1
   subst e1
   rcases ho2 with ⟨_, h5⟩ | ⟨q3, h5, h6, _⟩
   ·cases h5; cases e2
   ·simp only [AV.sl.injEq] at h5
    rw [h5.1] at e2
    simp only [Sy, Option.some.injEq] at e2
    obtain ⟨hq3, _⟩ := List.getElem?_eq_some_iff.1 h6
    omega
 ·simp only [AV.sl.injEq] at h1
  obtain ⟨rfl, _⟩ := h1
  obtain ⟨hq, _⟩ := List.getElem?_eq_some_iff.1 h2
  refine ⟨.tok (tk.length + q), h.set q (ys.length + 1), fun bl => ?_, .inr ⟨q, rfl, by simp [hq], by simp⟩, ?_, hne⟩
  ·have h5 : rt <= tk.length + q := by omega
   simp [oc, oZ, AV.untokL, hl, h5, h2, aa, hw]
  ·rcases ho2 with h5 | ⟨q3, h5, h6, h7⟩
   ·exact .inl h5
   ·refine .inr ⟨q3, h5, ?_, h7⟩
    simp only [AV.sl.injEq] at h5
    have : q ≠ q3 := fun e => hne (tk.length + q) rfl (by rw [h5.1, e]; rfl)
    rw [List.getElem?_set_ne this]; exact h6
theorem N3.addE {st : Bs} {tk h : List Nat} {oF oE : gu} {ys : List AV} (hb : N3 st tk h oF oE ys) {e : Ed} {w : AV} (hw : jq e w) (hu : w.untok = w) {ro rt : Nat} {ow : gu} (hl : ys.length + 1 <= aO) (hr : rt <= tk.length) :
  ∃ o' h', (∀ bl, oc { bl, tk := tk ++ h, ro, rt } 8 (.sl oE 8 ys) (.sl ow 8 [w]) = some (.sl o' 8 (ys ++ [w]), { bl, tk := tk ++ h', ro, rt })) /\ N3 { st with E := st.E ++ [e] } tk h' oF o' (ys ++ [w]) := by
 obtain ⟨o', h', h1, h2, h3, h4⟩ := N7 hb.E hb.F hb.ap.symm (ow := ow) hu hl hr
 exact ⟨o', h', h1, ⟨h3, h2, wc hb.R hw, by rw [untokL_append, hb.u]; simp [AV.untokL, hu], h4.symm⟩⟩
theorem N3.addF {st : Bs} {tk h : List Nat} {oF oE : gu} {ys : List AV} (hb : N3 st tk h oF oE ys) (f : Int) {ro rt : Nat} {ow : gu} (hl : st.F.length + 1 <= aO) (hr : rt <= tk.length) (n' : Int) :
  ∃ o' h', (∀ bl, oc { bl, tk := tk ++ h, ro, rt } 1 (.sl oF 1 (ao st.F)) (.sl ow 1 [.int .i64 f]) = some (.sl o' 1 (ao (st.F ++ [f])), { bl, tk := tk ++ h', ro, rt })) /\ N3 { n := n', F := st.F ++ [f], E := st.E } tk h' o' oE ys := by
 obtain ⟨o', h', h1, h2, h3, h4⟩ := N7 hb.F hb.E hb.ap (w := .int .i64 f) (ow := ow) (by simp [AV.untok]) (by simpa using hl) hr
 have e : ao (st.F ++ [f]) = ao st.F ++ [.int .i64 f] := by rw [nh]; rfl
 refine ⟨o', h', fun bl => by rw [e]; exact h1 bl, ⟨by rw [e]; exact h2, h3, hb.R, hb.u, h4⟩⟩
section
variable {E : ak} (hE : E.fns = af.fn ag)
include hE
theorem QO (m : Nat) : ∀ {ts : List Tm} {v : AV}, aV ts < m -> aV ts <= 1048576 -> Sl ts v -> ∀ {st : Bs} {S : Int} {B : List AB} {tk h : List Nat} {ro rt : Nat} {oF oE : gu} {ys : List AV}, 0 <= st.n -> st.n + 2 * aV ts + 1 <= 16777216 -> st.F.length + 2 * aV ts + 1 <= 16777216 -> st.E.length + 2 * aV ts + 1 <= 16777216 ->
  ro <= B.length -> rt <= tk.length -> N3 st tk h oF oE ys -> ∀ {k : Nat}, 2 * aV ts + 3 <= k ->
  ∃ oF' oE' ys' h' g, au E k none (.fn fT [] []) [.agg [.int .i64 st.n, .int .i64 S, .sl oF 1 (ao st.F), .sl oE 8 ys], v] { bl := B, tk := tk ++ h, ro, rt } =
    some (.ret (.agg [.int .i64 (E1 ts st).n, .int .i64 S, .sl oF' 1 (ao (E1 ts st).F), .sl oE' 8 ys']), false, { bl := B ++ g, tk := tk ++ h', ro, rt }) /\ N3 (E1 ts st) tk h' oF' oE' ys' := by
 induction m with
 | zero => intro ts v h; omega
 | succ m ih =>
  intro ts v hm hn hv st S B tk h ro rt oF oE ys n0 n1 n2 n3 hro hrt hbt k hk
  obtain ⟨k, rfl⟩ : ∃ j, k = j + 1 := ⟨k - 1, by omega⟩
  obtain ⟨o1, xs, rfl, ⟨hm1, hnil⟩, h1⟩ := hv
  have hl1 := h1.length
  have hlt := aC ts
  have hmm : aO = 1073741824 := rfl
  have q0 : ∀ (c : AB) (r : List AB), (B ++ c :: r)[B.length]? = some c := fun c r => by rw [ac]; rfl
  have q1 : ∀ (c d : AB) (r : List AB), (B ++ c :: d :: r)[B.length + 1]? = some d := fun c d r => by rw [aa]; rfl
  have s0 : ∀ (c f : AB) (r : List AB), (B ++ c :: r).set B.length f = B ++ f :: r := fun c f r => by rw [aB]; rfl
  have s1 : ∀ (c d f : AB) (r : List AB), (B ++ c :: d :: r).set (B.length + 1) f = B ++ c :: f :: r := fun c d f r => by rw [aj]; rfl
  have r1 : ro <= B.length + 1 := by omega
  have w1 : IntKind.wrap .i64 ((ts.length : Int) + 1) = ts.length + 1 := ar (by omega) (by omega)
  have w2 : IntKind.wrap .i64 (st.n + ((ts.length : Int) + 1)) = st.n + (ts.length + 1) := ar (by omega) (by omega)
  have w3 : IntKind.wrap .i64 (st.n + (ts.length : Int)) = st.n + ts.length := ar (by omega) (by omega)
  obtain ⟨oF1, h1', a1, hb1⟩ := hbt.addF (st.n + ts.length) (ro := ro) (rt := rt) (ow := .full) (by omega) hrt (st.n + (ts.length + 1))
  obtain ⟨st1, hst1⟩ : ∃ s1, s1 = ({ n := st.n + (ts.length + 1), F := st.F ++ [st.n + ts.length], E := st.E } : Bs) := ⟨_, rfl⟩
  rw [<- hst1] at hb1
  have hfin : E1 ts st = iD st.n 0 ts st1 := by rw [hst1]; rfl
  rw [hfin]
  have hn1 : st1.n = st.n + (ts.length + 1) := by rw [hst1]
  have hF1 : st1.F = st.F ++ [st.n + ts.length] := by rw [hst1]
  have hE1 : st1.E = st.E := by rw [hst1]
  rw [<- hF1] at a1
  obtain ⟨vr, sr, hc, oF', oE', ys', h', g, rfl, rfl, hb'⟩ := cI (yK hE) (first := []) (caps := []) (args := [.agg [.int .i64 st.n, .int .i64 S, .sl oF 1 (ao st.F), .sl oE 8 ys], .sl o1 3 xs]) rfl (k := k) (s := { bl := B, tk := tk ++ h, ro, rt })
   (Post := fun v s' => ∃ oF' oE' ys' h' g, v = .agg [.int .i64 (iD st.n 0 ts st1).n, .int .i64 S, .sl oF' 1 (ao (iD st.n 0 ts st1).F), .sl oE' 8 ys'] /\ s' = { bl := B ++ g, tk := tk ++ h', ro, rt } /\ N3 (iD st.n 0 ts st1) tk h' oF' oE' ys') (by
   simp [-getElem?_pos, List.getElem?_cons_zero, List.getElem?_cons_succ, mi, qY, jk, q0, q1, s0, s1, r1, hro, hl1, w1, w2, w3, aq, bE, ai, az, a1]
   refine aA ts.length (fun i e' st' => ∃ oF oE ys h g, N3 (iD st.n 0 (ts.take i) st1) tk h oF oE ys /\ e' = [(1, .sl o1 3 xs), (2, .ptr B.length 0), (4, .ptr (B.length + 1) 0), (5, .int .i64 st.n), (6, .int .i64 i)] /\ st' = { bl := B ++ .cells [.int .i64 (iD st.n 0 (ts.take i) st1).n, .int .i64 S, .sl oF 1 (ao (iD st.n 0 (ts.take i) st1).F), .sl oE 8 ys] :: .cells [.int .i64 0, .int .i64 0, .sl .nil 1 [], .sl .nil 8 []] :: g, tk := tk ++ h, ro, rt }) (by omega) ⟨oF1, oE, ys, h1', [], by simpa [iD] using hb1, rfl, by simp [iD, hn1]⟩ ?_ ?_
   ·rintro i e' st' hi ⟨oF, oE, ys, h, g, hb, rfl, rfl⟩
    obtain ⟨t, ht⟩ : ∃ t, ts[i]? = some t := ⟨_, List.getElem?_eq_getElem hi⟩
    obtain ⟨x, hx, hrt'⟩ := h1.get ht
    obtain ⟨kv, rfl, hkv⟩ := hrt'.open
    obtain ⟨ok, ks, hke, hlk⟩ := hkv.len
    subst hke
    obtain ⟨hi1, hx1⟩ := List.getElem?_eq_some_iff.1 hx
    have hgr := vU st.n 0 (ts.take i) st1
    have hst := IC (first := st.n) ht st1
    obtain ⟨si, hsi⟩ : ∃ s, s = iD st.n 0 (ts.take i) st1 := ⟨_, rfl⟩
    rw [<- hsi] at hb hgr hst ⊢
    have hsp : aV ts = aV (ts.take i) + nT t + aV (ts.drop (i + 1)) := by
     have e : ts = ts.take i ++ t :: ts.drop (i + 1) := by
      obtain ⟨hi2, ht2⟩ := List.getElem?_eq_some_iff.1 ht
      rw [<- ht2, <- List.drop_eq_getElem_cons hi2, List.take_append_drop]
     have := congrArg aV e
     rw [kp] at this
     simp only [aV] at this
     omega
    have hrest := aC (ts.drop (i + 1))
    rw [List.length_drop] at hrest
    have htk := aC (ts.take i)
    rw [List.length_take] at hgr htk
    rw [Nat.min_eq_left (by omega)] at hgr htk
    obtain ⟨g1, g2, g3, g4⟩ := hgr
    rw [hn1] at g1 g2
    rw [hF1, List.length_append] at g3
    simp only [List.length_cons, List.length_nil] at g3
    rw [hE1] at g4
    have hnt := g7 t
    have hyl := hb.R.length
    have e1 : et (.int .i64 i) ts.length = some i := av (by omega)
    have hil : (i : Int) < (xs.length : Int) := by omega
    have hwr : IntKind.wrap .i64 ((i : Int) + 1) = i + 1 := ar (by omega) (by omega)
    have wa : IntKind.wrap .i64 (st.n + (i : Int)) = st.n + i := ar (by omega) (by omega)
    have wb : IntKind.wrap .i64 (st.n + (i : Int) + 1) = st.n + i + 1 := ar (by omega) (by omega)
    by_cases k4 : t.kind = 4
    ·have k4' : (t.kind != 4) = false := by simp [k4]
     rw [En k4] at hst
     obtain ⟨oE2, h2, a2, hb2⟩ := hb.addE (e := wx (st.n + i) si.n) (w := Ko (st.n + i) si.n) (UH _ _) (by simp [Ko, AV.untok, AV.untokL]) (ro := ro) (rt := rt) (ow := .full) (by omega) hrt
     obtain ⟨oF3, oE3, ys3, h3, g3', hcc, hb3⟩ := ih (ts := t.kids) (by omega) (by omega) hkv (st := { si with E := si.E ++ [wx (st.n + i) si.n] }) (S := S) (B := B ++ .cells [.int .i64 si.n, .int .i64 S, .sl oF 1 (ao si.F), .sl oE2 8 (ys ++ [Ko (st.n + i) si.n])] :: .cells [.int .i64 0, .int .i64 0, .sl .nil 1 [], .sl .nil 8 []] :: g) (tk := tk) (ro := ro) (rt := rt) (by show 0 <= si.n; omega) (by show si.n + _ + 1 <= _; omega) (by show si.F.length + _ + 1 <= _; omega) (by show (si.E ++ [_]).length + _ + 1 <= _; simp only [List.length_append, List.length_cons, List.length_nil]; omega) (by simp; omega) hrt hb2 (k := k) (by omega)
     rw [<- hst] at hcc hb3
     simp only [List.append_assoc, List.cons_append] at hcc
     simp only [Ko] at a2 hcc
     simp [-getElem?_pos, List.getElem?_cons_zero, List.getElem?_cons_succ, iF, hl1, hi, hil, e1, hx, hx1, hwr, wa, wb, q0, s0, hro, k4, k4', aq, bE, ai, az, a2, hcc]
     exact ⟨oF3, oE3, ys3, hb3, rfl, rfl, rfl⟩
    ·have k4' : (t.kind != 4) = true := by simpa using k4
     rw [ID k4] at hst
     obtain ⟨oE2, h2, a2, hb2⟩ := hb.addE (e := Mu (st.n + i) t.kind t.text) (w := NY (st.n + i) t.kind t.text) (UU _ _ _) (by simp [NY, AV.untok, AV.untokL]) (ro := ro) (rt := rt) (ow := .full) (by omega) hrt
     rw [<- hst] at hb2
     have hn2 : (iD st.n 0 (ts.take (i + 1)) st1).n = si.n := by rw [hst]
     have hF2 : (iD st.n 0 (ts.take (i + 1)) st1).F = si.F := by rw [hst]
     simp only [NY] at a2
     simp [-getElem?_pos, List.getElem?_cons_zero, List.getElem?_cons_succ, iF, hl1, hi, hil, e1, hx, hx1, hwr, wa, wb, q0, s0, hro, k4, k4', aq, bE, ai, az, a2, hn2, hF2]
     exact ⟨oF, oE2, _, hb2, rfl, rfl, rfl⟩
   ·rintro e' st' ⟨oF, oE, ys, h, g, hb, rfl, rfl⟩
    rw [List.take_of_length_le (Nat.le_refl _)] at hb ⊢
    simp [-getElem?_pos, List.getElem?_cons_zero, List.getElem?_cons_succ, iF, hl1, q0, q1, s1, r1, cD]
    exact ⟨oF, oE, ys, ⟨rfl, rfl, rfl⟩, hb⟩)
  exact ⟨oF', oE', ys', h', g, hc, hb'⟩
end
open Go Ab Go.RowKit
set_option maxRecDepth 10000
def Up (st : Bs) : Prop := 0 <= st.n /\ (∀ f ∈ st.F, 0 <= f /\ f < st.n) /\ ∀ e ∈ st.E, RJ st.n e
theorem RJ.mono {n m : Int} {e : Ed} (h : RJ n e) (hm : n <= m) : RJ m e := by
 obtain ⟨h1, h2, h3, h4⟩ := h
 exact ⟨by omega, by omega, fun k => by have := h3 k; omega, h4⟩
theorem Tu {k : Int} {s : List UInt8} (h : s.length <= 1048576) : Bt [.mk k s []] := ⟨by simp [aV, nT], fun t ht => by
 have : bI [Tm.mk k s []] = [Tm.mk k s []] := by rw [el]; rfl
 rw [this] at ht
 simp only [List.mem_cons, List.mem_nil_iff, or_false] at ht
 subst ht; exact h⟩
theorem Bt.tail {t : Tm} {ts : List Tm} (h : Bt (t :: ts)) : Bt ts := h.sub ⟨[t], [], by simp⟩
theorem Bt.head {t : Tm} {ts : List Tm} (h : Bt (t :: ts)) : Bt [t] := h.sub ⟨[], ts, by simp⟩
mutual
theorem Qq (first : Int) (i : Nat) : ∀ (t : Tm) (st : Bs), Bt [t] -> Up st -> 0 <= first -> first + i + 1 < st.n -> Up (rS first i t st) /\ st.n <= (rS first i t st).n
 | .mk k s kids, st, hb, ⟨h0, hF, hE⟩, hf, hlt => by
  have hk : Bt kids := hb.kids
  simp only [rS]
  split
  ·have := JF st.n 0 kids { n := st.n + (kids.length + 1), F := st.F ++ [st.n + kids.length], E := st.E ++ [wx (first + i) st.n] } hk ⟨by show 0 <= st.n + _; omega, fun f hf' => by
    show 0 <= f /\ f < st.n + _
    rcases List.mem_append.1 hf' with h | h
    ·have := hF f h; omega
    ·simp at h; omega, fun e he => by
    show RJ (st.n + _) e
    rcases List.mem_append.1 he with h | h
    ·exact (hE e h).mono (by omega)
    ·simp only [List.mem_cons, List.mem_nil_iff, or_false] at h
     subst h
     exact ⟨by simp only [wx]; omega, by simp only [wx]; omega, fun _ => by simp only [wx]; omega, fun h => absurd rfl h, Fv, p8⟩⟩ h0 (by show st.n + 0 + _ < st.n + _; omega)
   exact ⟨this.1, by have := this.2; simp only at this; omega⟩
  ·refine ⟨⟨h0, hF, fun e he => ?_⟩, by simp⟩
   rcases List.mem_append.1 he with h | h
   ·exact hE e h
   ·simp only [List.mem_cons, List.mem_nil_iff, or_false] at h
    subst h
    exact ⟨by show 0 <= first + i /\ first + i < st.n; omega, by show 0 <= first + i + 1 /\ first + i + 1 < st.n; omega, fun h => by simp [Mu] at h, fun _ => rfl, Tu hb.text, p8⟩
theorem JF (first : Int) (i : Nat) : ∀ (l : List Tm) (st : Bs), Bt l -> Up st -> 0 <= first -> first + i + l.length < st.n -> Up (iD first i l st) /\ st.n <= (iD first i l st).n
 | [], st, _, h, _, _ => by simp only [iD]; exact ⟨h, by omega⟩
 | t :: r, st, hb, h, hf, hlt => by
  simp only [List.length_cons] at hlt
  have h1 := Qq first i t st hb.head h hf (by omega)
  have h2 := JF first (i + 1) r (rS first i t st) hb.tail h1.1 hf (by omega)
  simp only [iD]
  exact ⟨h2.1, by omega⟩
end
def b0 : Bs := ⟨0, [], []⟩
def MG (ts : List Tm) : Au := { n := (E1 ts b0).n, start := 0, fin := bg (E1 ts b0).F, eds := (E1 ts b0).E }
theorem Tp {ts : List Tm} (hb : Bt ts) : Up (E1 ts b0) /\ ts.length + 1 <= (E1 ts b0).n := by
 have := JF 0 0 ts { n := 0 + (ts.length + 1), F := [0 + ts.length], E := [] } hb ⟨by show (0 : Int) <= 0 + _; omega, fun f hf => by
  show 0 <= f /\ f < 0 + _
  simp at hf; omega, fun e he => by cases he⟩ (by omega) (by show (0 : Int) + 0 + _ < 0 + _; omega)
 exact ⟨this.1, by have h := this.2; simp only at h; show _ <= (iD 0 0 ts _).n; simp only [b0, List.nil_append] at h ⊢; omega⟩
theorem Ry {ts : List Tm} (hb : Bt ts) (hn4 : aV ts <= 4000) (h1 : (MG ts).n <= 400) (h2 : (MG ts).eds.length <= 4000) : Tr (MG ts) := by
 obtain ⟨⟨a1, a2, a3⟩, a4⟩ := Tp hb
 have hg := (CE ts b0).2.2.1
 have hl := qI (E1 ts b0).F
 have hn := hb.1
 have e0 : b0.F.length = 0 := rfl
 refine ⟨⟨by show 1 <= (E1 ts b0).n; omega, by omega⟩, ⟨by show (0 : Int) <= 0; omega, by show 0 < (E1 ts b0).n; omega⟩, ?_, ?_, by omega, ?_⟩
 ·show (bg (E1 ts b0).F).length <= _
  omega
 ·intro f hf
  rcases wB hf with hf | hf
  ·exact a2 f hf
  ·cases hf
 ·exact a3
theorem DE {k : Int} {ts : List Tm} (h : dm k ts = 0) : aV ts <= 4000 := by
 unfold dm at h
 split at h
 ·omega
 ·omega
noncomputable def mO (ts : List Tm) : Au × Int := if dm 4 ts ≠ 0 then (gN, dm 4 ts) else kq (MG ts)
section
variable {E : ak} (hE : E.fns = af.fn ag)
include hE
theorem zB {ts : List Tm} {v : AV} (hv : Sl ts v) (hb : Bt ts) {k : Nat} (hk : 12000005 <= k) (s : St) :
  ∃ r, FI (mO ts) r /\ au E k none (.fn eH [] []) [v] s = some (.ret r, false, s) := by
 obtain ⟨k, rfl⟩ : ∃ j, k = j + 1 := ⟨k - 1, by omega⟩
 have hn := hb.1
 have g1 := CX hE hv (M := 1048576) (by have := hb.1; rw [show aO = 1073741824 from rfl]; omega) I7 hb.2 k (by omega)
 have hv0 := hv
 obtain ⟨ov, xs, rfl, _⟩ := hv.len
 refine fK (wi hE) rfl (fun bl tk => ?_) s
 have q0 : ∀ (c : AB) (r : List AB), (bl ++ c :: r)[bl.length]? = some c := fun c r => by rw [ac]; rfl
 have q1 : ∀ (c d : AB) (r : List AB), (bl ++ c :: d :: r)[bl.length + 1]? = some d := fun c d r => by rw [aa]; rfl
 have s0 : ∀ (c f : AB) (r : List AB), (bl ++ c :: r).set bl.length f = bl ++ f :: r := fun c f r => by rw [aB]; rfl
 have s1 : ∀ (c d f : AB) (r : List AB), (bl ++ c :: d :: r).set (bl.length + 1) f = bl ++ c :: f :: r := fun c d f r => by rw [aj]; rfl
 by_cases h0 : dm 4 ts = 0
 ·rw [h0] at g1
  have hop : mO ts = kq (MG ts) := by unfold mO; rw [if_neg (by simp [h0])]
  rw [hop]
  have hn4 := DE h0
  have hg := CE ts b0
  obtain ⟨o1, o2, ys, h', g, hc, hbt⟩ := QO hE _ (Nat.lt_succ_self _) hn hv0 (st := b0) (S := 0) (B := bl ++ [.cells [.int .i64 0, .int .i64 0, .sl .nil 1 [], .sl .nil 8 []]]) (tk := tk) (h := []) (ro := bl.length) (rt := tk.length) (oF := .nil) (oE := .nil) (ys := []) (by simp [b0]) (by simp only [b0]; omega) (by simp only [b0, List.length_nil]; omega) (by simp only [b0, List.length_nil]; omega) (by simp) (Nat.le_refl _) ⟨.inl ⟨rfl, rfl⟩, .inl ⟨rfl, rfl⟩, rfl, rfl, fun t h => by cases h⟩ (k := k) (by omega)
  simp only [List.append_nil, b0, ao, List.map_nil, List.append_assoc, List.cons_append, List.nil_append] at hc
  obtain ⟨D, hD⟩ : ∃ D, D = E1 ts b0 := ⟨_, rfl⟩
  have hD' : E1 ts { n := 0, F := [], E := [] } = D := by rw [hD]; rfl
  rw [hD'] at hc
  rw [<- hD] at hbt hg
  have hFl : D.F.length <= 1048576 := by have := hg.2.2.1; simp only [b0, List.length_nil] at this; omega
  have gs := vD hE (l := D.F) (o := o1) hFl (k := k) (by omega)
  obtain ⟨o8, ho8, ho8n⟩ := lG 1 (ao (bg D.F))
  rw [ho8] at gs
  have hex : MG ts = { n := D.n, start := 0, fin := bg D.F, eds := D.E } := by rw [hD]; rfl
  have hR : tU (MG ts) (.agg [.int .i64 D.n, .int .i64 0, .sl o8 1 (ao (bg D.F)), .sl o2 8 ys]) := by
   rw [hex]
   refine ⟨o8, o2, ys, rfl, hbt.R, fun h => ?_, fun h => ?_⟩
   ·have := ho8n h; show bg D.F = []; simpa [ao] using this
   ·obtain ⟨oq, h1, h2, _⟩ := hbt.E.sl
    cases h1; exact h2 h
  have hFe : (ao D.F) = List.map (AV.int IntKind.i64) D.F := rfl
  simp only [hFe] at gs
  have q2 : ∀ (f : AB), (bl ++ .cells [.int .i64 0, .int .i64 0, .sl .nil 1 [], .sl .nil 8 []] :: (g ++ [f]))[bl.length + (g.length + 1)]? = some f := fun f => by rw [aa]; simp
  have t2 : ∀ (f f' : AB), (bl ++ .cells [.int .i64 0, .int .i64 0, .sl .nil 1 [], .sl .nil 8 []] :: (g ++ [f])).set (bl.length + (g.length + 1)) f' = bl ++ .cells [.int .i64 0, .int .i64 0, .sl .nil 1 [], .sl .nil 8 []] :: (g ++ [f']) := fun f f' => by rw [aj]; simp
  have r2 : bl.length <= bl.length + (g.length + 1) := by omega
  obtain ⟨r, ⟨xr, hr, hr2, hr3⟩, hcf⟩ := Fy hE hR (fun h1 h2 => Ry hb hn4 h1 h2) (k := k) (by omega) { bl := bl ++ .cells [.int .i64 0, .int .i64 0, .sl .nil 1 [], .sl .nil 8 []] :: (g ++ [.cells [.int .i64 D.n, .int .i64 0, .sl o8 1 (ao (bg D.F)), .sl o2 8 ys]]), tk := tk ++ h', ro := bl.length, rt := tk.length }
  subst hr
  have hr2' := hr2
  obtain ⟨z1, z2, zs, rfl, hzs, _⟩ := hr2
  simp [-getElem?_pos, List.getElem?_cons_zero, List.getElem?_cons_succ, gP, kL, q0, q1, q2, s0, s1, t2, r2, g1, aq, bE, ai, az, hc, gs, hcf]
  exact w6 hr2' hr3
 ·have hop : mO ts = (gN, dm 4 ts) := by unfold mO; rw [if_pos h0]
  rw [hop]
  have h0' : (dm 4 ts != 0) = true := by simpa using h0
  simp [-getElem?_pos, List.getElem?_cons_zero, List.getElem?_cons_succ, gP, kL, q0, q1, s0, s1, g1, h0', h0, aq, bE, ai, az]
  exact ⟨_, bW (by rfl), _, rfl, mK, rfl⟩
end
open Go Ab Go.RowKit
set_option maxRecDepth 10000
def Kh : AV := .iface 129 (.agg [.int .i64 7])
theorem H8 {pf : AV} (hnp : AV.plain pf = false) (s : St) : gc .pure none [pf] s = { bl := s.bl, tk := s.tk, ro := s.bl.length, rt := s.tk.length } := by
 simp [gc, z8, AV.plainL, hnp, jk]
section
variable {E : ak} (hE : E.fns = af.fn ag)
include hE
theorem Q2 {k : Nat} (s : St) : au E (k + 1) none (.fn qw [] []) [.int .i64 7] s = some (.pan Kh, false, s) := by
 have hp : gc .pure none [.int .i64 7] s = { bl := [], tk := [], ro := 0, rt := 0 } := rfl
 simp [au, GB hE, tO, zf, wA, hp, hJ, cD, Kh]
theorem JZ {k : Nat} {i2 i3 : Nat} (s : St) : au E (k + 1) none (.fn fq [] [.ptr i2 0, .ptr i3 0]) [] s = some (.ret (.tup []), false, s) := by
 have hp : ∀ l, gc .eff none l s = s := fun l => rfl
 simp [au, oa hE, ky, n9, wA, hp, hJ, cD, HN]
theorem C1 {k : Nat} {bl : List AB} {c0 c1 c2 c3 d : AV} {tk : List Nat} : au E (k + 1) (some Kh) (.fn fq [] [.ptr bl.length 0, .ptr (bl.length + 1) 0]) [] { bl := bl ++ [.cells [c0, c1, c2, c3], .cells [d]], tk, ro := bl.length, rt := tk.length } =
  some (.ret (.tup []), true, { bl := bl ++ [.cells [.int .i64 0, .int .i64 0, .sl .nil 1 [], .sl .nil 8 []], .cells [.int .i64 7], .cells [.int .i64 7]], tk, ro := bl.length, rt := tk.length }) := by
 have hp : ∀ p l s, gc .eff p l s = s := fun p l s => rfl
 have q0 : ∀ (c : AB) (r : List AB), (bl ++ c :: r)[bl.length]? = some c := fun c r => by rw [ac]; rfl
 have q1 : ∀ (c d : AB) (r : List AB), (bl ++ c :: d :: r)[bl.length + 1]? = some d := fun c d r => by rw [aa]; rfl
 have q2 : ∀ (c d e : AB) (r : List AB), (bl ++ c :: d :: e :: r)[bl.length + 2]? = some e := fun c d e r => by rw [aa]; rfl
 have s0 : ∀ (c f : AB) (r : List AB), (bl ++ c :: r).set bl.length f = bl ++ f :: r := fun c f r => by rw [aB]; rfl
 have s1 : ∀ (c d f : AB) (r : List AB), (bl ++ c :: d :: r).set (bl.length + 1) f = bl ++ c :: f :: r := fun c d f r => by rw [aj]; rfl
 have s2 : ∀ (c d e f : AB) (r : List AB), (bl ++ c :: d :: e :: r).set (bl.length + 2) f = bl ++ c :: d :: f :: r := fun c d e f r => by rw [aj]; rfl
 have r1 : bl.length <= bl.length + 1 := by omega
 have r2 : bl.length <= bl.length + 2 := by omega
 simp [-getElem?_pos, List.getElem?_cons_zero, List.getElem?_cons_succ, au, oa hE, ky, n9, wA, hp, hJ, cD, HN, Kh, q0, q1, q2, s0, s1, s2, r1, r2]
theorem B9 {pf : AV} (hnp : AV.plain pf = false) {a : Au} {k : Nat} (hk : 6000003 <= k) {s : St}
  (hf : ∀ r tk ro rt, ∃ x, (tU a x /\ x.untok = x /\ Ur x) /\ au E (k - 1) none pf [] { bl := s.bl ++ r, tk, ro, rt } = some (.ret x, false, { bl := s.bl ++ r, tk, ro, rt })) (ht : a.n <= 400 -> a.eds.length <= 4000 -> Tr a) :
  ∃ r, FI (kq a) r /\ au E k none (.fn g9 [] []) [pf] s = some (.ret r, false, s) := by
 obtain ⟨k, rfl⟩ : ∃ j, k = j + 1 := ⟨k - 1, by omega⟩
 obtain ⟨k, rfl⟩ : ∃ j, k = j + 1 := ⟨k - 1, by omega⟩
 rw [show k + 1 + 1 - 1 = k + 1 by omega] at hf
 obtain ⟨bl, tk, ro, rt⟩ := s
 obtain ⟨x, ⟨hx, hxu, hun⟩, hc⟩ := hf [.cells [.int .i64 0, .int .i64 0, .sl .nil 1 [], .sl .nil 8 []], .cells [.int .i64 0]] tk bl.length tk.length
 have hx0 := hx
 obtain ⟨of, oe, ys, rfl, hes, _⟩ := hx
 have hly := hes.length
 have q0 : ∀ (c : AB) (r : List AB), (bl ++ c :: r)[bl.length]? = some c := fun c r => by rw [ac]; rfl
 have q1 : ∀ (c d : AB) (r : List AB), (bl ++ c :: d :: r)[bl.length + 1]? = some d := fun c d r => by rw [aa]; rfl
 have s0 : ∀ (c f : AB) (r : List AB), (bl ++ c :: r).set bl.length f = bl ++ f :: r := fun c f r => by rw [aB]; rfl
 have s1 : ∀ (c d f : AB) (r : List AB), (bl ++ c :: d :: r).set (bl.length + 1) f = bl ++ c :: f :: r := fun c d f r => by rw [aj]; rfl
 have r1 : bl.length <= bl.length + 1 := by omega
 have hst := H8 hnp { bl, tk, ro, rt }
 simp only at hst
 have own : EL E (.fn fq [] [.ptr bl.length 0, .ptr (bl.length + 1) 0]) = true := by
  simp [EL, oa hE]
 have gn := fun st => JZ hE (k := k) (i2 := bl.length) (i3 := bl.length + 1) st
 by_cases h1 : 400 < a.n
 ·have hfA : kq a = (gN, 7) := by unfold kq; rw [if_pos (by simp [h1])]
  rw [hfA]
  have gs := C1 hE (k := k) (bl := bl) (c0 := .int .i64 a.n) (c1 := .int .i64 a.start) (c2 := .sl of 1 (ao a.fin)) (c3 := .sl oe 8 ys) (d := .int .i64 0) (tk := tk)
  have gm := fun st => Q2 hE (k := k) st
  refine ⟨.tup [vz, .int .i64 7], ⟨_, rfl, mK, rfl⟩, ?_⟩
  rw [au]
  simp [-getElem?_pos, List.getElem?_cons_zero, List.getElem?_cons_succ, qk hE, jT, mD, wA, hst, hc, q0, q1, s0, s1, r1, h1, gm, hJ, own, gs, cD, aq, bE, ai, az, vz]
 ·by_cases h2 : (4000 : Int) < a.eds.length
  ·have hfA : kq a = (gN, 7) := by unfold kq; rw [if_pos (by simp [h2])]
   rw [hfA]
   have gs := C1 hE (k := k) (bl := bl) (c0 := .int .i64 a.n) (c1 := .int .i64 a.start) (c2 := .sl of 1 (ao a.fin)) (c3 := .sl oe 8 ys) (d := .int .i64 0) (tk := tk)
   have gm := fun st => Q2 hE (k := k) st
   refine ⟨.tup [vz, .int .i64 7], ⟨_, rfl, mK, rfl⟩, ?_⟩
   rw [au]
   simp [-getElem?_pos, List.getElem?_cons_zero, List.getElem?_cons_succ, qk hE, jT, mD, wA, hst, hc, q0, q1, s0, s1, r1, h1, hly, h2, gm, hJ, own, gs, cD, aq, bE, ai, az, vz]
  ·have hfA : kq a = (lZ a, 0) := by unfold kq; rw [if_neg (by simp [h1, h2])]
   rw [hfA]
   obtain ⟨r, ⟨hr, hru⟩, hct⟩ := Sm hE hx0 hun (ht (by omega) (by omega)) (k := k) (by omega) { bl := bl ++ [.cells [.int .i64 a.n, .int .i64 a.start, .sl of 1 (ao a.fin), .sl oe 8 ys], .cells [.int .i64 0]], tk, ro := bl.length, rt := tk.length }
   have hr0 := hr
   obtain ⟨of', oe', ys', rfl, hes', _⟩ := hr
   refine ⟨.tup [.agg [.int .i64 (lZ a).n, .int .i64 (lZ a).start, .sl of' 1 (ao (lZ a).fin), .sl oe' 8 ys'], .int .i64 0], ⟨_, rfl, hr0, hru⟩, ?_⟩
   have hd := eW hes'
   simp only [AV.untok, AV.untokL, AV.agg.injEq, List.cons.injEq] at hru
   have u1 := hru.2.2.1
   have u2 := hru.2.2.2.1
   rw [au]
   simp [-getElem?_pos, List.getElem?_cons_zero, List.getElem?_cons_succ, qk hE, jT, mD, wA, hst, hc, q0, q1, s0, s1, r1, h1, hly, h2, hct, hJ, own, gn, cD, aq, bE, ai, az, cJ, hd, u1, u2]
end
open Go Ab Go.RowKit
set_option maxRecDepth 10000
def HU (o : gu) (z T : Nat) (ys : List AV) : AV := if o = .nil then .sl .nil z [] else sb .full z T ys
theorem Gd {z lo : Nat} {s s' : St} {ys : List AV} (hd : AV.dataL ys = true) (ht : s'.tk = cU s.tk ys) : cD .keep lo s s' (sb .full z s.tk.length ys) = some (sb .full z s.tk.length ys, { s with tk := cU s.tk ys }) := by
 by_cases h : ys = []
 ·subst h; simp [cD, sb, cU, AV.data, AV.untok]
 ·simp only [sb, if_neg h, cU] at ht ⊢
  simp [cD, AV.data, hd, ht]
theorem AI {o : gu} (ho : o ≠ .nil) (z z' : Nat) (xs : List AV) : HN .slice (.sl o z xs) (.sl .nil z' []) = some false := by
 cases o <;> first | rfl | exact absurd rfl ho
section
variable {E : ak} (hE : E.fns = af.fn ag)
include hE
theorem JQ {l : List Int} {o : gu} (hn : o = .nil -> l = []) (hl : l.length <= aO) {k : Nat} (hk : 1 <= k) (s : St) :
  au E k none (.fn fG [] []) [.sl o 1 (ao l)] s = some (.ret (HU o 1 s.tk.length (ao l)), false, { s with tk := cU s.tk (ao l) }) := by
 obtain ⟨k, rfl⟩ : ∃ j, k = j + 1 := ⟨k - 1, by omega⟩
 obtain ⟨v, s', h1, rfl, rfl⟩ := cI (uS hE) (first := []) (caps := []) (args := [.sl o 1 (ao l)]) rfl (k := k) (s := s) (Post := fun v s' => v = HU o 1 s.tk.length (ao l) /\ s' = { s with tk := cU s.tk (ao l) }) (by
  by_cases ho : o = .nil
  ·have h0 := hn ho
   subst ho; subst h0
   simp [fF, jJ, jk, HN, cD, HU, ao, AV.data, AV.untok]
  ·have ha := AI ho 1 1 (ao l)
   have a1 := fun b => vQ (o0 := .full) (.inr rfl) (bl := b) (tk := s.tk) (ro := s.bl.length) (rt := s.tk.length) (z := 1) (ys := []) (zs := ao l) (o := o) (by simpa using hl) (Nat.le_refl _)
   simp only [Dh, Dg, List.nil_append, (cJ l).2] at a1
   simp [fF, jJ, jk, ha, aq, bE, ai, az, a1]
   rw [Gd (cJ l).1 rfl]
   simp [HU, ho])
 exact h1
theorem HW {l : List Ed} {ys : List AV} (hes : cL jq l ys) {o : gu} (hn : o = .nil -> ys = []) (hl : ys.length <= aO) {k : Nat} (hk : 1 <= k) (s : St) :
  au E k none (.fn bx [] []) [.sl o 8 ys] s = some (.ret (HU o 8 s.tk.length (AV.untokL ys)), false, { s with tk := cU s.tk (AV.untokL ys) }) := by
 obtain ⟨k, rfl⟩ : ∃ j, k = j + 1 := ⟨k - 1, by omega⟩
 have hd := eW (tD hes)
 obtain ⟨v, s', h1, rfl, rfl⟩ := cI (lb hE) (first := []) (caps := []) (args := [.sl o 8 ys]) rfl (k := k) (s := s) (Post := fun v s' => v = HU o 8 s.tk.length (AV.untokL ys) /\ s' = { s with tk := cU s.tk (AV.untokL ys) }) (by
  by_cases ho : o = .nil
  ·have h0 := hn ho
   subst ho; subst h0
   simp [bw, cN, jk, HN, cD, HU, AV.data, AV.untok]
  ·have ha := AI ho 8 8 ys
   have a1 := fun b => vQ (o0 := .full) (.inr rfl) (bl := b) (tk := s.tk) (ro := s.bl.length) (rt := s.tk.length) (z := 8) (ys := []) (zs := ys) (o := o) (by simpa using hl) (Nat.le_refl _)
   simp only [Dh, Dg, List.nil_append] at a1
   simp [bw, cN, jk, ha, aq, bE, ai, az, a1]
   rw [Gd hd rfl]
   simp [HU, ho])
 exact h1
end
open Go Ab Go.RowKit
set_option maxRecDepth 10000
theorem Lf {o : gu} {z T : Nat} {ys : List AV} (h : o = .nil -> ys = []) : ∃ o0, (o0 = .nil \/ o0 = .full) /\ HU o z T ys = sb o0 z T ys := by
 unfold HU
 split
 ·rename_i ho
  exact ⟨.nil, .inl rfl, by rw [h ho]; rfl⟩
 ·exact ⟨.full, .inr rfl, rfl⟩
theorem Et {o : gu} (ho : o = .nil \/ o = .full) (z : Nat) (ys : List AV) : ∃ o', JN o z ys = .sl o' z ys /\ (o' = .nil -> ys = []) /\ (AV.sl o' z ys).untok = .sl o' z ys := by
 obtain ⟨o', h1, h2⟩ := Ok o z ys
 exact ⟨o', h1, h2, by rw [<- h1]; exact Gb ho z ys⟩
section
variable {E : ak} (hE : E.fns = af.fn ag)
include hE
theorem Pq {a : Au} {x : AV} {cs : List AV} (ha : tU a x) (hx : x = .agg cs) (hg : Rg a) {s : St} {i0 : Nat} (hi0 : s.bl[i0]? = some (.cells cs)) {k : Nat} (hk : 2 <= k) :
  ∃ y, (tU (Dz a) y /\ y.untok = y /\ Ur y) /\ au E k none (.fn kS [] [.ptr i0 0]) [] s = some (.ret y, false, s) := by
 obtain ⟨k, rfl⟩ : ∃ j, k = j + 1 := ⟨k - 1, by omega⟩
 subst hx
 obtain ⟨of, oe, ys, ha, hes, hnf, hne⟩ := ha
 cases ha
 have hly := hes.length
 refine CK (DQ hE) rfl fun bl tk hb' => ?_
 have hb' : bl = s.bl /\ tk = s.tk := by
  rcases hb' with h | h
  ·exact h
  ·simp [AV.plainL, AV.plain] at h
 obtain ⟨rfl, rfl⟩ := hb'
 have hn := hg.n
 have hi' : ∀ r, (s.bl ++ r)[i0]? = s.bl[i0]? := fun r => List.getElem?_append_left (List.getElem?_eq_some_iff.1 hi0).1
 have q0 : ∀ (c : AB) (r : List AB), (s.bl ++ c :: r)[s.bl.length]? = some c := fun c r => by rw [ac]; rfl
 have s0 : ∀ (c f : AB) (r : List AB), (s.bl ++ c :: r).set s.bl.length f = s.bl ++ f :: r := fun c f r => by rw [aB]; rfl
 have w2 : IntKind.wrap .i64 (a.n + 2) = a.n + 2 := ar (by omega) (by omega)
 have w1 : IntKind.wrap .i64 (a.n + 1) = a.n + 1 := ar (by omega) (by omega)
 have hfl := hg.finL
 have hel := hg.edsL
 have hmm : aO = 1073741824 := rfl
 have c1 := fun b => JQ hE (l := a.fin) (o := of) hnf (by omega) (k := k) (by omega) { bl := b, tk := s.tk, ro := s.bl.length, rt := s.tk.length }
 obtain ⟨o0, ho0, hcl⟩ := Lf (o := of) (z := 1) (T := s.tk.length) (ys := ao a.fin) (fun h => by rw [hnf h]; rfl)
 simp only [hcl] at c1
 obtain ⟨F, hF⟩ : ∃ F, F = ao a.fin ++ [.int .i64 (a.n + 1)] := ⟨_, rfl⟩
 have a1 := fun b => vP ho0 (bl := b) (tk := s.tk) (ro := s.bl.length) (rt := s.tk.length) (z := 1) (ys := ao a.fin) (y := .int .i64 (a.n + 1)) (o := .full) (by simp; omega) (Nat.le_refl _)
 rw [show (AV.int IntKind.i64 (a.n + 1)).untok = .int .i64 (a.n + 1) by simp [AV.untok], <- hF] at a1
 obtain ⟨tk1, htk1⟩ : ∃ t, t = cU s.tk F := ⟨_, rfl⟩
 rw [<- htk1] at a1
 have htl : s.tk.length <= tk1.length := by rw [htk1]; exact FB _ _
 have c2 := fun b => HW hE hes (o := oe) hne (by omega) (k := k) (by omega) { bl := b, tk := tk1, ro := s.bl.length, rt := s.tk.length }
 obtain ⟨o2, ho2, hcl2⟩ := Lf (o := oe) (z := 8) (T := tk1.length) (ys := AV.untokL ys) (fun h => by rw [hne h]; rfl)
 simp only [hcl2] at c2
 obtain ⟨Y, hY⟩ : ∃ Y, Y = AV.untokL ys ++ [vo a.n a.start] := ⟨_, rfl⟩
 have a2 := fun b => vP ho2 (bl := b) (tk := tk1) (ro := s.bl.length) (rt := s.tk.length) (z := 8) (ys := AV.untokL ys) (y := vo a.n a.start) (o := .full) (by simp; omega) htl
 rw [show (vo a.n a.start).untok = vo a.n a.start by simp [vo, AV.untok, AV.untokL], <- hY] at a2
 obtain ⟨oF, hoF, _⟩ := AZ o0 1 s.tk.length F
 obtain ⟨oY, hoY, _⟩ := AZ o2 8 tk1.length Y
 have uF := Ch ho0 1 s.tk.length F
 have uY := Ch ho2 8 tk1.length Y
 rw [hoF] at a1 uF
 rw [hoY] at a2 uY
 simp only [vo] at a2
 have hFi : F = ao (a.fin ++ [a.n + 1]) := by rw [hF, nh]; rfl
 have hYa : cL jq (a.eds ++ [uy a.n a.start]) Y := by rw [hY]; exact fZ (tD hes) ⟨_, _, rfl, S6 _ _, rfl⟩
 have hYu : AV.untokL Y = Y := by rw [hY, untokL_append, AV.untokL_untokL]; simp [AV.untokL, AV.untok, vo]
 obtain ⟨z1, hz1, hz1n, hz1u⟩ := Et ho0 1 F
 obtain ⟨z2, hz2, hz2n, hz2u⟩ := Et ho2 8 Y
 rw [hz1] at uF
 rw [hz2] at uY
 obtain ⟨og, hog, _⟩ := AZ o0 1 s.tk.length (ao a.fin)
 simp [-getElem?_pos, List.getElem?_cons_zero, List.getElem?_cons_succ, rk, vS, hi', hi0, q0, s0, w1, w2, aq, bE, ai, az, c1, a1, c2, a2]
 have hdF : AV.dataL F = true := by rw [hFi]; exact (cJ _).1
 refine ⟨_, bW (by simp [hdF, eW hYa]), ?_⟩
 simp only [AV.untok, AV.untokL, uF, uY]
 refine ⟨?_, by simp only [AV.untok, AV.untokL, hz1u, hz2u], ?_⟩
 ·rw [hFi]
  exact ⟨z1, z2, Y, rfl, hYa, fun h => by have := hz1n h; rw [hFi] at this; simpa [ao] using this, hz2n⟩
 ·intro d0 d1 d2 oe' ys' e
  simp only [AV.agg.injEq, List.cons.injEq, AV.sl.injEq] at e
  rw [<- e.2.2.2.1.2.2]; exact hYu
theorem Sf {a : Au} {x : AV} (ha : tU a x) (hb : Ba a) {k : Nat} (hk : 12000005 <= k) (s : St) :
  ∃ r, FI (lI a) r /\ au E k none (.fn qt [] []) [x] s = some (.ret r, false, s) := by
 obtain ⟨k, rfl⟩ : ∃ j, k = j + 1 := ⟨k - 1, by omega⟩
 have g1 := Gi hE ha hb k (by omega)
 have ha0 := ha
 obtain ⟨of, oe, ys, rfl, hes, _⟩ := ha
 refine fK (Gx hE) rfl (fun bl tk => ?_) s
 have q0 : ∀ (c : AB) (r : List AB), (bl ++ c :: r)[bl.length]? = some c := fun c r => by rw [ac]; rfl
 have q1 : ∀ (c d : AB) (r : List AB), (bl ++ c :: d :: r)[bl.length + 1]? = some d := fun c d r => by rw [aa]; rfl
 have s1 : ∀ (c d f : AB) (r : List AB), (bl ++ c :: d :: r).set (bl.length + 1) f = bl ++ c :: f :: r := fun c d f r => by rw [aj]; rfl
 have r1 : bl.length <= bl.length + 1 := by omega
 by_cases h0 : cP a = 0
 ·rw [h0] at g1
  have hg := Rg.of hb h0
  have hop : lI a = kq (Dz a) := by unfold lI; rw [if_neg (by simp [h0])]
  rw [hop]
  obtain ⟨r, ⟨xr, hr, hr2, hr3⟩, hc⟩ := B9 hE (pf := .fn kS [] [.ptr bl.length 0]) (by simp [AV.plain, AV.plainL]) (a := Dz a) (k := k) (by omega) (s := { bl := bl ++ [.cells [.int .i64 a.n, .int .i64 a.start, .sl of 1 (ao a.fin), .sl oe 8 ys], .cells [.int .i64 0, .int .i64 0, .sl .nil 1 [], .sl .nil 8 []]], tk, ro := bl.length, rt := tk.length }) (fun r tk ro rt => Pq hE ha0 rfl hg (by simp [ac]) (by omega)) (fun _ _ => KF hg)
  subst hr
  have hr2' := hr2
  obtain ⟨z1, z2, zs, rfl, hzs, _⟩ := hr2
  simp [-getElem?_pos, List.getElem?_cons_zero, List.getElem?_cons_succ, pJ, tZ, q0, q1, s1, r1, g1, hc, aq, bE, ai, az]
  exact w6 hr2' hr3
 ·have hop : lI a = (gN, cP a) := by unfold lI; rw [if_pos h0]
  rw [hop]
  have h0' : (cP a != 0) = true := by simpa using h0
  simp [-getElem?_pos, List.getElem?_cons_zero, List.getElem?_cons_succ, pJ, tZ, q0, q1, s1, r1, g1, h0', h0, aq, bE, ai, az]
  exact ⟨_, bW (by rfl), _, rfl, mK, rfl⟩
end
open Go Ab Go.RowKit
set_option maxRecDepth 10000
def MQ (st : Bs) (S : Int) (oF oE : gu) (ys : List AV) : List AV := [.int .i64 st.n, .int .i64 S, .sl oF 1 (ao st.F), .sl oE 8 ys]
section
variable {E : ak} (hE : E.fns = af.fn ag)
include hE
theorem TE (m : Nat) : ∀ {ts : List Tm} {v : AV}, aV ts < m -> aV ts <= 1048576 -> Sl ts v -> ∀ {st : Bs} {S : Int} {B : List AB} {tk h : List Nat} {ro rt : Nat} {oF oE : gu} {ys : List AV} {i0 : Nat}, 0 <= st.n -> st.n + 2 * aV ts + 1 <= 16777216 -> st.F.length + 2 * aV ts + 1 <= 16777216 -> st.E.length + 2 * aV ts + 1 <= 16777216 ->
  B[i0]? = some (.cells (MQ st S oF oE ys)) -> ro <= i0 -> rt <= tk.length -> N3 st tk h oF oE ys -> ∀ {k : Nat}, 2 * aV ts + 3 <= k ->
  ∃ oF' oE' ys' h' g, au E k none (.fn dF [] []) [.ptr i0 0, v] { bl := B, tk := tk ++ h, ro, rt } =
    some (.ret (.tup []), false, { bl := B.set i0 (.cells (MQ (E1 ts st) S oF' oE' ys')) ++ g, tk := tk ++ h', ro, rt }) /\ N3 (E1 ts st) tk h' oF' oE' ys' := by
 induction m with
 | zero => intro ts v h; omega
 | succ m ih =>
  intro ts v hm hn hv st S B tk h ro rt oF oE ys i0 n0 n1 n2 n3 hB hro hrt hbt k hk
  obtain ⟨k, rfl⟩ : ∃ j, k = j + 1 := ⟨k - 1, by omega⟩
  obtain ⟨o1, xs, rfl, ⟨hm1, hnil⟩, h1⟩ := hv
  have hl1 := h1.length
  have hlt := aC ts
  have hmm : aO = 1073741824 := rfl
  obtain ⟨hiB, _⟩ := List.getElem?_eq_some_iff.1 hB
  have qi : ∀ c : AB, (B.set i0 c)[i0]? = some c := fun c => List.getElem?_set_self hiB
  have qi' : ∀ (c : AB) (r : List AB), (B.set i0 c ++ r)[i0]? = some c := fun c r => by rw [List.getElem?_append_left (by simpa using hiB)]; exact qi c
  have si' : ∀ (c f : AB) (r : List AB), (B.set i0 c ++ r).set i0 f = B.set i0 f ++ r := fun c f r => by rw [List.set_append_left _ _ (by simpa using hiB), List.set_set]
  have w1 : IntKind.wrap .i64 ((ts.length : Int) + 1) = ts.length + 1 := ar (by omega) (by omega)
  have w2 : IntKind.wrap .i64 (st.n + ((ts.length : Int) + 1)) = st.n + (ts.length + 1) := ar (by omega) (by omega)
  have w3 : IntKind.wrap .i64 (st.n + (ts.length : Int)) = st.n + ts.length := ar (by omega) (by omega)
  obtain ⟨oF1, h1', a1, hb1⟩ := hbt.addF (st.n + ts.length) (ro := ro) (rt := rt) (ow := .full) (by omega) hrt (st.n + (ts.length + 1))
  obtain ⟨st1, hst1⟩ : ∃ s1, s1 = ({ n := st.n + (ts.length + 1), F := st.F ++ [st.n + ts.length], E := st.E } : Bs) := ⟨_, rfl⟩
  rw [<- hst1] at hb1
  have hfin : E1 ts st = iD st.n 0 ts st1 := by rw [hst1]; rfl
  rw [hfin]
  have hn1 : st1.n = st.n + (ts.length + 1) := by rw [hst1]
  have hF1 : st1.F = st.F ++ [st.n + ts.length] := by rw [hst1]
  have hE1 : st1.E = st.E := by rw [hst1]
  rw [<- hF1] at a1
  simp only [MQ] at hB
  obtain ⟨vr, sr, hc, oF', oE', ys', h', g, rfl, rfl, hb'⟩ := cI (uo hE) (first := []) (caps := []) (args := [.ptr i0 0, .sl o1 3 xs]) rfl (k := k) (s := { bl := B, tk := tk ++ h, ro, rt })
   (Post := fun v s' => ∃ oF' oE' ys' h' g, v = .tup [] /\ s' = { bl := B.set i0 (.cells (MQ (iD st.n 0 ts st1) S oF' oE' ys')) ++ g, tk := tk ++ h', ro, rt } /\ N3 (iD st.n 0 ts st1) tk h' oF' oE' ys') (by
   simp [-getElem?_pos, List.getElem?_cons_zero, List.getElem?_cons_succ, iY, m5, jk, hB, qi, hro, hl1, w1, w2, w3, aq, bE, ai, az, a1]
   refine aA ts.length (fun i e' st' => ∃ oF oE ys h g, N3 (iD st.n 0 (ts.take i) st1) tk h oF oE ys /\ e' = [(0, .ptr i0 0), (4, .int .i64 st.n), (35, .sl o1 3 xs), (36, .int .i64 ts.length), (37, .int .i64 i)] /\ st' = { bl := B.set i0 (.cells [.int .i64 (iD st.n 0 (ts.take i) st1).n, .int .i64 S, .sl oF 1 (ao (iD st.n 0 (ts.take i) st1).F), .sl oE 8 ys]) ++ g, tk := tk ++ h, ro, rt }) (by omega) ⟨oF1, oE, ys, h1', [], by simpa [iD] using hb1, rfl, by simp [iD, hn1]⟩ ?_ ?_
   ·rintro i e' st' hi ⟨oF, oE, ys, h, g, hb, rfl, rfl⟩
    obtain ⟨t, ht⟩ : ∃ t, ts[i]? = some t := ⟨_, List.getElem?_eq_getElem hi⟩
    obtain ⟨x, hx, hrt'⟩ := h1.get ht
    obtain ⟨kv, rfl, hkv⟩ := hrt'.open
    obtain ⟨ok, ks, hke, hlk⟩ := hkv.len
    subst hke
    obtain ⟨hi1, hx1⟩ := List.getElem?_eq_some_iff.1 hx
    have hgr := vU st.n 0 (ts.take i) st1
    have hst := IC (first := st.n) ht st1
    obtain ⟨si, hsi⟩ : ∃ s, s = iD st.n 0 (ts.take i) st1 := ⟨_, rfl⟩
    rw [<- hsi] at hb hgr hst ⊢
    have hsp : aV ts = aV (ts.take i) + nT t + aV (ts.drop (i + 1)) := by
     have e : ts = ts.take i ++ t :: ts.drop (i + 1) := by
      obtain ⟨hi2, ht2⟩ := List.getElem?_eq_some_iff.1 ht
      rw [<- ht2, <- List.drop_eq_getElem_cons hi2, List.take_append_drop]
     have := congrArg aV e
     rw [kp] at this
     simp only [aV] at this
     omega
    have hrest := aC (ts.drop (i + 1))
    rw [List.length_drop] at hrest
    have htk := aC (ts.take i)
    rw [List.length_take] at hgr htk
    rw [Nat.min_eq_left (by omega)] at hgr htk
    obtain ⟨g1, g2, g3, g4⟩ := hgr
    rw [hn1] at g1 g2
    rw [hF1, List.length_append] at g3
    simp only [List.length_cons, List.length_nil] at g3
    rw [hE1] at g4
    have hnt := g7 t
    have hyl := hb.R.length
    have e1 : et (.int .i64 i) ts.length = some i := av (by omega)
    have hil : (i : Int) < (xs.length : Int) := by omega
    have hwr : IntKind.wrap .i64 ((i : Int) + 1) = i + 1 := ar (by omega) (by omega)
    have wa : IntKind.wrap .i64 (st.n + (i : Int)) = st.n + i := ar (by omega) (by omega)
    have wb : IntKind.wrap .i64 (st.n + (i : Int) + 1) = st.n + i + 1 := ar (by omega) (by omega)
    have p1 : ∀ (c f : AB), (B.set i0 c ++ (g ++ [f]))[B.length + g.length]? = some f := fun c f => by
     have := aa (B.set i0 c) (g ++ [f]) g.length
     simp only [List.length_set] at this
     rw [this]; simp
    have u1 : ∀ (c f f' : AB), (B.set i0 c ++ (g ++ [f])).set (B.length + g.length) f' = B.set i0 c ++ (g ++ [f']) := fun c f f' => by
     have := aj (B.set i0 c) (g ++ [f]) g.length f'
     simp only [List.length_set] at this
     rw [this]; simp
    have p2 : ∀ (c f f2 : AB), (B.set i0 c ++ (g ++ [f, f2]))[B.length + g.length]? = some f := fun c f f2 => by
     have := aa (B.set i0 c) (g ++ [f, f2]) g.length
     simp only [List.length_set] at this
     rw [this]; simp
    have p3 : ∀ (c f f2 : AB), (B.set i0 c ++ (g ++ [f, f2]))[B.length + (g.length + 1)]? = some f2 := fun c f f2 => by
     have := aa (B.set i0 c) (g ++ [f, f2]) (g.length + 1)
     simp only [List.length_set] at this
     rw [this]; simp
    have u3 : ∀ (c f f2 f' : AB), (B.set i0 c ++ (g ++ [f, f2])).set (B.length + (g.length + 1)) f' = B.set i0 c ++ (g ++ [f, f']) := fun c f f2 f' => by
     have := aj (B.set i0 c) (g ++ [f, f2]) (g.length + 1) f'
     simp only [List.length_set] at this
     rw [this]; simp
    have r1 : ro <= B.length + g.length := by omega
    have r2 : ro <= B.length + (g.length + 1) := by omega
    by_cases k4 : t.kind = 4
    ·have k4' : (t.kind != 4) = false := by simp [k4]
     rw [En k4] at hst
     obtain ⟨oE2, h2, a2, hb2⟩ := hb.addE (e := wx (st.n + i) si.n) (w := Ko (st.n + i) si.n) (UH _ _) (by simp [Ko, AV.untok, AV.untokL]) (ro := ro) (rt := rt) (ow := .full) (by omega) hrt
     obtain ⟨oF3, oE3, ys3, h3, g3', hcc, hb3⟩ := ih (ts := t.kids) (by omega) (by omega) hkv (st := { si with E := si.E ++ [wx (st.n + i) si.n] }) (S := S) (B := B.set i0 (.cells (MQ { si with E := si.E ++ [wx (st.n + i) si.n] } S oF oE2 (ys ++ [Ko (st.n + i) si.n]))) ++ (g ++ [.cells [.int .i64 t.kind, .str t.text, .sl ok 3 ks], .cells [.int .i64 (st.n + i), .int .i64 (st.n + i + 1), .int .i64 5, .int .i64 0, .str [], .sl .nil 3 [], .sl .nil 3 [], .int .i64 si.n]])) (tk := tk) (ro := ro) (rt := rt) (i0 := i0) (by show 0 <= si.n; omega) (by show si.n + _ + 1 <= _; omega) (by show si.F.length + _ + 1 <= _; omega) (by show (si.E ++ [_]).length + _ + 1 <= _; simp only [List.length_append, List.length_cons, List.length_nil]; omega) (qi' _ _) hro hrt hb2 (k := k) (by omega)
     rw [<- hst] at hcc hb3
     rw [si'] at hcc
     simp only [MQ, List.append_assoc, List.cons_append, List.nil_append, k4] at hcc
     simp only [Ko] at a2 hcc
     simp [-getElem?_pos, List.getElem?_cons_zero, List.getElem?_cons_succ, eN, hl1, hi, hil, e1, hx, hx1, hwr, wa, wb, qi', si', p1, u1, p2, p3, u3, r1, r2, hro, k4, k4', aq, bE, ai, az, a2, hcc]
     exact ⟨oF3, oE3, ys3, hb3, _, rfl⟩
    ·have k4' : (t.kind != 4) = true := by simpa using k4
     rw [ID k4] at hst
     obtain ⟨oE2, h2, a2, hb2⟩ := hb.addE (e := Mu (st.n + i) t.kind t.text) (w := NY (st.n + i) t.kind t.text) (UU _ _ _) (by simp [NY, AV.untok, AV.untokL]) (ro := ro) (rt := rt) (ow := .full) (by omega) hrt
     rw [<- hst] at hb2
     have hn2 : (iD st.n 0 (ts.take (i + 1)) st1).n = si.n := by rw [hst]
     have hF2 : (iD st.n 0 (ts.take (i + 1)) st1).F = si.F := by rw [hst]
     simp only [NY] at a2
     simp [-getElem?_pos, List.getElem?_cons_zero, List.getElem?_cons_succ, eN, hl1, hi, hil, e1, hx, hx1, hwr, wa, wb, qi', si', p1, u1, p2, p3, u3, r1, r2, hro, k4, k4', aq, bE, ai, az, a2, hn2, hF2]
     exact ⟨oF, oE2, _, hb2, _, rfl⟩
   ·rintro e' st' ⟨oF, oE, ys, h, g, hb, rfl, rfl⟩
    rw [List.take_of_length_le (Nat.le_refl _)] at hb ⊢
    simp [-getElem?_pos, List.getElem?_cons_zero, List.getElem?_cons_succ, eN, cD]
    exact ⟨oF, oE, ys, h, ⟨⟨g, rfl⟩, rfl⟩, hb⟩)
  exact ⟨oF', oE', ys', h', g, hc, hb'⟩
end
open Go Ab Go.RowKit
set_option maxRecDepth 10000
def ri (L : List Int) : Prop := L.Pairwise (· < ·)
structure Pr (E : ak) : Prop where
 sort : ∀ {o : gu} {L : List Int}, ri L -> L.length <= aO -> ∀ {tk h : List Nat}, hI (.sl o 1 (ao L)) 1 (ao L) tk h -> ∀ k bl ro rt, au E (k + 1) none (.fn cq [] []) [.sl o 1 (ao L)] { bl, tk := tk ++ h, ro, rt } = some (.ret (.tup []), false, { bl, tk := tk ++ h, ro, rt })
 asc : ∀ (o o1 o2 : gu) (l1 l2 : List Int), l1.length + l2.length <= aO -> ∀ k s, au E (k + 1) none (.fn dj [] []) [.sl o 1 [.sl o1 1 (ao l1), .sl o2 1 (ao l2)]] s = some (.ret (ti 1 (ao (bg (l1 ++ l2)))), false, s)
theorem LW {x : Int} : ∀ {L : List Int}, (∀ y ∈ L, y < x) -> nE L x = L ++ [x]
 | [], _ => rfl
 | y :: r, h => by
  simp only [nE, if_pos (h y (List.mem_cons_self ..)), List.cons_append]
  rw [LW fun z hz => h z (List.mem_cons_of_mem _ hz)]
theorem Hi : ∀ (l L : List Int), ri (L ++ l) -> l.foldl nE L = L ++ l
 | [], L, _ => by simp
 | x :: l, L, h => by
  have h1 : ∀ y ∈ L, y < x := fun y hy => (List.pairwise_append.1 h).2.2 y hy x (List.mem_cons_self ..)
  simp only [List.foldl_cons]
  rw [LW h1, Hi l (L ++ [x]) (by simpa using h)]
  simp
theorem Jq {l : List Int} (h : ri l) : bg l = l := by
 have := Hi l [] (by simpa using h)
 simpa [bg] using this
def SS (st : Bs) : Prop := ri st.F /\ ∀ f ∈ st.F, f < st.n
theorem SS.add {st : Bs} (h : SS st) (m : Nat) (E : List Ed) : SS { n := st.n + (m + 1), F := st.F ++ [st.n + m], E } := by
 refine ⟨List.pairwise_append.2 ⟨h.1, List.pairwise_singleton _ _, fun a ha b hb => ?_⟩, fun f hf => ?_⟩
 ·have := h.2 a ha; simp at hb; omega
 ·show f < st.n + _
  rcases List.mem_append.1 hf with h1 | h1
  ·have := h.2 f h1; omega
  ·simp at h1; omega
mutual
theorem O7 (first : Int) (i : Nat) : ∀ (t : Tm) (st : Bs), SS st -> SS (rS first i t st)
 | .mk k s kids, st, h => by
  simp only [rS]
  split
  ·exact FT st.n 0 kids _ (h.add kids.length _)
  ·exact h
theorem FT (first : Int) (i : Nat) : ∀ (l : List Tm) (st : Bs), SS st -> SS (iD first i l st)
 | [], st, h => by simp only [iD]; exact h
 | t :: r, st, h => by
  simp only [iD]
  exact FT first (i + 1) r _ (O7 first i t st h)
end
theorem TC (ts : List Tm) : ri (E1 ts b0).F := by
 have h : SS b0 := ⟨List.Pairwise.nil, fun f hf => by cases hf⟩
 exact (FT 0 0 ts _ (h.add ts.length [])).1
section
variable {E : ak} (hE : E.fns = af.fn ag) (hP : Pr E)
include hE hP
theorem JR {ts : List Tm} {v : AV} (hv : Sl ts v) (hb : Bt ts) (hn4 : aV ts <= 4000) {s : St} {i0 : Nat} (hi0 : s.bl[i0]? = some (.cells [v])) {k : Nat} (hk : 12000 <= k) :
  ∃ y, (tU (MG ts) y /\ y.untok = y /\ Ur y) /\ au E k none (.fn iy [] [.ptr i0 0]) [] s = some (.ret y, false, s) := by
 obtain ⟨k, rfl⟩ : ∃ j, k = j + 1 := ⟨k - 1, by omega⟩
 obtain ⟨k', hk'⟩ : ∃ j, k = j + 1 := ⟨k - 1, by omega⟩
 have hv0 := hv
 obtain ⟨ov, xs, rfl, _⟩ := hv.len
 refine CK (Bb hE) rfl fun bl tk hb' => ?_
 have hb' : bl = s.bl /\ tk = s.tk := by
  rcases hb' with h | h
  ·exact h
  ·simp [AV.plainL, AV.plain] at h
 obtain ⟨rfl, rfl⟩ := hb'
 have hi' : ∀ r, (s.bl ++ r)[i0]? = s.bl[i0]? := fun r => List.getElem?_append_left (List.getElem?_eq_some_iff.1 hi0).1
 have q0 : ∀ (c : AB) (r : List AB), (s.bl ++ c :: r)[s.bl.length]? = some c := fun c r => by rw [ac]; rfl
 have s0 : ∀ (c f : AB) (r : List AB), (s.bl ++ c :: r).set s.bl.length f = s.bl ++ f :: r := fun c f r => by rw [aB]; rfl
 have q1 : ∀ (c d : AB) (r : List AB), (s.bl ++ c :: d :: r)[s.bl.length + 1]? = some d := fun c d r => by rw [aa]; rfl
 have s1 : ∀ (c d f : AB) (r : List AB), (s.bl ++ c :: d :: r).set (s.bl.length + 1) f = s.bl ++ c :: f :: r := fun c d f r => by rw [aj]; rfl
 have hg := CE ts b0
 have e0 : b0.F.length = 0 := rfl
 have e1 : b0.E.length = 0 := rfl
 have e2 : b0.n = 0 := rfl
 obtain ⟨o1, o2, ys, h', g, hc, hbt⟩ := TE hE _ (Nat.lt_succ_self _) hb.1 hv0 (st := b0) (S := 0) (B := s.bl ++ [.cells [.int .i64 0, .int .i64 0, .sl .nil 1 [], .sl .nil 8 []], .cells [.int .i64 0, .int .i64 0, .sl .nil 1 [], .sl .nil 8 []]]) (tk := s.tk) (h := []) (ro := s.bl.length) (rt := s.tk.length) (oF := .nil) (oE := .nil) (ys := []) (i0 := s.bl.length + 1) (by omega) (by omega) (by omega) (by omega) (q1 _ _ _) (by omega) (Nat.le_refl _) ⟨.inl ⟨rfl, rfl⟩, .inl ⟨rfl, rfl⟩, rfl, rfl, fun t h => by cases h⟩ (k := k) (by omega)
 rw [s1] at hc
 simp only [List.append_nil, MQ, List.append_assoc, List.cons_append, List.nil_append] at hc
 obtain ⟨D, hD⟩ : ∃ D, D = E1 ts b0 := ⟨_, rfl⟩
 have ha := TC ts
 have hex : MG ts = { n := D.n, start := 0, fin := D.F, eds := D.E } := by unfold MG; rw [Jq ha, hD]
 rw [<- hD] at hbt hc ha
 have hgD := (CE ts b0).2.2.1
 rw [<- hD] at hgD
 have gs := fun bl ro rt => hP.sort ha (by rw [show aO = 1073741824 from rfl]; omega) hbt.F k' bl ro rt
 rw [<- hk'] at gs
 obtain ⟨oq, hoq, hoqn, huq⟩ := hbt.F.sl
 obtain ⟨or, hor, horn, hur⟩ := hbt.E.sl
 cases hoq
 cases hor
 obtain ⟨z1, hz1, hz1n⟩ := lG 1 (ao D.F)
 obtain ⟨z2, hz2, hz2n⟩ := lG 8 ys
 simp [-getElem?_pos, List.getElem?_cons_zero, List.getElem?_cons_succ, nV, sX, hi', hi0, q0, q1, s0, s1, aq, bE, ai, az, hc, gs]
 refine ⟨_, bW (by simp [cJ, eW hbt.R]), ?_⟩
 have hu1 : (AV.sl o1 1 (ao D.F)).untok = .sl z1 1 (ao D.F) := by rw [huq, hz1]
 have hu2 : (AV.sl o2 8 ys).untok = .sl z2 8 ys := by rw [hur, hz2]
 simp only [AV.untok, AV.untokL, hu1, hu2]
 have hz1u : (AV.sl z1 1 (ao D.F)).untok = .sl z1 1 (ao D.F) := by rw [<- hz1]; exact oW _ _
 have hz2u : (AV.sl z2 8 ys).untok = .sl z2 8 ys := by rw [<- hz2]; exact oW _ _
 refine ⟨?_, by simp only [AV.untok, AV.untokL, hz1u, hz2u], ?_⟩
 ·rw [hex]
  exact ⟨z1, z2, ys, rfl, hbt.R, fun h => by have := hz1n h; simpa [ao] using this, hz2n⟩
 ·intro d0 d1 d2 oe' ys' e
  simp only [AV.agg.injEq, List.cons.injEq, AV.sl.injEq] at e
  rw [<- e.2.2.2.1.2.2]; exact hbt.u
theorem Gm {ts : List Tm} {v : AV} (hv : Sl ts v) (hb : Bt ts) {k : Nat} (hk : 12000005 <= k) (s : St) :
  ∃ r, FI (mO ts) r /\ au E k none (.fn kc [] []) [v] s = some (.ret r, false, s) := by
 obtain ⟨k, rfl⟩ : ∃ j, k = j + 1 := ⟨k - 1, by omega⟩
 have hn := hb.1
 have g1 := Ls hE hv (M := 1048576) (by have := hb.1; rw [show aO = 1073741824 from rfl]; omega) I7 hb.2 k (by omega)
 have hv0 := hv
 obtain ⟨ov, xs, rfl, _⟩ := hv.len
 refine fK (C6 hE) rfl (fun bl tk => ?_) s
 have q0 : ∀ (c : AB) (r : List AB), (bl ++ c :: r)[bl.length]? = some c := fun c r => by rw [ac]; rfl
 have q1 : ∀ (c d : AB) (r : List AB), (bl ++ c :: d :: r)[bl.length + 1]? = some d := fun c d r => by rw [aa]; rfl
 have s1 : ∀ (c d f : AB) (r : List AB), (bl ++ c :: d :: r).set (bl.length + 1) f = bl ++ c :: f :: r := fun c d f r => by rw [aj]; rfl
 have r1 : bl.length <= bl.length + 1 := by omega
 by_cases h0 : dm 4 ts = 0
 ·rw [h0] at g1
  have hn4 := DE h0
  have hop : mO ts = kq (MG ts) := by unfold mO; rw [if_neg (by simp [h0])]
  rw [hop]
  obtain ⟨r, ⟨xr, hr, hr2, hr3⟩, hc⟩ := B9 hE (pf := .fn iy [] [.ptr bl.length 0]) (by simp [AV.plain, AV.plainL]) (a := MG ts) (k := k) (by omega) (s := { bl := bl ++ [.cells [.sl ov 3 xs], .cells [.int .i64 0, .int .i64 0, .sl .nil 1 [], .sl .nil 8 []]], tk, ro := bl.length, rt := tk.length }) (fun r tk ro rt => JR hE hP hv0 hb hn4 (by simp [ac]) (by omega)) (fun h1 h2 => Ry hb hn4 h1 h2)
  subst hr
  have hr2' := hr2
  obtain ⟨z1, z2, zs, rfl, hzs, _⟩ := hr2
  simp [-getElem?_pos, List.getElem?_cons_zero, List.getElem?_cons_succ, mA, pZ, q0, q1, s1, r1, g1, hc, aq, bE, ai, az]
  exact w6 hr2' hr3
 ·have hop : mO ts = (gN, dm 4 ts) := by unfold mO; rw [if_pos h0]
  rw [hop]
  have h0' : (dm 4 ts != 0) = true := by simpa using h0
  simp [-getElem?_pos, List.getElem?_cons_zero, List.getElem?_cons_succ, mA, pZ, q0, q1, s1, r1, g1, h0', h0, aq, bE, ai, az]
  exact ⟨_, bW (by rfl), _, rfl, mK, rfl⟩
end
open Go Ab Go.RowKit
set_option maxRecDepth 10000
theorem CP : ∀ {l : List Ed} {ys : List AV}, cL jq l ys -> yi 8 ys
 | [], _, h => by simp only [cL] at h; subst h; intro y hy; cases hy
 | e :: l, _, h => by
  simp only [cL] at h
  obtain ⟨y, r, rfl, ⟨kv, ev, rfl, _⟩, h2⟩ := h
  intro x hx
  rcases List.mem_cons.1 hx with rfl | hx
  ·exact ⟨_, rfl, rfl⟩
  ·exact CP h2 x hx
theorem Ns (l : List Int) : oT (ao l) = some (ao l) := by
 induction l with
 | nil => rfl
 | cons a l ih => simp only [ao, List.map_cons] at ih ⊢; simp only [oT, AV.cells?, ih]; rfl
def rc (o : gu) (z : Nat) : AV := if o = .nil then .sl .nil z [] else .sl .full z []
section
variable {E : ak} (hE : E.fns = af.fn ag)
include hE
theorem HX {l : List Int} {o : gu} (hl : l.length <= aO) {k : Nat} (hk : 1 <= k) (s : St) :
  au E k none (.fn eP [] []) [.sl o 1 (ao l)] s = some (if l = [] then (.ret (rc o 1), false, s) else (.ret (.msl s.bl.length 0 1 l.length), false, { s with bl := s.bl ++ [.cells (ao l)] })) \/ (o = .nil /\ l ≠ []) := by
 obtain ⟨k, rfl⟩ : ∃ j, k = j + 1 := ⟨k - 1, by omega⟩
 by_cases hno : o = .nil /\ l ≠ []
 ·exact .inr hno
 refine .inl ?_
 by_cases h0 : l = []
 ·subst h0
  rw [if_pos rfl]
  obtain ⟨v, s', h1, rfl, rfl⟩ := cI (mG hE) (first := []) (caps := []) (args := [.sl o 1 (ao [])]) rfl (k := k) (s := s) (Post := fun v s' => v = rc o 1 /\ s' = s) (by
   by_cases ho : o = .nil
   ·subst ho
    simp [dt, eM, jk, HN, cD, rc, ao]
   ·have ha := AI ho 1 1 (ao [])
    simp [dt, eM, jk, ha, aq, bE, xZ, oZ, cD, rc, ho]
    simp [ao, AV.untokL, oT, cD])
  exact h1
 ·rw [if_neg h0]
  have ho : o ≠ .nil := fun h => hno ⟨h, h0⟩
  obtain ⟨x, r, rfl⟩ : ∃ x r, l = x :: r := by cases l with | nil => exact absurd rfl h0 | cons x r => exact ⟨x, r, rfl⟩
  have ha := AI ho 1 1 (ao (x :: r))
  have hc := Ns (x :: r)
  have hu := (cJ (x :: r)).2
  simp only [List.length_cons] at hl
  obtain ⟨v, s', h1, rfl, rfl⟩ := cI (mG hE) (first := []) (caps := []) (args := [.sl o 1 (ao (x :: r))]) rfl (k := k) (s := s) (Post := fun v s' => v = .msl s.bl.length 0 1 (x :: r).length /\ s' = { s with bl := s.bl ++ [.cells (ao (x :: r))] }) (by
   simp [dt, eM, jk, ha, aq, bE, xZ, oZ, hu, cD, hl]
   simp only [ao, List.map_cons] at hc ⊢
   simp [hc, hl, cD])
  exact h1
theorem Ot {l : List Int} {o : gu} (hno : o = .nil -> l = []) {by' : Int} (hl : l.length <= 1048576) (hw : ∀ f ∈ l, 0 <= f /\ f < 1048576) (hb : 0 <= by' /\ by' <= 1048576) {k : Nat} (hk : 1048582 <= k) (s : St) :
  au E k none (.fn kT [] []) [.sl o 1 (ao l), .int .i64 by'] s = some (.ret (if l = [] then rc o 1 else .sl .any 1 (ao (l.map (fun f => f + by')))), false, s) := by
 obtain ⟨k, rfl⟩ : ∃ j, k = j + 1 := ⟨k - 1, by omega⟩
 have hmm : aO = 1073741824 := rfl
 refine zt (E := E) (zX hE) (first := []) (caps := []) (args := [.sl o 1 (ao l), .int .i64 by']) rfl (k := k) (fun bl tk => ?_) s
 have hc := fun st => (HX hE (l := l) (o := o) (by omega) (k := k) (by omega) st).resolve_right fun h => h.2 (hno h.1)
 by_cases h0 : l = []
 ·subst h0
  simp only [if_true] at hc ⊢
  obtain ⟨oe, hoe, hon⟩ : ∃ oe, rc o 1 = .sl oe 1 [] /\ (AV.sl oe 1 []).untok = .sl oe 1 [] := by unfold rc; split <;> exact ⟨_, rfl, rfl⟩
  rw [hoe] at hc ⊢
  simp [mY, t8, hc]
  refine aA 0 (fun i e st => i = 0 /\ e = [(1, .int .i64 by'), (5, .sl oe 1 []), (10, .int .i64 0), (11, .int .i64 0)] /\ st = { bl, tk, ro := bl.length, rt := tk.length }) (by omega) (by simp) (fun i e st hi _ => by omega) ?_
  rintro e st ⟨_, rfl, rfl⟩
  simp [oH, sw, hon]
 ·simp only [if_neg h0] at hc ⊢
  obtain ⟨L, hL⟩ : ∃ L, L = l.map (fun f => f + by') := ⟨_, rfl⟩
  rw [<- hL]
  have hLl : L.length = l.length := by rw [hL]; simp
  simp [mY, t8, hc]
  refine aA l.length (fun i e st => e = [(1, .int .i64 by'), (5, .msl bl.length 0 1 l.length), (10, .int .i64 l.length), (11, .int .i64 i)] /\ st = { bl := bl ++ [.cells (ao (L.take i ++ l.drop i))], tk, ro := bl.length, rt := tk.length }) (by omega) (by simp) ?_ ?_
  ·rintro i e st hi ⟨rfl, rfl⟩
   obtain ⟨t, ht⟩ : ∃ t, l[i]? = some t := ⟨_, List.getElem?_eq_getElem hi⟩
   obtain ⟨hi2, ht2⟩ := List.getElem?_eq_some_iff.1 ht
   have hwt := hw t (List.mem_of_getElem? ht)
   have w1 : IntKind.wrap .i64 (t + by') = t + by' := ar (by omega) (by omega)
   have e1 : et (.int .i64 i) l.length = some i := av hi
   have hwr : IntKind.wrap .i64 ((i : Int) + 1) = i + 1 := ar (by omega) (by omega)
   have hLi : L[i]? = some (t + by') := by rw [hL]; simp [ht]
   have hlt : (L.take i).length = i := by simp; omega
   obtain ⟨C, hC⟩ : ∃ C, C = L.take i ++ l.drop i := ⟨_, rfl⟩
   have hd : l.drop i = t :: l.drop (i + 1) := by rw [List.drop_eq_getElem_cons hi2, ht2]
   have hCl : C.length = l.length := by rw [hC]; simp; omega
   have hCi : C[i]? = some t := by rw [hC, List.getElem?_append_right (by omega), hlt, Nat.sub_self, hd]; rfl
   have hci := ep hCi
   have hnew : (ao C).take i ++ AV.int .i64 (t + by') :: (ao C).drop (i + 1) = ao (L.take (i + 1) ++ l.drop (i + 1)) := by
    have h1 : C.take i = L.take i := by rw [hC, List.take_append_of_le_length (by omega), List.take_of_length_le (by omega)]
    have h2 : C.drop (i + 1) = l.drop (i + 1) := by rw [hC, List.drop_append, List.drop_of_length_le (by omega), hlt, show i + 1 - i = 1 by omega, List.nil_append, List.drop_drop]
    have h3 : L.take (i + 1) = L.take i ++ [t + by'] := by rw [List.take_succ, hLi]; rfl
    unfold ao
    rw [<- List.map_take, <- List.map_drop, h1, h2, h3]
    simp
   rw [<- hC]
   have hb2 : i + 1 <= C.length := by omega
   simp [-getElem?_pos, List.getElem?_cons_zero, List.getElem?_cons_succ, oH, hi, e1, hwr, ac, aB, hci, w1, hb2, hnew]
  ·rintro e st ⟨rfl, rfl⟩
   rw [List.take_of_length_le (by omega), List.drop_of_length_le (by omega), List.append_nil]
   have hf := LN (s := { bl := bl ++ [.cells (ao L)], tk, ro := bl.length, rt := tk.length }) (lo := bl.length) (i := bl.length) (L := L) (Nat.le_refl _) (by simp [St.cell?, ac])
   rw [hLl] at hf
   simp [oH, sw, hf, cJ, AV.data]
end
end Ab.C
