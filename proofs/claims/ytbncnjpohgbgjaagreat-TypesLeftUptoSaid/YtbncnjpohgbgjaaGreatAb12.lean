/- Parts of the proof, made small by program. No condition but what is told. -/
import Derived.Test.YtbncnjpohgbgjaaGreatAb11
import Derived.Test.YtbncnjpohgbgjaaGreatAb09
import Derived.Test.YtbncnjpohgbgjaaGreatAb08
import Derived.Test.YtbncnjpohgbgjaaGreatAb10
set_option linter.all false
set_option maxHeartbeats 8000000
namespace Ab.C
open Go Ab
noncomputable def E5 (f : (Nat -> Bool) -> Nat -> Bool) (hf : ∀ S i, S i = true -> f S i = true) (S : Nat -> Bool) : Nat := Classical.choose (QV hf S)
theorem tF {f : (Nat -> Bool) -> Nat -> Bool} (hf : ∀ S i, S i = true -> f S i = true) (S : Nat -> Bool) :
  E5 f hf S <= 448 /\ (∀ i, i < E5 f hf S -> uD (s9 f (i + 1) S) (s9 f i S) = false) /\ uD (s9 f (E5 f hf S + 1) S) (s9 f (E5 f hf S) S) = true := Classical.choose_spec (QV hf S)
noncomputable def Tg (a : Au) : Nat := E5 (eK a.eds) (ji a.eds) (oi a.fin)
noncomputable def aE (a : Au) : Nat -> Bool := s9 (eK a.eds) (Tg a) (oi a.fin)
def Af (n : Nat) : Nat -> Bool := tx (fun _ => false) n
noncomputable def TQ (a : Au) : Nat := E5 (eq (aE a) a.eds) (iu (aE a) a.eds) (Af a.start.toNat)
noncomputable def bq (a : Au) : Nat -> Bool := s9 (eq (aE a) a.eds) (TQ a) (Af a.start.toNat)
def cS (P : Nat -> Bool) (i : Nat) : Nat := if P i then aX P i else 0
def iz (P : Nat -> Bool) (e : Ed) : Ed := { e with fr := cS P e.fr.toNat, to := cS P e.to.toNat, inner := if e.kind = 5 then cS P e.inner.toNat else 0 }
def addE (out : List Ed) (x : Ed) : List Ed := if out.any (pt x) then out else out ++ [x]
def pu (A R P : Nat -> Bool) (out : List Ed) (e : Ed) : List Ed := if ja A e && R e.fr.toNat then addE out (iz P e) else out
def k9 (R P : Nat -> Bool) (l : List Int) : List Int := (l.filter fun f => R f.toNat).map fun f => (cS P f.toNat : Int)
def ln (A R P : Nat -> Bool) (l : List Ed) : List Ed := l.foldl (pu A R P) []
noncomputable def aY (a : Au) : Nat -> Bool := fun i => bq a i && aE a i
noncomputable def lZ (a : Au) : Au :=
 if aE a a.start.toNat then { n := aX (aY a) a.n.toNat, start := cS (aY a) a.start.toNat, fin := k9 (bq a) (aY a) a.fin, eds := ln (aE a) (bq a) (aY a) a.eds }
 else { n := 1, start := 0, fin := [], eds := [] }
def Tr (a : Au) : Prop := (1 <= a.n /\ a.n <= 448) /\ (0 <= a.start /\ a.start < a.n) /\ a.fin.length <= 1048576 /\ (∀ f ∈ a.fin, 0 <= f /\ f < a.n) /\ a.eds.length <= 1048576 /\
 ∀ e ∈ a.eds, (0 <= e.fr /\ e.fr < a.n) /\ (0 <= e.to /\ e.to < a.n) /\ (e.kind = 5 -> 0 <= e.inner /\ e.inner < a.n) /\ (e.kind ≠ 5 -> e.inner = 0) /\ Be e
theorem Tr.low {a : Au} (h : Tr a) : ∀ e ∈ a.eds, UY e := fun e he => by
 obtain ⟨⟨_, h1⟩, _, _, _, _, h2⟩ := h
 obtain ⟨h3, h4, h5, _⟩ := h2 e he
 exact ⟨by omega, by omega, fun h => by have := h5 h; omega⟩
theorem Hq {A R P : Nat -> Bool} {l : List Ed} {i : Nat} {t : Ed} (h : l[i]? = some t) : ln A R P (l.take (i + 1)) = pu A R P (ln A R P (l.take i)) t := ng h
theorem KT (out : List Ed) (x : Ed) : (addE out x).length <= out.length + 1 := by unfold addE; split <;> simp
theorem KA (A R P : Nat -> Bool) (out : List Ed) (e : Ed) : (pu A R P out e).length <= out.length + 1 := by
 unfold pu; split
 ·exact KT _ _
 ·omega
theorem Ey (A R P : Nat -> Bool) : ∀ (l : List Ed) (out : List Ed), (l.foldl (pu A R P) out).length <= out.length + l.length
 | [], out => by simp
 | e :: l, out => by
  have h1 := Ey A R P l (pu A R P out e)
  have h2 := KA A R P out e
  simp only [List.foldl_cons, List.length_cons]; omega
theorem xH (A R P : Nat -> Bool) (l : List Ed) : (ln A R P l).length <= l.length := by
 have := Ey A R P l []; simpa [ln] using this
theorem DH (P : Nat -> Bool) : ∀ {i n : Nat}, i <= n -> aX P i <= aX P n
 | i, 0, h => by rw [show i = 0 by omega]; exact Nat.le_refl _
 | i, n + 1, h => by
  by_cases e : i = n + 1
  ·rw [e]; exact Nat.le_refl _
  ·have := DH P (i := i) (n := n) (by omega)
   simp only [aX]; omega
theorem xI (R P : Nat -> Bool) (l : List Int) : (k9 R P l).length <= l.length := by simp [k9]; exact List.length_filter_le _ _
end Ab.C
namespace Ab
open Go
def yi (z : Nat) (ys : List AV) : Prop := ∀ y ∈ ys, ∃ cs : List AV, y = .agg cs /\ cs.length = z
def lc : List AV -> List AV
 | [] => []
 | y :: ys => (match y with | .agg cs => cs | y => [y]) ++ lc ys
theorem vt : ∀ a b : List AV, lc (a ++ b) = lc a ++ lc b
 | [], b => rfl
 | y :: a, b => by simp only [List.cons_append, lc, vt a b, List.append_assoc]
theorem yi.tail {z : Nat} {y : AV} {ys : List AV} (h : yi z (y :: ys)) : yi z ys := fun x hx => h x (List.mem_cons_of_mem _ hx)
theorem yi.append {z : Nat} {a b : List AV} (h : yi z a) (h' : yi z b) : yi z (a ++ b) := fun x hx => by
 rcases List.mem_append.1 hx with hx | hx
 ·exact h x hx
 ·exact h' x hx
theorem pq {z : Nat} : ∀ {ys : List AV}, yi z ys -> (lc ys).length = ys.length * z
 | [], _ => by simp [lc]
 | y :: ys, h => by
  obtain ⟨cs, rfl, hc⟩ := h y (List.mem_cons_self ..)
  simp only [lc, List.length_append, pq h.tail, hc, List.length_cons, Nat.succ_mul]; omega
theorem zu {z : Nat} : ∀ {ys : List AV}, yi z ys -> oT ys = some (lc ys)
 | [], _ => rfl
 | y :: ys, h => by
  obtain ⟨cs, rfl, hc⟩ := h y (List.mem_cons_self ..)
  simp only [oT, AV.cells?, zu h.tail, lc]
theorem F5 {z : Nat} (hz : z ≠ 1) : ∀ {ys : List AV} (rest : List AV), yi z ys -> AV.chunk z ys.length (lc ys ++ rest) = ys
 | [], _, _ => rfl
 | y :: ys, rest, h => by
  obtain ⟨cs, rfl, hc⟩ := h y (List.mem_cons_self ..)
  simp only [List.length_cons, AV.chunk, if_neg hz, lc, List.append_assoc]
  rw [List.take_left' hc, List.drop_left' hc, F5 hz rest h.tail]
theorem Ml {z : Nat} {l r : List AV} {cs : List AV} (h : yi z l) (o : Nat) (ho : o < cs.length) : (lc (l ++ .agg cs :: r))[l.length * z + o]? = cs[o]? := by
 rw [vt, <- pq h, aa]
 simp only [lc]
 rw [List.getElem?_append_left ho]
theorem Mm {z : Nat} {l r : List AV} {cs : List AV} (h : yi z l) (o : Nat) (ho : o < cs.length) (v : AV) :
  (lc (l ++ .agg cs :: r)).take (l.length * z + o) ++ v :: (lc (l ++ .agg cs :: r)).drop (l.length * z + o + 1) = lc (l ++ .agg (cs.set o v) :: r) := by
 rw [vt, vt, <- pq h, List.take_length_add_append, Nat.add_assoc, List.drop_length_add_append]
 simp only [lc, List.append_assoc]
 congr 1
 rw [List.take_append_of_le_length (by omega), List.drop_append_of_le_length (by omega), List.set_eq_take_append_cons_drop, if_pos ho]
 simp
theorem gT.aggs : ∀ {ts : List Tm} {ys : List AV}, gT ts ys -> yi 3 ys
 | [], _, h => by simp only [gT] at h; subst h; intro y hy; cases hy
 | t :: ts, _, h => by
  simp only [gT] at h
  obtain ⟨y, r, rfl, h1, h2⟩ := h
  obtain ⟨v, rfl, _⟩ := h1.open
  intro x hx
  rcases List.mem_cons.1 hx with rfl | hx
  ·exact ⟨_, rfl, rfl⟩
  ·exact h2.aggs x hx
theorem Rt.frz {t : Tm} {y : AV} (h : Rt t y) (s : St) (lo k : Nat) : frz s lo k y = y := by
 obtain ⟨v, rfl, hv⟩ := h.open
 obtain ⟨o, xs, rfl, _⟩ := hv
 cases k with
 | zero => rfl
 | succ k =>
  simp only [Ab.frz, List.map_cons, List.map_nil]
  cases k <;> rfl
theorem gT.frz (s : St) (lo k : Nat) : ∀ {ts : List Tm} {ys : List AV}, gT ts ys -> ys.map (Ab.frz s lo k) = ys
 | [], _, h => by simp only [gT] at h; subst h; rfl
 | t :: ts, _, h => by
  simp only [gT] at h
  obtain ⟨y, r, rfl, h1, h2⟩ := h
  simp only [List.map_cons, h1.frz, gT.frz s lo k h2]
theorem Ou {s : St} {lo i z : Nat} {ys : List AV} (hlo : lo <= i) (hc : s.cell? i = some (lc ys)) (ha : yi z ys) (hz : 1 < z) (hfr : ∀ k, ys.map (Ab.frz s lo k) = ys) : Ab.frz s lo 8 (.msl i 0 z ys.length) = .sl .any z (AV.untokL ys) := by
 have h1 : ug s (.msl i 0 z ys.length) = some ys := by
  simp only [ug, hc]
  rw [if_pos ⟨by rw [pq ha]; omega, by omega⟩, List.drop_zero]
  have := F5 (by omega) [] ha
  rw [List.append_nil] at this
  rw [this]
 have h2 : Ab.frz s lo 8 (.msl i 0 z ys.length) = (if lo <= i then (match ug s (.msl i 0 z ys.length) with | some xs => .sl .any z (AV.untokL (xs.map (Ab.frz s lo 7))) | none => .msl i 0 z ys.length) else .msl i 0 z ys.length) := rfl
 rw [h2, if_pos hlo, h1]
 simp only [hfr]
end Ab
namespace Ab.C
open Go Ab Go.RowKit
set_option maxRecDepth 10000
theorem Sp {K : Nat} {E : ak} {f : AV} {ts : List Tm} {xs : List AV} (h1 : gT ts xs) (hf : ∀ t v, t ∈ ts -> Sl t.kids v -> ∃ r, bG K E f [v] r /\ Sl t.kids r /\ r.untok = r) :
  ∃ zs, gT ts zs /\ AV.untokL zs = zs /\ ∀ k, K <= k -> ∀ (i : Nat) t, ts[i]? = some t -> ∃ v r, xs[i]? = some (.agg [.int .i64 t.kind, .str t.text, v]) /\ zs[i]? = some (.agg [.int .i64 t.kind, .str t.text, r]) /\ ∀ s, au E k none f [v] s = some (.ret r, false, s) := by
 induction ts generalizing xs with
 | nil => exact ⟨[], by simp [gT], rfl, fun _ _ i t h => by simp at h⟩
 | cons t ts ih =>
  simp only [gT] at h1
  obtain ⟨y, ys, rfl, hy, hys⟩ := h1
  obtain ⟨zs, k1, k2, k3⟩ := ih hys fun t v ht => hf t v (List.mem_cons_of_mem _ ht)
  obtain ⟨v, rfl, hv⟩ := hy.open
  obtain ⟨r, hr, hr2, hr3⟩ := hf t v (List.mem_cons_self ..) hv
  refine ⟨.agg [.int .i64 t.kind, .str t.text, r] :: zs, ?_, ?_, fun k hk i u hu => ?_⟩
  ·simp only [gT]
   refine ⟨_, _, rfl, ?_, k1⟩
   have := Rt.mk (k := t.kind) (s := t.text) hr2
   cases t; exact this
  ·simp only [AV.untokL, AV.untok, hr3, k2]
  ·cases i with
   | zero =>
    simp only [List.getElem?_cons_zero, Option.some.injEq] at hu
    subst hu
    exact ⟨v, r, rfl, rfl, hr k hk⟩
   | succ i => exact k3 k hk i u (by simpa using hu)
section
variable {E : ak} (hE : E.fns = af.fn ag)
include hE
theorem FY {ts : List Tm} {v : AV} (h : Sl ts v) (hn : ts.length <= aO) (k : Nat) (s : St) : ∃ r s', au E (k + 1) none (.fn cC [] []) [v] s = some (.ret r, false, s') /\
  ((ts = [] /\ (r = .sl .nil 3 [] /\ v = .sl .nil 3 [] \/ r = .sl .full 3 [] /\ (∃ o, o ≠ .nil /\ v = .sl o 3 [])) /\ s' = s) \/ (ts ≠ [] /\ r = .msl s.bl.length 0 3 ts.length /\ ∃ o xs, v = .sl o 3 xs /\ s' = { s with bl := s.bl ++ [.cells (lc (AV.untokL xs))] })) := by
 obtain ⟨o, xs, rfl, ⟨_, ho⟩, hR⟩ := h
 have hR' := gT.untokL hR
 have hl := hR'.length
 have hl0 := hR.length
 have hmm : aO = 1073741824 := rfl
 refine cI (nD hE) rfl ?_
 by_cases hon : o = .nil
 ·subst hon
  have := ho rfl
  subst this
  have h0 : ts = [] := List.eq_nil_of_length_eq_zero (by simpa using hl0.symm)
  subst h0
  simp [br, cw, HN, cD, jk]
 ·have ha : ∀ z, HN .slice (.sl o 3 xs) (.sl .nil z []) = some false := by
   intro z; cases o <;> first | rfl | exact absurd rfl hon
  cases hx : AV.untokL xs with
  | nil =>
   have hx0 : xs = [] := by cases xs with | nil => rfl | cons _ _ => simp [AV.untokL] at hx
   subst hx0
   have h0 : ts = [] := List.eq_nil_of_length_eq_zero (by simpa using hl0.symm)
   subst h0
   simp [br, cw, ha, aq, bE, xZ, oZ, cD, jk, hon]
  | cons y r =>
   have hcl := zu hR'.aggs
   have hne : ts ≠ [] := by rintro rfl; simp only [gT] at hR'; rw [hR'] at hx; cases hx
   rw [hx] at hcl hl
   have hlen : (y :: r).length <= aO := by omega
   have hlen2 : r.length + 1 = ts.length := by simpa using hl
   simp only [List.length_cons] at hlen
   simp [br, cw, ha, aq, bE, xZ, oZ, hx, hn, hcl, cD, jk, hne, hlen2]
   exact ⟨o, xs, ⟨rfl, rfl⟩, by rw [hx]⟩
theorem Om : ∀ (n : Nat) {ts : List Tm} {v : AV}, aV ts < n -> aV ts <= aO -> Sl ts v -> ∃ r, bG (4 * aV ts + 7) E (.fn ke [] []) [v] r /\ Sl ts r /\ r.untok = r
 | 0, _, _, h, _, _ => by omega
 | n + 1, ts, v, hn, hm, hv => by
  have hv0 := hv
  obtain ⟨o1, xs, rfl, ⟨hm1, hnil⟩, h1⟩ := hv
  have hl1 := h1.length
  have hmx : maxLen = 9223372036854775807 := rfl
  have hmm : aO = 1073741824 := rfl
  have hlt := aC ts
  obtain ⟨zs, z1, z2, z3⟩ := Sp (K := 4 * aV ts + 3) (E := E) (f := .fn ke [] []) (gT.untokL h1) fun t v ht hv => by
   have hc := f8 ht
   rw [g7] at hc
   obtain ⟨r, a1, a2⟩ := Om n (v := v) (ts := t.kids) (by omega) (by omega) hv
   exact ⟨r, a1.mono (by omega), a2⟩
  have hzl := z1.length
  by_cases hts : ts = []
  ·subst hts
   have hx0 : xs = [] := by simpa using hl1
   subst hx0
   have key : ∀ k s, 2 <= k -> au E k none (.fn ke [] []) [.sl o1 3 []] s = some (.ret (if o1 = .nil then .sl .nil 3 [] else .sl .full 3 []), false, s) := by
    intro k s hk
    obtain ⟨k, rfl⟩ : ∃ j, k = j + 2 := ⟨k - 2, by omega⟩
    refine zt (E := E) (zZ hE) (first := []) (caps := []) (args := [AV.sl o1 3 []]) rfl (k := k + 1) (fun bl tk => ?_) s
    obtain ⟨r, s', hc, hor⟩ := FY hE hv0 (by simp) k { bl, tk, ro := bl.length, rt := tk.length }
    rcases hor with ⟨_, hr, rfl⟩ | ⟨h, _⟩
    ·rcases hr with ⟨rfl, he⟩ | ⟨rfl, o2, ho2, he⟩
     ·cases he
      simp [pc, ve, jk, hc]
      refine aA 0 (fun i e st => i = 0 /\ e = [(3, .sl .nil 3 []), (8, .int .i64 0), (9, .int .i64 0)] /\ st = { bl, tk, ro := bl.length, rt := tk.length }) (by omega) (by simp) (fun i e st hi _ => by omega) ?_
      rintro e st ⟨_, rfl, rfl⟩
      simp [qo, sw]
     ·cases he
      simp [pc, ve, jk, hc]
      refine aA 0 (fun i e st => i = 0 /\ e = [(3, .sl .full 3 []), (8, .int .i64 0), (9, .int .i64 0)] /\ st = { bl, tk, ro := bl.length, rt := tk.length }) (by omega) (by simp) (fun i e st hi _ => by omega) ?_
      rintro e st ⟨_, rfl, rfl⟩
      simp [qo, sw, ho2]
    ·exact absurd rfl h
   refine ⟨_, fun k hk s => key k s (by omega), ?_, ?_⟩
   ·split
    ·exact Sl.nil
    ·exact ⟨_, _, rfl, ⟨by simp, fun h => by cases h⟩, by simp [gT]⟩
   ·split <;> rfl
  ·refine ⟨.sl .any 3 zs, fun k hk s => ?_, ⟨_, _, rfl, ⟨by rw [hzl]; omega, fun h => by cases h⟩, z1⟩, rfl⟩
   obtain ⟨k, rfl⟩ : ∃ j, k = j + 2 := ⟨k - 2, by omega⟩
   refine zt (E := E) (zZ hE) (first := []) (caps := []) (args := [AV.sl o1 3 xs]) rfl (k := k + 1) (fun bl tk => ?_) s
   obtain ⟨r, s', hc, hor⟩ := FY hE hv0 (by omega) k { bl, tk, ro := bl.length, rt := tk.length }
   rcases hor with ⟨rfl, _⟩ | ⟨_, rfl, o2, xs2, e2, rfl⟩
   ·exact absurd rfl hts
   cases e2
   have hul : (AV.untokL xs).length = ts.length := by simp [hl1]
   have hag := (gT.untokL h1).aggs
   have hagz := z1.aggs
   simp [pc, ve, jk, hc]
   refine aA ts.length (fun i e st => e = [(3, .msl bl.length 0 3 ts.length), (8, .int .i64 ts.length), (9, .int .i64 i)] /\ st = { bl := bl ++ [.cells (lc (zs.take i ++ (AV.untokL xs).drop i))], tk, ro := bl.length, rt := tk.length }) (by omega) (by simp) ?_ ?_
   ·rintro i e st hi ⟨rfl, rfl⟩
    obtain ⟨t, ht⟩ : ∃ t, ts[i]? = some t := ⟨_, List.getElem?_eq_getElem hi⟩
    obtain ⟨v, r, hx, hz, hcall⟩ := z3 (k + 1) (by omega) i t ht
    obtain ⟨or, kr, rfl⟩ : ∃ o xs, r = .sl o 3 xs := by
     obtain ⟨y, hy, hry⟩ := z1.get ht
     rw [hz] at hy; cases hy
     obtain ⟨q, hq, hsl⟩ := hry.open
     cases hq
     obtain ⟨o, xs, h, _⟩ := hsl
     exact ⟨o, xs, h⟩
    obtain ⟨hxi, hx1⟩ := List.getElem?_eq_some_iff.1 hx
    obtain ⟨hzi, hz1⟩ := List.getElem?_eq_some_iff.1 hz
    have e1 : et (.int .i64 i) ts.length = some i := av hi
    have hwr : IntKind.wrap .i64 ((i : Int) + 1) = i + 1 := ar (by omega) (by omega)
    have htl : (zs.take i).length = i := by rw [List.length_take]; omega
    have hagt : yi 3 (zs.take i) := fun y hy => hagz y (List.mem_of_mem_take hy)
    obtain ⟨X, hX⟩ : ∃ X, X = lc (zs.take i ++ (AV.untokL xs).drop i) := ⟨_, rfl⟩
    have hd : (AV.untokL xs).drop i = .agg [.int .i64 t.kind, .str t.text, v] :: (AV.untokL xs).drop (i + 1) := by rw [List.drop_eq_getElem_cons hxi, hx1]
    have hzt : zs.take (i + 1) = zs.take i ++ [.agg [.int .i64 t.kind, .str t.text, .sl or 3 kr]] := by rw [List.take_add_one, hz]; rfl
    have g1 : X[i * 3 + 2]? = some v := by
     rw [hX, hd]
     have := Ml (l := zs.take i) (r := (AV.untokL xs).drop (i + 1)) (cs := [.int .i64 t.kind, .str t.text, v]) hagt 2 (by simp)
     rw [htl] at this; exact this
    have g2 : X.take (i * 3 + 2) ++ .sl or 3 kr :: X.drop (i * 3 + 3) = lc (zs.take (i + 1) ++ (AV.untokL xs).drop (i + 1)) := by
     rw [hX, hd, hzt, List.append_assoc]
     have := Mm (l := zs.take i) (r := (AV.untokL xs).drop (i + 1)) (cs := [.int .i64 t.kind, .str t.text, v]) hagt 2 (by simp) (.sl or 3 kr)
     rw [htl] at this
     exact this
    have g3 : X.length = ts.length * 3 := by
     rw [hX, pq (z := 3)]
     ·simp only [List.length_append, htl, List.length_drop, hul]; congr 1; omega
     ·exact hagt.append fun y hy => hag y (List.mem_of_mem_drop hy)
    have g4 : i * 3 + 3 <= X.length := by omega
    rw [<- hX]
    simp [qo, hi, e1, hwr, aa, ac, aj, aB, g1, g4, hcall, g2]
   ·rintro e st ⟨rfl, rfl⟩
    have hf := Ou (s := { bl := bl ++ [.cells (lc zs)], tk, ro := bl.length, rt := tk.length }) (lo := bl.length) (i := bl.length) (z := 3) (ys := zs) (Nat.le_refl _) (by simp) hagz (by omega) (fun k => z1.frz _ _ _)
    rw [hzl] at hf
    have hdz := z1.data
    rw [List.take_of_length_le (by omega), List.drop_of_length_le (by omega), List.append_nil]
    simp [qo, sw, hf, z2, hdz]
end
open Go Ab Go.RowKit
set_option maxRecDepth 10000
theorem Sq {K : Nat} {E : ak} {f : AV} {ts : List Tm} {xs : List AV} (h1 : gT ts xs) (hf : ∀ t v, t ∈ ts -> Sl t.kids v -> ∃ r, bG K E f [v] r /\ Sl t.kids r /\ r.untok = r) :
  ∃ zs, gT ts zs /\ AV.untokL zs = zs /\ ∀ k, K <= k -> ∀ (i : Nat) t, ts[i]? = some t -> ∃ v r, xs[i]? = some (.agg [.int .i64 t.kind, .str t.text, v]) /\ zs[i]? = some (.agg [.int .i64 t.kind, .str t.text, r]) /\ r.untok = r /\ Sl t.kids v /\ Sl t.kids r /\ (t.kids = [] -> r = .sl .nil 3 []) /\ (t.kids ≠ [] -> ∀ s, au E k none f [v] s = some (.ret r, false, s)) := by
 induction ts generalizing xs with
 | nil => exact ⟨[], by simp [gT], rfl, fun _ _ i t h => by simp at h⟩
 | cons t ts ih =>
  simp only [gT] at h1
  obtain ⟨y, ys, rfl, hy, hys⟩ := h1
  obtain ⟨zs, k1, k2, k3⟩ := ih hys fun t v ht => hf t v (List.mem_cons_of_mem _ ht)
  obtain ⟨v, rfl, hv⟩ := hy.open
  obtain ⟨r, hr3, hr2, h4, h5⟩ : ∃ r : AV, r.untok = r /\ Sl t.kids r /\ (t.kids = [] -> r = .sl .nil 3 []) /\ (t.kids ≠ [] -> ∀ k, K <= k -> ∀ s, au E k none f [v] s = some (.ret r, false, s)) := by
   by_cases hk : t.kids = []
   ·exact ⟨.sl .nil 3 [], rfl, by rw [hk]; exact Sl.nil, fun _ => rfl, fun h => absurd hk h⟩
   ·obtain ⟨r, hr, hr2, hr3⟩ := hf t v (List.mem_cons_self ..) hv
    exact ⟨r, hr3, hr2, fun h => absurd h hk, fun _ => hr⟩
  refine ⟨.agg [.int .i64 t.kind, .str t.text, r] :: zs, ?_, ?_, fun k hk i u hu => ?_⟩
  ·simp only [gT]
   refine ⟨_, _, rfl, ?_, k1⟩
   have := Rt.mk (k := t.kind) (s := t.text) hr2
   cases t; exact this
  ·simp only [AV.untokL, AV.untok, hr3, k2]
  ·cases i with
   | zero =>
    simp only [List.getElem?_cons_zero, Option.some.injEq] at hu
    subst hu
    exact ⟨v, r, rfl, rfl, hr3, hv, hr2, h4, fun h => h5 h k hk⟩
   | succ i => exact k3 k hk i u (by simpa using hu)
section
variable {E : ak} (hE : E.fns = af.fn ag)
include hE
theorem Eu : ∀ (n : Nat) {ts : List Tm} {v : AV}, aV ts < n -> aV ts <= 1048576 -> Sl ts v -> ∃ r, bG (2 * aV ts + 3) E (.fn dG [] []) [v] r /\ Sl ts r /\ r.untok = r
 | 0, _, _, h, _, _ => by omega
 | n + 1, ts, v, hn, hm, hv => by
  have hv0 := hv
  obtain ⟨o1, xs, rfl, ⟨hm1, hnil⟩, h1⟩ := hv
  have hl1 := h1.length
  have hmx : maxLen = 9223372036854775807 := rfl
  have hmm : aO = 1073741824 := rfl
  have hlt := aC ts
  obtain ⟨zs, z1, z2, z3⟩ := Sq (K := 2 * aV ts + 2) (E := E) (f := .fn dG [] []) h1 fun t v ht hv => by
   have hc := f8 ht
   rw [g7] at hc
   obtain ⟨r, a1, a2⟩ := Eu n (v := v) (ts := t.kids) (by omega) (by omega) hv
   exact ⟨r, a1.mono (by omega), a2⟩
  have hzl := z1.length
  obtain ⟨or, hor, hno⟩ := Ok .full 3 zs
  refine ⟨JN .full 3 zs, ?_, ?_, Gb (.inr rfl) _ _⟩
  ·refine bG.byW (rX hE) rfl rfl (K := 2 * aV ts + 2) fun k hk bl tk => ?_
   simp [jP, rJ, aq, bE, az]
   refine aA ts.length (fun i e' st => ∃ g, e' = [(0, .sl o1 3 xs), (3, sb .full 3 tk.length (zs.take i)), (4, .int .i64 i)] /\ st = { bl := bl ++ g, tk := cU tk (zs.take i), ro := bl.length, rt := tk.length }) (by omega) ⟨[], by simp, by simp⟩ ?_ ?_
   ·rintro i e' st hi ⟨g, rfl, rfl⟩
    obtain ⟨t, ht⟩ : ∃ t, ts[i]? = some t := ⟨_, List.getElem?_eq_getElem hi⟩
    obtain ⟨w, r, hx, hz, hru, hw, hrs, hk0, hk1⟩ := z3 k (by omega) i t ht
    obtain ⟨ow, ks, rfl, hlk⟩ := hw.len
    obtain ⟨or', kr, hre, hlr⟩ := hrs.len
    rw [hre] at hz hru hk0 hk1
    clear hre
    obtain ⟨hi1, hx1⟩ := List.getElem?_eq_some_iff.1 hx
    have e1 : et (.int .i64 i) xs.length = some i := av (by omega)
    have hwr : IntKind.wrap .i64 ((i : Int) + 1) = i + 1 := ar (by omega) (by omega)
    have hiz : (i : Int) < (xs.length : Int) := by omega
    have hs : zs.take (i + 1) = zs.take i ++ [.agg [.int .i64 t.kind, .str t.text, .sl or' 3 kr]] := by rw [List.take_succ, hz]; rfl
    have ha : ∀ b : List AB, _ := fun b => vP (o0 := .full) (.inr rfl) (bl := b) (tk := tk) (ro := bl.length) (rt := tk.length) (z := 3) (ys := zs.take i) (y := .agg [.int .i64 t.kind, .str t.text, .sl or' 3 kr]) (o := .full) (by rw [List.length_take, hmm]; omega) (Nat.le_refl _)
    rw [show (AV.agg [.int .i64 t.kind, .str t.text, .sl or' 3 kr]).untok = .agg [.int .i64 t.kind, .str t.text, .sl or' 3 kr] by simp [AV.untok, AV.untokL, hru], <- hs] at ha
    have q2 : ∀ (f : AB), (bl ++ (g ++ [f]))[bl.length + g.length]? = some f := fun f => by rw [aa]; simp
    have q3 : ∀ (f f' : AB), (bl ++ (g ++ [f])).set (bl.length + g.length) f' = bl ++ (g ++ [f']) := fun f f' => by rw [aj]; simp
    have hro : bl.length <= bl.length + g.length := by omega
    by_cases hkd : t.kids = []
    ·have hkz := hk0 hkd
     cases hkz
     have hks : ks = [] := List.eq_nil_of_length_eq_zero (by rw [hlk, hkd]; rfl)
     subst hks
     simp [js, hi, hiz, e1, hx, hx1, hwr, aq, bE, ai, az, q2, q3, hro, ha]
    ·have hcall := hk1 hkd
     have hne : 0 < ks.length := by rw [hlk]; exact List.length_pos_iff.2 hkd
     have hne' : (0 : Int) < (ks.length : Int) := by omega
     simp [js, hi, hiz, e1, hx, hx1, hwr, aq, bE, ai, az, q2, q3, hro, hne, hne', hcall, hru, ha]
   ·rintro e' st ⟨g, rfl, rfl⟩
    rw [List.take_of_length_le (by omega)]
    simp [js, hl1, PP, Ch (.inr rfl), z1.data]
  ·exact ⟨or, zs, hor, ⟨by omega, hno⟩, z1⟩
end
open Go Ab Go.RowKit
set_option maxRecDepth 10000
def nw (a : Au) (of oe : gu) (ys : List AV) : List AV := [.int .i64 a.n, .int .i64 a.start, .sl of 1 (ao a.fin), .sl oe 8 ys]
def Bx (q : Bool) (S T : Nat -> Bool) : Prop := (q = false -> T = S) /\ (q = true -> uD T S = false)
theorem DZ {S T : Nat -> Bool} {m : Nat} (hmono : ∀ j, S j = true -> T j = true) (hm : m < 448) (h : T m = false) (U : Nat -> Bool) (hU : U m = true) : Bx true S U := by
 refine ⟨fun h => (by cases h), fun _ => ?_⟩
 cases hc : uD U S with
 | false => rfl
 | true =>
  have := tI.1 hc m hm
  rw [hU] at this
  have := hmono m this.symm
  rw [h] at this; cases this
abbrev TX (bl : List AB) (tk : List Nat) (X0 X1 X2 : AB) (r : List AB) : St := { bl := bl ++ X0 :: X1 :: X2 :: r, tk, ro := bl.length, rt := tk.length }
section
variable {E : ak} (hE : E.fns = af.fn ag)
include hE
theorem RC {a : Au} {of oe : gu} {ys : List AV} (hes : cL jq a.eds ys) (ht : Tr a) {n : Nat} (hn : a.n = n) {k : Nat} (hk : 6000000 <= k) {bl : List AB} {tk : List Nat} {X1 X2 : AB} (S : Nat -> Bool) {Q : AH} {e : bF} {g : List AB}
  (he : e.kill [0, 6, 7, 8, 9, 10, 11, 12, 13, 14, 15, 16, 17, 18, 19, 20, 21, 24, 29, 65, 75, 85, 124, 129, 168, 175, 186, 198, 218, 228, 246, 266, 281, 292, 306] = [(1, .ptr bl.length 0), (2, .ptr (bl.length + 1) 0), (3, .msl (bl.length + 3) 0 1 n), (4, .bool false), (5, .int .i64 0)])
  (hQ : ∀ g q, Bx q S (eK a.eds S) -> Q (.exit 2) [(1, .ptr bl.length 0), (2, .ptr (bl.length + 1) 0), (3, .msl (bl.length + 3) 0 1 n), (4, .bool q), (5, .int .i64 a.eds.length), (29, .bool false)] (TX bl tk (.cells (nw a of oe ys)) X1 X2 (.cells (db n (eK a.eds S)) :: g))) :
  wp E (au E k) k false (.loop [0, 6, 7, 8, 9, 10, 11, 12, 13, 14, 15, 16, 17, 18, 19, 20, 21, 24, 29, 65, 75, 85, 124, 129, 168, 175, 186, 198, 218, 228, 246, 266, 281, 292, 306] bO) Q e (TX bl tk (.cells (nw a of oe ys)) X1 X2 (.cells (db n S) :: g)) := by
 have hly := hes.length
 obtain ⟨⟨hn1, hn2⟩, _, _, _, hb, hw⟩ := ht
 have q0 : ∀ (c : AB) (r : List AB), (bl ++ c :: r)[bl.length]? = some c := fun c r => by rw [ac]; rfl
 have q3 : ∀ (c0 c1 c2 c3 : AB) (r : List AB), (bl ++ c0 :: c1 :: c2 :: c3 :: r)[bl.length + 3]? = some c3 := fun c0 c1 c2 c3 r => by rw [aa]; rfl
 have s3 : ∀ (c0 c1 c2 c3 f : AB) (r : List AB), (bl ++ c0 :: c1 :: c2 :: c3 :: r).set (bl.length + 3) f = bl ++ c0 :: c1 :: c2 :: f :: r := fun c0 c1 c2 c3 f r => by rw [aj]; rfl
 have hro3 : bl.length <= bl.length + 3 := by omega
 refine aA ys.length (fun i e' st => ∃ g q, Bx q S (eK (a.eds.take i) S) /\ e' = [(1, .ptr bl.length 0), (2, .ptr (bl.length + 1) 0), (3, .msl (bl.length + 3) 0 1 n), (4, .bool q), (5, .int .i64 i)] /\ st = TX bl tk (.cells (nw a of oe ys)) X1 X2 (.cells (db n (eK (a.eds.take i) S)) :: g)) (by omega) ⟨g, false, ⟨fun _ => by simp [eK], fun h => by cases h⟩, he, by simp [eK]⟩ ?_ ?_
 ·rintro i e' st hi ⟨g, q, hq, rfl, rfl⟩
  obtain ⟨t, ht⟩ : ∃ t, a.eds[i]? = some t := ⟨_, List.getElem?_eq_getElem (by omega)⟩
  obtain ⟨x, hx, hrt⟩ := hes.get ht
  obtain ⟨hfr, hto, hin, _⟩ := hw t (List.mem_of_getElem? ht)
  have gg := CY hE hrt k (by omega)
  obtain ⟨m1, hm1⟩ : ∃ m : Nat, t.fr = m := ⟨t.fr.toNat, by omega⟩
  obtain ⟨m2, hm2⟩ : ∃ m : Nat, t.to = m := ⟨t.to.toNat, by omega⟩
  obtain ⟨kv, o', zs, rfl⟩ := hrt.open
  obtain ⟨hi1, hx1⟩ := List.getElem?_eq_some_iff.1 hx
  have e1 : et (.int .i64 i) ys.length = some i := av hi
  have e2 : et (.int .i64 m1) n = some m1 := av (by omega)
  have e3 : et (.int .i64 m2) n = some m2 := av (by omega)
  have b1 := bV (n := n) (eK (a.eds.take i) S) (i := m1) (by omega)
  have b2 := bV (n := n) (eK (a.eds.take i) S) (i := m2) (by omega)
  have bu := vV (n := n) (eK (a.eds.take i) S) (i := m1) (by omega)
  have l1 : m1 + 1 <= n := by omega
  have hwr : IntKind.wrap .i64 ((i : Int) + 1) = i + 1 := ar (by omega) (by omega)
  have q4 : ∀ (c0 c1 c2 c3 f : AB), (bl ++ c0 :: c1 :: c2 :: c3 :: (g ++ [f]))[bl.length + (g.length + 1 + 1 + 1 + 1)]? = some f := fun c0 c1 c2 c3 f => by rw [aa]; simp
  have s4 : ∀ (c0 c1 c2 c3 f f' : AB), (bl ++ c0 :: c1 :: c2 :: c3 :: (g ++ [f])).set (bl.length + (g.length + 1 + 1 + 1 + 1)) f' = bl ++ c0 :: c1 :: c2 :: c3 :: (g ++ [f']) := fun c0 c1 c2 c3 f f' => by rw [aj]; simp
  have hro : bl.length <= bl.length + (g.length + 1 + 1 + 1 + 1) := by omega
  have hs : eK (a.eds.take (i + 1)) S = BS (eK (a.eds.take i) S) t := ng ht
  unfold BS ja at hs
  rw [hm1, hm2] at hs
  simp only [Int.toNat_natCast] at hs
  have hmono := fun j => ji (a.eds.take i) S j
  obtain ⟨T, hT⟩ : ∃ T, T = eK (a.eds.take i) S := ⟨_, rfl⟩
  obtain ⟨T', hT'⟩ : ∃ T', T' = eK (a.eds.take (i + 1)) S := ⟨_, rfl⟩
  rw [<- hT'] at hs ⊢
  rw [<- hT] at hs b1 b2 bu hq hmono ⊢
  have no : T' = T -> Bx q S T' := fun h => by rw [h]; exact hq
  have yes : T m1 = false -> Bx true S (tx T m1) := fun h => DZ hmono (by omega) h _ (by simp [tx])
  rw [hm1, hm2] at gg
  cases c1 : T m1 with
  | true =>
   have hs : T' = T := by
    rw [hs]; split
    ·exact Dp c1
    ·rfl
   have no2 := no hs
   clear no
   subst hs
   simp [-Bool.exists_bool, bO, hi, e1, e2, e3, hx, hx1, hwr, q0, q3, q4, s4, hro, hro3, nw, hm1, hm2, b1, b2, c1]
   exact ⟨_, _, no2, rfl, rfl⟩
  | false =>
   have yes := yes c1
   cases c2 : T m2 with
   | false =>
    have hs : T' = T := by rw [hs]; simp [c2]
    have no2 := no hs
    clear no
    subst hs
    simp [-Bool.exists_bool, bO, hi, e1, e2, e3, hx, hx1, hwr, q0, q3, q4, s4, hro, hro3, nw, hm1, hm2, b1, b2, c1, c2]
    exact ⟨_, _, no2, rfl, rfl⟩
   | true =>
   cases c3 : ET t with
   | false =>
    have hs : T' = T := by rw [hs]; simp [c3]
    have no2 := no hs
    clear no
    subst hs
    rw [c3] at gg
    simp [-Bool.exists_bool, bO, hi, e1, e2, e3, hx, hx1, hwr, q0, q3, q4, s4, hro, hro3, nw, hm1, hm2, b1, b2, c1, c2, gg]
    exact ⟨_, _, no2, rfl, rfl⟩
   | true =>
   rw [c3] at gg
   by_cases k5 : t.kind = 5
   ·obtain ⟨m3, hm3⟩ : ∃ m : Nat, t.inner = m := ⟨t.inner.toNat, by have := hin k5; omega⟩
    have e4 : et (.int .i64 m3) n = some m3 := av (by have := hin k5; omega)
    have b3 := bV (n := n) T (i := m3) (by have := hin k5; omega)
    have k5' : (t.kind != 5) = false := by simp [k5]
    rw [hm3] at hs gg
    simp only [Int.toNat_natCast] at hs
    cases c4 : T m3 with
    | false =>
     have hs : T' = T := by rw [hs]; simp [c4, k5]
     have no2 := no hs
     clear no
     subst hs
     simp [-Bool.exists_bool, bO, hi, e1, e2, e3, e4, hx, hx1, hwr, q0, q3, q4, s4, hro, hro3, nw, hm1, hm2, hm3, b1, b2, b3, c1, c2, c4, k5', gg]
     exact ⟨_, _, no2, rfl, rfl⟩
    | true =>
     have hs : T' = tx T m1 := by rw [hs]; simp [c2, c3, c4]
     subst hs
     simp [-Bool.exists_bool, bO, hi, e1, e2, e3, e4, hx, hx1, hwr, q0, q3, q4, s3, s4, hro, hro3, nw, hm1, hm2, hm3, b1, b2, b3, c1, c2, c4, k5', gg, l1, bu]
     exact ⟨_, _, yes, rfl, rfl⟩
   ·have k5' : (t.kind != 5) = true := by simpa using k5
    have hs : T' = tx T m1 := by rw [hs]; simp [c2, c3, k5]
    subst hs
    simp [-Bool.exists_bool, bO, hi, e1, e2, e3, hx, hx1, hwr, q0, q3, q4, s3, s4, hro, hro3, nw, hm1, hm2, b1, b2, c1, c2, k5', gg, l1, bu]
    exact ⟨_, _, yes, rfl, rfl⟩
 ·rintro e' st ⟨g, q, hq, rfl, rfl⟩
  rw [hly, List.take_of_length_le (Nat.le_refl _)] at hq ⊢
  simp [bO, q0, q3, nw, hly]
  exact hQ g q hq
theorem RB {a : Au} {of oe : gu} {ys : List AV} (hes : cL jq a.eds ys) (ht : Tr a) {n : Nat} (hn : a.n = n) {k : Nat} (hk : 6000000 <= k) {bl : List AB} {tk : List Nat} {X1 X2 : AB} {Q : AH} {e : bF} {g : List AB}
  (he : e.kill [0, 5, 6, 7, 8, 9, 10, 11, 12, 13, 14, 15, 16, 17, 18, 19, 20, 21, 24, 29, 65, 75, 85, 124, 129, 168, 175, 186, 198, 218, 228, 246, 266, 281, 292, 306] = [(1, .ptr bl.length 0), (2, .ptr (bl.length + 1) 0), (3, .msl (bl.length + 3) 0 1 n), (4, .bool true)])
  (hQ : ∀ g, Q (.exit 0) [(1, .ptr bl.length 0), (2, .ptr (bl.length + 1) 0), (3, .msl (bl.length + 3) 0 1 n), (4, .bool false), (24, .bool false)] (TX bl tk (.cells (nw a of oe ys)) X1 X2 (.cells (db n (aE a)) :: g))) :
  wp E (au E k) k false (.loop [0, 5, 6, 7, 8, 9, 10, 11, 12, 13, 14, 15, 16, 17, 18, 19, 20, 21, 24, 29, 65, 75, 85, 124, 129, 168, 175, 186, 198, 218, 228, 246, 266, 281, 292, 306] ju) Q e (TX bl tk (.cells (nw a of oe ys)) X1 X2 (.cells (db n (oi a.fin)) :: g)) := by
 obtain ⟨m448, mlt, meq⟩ := tF (ji a.eds) (oi a.fin)
 have hal : aE a = s9 (eK a.eds) (E5 (eK a.eds) (ji a.eds) (oi a.fin)) (oi a.fin) := rfl
 rw [hal] at hQ
 obtain ⟨m, hm⟩ : ∃ m, m = E5 (eK a.eds) (ji a.eds) (oi a.fin) := ⟨_, rfl⟩
 rw [<- hm] at m448 mlt meq hQ
 refine aA (m + 1) (fun i e' st => ∃ g, e' = [(1, .ptr bl.length 0), (2, .ptr (bl.length + 1) 0), (3, .msl (bl.length + 3) 0 1 n), (4, .bool (decide (i <= m)))] /\ st = TX bl tk (.cells (nw a of oe ys)) X1 X2 (.cells (db n (s9 (eK a.eds) (min i m) (oi a.fin))) :: g)) (by omega) ⟨g, by simp [he], by simp [s9]⟩ ?_ ?_
 ·rintro i e' st hi ⟨g, rfl, rfl⟩
  have h1 : i <= m := by omega
  rw [Nat.min_eq_left h1]
  simp [ju, h1]
  refine RC hE hes ht hn hk (s9 (eK a.eds) i (oi a.fin)) (by simp) fun g q hq => ?_
  have hnx : eK a.eds (s9 (eK a.eds) i (oi a.fin)) = s9 (eK a.eds) (i + 1) (oi a.fin) := rfl
  rw [hnx] at hq ⊢
  by_cases h2 : i < m
  ·have h3 : q = true := by
    cases q with
    | true => rfl
    | false =>
     have h4 := mlt i h2
     rw [hq.1 rfl] at h4
     rw [tI.2 fun _ _ => rfl] at h4; cases h4
   subst h3
   have h5 : i + 1 <= m := by omega
   rw [Nat.min_eq_left h5]
   simp [h5]
  ·have h2 : i = m := by omega
   subst h2
   have h3 : q = false := by
    cases q with
    | false => rfl
    | true => rw [hq.2 rfl] at meq; cases meq
   subst h3
   rw [hq.1 rfl, Nat.min_eq_right (by omega)]
   simp
 ·rintro e' st ⟨g, rfl, rfl⟩
  rw [Nat.min_eq_right (by omega)]
  have h1 : ¬ (m + 1 <= m) := by omega
  simp [ju, h1]
  exact hQ g
end
open Go Ab Go.RowKit
set_option maxRecDepth 10000
theorem O9 {n i : Nat} {S T : Nat -> Bool} {b : Bool} (h : i < n) (h1 : T i = b) (h2 : ∀ j, j ≠ i -> T j = S j) : (db n S).take i ++ AV.bool b :: (db n S).drop (i + 1) = db n T := by
 apply List.ext_getElem?
 intro j
 rw [List.getElem?_append]
 simp only [List.length_take, CF, show min i n = i by omega]
 by_cases h1' : j < i
 ·rw [if_pos h1', List.getElem?_take_of_lt h1', bV _ (by omega), bV _ (by omega), h2 j (by omega)]
 ·rw [if_neg h1']
  by_cases h2' : j = i
  ·subst h2'
   rw [Nat.sub_self, bV _ h, h1]; rfl
  ·obtain ⟨q, hq⟩ : ∃ q, j - i = q + 1 := ⟨j - i - 1, by omega⟩
   rw [hq, List.getElem?_cons_succ, List.getElem?_drop, show i + 1 + q = j by omega]
   by_cases h3 : j < n
   ·rw [bV _ h3, bV _ h3, h2 j h2']
   ·rw [List.getElem?_eq_none (by simp; omega), List.getElem?_eq_none (by simp; omega)]
def Gw (A : Nat -> Bool) (l : List Ed) (j : Nat) : Bool := match l[j]? with | some e => ja A e | none => false
def kn (A : Nat -> Bool) (l : List Ed) (i : Nat) : Nat -> Bool := fun j => decide (j < i) && Gw A l j
abbrev Js (bl : List AB) (tk : List Nat) (p r : List AB) : St := { bl := bl ++ (p ++ r), tk, ro := bl.length, rt := tk.length }
theorem zG (bl p : List AB) {j : Nat} {c : AB} (h : p[j]? = some c) (r : List AB) : (bl ++ (p ++ r))[bl.length + j]? = some c := by
 rw [aa, List.getElem?_append_left (List.getElem?_eq_some_iff.1 h).1, h]
theorem C0 (bl p : List AB) {c : AB} (h : p[0]? = some c) (r : List AB) : (bl ++ (p ++ r))[bl.length]? = some c := zG bl p h r
theorem yu (bl p : List AB) (c : AB) (r : List AB) : (bl ++ (p ++ c :: r))[bl.length + p.length]? = some c := by
 rw [aa]; simp
theorem Ck (bl p : List AB) (c f : AB) (r : List AB) : (bl ++ (p ++ c :: r)).set (bl.length + p.length) f = bl ++ (p ++ f :: r) := by
 rw [aj]; simp
theorem UD (bl p g : List AB) (c f : AB) : (bl ++ (p ++ c :: (g ++ [f])))[bl.length + (p.length + (g.length + 1))]? = some f := by
 rw [aa]; simp
theorem UR (bl p g : List AB) (c f f' : AB) : (bl ++ (p ++ c :: (g ++ [f]))).set (bl.length + (p.length + (g.length + 1))) f' = bl ++ (p ++ c :: (g ++ [f'])) := by
 rw [aj]; simp
section
variable {E : ak} (hE : E.fns = af.fn ag)
include hE
theorem SL {a : Au} {of oe : gu} {ys : List AV} (hes : cL jq a.eds ys) (ht : Tr a) {n : Nat} (hn : a.n = n) {k : Nat} (hk : 6000000 <= k) {bl : List AB} {tk : List Nat} {p : List AB} (A : Nat -> Bool) (hp0 : p[0]? = some (.cells (nw a of oe ys))) (hp3 : p[3]? = some (.cells (db n A))) {Q : AH} {e : bF} {s : St}
  (hs : s = Js bl tk p [.cells (db ys.length fun _ => false)])
  (he : e.kill [0, 4, 5, 6, 9, 10, 11, 12, 13, 14, 15, 16, 17, 18, 19, 20, 21, 24, 29, 65, 75, 85, 124, 129, 168, 175, 186, 198, 218, 228, 246, 266, 281, 292, 306] = [(1, .ptr bl.length 0), (2, .ptr (bl.length + 1) 0), (3, .msl (bl.length + 3) 0 1 n), (7, .msl (bl.length + p.length) 0 1 ys.length), (8, .int .i64 0)])
  (hQ : ∀ g, Q (.exit 4) [(1, .ptr bl.length 0), (2, .ptr (bl.length + 1) 0), (3, .msl (bl.length + 3) 0 1 n), (7, .msl (bl.length + p.length) 0 1 ys.length), (8, .int .i64 a.eds.length), (85, .bool false)] (Js bl tk p (.cells (db ys.length (kn A a.eds a.eds.length)) :: g))) :
  wp E (au E k) k false (.loop [0, 4, 5, 6, 9, 10, 11, 12, 13, 14, 15, 16, 17, 18, 19, 20, 21, 24, 29, 65, 75, 85, 124, 129, 168, 175, 186, 198, 218, 228, 246, 266, 281, 292, 306] dp) Q e s := by
 subst hs
 have hly := hes.length
 obtain ⟨⟨hn1, hn2⟩, _, _, _, hb, hw⟩ := ht
 have q0 := C0 bl p hp0
 have q3 := zG bl p hp3
 have qg := yu bl p
 have sg := Ck bl p
 have hrg : bl.length <= bl.length + p.length := by omega
 refine aA ys.length (fun i e' st => ∃ g, e' = [(1, .ptr bl.length 0), (2, .ptr (bl.length + 1) 0), (3, .msl (bl.length + 3) 0 1 n), (7, .msl (bl.length + p.length) 0 1 ys.length), (8, .int .i64 i)] /\ st = Js bl tk p (.cells (db ys.length (kn A a.eds i)) :: g)) (by omega) ⟨[], he, by
  have : (fun _ => false) = kn A a.eds 0 := by funext j; simp [kn]
  rw [this]⟩ ?_ ?_
 ·rintro i e' st hi ⟨g, rfl, rfl⟩
  obtain ⟨t, ht⟩ : ∃ t, a.eds[i]? = some t := ⟨_, List.getElem?_eq_getElem (by omega)⟩
  obtain ⟨x, hx, hrt⟩ := hes.get ht
  obtain ⟨hfr, hto, hin, _⟩ := hw t (List.mem_of_getElem? ht)
  have gg := CY hE hrt k (by omega)
  obtain ⟨m2, hm2⟩ : ∃ m : Nat, t.to = m := ⟨t.to.toNat, by omega⟩
  obtain ⟨kv, o', zs, rfl⟩ := hrt.open
  obtain ⟨hi1, hx1⟩ := List.getElem?_eq_some_iff.1 hx
  have e1 : et (.int .i64 i) ys.length = some i := av hi
  have e3 : et (.int .i64 m2) n = some m2 := av (by omega)
  have b2 := bV (n := n) A (i := m2) (by omega)
  have l1 : i + 1 <= ys.length := by omega
  have hwr : IntKind.wrap .i64 ((i : Int) + 1) = i + 1 := ar (by omega) (by omega)
  have q4 := UD bl p g
  have s4 := UR bl p g
  have hro : bl.length <= bl.length + (p.length + (g.length + 1)) := by omega
  have hga : Gw A a.eds i = ja A t := by simp [Gw, ht]
  have hu := O9 (n := ys.length) (i := i) (S := kn A a.eds i) (T := kn A a.eds (i + 1)) (b := ja A t) hi (by simp [kn, hga]) (fun j hj => by
   have h : decide (j < i + 1) = decide (j < i) := by congr 1; exact propext ⟨fun h => by omega, fun h => by omega⟩
   simp only [kn, h])
  rw [hm2] at gg
  unfold ja at hu
  rw [hm2] at hu
  simp only [Int.toNat_natCast] at hu
  cases c2 : A m2 with
  | false =>
   rw [c2] at hu
   simp only [Bool.false_and] at hu
   simp [-Bool.exists_bool, dp, hi, e1, e3, hx, hx1, hwr, q0, q3, q4, s4, hro, qg, sg, hrg, nw, hm2, b2, c2, l1, hu]
  | true =>
  rw [c2] at hu
  simp only [Bool.true_and] at hu
  cases c3 : ET t with
  | false =>
   rw [c3] at gg hu
   simp only [Bool.false_and] at hu
   simp [-Bool.exists_bool, dp, hi, e1, e3, hx, hx1, hwr, q0, q3, q4, s4, hro, qg, sg, hrg, nw, hm2, b2, c2, gg, l1, hu]
  | true =>
  rw [c3] at gg hu
  simp only [Bool.true_and] at hu
  by_cases k5 : t.kind = 5
  ·obtain ⟨m3, hm3⟩ : ∃ m : Nat, t.inner = m := ⟨t.inner.toNat, by have := hin k5; omega⟩
   have e4 : et (.int .i64 m3) n = some m3 := av (by have := hin k5; omega)
   have b3 := bV (n := n) A (i := m3) (by have := hin k5; omega)
   have k5' : (t.kind != 5) = false := by simp [k5]
   rw [hm3] at hu gg
   simp only [Int.toNat_natCast, k5', Bool.false_or] at hu
   simp [-Bool.exists_bool, dp, hi, e1, e3, e4, hx, hx1, hwr, q0, q3, q4, s4, hro, qg, sg, hrg, nw, hm2, hm3, b2, b3, c2, k5', gg, l1, hu]
  ·have k5' : (t.kind != 5) = true := by simpa using k5
   simp only [k5', Bool.true_or] at hu
   simp [-Bool.exists_bool, dp, hi, e1, e3, hx, hx1, hwr, q0, q3, q4, s4, hro, qg, sg, hrg, nw, hm2, b2, c2, k5', gg, l1, hu]
 ·rintro e' st ⟨g, rfl, rfl⟩
  simp [dp, q0, nw, hly]
  simpa [hly] using hQ g
end
open Go Ab Go.RowKit
set_option maxRecDepth 10000
section
variable {E : ak} (hE : E.fns = af.fn ag)
include hE
theorem RD {a : Au} {of oe : gu} {ys : List AV} (hes : cL jq a.eds ys) (ht : Tr a) {n : Nat} (hn : a.n = n) {k : Nat} (hk : 6000000 <= k) {bl : List AB} {tk : List Nat} {p : List AB} (A : Nat -> Bool) (hp0 : p[0]? = some (.cells (nw a of oe ys))) {ig : Nat} (hpg : p[ig]? = some (.cells (db ys.length (kn A a.eds a.eds.length)))) (S : Nat -> Bool) {Q : AH} {e : bF} {g : List AB}
  (he : e.kill [0, 4, 5, 6, 8, 9, 13, 14, 15, 16, 17, 18, 19, 20, 21, 24, 29, 65, 75, 85, 124, 129, 168, 175, 186, 198, 218, 228, 246, 266, 281, 292, 306] = [(1, .ptr bl.length 0), (2, .ptr (bl.length + 1) 0), (3, .msl (bl.length + 3) 0 1 n), (7, .msl (bl.length + ig) 0 1 ys.length), (10, .msl (bl.length + p.length) 0 1 n), (11, .bool false), (12, .int .i64 0)])
  (hQ : ∀ g q, Bx q S (eq A a.eds S) -> Q (.exit 8) [(1, .ptr bl.length 0), (2, .ptr (bl.length + 1) 0), (3, .msl (bl.length + 3) 0 1 n), (7, .msl (bl.length + ig) 0 1 ys.length), (10, .msl (bl.length + p.length) 0 1 n), (11, .bool q), (12, .int .i64 a.eds.length), (129, .bool false)] (Js bl tk p (.cells (db n (eq A a.eds S)) :: g))) :
  wp E (au E k) k false (.loop [0, 4, 5, 6, 8, 9, 13, 14, 15, 16, 17, 18, 19, 20, 21, 24, 29, 65, 75, 85, 124, 129, 168, 175, 186, 198, 218, 228, 246, 266, 281, 292, 306] bv) Q e (Js bl tk p (.cells (db n S) :: g)) := by
 have hly := hes.length
 obtain ⟨⟨hn1, hn2⟩, _, _, _, hb, hw⟩ := ht
 have q0 := C0 bl p hp0
 have q3 := zG bl p hpg
 have qg := yu bl p
 have sg := Ck bl p
 have hrg : bl.length <= bl.length + p.length := by omega
 refine aA ys.length (fun i e' st => ∃ g q, Bx q S (eq A (a.eds.take i) S) /\ e' = [(1, .ptr bl.length 0), (2, .ptr (bl.length + 1) 0), (3, .msl (bl.length + 3) 0 1 n), (7, .msl (bl.length + ig) 0 1 ys.length), (10, .msl (bl.length + p.length) 0 1 n), (11, .bool q), (12, .int .i64 i)] /\ st = Js bl tk p (.cells (db n (eq A (a.eds.take i) S)) :: g)) (by omega) ⟨g, false, ⟨fun _ => by simp [eq], fun h => by cases h⟩, he, by simp [eq]⟩ ?_ ?_
 ·rintro i e' st hi ⟨g, q, hq, rfl, rfl⟩
  obtain ⟨t, ht⟩ : ∃ t, a.eds[i]? = some t := ⟨_, List.getElem?_eq_getElem (by omega)⟩
  obtain ⟨x, hx, hrt⟩ := hes.get ht
  obtain ⟨hfr, hto, hin, _⟩ := hw t (List.mem_of_getElem? ht)
  obtain ⟨m1, hm1⟩ : ∃ m : Nat, t.fr = m := ⟨t.fr.toNat, by omega⟩
  obtain ⟨m2, hm2⟩ : ∃ m : Nat, t.to = m := ⟨t.to.toNat, by omega⟩
  obtain ⟨kv, o', zs, rfl⟩ := hrt.open
  obtain ⟨hi1, hx1⟩ := List.getElem?_eq_some_iff.1 hx
  have e1 : et (.int .i64 i) ys.length = some i := av hi
  have e2 : et (.int .i64 m1) n = some m1 := av (by omega)
  have e3 : et (.int .i64 m2) n = some m2 := av (by omega)
  have hga : kn A a.eds a.eds.length i = ja A t := by
   have : decide (i < a.eds.length) = true := by simp; omega
   simp [kn, Gw, ht, this]
  have b0 := bV (n := ys.length) (kn A a.eds a.eds.length) (i := i) hi
  rw [hga] at b0
  have b1 := bV (n := n) (eq A (a.eds.take i) S) (i := m1) (by omega)
  have b2 := bV (n := n) (eq A (a.eds.take i) S) (i := m2) (by omega)
  have bu := vV (n := n) (eq A (a.eds.take i) S) (i := m2) (by omega)
  have l1 : m2 + 1 <= n := by omega
  have hwr : IntKind.wrap .i64 ((i : Int) + 1) = i + 1 := ar (by omega) (by omega)
  have q4 := UD bl p g
  have s4 := UR bl p g
  have hro : bl.length <= bl.length + (p.length + (g.length + 1)) := by omega
  have hs : eq A (a.eds.take (i + 1)) S = vv A (eq A (a.eds.take i) S) t := ng ht
  unfold vv at hs
  rw [hm1, hm2] at hs
  simp only [Int.toNat_natCast] at hs
  have hmono := fun j => iu A (a.eds.take i) S j
  obtain ⟨T, hT⟩ : ∃ T, T = eq A (a.eds.take i) S := ⟨_, rfl⟩
  obtain ⟨T', hT'⟩ : ∃ T', T' = eq A (a.eds.take (i + 1)) S := ⟨_, rfl⟩
  rw [<- hT'] at hs ⊢
  rw [<- hT] at hs b1 b2 bu hq hmono ⊢
  have no : T' = T -> Bx q S T' := fun h => by rw [h]; exact hq
  have yes2 : ∀ U : Nat -> Bool, T m2 = false -> U m2 = true -> Bx true S U := fun U h hU => DZ hmono (by omega) h _ hU
  cases c0 : ja A t with
  | false =>
   rw [c0] at b0
   obtain ⟨_, b0'⟩ := List.getElem?_eq_some_iff.1 b0
   have hs : T' = T := by rw [hs]; simp [c0]
   have no2 := no hs
   clear no
   subst hs
   simp [-Bool.exists_bool, bv, hi, e1, e2, e3, hx, hx1, hwr, q0, q3, q4, s4, qg, sg, hrg, hro, nw, hm1, hm2, b0, b0']
   exact ⟨_, _, no2, rfl, rfl⟩
  | true =>
  rw [c0] at b0
  obtain ⟨_, b0'⟩ := List.getElem?_eq_some_iff.1 b0
  cases c1 : T m1 with
  | false =>
   have hs : T' = T := by rw [hs]; simp [c1]
   have no2 := no hs
   clear no
   subst hs
   simp [-Bool.exists_bool, bv, hi, e1, e2, e3, hx, hx1, hwr, q0, q3, q4, s4, qg, sg, hrg, hro, nw, hm1, hm2, b0, b0', b1, c1]
   exact ⟨_, _, no2, rfl, rfl⟩
  | true =>
  simp only [c0, c1, Bool.and_self, if_true] at hs
  by_cases k5 : t.kind = 5
  ·obtain ⟨m3, hm3⟩ : ∃ m : Nat, t.inner = m := ⟨t.inner.toNat, by have := hin k5; omega⟩
   have hm3n : m3 < n := by have := hin k5; omega
   have e4 : et (.int .i64 m3) n = some m3 := av hm3n
   have b3 := bV (n := n) T (i := m3) hm3n
   have bu3 := vV (n := n) (tx T m2) (i := m3) hm3n
   have l3 : m3 + 1 <= n := by omega
   have k5' : (t.kind == 5) = true := by simp [k5]
   rw [if_pos k5, hm3] at hs
   simp only [Int.toNat_natCast] at hs
   cases c2 : T m2 with
   | false =>
    have yes := yes2 T' c2 (by rw [hs]; exact uI (by simp [tx]))
    subst hs
    simp [-Bool.exists_bool, bv, hi, e1, e2, e3, e4, hx, hx1, hwr, q0, q3, q4, s4, qg, sg, hrg, hro, nw, hm1, hm2, hm3, b0, b0', b1, b2, b3, c1, c2, k5', bu, bu3, l1, l3]
    exact ⟨_, _, yes, rfl, rfl⟩
   | true =>
    rw [Dp c2] at hs bu3 bu
    cases c3 : T m3 with
    | false =>
     have yes : Bx true S T' := DZ hmono (m := m3) (by omega) c3 _ (by rw [hs]; simp [tx])
     subst hs
     simp [-Bool.exists_bool, bv, hi, e1, e2, e3, e4, hx, hx1, hwr, q0, q3, q4, s4, qg, sg, hrg, hro, nw, hm1, hm2, hm3, b0, b0', b1, b2, b3, c1, c2, c3, k5', bu, bu3, l1, l3]
     exact ⟨_, _, yes, rfl, rfl⟩
    | true =>
     rw [Dp c3] at hs
     have no2 := no hs
     clear no
     subst hs
     simp [-Bool.exists_bool, bv, hi, e1, e2, e3, e4, hx, hx1, hwr, q0, q3, q4, s4, qg, sg, hrg, hro, nw, hm1, hm2, hm3, b0, b0', b1, b2, b3, c1, c2, c3, k5']
     exact ⟨_, _, no2, rfl, rfl⟩
  ·have k5' : (t.kind == 5) = false := by simpa using k5
   rw [if_neg k5] at hs
   cases c2 : T m2 with
   | false =>
    have yes := yes2 T' c2 (by rw [hs]; simp [tx])
    subst hs
    simp [-Bool.exists_bool, bv, hi, e1, e2, e3, hx, hx1, hwr, q0, q3, q4, s4, qg, sg, hrg, hro, nw, hm1, hm2, b0, b0', b1, b2, c1, c2, k5', bu, l1]
    exact ⟨_, _, yes, rfl, rfl⟩
   | true =>
    rw [Dp c2] at hs
    have no2 := no hs
    clear no
    subst hs
    simp [-Bool.exists_bool, bv, hi, e1, e2, e3, hx, hx1, hwr, q0, q3, q4, s4, qg, sg, hrg, hro, nw, hm1, hm2, b0, b0', b1, b2, c1, c2, k5']
    exact ⟨_, _, no2, rfl, rfl⟩
 ·rintro e' st ⟨g, q, hq, rfl, rfl⟩
  rw [hly, List.take_of_length_le (Nat.le_refl _)] at hq ⊢
  simp [bv, q0, nw, hly]
  simpa [hly] using hQ g q hq
theorem RE {a : Au} {of oe : gu} {ys : List AV} (hes : cL jq a.eds ys) (ht : Tr a) {n : Nat} (hn : a.n = n) {k : Nat} (hk : 6000000 <= k) {bl : List AB} {tk : List Nat} {p : List AB} (hp0 : p[0]? = some (.cells (nw a of oe ys))) {ig : Nat} (hpg : p[ig]? = some (.cells (db ys.length (kn (aE a) a.eds a.eds.length)))) {Q : AH} {e : bF} {s : St}
  (hs : s = Js bl tk p [.cells (db n (Af a.start.toNat))])
  (he : e.kill [0, 4, 5, 6, 8, 9, 12, 13, 14, 15, 16, 17, 18, 19, 20, 21, 24, 29, 65, 75, 85, 124, 129, 168, 175, 186, 198, 218, 228, 246, 266, 281, 292, 306] = [(1, .ptr bl.length 0), (2, .ptr (bl.length + 1) 0), (3, .msl (bl.length + 3) 0 1 n), (7, .msl (bl.length + ig) 0 1 ys.length), (10, .msl (bl.length + p.length) 0 1 n), (11, .bool true)])
  (hQ : ∀ g, Q (.exit 6) [(1, .ptr bl.length 0), (2, .ptr (bl.length + 1) 0), (3, .msl (bl.length + 3) 0 1 n), (7, .msl (bl.length + ig) 0 1 ys.length), (10, .msl (bl.length + p.length) 0 1 n), (11, .bool false), (124, .bool false)] (Js bl tk p (.cells (db n (bq a)) :: g))) :
  wp E (au E k) k false (.loop [0, 4, 5, 6, 8, 9, 12, 13, 14, 15, 16, 17, 18, 19, 20, 21, 24, 29, 65, 75, 85, 124, 129, 168, 175, 186, 198, 218, 228, 246, 266, 281, 292, 306] jv) Q e s := by
 subst hs
 obtain ⟨m448, mlt, meq⟩ := tF (iu (aE a) a.eds) (Af a.start.toNat)
 have hal : bq a = s9 (eq (aE a) a.eds) (E5 (eq (aE a) a.eds) (iu (aE a) a.eds) (Af a.start.toNat)) (Af a.start.toNat) := rfl
 rw [hal] at hQ
 obtain ⟨m, hm⟩ : ∃ m, m = E5 (eq (aE a) a.eds) (iu (aE a) a.eds) (Af a.start.toNat) := ⟨_, rfl⟩
 rw [<- hm] at m448 mlt meq hQ
 obtain ⟨A, hA⟩ : ∃ A, A = aE a := ⟨_, rfl⟩
 rw [<- hA] at hpg mlt meq hQ
 obtain ⟨S0, hS0⟩ : ∃ A, A = Af a.start.toNat := ⟨_, rfl⟩
 rw [<- hS0] at mlt meq hQ ⊢
 refine aA (m + 1) (fun i e' st => ∃ g, e' = [(1, .ptr bl.length 0), (2, .ptr (bl.length + 1) 0), (3, .msl (bl.length + 3) 0 1 n), (7, .msl (bl.length + ig) 0 1 ys.length), (10, .msl (bl.length + p.length) 0 1 n), (11, .bool (decide (i <= m)))] /\ st = Js bl tk p (.cells (db n (s9 (eq A a.eds) (min i m) S0)) :: g)) (by omega) ⟨[], by simp [he], by simp [s9]⟩ ?_ ?_
 ·rintro i e' st hi ⟨g, rfl, rfl⟩
  have h1 : i <= m := by omega
  rw [Nat.min_eq_left h1]
  simp [jv, h1]
  refine RD hE hes ht hn hk A hp0 hpg (s9 (eq A a.eds) i S0) (by simp) fun g q hq => ?_
  have hnx : eq A a.eds (s9 (eq A a.eds) i S0) = s9 (eq A a.eds) (i + 1) S0 := rfl
  rw [hnx] at hq ⊢
  by_cases h2 : i < m
  ·have h3 : q = true := by
    cases q with
    | true => rfl
    | false =>
     have h4 := mlt i h2
     rw [hq.1 rfl] at h4
     rw [tI.2 fun _ _ => rfl] at h4; cases h4
   subst h3
   have h5 : i + 1 <= m := by omega
   rw [Nat.min_eq_left h5]
   simp [h5]
  ·have h2 : i = m := by omega
   subst h2
   have h3 : q = false := by
    cases q with
    | false => rfl
    | true => rw [hq.2 rfl] at meq; cases meq
   subst h3
   rw [hq.1 rfl, Nat.min_eq_right (by omega)]
   simp
 ·rintro e' st ⟨g, rfl, rfl⟩
  rw [Nat.min_eq_right (by omega)]
  have h1 : ¬ (m + 1 <= m) := by omega
  simp [jv, h1]
  exact hQ g
end
open Go Ab Go.RowKit
set_option maxRecDepth 10000
def BL (P : Nat -> Bool) (i j : Nat) : Int := if j < i then (cS P j : Int) else 0
def nk (n : Nat) (P : Nat -> Bool) (i : Nat) : List AV := (List.range n).map fun j => .int .i64 (BL P i j)
@[simp] theorem Me (n : Nat) (P : Nat -> Bool) (i : Nat) : (nk n P i).length = n := by simp [nk]
theorem wy {n i j : Nat} (P : Nat -> Bool) (h : j < n) : (nk n P i)[j]? = some (.int .i64 (BL P i j)) := by simp [nk, h]
theorem oy {n j : Nat} (P : Nat -> Bool) (h : j < n) : (nk n P n)[j]? = some (.int .i64 (cS P j)) := by rw [wy _ h, BL, if_pos h]
theorem OE (n : Nat) (P : Nat -> Bool) : (bE [AV.int .i64 0] n).flatten = nk n P 0 := by
 rw [Dj]
 apply List.ext_getElem?
 intro i
 simp [nk, BL, List.getElem?_replicate]
 by_cases h : i < n <;> simp [h]
theorem AS {n i : Nat} (P : Nat -> Bool) (h : cS P i = 0) : nk n P (i + 1) = nk n P i := by
 unfold nk
 congr 1; funext j
 simp only [BL]
 by_cases h1 : j < i
 ·rw [if_pos h1, if_pos (by omega)]
 ·by_cases h2 : j = i
  ·subst h2; rw [if_pos (by omega), if_neg h1, h]; rfl
  ·rw [if_neg h1, if_neg (by omega)]
theorem Mf {n i : Nat} (P : Nat -> Bool) (h : i < n) : (nk n P i).take i ++ AV.int .i64 (cS P i) :: (nk n P i).drop (i + 1) = nk n P (i + 1) := by
 apply List.ext_getElem?
 intro j
 rw [List.getElem?_append]
 simp only [List.length_take, Me, show min i n = i by omega]
 by_cases h1' : j < i
 ·rw [if_pos h1', List.getElem?_take_of_lt h1', wy _ (by omega), wy _ (by omega), BL, BL, if_pos h1', if_pos (by omega)]
 ·rw [if_neg h1']
  by_cases h2' : j = i
  ·subst h2'
   rw [Nat.sub_self, wy _ h, BL, if_pos (by omega)]; rfl
  ·obtain ⟨q, hq⟩ : ∃ q, j - i = q + 1 := ⟨j - i - 1, by omega⟩
   rw [hq, List.getElem?_cons_succ, List.getElem?_drop, show i + 1 + q = j by omega]
   by_cases h3 : j < n
   ·rw [wy _ h3, wy _ h3, BL, BL, if_neg h1', if_neg (by omega)]
   ·rw [List.getElem?_eq_none (by simp; omega), List.getElem?_eq_none (by simp; omega)]
theorem Ez (bl p : List AB) (c d : AB) (r : List AB) : (bl ++ (p ++ c :: d :: r))[bl.length + (p.length + 1)]? = some d := by
 rw [aa]; simp
theorem Jp (bl p : List AB) (c d f : AB) (r : List AB) : (bl ++ (p ++ c :: d :: r)).set (bl.length + (p.length + 1)) f = bl ++ (p ++ c :: f :: r) := by
 rw [aj]; simp
section
variable {E : ak} (hE : E.fns = af.fn ag)
include hE
theorem Ua {a : Au} {of oe : gu} {ys : List AV} (ht : Tr a) {n : Nat} (hn : a.n = n) {k : Nat} (hk : 6000000 <= k) {bl : List AB} {tk : List Nat} {p : List AB} (A R : Nat -> Bool) (hp0 : p[0]? = some (.cells (nw a of oe ys))) (hp3 : p[3]? = some (.cells (db n A))) {ig : AV} {ir : Nat} (hpr : p[ir]? = some (.cells (db n R))) {Q : AH} {e : bF} {s : St}
  (hs : s = Js bl tk p [.cells (nk n (fun i => R i && A i) 0), .cells [.int .i64 0, .int .i64 0, .sl .nil 1 [], .sl .nil 8 []]])
  (he : e.kill [0, 4, 5, 6, 8, 9, 11, 12, 13, 17, 18, 19, 20, 21, 24, 29, 65, 75, 85, 124, 129, 168, 175, 186, 198, 218, 228, 246, 266, 281, 292, 306] = [(1, .ptr bl.length 0), (2, .ptr (bl.length + 1) 0), (3, .msl (bl.length + 3) 0 1 n), (7, ig), (10, .msl (bl.length + ir) 0 1 n), (14, .msl (bl.length + p.length) 0 1 n), (15, .ptr (bl.length + (p.length + 1)) 0), (16, .int .i64 0)])
  (hQ : Q (.exit 10) [(1, .ptr bl.length 0), (2, .ptr (bl.length + 1) 0), (3, .msl (bl.length + 3) 0 1 n), (7, ig), (10, .msl (bl.length + ir) 0 1 n), (14, .msl (bl.length + p.length) 0 1 n), (15, .ptr (bl.length + (p.length + 1)) 0), (16, .int .i64 n), (186, .bool false)] (Js bl tk p [.cells (nk n (fun i => R i && A i) n), .cells [.int .i64 (aX (fun i => R i && A i) n), .int .i64 0, .sl .nil 1 [], .sl .nil 8 []]])) :
  wp E (au E k) k false (.loop [0, 4, 5, 6, 8, 9, 11, 12, 13, 17, 18, 19, 20, 21, 24, 29, 65, 75, 85, 124, 129, 168, 175, 186, 198, 218, 228, 246, 266, 281, 292, 306] ef) Q e s := by
 subst hs
 obtain ⟨⟨hn1, hn2⟩, _, _, _, hb, hw⟩ := ht
 have q0 := C0 bl p hp0
 have q3 := zG bl p hp3
 have qr := zG bl p hpr
 have qg := yu bl p
 have sg := Ck bl p
 have qh := Ez bl p
 have sh := Jp bl p
 have hrg : bl.length <= bl.length + p.length := by omega
 have hrh : bl.length <= bl.length + (p.length + 1) := by omega
 obtain ⟨P, hP⟩ : ∃ P, P = fun i => R i && A i := ⟨_, rfl⟩
 rw [<- hP] at hQ ⊢
 have hPi : ∀ i, P i = (R i && A i) := fun i => by rw [hP]
 refine aA n (fun i e' st => e' = [(1, .ptr bl.length 0), (2, .ptr (bl.length + 1) 0), (3, .msl (bl.length + 3) 0 1 n), (7, ig), (10, .msl (bl.length + ir) 0 1 n), (14, .msl (bl.length + p.length) 0 1 n), (15, .ptr (bl.length + (p.length + 1)) 0), (16, .int .i64 i)] /\ st = Js bl tk p [.cells (nk n P i), .cells [.int .i64 (aX P i), .int .i64 0, .sl .nil 1 [], .sl .nil 8 []]]) (by omega) ⟨he, rfl⟩ ?_ ?_
 ·rintro i e' st hi ⟨rfl, rfl⟩
  have e1 : et (.int .i64 i) n = some i := av hi
  have b1 := bV (n := n) R hi
  have b2 := bV (n := n) A hi
  obtain ⟨_, b1'⟩ := List.getElem?_eq_some_iff.1 b1
  obtain ⟨_, b2'⟩ := List.getElem?_eq_some_iff.1 b2
  have l1 : i + 1 <= n := by omega
  have hwr : IntKind.wrap .i64 ((i : Int) + 1) = i + 1 := ar (by omega) (by omega)
  have hcl := AO P i
  have hwr2 : IntKind.wrap .i64 ((aX P i : Int) + 1) = aX P i + 1 := ar (by omega) (by omega)
  cases c1 : R i with
  | false =>
   have hPf : P i = false := by rw [hPi, c1]; rfl
   have hns := AS (n := n) P (i := i) (by simp [cS, hPf])
   have hcs : aX P (i + 1) = aX P i := by simp [aX, hPf]
   simp [-getElem?_pos, List.getElem?_cons_zero, List.getElem?_cons_succ, ef, hi, hn, e1, hwr, q0, q3, qr, qg, sg, qh, sh, hrg, hrh, nw, b1, b1', b2, b2', c1, hns, hcs]
  | true =>
  cases c2 : A i with
  | false =>
   have hPf : P i = false := by rw [hPi, c1, c2]; rfl
   have hns := AS (n := n) P (i := i) (by simp [cS, hPf])
   have hcs : aX P (i + 1) = aX P i := by simp [aX, hPf]
   simp [-getElem?_pos, List.getElem?_cons_zero, List.getElem?_cons_succ, ef, hi, hn, e1, hwr, q0, q3, qr, qg, sg, qh, sh, hrg, hrh, nw, b1, b1', b2, b2', c1, c2, hns, hcs]
  | true =>
   have hPt : P i = true := by rw [hPi, c1, c2]; rfl
   have hns := Mf (n := n) P hi
   have hnm : cS P i = aX P i := by simp [cS, hPt]
   rw [hnm] at hns
   have hcs : aX P (i + 1) = aX P i + 1 := by simp [aX, hPt]
   simp [-getElem?_pos, List.getElem?_cons_zero, List.getElem?_cons_succ, ef, hi, hn, e1, hwr, hwr2, q0, q3, qr, qg, sg, qh, sh, hrg, hrh, nw, b1, b1', b2, b2', c1, c2, hns, hcs, l1]
 ·rintro e' st ⟨rfl, rfl⟩
  simp [-getElem?_pos, List.getElem?_cons_zero, List.getElem?_cons_succ, ef, q0, nw, hn]
  exact hQ
theorem T9 {a : Au} {of oe : gu} {ys : List AV} (ht : Tr a) {n : Nat} (hn : a.n = n) {k : Nat} (hk : 6000000 <= k) {bl : List AB} {tk : List Nat} {p : List AB} (R P : Nat -> Bool) (hp0 : p[0]? = some (.cells (nw a of oe ys))) {ig : AV} {ir : Nat} (hpr : p[ir]? = some (.cells (db n R))) {N S : Int} {Q : AH} {e : bF} {s : St}
  (hs : s = Js bl tk p [.cells (nk n P n), .cells [.int .i64 N, .int .i64 S, .sl .nil 1 [], .sl .nil 8 []]])
  (he : e.kill [0, 3, 4, 5, 6, 8, 9, 11, 12, 13, 16, 18, 19, 20, 21, 24, 29, 65, 75, 85, 124, 129, 168, 175, 186, 198, 218, 228, 246, 266, 281, 292, 306] = [(1, .ptr bl.length 0), (2, .ptr (bl.length + 1) 0), (7, ig), (10, .msl (bl.length + ir) 0 1 n), (14, .msl (bl.length + p.length) 0 1 n), (15, .ptr (bl.length + (p.length + 1)) 0), (17, .int .i64 0)])
  (hQ : Q (.exit 12) [(1, .ptr bl.length 0), (2, .ptr (bl.length + 1) 0), (7, ig), (10, .msl (bl.length + ir) 0 1 n), (14, .msl (bl.length + p.length) 0 1 n), (15, .ptr (bl.length + (p.length + 1)) 0), (17, .int .i64 a.fin.length), (218, .bool false)] (Js bl (cU tk (ao (k9 R P a.fin))) p [.cells (nk n P n), .cells [.int .i64 N, .int .i64 S, gb 1 tk.length (ao (k9 R P a.fin)), .sl .nil 8 []]] |> fun s => { s with rt := tk.length })) :
  wp E (au E k) k false (.loop [0, 3, 4, 5, 6, 8, 9, 11, 12, 13, 16, 18, 19, 20, 21, 24, 29, 65, 75, 85, 124, 129, 168, 175, 186, 198, 218, 228, 246, 266, 281, 292, 306] fM) Q e s := by
 subst hs
 obtain ⟨⟨hn1, hn2⟩, _, hfl, hff, hb, hw⟩ := ht
 have q0 := C0 bl p hp0
 have qr := zG bl p hpr
 have qg := yu bl p
 have sg := Ck bl p
 have qh := Ez bl p
 have sh := Jp bl p
 have hrg : bl.length <= bl.length + p.length := by omega
 have hrh : bl.length <= bl.length + (p.length + 1) := by omega
 refine aA a.fin.length (fun i e' st => ∃ L, L = ao (k9 R P (a.fin.take i)) /\ e' = [(1, .ptr bl.length 0), (2, .ptr (bl.length + 1) 0), (7, ig), (10, .msl (bl.length + ir) 0 1 n), (14, .msl (bl.length + p.length) 0 1 n), (15, .ptr (bl.length + (p.length + 1)) 0), (17, .int .i64 i)] /\ st = { bl := bl ++ (p ++ [.cells (nk n P n), .cells [.int .i64 N, .int .i64 S, gb 1 tk.length L, .sl .nil 8 []]]), tk := cU tk L, ro := bl.length, rt := tk.length }) (by omega) ⟨[], rfl, he, by simp⟩ ?_ ?_
 ·rintro i e' st hi ⟨L, hL, rfl, rfl⟩
  obtain ⟨t, ht⟩ : ∃ t, a.fin[i]? = some t := ⟨_, List.getElem?_eq_getElem (by omega)⟩
  have hx := ep ht
  obtain ⟨hi1, hx1⟩ := List.getElem?_eq_some_iff.1 hx
  obtain ⟨h0, h1⟩ := hff t (List.mem_of_getElem? ht)
  obtain ⟨m, rfl⟩ : ∃ m : Nat, t = m := ⟨t.toNat, by omega⟩
  have hmn : m < n := by omega
  have e1 : et (.int .i64 i) a.fin.length = some i := av hi
  have e2 : et (.int .i64 m) n = some m := av hmn
  have b1 := bV (n := n) R hmn
  have b2 := oy (n := n) P hmn
  obtain ⟨_, b1'⟩ := List.getElem?_eq_some_iff.1 b1
  obtain ⟨_, b2'⟩ := List.getElem?_eq_some_iff.1 b2
  have hwr : IntKind.wrap .i64 ((i : Int) + 1) = i + 1 := ar (by omega) (by omega)
  have hLl : L.length <= i := by
   have h1 := xI R P (a.fin.take i)
   rw [hL]; simp [ao] at h1 ⊢; omega
  have hf : k9 R P (a.fin.take (i + 1)) = k9 R P (a.fin.take i) ++ (if R m then [(cS P m : Int)] else []) := by
   unfold k9
   rw [List.take_succ, ht, List.filter_append, List.map_append]
   congr 1
   cases h : R m <;> simp [h]
  cases c1 : R m with
  | false =>
   rw [c1] at hf
   simp only [Bool.false_eq_true, if_false, List.append_nil] at hf
   have hf' : ao (k9 R P (a.fin.take (i + 1))) = L := by rw [hf, hL]
   simp [-getElem?_pos, List.getElem?_cons_zero, List.getElem?_cons_succ, fM, hi, hn, e1, e2, hx, hx1, hwr, q0, qr, qg, sg, qh, sh, hrg, hrh, nw, b1, b1', c1, hf']
  | true =>
   rw [c1] at hf
   simp only [if_true] at hf
   have ha := pQ (bl := bl ++ (p ++ [.cells (nk n P n), .cells [.int .i64 N, .int .i64 S, gb 1 tk.length L, .sl .nil 8 []]])) (tk := tk) (ro := bl.length) (rt := tk.length) (z := 1) (ys := L) (y := .int .i64 (cS P m)) (o := .full) (by unfold aO; omega) (Nat.le_refl _)
   rw [show (AV.int IntKind.i64 (cS P m)).untok = .int .i64 (cS P m) by simp [AV.untok]] at ha
   have hf' : ao (k9 R P (a.fin.take (i + 1))) = L ++ [.int .i64 (cS P m)] := by rw [hf, hL]; simp [ao]
   obtain ⟨o2, ho2, _⟩ := qG 1 tk.length (L ++ [.int .i64 (cS P m)])
   rw [ho2] at ha
   simp [-getElem?_pos, List.getElem?_cons_zero, List.getElem?_cons_succ, fM, hi, hn, e1, e2, hx, hx1, hwr, q0, qr, qg, sg, qh, sh, hrg, hrh, nw, b1, b1', b2, b2', c1, aq, bE, ai, az, ha, hf', ho2]
 ·rintro e' st ⟨L, hL, rfl, rfl⟩
  rw [List.take_of_length_le (by omega)] at hL
  subst hL
  simp [-getElem?_pos, List.getElem?_cons_zero, List.getElem?_cons_succ, fM, q0, nw]
  exact hQ
end
open Go Ab Go.RowKit
set_option maxRecDepth 10000
theorem Jo (a b : Ed) : pt a b = true ↔ a = b := by
 unfold pt
 simp only [Bool.and_eq_true, beq_iff_eq, Pg]
 cases a; cases b
 simp
 constructor
 ·rintro ⟨⟨⟨⟨⟨h1, h2⟩, h3⟩, h4⟩, h5⟩, h6⟩; exact ⟨h1, h2, h3, h5, h6, h4⟩
 ·rintro ⟨h1, h2, h3, h5, h6, h4⟩; exact ⟨⟨⟨⟨⟨h1, h2⟩, h3⟩, h4⟩, h5⟩, h6⟩
theorem NP (a b : Ed) : pt a b = pt b a := by
 rw [Bool.eq_iff_iff, Jo, Jo]; exact eq_comm
theorem jq.data {e : Ed} {x : AV} (h : jq e x) : x.data = true := by
 obtain ⟨kv, ev, rfl, h1, h2⟩ := h
 simp [h1.data, h2.data]
theorem jq.untok {e : Ed} {x : AV} (h : jq e x) : jq e x.untok := by
 obtain ⟨kv, ev, rfl, h1, h2⟩ := h
 exact ⟨kv.untok, ev.untok, by simp [AV.untok, AV.untokL], h1.untok, h2.untok⟩
theorem eW : ∀ {l : List Ed} {zs : List AV}, cL jq l zs -> AV.dataL zs = true
 | [], _, h => by simp only [cL] at h; subst h; rfl
 | e :: l, _, h => by
  simp only [cL] at h
  obtain ⟨y, r, rfl, h1, h2⟩ := h
  simp [AV.dataL, h1.data, eW h2]
theorem wc : ∀ {l : List Ed} {zs : List AV} {e : Ed} {x : AV}, cL jq l zs -> jq e x -> cL jq (l ++ [e]) (zs ++ [x])
 | [], _, e, x, h, hx => by simp only [cL] at h; subst h; exact ⟨_, _, rfl, hx, rfl⟩
 | d :: l, _, e, x, h, hx => by
  simp only [cL] at h
  obtain ⟨y, r, rfl, h1, h2⟩ := h
  exact ⟨_, _, rfl, h1, wc h2 hx⟩
theorem untokL_append : ∀ a b : List AV, AV.untokL (a ++ b) = AV.untokL a ++ AV.untokL b
 | [], _ => rfl
 | x :: a, b => by simp [AV.untokL, untokL_append a b]
theorem HR {α : Type} {l : List α} {i : Nat} {t : α} (p : α -> Bool) (h : l[i]? = some t) : (l.take (i + 1)).any p = ((l.take i).any p || p t) := by
 rw [List.take_succ, h]; simp
section
variable {E : ak} (hE : E.fns = af.fn ag)
include hE
theorem OV {L : List Ed} {zs : List AV} (hz : cL jq L zs) (hL : ∀ e ∈ L, Be e) (hLl : L.length <= 1048576) {x : Ed} {cs : List AV} (hx : jq x (.agg cs)) {B : List AB} {tk : List Nat} {ro rt : Nat} {jo jx : Nat} {N S F : AV} {o : gu} (hB : B[jo]? = some (.cells [N, S, F, .sl o 8 zs])) (hBx : B[jx]? = some (.cells cs)) {k : Nat} (hk : 6000000 <= k) {v1 v2 v7 v10 v14 v18 : AV} {Q : AH} {e : bF} {st : St} (hst : st = { bl := B, tk, ro, rt })
  (he : e.kill [0, 3, 4, 5, 6, 8, 9, 11, 12, 13, 16, 17, 24, 29, 65, 75, 85, 124, 129, 168, 175, 186, 198, 218, 228, 246, 266, 281, 292, 306] = [(1, v1), (2, v2), (7, v7), (10, v10), (14, v14), (15, .ptr jo 0), (18, v18), (19, .ptr jx 0), (20, .bool false), (21, .int .i64 0)])
  (hQ : Q (.exit 16) [(1, v1), (2, v2), (7, v7), (10, v10), (14, v14), (15, .ptr jo 0), (18, v18), (19, .ptr jx 0), (20, .bool (L.any (pt x))), (21, .int .i64 L.length), (292, .bool false)] { bl := B, tk, ro, rt }) :
  wp E (au E k) k false (.loop [0, 3, 4, 5, 6, 8, 9, 11, 12, 13, 16, 17, 24, 29, 65, 75, 85, 124, 129, 168, 175, 186, 198, 218, 228, 246, 266, 281, 292, 306] fN) Q e st := by
 subst hst
 have hlz := hz.length
 obtain ⟨kv', ev', hcs, hkv', hev'⟩ := hx
 cases hcs
 have hx : jq x (.agg [.int .i64 x.fr, .int .i64 x.to, .int .i64 x.kind, .int .i64 x.sym.kind, .str x.sym.text, kv', ev', .int .i64 x.inner]) := ⟨_, _, rfl, hkv', hev'⟩
 refine aA L.length (fun i e' st => e' = [(1, v1), (2, v2), (7, v7), (10, v10), (14, v14), (15, .ptr jo 0), (18, v18), (19, .ptr jx 0), (20, .bool ((L.take i).any (pt x))), (21, .int .i64 i)] /\ st = { bl := B, tk, ro, rt }) (by omega) ⟨by simpa using he, rfl⟩ ?_ ?_
 ·rintro i e' st hi ⟨rfl, rfl⟩
  obtain ⟨t, ht⟩ : ∃ t, L[i]? = some t := ⟨_, List.getElem?_eq_getElem (by omega)⟩
  obtain ⟨y, hy, hrt⟩ := hz.get ht
  have gg := QP hE hrt hx (hL t (List.mem_of_getElem? ht)) k (by omega)
  obtain ⟨hi1, hy1⟩ := List.getElem?_eq_some_iff.1 hy
  obtain ⟨kv, o', zs', rfl⟩ := hrt.open
  have e1 : et (.int .i64 i) L.length = some i := av (by omega)
  have hwr : IntKind.wrap .i64 ((i : Int) + 1) = i + 1 := ar (by omega) (by omega)
  have hs := HR (pt x) ht
  rw [NP x t] at hs
  cases c1 : (L.take i).any (pt x) with
  | true =>
   rw [c1, Bool.true_or] at hs
   simp [-getElem?_pos, List.getElem?_cons_zero, List.getElem?_cons_succ, fN, hi, hlz, e1, hy, hy1, hwr, hB, hBx, rb hE, hs]
  | false =>
   rw [c1, Bool.false_or] at hs
   simp [-getElem?_pos, List.getElem?_cons_zero, List.getElem?_cons_succ, fN, hi, hlz, e1, hy, hy1, hwr, hB, hBx, rb hE, gg, hs]
 ·rintro e' st ⟨rfl, rfl⟩
  rw [List.take_of_length_le (by omega)]
  simp [-getElem?_pos, List.getElem?_cons_zero, List.getElem?_cons_succ, fN, hlz, hB]
  exact hQ
end
open Go Ab Go.RowKit
set_option maxRecDepth 10000
theorem P0 {A R P : Nat -> Bool} {out : List Ed} {e x : Ed} (h : x ∈ pu A R P out e) : x ∈ out \/ x = iz P e := by
 unfold pu addE at h
 split at h
 ·split at h
  ·exact .inl h
  ·simp at h; exact h
 ·exact .inl h
theorem LM {A R P : Nat -> Bool} : ∀ {l : List Ed} {out : List Ed} {x : Ed}, x ∈ l.foldl (pu A R P) out -> x ∈ out \/ ∃ e ∈ l, x = iz P e
 | [], out, x, h => .inl h
 | e :: l, out, x, h => by
  rcases LM (l := l) h with h | ⟨d, hd, h⟩
  ·rcases P0 h with h | h
   ·exact .inl h
   ·exact .inr ⟨e, List.mem_cons_self .., h⟩
  ·exact .inr ⟨d, List.mem_cons_of_mem _ hd, h⟩
theorem Jv {A R P : Nat -> Bool} {l : List Ed} {x : Ed} (h : x ∈ ln A R P l) : ∃ e ∈ l, x = iz P e := by
 rcases LM h with h | h
 ·cases h
 ·exact h
theorem S3 (bl p g : List AB) (c d f : AB) : (bl ++ (p ++ c :: d :: (g ++ [f])))[bl.length + (p.length + (g.length + 1 + 1))]? = some f := by
 rw [aa]; simp
theorem Ta (bl p g : List AB) (c d f f' : AB) : (bl ++ (p ++ c :: d :: (g ++ [f]))).set (bl.length + (p.length + (g.length + 1 + 1))) f' = bl ++ (p ++ c :: d :: (g ++ [f'])) := by
 rw [aj]; simp
section
variable {E : ak} (hE : E.fns = af.fn ag)
include hE
theorem T8 {a : Au} {of oe : gu} {ys : List AV} (hes : cL jq a.eds ys) (ht : Tr a) {n : Nat} (hn : a.n = n) {k : Nat} (hk : 6000000 <= k) {bl : List AB} {tk : List Nat} {rt : Nat} (hrt : rt <= tk.length) {p : List AB} (A R P : Nat -> Bool) (hp0 : p[0]? = some (.cells (nw a of oe ys))) {ig ir : Nat} (hpg : p[ig]? = some (.cells (db ys.length (kn A a.eds a.eds.length)))) (hpr : p[ir]? = some (.cells (db n R))) {N S F : AV} {Q : AH} {e : bF} {s : St}
  (hs : s = { bl := bl ++ (p ++ [.cells (nk n P n), .cells [N, S, F, .sl .nil 8 []]]), tk, ro := bl.length, rt })
  (he : e.kill [0, 3, 4, 5, 6, 8, 9, 11, 12, 13, 16, 17, 19, 20, 21, 24, 29, 65, 75, 85, 124, 129, 168, 175, 186, 198, 218, 228, 246, 266, 281, 292, 306] = [(1, .ptr bl.length 0), (2, .ptr (bl.length + 1) 0), (7, .msl (bl.length + ig) 0 1 ys.length), (10, .msl (bl.length + ir) 0 1 n), (14, .msl (bl.length + p.length) 0 1 n), (15, .ptr (bl.length + (p.length + 1)) 0), (18, .int .i64 0)])
  (hQ : ∀ g zs, cL jq (ln A R P a.eds) zs -> AV.untokL zs = zs -> Q (.exit 14) [(1, .ptr bl.length 0), (2, .ptr (bl.length + 1) 0), (7, .msl (bl.length + ig) 0 1 ys.length), (10, .msl (bl.length + ir) 0 1 n), (14, .msl (bl.length + p.length) 0 1 n), (15, .ptr (bl.length + (p.length + 1)) 0), (18, .int .i64 a.eds.length), (246, .bool false)] { bl := bl ++ (p ++ .cells (nk n P n) :: .cells [N, S, F, gb 8 tk.length zs] :: g), tk := cU tk zs, ro := bl.length, rt }) :
  wp E (au E k) k false (.loop [0, 3, 4, 5, 6, 8, 9, 11, 12, 13, 16, 17, 19, 20, 21, 24, 29, 65, 75, 85, 124, 129, 168, 175, 186, 198, 218, 228, 246, 266, 281, 292, 306] dq) Q e s := by
 subst hs
 have hly := hes.length
 obtain ⟨⟨hn1, hn2⟩, _, _, _, hb, hw⟩ := ht
 have q0 := C0 bl p hp0
 have qp := zG bl p hpg
 have qr := zG bl p hpr
 have qg := yu bl p
 have qh := Ez bl p
 have sh := Jp bl p
 have hrh : bl.length <= bl.length + (p.length + 1) := by omega
 refine aA ys.length (fun i e' st => ∃ g zs, (cL jq (ln A R P (a.eds.take i)) zs /\ AV.untokL zs = zs) /\ e' = [(1, .ptr bl.length 0), (2, .ptr (bl.length + 1) 0), (7, .msl (bl.length + ig) 0 1 ys.length), (10, .msl (bl.length + ir) 0 1 n), (14, .msl (bl.length + p.length) 0 1 n), (15, .ptr (bl.length + (p.length + 1)) 0), (18, .int .i64 i)] /\ st = { bl := bl ++ (p ++ .cells (nk n P n) :: .cells [N, S, F, gb 8 tk.length zs] :: g), tk := cU tk zs, ro := bl.length, rt }) (by omega) ⟨[], [], ⟨by simp [ln, cL], rfl⟩, he, rfl⟩ ?_ ?_
 ·rintro i e' st hi ⟨g, zs, ⟨hz, hzu⟩, rfl, rfl⟩
  obtain ⟨t, ht⟩ : ∃ t, a.eds[i]? = some t := ⟨_, List.getElem?_eq_getElem (by omega)⟩
  obtain ⟨x, hx, hrx⟩ := hes.get ht
  obtain ⟨hfr, hto, hin, hin0, hBe⟩ := hw t (List.mem_of_getElem? ht)
  obtain ⟨m1, hm1⟩ : ∃ m : Nat, t.fr = m := ⟨t.fr.toNat, by omega⟩
  obtain ⟨m2, hm2⟩ : ∃ m : Nat, t.to = m := ⟨t.to.toNat, by omega⟩
  obtain ⟨kv, ev, rfl, hkv, hev⟩ := hrx
  obtain ⟨r, hcp, hrs, hru⟩ := Eu hE _ (Nat.lt_succ_self _) hBe.2.1 hev
  have hcp := hcp k (by have := hBe.2.1; omega)
  obtain ⟨orr, kr, hre, _⟩ := hrs.len
  subst hre
  obtain ⟨o', zs', rfl, _⟩ := hev.len
  obtain ⟨hi1, hx1⟩ := List.getElem?_eq_some_iff.1 hx
  have e1 : et (.int .i64 i) ys.length = some i := av hi
  have e2 : et (.int .i64 m1) n = some m1 := av (by omega)
  have e3 : et (.int .i64 m2) n = some m2 := av (by omega)
  have hga : kn A a.eds a.eds.length i = ja A t := by
   have : decide (i < a.eds.length) = true := by simp; omega
   simp [kn, Gw, ht, this]
  have b0 := bV (n := ys.length) (kn A a.eds a.eds.length) (i := i) hi
  rw [hga] at b0
  have b1 := bV (n := n) R (i := m1) (by omega)
  have t1 := oy (n := n) P (j := m1) (by omega)
  have t2 := oy (n := n) P (j := m2) (by omega)
  have hwr : IntKind.wrap .i64 ((i : Int) + 1) = i + 1 := ar (by omega) (by omega)
  have q4 := S3 bl p g
  have s4 := Ta bl p g
  have hro : bl.length <= bl.length + (p.length + (g.length + 1 + 1)) := by omega
  obtain ⟨L, hL⟩ : ∃ L, L = ln A R P (a.eds.take i) := ⟨_, rfl⟩
  have hs : ln A R P (a.eds.take (i + 1)) = pu A R P L t := by rw [hL]; exact Hq ht
  have hLl : L.length <= i := by have := xH A R P (a.eds.take i); rw [<- hL] at this; rw [List.length_take] at this; omega
  have hLB : ∀ d ∈ L, Be d := fun d hd => by
   rw [hL] at hd
   obtain ⟨c, hc, rfl⟩ := Jv hd
   exact (hw c (List.mem_of_mem_take hc)).2.2.2.2
  rw [<- hL] at hz
  rw [hs]
  have hzl := hz.length
  unfold pu
  obtain ⟨o8, ho8, _⟩ := qG 8 tk.length zs
  cases c0 : ja A t with
  | false =>
   rw [c0] at b0
   simp [-getElem?_pos, List.getElem?_cons_zero, List.getElem?_cons_succ, dq, hi, e1, hx, hx1, hwr, q0, qp, qr, qg, q4, s4, hro, nw, hm1, b0]
   exact ⟨_, zs, ⟨hz, hzu⟩, ⟨rfl, rfl⟩, rfl⟩
  | true =>
  rw [c0] at b0
  cases c1 : R m1 with
  | false =>
   rw [c1] at b1
   simp [-getElem?_pos, List.getElem?_cons_zero, List.getElem?_cons_succ, dq, hi, e1, e2, hx, hx1, hwr, q0, qp, qr, qg, q4, s4, hro, nw, hm1, b0, b1, c1]
   exact ⟨_, zs, ⟨hz, hzu⟩, ⟨rfl, rfl⟩, rfl⟩
  | true =>
   rw [c1] at b1
   rw [hm1]
   simp only [Int.toNat_natCast, c0, c1, Bool.and_self, if_true]
   have hre : ∃ iv : Int, (iz P t).inner = iv := ⟨_, rfl⟩
   by_cases k5 : t.kind = 5
   ·obtain ⟨m3, hm3⟩ : ∃ m : Nat, t.inner = m := ⟨t.inner.toNat, by have := hin k5; omega⟩
    have hm3n : m3 < n := by have := hin k5; omega
    have e4 : et (.int .i64 m3) n = some m3 := av hm3n
    have t3 := oy (n := n) P (j := m3) hm3n
    have k5' : (t.kind == 5) = true := by simp [k5]
    simp [-getElem?_pos, List.getElem?_cons_zero, List.getElem?_cons_succ, dq, hi, e1, e2, e3, e4, hx, hx1, hwr, q0, qp, qr, qg, q4, s4, hro, nw, hm1, hm2, hm3, b0, b1, c1, t1, t2, t3, k5']
    have hX : jq (iz P t) (.agg [.int .i64 (cS P m1), .int .i64 (cS P m2), .int .i64 t.kind, .int .i64 t.sym.kind, .str t.sym.text, kv, .sl o' 3 zs', .int .i64 (cS P m3)]) := ⟨kv, _, by simp [iz, hm1, hm2, hm3, k5], hkv, hev⟩
    have hY : jq (iz P t) (.agg [.int .i64 (cS P m1), .int .i64 (cS P m2), .int .i64 t.kind, .int .i64 t.sym.kind, .str t.sym.text, kv.untok, .sl orr 3 kr, .int .i64 (cS P m3)]) := ⟨kv.untok, _, by simp [iz, hm1, hm2, hm3, k5], hkv.untok, hrs⟩
    obtain ⟨Y, hYe⟩ : ∃ Y, Y = AV.agg [.int .i64 (cS P m1), .int .i64 (cS P m2), .int .i64 t.kind, .int .i64 t.sym.kind, .str t.sym.text, kv.untok, .sl orr 3 kr, .int .i64 (cS P m3)] := ⟨_, rfl⟩
    rw [<- hYe] at hY
    have hYu : Y.untok = Y := by rw [hYe]; simp [AV.untok, AV.untokL, hru]
    rw [ho8]
    refine OV hE hz hLB (by omega) hX (qh _ _ _) (q4 _ _ _) hk rfl rfl ?_
    cases c5 : L.any (pt (iz P t)) with
    | true =>
     have had : addE L (iz P t) = L := by unfold addE; rw [if_pos c5]
     rw [had]
     simp [-getElem?_pos, hwr]
     exact ⟨_, zs, ⟨hz, hzu⟩, ⟨ho8.symm, rfl⟩, rfl⟩
    | false =>
     have had : addE L (iz P t) = L ++ [iz P t] := by unfold addE; rw [c5]; rfl
     rw [had]
     obtain ⟨o9, ho9, _⟩ := qG 8 tk.length (zs ++ [Y])
     have ha := fun b => pQ (bl := b) (tk := tk) (ro := bl.length) (rt := rt) (z := 8) (ys := zs) (y := Y) (o := .full) (by unfold aO; omega) hrt
     rw [hYu, ho8, ho9, hYe] at ha
     simp [-getElem?_pos, List.getElem?_cons_zero, List.getElem?_cons_succ, hwr, qh, sh, hrh, q4, s4, hro, aq, bE, ai, az, hcp, rU hE, hru, ha]
     exact ⟨_, zs ++ [Y], ⟨wc hz hY, by rw [untokL_append, hzu]; simp [AV.untokL, hYu]⟩, ⟨by rw [ho9, hYe], rfl⟩, by rw [hYe]⟩
   ·have k5' : (t.kind == 5) = false := by simpa using k5
    simp [-getElem?_pos, List.getElem?_cons_zero, List.getElem?_cons_succ, dq, hi, e1, e2, e3, hx, hx1, hwr, q0, qp, qr, qg, q4, s4, hro, nw, hm1, hm2, b0, b1, c1, t1, t2, k5']
    have hX : jq (iz P t) (.agg [.int .i64 (cS P m1), .int .i64 (cS P m2), .int .i64 t.kind, .int .i64 t.sym.kind, .str t.sym.text, kv, .sl o' 3 zs', .int .i64 (t.inner)]) := ⟨kv, _, by simp [iz, hm1, hm2, k5, hin0 k5], hkv, hev⟩
    have hY : jq (iz P t) (.agg [.int .i64 (cS P m1), .int .i64 (cS P m2), .int .i64 t.kind, .int .i64 t.sym.kind, .str t.sym.text, kv.untok, .sl orr 3 kr, .int .i64 (t.inner)]) := ⟨kv.untok, _, by simp [iz, hm1, hm2, k5, hin0 k5], hkv.untok, hrs⟩
    obtain ⟨Y, hYe⟩ : ∃ Y, Y = AV.agg [.int .i64 (cS P m1), .int .i64 (cS P m2), .int .i64 t.kind, .int .i64 t.sym.kind, .str t.sym.text, kv.untok, .sl orr 3 kr, .int .i64 (t.inner)] := ⟨_, rfl⟩
    rw [<- hYe] at hY
    have hYu : Y.untok = Y := by rw [hYe]; simp [AV.untok, AV.untokL, hru]
    rw [ho8]
    refine OV hE hz hLB (by omega) hX (qh _ _ _) (q4 _ _ _) hk rfl rfl ?_
    cases c5 : L.any (pt (iz P t)) with
    | true =>
     have had : addE L (iz P t) = L := by unfold addE; rw [if_pos c5]
     rw [had]
     simp [-getElem?_pos, hwr]
     exact ⟨_, zs, ⟨hz, hzu⟩, ⟨ho8.symm, rfl⟩, rfl⟩
    | false =>
     have had : addE L (iz P t) = L ++ [iz P t] := by unfold addE; rw [c5]; rfl
     rw [had]
     obtain ⟨o9, ho9, _⟩ := qG 8 tk.length (zs ++ [Y])
     have ha := fun b => pQ (bl := b) (tk := tk) (ro := bl.length) (rt := rt) (z := 8) (ys := zs) (y := Y) (o := .full) (by unfold aO; omega) hrt
     rw [hYu, ho8, ho9, hYe] at ha
     simp [-getElem?_pos, List.getElem?_cons_zero, List.getElem?_cons_succ, hwr, qh, sh, hrh, q4, s4, hro, aq, bE, ai, az, hcp, rU hE, hru, ha]
     exact ⟨_, zs ++ [Y], ⟨wc hz hY, by rw [untokL_append, hzu]; simp [AV.untokL, hYu]⟩, ⟨by rw [ho9, hYe], rfl⟩, by rw [hYe]⟩
 ·rintro e' st ⟨g, zs, ⟨hz, hzu⟩, rfl, rfl⟩
  rw [List.take_of_length_le (by omega)] at hz
  simp [-getElem?_pos, List.getElem?_cons_zero, List.getElem?_cons_succ, dq, q0, nw, hly]
  simpa [hly] using hQ g zs hz hzu
end
open Go Ab
theorem cJ (l : List Int) : AV.dataL (ao l) = true /\ AV.untokL (ao l) = ao l := by
 induction l with
 | nil => exact ⟨rfl, rfl⟩
 | cons a l ih => simp only [ao, List.map_cons] at ih ⊢; simp [AV.dataL, AV.untokL, AV.data, AV.untok, ih]
@[simp] theorem oW (z : Nat) (ys : List AV) : (ti z ys).untok = ti z ys := by unfold ti; split <;> rfl
theorem Hr : ∀ {ys : List AV} {i : Nat} {x : AV}, AV.untokL ys = ys -> ys[i]? = some x -> x.untok = x
 | [], i, x, _, h => by simp at h
 | y :: ys, 0, x, hu, h => by
  simp only [AV.untokL, List.cons.injEq] at hu
  simp only [List.getElem?_cons_zero, Option.some.injEq] at h
  subst h; exact hu.1
 | y :: ys, i + 1, x, hu, h => by
  simp only [AV.untokL, List.cons.injEq] at hu
  exact Hr hu.2 (by simpa using h)
theorem G5 {o : gu} {z : Nat} {xs : List AV} (hd : AV.dataL xs = true) (hu : (AV.sl o z xs).untok = .sl o z xs) : AV.plain (.sl o z xs) = true := by
 cases o <;> first | exact hd | skip
 simp [AV.untok] at hu
theorem NH {f o z} {xs : List AV} (hd : AV.dataL xs = true) (hu : (AV.sl o z xs).untok = .sl o z xs) : jO (.fn f [] []) [.sl o z xs] = true := by
 have := G5 hd hu
 simp [jO, AV.plainL, this]
open Go Ab Go.RowKit
set_option maxRecDepth 10000
theorem FB (tk : List Nat) (ys : List AV) : tk.length <= (cU tk ys).length := by unfold cU; split <;> simp
theorem xc {p : List AB} {j : Nat} {c : AB} (h : p[j]? = some c) (r : List AB) : (p ++ r)[j]? = some c := by
 rw [List.getElem?_append_left (List.getElem?_eq_some_iff.1 h).1, h]
theorem Ov (p : List AB) (c : AB) (r : List AB) : (p ++ c :: r)[p.length]? = some c := by simp
section
variable {E : ak} (hE : E.fns = af.fn ag)
include hE
theorem LG {a : Au} {x : AV} (ha : tU a x) (ht : Tr a) {k : Nat} (hk : 6000000 <= k) (s : St) :
  ∃ r, (tU (lZ a) r /\ r.untok = r) /\ au E (k + 1) none (.fn j7 [] []) [x] s = some (.ret r, false, s) := by
 have ha0 := ha
 obtain ⟨of, oe, ys, rfl, hes, _⟩ := ha
 have ht0 := ht
 obtain ⟨⟨hn1, hn2⟩, ⟨hs1, hs2⟩, hfl, hff, hb, hw⟩ := ht
 obtain ⟨n, hn⟩ : ∃ n : Nat, a.n = n := ⟨a.n.toNat, by omega⟩
 obtain ⟨m0, hm0⟩ : ∃ n : Nat, a.start = n := ⟨a.start.toNat, by omega⟩
 have hm0n : m0 < n := by omega
 have em0 : et (.int .i64 m0) n = some m0 := av hm0n
 have hly := hes.length
 have hmo : aO = 1073741824 := rfl
 refine fK (zT hE) rfl (fun bl tk => ?_) s
 have hf := H3 hE ha0 rfl hn (by omega) hff hfl (s := { bl := bl ++ [.cells (nw a of oe ys), .cells [.int .i64 0, .int .i64 0, .sl .nil 1 [], .sl .nil 8 []]], tk, ro := bl.length, rt := tk.length }) (by simp) (k := k) (by omega)
 have q0 : ∀ (c : AB) (r : List AB), (bl ++ c :: r)[bl.length]? = some c := fun c r => by rw [ac]; rfl
 simp [-getElem?_pos, nw] at hf
 simp [-getElem?_pos, List.getElem?_cons_zero, List.getElem?_cons_succ, mW, rP, q0, hf]
 refine RB hE hes ht0 hn hk (of := of) (oe := oe) rfl fun g => ?_
 obtain ⟨p, hp⟩ : ∃ p, p = AB.cells (nw a of oe ys) :: AB.cells [.int .i64 0, .int .i64 0, .sl .nil 1 [], .sl .nil 8 []] :: AB.cells (nw a of oe ys) :: AB.cells (db n (aE a)) :: g := ⟨_, rfl⟩
 have hp0 : p[0]? = some (.cells (nw a of oe ys)) := by rw [hp]; rfl
 have hp1 : p[1]? = some (.cells [.int .i64 0, .int .i64 0, .sl .nil 1 [], .sl .nil 8 []]) := by rw [hp]; rfl
 have hp3 : p[3]? = some (.cells (db n (aE a))) := by rw [hp]; rfl
 have h4 : 1 < p.length := by rw [hp]; simp
 refine (?_ : _)
 have hst : TX bl tk (AB.cells (nw a of oe ys)) (AB.cells [.int .i64 0, .int .i64 0, .sl .nil 1 [], .sl .nil 8 []]) (AB.cells [.int .i64 a.n, .int .i64 a.start, .sl of 1 (ao a.fin), .sl oe 8 ys]) (AB.cells (db n (aE a)) :: g) = { bl := bl ++ p, tk, ro := bl.length, rt := tk.length } := by rw [hp]; rfl
 rw [hst]
 clear hst hp hf
 have q0 : (bl ++ p)[bl.length]? = some (.cells (nw a of oe ys)) := by have := C0 bl p hp0 []; simpa using this
 have q1 : (bl ++ p)[bl.length + 1]? = some (.cells [.int .i64 0, .int .i64 0, .sl .nil 1 [], .sl .nil 8 []]) := by have := zG bl p hp1 []; simpa using this
 have q3 : (bl ++ p)[bl.length + 3]? = some (.cells (db n (aE a))) := by have := zG bl p hp3 []; simpa using this
 have b0 := bV (n := n) (aE a) hm0n
 have hlr : bl.length + 1 < (bl ++ p).length := by simp; omega
 have hro1 : bl.length <= bl.length + 1 := by omega
 have hm0' : a.start.toNat = m0 := by omega
 have qs : ∀ f : AB, (bl ++ p.set 1 f)[bl.length + 1]? = some f := fun f => by rw [aa, List.getElem?_set_self h4]
 have hmy : ys.length <= aO := by omega
 have hmn : n <= aO := by omega
 cases c0 : aE a m0 with
 | false =>
  rw [c0] at b0
  have hT : lZ a = { n := 1, start := 0, fin := [], eds := [] } := by unfold lZ; rw [hm0', c0]; rfl
  simp [-getElem?_pos, List.getElem?_cons_zero, List.getElem?_cons_succ, nw, q0, q1, q3, hm0, em0, b0, hro1, aq, bE, ai, az, qs]
  exact ⟨_, bW (by rfl), by rw [hT]; exact ⟨.nil, .nil, [], rfl, rfl, fun _ => rfl, fun _ => rfl⟩, rfl⟩
 | true =>
  rw [c0] at b0
  simp [-getElem?_pos, List.getElem?_cons_zero, List.getElem?_cons_succ, nw, q0, q1, q3, hm0, em0, b0, hro1, aq, bE, ai, az, hmy, FV]
  refine SL hE hes ht0 hn hk (aE a) (p := p) hp0 hp3 rfl rfl fun g2 => ?_
  obtain ⟨p2, hp2⟩ : ∃ p2, p2 = p ++ AB.cells (db ys.length (kn (aE a) a.eds a.eds.length)) :: g2 := ⟨_, rfl⟩
  have hP0 : p2[0]? = some (.cells (nw a of oe ys)) := by rw [hp2]; exact xc hp0 _
  have hP1 : p2[1]? = some (.cells [.int .i64 0, .int .i64 0, .sl .nil 1 [], .sl .nil 8 []]) := by rw [hp2]; exact xc hp1 _
  have hP3 : p2[3]? = some (.cells (db n (aE a))) := by rw [hp2]; exact xc hp3 _
  have hPg : p2[p.length]? = some (.cells (db ys.length (kn (aE a) a.eds a.eds.length))) := by rw [hp2]; exact Ov _ _ _
  have hst : Js bl tk p (AB.cells (db ys.length (kn (aE a) a.eds a.eds.length)) :: g2) = { bl := bl ++ p2, tk, ro := bl.length, rt := tk.length } := by rw [hp2]
  rw [hst]
  clear hst
  generalize p.length = ig at hPg ⊢
  clear hp2 hp0 hp1 hp3 q0 q1 q3 qs hlr h4 g2 g
  have q0 : ∀ r, (bl ++ (p2 ++ r))[bl.length]? = some (.cells (nw a of oe ys)) := C0 bl p2 hP0
  have q0' : (bl ++ p2)[bl.length]? = some (.cells (nw a of oe ys)) := by have := q0 []; simpa using this
  have qg := yu bl p2
  have sg := Ck bl p2
  have hrg : bl.length <= bl.length + p2.length := by omega
  have bu := vV (n := n) (fun _ => false) hm0n
  have hone : tx (fun _ => false) m0 = Af a.start.toNat := by rw [hm0']; rfl
  rw [hone] at bu
  have hm1 : m0 + 1 <= n := by omega
  simp [-getElem?_pos, List.getElem?_cons_zero, List.getElem?_cons_succ, nw, q0, q0', qg, sg, hrg, hn, hm0, em0, hmn, FV, bu, hm1]
  refine RE hE hes ht0 hn hk (p := p2) hP0 (ig := ig) hPg (by rw [hm0']) rfl fun g3 => ?_
  obtain ⟨p3, hp3⟩ : ∃ p3, p3 = p2 ++ AB.cells (db n (bq a)) :: g3 := ⟨_, rfl⟩
  have hp0 : p3[0]? = some (.cells (nw a of oe ys)) := by rw [hp3]; exact xc hP0 _
  have hp1 : p3[1]? = some (.cells [.int .i64 0, .int .i64 0, .sl .nil 1 [], .sl .nil 8 []]) := by rw [hp3]; exact xc hP1 _
  have hpA : p3[3]? = some (.cells (db n (aE a))) := by rw [hp3]; exact xc hP3 _
  have hpg : p3[ig]? = some (.cells (db ys.length (kn (aE a) a.eds a.eds.length))) := by rw [hp3]; exact xc hPg _
  have hpr : p3[p2.length]? = some (.cells (db n (bq a))) := by rw [hp3]; exact Ov _ _ _
  have hst : Js bl tk p2 (AB.cells (db n (bq a)) :: g3) = { bl := bl ++ p3, tk, ro := bl.length, rt := tk.length } := by rw [hp3]
  rw [hst]
  clear hst
  generalize p2.length = ir at hpr ⊢
  clear hp3 hP0 hP1 hP3 hPg q0 q0' qg sg hrg g3
  have q0 : ∀ r, (bl ++ (p3 ++ r))[bl.length]? = some (.cells (nw a of oe ys)) := C0 bl p3 hp0
  have q0' : (bl ++ p3)[bl.length]? = some (.cells (nw a of oe ys)) := by have := q0 []; simpa using this
  have hz0 := OE n (fun i => bq a i && aE a i)
  have hzl : (bE [AV.int .i64 0] n).flatten.length = n := by rw [hz0]; simp
  simp [-getElem?_pos, List.getElem?_cons_zero, List.getElem?_cons_succ, nw, q0, q0', hn, hmn]
  refine Ua hE ht0 hn hk (p := p3) (aE a) (bq a) hp0 hpA (ir := ir) hpr (by rw [hz0]) rfl ?_
  have qg := yu bl p3
  have sg := Ck bl p3
  have qh := Ez bl p3
  have sh := Jp bl p3
  have hrg : bl.length <= bl.length + p3.length := by omega
  have hrh : bl.length <= bl.length + (p3.length + 1) := by omega
  have b2 := oy (n := n) (aY a) hm0n
  rw [show (fun i => bq a i && aE a i) = aY a from rfl]
  simp [-getElem?_pos, List.getElem?_cons_zero, List.getElem?_cons_succ, nw, q0, q0', qg, sg, qh, sh, hrg, hrh, hn, hm0, em0, b2]
  refine T9 hE ht0 hn hk (p := p3) (bq a) (aY a) hp0 (ir := ir) hpr rfl rfl ?_
  simp [-getElem?_pos]
  refine T8 hE hes ht0 hn hk (FB _ _) (p := p3) (aE a) (bq a) (aY a) hp0 (ig := ig) (ir := ir) hpg hpr rfl rfl fun g zs hz hzu => ?_
  obtain ⟨FL, hFL⟩ : ∃ FL, FL = k9 (bq a) (aY a) a.fin := ⟨_, rfl⟩
  rw [<- hFL]
  obtain ⟨TT, hTT⟩ : ∃ TT, TT = (cU tk (ao FL)).length := ⟨_, rfl⟩
  rw [<- hTT]
  obtain ⟨TK, hTK⟩ : ∃ TK, TK = cU (cU tk (ao FL)) zs := ⟨_, rfl⟩
  rw [<- hTK]
  have h4 : 1 < p3.length := (List.getElem?_eq_some_iff.1 hp1).1
  have q1 := zG bl p3 hp1
  have q3 : ∀ (f : AB) (r : List AB), (bl ++ (p3 ++ r).set 1 f)[bl.length + 1]? = some f := fun f r => by rw [aa, List.getElem?_set_self (by simp; omega)]
  have hT : lZ a = { n := aX (aY a) n, start := cS (aY a) m0, fin := FL, eds := ln (aE a) (bq a) (aY a) a.eds } := by unfold lZ; rw [hm0', c0, if_pos rfl, hFL, hn]; rfl
  simp [-getElem?_pos, List.getElem?_cons_zero, List.getElem?_cons_succ, nw, q0, q1, q3, qh, sh, hrh, hro1]
  refine ⟨_, bW (by simp [DY, cJ, eW hz]), ?_⟩
  rw [hT]
  simp only [AV.untok, AV.untokL, Ci]
  obtain ⟨o1, h1, h1n⟩ := lG 1 (ao FL)
  obtain ⟨o2, h2, h2n⟩ := lG 8 zs
  rw [h1, h2]
  refine ⟨⟨o1, o2, zs, rfl, hz, fun h => ?_, h2n⟩, ?_⟩
  ·have := h1n h; simpa [ao] using this
  ·rw [<- h1, <- h2]; simp [AV.untok, AV.untokL]
end
end Ab.C
