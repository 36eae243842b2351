/- Parts of the proof, made small by program. No condition but what is told. -/
import Derived.Test.YtbncnjpohgbgjaaGreatAb09
import Derived.Test.YtbncnjpohgbgjaaGreatAb08
import Derived.OpenShut
import Derived.Below
set_option linter.all false
set_option maxHeartbeats 8000000
namespace Ab.C
open Go Ab Go.RowKit
set_option maxRecDepth 10000
def Bh (b : UInt8) : Bool := decide (b.toNat < 32) || decide (126 < b.toNat)
theorem Ph (s : List UInt8) (i : Nat) (hi : i < s.length) : (s[i].toNat < 128 /\ Go.Utf8.decode ⟨s.toArray⟩ i = (s[i].toNat, 1)) \/ (128 <= s[i].toNat /\ 128 <= (Go.Utf8.decode ⟨s.toArray⟩ i).1) := by
 have h0 : (ByteArray.get! ⟨s.toArray⟩ (i + 0)) = s[i] := by
  simp [ByteArray.get!, hi]
 by_cases h : s[i].toNat < 128
 ·left
  refine ⟨h, ?_⟩
  unfold Go.Utf8.decode
  simp only [h0, h, if_true]
 ·right
  refine ⟨by omega, ?_⟩
  unfold Go.Utf8.decode
  simp only [h0, if_neg h]
  have hr : Go.Utf8.runeError = 65533 := rfl
  split
  ·split <;> simp [hr] <;> omega
  ·split
   ·split
    ·rename_i h2; simp at h2 ⊢; omega
    ·simp [hr]
   ·split
    ·split
     ·rename_i h2; simp at h2 ⊢; omega
     ·simp [hr]
    ·simp [hr]
theorem G8 (s : List UInt8) : ∀ n pos, s.length < n + pos -> decide (0 <= sI s qF true n pos) = (s.drop pos).any Bh
 | 0, pos, h => by rw [List.drop_of_length_le (by omega)]; simp [sI]
 | n + 1, pos, h => by
  unfold sI
  by_cases hp : pos < s.length
  ·rw [if_pos hp, List.drop_eq_getElem_cons hp, List.any_cons]
   rcases Ph s pos hp with ⟨h1, h2⟩ | ⟨h1, h2⟩
   ·rw [h2]
    have e : qF (s[pos].toNat : Int) = Bh s[pos] := by
     unfold qF Bh
     congr 1 <;> (congr 1; apply propext; omega)
    cases hb : Bh s[pos] with
    | true => simp [e, hb]
    | false => simp only [e, hb, Bool.false_or]; simpa using G8 s n (pos + 1) (by omega)
   ·have e : qF (((Go.Utf8.decode ⟨s.toArray⟩ pos).1 : Nat) : Int) = true := by
     unfold qF
     simp only [Bool.or_eq_true, decide_eq_true_eq]; right; omega
    have e2 : Bh s[pos] = true := by
     unfold Bh
     simp only [Bool.or_eq_true, decide_eq_true_eq]; right; omega
    simp [e, e2]
  ·rw [if_neg hp, List.drop_of_length_le (by omega)]; simp
theorem RF (s : List UInt8) : ME s = (s != [] && decide (s.length <= 60) && !s.any Bh) := by
 unfold ME
 rw [G8 s _ 0 (by omega), List.drop_zero]
section
variable {E : ak} (hE : E.fns = af.fn ag)
include hE
theorem Pp (s : List UInt8) (hs : s.length <= maxLen) : bG (s.length + 5) E (.fn iM [] []) [.str s] (.bool (ME s)) :=
 bG.byW (xf hE) rfl rfl (K := s.length + 4) fun k hk bl tk => by
  have hmx : maxLen = 9223372036854775807 := rfl
  rw [RF]
  simp [lr, pS]
  refine aA s.length (fun i e st => s.any Bh = (s.drop i).any Bh /\ e = [(0, .str s), (3, .int .i64 i)] /\ st = { bl, tk, ro := bl.length, rt := tk.length }) (by omega) (by simp) ?_ ?_
  ·rintro i e st hi ⟨hq, rfl, rfl⟩
   have e1 : et (.int .i64 i) s.length = some i := av hi
   have hwr : IntKind.wrap .i64 ((i : Int) + 1) = i + 1 := ar (by omega) (by omega)
   rw [List.drop_eq_getElem_cons hi] at hq
   rw [List.any_cons] at hq
   by_cases c1 : s[i].toNat < 32
   ·have c1' : (s[i].toNat : Int) < 32 := by omega
    have : Bh s[i] = true := by simp [Bh, c1]
    rw [this, Bool.true_or] at hq
    simp [dC, hi, e1, hwr, c1']
    intro _ _; simpa using hq
   ·by_cases c2 : 126 < s[i].toNat
    ·have c1' : ¬ (s[i].toNat : Int) < 32 := by omega
     have c2' : (126 : Int) < s[i].toNat := by omega
     have : Bh s[i] = true := by simp [Bh, c2]
     rw [this, Bool.true_or] at hq
     simp [dC, hi, e1, hwr, c1', c2']
     intro _ _; simpa using hq
    ·have c1' : ¬ (s[i].toNat : Int) < 32 := by omega
     have c2' : ¬ (126 : Int) < s[i].toNat := by omega
     have : Bh s[i] = false := by simp [Bh, c1, c2]
     rw [this, Bool.false_or] at hq
     simp [dC, hi, e1, hwr, c1', c2']
     simpa using hq
  ·rintro e st ⟨hq, rfl, rfl⟩
   rw [List.drop_length] at hq
   have hq' : s.any Bh = false := hq
   by_cases c0 : s = []
   ·subst c0; simp [dC]
   ·have c0' : (s == []) = false := by simpa using c0
    have c0n : (s != []) = true := by simpa using c0
    have : (decide ((s.length : Int) <= 60)) = decide (s.length <= 60) := by congr 1; apply propext; omega
    simp [dC, c0', c0n, hq', this]
def r9 (s : List UInt8) : List UInt8 := (dc s).1
def TJ (s : List UInt8) : Bool := s == [48] || (r9 s != [] && decide ((r9 s).length <= 500) && f6 (r9 s) 2 && ((r9 s).getD 0 0).toNat != 48)
omit hE in
theorem Qy (n : Nat) : decide (n <= 500) = !decide (500 < n) := by
 by_cases h : 500 < n <;> simp [h] <;> omega
omit hE in
theorem Sw (s : List UInt8) : TJ s = PL s := by
 unfold TJ PL r9
 by_cases h : s = [48]
 ·subst h; decide +kernel
 ·have h' : (s == [48]) = false := by simpa using h
  rw [h', Bool.false_or]
  cases s with
  | nil => rfl
  | cons b r =>
   by_cases hb : b = 45
   ·subst hb
    have e : dc (45 :: r) = (r, true) := rfl
    rw [e]
    cases r with
    | nil => rfl
    | cons c q =>
     simp only [Bool.not_true, Bool.and_false, Bool.or_false]
     rw [Qy]
     cases f6 (c :: q) 2 <;> cases decide (500 < (c :: q).length) <;> rfl
   ·have e : dc (b :: r) = (b :: r, false) := by unfold dc; split; rename_i h; cases h; exact absurd rfl hb; rfl
    rw [e]
    simp only [Bool.not_false, Bool.and_true]
    cases r with
    | nil =>
     have : b.toNat ≠ 48 := by intro hx; apply h; congr 1; exact UInt8.toNat_inj.1 hx
     cases he : f6 [b] 2 <;> simp [he, this]
    | cons c q =>
     have hf : (b :: c :: q == [48]) = false := by simp
     rw [Qy]
     cases f6 (b :: c :: q) 2 <;> cases decide (500 < (b :: c :: q).length) <;> simp
theorem Gr (s : List UInt8) (hs : s.length <= maxLen) : bG (s.length + 5) E (.fn gp [] []) [.str s] (.bool (PL s)) :=
 bG.byW (vE hE) rfl rfl (K := s.length + 4) fun k hk bl tk => by
  have hmx : maxLen = 9223372036854775807 := rfl
  rw [<- Sw]
  unfold TJ
  by_cases c0 : s = [48]
  ·subst c0; simp [di, eo]
  have c0' : (s == [48]) = false := by simpa using c0
  rw [c0', Bool.false_or]
  obtain ⟨d, hd⟩ : ∃ d, d = r9 s := ⟨_, rfl⟩
  rw [<- hd]
  have hdl : d.length <= s.length := by rw [hd]; unfold r9 dc; split <;> simp
  have loop : ∀ e5 e12 : AV, wp E (au E k) k false (.seq
 (.seq
 (.region [
  ⟨(some 3), .mov (.c (.int .i64 0)), none, [], false⟩] [3] false)
 (.block 0
 (.loop [2, 5, 12, 18, 25] bT)))
 (.seq
 (.region [
  ⟨(some 26), .mov (.t 0), none, [], false⟩,
  ⟨(some 27), .bin .neq .val (.t 26) (.c (.str [])), none, [], false⟩,
  ⟨(some 28), .mov (.t 27), none, [], false⟩,
  ⟨(some 29), .mov (.t 0), (some (28, true)), [], false⟩,
  ⟨(some 30), .len .str (.t 29), (some (28, true)), [], false⟩,
  ⟨(some 31), .bin .leq .val (.t 30) (.c (.int .i64 500)), (some (28, true)), [], false⟩,
  ⟨(some 32), .pick (.t 28) (.t 31) (.c (.bool false)), none, [], false⟩,
  ⟨(some 33), .mov (.t 32), none, [], false⟩,
  ⟨(some 34), .mov (.t 0), (some (33, true)), [], false⟩,
  ⟨(some 35), .index (.t 34) (.c (.int .i64 0)), (some (33, true)), [], false⟩,
  ⟨(some 36), .bin .neq .val (.t 35) (.c (.int .u8 48)), (some (33, true)), [], false⟩,
  ⟨(some 37), .pick (.t 33) (.t 36) (.c (.bool false)), none, [], false⟩,
  ⟨(some 2), .mov (.t 37), none, [], false⟩] [2] false)
 .ret)) (Ge [.t 2] (.bool (d != [] && decide (d.length <= 500) && f6 d 2 && (d.getD 0 0).toNat != 48))) [(0, .str d), (2, .bool false), (5, e5), (12, e12)] { bl, tk, ro := bl.length, rt := tk.length } := by
   intro e5 e12
   simp
   refine aA d.length (fun i e st => f6 d 2 = f6 (d.drop i) 2 /\ e = [(0, .str d), (3, .int .i64 i)] /\ st = { bl, tk, ro := bl.length, rt := tk.length }) (by omega) (by simp) ?_ ?_
   ·rintro i e st hi ⟨hq, rfl, rfl⟩
    have e1 : et (.int .i64 i) d.length = some i := av hi
    have hwr : IntKind.wrap .i64 ((i : Int) + 1) = i + 1 := ar (by omega) (by omega)
    rw [List.drop_eq_getElem_cons hi] at hq
    have h1 := Gl hE d[i].toNat k (by omega)
    rw [<- Vg _ (UInt8.toNat_lt _)] at h1
    unfold f6 at hq ⊢
    rw [List.all_cons] at hq
    cases hp : PA d[i].toNat 2 with
    | true =>
     rw [hp, Bool.true_and] at hq
     rw [hp] at h1
     simp [bT, hi, e1, hwr, h1]
     simpa using hq
    | false =>
     rw [hp, Bool.false_and] at hq
     rw [hp] at h1
     simp [bT, hi, e1, hwr, h1]
     intro _ _ hall
     exfalso
     rw [List.all_eq_false] at hq
     obtain ⟨x, hx, hf⟩ := hq
     exact hf (hall x hx)
   ·rintro e st ⟨hq, rfl, rfl⟩
    rw [List.drop_length] at hq
    have hq' : f6 d 2 = true := hq
    cases d with
    | nil => simp [bT]
    | cons b r =>
     have : (decide ((((b :: r).length : Nat) : Int) <= 500)) = decide ((b :: r).length <= 500) := by congr 1; apply propext; omega
     have h48 : ((b.toNat : Int) != 48) = (b.toNat != 48) := by rw [Bool.eq_iff_iff]; simp; omega
     simp only [List.length_cons] at this
     by_cases hl : (r.length + 1) <= 500
     ·have hl' : (r.length : Int) + 1 <= 500 := by omega
      simp [bT, hq', hl, hl', h48, et]
     ·have hl' : ¬ (r.length : Int) + 1 <= 500 := by omega
      simp [bT, hq', hl, hl']
  cases s with
  | nil =>
   have e : d = [] := by rw [hd]; rfl
   subst e
   have := loop (.bool false) (.bool false)
   simp [di, eo] at this ⊢
   exact this
  | cons b r =>
   by_cases hb : b = 45
   ·subst hb
    have e : d = r := by rw [hd]; rfl
    subst e
    have := loop (.bool false) (.bool true)
    have c1 : (1 : Int) <= (d.length : Int) + 1 := by omega
    simp [di, eo, et, sK, mE, c1] at this ⊢
    exact this
   ·have e : d = b :: r := by rw [hd]; unfold r9 dc; split; rename_i h; cases h; exact absurd rfl hb; rfl
    subst e
    have := loop (.bool false) (.bool false)
    have h45 : ((b.toNat : Int) == 45) = false := by
     rw [Bool.eq_false_iff]; intro h; apply hb; have h := eq_of_beq h; exact UInt8.toNat_inj.1 (by show b.toNat = 45; omega)
    simp [di, eo, et, c0', h45] at this ⊢
    exact this
end
open Go Ab Go.RowKit
set_option maxRecDepth 10000
section
variable {E : ak} (hE : E.fns = af.fn ag)
include hE
theorem Nm (c : Int) : bG 1 E (.fn jg [] []) [.int .i32 c] (.bool (qF c)) :=
 bG.byW (GH hE) rfl rfl (K := 0) fun k hk bl tk => by
  unfold qF
  by_cases c1 : c < 32
  ·simp [pM, ua, c1]
  ·simp [pM, ua, c1]
theorem JV (s : List UInt8) (f : AV) (p : Int -> Bool) (want : Bool) {Kf : Nat} (hf : ∀ c, bG Kf E f [.int .i32 c] (.bool (p c))) :
  bG (Kf + s.length + 3) E (.fn kF [] []) [.str s, f, .bool want] (.int .i64 (sI s p want (s.length + 1) 0)) :=
 bG.byW (Bf hE) rfl rfl (K := Kf + s.length + 2) fun k hk bl tk => by
  obtain ⟨Q, hQ⟩ : ∃ Q, Q = sI s p want (s.length + 1) 0 := ⟨_, rfl⟩
  rw [<- hQ]
  simp [nY, s7]
  refine aA s.length (fun i e st => ∃ pos, i <= pos /\ Q = sI s p want (s.length + 1 - i) pos /\ e = [(1, f), (2, .bool want), (10, .ptr bl.length 0)] /\ st = { bl := bl ++ [.siter s pos], tk, ro := bl.length, rt := tk.length }) (by omega) ⟨0, by simp [hQ]⟩ ?_ ?_
  ·rintro i e st hi ⟨pos, hp, hq, rfl, rfl⟩
   rw [show s.length + 1 - i = s.length - i + 1 by omega] at hq
   unfold sI at hq
   by_cases c1 : pos < s.length
   ·rw [if_pos c1] at hq
    have h1 := hf ((Go.Utf8.decode ⟨s.toArray⟩ pos).1 : Nat) k (by omega)
    have hw := M4 ⟨s.toArray⟩ pos
    cases c2 : p ((Go.Utf8.decode ⟨s.toArray⟩ pos).1 : Nat) == want with
    | true =>
     rw [c2] at hq
     simp only [if_true] at hq
     simp [gD, HN, c1, h1, c2, hq]
    | false =>
     rw [c2] at hq
     simp only [Bool.false_eq_true, if_false] at hq
     simp [gD, HN, c1, h1, c2]
     exact ⟨by omega, hq⟩
   ·rw [if_neg c1] at hq
    simp [gD, HN, c1, hq]
  ·rintro e st ⟨pos, hp, hq, rfl, rfl⟩
   rw [show s.length + 1 - s.length = 0 + 1 by omega] at hq
   unfold sI at hq
   have c1 : ¬ pos < s.length := by omega
   rw [if_neg c1] at hq
   simp [gD, HN, c1, hq]
theorem Gk (s : List UInt8) : bG (s.length + 6) E (.fn iR [] []) [.str s, .fn jg [] []] (.bool (decide (0 <= sI s qF true (s.length + 1) 0))) := by
 have h1 := JV hE s (.fn jg [] []) qF true (Nm hE)
 have h2 : bG (s.length + 5) E (.fn kD [] []) [.str s, .fn jg [] []] (.int .i64 (sI s qF true (s.length + 1) 0)) :=
  bG.byW (Bd hE) rfl rfl (K := s.length + 4) fun k hk bl tk => by simp [nX, sZ, h1 k (by omega)]
 exact bG.byW (xp hE) rfl rfl (K := s.length + 5) fun k hk bl tk => by simp [lB, p6, h2 k (by omega)]
theorem QU {t : Tm} {x : AV} (h : Rt t x) (hs : t.text.length <= maxLen) : bG (t.text.length + 9) E (.fn tt [] []) [x] (.bool (iw t)) := by
 obtain ⟨v, rfl, hv⟩ := h.open
 obtain ⟨o, ks, rfl, hlk⟩ := hv.len
 refine bG.byW (J9 hE) rfl rfl (K := t.text.length + 8) fun k hk bl tk => ?_
 unfold iw
 by_cases c4 : t.kind = 4
 ·simp [cX, dw, c4]
 have b4 : (t.kind == 4) = false := by simpa using c4
 by_cases c8 : t.kind = 8
 ·have h1 := H0 hE t.text hs 40 k (by omega)
  simp [cX, dw, c8, h1]
 have b8 : (t.kind == 8) = false := by simpa using c8
 by_cases ck : 0 < t.kids.length
 ·have ck' : ¬ ks = [] := by rintro rfl; simp at hlk; omega
  have ck2 : (0 : Int) < (ks.length : Int) := by omega
  simp [cX, dw, c4, c8, b4, b8, ck, ck', ck2, hlk]
 have ck' : ks = [] := by cases ks with | nil => rfl | cons a l => simp at hlk; omega
 subst ck'
 rw [if_neg c4, if_neg c8, if_neg ck]
 by_cases c1 : t.kind = 1
 ·have : (((t.text.length : Nat) : Int) == 1) = (t.text.length == 1) := by rw [Bool.eq_iff_iff]; simp; omega
  simp [cX, dw, c1, this]
 have b1 : (t.kind == 1) = false := by simpa using c1
 by_cases c2 : t.kind = 2
 ·have h1 := Gk hE t.text k (by omega)
  unfold ME
  by_cases e1 : t.text = []
  ·simp [cX, dw, c2, e1]
  ·have e1' : t.text.isEmpty = false := by simpa using e1
   by_cases e2 : t.text.length <= 60
   ·have e2' : (t.text.length : Int) <= 60 := by omega
    simp [cX, dw, c2, e1, e1', e2, e2', h1]
   ·have e2' : ¬ (t.text.length : Int) <= 60 := by omega
    simp [cX, dw, c2, e1, e1', e2, e2']
 have b2 : (t.kind == 2) = false := by simpa using c2
 by_cases c3 : t.kind = 3
 ·have h1 := Lv hE t.text hs k (by omega)
  simp [cX, dw, c3, h1]
 have b3 : (t.kind == 3) = false := by simpa using c3
 rw [if_neg c1, if_neg c2, if_neg c3]
 have h1 := Gp hE t.text hs 3 k (by omega)
 by_cases e1 : t.text = []
 ·rcases Decidable.em (t.kind = 5 \/ t.kind = 6 \/ t.kind = 7) with hk5 | hk5
  ·rcases hk5 with c5 | c5 | c5 <;> simp [cX, dw, c5, e1]
  ·have b5 : (t.kind == 5) = false := by simp; omega
   have b6 : (t.kind == 6) = false := by simp; omega
   have b7 : (t.kind == 7) = false := by simp; omega
   simp [cX, dw, b4, b8, b1, b2, b3, b5, b6, b7, hk5]
 ·have e1' : t.text.isEmpty = false := by simpa using e1
  rcases Decidable.em (t.kind = 5 \/ t.kind = 6 \/ t.kind = 7) with hk5 | hk5
  ·by_cases e2 : t.text.length <= 40
   ·have e2' : (t.text.length : Int) <= 40 := by omega
    rcases hk5 with c5 | c5 | c5 <;> simp [cX, dw, c5, e1, e1', e2, e2', h1]
   ·have e2' : ¬ (t.text.length : Int) <= 40 := by omega
    rcases hk5 with c5 | c5 | c5 <;> simp [cX, dw, c5, e1, e1', e2, e2']
  ·have b5 : (t.kind == 5) = false := by simp; omega
   have b6 : (t.kind == 6) = false := by simp; omega
   have b7 : (t.kind == 7) = false := by simp; omega
   simp [cX, dw, b4, b8, b1, b2, b3, b5, b6, b7, hk5]
end
end Ab.C
namespace Ab
open Go Go.RowKit
mutual
def TA : Tm -> Nat
 | .mk k _ kids => if k = 4 \/ k = 8 \/ 0 < kids.length then 1 + qN kids else 0
def qN : List Tm -> Nat
 | [] => 0
 | t :: ts => max (TA t) (qN ts)
end
theorem M5 (t : Tm) : TA t = if t.kind = 4 \/ t.kind = 8 \/ 0 < t.kids.length then 1 + qN t.kids else 0 := by cases t; simp only [TA, Tm.kind, Tm.kids]; congr
theorem B8 : ∀ a b : List Tm, qN (a ++ b) = max (qN a) (qN b)
 | [], b => by simp [qN]
 | t :: a, b => by simp only [List.cons_append, qN, B8 a b]; omega
mutual
theorem TB : ∀ t : Tm, TA t <= nT t
 | .mk k s kids => by have := JM kids; simp only [TA, nT]; split <;> omega
theorem JM : ∀ ts : List Tm, qN ts <= aV ts
 | [] => by simp [qN]
 | t :: ts => by have := TB t; have := JM ts; simp only [qN, aV]; omega
end
open Go
theorem bG.mono {K K' : Nat} {E : ak} {f : AV} {a : List AV} {v : AV} (h : bG K E f a v) (hk : K <= K') : bG K' E f a v := fun k hk' s => h k (by omega) s
theorem GP {K : Nat} {E : ak} {f : AV} {more : List AV} {c : Tm -> AV} {ts : List Tm} {xs : List AV} (h1 : gT ts xs)
  (hf : ∀ t v, t ∈ ts -> Sl t.kids v -> bG K E f (v :: more) (c t)) :
  ∀ k, K <= k -> ∀ (i : Nat) t, ts[i]? = some t -> ∃ v, xs[i]? = some (.agg [.int .i64 t.kind, .str t.text, v]) /\ Sl t.kids v /\ ∀ s, au E k none f (v :: more) s = some (.ret (c t), false, s) := by
 intro k hk i t ht
 obtain ⟨x, a3, a4⟩ := h1.get ht
 obtain ⟨v, e1, hv⟩ := a4.open
 subst e1
 exact ⟨v, a3, hv, hf t v (List.mem_of_getElem? ht) hv k hk⟩
theorem I3 {K : Nat} {E : ak} {f : AV} {c : Tm -> Tm -> Int} {ts us : List Tm} {xs ys : List AV} (h1 : gT ts xs) (h2 : gT us ys)
  (hf : ∀ t u v w, t ∈ ts -> u ∈ us -> Sl t.kids v -> Sl u.kids w -> bG K E f [v, w] (.int .i64 (c t u))) :
  ∀ k, K <= k -> ∀ (i : Nat) t u, ts[i]? = some t -> us[i]? = some u -> ∃ v w, xs[i]? = some (.agg [.int .i64 t.kind, .str t.text, v]) /\ ys[i]? = some (.agg [.int .i64 u.kind, .str u.text, w]) /\ ∀ s, au E k none f [v, w] s = some (.ret (.int .i64 (c t u)), false, s) := by
 intro k hk i t u ht hu
 obtain ⟨x, a3, a4⟩ := h1.get ht
 obtain ⟨y, b3, b4⟩ := h2.get hu
 obtain ⟨v, e1, hv⟩ := a4.open
 obtain ⟨w, e2, hw⟩ := b4.open
 subst e1 e2
 exact ⟨v, w, a3, b3, hf t u v w (List.mem_of_getElem? ht) (List.mem_of_getElem? hu) hv hw k hk⟩
end Ab
namespace Ab.C
open Go Ab Go.RowKit
set_option maxRecDepth 10000
section
variable {E : ak} (hE : E.fns = af.fn ag)
include hE
theorem Lu : ∀ (n : Nat) {ts : List Tm} {v : AV}, aV ts < n -> aV ts <= aO -> Sl ts v -> bG (2 * aV ts + 12) E (.fn nG [] []) [v] (.int .i64 (qN ts))
 | 0, _, _, h, _, _ => by omega
 | n + 1, ts, v, hn, hm, hv => by
  obtain ⟨o1, xs, rfl, ⟨hm1, _⟩, h1⟩ := hv
  have hl1 := h1.length
  have hmx : maxLen = 9223372036854775807 := rfl
  have hmm : aO = 1073741824 := rfl
  have hlt := aC ts
  have hK := GP (K := 2 * aV ts + 10) (E := E) (f := .fn nG [] []) (more := []) (c := fun t => .int .i64 (qN t.kids)) h1 fun t v ht hv => (Lu n (by have := f8 ht; rw [g7] at this; omega) (by have := f8 ht; rw [g7] at this; omega) hv).mono (by have := f8 ht; rw [g7] at this; omega)
  refine bG.byW (J7 hE) rfl rfl (K := 2 * aV ts + 11) fun k hk bl tk => ?_
  simp [wO, Cz]
  refine aA xs.length (fun i e s => ∃ b, bl.length <= b.length /\ e = [(3, .int .i64 (qN (ts.take i))), (6, .sl o1 3 xs), (7, .int .i64 xs.length), (8, .int .i64 i)] /\ s = { bl := b, tk, ro := bl.length, rt := tk.length }) (by omega) (by simp [qN]) ?_ ?_
  ·rintro i e s hi ⟨b, hb, rfl, rfl⟩
   obtain ⟨t, ht⟩ : ∃ t, ts[i]? = some t := ⟨_, List.getElem?_eq_getElem (by omega)⟩
   obtain ⟨vx, hx, hvx, hc⟩ := hK k (by omega) i t ht
   obtain ⟨o2, ks, rfl, hlk⟩ := hvx.len
   obtain ⟨hi1, hx1⟩ := List.getElem?_eq_some_iff.1 hx
   have e1 : et (.int .i64 i) xs.length = some i := av hi1
   have hwr : IntKind.wrap .i64 ((i : Int) + 1) = i + 1 := ar (by omega) (by omega)
   have htk : qN (ts.take (i + 1)) = max (qN (ts.take i)) (TA t) := by rw [List.take_add_one, ht, B8]; simp [qN]
   have hle := f8 (List.mem_of_getElem? ht)
   have hle2 := JM t.kids
   rw [g7] at hle
   have hw2 : IntKind.wrap .i64 (1 + (qN t.kids : Int)) = 1 + qN t.kids := ar (by omega) (by omega)
   have hmaxn : (if (qN (ts.take i) : Int) < 1 + (qN t.kids : Int) then (1 + (qN t.kids : Int)) else (qN (ts.take i) : Int)) = ((max (qN (ts.take i)) (1 + qN t.kids) : Nat) : Int) := by split <;> omega
   have hb1 : bl.length <= b.length + 1 := by omega
   rw [htk, M5]
   by_cases c4 : t.kind = 4
   ·rw [if_pos (.inl c4)]
    simp [l5, hi, e1, hx1, hwr, hb, hb1, c4, hc, hw2, wv, RM, hmaxn]
   have b4 : (t.kind == 4) = false := by simpa using c4
   by_cases c8 : t.kind = 8
   ·rw [if_pos (.inr (.inl c8))]
    simp [l5, hi, e1, hx1, hwr, hb, hb1, c8, hc, hw2, wv, RM, hmaxn]
   have b8 : (t.kind == 8) = false := by simpa using c8
   by_cases ck : 0 < t.kids.length
   ·rw [if_pos (.inr (.inr ck))]
    have ck' : ¬ ks = [] := by rintro rfl; simp at hlk; omega
    simp [l5, hi, e1, hx1, hwr, hb, hb1, b4, b8, ck', hc, hw2, wv, RM, hmaxn]
   ·rw [if_neg (by rintro (h | h | h) <;> omega)]
    have ck' : ks = [] := by cases ks with | nil => rfl | cons a l => simp at hlk; omega
    simp [l5, hi, e1, hx1, hwr, hb, hb1, b4, b8, ck', hc]
  ·rintro e s ⟨b, hb, rfl, rfl⟩
   rw [List.take_of_length_le (by omega)]
   simp [l5]
end
open Go Ab Go.RowKit
set_option maxRecDepth 10000
section
variable {E : ak} (hE : E.fns = af.fn ag)
include hE
theorem Qs {v : AV} (hv : ∃ o xs, v = .sl o 3 xs) : ∀ k, 1 <= k -> ∀ s, au E k none (.fn ux [] []) [v] s = some (.ret (.fn kf [] [.ptr s.bl.length 0]), false, { s with bl := s.bl ++ [.cells [v]] }) := by
 intro k hk s
 obtain ⟨o, xs, rfl⟩ := hv
 obtain ⟨j, rfl⟩ : ∃ j, k = j + 1 := ⟨k - 1, by omega⟩
 have key := cI (Nq hE) (first := []) (caps := []) (args := [.sl o 3 xs]) rfl (k := j) (s := s) (Post := fun v s' => v = .fn kf [] [.ptr s.bl.length 0] /\ s' = { s with bl := s.bl ++ [.cells [.sl o 3 xs]] }) (by
  simp [BU, FQ, jk, cD])
 obtain ⟨v, s', h, rfl, rfl⟩ := key
 exact h
abbrev No (c : Nat) : AV := .fn qz [] [.ptr (c + 1) 0, .ptr (c + 2) 0]
section
variable {α : Type} (B : α -> List AB) (c : Nat) (hB : ∀ a, (B a).length = c) (tk : List Nat) (ro rt : Nat) (hro : ro <= c) (L : AB) (y : α -> Tm -> Option α) (D : St -> Prop) (k0 : Nat) (W : Tm -> Prop)
 (hD : ∀ s, D s -> s.ro = ro /\ s.rt = rt)
 (hy : ∀ a g t x k, W t -> Rt t x -> k0 <= k -> ∃ b s', au E k none (.yield c) [x] ⟨B a ++ L :: g, tk, ro, rt⟩ = some (.ret (.bool b), false, s') /\
  (match y a t with | some a' => b = true /\ ∃ g', s' = ⟨B a' ++ L :: (g ++ g'), tk, ro, rt⟩ | none => b = false /\ D s'))
include hB hro hD hy
theorem Og : ∀ (n : Nat) {ts : List Tm} {v : AV} (a : α) (g : List AB) (k : Nat), aV ts < n -> aV ts < aO -> (∀ t ∈ bI ts, W t) -> Sl ts v -> 2 * aV ts + k0 + 3 <= k ->
  ∃ b s', au E k none (No c) [v] ⟨B a ++ L :: .cells [.yield c] :: .cells [No c] :: g, tk, ro, rt⟩ = some (.ret (.bool b), false, s') /\
   (match mF y a (bI ts) with | some a' => b = true /\ ∃ g', s' = ⟨B a' ++ L :: .cells [.yield c] :: .cells [No c] :: g', tk, ro, rt⟩ | none => b = false /\ D s')
 | 0, _, _, _, _, _, h, _, _, _, _ => by omega
 | n + 1, ts, v, a, g, k, hn, hm, hW, hv, hk => by
  obtain ⟨o, xs, rfl, _, hR⟩ := hv
  have hmx : maxLen = 9223372036854775807 := rfl
  have hmm : aO = 1073741824 := rfl
  have hl := hR.length
  have hlt := aC ts
  have gj : ∀ a r j, (B a ++ r)[c + j]? = r[j]? := fun a r j => by rw [<- hB a]; exact aa _ _ _
  have g0 : ∀ a r, (B a ++ r)[c]? = r[0]? := fun a r => by rw [<- hB a]; exact ac _ _
  have sj : ∀ a r j x, (B a ++ r).set (c + j) x = B a ++ r.set j x := fun a r j x => by rw [<- hB a]; exact aj _ _ _ _
  have hro' : ∀ j, ro <= c + j := fun j => by omega
  obtain ⟨k, rfl⟩ : ∃ j, k = j + 1 := ⟨k - 1, by omega⟩
  have key := cI (GF hE) (first := []) (caps := [.ptr (c + 1) 0, .ptr (c + 2) 0]) (args := [.sl o 3 xs]) rfl (k := k) (s := ⟨B a ++ L :: .cells [.yield c] :: .cells [No c] :: g, tk, ro, rt⟩)
   (Post := fun v s' => ∃ b, v = .bool b /\ (match mF y a (bI ts) with | some a' => b = true /\ ∃ g', s' = ⟨B a' ++ L :: .cells [.yield c] :: .cells [No c] :: g', tk, ro, rt⟩ | none => b = false /\ D s')) (by
   simp only [tQ, zi, jk]
   simp
   refine aA xs.length (fun i e s => ∃ a' g', mF y a (bI ts) = mF y a' (bI (ts.drop i)) /\ e = [(1, .ptr (c + 1) 0), (2, .ptr (c + 2) 0), (7, .sl o 3 xs), (8, .int .i64 xs.length), (9, .int .i64 i)] /\
    s = ⟨B a' ++ L :: .cells [.yield c] :: .cells [No c] :: g', tk, ro, rt⟩) (by omega) ⟨a, g, by simp⟩ ?_ ?_
   ·rintro i e s hi ⟨a', g', hq, rfl, rfl⟩
    obtain ⟨t, ht⟩ : ∃ t, ts[i]? = some t := ⟨_, List.getElem?_eq_getElem (by omega)⟩
    obtain ⟨x, hx, hrx⟩ := hR.get ht
    obtain ⟨kx, rfl, hkx⟩ := hrx.open
    obtain ⟨hi1, hx1⟩ := List.getElem?_eq_some_iff.1 hx
    have e1 : et (.int .i64 i) xs.length = some i := av hi
    have hwr : IntKind.wrap .i64 ((i : Int) + 1) = i + 1 := ar (by omega) (by omega)
    have hmt := List.mem_of_getElem? ht
    have hle := f8 hmt
    rw [g7] at hle
    have hpre : ∀ u ∈ t :: bI t.kids, u ∈ bI ts := by
     intro u hu
     obtain ⟨l, r, rfl⟩ := List.append_of_mem hmt
     rw [iW, el]
     simp only [List.mem_append, List.mem_cons]
     rcases List.mem_cons.1 hu with rfl | hu
     ·exact .inr (.inl rfl)
     ·exact .inr (.inr (.inl hu))
    obtain ⟨hti, ht1⟩ := List.getElem?_eq_some_iff.1 ht
    rw [List.drop_eq_getElem_cons hti, ht1, el, mF] at hq
    obtain ⟨b, s', hcall, hpost⟩ := hy a' (.cells [.yield c] :: .cells [No c] :: (g' ++ [.cells [.int .i64 t.kind, .str t.text, kx]])) t _ k (hW t (hpre t (List.mem_cons_self ..))) hrx (by omega)
    cases hyt : y a' t with
    | none =>
     rw [hyt] at hpost hq
     obtain ⟨rfl, hd⟩ := hpost
     simp only at hq
     rw [hq]
     obtain ⟨r1, r2⟩ := hD s' hd
     have hbk : ({ s' with ro := ro, rt := rt } : St) = s' := by rw [<- r1, <- r2]
     simp [lT, hB, hi, e1, hi1, hx1, hwr, gj, g0, sj, hro', hcall, cD, hbk, hd]
    | some a2 =>
     rw [hyt] at hpost hq
     obtain ⟨rfl, g2, rfl⟩ := hpost
     simp only [CZ] at hq
     obtain ⟨b3, s3, hcall3, hpost3⟩ := Og n a2 ((g' ++ [.cells [.int .i64 t.kind, .str t.text, kx]]) ++ g2) k (by omega) (by omega) (fun u hu => hW u (hpre u (List.mem_cons_of_mem _ hu))) hkx (by omega)
     simp only [List.cons_append, List.append_assoc, List.nil_append] at hcall hcall3
     cases hf : mF y a2 (bI t.kids) with
     | none =>
      rw [hf] at hpost3 hq
      obtain ⟨rfl, hd⟩ := hpost3
      simp only at hq
      rw [hq]
      obtain ⟨r1, r2⟩ := hD s3 hd
      have hbk : ({ s3 with ro := ro, rt := rt } : St) = s3 := by rw [<- r1, <- r2]
      simp [lT, hB, hi, e1, hi1, hx1, hwr, gj, g0, sj, hro', hcall, hcall3, cD, hbk, hd]
     | some a4 =>
      rw [hf] at hpost3 hq
      obtain ⟨rfl, g3, rfl⟩ := hpost3
      simp only at hq
      simp [lT, hB, hi, e1, hi1, hx1, hwr, gj, g0, sj, hro', hcall, hcall3]
      exact ⟨a4, hq, g3, rfl⟩
   ·rintro e s ⟨a', g', hq, rfl, rfl⟩
    rw [List.drop_of_length_le (by omega)] at hq
    simp only [bI, mF] at hq
    rw [hq]
    simp [lT, cD])
  obtain ⟨v, s', hc, b, rfl, hpost⟩ := key
  exact ⟨b, s', hc, hpost⟩
theorem FZ {ts : List Tm} {v : AV} (a : α) (k cl : Nat) (hcl : ∀ a r, (B a ++ r)[cl]? = some (.cells [v])) (hm : aV ts < aO) (hW : ∀ t ∈ bI ts, W t) (hv : Sl ts v) (hk : 2 * aV ts + k0 + 4 <= k) :
  ∃ v s', au E k none (.fn kf [] [.ptr cl 0]) [.yield c] ⟨B a ++ [L], tk, ro, rt⟩ = some (.ret v, false, s') /\
   (match mF y a (bI ts) with | some a' => ∃ g', s' = ⟨B a' ++ L :: g', tk, ro, rt⟩ | none => D s') := by
 obtain ⟨k, rfl⟩ : ∃ j, k = j + 1 := ⟨k - 1, by omega⟩
 have gj : ∀ a r j, (B a ++ r)[c + j]? = r[j]? := fun a r j => by rw [<- hB a]; exact aa _ _ _
 have g0 : ∀ a r, (B a ++ r)[c]? = r[0]? := fun a r => by rw [<- hB a]; exact ac _ _
 have sj : ∀ a r j x, (B a ++ r).set (c + j) x = B a ++ r.set j x := fun a r j x => by rw [<- hB a]; exact aj _ _ _ _
 have hro' : ∀ j, ro <= c + j := fun j => by omega
 obtain ⟨b, s', hcall, hpost⟩ := Og hE B c hB tk ro rt hro L y D k0 W hD hy (aV ts + 1) a [] k (by omega) hm hW hv (by omega)
 have key := cI (J2 hE) (first := []) (caps := [.ptr cl 0]) (args := [.yield c]) rfl (k := k) (s := ⟨B a ++ [L], tk, ro, rt⟩)
  (Post := fun v s' => match mF y a (bI ts) with | some a' => ∃ g', s' = ⟨B a' ++ L :: g', tk, ro, rt⟩ | none => D s') (by
   simp only [wM, Cx, jk]
   cases hf : mF y a (bI ts) with
   | none =>
    rw [hf] at hpost
    obtain ⟨rfl, hd⟩ := hpost
    obtain ⟨r1, r2⟩ := hD s' hd
    have hbk : ({ s' with ro := ro, rt := rt } : St) = s' := by rw [<- r1, <- r2]
    simp [hB, gj, g0, sj, hro', hcl, hcall, cD, hbk, hd]
   | some a' =>
    rw [hf] at hpost
    obtain ⟨rfl, g', rfl⟩ := hpost
    simp [hB, gj, g0, sj, hro', hcl, hcall, cD])
 exact key
end
end
open Go Ab Go.RowKit
set_option maxRecDepth 10000
abbrev Uo := { a : Nat // a <= 4000 }
def B6 (a : Uo) (_ : Tm) : Option Uo := if h : a.1 + 1 <= 4000 then some ⟨a.1 + 1, h⟩ else none
theorem Er : ∀ (l : List Tm) (a : Uo), 4000 < a.1 + l.length -> mF B6 a l = none
 | [], a, h => by have := a.2; simp at h; omega
 | t :: l, a, h => by
  simp only [mF, B6]
  by_cases h1 : a.1 + 1 <= 4000
  ·simp only [h1, dif_pos]; exact Er l _ (by simp at h ⊢; omega)
  ·simp only [h1, dif_neg, not_false_eq_true]
theorem Es : ∀ (l : List Tm) (a : Uo) (h : a.1 + l.length <= 4000), mF B6 a l = some ⟨a.1 + l.length, h⟩
 | [], a, h => rfl
 | t :: l, a, h => by
  have h1 : a.1 + 1 <= 4000 := by simp at h; omega
  simp only [mF, B6, h1, dif_pos]
  rw [Es l ⟨a.1 + 1, h1⟩ (by simp at h ⊢; omega)]
  simp only [List.length_cons]; congr 2; omega
def xE (kind : Int) (_ : Unit) (t : Tm) : Option Unit := if decide (t.kind <= kind) && iw t then some () else none
theorem EO (kind : Int) : ∀ l : List Tm, l.all (fun t => decide (t.kind <= kind) && iw t) = true -> mF (xE kind) () l = some ()
 | [], _ => rfl
 | t :: l, h => by
  rw [List.all_cons, Bool.and_eq_true] at h
  simp only [mF, xE, h.1, if_true]
  exact EO kind l h.2
theorem EN (kind : Int) : ∀ l : List Tm, l.all (fun t => decide (t.kind <= kind) && iw t) = false -> mF (xE kind) () l = none
 | [], h => by cases h
 | t :: l, h => by
  rw [List.all_cons, Bool.and_eq_false_iff] at h
  by_cases h1 : (decide (t.kind <= kind) && iw t) = true
  ·simp only [mF, xE, h1, if_true]
   rcases h with h | h
   ·rw [h] at h1; cases h1
   ·exact EN kind l h
  ·simp only [mF, xE]; rw [if_neg h1]
def dm (kind : Int) (ts : List Tm) : Int := if 4000 < aV ts then 5 else if 100 < qN ts then 6 else if (bI ts).all (fun t => decide (t.kind <= kind) && iw t) then 0 else 2
section
variable {E : ak} (hE : E.fns = af.fn ag)
include hE
theorem Lb {ts : List Tm} {v : AV} (hv : Sl ts v) (hm : aV ts < aO) {k : Nat} (hk : 2 * aV ts + 10 <= k) {bl : List AB} {tk : List Nat} {C3 : AB} {Q : AH} {e : bF} (e4 : e.get 4 = .ptr (bl.length + 1) 0) (e5 : e.get 5 = .ptr (bl.length + 2) 0)
  (e8 : e.get 8 = .fn kf [] [.ptr (bl.length + 3) 0])
  (q1 : aV ts <= 4000 -> ∀ L r, Q .normal e { bl := bl ++ (C3 :: .cells [.int .i64 0] :: .cells [.int .i64 (aV ts)] :: .cells [v] :: L :: r), tk, ro := bl.length, rt := tk.length })
  (q2 : 4000 < aV ts -> ∀ C L r, Q .ret e { bl := bl ++ (C3 :: .cells [.int .i64 5] :: C :: .cells [v] :: L :: r), tk, ro := bl.length, rt := tk.length }) :
  wp E (au E k) k false (.rangeFn (.t 8) [9] .skip ou) Q e { bl := bl ++ [C3, .cells [.int .i64 0], .cells [.int .i64 0], .cells [v]], tk, ro := bl.length, rt := tk.length } := by
 have hmx : maxLen = 9223372036854775807 := rfl
 have hmm : aO = 1073741824 := rfl
 let L0 : Cr := { st := .ready, pend := none, env := e, ps := [9], assign := .skip, body := ou }
 let B : Uo -> List AB := fun a => bl ++ [C3, .cells [.int .i64 0], .cells [.int .i64 a.1], .cells [v]]
 refine HL ?_
 have key := FZ hE B (bl.length + 4) (fun a => by simp [B]) tk bl.length tk.length (by omega) (.loop L0) B6
  (fun s => ∃ C r, s = { bl := bl ++ (C3 :: .cells [.int .i64 5] :: C :: .cells [v] :: .loop { L0 with st := .done, pend := some .ret } :: r), tk, ro := bl.length, rt := tk.length }) 2 (fun _ => True)
  (by rintro s ⟨C, r, rfl⟩; exact ⟨rfl, rfl⟩)
  (by
   intro a g t x k _ hx hk
   obtain ⟨k, rfl⟩ : ∃ j, k = j + 1 := ⟨k - 1, by omega⟩
   refine BY (L := L0) (by simp [B, aa]) rfl rfl (by simp) ?_
   obtain ⟨a, ha⟩ := a
   have hw : IntKind.wrap .i64 ((a : Int) + 1) = a + 1 := ar (by omega) (by omega)
   by_cases h : a + 1 <= 4000
   ·have h3 : ¬ (4000 : Int) < (a : Int) + 1 := by omega
    simp [L0, B, B6, h, ou, nn, bF.get_put, e4, e5, aa, ac, aj, aB, hw, h3]
   ·have h3 : (4000 : Int) < (a : Int) + 1 := by omega
    simp [L0, B, B6, h, ou, nn, bF.get_put, e4, e5, aa, ac, aj, aB, hw, h3])
  ⟨0, by omega⟩ k (bl.length + 3) (fun a r => by simp [B, aa]) hm (fun _ _ => trivial) hv (by omega)
 obtain ⟨v', s', hcl, hor⟩ := key
 refine ⟨v', false, s', ?_, ?_⟩
 ·simp only [bN.ev, e8]
  rw [<- hcl]
  simp [B, L0, St.push]
 ·by_cases h : 4000 < aV ts
  ·rw [Er _ _ (by rw [kh]; simpa using h)] at hor
   obtain ⟨C, r, rfl⟩ := hor
   refine ⟨{ L0 with st := .done, pend := some .ret }, by simp [aa], .inr (.inr ⟨rfl, rfl, ?_⟩)⟩
   simpa [aj, aB] using q2 h _ _ r
  ·rw [Es _ _ (by rw [kh]; simp; omega)] at hor
   obtain ⟨r, rfl⟩ := hor
   refine ⟨L0, by simp [B, aa], .inl ⟨rfl, rfl, ?_⟩⟩
   simpa [B, aj, aB, kh] using q1 (by omega) _ r
theorem Lc {ts : List Tm} {v : AV} (hv : Sl ts v) (hm : aV ts < aO) {M : Nat} (hM : M <= maxLen) (hW : ∀ t ∈ bI ts, t.text.length <= M) (kind : Int) {k : Nat} (hk : 2 * aV ts + M + 20 <= k) {bl r : List AB} {tk : List Nat} {C5 CB Lx : AB} {Q : AH} {e : bF}
  (e3 : e.get 3 = .ptr bl.length 0) (e4 : e.get 4 = .ptr (bl.length + 1) 0) (e18 : e.get 18 = .fn kf [] [.ptr (bl.length + (r.length + 5)) 0])
  (q1 : (bI ts).all (fun t => decide (t.kind <= kind) && iw t) = true -> ∀ g, Q .normal e { bl := bl ++ (.cells [.int .i64 kind] :: .cells [.int .i64 0] :: g), tk, ro := bl.length, rt := tk.length })
  (q2 : (bI ts).all (fun t => decide (t.kind <= kind) && iw t) = false -> ∀ g, Q .ret e { bl := bl ++ (.cells [.int .i64 kind] :: .cells [.int .i64 2] :: g), tk, ro := bl.length, rt := tk.length }) :
  wp E (au E k) k false (.rangeFn (.t 18) [19] (.region [⟨(some 6), .alloc [.int .i64 0, .str [], .sl .nil 3 []], none, [], false⟩, ⟨none, .store 3 (.t 6) (.t 19), none, [], false⟩] [6] false) l6) Q e
   { bl := bl ++ (.cells [.int .i64 kind] :: .cells [.int .i64 0] :: C5 :: CB :: Lx :: (r ++ [.cells [v]])), tk, ro := bl.length, rt := tk.length } := by
 have hmx : maxLen = 9223372036854775807 := rfl
 have hmm : aO = 1073741824 := rfl
 let L0 : Cr := { st := .ready, pend := none, env := e, ps := [19], assign := (.region [⟨(some 6), .alloc [.int .i64 0, .str [], .sl .nil 3 []], none, [], false⟩, ⟨none, .store 3 (.t 6) (.t 19), none, [], false⟩] [6] false), body := l6 }
 let B : Unit -> List AB := fun _ => bl ++ (.cells [.int .i64 kind] :: .cells [.int .i64 0] :: C5 :: CB :: Lx :: (r ++ [.cells [v]]))
 have hlen : (bl ++ (.cells [.int .i64 kind] :: .cells [.int .i64 0] :: C5 :: CB :: Lx :: (r ++ [.cells [v]]))).length = bl.length + (r.length + 6) := by simp
 refine HL ?_
 have key := FZ hE B (bl.length + (r.length + 6)) (fun a => hlen) tk bl.length tk.length (by omega) (.loop L0) (xE kind)
  (fun s => ∃ g, s = { bl := bl ++ (.cells [.int .i64 kind] :: .cells [.int .i64 2] :: C5 :: CB :: Lx :: (r ++ (.cells [v] :: .loop { L0 with st := .done, pend := some .ret } :: g))), tk, ro := bl.length, rt := tk.length }) (M + 12) (fun t => t.text.length <= M)
  (by rintro s ⟨g, rfl⟩; exact ⟨rfl, rfl⟩)
  (by
   intro a g t x k ht hx hk
   obtain ⟨k, rfl⟩ : ∃ j, k = j + 1 := ⟨k - 1, by omega⟩
   have hr := QU hE hx (by omega) k (by omega)
   obtain ⟨kx, rfl, hkx⟩ := hx.open
   refine BY (L := L0) (by simp [B, aa, ac]) rfl rfl (by simp) ?_
   by_cases h : t.kind <= kind
   ·have h3 : ¬ kind < t.kind := by omega
    cases h4 : iw t with
    | true =>
     rw [h4] at hr
     simp [L0, B, xE, h, h4, l6, nn, bF.get_put, e3, e4, aa, ac, aj, aB, h3, hr]
    | false =>
     rw [h4] at hr
     simp [L0, B, xE, h, h4, l6, nn, bF.get_put, e3, e4, aa, ac, aj, aB, h3, hr]
   ·have h3 : kind < t.kind := by omega
    simp [L0, B, xE, h, l6, nn, bF.get_put, e3, e4, aa, ac, aj, aB, h3])
  () k (bl.length + (r.length + 5)) (fun a g => by simp [B, aa, ac]) hm hW hv (by omega)
 obtain ⟨v', s', hcl, hor⟩ := key
 refine ⟨v', false, s', ?_, ?_⟩
 ·simp only [bN.ev, e18, hlen]
  rw [<- hcl]
  simp [B, L0, St.push]
 ·rw [hlen]
  cases h : (bI ts).all (fun t => decide (t.kind <= kind) && iw t) with
  | false =>
   rw [EN _ _ h] at hor
   obtain ⟨g, rfl⟩ := hor
   refine ⟨{ L0 with st := .done, pend := some .ret }, by simp [aa, ac], .inr (.inr ⟨rfl, rfl, ?_⟩)⟩
   simpa [aj, aB] using q2 h _
  | true =>
   rw [EO _ _ h] at hor
   obtain ⟨g, rfl⟩ := hor
   refine ⟨L0, by simp [B, aa, ac], .inl ⟨rfl, rfl, ?_⟩⟩
   simpa [B, aj, aB] using q1 h _
theorem Lt {ts : List Tm} {v : AV} (hv : Sl ts v) (hm : aV ts < aO) {M : Nat} (hM : M <= maxLen) (hW : ∀ t ∈ bI ts, t.text.length <= M) (kind : Int) : bG (4 * aV ts + M + 60) E (.fn qA [] []) [v, .int .i64 kind] (.int .i64 (dm kind ts)) := by
 have hmm : aO = 1073741824 := rfl
 have hK := Lu hE _ (Nat.lt_succ_self _) (by omega) hv
 have hsl : ∃ o xs, v = .sl o 3 xs := by obtain ⟨o, xs, h, _⟩ := hv.len; exact ⟨o, xs, h⟩
 refine bG.byW (J6 hE) rfl rfl (K := 4 * aV ts + M + 59) fun k hk bl tk => ?_
 have hal := Qs hE hsl k (by omega)
 have hd := hK k (by omega)
 simp [wN, Cy, hal]
 refine Lb hE hv hm (by omega) (by simp) (by simp) (by simp) (fun h L r => ?_) (fun h C L r => ?_)
 ·by_cases hdp : 100 < qN ts
  ·have hc : dm kind ts = 6 := by unfold dm; rw [if_neg (by omega), if_pos hdp]
   have hdi : (100 : Int) < (qN ts : Int) := by omega
   simp [hd, hdi, hc, aa, ac, aj, aB]
  ·have hdi : ¬ (100 : Int) < (qN ts : Int) := by omega
   simp [hd, hdi, hal, aa, ac, aj, aB]
   refine Lc hE hv hm hM hW kind (by omega) (by simp) (by simp) (by simp) (fun hr g => ?_) (fun hr g => ?_)
   ·have hc : dm kind ts = 0 := by unfold dm; rw [if_neg (by omega), if_neg hdp, if_pos hr]
    simp [hc, aa, ac, aj, aB]
   ·have hc : dm kind ts = 2 := by unfold dm; rw [if_neg (by omega), if_neg hdp, if_neg (by rw [hr]; simp)]
    simp [hc, aa, ac, aj, aB]
 ·have hc : dm kind ts = 5 := by unfold dm; rw [if_pos h]
  simp [hc, aa, ac, aj, aB]
end
open Go Ab Go.RowKit
set_option maxRecDepth 10000
section
variable {E : ak} (hE : E.fns = af.fn ag)
include hE
theorem JY {t : Tm} {x : AV} (h : Rt t x) (hs : t.text.length <= maxLen) : bG (t.text.length + 9) E (.fn jB [] []) [x] (.bool (iw t)) := by
 obtain ⟨v, rfl, hv⟩ := h.open
 obtain ⟨o, ks, rfl, hlk⟩ := hv.len
 obtain ⟨kd, s, kids⟩ := t
 simp only [Tm.kind, Tm.text, Tm.kids] at *
 refine bG.byW (yG hE) rfl rfl (K := s.length + 8) fun k hk bl tk => ?_
 have w1 := Pp hE s hs k (by omega)
 have w2 := Gr hE s hs k (by omega)
 have w3 := QL hE s hs k (by omega)
 have w4 := Po hE s hs 40 k (by omega)
 unfold iw
 simp only [Tm.kind, Tm.text, Tm.kids]
 by_cases a4 : kd = 4
 ·subst a4
  cases s with
  | nil => simp [aN, aU]
  | cons b r => simp [aN, aU]
 by_cases a8 : kd = 8
 ·subst a8; simp [aN, aU, w4]
 simp only [a4, a8, if_false]
 have b4 : (kd == 4) = false := by simpa using a4
 have b8 : (kd == 8) = false := by simpa using a8
 have n4 : (kd != 4) = true := by simpa using a4
 have n8 : (kd != 8) = true := by simpa using a8
 by_cases ck : 0 < kids.length
 ·have ck' : ¬ ks = [] := by rintro rfl; simp at hlk; omega
  have ck2 : (0 : Int) < ks.length := by omega
  simp only [ck, if_true]
  simp [aN, aU, n4, n8, ck2, hlk, ck]
 have ck' : ks = [] := by cases ks with | nil => rfl | cons a l => simp at hlk; omega
 subst ck'
 simp only [ck, if_false]
 by_cases a1 : kd = 1
 ·subst a1
  have : ((s.length : Int) == 1) = (s.length == 1) := by rw [Bool.eq_iff_iff]; simp; omega
  simp [aN, aU, this]
 by_cases a2 : kd = 2
 ·subst a2; simp [aN, aU, w1]
 by_cases a3 : kd = 3
 ·subst a3; simp [aN, aU, w2]
 simp only [a1, a2, a3, if_false]
 have b1 : (kd == 1) = false := by simpa using a1
 have b2 : (kd == 2) = false := by simpa using a2
 have b3 : (kd == 3) = false := by simpa using a3
 by_cases a5 : kd = 5
 ·subst a5; simp [aN, aU, w3]; rfl
 by_cases a6 : kd = 6
 ·subst a6; simp [aN, aU, w3]; rfl
 by_cases a7 : kd = 7
 ·subst a7; simp [aN, aU, w3]; rfl
 have b5 : (kd == 5) = false := by simpa using a5
 have b6 : (kd == 6) = false := by simpa using a6
 have b7 : (kd == 7) = false := by simpa using a7
 simp [aN, aU, n4, n8, b1, b2, b3, b4, b5, b6, b7, b8, a5, a6, a7]
theorem Ev : ∀ (n : Nat) {ts : List Tm} {v : AV}, aV ts < n -> aV ts <= aO -> Sl ts v -> bG (2 * aV ts + 12) E (.fn eF [] []) [v] (.tup [.int .i64 (aV ts), .int .i64 (qN ts)])
 | 0, _, _, h, _, _ => by omega
 | n + 1, ts, v, hn, hm, hv => by
  obtain ⟨o1, xs, rfl, ⟨hm1, _⟩, h1⟩ := hv
  have hl1 := h1.length
  have hmx : maxLen = 9223372036854775807 := rfl
  have hmm : aO = 1073741824 := rfl
  have hlt := aC ts
  have hK := GP (K := 2 * aV ts + 10) (E := E) (f := .fn eF [] []) (more := []) (c := fun t => .tup [.int .i64 (aV t.kids), .int .i64 (qN t.kids)]) h1 fun t v ht hv => (Ev n (by have := f8 ht; rw [g7] at this; omega) (by have := f8 ht; rw [g7] at this; omega) hv).mono (by have := f8 ht; rw [g7] at this; omega)
  refine bG.byW (zN hE) rfl rfl (K := 2 * aV ts + 11) fun k hk bl tk => ?_
  simp [mS, rK]
  refine aA xs.length (fun i e s => e = [(0, .sl o1 3 xs), (4, .int .i64 (aV (ts.take i))), (5, .int .i64 (qN (ts.take i))), (6, .int .i64 i)] /\ s = { bl, tk, ro := bl.length, rt := tk.length }) (by omega) (by simp [qN, aV]) ?_ ?_
  ·rintro i e s hi ⟨rfl, rfl⟩
   obtain ⟨t, ht⟩ : ∃ t, ts[i]? = some t := ⟨_, List.getElem?_eq_getElem (by omega)⟩
   obtain ⟨vx, hx, hvx, hc⟩ := hK k (by omega) i t ht
   obtain ⟨o2, ks, rfl, hlk⟩ := hvx.len
   obtain ⟨hi1, hx1⟩ := List.getElem?_eq_some_iff.1 hx
   have e1 : et (.int .i64 i) xs.length = some i := av hi1
   have hwr : IntKind.wrap .i64 ((i : Int) + 1) = i + 1 := ar (by omega) (by omega)
   have htk : qN (ts.take (i + 1)) = max (qN (ts.take i)) (TA t) := by rw [List.take_add_one, ht, B8]; simp [qN]
   have htn : aV (ts.take (i + 1)) = aV (ts.take i) + (aV t.kids + 1) := by rw [List.take_add_one, ht, kp]; simp [aV, g7]; omega
   have hle := f8 (List.mem_of_getElem? ht)
   have hle2 := JM t.kids
   have hln : aV (ts.take i) + aV (ts.drop i) = aV ts := by rw [<- kp, List.take_append_drop]
   rw [g7] at hle
   have hw1 : IntKind.wrap .i64 ((aV (ts.take i) : Int) + (aV t.kids : Int)) = (aV (ts.take i) : Int) + aV t.kids := ar (by omega) (by omega)
   have hw3 : IntKind.wrap .i64 ((aV (ts.take i) : Int) + (aV t.kids : Int) + 1) = ((aV (ts.take i) + (aV t.kids + 1) : Nat) : Int) := by rw [ar (by omega) (by omega)]; omega
   have hw2 : IntKind.wrap .i64 ((qN t.kids : Int) + 1) = qN t.kids + 1 := ar (by omega) (by omega)
   have hmaxn : (if (qN (ts.take i) : Int) < (qN t.kids : Int) + 1 then ((qN t.kids : Int) + 1) else (qN (ts.take i) : Int)) = ((max (qN (ts.take i)) (1 + qN t.kids) : Nat) : Int) := by split <;> omega
   have hmaxm : (if (qN (ts.take i) : Int) < (qN t.kids : Int) then ((qN t.kids : Int)) else (qN (ts.take i) : Int)) = ((max (qN (ts.take i)) (qN t.kids) : Nat) : Int) := by split <;> omega
   rw [htk, htn, M5]
   by_cases c4 : t.kind = 4
   ·rw [if_pos (.inl c4)]
    simp [ed, hi, e1, hx1, hwr, c4, hc, hw1, hw2, hw3, wv, RM, hmaxn]
   have b4 : (t.kind == 4) = false := by simpa using c4
   by_cases c8 : t.kind = 8
   ·rw [if_pos (.inr (.inl c8))]
    simp [ed, hi, e1, hx1, hwr, c8, hc, hw1, hw2, hw3, wv, RM, hmaxn]
   have b8 : (t.kind == 8) = false := by simpa using c8
   by_cases ck : 0 < t.kids.length
   ·rw [if_pos (.inr (.inr ck))]
    have ck' : ¬ ks = [] := by rintro rfl; simp at hlk; omega
    have ck2 : (0 : Int) < ks.length := by omega
    simp [ed, hi, e1, hx1, hwr, b4, b8, ck', ck2, hc, hw1, hw2, hw3, wv, RM, hmaxn]
   ·rw [if_neg (by rintro (h | h | h) <;> omega)]
    have ck' : ks = [] := by cases ks with | nil => rfl | cons a l => simp at hlk; omega
    subst ck'
    have hk0 : t.kids = [] := List.eq_nil_of_length_eq_zero (by simpa using hlk.symm)
    have hd0 : qN t.kids = 0 := by rw [hk0]; rfl
    rw [hd0] at hc hmaxm
    simp [ed, hi, e1, hx1, hwr, b4, b8, hc, hw1, hw3, wv, RM] at hmaxm ⊢
    omega
  ·rintro e s ⟨rfl, rfl⟩
   rw [List.take_of_length_le (by omega)]
   simp [ed]
def xb (m : Int) (t : Tm) : Bool := decide (t.kind <= m) && iw t
theorem Oo (m : Int) : ∀ (n : Nat) {ts : List Tm} {v : AV} {M : Nat}, aV ts < n -> aV ts <= aO -> M <= maxLen -> (∀ t ∈ bI ts, t.text.length <= M) -> Sl ts v -> bG (2 * aV ts + M + 22) E (.fn eG [] []) [v, .int .i64 m] (.bool ((bI ts).all (xb m)))
 | 0, _, _, _, h, _, _, _, _ => by omega
 | n + 1, ts, v, M, hn, hm, hM, hW, hv => by
  obtain ⟨o1, xs, rfl, ⟨hm1, _⟩, h1⟩ := hv
  have hl1 := h1.length
  have hmx : maxLen = 9223372036854775807 := rfl
  have hmm : aO = 1073741824 := rfl
  have hpre : ∀ t ∈ ts, ∀ u ∈ Ig t, u ∈ bI ts := by
   intro t ht u hu
   obtain ⟨a, b, rfl⟩ := List.append_of_mem ht
   rw [iW]; simp only [bI, List.mem_append]; exact .inr (.inl hu)
  have hlt := aC ts
  have hK := GP (K := 2 * aV ts + M + 20) (E := E) (f := .fn eG [] []) (more := [.int .i64 m]) (c := fun t => .bool ((bI t.kids).all (xb m))) h1 fun t v ht hv => (Oo m n (M := M) (by have := f8 ht; rw [g7] at this; omega) (by have := f8 ht; rw [g7] at this; omega) hM (fun u hu => hW u (hpre t ht u (by rw [A3]; exact List.mem_cons_of_mem _ hu))) hv).mono (by have := f8 ht; rw [g7] at this; omega)
  refine bG.byW (zO hE) rfl rfl (K := 2 * aV ts + M + 21) fun k hk bl tk => ?_
  obtain ⟨R, hR⟩ : ∃ R, R = (bI ts).all (xb m) := ⟨_, rfl⟩
  rw [<- hR]
  simp [mT, rL]
  refine aA xs.length (fun i e s => R = (bI (ts.drop i)).all (xb m) /\ e = [(0, .sl o1 3 xs), (1, .int .i64 m), (5, .int .i64 i)] /\ s = { bl, tk, ro := bl.length, rt := tk.length }) (by omega) (by simp [hR]) ?_ ?_
  ·rintro i e s hi ⟨hq, rfl, rfl⟩
   obtain ⟨t, ht⟩ : ∃ t, ts[i]? = some t := ⟨_, List.getElem?_eq_getElem (by omega)⟩
   obtain ⟨vx, hx, hvx, hc⟩ := hK k (by omega) i t ht
   obtain ⟨hi1, hx1⟩ := List.getElem?_eq_some_iff.1 hx
   obtain ⟨hi2, ht1⟩ := List.getElem?_eq_some_iff.1 ht
   obtain ⟨y, hy, hrt⟩ := h1.get ht
   rw [hx] at hy; cases hy
   have hmem := List.mem_of_getElem? ht
   have hr := JY hE hrt (by have := hW t (hpre t hmem t (by rw [A3]; exact List.mem_cons_self ..)); omega) k (by have := hW t (hpre t hmem t (by rw [A3]; exact List.mem_cons_self ..)); omega)
   have e1 : et (.int .i64 i) xs.length = some i := av hi1
   have hwr : IntKind.wrap .i64 ((i : Int) + 1) = i + 1 := ar (by omega) (by omega)
   rw [List.drop_eq_getElem_cons hi2, ht1, el, List.all_cons, List.all_append] at hq
   unfold xb at hq
   obtain ⟨o2, ks, rfl, hlk⟩ := hvx.len
   cases r1 : iw t with
   | false =>
    rw [r1] at hr hq
    simp only [Bool.and_false, Bool.false_and] at hq
    simp [ee, hi, e1, hx1, hwr, hr, hq]
   | true =>
    rw [r1] at hr hq
    by_cases c1 : m < t.kind
    ·have c2 : ¬ t.kind <= m := by omega
     simp only [c2, decide_false, Bool.false_and] at hq
     simp [ee, hi, e1, hx1, hwr, hr, hq, c1]
    ·have c2 : t.kind <= m := by omega
     simp only [c2, decide_true, Bool.true_and] at hq
     rw [show (fun t : Tm => decide (t.kind <= m) && iw t) = xb m from rfl] at hq
     cases c3 : (bI t.kids).all (xb m) with
     | false =>
      rw [c3] at hc hq
      rw [Bool.false_and] at hq
      simp [ee, hi, e1, hx1, hwr, hr, hq, c1, hc]
     | true =>
      rw [c3] at hc hq
      rw [Bool.true_and] at hq
      simp [ee, hi, e1, hx1, hwr, hr, c1, hc]
      simpa using hq
  ·rintro e s ⟨hq, rfl, rfl⟩
   rw [List.drop_of_length_le (by omega)] at hq
   have hq' : R = true := by simpa [bI] using hq
   simp [ee, hq']
theorem LK {ts : List Tm} {v : AV} (hv : Sl ts v) (hm : aV ts < aO) {M : Nat} (hM : M <= maxLen) (hW : ∀ t ∈ bI ts, t.text.length <= M) (kind : Int) : bG (4 * aV ts + M + 60) E (.fn fR [] []) [v, .int .i64 kind] (.int .i64 (dm kind ts)) := by
 have h1 := Ev hE _ (Nat.lt_succ_self _) (by omega) hv
 have h2 := Oo hE kind _ (Nat.lt_succ_self _) (by omega) hM hW hv
 refine bG.byW (yH hE) rfl rfl (K := 4 * aV ts + M + 59) fun k hk bl tk => ?_
 have g1 := h1 k (by omega)
 have g2 := h2 k (by omega)
 unfold dm
 rw [show (fun t : Tm => decide (t.kind <= kind) && iw t) = xb kind from rfl]
 by_cases c1 : 4000 < aV ts
 ·have c1' : (4000 : Int) < aV ts := by omega
  simp [dY, fI, g1, c1, c1']
 have c1' : ¬ (4000 : Int) < aV ts := by omega
 by_cases c2 : 100 < qN ts
 ·have c2' : (100 : Int) < qN ts := by omega
  simp [dY, fI, g1, c1, c1', c2, c2']
 have c2' : ¬ (100 : Int) < qN ts := by omega
 rw [if_neg c1, if_neg c2]
 cases c3 : (bI ts).all (xb kind) with
 | false => rw [c3] at g2; simp [dY, fI, g1, c1', c2', g2]
 | true => rw [c3] at g2; simp [dY, fI, g1, c1', c2', g2]
theorem CX {ts : List Tm} {v : AV} (hv : Sl ts v) (hm : aV ts < aO) {M : Nat} (hM : M <= maxLen) (hW : ∀ t ∈ bI ts, t.text.length <= M) : bG (4 * aV ts + M + 61) E (.fn fP [] []) [v] (.int .i64 (dm 4 ts)) := by
 have h := LK hE hv hm hM hW 4
 exact bG.byW (yE hE) rfl rfl (K := 4 * aV ts + M + 60) fun k hk bl tk => by simp [mg, qW, h k hk]
theorem Gs {ts : List Tm} {v : AV} (hv : Sl ts v) (hm : aV ts < aO) {M : Nat} (hM : M <= maxLen) (hW : ∀ t ∈ bI ts, t.text.length <= M) : bG (4 * aV ts + M + 61) E (.fn g8 [] []) [v] (.int .i64 (dm 7 ts)) := by
 have h := LK hE hv hm hM hW 7
 exact bG.byW (wh hE) rfl rfl (K := 4 * aV ts + M + 60) fun k hk bl tk => by simp [kH, ph, h k hk]
theorem Ls {ts : List Tm} {v : AV} (hv : Sl ts v) (hm : aV ts < aO) {M : Nat} (hM : M <= maxLen) (hW : ∀ t ∈ bI ts, t.text.length <= M) : bG (4 * aV ts + M + 61) E (.fn nF [] []) [v] (.int .i64 (dm 4 ts)) := by
 have h := Lt hE hv hm hM hW 4
 exact bG.byW (J1 hE) rfl rfl (K := 4 * aV ts + M + 60) fun k hk bl tk => by simp [wL, Cw, h k hk]
theorem Ng {ts : List Tm} {v : AV} (hv : Sl ts v) (hm : aV ts < aO) {M : Nat} (hM : M <= maxLen) (hW : ∀ t ∈ bI ts, t.text.length <= M) : bG (4 * aV ts + M + 61) E (.fn qy [] []) [v] (.int .i64 (dm 7 ts)) := by
 have h := Lt hE hv hm hM hW 7
 exact bG.byW (GD hE) rfl rfl (K := 4 * aV ts + M + 60) fun k hk bl tk => by simp [tP, zh, h k hk]
end
end Ab.C
namespace Ab
open Go Go.RowKit
def E3 (a b : Int) : Int := if a < b then -1 else if a > b then 1 else 0
def F7 (a b : List UInt8) : Int := if Go.Op.bytesLess a b then -1 else if a = b then 0 else 1
theorem zo : ∀ s : List UInt8, Go.Op.bytesLess s s = false
 | [] => rfl
 | a :: s => by simp [Go.Op.bytesLess, zo s]
theorem JH {a b : Int} (h : a ≠ b) : E3 a b ≠ 0 := by unfold E3; split; omega; split; omega; omega
theorem JI {a b : List UInt8} (h : a ≠ b) : F7 a b ≠ 0 := by unfold F7; split; omega; simp [h]
mutual
def F8 : Tm -> Tm -> Int
 | .mk k s l, u => if k ≠ u.kind then E3 k u.kind else if s ≠ u.text then F7 s u.text else dB l u.kids
def dB : List Tm -> List Tm -> Int
 | [], [] => 0
 | [], _ :: _ => -1
 | _ :: _, [] => 1
 | t :: ts, u :: us => if F8 t u ≠ 0 then F8 t u else dB ts us
end
theorem Oh (t u : Tm) : F8 t u = if t.kind ≠ u.kind then E3 t.kind u.kind else if t.text ≠ u.text then F7 t.text u.text else dB t.kids u.kids := by
 cases t; cases u; simp only [F8, Tm.kind, Tm.text, Tm.kids]; congr
theorem F9 {ts us : List Tm} {i : Nat} {t u : Tm} (ht : ts[i]? = some t) (hu : us[i]? = some u) :
  dB (ts.drop i) (us.drop i) = if F8 t u ≠ 0 then F8 t u else dB (ts.drop (i + 1)) (us.drop (i + 1)) := by
 obtain ⟨h1, h2⟩ := List.getElem?_eq_some_iff.1 ht
 obtain ⟨h3, h4⟩ := List.getElem?_eq_some_iff.1 hu
 rw [List.drop_eq_getElem_cons h1, List.drop_eq_getElem_cons h3, h2, h4]; simp only [dB]
theorem IJ (ts us : List Tm) : dB (ts.drop (min ts.length us.length)) (us.drop (min ts.length us.length)) = E3 ts.length us.length := by
 by_cases h : ts.length < us.length
 ·rw [Nat.min_eq_left (by omega), List.drop_length, List.drop_eq_getElem_cons h]
  simp only [dB, E3]; rw [if_pos (by omega)]
 ·rw [Nat.min_eq_right (by omega), List.drop_length]
  by_cases h2 : us.length < ts.length
  ·rw [List.drop_eq_getElem_cons h2]; simp only [dB, E3]; rw [if_neg (by omega), if_pos (by omega)]
  ·rw [List.drop_of_length_le (by omega)]; simp only [dB, E3]; rw [if_neg (by omega), if_neg (by omega)]
mutual
theorem Pf : ∀ t u : Tm, F8 t u = 0 -> t = u
 | .mk k s l, .mk k' s' l', h => by
  simp only [F8, Tm.kind, Tm.text, Tm.kids] at h
  by_cases h1 : k = k'
  ·subst h1
   by_cases h2 : s = s'
   ·subst h2
    simp only [ne_eq, not_true_eq_false, if_false] at h
    rw [B5 l l' h]
   ·simp only [ne_eq, not_true_eq_false, if_false, h2, not_false_eq_true, if_true] at h
    exact absurd h (JI h2)
  ·simp only [ne_eq, h1, not_false_eq_true, if_true] at h
   exact absurd h (JH h1)
theorem B5 : ∀ ts us : List Tm, dB ts us = 0 -> ts = us
 | [], [], _ => rfl
 | [], _ :: _, h => by simp [dB] at h
 | _ :: _, [], h => by simp [dB] at h
 | t :: ts, u :: us, h => by
  simp only [dB] at h
  by_cases h1 : F8 t u = 0
  ·simp only [h1, ne_eq, not_true_eq_false, if_false] at h
   rw [Pf t u h1, B5 ts us h]
  ·simp only [ne_eq, h1, not_false_eq_true, if_true] at h
end
mutual
theorem Pe : ∀ t : Tm, F8 t t = 0
 | .mk k s l => by simp [F8, Tm.kind, Tm.text, Tm.kids, wY l]
theorem wY : ∀ ts : List Tm, dB ts ts = 0
 | [] => by simp [dB]
 | t :: ts => by simp [dB, Pe t, wY ts]
end
theorem Pg (ts us : List Tm) : dB ts us = 0 ↔ ts = us := ⟨B5 ts us, fun h => h ▸ wY ts⟩
end Ab
namespace Ab.C
open Go Ab Go.RowKit
set_option maxRecDepth 10000
section
variable {E : ak} (hE : E.fns = af.fn ag)
include hE
theorem CU (a : Int) : bG 1 E (.fn kP [] []) [.int .i64 a] (.bool false) :=
 bG.byW (DP hE) rfl rfl (K := 0) fun k hk bl tk => by simp [rj, vR]
theorem ye (a : List UInt8) : bG 1 E (.fn ix [] []) [.str a] (.bool false) :=
 bG.byW (A9 hE) rfl rfl (K := 0) fun k hk bl tk => by simp [nU, sW]
theorem Ni (a b : Int) : bG 2 E (.fn f9 [] []) [.int .i64 a, .int .i64 b] (.int .i64 (E3 a b)) :=
 bG.byW (uu hE) rfl rfl (K := 1) fun k hk bl tk => by
  have h1 := CU hE a k hk
  have h2 := CU hE b k hk
  unfold E3
  by_cases c1 : a < b
  ·simp [fY, lE, h1, h2, c1]
  ·by_cases c2 : a > b
   ·simp [fY, lE, h1, h2, c1, c2]
   ·simp [fY, lE, h1, h2, c1, c2]
theorem HZ (a b : List UInt8) : bG 2 E (.fn fW [] []) [.str a, .str b] (.int .i64 (F7 a b)) :=
 bG.byW (rh hE) rfl rfl (K := 1) fun k hk bl tk => by
  have h1 := ye hE a k hk
  have h2 := ye hE b k hk
  unfold F7
  by_cases c1 : Go.Op.bytesLess a b = true
  ·simp [ea, jr, h1, h2, c1]
  ·have c1' : Go.Op.bytesLess a b = false := by simpa using c1
   by_cases c2 : a = b
   ·subst c2
    simp [ea, jr, h1, c1']
   ·have c2' : (a == b) = false := by simpa using c2
    simp [ea, jr, h1, h2, c1', c2, c2']
theorem Se (a b : List UInt8) : bG 1 E (.fn gG [] []) [.str a, .str b] (.int .i64 (F7 a b)) :=
 bG.byW (rY hE) rfl rfl (K := 0) fun k hk bl tk => by
  unfold F7
  by_cases c1 : Go.Op.bytesLess a b = true
  ·simp [eA, jU, c1]
  ·have c1' : Go.Op.bytesLess a b = false := by simpa using c1
   by_cases c2 : a = b
   ·subst c2
    simp [eA, jU, c1']
   ·have c2' : (a == b) = false := by simpa using c2
    simp [eA, jU, c1', c2, c2']
theorem sy : ∀ (n : Nat) {ts us : List Tm} {v w : AV}, aV ts < n -> Sl ts v -> Sl us w -> bG (2 * aV ts + 12) E (.fn gJ [] []) [v, w] (.int .i64 (dB ts us))
 | 0, _, _, _, _, h, _, _ => by omega
 | n + 1, ts, us, v, w, hn, hv, hw => by
  obtain ⟨o1, xs, rfl, ⟨hm1, _⟩, h1⟩ := hv
  obtain ⟨o2, ys, rfl, ⟨hm2, _⟩, h2⟩ := hw
  have hl1 := h1.length
  have hl2 := h2.length
  have hmx : maxLen = 9223372036854775807 := rfl
  have hlt := aC ts
  have hK := I3 (K := 2 * aV ts + 10) (E := E) (f := .fn gJ [] []) (c := fun t u => dB t.kids u.kids) h1 h2 fun t u v w ht hu hv hw => (sy n (by have := f8 ht; rw [g7] at this; omega) hv hw).mono (by have := f8 ht; rw [g7] at this; omega)
  have ci := Ni hE
  have cs := HZ hE
  have c1 := BX hE [] []
  have c2 := yq hE [] []
  have c3 := FX hE [] []
  have hmin : (if ys.length < xs.length then (ys.length : Int) else (xs.length : Int)) = ((min ts.length us.length : Nat) : Int) := by split <;> omega
  refine bG.byW (zY hE) rfl rfl (K := 2 * aV ts + 11) fun k hk bl tk => ?_
  simp [pL, zg, wv, RM]
  rw [hmin]
  refine aA (min ts.length us.length) (fun i e s => dB ts us = dB (ts.drop i) (us.drop i) /\ e = [(0, .sl o1 3 xs), (1, .sl o2 3 ys), (11, .int .i64 ((min ts.length us.length : Nat) : Int)), (12, .int .i64 i)] /\ s = { bl := bl, tk, ro := bl.length, rt := tk.length }) (by omega) (by simp) ?_ ?_
  ·rintro i e s hi ⟨hq, rfl, rfl⟩
   obtain ⟨t, ht⟩ : ∃ t, ts[i]? = some t := ⟨_, List.getElem?_eq_getElem (by omega)⟩
   obtain ⟨u, hu⟩ : ∃ u, us[i]? = some u := ⟨_, List.getElem?_eq_getElem (by omega)⟩
   obtain ⟨vx, vy, hx, hy, hc⟩ := hK k (by omega) i t u ht hu
   obtain ⟨hi1, hx1⟩ := List.getElem?_eq_some_iff.1 hx
   obtain ⟨hi2, hy1⟩ := List.getElem?_eq_some_iff.1 hy
   have e1 : et (.int .i64 i) xs.length = some i := av hi1
   have e2 : et (.int .i64 i) ys.length = some i := av hi2
   have hwr : IntKind.wrap .i64 ((i : Int) + 1) = i + 1 := ar (by omega) (by omega)
   have hst := F9 ht hu
   have hlt : (i : Int) < ((min ts.length us.length : Nat) : Int) := by omega
   obtain ⟨mn, hmn⟩ : ∃ mn : Int, mn = ((min ts.length us.length : Nat) : Int) := ⟨_, rfl⟩
   rw [<- hmn] at hlt ⊢
   have ci' := fun a b => ci a b k (by omega)
   have cs' := fun a b => cs a b k (by omega)
   rw [Oh] at hst
   by_cases k1 : t.kind = u.kind
   ·by_cases k2 : t.text = u.text
    ·simp only [k1, k2, ne_eq, not_true_eq_false, if_false] at hst
     by_cases k3 : dB t.kids u.kids = 0
     ·simp only [k3, not_true_eq_false, if_false] at hst
      rw [k3] at hc
      simp [jM, hlt, e1, e2, hi1, hi2, hx1, hy1, hx, hy, k1, k2, hc, c1, c2, c3, hwr]
      rw [hq, hst]
     ·simp only [k3, not_false_eq_true, if_true] at hst
      have k3' : (dB t.kids u.kids != 0) = true := by simpa using k3
      simp [jM, hlt, e1, e2, hi1, hi2, hx1, hy1, hx, hy, k1, k2, hc, c1, c2, c3, hwr, k3, k3']
      rw [hq, hst]
    ·have k2' : (t.text != u.text) = true := by simpa using k2
     have := JI k2
     simp only [k1, k2, ne_eq, not_true_eq_false, if_false, not_false_eq_true, if_true, this] at hst
     have k2'' : (t.text == u.text) = false := by simpa using k2
     simp [jM, hlt, e1, e2, hi1, hi2, hx1, hy1, hx, hy, k1, k2, k2', k2'', cs', c1, c2, c3, hwr]
     rw [hq, hst]
   ·have k1' : (t.kind != u.kind) = true := by simpa using k1
    have := JH k1
    simp only [k1, ne_eq, not_false_eq_true, if_true, this] at hst
    simp [jM, hlt, e1, e2, hi1, hi2, hx1, hy1, hx, hy, k1, k1', ci', c1, c2, c3, hwr]
    rw [hq, hst]
  ·rintro e s ⟨hq, rfl, rfl⟩
   rw [IJ] at hq
   simp [jM, ci _ _ k (by omega), hq, hl1, hl2]
end
open Go Ab Go.RowKit
set_option maxRecDepth 10000
section
variable {E : ak} (hE : E.fns = af.fn ag)
include hE
theorem uk : ∀ (n : Nat) {ts us : List Tm} {v w : AV}, aV ts < n -> Sl ts v -> Sl us w -> bG (2 * aV ts + 12) E (.fn bR [] []) [v, w] (.int .i64 (dB ts us))
 | 0, _, _, _, _, h, _, _ => by omega
 | n + 1, ts, us, v, w, hn, hv, hw => by
  obtain ⟨o1, xs, rfl, ⟨hm1, _⟩, h1⟩ := hv
  obtain ⟨o2, ys, rfl, ⟨hm2, _⟩, h2⟩ := hw
  have hl1 := h1.length
  have hl2 := h2.length
  have hmx : maxLen = 9223372036854775807 := rfl
  have hlt := aC ts
  have hK := I3 (K := 2 * aV ts + 10) (E := E) (f := .fn bR [] []) (c := fun t u => dB t.kids u.kids) h1 h2 fun t u v w ht hu hv hw => (uk n (by have := f8 ht; rw [g7] at this; omega) hv hw).mono (by have := f8 ht; rw [g7] at this; omega)
  have cs := Se hE
  have c2 := zp hE [] []
  have c3 := vW hE [] []
  refine bG.byW (pk hE) rfl rfl (K := 2 * aV ts + 11) fun k hk bl tk => ?_
  simp [gO, pg]
  refine aA (min ts.length us.length) (fun i e s => dB ts us = dB (ts.drop i) (us.drop i) /\ e = [(0, .sl o1 3 xs), (1, .sl o2 3 ys), (5, .int .i64 i)] /\ s = { bl := bl, tk, ro := bl.length, rt := tk.length }) (by omega) (by simp) ?_ ?_
  ·rintro i e s hi ⟨hq, rfl, rfl⟩
   obtain ⟨t, ht⟩ : ∃ t, ts[i]? = some t := ⟨_, List.getElem?_eq_getElem (by omega)⟩
   obtain ⟨u, hu⟩ : ∃ u, us[i]? = some u := ⟨_, List.getElem?_eq_getElem (by omega)⟩
   obtain ⟨vx, vy, hx, hy, hc⟩ := hK k (by omega) i t u ht hu
   obtain ⟨hi1, hx1⟩ := List.getElem?_eq_some_iff.1 hx
   obtain ⟨hi2, hy1⟩ := List.getElem?_eq_some_iff.1 hy
   have e1 : et (.int .i64 i) xs.length = some i := av hi1
   have e2 : et (.int .i64 i) ys.length = some i := av hi2
   have hwr : IntKind.wrap .i64 ((i : Int) + 1) = i + 1 := ar (by omega) (by omega)
   have hst := F9 ht hu
   have cs' := fun a b => cs a b k (by omega)
   rw [Oh] at hst
   by_cases k1 : t.kind = u.kind
   ·by_cases k2 : t.text = u.text
    ·simp only [k1, k2, ne_eq, not_true_eq_false, if_false] at hst
     have k2c : F7 u.text u.text = 0 := by unfold F7; simp [zo]
     by_cases k3 : dB t.kids u.kids = 0
     ·simp only [k3, not_true_eq_false, if_false] at hst
      rw [k3] at hc
      simp [bh, e1, e2, hi1, hi2, hx1, hy1, hx, hy, k1, k2, k2c, hc, cs', c2, c3, hwr]
      rw [hq, hst]
     ·simp only [k3, not_false_eq_true, if_true] at hst
      have k3' : (dB t.kids u.kids != 0) = true := by simpa using k3
      simp [bh, e1, e2, hi1, hi2, hx1, hy1, hx, hy, k1, k2, k2c, hc, cs', c2, c3, hwr, k3, k3']
      rw [hq, hst]
    ·have := JI k2
     simp only [k1, k2, ne_eq, not_true_eq_false, if_false, not_false_eq_true, if_true, this] at hst
     have k2' : (F7 t.text u.text != 0) = true := by simpa using this
     simp [bh, e1, e2, hi1, hi2, hx1, hy1, hx, hy, k1, k2', this, cs', c2, c3, hwr]
     rw [hq, hst]
   ·have k1' : (t.kind != u.kind) = true := by simpa using k1
    have := JH k1
    simp only [k1, ne_eq, not_false_eq_true, if_true, this] at hst
    unfold E3 at hst
    by_cases k4 : t.kind < u.kind
    ·rw [if_pos k4] at hst
     simp [bh, e1, e2, hi1, hi2, hx1, hy1, hx, hy, k1, k1', k4, c2, c3, hwr]
     rw [hq, hst]
    ·rw [if_neg k4, if_pos (by omega)] at hst
     simp [bh, e1, e2, hi1, hi2, hx1, hy1, hx, hy, k1, k1', k4, c2, c3, hwr]
     rw [hq, hst]
  ·rintro e s ⟨hq, rfl, rfl⟩
   rw [IJ] at hq
   unfold E3 at hq
   rw [hq]
   by_cases l1 : ts.length < us.length
   ·have m1 : min xs.length ys.length = xs.length := by omega
    have l2 : xs.length < ys.length := by omega
    simp [bh, m1, <- hl1, <- hl2, l2]
   ·have m1 : min xs.length ys.length = ys.length := by omega
    by_cases l2 : us.length < ts.length
    ·have l3 : ys.length < xs.length := by omega
     have l4 : ¬ xs.length < ys.length := by omega
     simp [bh, m1, <- hl1, <- hl2, l3, l4]
    ·have l3 : ¬ ys.length < xs.length := by omega
     have l4 : ¬ xs.length < ys.length := by omega
     simp [bh, m1, <- hl1, <- hl2, l3, l4]
theorem xa {ts us : List Tm} {v w : AV} (hv : Sl ts v) (hw : Sl us w) : bG (2 * aV ts + 13) E (.fn ej [] []) [v, w] (.bool (dB ts us == 0)) := by
 have hK := uk hE _ (Nat.lt_succ_self _) hv hw
 exact bG.byW (yB hE) rfl rfl (K := 2 * aV ts + 12) fun k hk bl tk => by simp [mc, qT, hK k hk]
theorem H7 {ts us : List Tm} {v w : AV} (hv : Sl ts v) (hw : Sl us w) : bG (2 * aV ts + 13) E (.fn tq [] []) [v, w] (.bool (dB ts us == 0)) := by
 have hK := sy hE _ (Nat.lt_succ_self _) hv hw
 exact bG.byW (J0 hE) rfl rfl (K := 2 * aV ts + 12) fun k hk bl tk => by simp [wK, Cv, hK k hk]
end
end Ab.C
namespace Ab
open Go Go.RowKit Go.WideShapes
def Ei (P : Program) (t : TypeId) (x : AV) : Prop := if (fy P t).getD false then ∃ xs, x = .agg xs /\ Of P t xs else Of P t [x]
theorem Qk {H : Type} {enc : TypeId × Value -> H} {P : Program} {S : List TypeId} (hS : Fw P S = true) {L : Lk} {W : World} {t : TypeId} (ht : t ∈ S) {base : Nat} {v : Value} {d : DataW H} {p : List MemPlace}
  (hv : Value.okWide P W .any base t v) (h : DataW.Trod enc P W 0 (fun _ => true) true t v d p) : ∃ x, ay L (g0 W) W x v /\ Ei P t x /\ AV.sz x <= li d := by
 obtain ⟨fuel, hf⟩ := h
 obtain ⟨xs, h1, h2, h3, h4, h5⟩ := DW hS (L := L) fuel t _ d p ht hf
 have hc := List.all_eq_true.1 hS t ht
 cases hu : P.underlying t with
 | none => rw [hu] at hc; cases hc
 | some dd =>
  have hagg := LZ hu
  cases hda : lL dd with
  | true =>
   have hs : ∃ cs, v = .agg cs := by
    cases dd with
    | struct fs => obtain ⟨cs, rfl, _⟩ := okWide_struct hu hv; exact ⟨cs, rfl⟩
    | array n e => rw [hu] at hc; cases hc
    | _ => simp [lL] at hda
   obtain ⟨cs, rfl⟩ := hs
   refine ⟨.agg xs, ?_, ?_, ?_⟩
   ·simp only [ay]
    exact ⟨cs.toList, by simp, by simpa [Value.cells] using h1, fun u hu => h3 u (by simpa [Value.cells] using hu)⟩
   ·simp only [Ei, hagg, Option.getD_some, hda, if_true]; exact ⟨xs, rfl, h4⟩
   ·simp only [Qh, hagg, Option.getD_some, hda, if_true] at h5
    simp only [AV.sz]; omega
  | false =>
   have hone : v.cells = #[v] := by
    rw [hu] at hc
    cases dd with
    | struct fs => simp [lL] at hda
    | array n e => simp [lL] at hda
    | bool => obtain ⟨b, rfl⟩ := okWide_bool hu hv; rfl
    | int k => obtain ⟨b, rfl⟩ := okWide_int hu hv; rfl
    | string => obtain ⟨b, rfl⟩ := okWide_string hu hv; rfl
    | slice e => obtain ⟨a, b, c, rfl⟩ := okWide_slice hu hv; rfl
    | _ => cases hc
   obtain ⟨x, rfl⟩ := ND hu hda h4
   rw [hone] at h1
   simp only [aw] at h1
   obtain ⟨v', r, e, h6, _⟩ := h1
   simp at e
   obtain ⟨rfl, rfl⟩ := e
   refine ⟨x, h6, ?_, ?_⟩
   ·simp only [Ei, hagg, Option.getD_some, hda, Bool.false_eq_true, if_false]; exact h4
   ·simp only [AV.szL] at h5; omega
def Qe (P : Program) : List TypeId -> List AV -> Prop
 | [], [] => True
 | t :: ts, x :: xs => Ei P t x /\ Qe P ts xs
 | _, _ => False
theorem Iw {H : Type} {enc : TypeId × Value -> H} {P : Program} {S : List TypeId} (hS : Fw P S = true) {L : Lk} {W : World} {base : Nat} : ∀ {ts : List TypeId} {vs : List Value} {ds : List (DataW H)} {p : List MemPlace}, (ts.all fun t => S.contains t) = true ->
  (∀ (j : Nat) t v, ts[j]? = some t -> vs[j]? = some v -> Value.okWide P W .any base t v) -> DataW.TrodAll enc P W 0 (fun _ => true) true ts vs ds p ->
  ∃ xs, aw L (g0 W) W xs vs /\ Qe P ts xs /\ AV.szL xs <= rT ds
 | [], [], [], _, _, _, _ => ⟨[], by simp [aw], trivial, by simp [AV.szL, rT]⟩
 | t :: ts, v :: vs, d :: ds, p, hm, hv, h => by
  simp only [List.all_cons, Bool.and_eq_true] at hm
  obtain ⟨p1, q1, h1, h2, _⟩ := h
  obtain ⟨x, a1, a2, a3⟩ := Qk hS (L := L) (by simpa using hm.1) (hv 0 t v rfl rfl) h1
  obtain ⟨xs, b1, b2, b3⟩ := Iw hS hm.2 (fun j t' v' ht' hv' => hv (j + 1) t' v' (by simpa using ht') (by simpa using hv')) h2
  exact ⟨x :: xs, by simp only [aw]; exact ⟨_, _, rfl, a1, b1⟩, ⟨a2, b2⟩, by simp only [AV.szL, rT]; omega⟩
 | [], _ :: _, _, _, _, _, h => h.elim
 | [], [], _ :: _, _, _, _, h => h.elim
 | _ :: _, [], _, _, _, _, h => h.elim
 | _ :: _, _ :: _, [], _, _, _, h => h.elim
def Rc (P : Program) (ts : List TypeId) : Bool := ts.all fun t => P.readableRec t && decide (t < P.types.size)
theorem Ix {H : Type} {enc : TypeId × Value -> H} {P : Program} (hl : laidOutB P = true) {W W' : World} (hb : Below W.heap.size W W') : ∀ {ts : List TypeId} {vs : List Value} {ds : List (DataW H)} {p : List MemPlace}, Rc P ts = true ->
  DataW.TrodAll enc P W 0 (fun _ => true) true ts vs ds p -> DataW.TrodAll enc P W' 0 (fun b => decide (b < W.heap.size)) true ts vs ds p
 | [], [], [], _, _, h => h
 | t :: ts, v :: vs, d :: ds, p, hr, h => by
  simp only [Rc, List.all_cons, Bool.and_eq_true, decide_eq_true_eq] at hr
  obtain ⟨p1, q1, h1, h2, rfl⟩ := h
  have hlt : ∀ x ∈ p1, x.block < W.heap.size := by obtain ⟨m, hm⟩ := h1; exact DataW.trod_lt m _ _ _ hm
  exact ⟨p1, q1, Below.trod hl hr.1.1 hr.1.2 h1 hb hlt, Ix hl hb (by simpa [Rc] using hr.2) h2, rfl⟩
 | [], _ :: _, _, _, _, h => h.elim
 | [], [], _ :: _, _, _, h => h.elim
 | _ :: _, [], _, _, _, h => h.elim
 | _ :: _, _ :: _, [], _, _, h => h.elim
open Go Go.RowKit
section
variable {P : Program} {t e : TypeId} {xs : List AV}
end
mutual
theorem Rt.sz : ∀ {t : Tm} {x : AV}, Rt t x -> nT t <= AV.sz x /\ ∀ u ∈ Ig t, u.text.length <= AV.sz x
 | .mk k s kids, x, h => by
  simp only [Rt] at h
  obtain ⟨o, ys, rfl, _, h2⟩ := h
  obtain ⟨g1, g2⟩ := gT.sz h2
  simp only [AV.sz, AV.szL, nT, Ig]
  refine ⟨by omega, fun u hu => ?_⟩
  rcases List.mem_cons.1 hu with rfl | hu
  ·simp only [Tm.text]; omega
  ·have := g2 u hu; omega
theorem gT.sz : ∀ {ts : List Tm} {ys : List AV}, gT ts ys -> aV ts <= AV.szL ys /\ ∀ u ∈ bI ts, u.text.length <= AV.szL ys
 | [], ys, h => by simp only [gT] at h; subst h; simp [aV, bI, AV.szL]
 | t :: ts, ys, h => by
  simp only [gT] at h
  obtain ⟨y, r, rfl, h1, h2⟩ := h
  obtain ⟨g1, g2⟩ := Rt.sz h1
  obtain ⟨k1, k2⟩ := gT.sz h2
  simp only [AV.szL, aV, bI]
  refine ⟨by omega, fun u hu => ?_⟩
  rcases List.mem_append.1 hu with hu | hu
  ·have := g2 u hu; omega
  ·have := k2 u hu; omega
end
theorem Sl.sz {ts : List Tm} {v : AV} (h : Sl ts v) : aV ts < AV.sz v /\ ∀ u ∈ bI ts, u.text.length <= AV.sz v := by
 obtain ⟨o, ys, rfl, _, h3⟩ := h
 obtain ⟨g1, g2⟩ := h3.sz
 simp only [AV.sz]
 exact ⟨by omega, fun u hu => by have := g2 u hu; omega⟩
open Go
def cL {α : Type} (R : α -> AV -> Prop) : List α -> List AV -> Prop
 | [], ys => ys = []
 | a :: al, ys => ∃ y r, ys = y :: r /\ R a y /\ cL R al r
section
variable {α : Type} {R : α -> AV -> Prop}
theorem cL.length : ∀ {al : List α} {ys : List AV}, cL R al ys -> ys.length = al.length
 | [], _, h => by simp only [cL] at h; simp [h]
 | a :: al, _, h => by
  simp only [cL] at h
  obtain ⟨y, r, rfl, _, h2⟩ := h
  simp [h2.length]
theorem cL.get : ∀ {al : List α} {ys : List AV} {i : Nat} {a : α}, cL R al ys -> al[i]? = some a -> ∃ y, ys[i]? = some y /\ R a y
 | [], _, _, _, _, h => by simp at h
 | b :: al, _, i, a, h, hi => by
  simp only [cL] at h
  obtain ⟨y, r, rfl, h1, h2⟩ := h
  cases i with
  | zero => simp at hi; subst hi; exact ⟨y, rfl, h1⟩
  | succ i => simp at hi; simpa using h2.get hi
theorem cL.mem : ∀ {al : List α} {ys : List AV} {y : AV}, cL R al ys -> y ∈ ys -> ∃ a, a ∈ al /\ R a y
 | [], _, _, h, hy => by simp only [cL] at h; subst h; cases hy
 | b :: al, _, y, h, hy => by
  simp only [cL] at h
  obtain ⟨z, r, rfl, h1, h2⟩ := h
  rcases List.mem_cons.1 hy with rfl | hy
  ·exact ⟨b, List.mem_cons_self .., h1⟩
  ·obtain ⟨a, ha, hr⟩ := h2.mem hy; exact ⟨a, List.mem_cons_of_mem _ ha, hr⟩
end
def DK (P : Program) (t : TypeId) (l : List TypeId) : Bool := match P.underlying t with
 | some (.struct fs) => fs.toList.map (·.type) == l
 | _ => false
theorem Ss {P : Program} {t : TypeId} {l : List TypeId} (h : DK P t l = true) : ∃ fs, P.underlying t = some (.struct fs) /\ fs.toList.map (·.type) = l := by
 unfold DK at h
 split at h
 ·rename_i fs hfs
  exact ⟨fs, hfs, by simpa using h⟩
 ·cases h
end Ab
namespace Ab.C
open Go Ab Go.RowKit
set_option maxRecDepth 10000
structure Ed where
 fr : Int
 to : Int
 kind : Int
 sym : Tm
 exc : List Tm
 inner : Int
structure Au where
 n : Int
 start : Int
 fin : List Int
 eds : List Ed
def jq (e : Ed) (x : AV) : Prop := ∃ kv ev, x = .agg [.int .i64 e.fr, .int .i64 e.to, .int .i64 e.kind, .int .i64 e.sym.kind, .str e.sym.text, kv, ev, .int .i64 e.inner] /\ Sl e.sym.kids kv /\ Sl e.exc ev
def ao (l : List Int) : List AV := l.map (.int .i64)
def tU (a : Au) (x : AV) : Prop := ∃ of oe ys, x = .agg [.int .i64 a.n, .int .i64 a.start, .sl of 1 (ao a.fin), .sl oe 8 ys] /\ cL jq a.eds ys /\ (of = .nil -> a.fin = []) /\ (oe = .nil -> ys = [])
def Bt (ts : List Tm) : Prop := aV ts <= 1048576 /\ ∀ t ∈ bI ts, t.text.length <= 1048576
theorem Bt.sub {ts us : List Tm} (h : Bt ts) (hs : ∃ a b, ts = a ++ us ++ b) : Bt us := by
 obtain ⟨a, b, rfl⟩ := hs
 obtain ⟨h1, h2⟩ := h
 rw [kp, kp] at h1
 exact ⟨by omega, fun t ht => h2 t (by rw [iW, iW]; simp [ht])⟩
theorem Bt.mem {ts : List Tm} {t : Tm} (h : Bt ts) (ht : t ∈ ts) : Bt [t] := by
 obtain ⟨a, b, rfl⟩ := List.append_of_mem ht
 exact h.sub ⟨a, b, by simp⟩
theorem Bt.kids {t : Tm} (h : Bt [t]) : Bt t.kids := by
 obtain ⟨h1, h2⟩ := h
 refine ⟨by simp only [aV, g7] at h1; omega, fun u hu => h2 u ?_⟩
 rw [el]; simp [hu]
theorem Bt.text {t : Tm} (h : Bt [t]) : t.text.length <= 1048576 := h.2 t (by rw [el]; simp)
def Be (e : Ed) : Prop := Bt [e.sym] /\ Bt e.exc
theorem I7 : 1048576 <= maxLen := by rw [show maxLen = 9223372036854775807 from rfl]; omega
theorem Sl.one {t : Tm} {x : AV} (h : Rt t x) : Sl [t] (.sl .full 3 [x]) := ⟨_, _, rfl, ⟨by rw [show maxLen = 9223372036854775807 from rfl]; simp, fun h => by cases h⟩, by simp only [gT]; exact ⟨_, _, rfl, h, rfl⟩⟩
def EB (t : Tm) : Bool := decide (1 <= t.kind) && decide (t.kind <= 3)
def tc (t : Tm) : Bool := EB t && dm 4 [t] == 0
def EW (t : Tm) : Bool := t.kind == 0 && t.text == [] && t.kids.length == 0
def OP (k : Int) : Int := if k = 2 then 1 else if k = 3 then 2 else 3
def oX (k : Int) : Bool := decide (2 <= k) && decide (k <= 4)
def ql (n k : Int) : Bool := decide (0 <= k) && decide (k < n)
section
variable {E : ak} (hE : E.fns = af.fn ag)
include hE
theorem Lr {t : Tm} {x : AV} (h : Rt t x) : bG 1 E (.fn oI [] []) [x] (.bool (EB t)) := by
 obtain ⟨v, rfl, hv⟩ := h.open
 obtain ⟨o, ks, rfl, hlk⟩ := hv.len
 refine bG.byW (E9 hE) rfl rfl (K := 0) fun k hk bl tk => ?_
 unfold EB
 by_cases a1 : 1 <= t.kind <;> by_cases a2 : t.kind <= 3 <;> simp [sm, x6, aa, ac, a1, a2]
theorem E7 {t : Tm} {x : AV} (h : Rt t x) : bG 1 E (.fn gq [] []) [x] (.bool (EB t)) := by
 obtain ⟨v, rfl, hv⟩ := h.open
 obtain ⟨o, ks, rfl, hlk⟩ := hv.len
 refine bG.byW (vF hE) rfl rfl (K := 0) fun k hk bl tk => ?_
 unfold EB
 by_cases a1 : 1 <= t.kind <;> by_cases a2 : t.kind <= 3 <;> simp [kl, od, aa, ac, a1, a2]
theorem IR {t : Tm} {x : AV} (h : Rt t x) (hb : Bt [t]) : bG 6000000 E (.fn iX [] []) [x] (.bool (tc t)) := by
 have h1 := Lr hE h
 have hu := h.untok
 have h2 := Ls hE (Sl.one hu) (M := 1048576) (by have := hb.1; rw [show aO = 1073741824 from rfl]; omega) I7 hb.2
 have hn := hb.1
 obtain ⟨v, rfl, hv⟩ := h.open
 obtain ⟨o, ks, rfl, hlk⟩ := hv.len
 obtain ⟨o', _, e'⟩ := sc o 3 ks
 simp only [AV.untok, AV.untokL, e'] at h2
 refine bG.byW (wl hE) rfl rfl (K := 5999999) fun k hk bl tk => ?_
 have h1 := h1 k (by omega)
 have h2 := h2 k (by omega)
 unfold tc
 cases c : EB t with
 | false => rw [c] at h1; simp [kK, rq, aa, ac, h1]
 | true => rw [c] at h1; simp [kK, rq, aa, ac, h1, aq, bE, az, e', h2]
theorem BF {t : Tm} {x : AV} (h : Rt t x) (hb : Bt [t]) : bG 6000000 E (.fn dO [] []) [x] (.bool (tc t)) := by
 have h1 := E7 hE h
 have hu := h.untok
 have h2 := CX hE (Sl.one hu) (M := 1048576) (by have := hb.1; rw [show aO = 1073741824 from rfl]; omega) I7 hb.2
 have hn := hb.1
 obtain ⟨v, rfl, hv⟩ := h.open
 obtain ⟨o, ks, rfl, hlk⟩ := hv.len
 obtain ⟨o', _, e'⟩ := sc o 3 ks
 simp only [AV.untok, AV.untokL, e'] at h2
 refine bG.byW (qd hE) rfl rfl (K := 5999999) fun k hk bl tk => ?_
 have h1 := h1 k (by omega)
 have h2 := h2 k (by omega)
 unfold tc
 cases c : EB t with
 | false => rw [c] at h1; simp [eU, lC, aa, ac, h1]
 | true => rw [c] at h1; simp [eU, lC, aa, ac, h1, aq, bE, az, e', h2]
theorem Gn {t u : Tm} {x y : AV} (h : Rt t x) (h' : Rt u y) (hb : Bt [t]) : bG 3000000 E (.fn dA [] []) [x, y] (.int .i64 (dB [t] [u])) := by
 have h2 := sy hE _ (Nat.lt_succ_self _) (Sl.one h.untok) (Sl.one h'.untok)
 have hn := hb.1
 obtain ⟨v, rfl, hv⟩ := h.open
 obtain ⟨o, ks, rfl, hlk⟩ := hv.len
 obtain ⟨o', _, e'⟩ := sc o 3 ks
 obtain ⟨w, rfl, hw⟩ := h'.open
 obtain ⟨p, ls, rfl, hll⟩ := hw.len
 obtain ⟨p', _, f'⟩ := sc p 3 ls
 simp only [AV.untok, AV.untokL, e', f'] at h2
 refine bG.byW (vj hE) rfl rfl (K := 2999999) fun k hk bl tk => ?_
 have h2 := h2 k (by omega)
 have g1 : ∀ (c d : AB), (bl ++ [c, d])[bl.length + 1]? = some d := fun c d => by rw [aa]; rfl
 simp [mB, vd, aa, ac, g1, aq, bE, az, e', f', h2]
theorem zE {t u : Tm} {x y : AV} (h : Rt t x) (h' : Rt u y) (hb : Bt [t]) : bG 3000000 E (.fn cK [] []) [x, y] (.int .i64 (dB [t] [u])) := by
 have h2 := uk hE _ (Nat.lt_succ_self _) (Sl.one h.untok) (Sl.one h'.untok)
 have hn := hb.1
 obtain ⟨v, rfl, hv⟩ := h.open
 obtain ⟨o, ks, rfl, hlk⟩ := hv.len
 obtain ⟨o', _, e'⟩ := sc o 3 ks
 obtain ⟨w, rfl, hw⟩ := h'.open
 obtain ⟨p, ls, rfl, hll⟩ := hw.len
 obtain ⟨p', _, f'⟩ := sc p 3 ls
 simp only [AV.untok, AV.untokL, e', f'] at h2
 refine bG.byW (pm hE) rfl rfl (K := 2999999) fun k hk bl tk => ?_
 have h2 := h2 k (by omega)
 have g1 : ∀ (c d : AB), (bl ++ [c, d])[bl.length + 1]? = some d := fun c d => by rw [aa]; rfl
 simp [gQ, pi, aa, ac, g1, aq, bE, az, e', f', h2]
theorem Sn {t : Tm} {x : AV} (h : Rt t x) : bG 1 E (.fn j8 [] []) [x] (.bool (EW t)) := by
 obtain ⟨v, rfl, hv⟩ := h.open
 obtain ⟨o, ks, rfl, hlk⟩ := hv.len
 refine bG.byW (zU hE) rfl rfl (K := 0) fun k hk bl tk => ?_
 unfold EW
 cases a1 : (t.kind == 0) with
 | false => simp [gy, jW, aa, ac, a1]
 | true =>
  cases a2 : (t.text == []) with
  | false => simp [gy, jW, aa, ac, a1, a2]
  | true =>
   have : ((ks.length : Int) == 0) = (t.kids.length == 0) := by rw [Bool.eq_iff_iff]; simp; rw [<- List.length_eq_zero_iff, <- List.length_eq_zero_iff, hlk]
   simp [gy, jW, aa, ac, a1, a2, this]
theorem Pw (kd : Int) : bG 1 E (.fn fi [] []) [.int .i64 kd] (.int .i64 (OP kd)) :=
 bG.byW (qb hE) rfl rfl (K := 0) fun k hk bl tk => by
  unfold OP
  by_cases a : kd = 2
  ·subst a; simp [dJ, iC]
  ·have b : (kd == 2) = false := by simpa using a
   by_cases a3 : kd = 3
   ·subst a3; simp [dJ, iC]
   ·have b3 : (kd == 3) = false := by simpa using a3
    simp [dJ, iC, a, a3, b, b3]
theorem QQ : bG 1 E (.fn jN [] []) [] (.agg [.int .i64 0, .int .i64 0, .int .i64 1, .int .i64 2, .int .i64 3]) :=
 bG.byW (yf hE) rfl rfl (K := 0) fun k hk bl tk => by
  simp [oB, x5, aa, ac, aj, aB]
theorem QT {e : Ed} {x : AV} (h : jq e x) : bG 1 E (.fn fe [] []) [x] (.bool (oX e.kind)) := by
 obtain ⟨kv, ev, rfl, _⟩ := h
 refine bG.byW (xd hE) rfl rfl (K := 0) fun k hk bl tk => ?_
 unfold oX
 by_cases a1 : 2 <= e.kind <;> by_cases a2 : e.kind <= 4 <;> simp [lq, pR, aa, ac, a1, a2]
theorem ui {a : Au} {x : AV} (h : tU a x) (m : Int) : bG 1 E (.fn aM [] []) [x, .int .i64 m] (.bool (ql a.n m)) := by
 obtain ⟨of, oe, ys, rfl, _⟩ := h
 refine bG.byW (rW hE) rfl rfl (K := 0) fun k hk bl tk => ?_
 unfold ql
 by_cases a1 : 0 <= m <;> by_cases a2 : m < a.n <;> simp [gv, lf, aa, ac, a1, a2]
theorem zF {a : Au} {x : AV} (h : tU a x) (m : Int) : bG 1 E (.fn bP [] []) [x, .int .i64 m] (.bool (ql a.n m)) := by
 obtain ⟨of, oe, ys, rfl, _⟩ := h
 refine bG.byW (rg hE) rfl rfl (K := 0) fun k hk bl tk => ?_
 unfold ql
 by_cases a1 : 0 <= m <;> by_cases a2 : m < a.n <;> simp [jp, ra, aa, ac, a1, a2]
end
end Ab.C
