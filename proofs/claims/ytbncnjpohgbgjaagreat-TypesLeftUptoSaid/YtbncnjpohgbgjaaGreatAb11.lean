/- Parts of the proof, made small by program. No condition but what is told. -/
import Derived.Test.YtbncnjpohgbgjaaGreatAb10
import Derived.Test.YtbncnjpohgbgjaaGreatAb09
import Derived.Test.YtbncnjpohgbgjaaGreatAb08
set_option linter.all false
set_option maxHeartbeats 8000000
namespace Ab.C
open Go Ab Go.RowKit
set_option maxRecDepth 10000
def E4 (kd : Int) : Option Tm -> List Tm -> Bool
 | _, [] => true
 | p, t :: r => tc t && t.kind == kd && (match p with | none => true | some q => decide (dB [q] [t] < 0)) && E4 kd (some t) r
def jL (n : Int) (e : Ed) : Bool := ql n e.fr && ql n e.to && decide (1 <= e.kind) && decide (e.kind <= 5) && (if e.kind = 1 then tc e.sym else EW e.sym) && (oX e.kind || e.exc.length == 0) && E4 (e.kind - 1) none e.exc && (if e.kind = 5 then ql n e.inner else e.inner == 0)
def ll (l : List Tm) (i : Nat) : Option Tm := if i = 0 then none else l[i - 1]?
theorem IL {kd : Int} {l : List Tm} {i : Nat} {t : Tm} (h : l[i]? = some t) : E4 kd (ll l i) (l.drop i) = (tc t && t.kind == kd && (match ll l i with | none => true | some q => decide (dB [q] [t] < 0)) && E4 kd (ll l (i + 1)) (l.drop (i + 1))) := by
 obtain ⟨hi, h1⟩ := List.getElem?_eq_some_iff.1 h
 rw [List.drop_eq_getElem_cons hi, h1]
 have e : ll l (i + 1) = some t := by simp [ll, h]
 rw [e]
 cases ll l i <;> simp only [E4]
theorem Rt.of {t : Tm} {v : AV} (h : Sl t.kids v) : Rt t (.agg [.int .i64 t.kind, .str t.text, v]) := by cases t; exact Rt.mk h
section
variable {E : ak} (hE : E.fns = af.fn ag)
include hE
theorem Pv {a : Au} {e : Ed} {x y : AV} (ha : tU a x) (he : jq e y) (hb : Be e) : bG 9000000 E (.fn eO [] []) [x, y] (.bool (jL a.n e)) := by
 have g1 := ui hE ha e.fr
 have g2 := ui hE ha e.to
 have g3 := ui hE ha e.inner
 have g4 := QT hE he
 have hkd := QQ hE
 have ck := E2 hE [] []
 have cs := DD hE [] []
 have cc := CH hE [] []
 obtain ⟨of, oe, ys, rfl, _⟩ := ha
 obtain ⟨kv, ev, rfl, hkv, hev⟩ := he
 have g5 := IR hE (Rt.of hkv) hb.1
 obtain ⟨okv, kvs, rfl, hlk⟩ := hkv.len
 have hev0 := hev
 obtain ⟨oev, xs, rfl, ⟨hm1, _⟩, h1⟩ := hev
 have hl1 := h1.length
 have hlx : e.exc.length <= 1048576 := by have := hb.2.1; have := aC e.exc; omega
 refine bG.byW (tj hE) rfl rfl (K := 8999999) fun k hk bl tk => ?_
 have g1 := g1 k (by omega)
 have g2 := g2 k (by omega)
 have g3 := g3 k (by omega)
 have g4 := g4 k (by omega)
 have g5 := g5 k (by omega)
 have hkd := hkd k (by omega)
 have q1 : ∀ (c d : AB) (r : List AB), (bl ++ c :: d :: r)[bl.length + 1]? = some d := fun c d r => by rw [aa]; rfl
 have q0 : ∀ (c d : AB) (r : List AB), (bl ++ c :: d :: r)[bl.length]? = some c := fun c d r => by rw [ac]; rfl
 obtain ⟨R, hR⟩ : ∃ R, R = jL a.n e := ⟨_, rfl⟩
 rw [<- hR]
 unfold jL at hR
 by_cases b1 : ql a.n e.fr = true
 case neg =>
  have b1 : ql a.n e.fr = false := by simpa using b1
  rw [b1] at g1 hR; simp only [Bool.false_and] at hR; subst hR; simp [aD, aG, q1, q0, g1]
 rw [b1] at g1 hR
 by_cases b2 : ql a.n e.to = true
 case neg =>
  have b2 : ql a.n e.to = false := by simpa using b2
  rw [b2] at g2 hR; simp only [Bool.true_and, Bool.false_and] at hR; subst hR; simp [aD, aG, q1, q0, g1, g2]
 rw [b2] at g2 hR
 by_cases b3 : 1 <= e.kind
 case neg =>
  have b3' : e.kind < 1 := by omega
  simp only [b3, decide_false, Bool.and_false, Bool.false_and] at hR; subst hR
  simp [aD, aG, q1, q0, g1, g2, b3, b3']
 have b3' : ¬ e.kind < 1 := by omega
 by_cases b4 : e.kind <= 5
 case neg =>
  have b4' : 5 < e.kind := by omega
  simp only [b4, decide_false, Bool.and_false, Bool.false_and] at hR; subst hR
  simp [aD, aG, q1, q0, g1, g2, b3, b3', b4, b4']
 have b4' : ¬ 5 < e.kind := by omega
 simp only [b3, b4, decide_true, Bool.true_and] at hR
 have key : ∀ Q : Bool, Q = ((oX e.kind || e.exc.length == 0) && E4 (e.kind - 1) none e.exc && (if e.kind = 5 then ql a.n e.inner else e.inner == 0)) -> ∀ (c : Nat), c = 36 \/ c = 37 -> ∀ e29 ec : AV, wp E (au E k) k false (.seq (.seq
 (.region [oN 55 (.load true 8 (.t 3)),
 oN 56 (.call (.c (.fn fe [] [])) [(.t 55)]),
 oN 57 (.un .not (.t 56)),
 oN 58 (.mov (.t 57)),
 oG 59 (some (58, true)) (.faddr 6 (.t 3)),
 oG 60 (some (58, true)) (.load false 1 (.t 59)),
 oG 61 (some (58, true)) (.len .slice (.t 60)),
 oG 62 (some (58, true)) (.bin .gtr .val (.t 61) (.c (.int .i64 0))),
 oN 63 (.pick (.t 58) (.t 62) (.c (.bool false)))] [63] false)
 (.cond (.t 63)
 (.seq
 (.region [oN 4 (.mov (.c (.bool false)))] [4] false)
 .ret)
 .skip))
 (.seq
 (.seq
 (.region [oN 64 (.faddr 6 (.t 3)),
 oN 65 (.load false 1 (.t 64)),
 oN 66 (.len .slice (.t 65)),
 oN 67 (.mov (.c (.int .i64 0)))] [65, 66, 67] false)
 (.block 1
 (.loop [0, 1, 4, 5, 6, 28, 29, 36, 37, 63, 68, 98, 102] aI)))
 (.seq
 (.seq
 (.region [oN 100 (.faddr 2 (.t 3)),
 oN 101 (.load false 1 (.t 100)),
 oN 102 (.bin .eql .val (.t 101) (.c (.int .i64 5)))] [102] false)
 (.cond (.t 102)
 (.seq
 (.region [oN 103 (.load true 4 (.t 2)),
 oN 104 (.faddr 7 (.t 3)),
 oN 105 (.load false 1 (.t 104)),
 oN 106 (.call (.c (.fn aM [] [])) [(.t 103), (.t 105)]),
 oN 4 (.mov (.t 106))] [4] false)
 .ret)
 .skip))
 (.seq
 (.region [oN 107 (.faddr 7 (.t 3)),
 oN 108 (.load false 1 (.t 107)),
 oN 109 (.bin .eql .val (.t 108) (.c (.int .i64 0))),
 oN 4 (.mov (.t 109))] [4] false)
 .ret)))) (Ge [.t 4] (.bool Q)) [(0, .agg [.int .i64 a.n, .int .i64 a.start, .sl of 1 (ao a.fin), .sl oe 8 ys]), (1, .agg [.int .i64 e.fr, .int .i64 e.to, .int .i64 e.kind, .int .i64 e.sym.kind, .str e.sym.text, .sl okv 3 kvs, .sl oev 3 xs, .int .i64 e.inner]), (2, .ptr bl.length 0), (3, .ptr (bl.length + 1) 0), (4, .bool false), (28, .bool false), (29, e29), (c, ec)]
   { bl := bl ++ [.cells [.int .i64 a.n, .int .i64 a.start, .sl of 1 (ao a.fin), .sl oe 8 ys], .cells [.int .i64 e.fr, .int .i64 e.to, .int .i64 e.kind, .int .i64 e.sym.kind, .str e.sym.text, .sl okv 3 kvs, .sl oev 3 xs, .int .i64 e.inner]], tk, ro := bl.length, rt := tk.length } := by
  intro Q hQ c hc e29 ec
  by_cases hpl : oX e.kind = true
  case neg =>
   have hpl : oX e.kind = false := by simpa using hpl
   rw [hpl] at g4 hQ
   by_cases hx0 : xs = []
   ·subst hx0
    have h0 : e.exc = [] := List.eq_nil_of_length_eq_zero (by simpa using hl1.symm)
    rw [h0] at hQ
    simp only [List.length_nil, E4] at hQ
    rcases hc with rfl | rfl
    all_goals
     simp [q1, q0, g4]
     refine aA 0 (fun i e' st => i = 0 /\ e' = [(2, .ptr bl.length 0), (3, .ptr (bl.length + 1) 0), (65, .sl oev 3 []), (66, .int .i64 0), (67, .int .i64 0)] /\ st = { bl := bl ++ [.cells [.int .i64 a.n, .int .i64 a.start, .sl of 1 (ao a.fin), .sl oe 8 ys], .cells [.int .i64 e.fr, .int .i64 e.to, .int .i64 e.kind, .int .i64 e.sym.kind, .str e.sym.text, .sl okv 3 kvs, .sl oev 3 [], .int .i64 e.inner]], tk, ro := bl.length, rt := tk.length }) (by omega) (by simp) (fun i e' st hi _ => by omega) ?_
     rintro e' st ⟨_, rfl, rfl⟩
     by_cases b5 : e.kind = 5
     ·have b5' : (e.kind == 5) = true := by simpa using b5
      rw [if_pos b5] at hQ
      simp [aI, q1, q0, b5', g3, hQ]
     ·have b5' : (e.kind == 5) = false := by simpa using b5
      rw [if_neg b5] at hQ
      simp [aI, q1, q0, b5', hQ]
   ·have h0 : (e.exc.length == 0) = false := by simp; intro h; apply hx0; rw [h] at hl1; simpa using hl1
    have h0'' : (0 : Int) < xs.length := by cases xs with | nil => exact absurd rfl hx0 | cons _ _ => simp
    rw [h0] at hQ
    simp only [Bool.or_self, Bool.false_and] at hQ
    subst hQ
    rcases hc with rfl | rfl
    all_goals
     simp [q1, q0, g4, h0'', hx0]
  rw [hpl] at g4 hQ
  simp only [Bool.true_or, Bool.true_and] at hQ
  have hk24 : e.kind = 2 \/ e.kind = 3 \/ e.kind = 4 := by simp [oX] at hpl; omega
  have hb5 : e.kind ≠ 5 := by omega
  have b5' : (e.kind == 5) = false := by simpa using hb5
  rw [if_neg hb5] at hQ
  obtain ⟨kd, hkd'⟩ : ∃ kd, kd = e.kind := ⟨_, rfl⟩
  have hix : et (.int .i64 e.kind) 5 = some e.kind.toNat := by simp [et]; omega
  have hgt : ([AV.int .i64 0, .int .i64 0, .int .i64 1, .int .i64 2, .int .i64 3] : List AV)[e.kind.toNat]? = some (.int .i64 (e.kind - 1)) := by
   rcases hk24 with h | h | h <;> rw [h] <;> rfl
  rcases hc with rfl | rfl
  all_goals
   simp [q1, q0, g4]
   refine aA xs.length (fun i e' st => ∃ g, Q = (E4 (e.kind - 1) (ll e.exc i) (e.exc.drop i) && e.inner == 0) /\ e' = [(2, .ptr bl.length 0), (3, .ptr (bl.length + 1) 0), (65, .sl oev 3 xs), (66, .int .i64 xs.length), (67, .int .i64 i)] /\ st = { bl := bl ++ .cells [.int .i64 a.n, .int .i64 a.start, .sl of 1 (ao a.fin), .sl oe 8 ys] :: .cells [.int .i64 e.fr, .int .i64 e.to, .int .i64 e.kind, .int .i64 e.sym.kind, .str e.sym.text, .sl okv 3 kvs, .sl oev 3 xs, .int .i64 e.inner] :: g, tk, ro := bl.length, rt := tk.length }) (by omega) ⟨[], by simpa [ll] using hQ, rfl, rfl⟩ ?_ ?_
   ·rintro i e' st hi ⟨g, hq, rfl, rfl⟩
    obtain ⟨t, ht⟩ : ∃ t, e.exc[i]? = some t := ⟨_, List.getElem?_eq_getElem (by omega)⟩
    obtain ⟨x, hx, hrt⟩ := h1.get ht
    have hbt := hb.2.mem (List.mem_of_getElem? ht)
    have gs := IR hE hrt hbt k (by omega)
    rw [IL ht] at hq
    have hcmp : ∀ q, i ≠ 0 -> ll e.exc i = some q -> ∃ y, xs[i - 1]? = some y /\ ∀ s, au E k none (.fn dA [] []) [y, x] s = some (.ret (.int .i64 (dB [q] [t])), false, s) := by
     intro q hi0 hp
     simp only [ll, if_neg hi0] at hp
     obtain ⟨y, hy, hry⟩ := h1.get hp
     exact ⟨y, hy, Gn hE hry hrt (hb.2.mem (List.mem_of_getElem? hp)) k (by omega)⟩
    have hpv : i ≠ 0 -> ∃ q, ll e.exc i = some q := fun hi0 => ⟨e.exc[i - 1], by simp only [ll, if_neg hi0]; exact List.getElem?_eq_getElem (by omega)⟩
    obtain ⟨vx, rfl, hvx⟩ := hrt.open
    obtain ⟨ow, kw, rfl⟩ : ∃ o xs, vx = .sl o 3 xs := by obtain ⟨o, xs, h, _⟩ := hvx; exact ⟨o, xs, h⟩
    obtain ⟨hi1, hx1⟩ := List.getElem?_eq_some_iff.1 hx
    have e1 : et (.int .i64 i) xs.length = some i := av hi1
    have hwr : IntKind.wrap .i64 ((i : Int) + 1) = i + 1 := ar (by omega) (by omega)
    have q2 : ∀ (c d f : AB), (bl ++ c :: d :: (g ++ [f]))[bl.length + (g.length + 1 + 1)]? = some f := fun c d f => by rw [aa]; simp
    have q3 : ∀ (c d f f' : AB), (bl ++ c :: d :: (g ++ [f])).set (bl.length + (g.length + 1 + 1)) f' = bl ++ c :: d :: (g ++ [f']) := fun c d f f' => by rw [aj]; simp
    have hro : bl.length <= bl.length + (g.length + 1 + 1) := by omega
    cases s1 : tc t with
    | false =>
     rw [s1] at gs hq
     simp only [Bool.false_and] at hq
     simp [aI, hi, e1, hx1, hwr, q0, q1, q2, q3, hro, gs, ck, cs, cc, hq]
    | true =>
     rw [s1] at gs hq
     by_cases s2 : t.kind = e.kind - 1
     case neg =>
      have s2' : (t.kind != e.kind - 1) = true := by simpa using s2
      have s2'' : (t.kind == e.kind - 1) = false := by simpa using s2
      rw [s2''] at hq
      simp only [Bool.and_false, Bool.false_and] at hq
      simp [aI, hi, e1, hx1, hwr, q0, q1, q2, q3, hro, gs, ck, cs, cc, hkd, hix, hgt, s2', hq]
     have s2' : (t.kind != e.kind - 1) = false := by simpa using s2
     have s2'' : (t.kind == e.kind - 1) = true := by simpa using s2
     rw [s2''] at hq
     simp only [Bool.true_and] at hq
     by_cases hi0 : i = 0
     ·simp only [ll, hi0, if_true, Bool.true_and] at hq
      have hip : ¬ (0 : Int) < i := by omega
      have hip' : ¬ 0 < i := by omega
      simp [aI, hi, e1, hx1, hwr, q0, q1, q2, q3, hro, gs, ck, cs, cc, hkd, hix, hgt, s2', hip, hip']
      simpa [ll, hi0] using hq
     ·obtain ⟨q, hpq⟩ := hpv hi0
      obtain ⟨y, hy, hc2⟩ := hcmp q hi0 hpq
      rw [hpq] at hq
      simp only at hq
      have e2 : et (.int .i64 ((i : Int) - 1)) xs.length = some (i - 1) := by
       rw [show ((i : Int) - 1) = ((i - 1 : Nat) : Int) by omega]; exact av (by omega)
      have hwm : IntKind.wrap .i64 ((i : Int) - 1) = (i : Int) - 1 := ar (by omega) (by omega)
      have hip : (0 : Int) < i := by omega
      have hip' : 0 < i := by omega
      obtain ⟨y1, y2, y3, rfl⟩ : ∃ a b c, y = .agg [a, b, c] := by
       simp only [ll, if_neg hi0] at hpq
       obtain ⟨y', hy', hry⟩ := h1.get hpq
       rw [hy] at hy'; cases hy'
       obtain ⟨_, rfl, _⟩ := hry.open
       exact ⟨_, _, _, rfl⟩
      by_cases s3 : dB [q] [t] < 0
      ·have s3' : ¬ 0 <= dB [q] [t] := by omega
       simp only [s3, decide_true, Bool.true_and] at hq
       simp [aI, hi, e1, hx1, hwr, q0, q1, q2, q3, hro, gs, ck, cs, cc, hkd, hix, hgt, s2', hip, hip', hwm, e2, hy, hc2, s3']
       simpa using hq
      ·have s3' : 0 <= dB [q] [t] := by omega
       simp only [s3, decide_false, Bool.false_and] at hq
       simp [aI, hi, e1, hx1, hwr, q0, q1, q2, q3, hro, gs, ck, cs, cc, hkd, hix, hgt, s2', hip, hip', hwm, e2, hy, hc2, s3', hq]
   ·rintro e' st ⟨g, hq, rfl, rfl⟩
    rw [List.drop_of_length_le (by omega)] at hq
    have hq' : Q = (e.inner == 0) := by rw [hq]; cases ll e.exc xs.length <;> simp [E4]
    simp [aI, q0, q1, b5', hq']
 simp only [Bool.and_assoc] at hR key
 by_cases k1 : e.kind = 1
 ·have k1' : (e.kind == 1) = true := by simpa using k1
  rw [if_pos k1] at hR
  cases s : tc e.sym with
  | false =>
   rw [s] at g5 hR
   simp only [Bool.false_and] at hR
   subst hR
   simp [aD, aG, q1, q0, g1, g2, b3', b4', k1', g5]
  | true =>
   rw [s] at g5 hR
   simp only [Bool.true_and] at hR
   have := key R hR 36 (.inl rfl) (.bool true) (.bool false)
   simp [aD, aG, q1, q0, g1, g2, b3', b4', k1', g5] at this ⊢
   exact this
 ·have k1' : (e.kind == 1) = false := by simpa using k1
  rw [if_neg k1] at hR
  unfold EW at hR
  cases z1 : (e.sym.kind == 0) with
  | false =>
   have z1' : (e.sym.kind != 0) = true := by simpa using z1
   rw [z1] at hR
   simp only [Bool.false_and] at hR
   subst hR
   simp [aD, aG, q1, q0, g1, g2, b3', b4', k1', z1']
  | true =>
   have z1' : (e.sym.kind != 0) = false := by simpa using z1
   rw [z1] at hR
   cases z2 : (e.sym.text == []) with
   | false =>
    have z2' : (e.sym.text).isEmpty = false := by cases h5 : e.sym.text with | nil => rw [h5] at z2; simp at z2 | cons _ _ => rfl
    rw [z2] at hR
    simp only [Bool.true_and, Bool.false_and] at hR
    subst hR
    simp [aD, aG, q1, q0, g1, g2, b3', b4', k1', z1', z2']
   | true =>
    have z2' : e.sym.text = [] := by simpa using z2
    rw [z2] at hR
    cases z3 : (e.sym.kids.length == 0) with
    | false =>
     have z3' : (0 : Int) < kvs.length := by have : e.sym.kids.length ≠ 0 := by simpa using z3
                                             omega
     have z3'' : ¬ kvs = [] := by rintro rfl; simp at z3'
     rw [z3] at hR
     simp only [Bool.true_and, Bool.false_and] at hR
     subst hR
     simp [aD, aG, q1, q0, g1, g2, b3', b4', k1', z1', z2', z3', z3'']
    | true =>
     have z3' : ¬ (0 : Int) < kvs.length := by have : e.sym.kids.length = 0 := by simpa using z3
                                               omega
     have z3'' : kvs = [] := by cases kvs with | nil => rfl | cons _ _ => simp at z3'
     subst z3''
     rw [z3] at hR
     simp only [Bool.true_and] at hR
     have := key R hR 37 (.inr rfl) (.bool false) (.bool false)
     simp [aD, aG, q1, q0, g1, g2, b3', b4', k1', z1', z2', z3'] at this ⊢
     exact this
end
open Go Ab Go.RowKit
set_option maxRecDepth 10000
def P2 : ae -> ae
 | .seq _ (.seq _ (.seq _ (.seq _ (.seq _ c)))) => c
 | c => c
section
variable {E : ak} (hE : E.fns = af.fn ag)
include hE
theorem H4 {a : Au} {e : Ed} {x y : AV} (ha : tU a x) (he : jq e y) (hb : Be e) : bG 9000000 E (.fn fV [] []) [x, y] (.bool (jL a.n e)) := by
 have g1 := zF hE ha e.fr
 have g2 := zF hE ha e.to
 have g3 := zF hE ha e.inner
 have hso := Pw hE e.kind
 have ck := wV hE [] []
 have cs := wW hE [] []
 have cc := vX hE [] []
 obtain ⟨of, oe, ys, rfl, _⟩ := ha
 obtain ⟨kv, ev, rfl, hkv, hev⟩ := he
 have g5 := BF hE (Rt.of hkv) hb.1
 have g6 := Sn hE (Rt.of hkv)
 obtain ⟨oev, xs, rfl, ⟨hm1, _⟩, h1⟩ := hev
 have hl1 := h1.length
 have hlx : e.exc.length <= 1048576 := by have := hb.2.1; have := aC e.exc; omega
 refine bG.byW (rf hE) rfl rfl (K := 8999999) fun k hk bl tk => ?_
 have g1 := g1 k (by omega)
 have g2 := g2 k (by omega)
 have g3 := g3 k (by omega)
 have g5 := g5 k (by omega)
 have g6 := g6 k (by omega)
 have hso := hso k (by omega)
 have q1 : ∀ (c d : AB) (r : List AB), (bl ++ c :: d :: r)[bl.length + 1]? = some d := fun c d r => by rw [aa]; rfl
 have q0 : ∀ (c d : AB) (r : List AB), (bl ++ c :: d :: r)[bl.length]? = some c := fun c d r => by rw [ac]; rfl
 obtain ⟨R, hR⟩ : ∃ R, R = jL a.n e := ⟨_, rfl⟩
 rw [<- hR]
 unfold jL at hR
 by_cases b1 : ql a.n e.fr = true
 case neg =>
  have b1 : ql a.n e.fr = false := by simpa using b1
  rw [b1] at g1 hR; simp only [Bool.false_and] at hR; subst hR; simp [aJ, aF, q1, q0, g1]
 rw [b1] at g1 hR
 by_cases b2 : ql a.n e.to = true
 case neg =>
  have b2 : ql a.n e.to = false := by simpa using b2
  rw [b2] at g2 hR; simp only [Bool.true_and, Bool.false_and] at hR; subst hR; simp [aJ, aF, q1, q0, g1, g2]
 rw [b2] at g2 hR
 by_cases b3 : 1 <= e.kind
 case neg =>
  have b3' : e.kind < 1 := by omega
  simp only [b3, decide_false, Bool.and_false, Bool.false_and] at hR; subst hR
  simp [aJ, aF, q1, q0, g1, g2, b3, b3']
 have b3' : ¬ e.kind < 1 := by omega
 by_cases b4 : e.kind <= 5
 case neg =>
  have b4' : 5 < e.kind := by omega
  simp only [b4, decide_false, Bool.and_false, Bool.false_and] at hR; subst hR
  simp [aJ, aF, q1, q0, g1, g2, b3, b3', b4, b4']
 have b4' : ¬ 5 < e.kind := by omega
 simp only [b3, b4, decide_true, Bool.true_and] at hR
 -- the symbol
 by_cases s : (if e.kind = 1 then tc e.sym else EW e.sym) = true
 case neg =>
  have s : (if e.kind = 1 then tc e.sym else EW e.sym) = false := by simpa using s
  rw [s] at hR
  simp only [Bool.false_and] at hR
  subst hR
  by_cases k1 : e.kind = 1
  ·rw [if_pos k1] at s
   rw [s] at g5
   have k1' : (e.kind == 1) = true := by simpa using k1
   simp [aJ, aF, q1, q0, g1, g2, b3', b4', k1, k1', g5]
  ·rw [if_neg k1] at s
   rw [s] at g6
   have k1' : (e.kind == 1) = false := by simpa using k1
   have k1'' : (e.kind != 1) = true := by simpa using k1
   simp [aJ, aF, q1, q0, g1, g2, b3', b4', k1, k1', k1'', g6]
 rw [s] at hR
 simp only [Bool.true_and] at hR
 by_cases hpl : (oX e.kind || e.exc.length == 0) = true
 case neg =>
  have hpl : (oX e.kind || e.exc.length == 0) = false := by simpa using hpl
  rw [hpl] at hR
  simp only [Bool.false_and] at hR
  subst hR
  have hp2 : oX e.kind = false := by revert hpl; cases oX e.kind <;> simp
  have hp3 : (0 : Int) < xs.length := by
   have : ¬ e.exc.length = 0 := by revert hpl; cases oX e.kind <;> simp <;> (intro h hx; rw [hx] at h; simp at h)
   omega
  have hp3' : 0 < xs.length := by omega
  have hp3'' : xs ≠ [] := by rintro rfl; simp at hp3'
  have hk15 : e.kind = 1 \/ e.kind = 5 := by simp [oX] at hp2; omega
  rcases hk15 with k1 | k1
  ·rw [if_pos k1] at s
   rw [s] at g5
   simp [aJ, aF, q1, q0, g1, g2, b3', b4', k1, g5, hp3, hp3', hp3'']
  ·rw [if_neg (by omega)] at s
   rw [s] at g6
   simp [aJ, aF, q1, q0, g1, g2, b3', b4', k1, g6, hp3, hp3', hp3'']
 rw [hpl] at hR
 simp only [Bool.true_and] at hR
 have hsy : ((e.kind == 1) = true /\ tc e.sym = true) \/ ((e.kind == 1) = false /\ EW e.sym = true) := by
  by_cases k1 : e.kind = 1
  ·rw [if_pos k1] at s; exact .inl ⟨by simpa using k1, s⟩
  ·rw [if_neg k1] at s; exact .inr ⟨by simpa using k1, s⟩
 have hx0 : (e.kind = 1 \/ e.kind = 5) -> ¬ 0 < xs.length := by
  intro h
  have hp2 : oX e.kind = false := by simp [oX]; omega
  rw [hp2] at hpl
  have : e.exc.length = 0 := by simpa using hpl
  omega
 have hnx : (e.kind == 1 || e.kind == 5) = true -> decide (0 < xs.length) = false := by
  intro h
  have : e.kind = 1 \/ e.kind = 5 := by simpa using h
  simpa using hx0 this
 have pre : wp E (au E k) k false (.loop [0, 1, 4, 27, 47, 61, 66, 106] bA) (zl 0 (Al (wp E (au E k) k false (P2 aF) (Ge [.t 4] (.bool R))) (Ge [.t 4] (.bool R)))) [(0, .agg [.int .i64 a.n, .int .i64 a.start, .sl of 1 (ao a.fin), .sl oe 8 ys]), (1, .agg [.int .i64 e.fr, .int .i64 e.to, .int .i64 e.kind, .int .i64 e.sym.kind, .str e.sym.text, kv, .sl oev 3 xs, .int .i64 e.inner]), (2, .ptr bl.length 0), (3, .ptr (bl.length + 1) 0), (4, .bool false), (5, .int .i64 0), (27, .bool false), (47, .bool false), (61, .bool false)]
   { bl := bl ++ [.cells [.int .i64 a.n, .int .i64 a.start, .sl of 1 (ao a.fin), .sl oe 8 ys], .cells [.int .i64 e.fr, .int .i64 e.to, .int .i64 e.kind, .int .i64 e.sym.kind, .str e.sym.text, kv, .sl oev 3 xs, .int .i64 e.inner]], tk, ro := bl.length, rt := tk.length } := by
  refine aA xs.length (fun i e' st => R = (E4 (e.kind - 1) (ll e.exc i) (e.exc.drop i) && (if e.kind = 5 then ql a.n e.inner else e.inner == 0)) /\ e' = [(2, .ptr bl.length 0), (3, .ptr (bl.length + 1) 0), (5, .int .i64 i)] /\ st = { bl := bl ++ [.cells [.int .i64 a.n, .int .i64 a.start, .sl of 1 (ao a.fin), .sl oe 8 ys], .cells [.int .i64 e.fr, .int .i64 e.to, .int .i64 e.kind, .int .i64 e.sym.kind, .str e.sym.text, kv, .sl oev 3 xs, .int .i64 e.inner]], tk, ro := bl.length, rt := tk.length }) (by omega) ⟨by simpa [ll] using hR, rfl, rfl⟩ ?_ ?_
  ·rintro i e' st hi ⟨hq, rfl, rfl⟩
   have hk24 : 2 <= e.kind /\ e.kind <= 4 := by
    by_cases h : e.kind = 1 \/ e.kind = 5
    ·exact absurd (by omega) (hx0 h)
    ·omega
   have hsn : OP e.kind = e.kind - 1 := by unfold OP; split <;> (try split) <;> omega
   rw [hsn] at hso
   obtain ⟨t, ht⟩ : ∃ t, e.exc[i]? = some t := ⟨_, List.getElem?_eq_getElem (by omega)⟩
   obtain ⟨x, hx, hrt⟩ := h1.get ht
   have hbt := hb.2.mem (List.mem_of_getElem? ht)
   have gs := BF hE hrt hbt k (by omega)
   rw [IL ht] at hq
   have hcmp : ∀ q, i ≠ 0 -> ll e.exc i = some q -> ∃ y, xs[i - 1]? = some y /\ ∀ s, au E k none (.fn cK [] []) [y, x] s = some (.ret (.int .i64 (dB [q] [t])), false, s) := by
    intro q hi0 hp
    simp only [ll, if_neg hi0] at hp
    obtain ⟨y, hy, hry⟩ := h1.get hp
    exact ⟨y, hy, zE hE hry hrt (hb.2.mem (List.mem_of_getElem? hp)) k (by omega)⟩
   have hpv : i ≠ 0 -> ∃ q, ll e.exc i = some q := fun hi0 => ⟨e.exc[i - 1], by simp only [ll, if_neg hi0]; exact List.getElem?_eq_getElem (by omega)⟩
   obtain ⟨vx, rfl, hvx⟩ := hrt.open
   obtain ⟨hi1, hx1⟩ := List.getElem?_eq_some_iff.1 hx
   have e1 : et (.int .i64 i) xs.length = some i := av hi1
   have hwr : IntKind.wrap .i64 ((i : Int) + 1) = i + 1 := ar (by omega) (by omega)
   cases s1 : tc t with
   | false =>
    rw [s1] at gs hq
    simp only [Bool.false_and] at hq
    simp [bA, hi, e1, hx1, hwr, q0, q1, gs, ck, cs, cc, hq]
   | true =>
    rw [s1] at gs hq
    by_cases s2 : t.kind = e.kind - 1
    case neg =>
     have s2' : (t.kind != e.kind - 1) = true := by simpa using s2
     have s2'' : (t.kind == e.kind - 1) = false := by simpa using s2
     rw [s2''] at hq
     simp only [Bool.and_false, Bool.false_and] at hq
     simp [bA, hi, e1, hx1, hwr, q0, q1, gs, hso, ck, cs, cc, s2', hq]
    have s2' : (t.kind != e.kind - 1) = false := by simpa using s2
    have s2'' : (t.kind == e.kind - 1) = true := by simpa using s2
    rw [s2''] at hq
    simp only [Bool.true_and] at hq
    by_cases hi0 : i = 0
    ·simp only [ll, hi0, if_true, Bool.true_and] at hq
     have hip : ¬ (0 : Int) < i := by omega
     have hip' : ¬ 0 < i := by omega
     simp [bA, hi, e1, hx1, hwr, q0, q1, gs, hso, ck, cs, cc, s2', hip, hip']
     simpa [ll, hi0] using hq
    ·obtain ⟨q, hpq⟩ := hpv hi0
     obtain ⟨y, hy, hc2⟩ := hcmp q hi0 hpq
     rw [hpq] at hq
     simp only at hq
     have e2 : et (.int .i64 ((i : Int) - 1)) xs.length = some (i - 1) := by
      rw [show ((i : Int) - 1) = ((i - 1 : Nat) : Int) by omega]; exact av (by omega)
     have hwm : IntKind.wrap .i64 ((i : Int) - 1) = (i : Int) - 1 := ar (by omega) (by omega)
     have hip : (0 : Int) < i := by omega
     have hip' : 0 < i := by omega
     obtain ⟨y1, y2, y3, rfl⟩ : ∃ a b c, y = .agg [a, b, c] := by
      simp only [ll, if_neg hi0] at hpq
      obtain ⟨y', hy', hry⟩ := h1.get hpq
      rw [hy] at hy'; cases hy'
      obtain ⟨_, rfl, _⟩ := hry.open
      exact ⟨_, _, _, rfl⟩
     by_cases s3 : dB [q] [t] < 0
     ·have s3' : ¬ 0 <= dB [q] [t] := by omega
      simp only [s3, decide_true, Bool.true_and] at hq
      simp [bA, hi, e1, hx1, hwr, q0, q1, gs, hso, ck, cs, cc, s2', hip, hip', hwm, e2, hy, hc2, s3']
      simpa using hq
     ·have s3' : 0 <= dB [q] [t] := by omega
      simp only [s3, decide_false, Bool.false_and] at hq
      simp [bA, hi, e1, hx1, hwr, q0, q1, gs, hso, ck, cs, cc, s2', hip, hip', hwm, e2, hy, hc2, s3', hq]
  ·rintro e' st ⟨hq, rfl, rfl⟩
   rw [List.drop_of_length_le (by omega)] at hq
   have hq' : R = (if e.kind = 5 then ql a.n e.inner else e.inner == 0) := by rw [hq]; cases ll e.exc xs.length <;> simp [E4]
   by_cases b5 : e.kind = 5
   ·have b5' : (e.kind == 5) = true := by simpa using b5
    have b5n : (e.kind != 5) = false := by simpa using b5
    rw [if_pos b5] at hq'
    rw [<- hq'] at g3
    cases R <;> simp [bA, aF, P2, q1, q0, b5', b5n, g3]
   ·have b5' : (e.kind == 5) = false := by simpa using b5
    have b5n : (e.kind != 5) = true := by simpa using b5
    rw [if_neg b5] at hq'
    simp [bA, aF, P2, q1, q0, b5', b5n, hq']
 rcases hsy with ⟨k1, hs⟩ | ⟨k1, hs⟩
 ·rw [hs] at g5
  have hnx := hnx (by rw [k1]; rfl)
  have k1n : (e.kind != 1) = false := by simpa using k1
  have hxi : ¬ (0 : Int) < xs.length := by have := of_decide_eq_false hnx; omega
  have hxe : xs = [] := by have := of_decide_eq_false hnx; cases xs with | nil => rfl | cons _ _ => simp at this
  simp [aJ, aF, P2, q1, q0, g1, g2, b3', b4', k1, k1n, g5, hnx, hxi, hxe] at pre ⊢
  exact pre
 ·rw [hs] at g6
  have k1n : (e.kind != 1) = true := by simpa using k1
  cases k5 : (e.kind == 5) with
  | true =>
   have hnx := hnx (by rw [k5]; simp)
   have hxi : ¬ (0 : Int) < xs.length := by have := of_decide_eq_false hnx; omega
   have hxe : xs = [] := by have := of_decide_eq_false hnx; cases xs with | nil => rfl | cons _ _ => simp at this
   simp [aJ, aF, P2, q1, q0, g1, g2, b3', b4', k1, k1n, k5, g6, hnx, hxi, hxe] at pre ⊢
   exact pre
  | false =>
   simp [aJ, aF, P2, q1, q0, g1, g2, b3', b4', k1, k1n, k5, g6] at pre ⊢
   exact pre
end
end Ab.C
namespace Ab
open Go
theorem CK {E : ak} {f : Nat} {first caps : List AV} {F : bS} (hF : E.fns f = some F) {args : List AV} (hn : (first ++ args ++ caps).length = F.np) {k : Nat} {s : St} {Q : AV -> Prop}
  (h : ∀ bl tk, (bl = s.bl /\ tk = s.tk \/ AV.plainL (first ++ args ++ caps) = true) -> wp E (au E k) k false F.body (Pj F.res bl.length Q) (pj 0 (first ++ args ++ caps)) { bl, tk, ro := bl.length, rt := tk.length }) (hm : F.mode = .pure := by rfl) : ∃ r, Q r /\ au E (k + 1) none (.fn f first caps) args s = some (.ret r, false, s) := by
 obtain ⟨bl, tk, hst, hb⟩ : ∃ bl tk, gc F.mode none (first ++ args ++ caps) s = { bl, tk, ro := bl.length, rt := tk.length } /\ (bl = s.bl /\ tk = s.tk \/ AV.plainL (first ++ args ++ caps) = true) := by
  unfold gc
  split
  ·rename_i h; exact ⟨[], [], rfl, .inr (by revert h; cases AV.plainL (first ++ args ++ caps) <;> simp)⟩
  ·exact ⟨s.bl, s.tk, by rw [hm]; rfl, .inl ⟨rfl, rfl⟩⟩
 obtain ⟨o, e', s1, h1, ho, vs, h2, r, h3, hq⟩ := nu (h bl tk hb)
 have hfin : cD .pure bl.length s s1 (fo vs) = some (r, s) := by
  unfold sw at h3
  simp only [cD]
  split at h3
  ·rename_i hd; rw [if_pos hd, h3]
  ·rename_i hd; rw [if_neg hd, if_pos h3.1, h3.2]
 rw [hm] at hst
 refine ⟨r, hq, ?_⟩
 rcases ho with rfl | rfl <;> simp only [au, hF, wA, hn, ne_eq, not_true_eq_false, if_false, hm, hst, h1, rz, hJ, h2, hfin]
theorem vY {E : ak} {f : Nat} {first caps : List AV} {F : bS} (hF : E.fns f = some F) {args : List AV} (hn : (first ++ args ++ caps).length = F.np) {k : Nat} {s : St} {v : AV}
  (h : ∀ bl tk, (bl = s.bl /\ tk = s.tk \/ AV.plainL (first ++ args ++ caps) = true) -> wp E (au E k) k false F.body (Ge F.res v) (pj 0 (first ++ args ++ caps)) { bl, tk, ro := bl.length, rt := tk.length }) (hm : F.mode = .pure := by rfl) : au E (k + 1) none (.fn f first caps) args s = some (.ret v, false, s) := by
 obtain ⟨bl, tk, hst, hb⟩ : ∃ bl tk, gc F.mode none (first ++ args ++ caps) s = { bl, tk, ro := bl.length, rt := tk.length } /\ (bl = s.bl /\ tk = s.tk \/ AV.plainL (first ++ args ++ caps) = true) := by
  unfold gc
  split
  ·rename_i h; exact ⟨[], [], rfl, .inr (by revert h; cases AV.plainL (first ++ args ++ caps) <;> simp)⟩
  ·exact ⟨s.bl, s.tk, by rw [hm]; rfl, .inl ⟨rfl, rfl⟩⟩
 obtain ⟨o, e', s1, h1, ho, vs, h2, h3, h4⟩ := nu (h bl tk hb)
 have hfin : cD .pure bl.length s s1 (fo vs) = some (v, s) := by
  simp only [cD]
  rw [if_pos h3, h4]
 rw [hm] at hst
 rcases ho with rfl | rfl <;> simp only [au, hF, wA, hn, ne_eq, not_true_eq_false, if_false, hm, hst, h1, rz, hJ, h2, hfin]
end Ab
namespace Ab.C
open Go Ab Go.RowKit
set_option maxRecDepth 10000
def BV (n : Int) : Option Int -> List Int -> Bool
 | _, [] => true
 | p, f :: r => ql n f && (match p with | none => true | some q => decide (q < f)) && BV n (some f) r
def pp (l : List Int) (i : Nat) : Option Int := if i = 0 then none else l[i - 1]?
theorem Iy {n : Int} {l : List Int} {i : Nat} {f : Int} (h : l[i]? = some f) : BV n (pp l i) (l.drop i) = (ql n f && (match pp l i with | none => true | some q => decide (q < f)) && BV n (pp l (i + 1)) (l.drop (i + 1))) := by
 obtain ⟨hi, h1⟩ := List.getElem?_eq_some_iff.1 h
 rw [List.drop_eq_getElem_cons hi, h1]
 have e : pp l (i + 1) = some f := by simp [pp, h]
 rw [e]
 cases pp l i <;> simp only [BV]
def xx (l : List Ed) : Bool := l.any fun e => decide (100 < (e.exc.length : Int))
def cP (a : Au) : Int :=
 if decide (400 < a.n) || decide (400 < (a.fin.length : Int)) || decide (4000 < (a.eds.length : Int)) || xx a.eds then 5
 else if decide (a.n < 1) || !ql a.n a.start then 250
 else if !BV a.n none a.fin then 250
 else if a.eds.any (fun e => !jL a.n e) then 250
 else 0
def Ba (a : Au) : Prop := a.fin.length <= 1048576 /\ a.eds.length <= 1048576 /\ ∀ e ∈ a.eds, Be e
theorem jq.exc {e : Ed} {x : AV} (h : jq e x) : ∃ c0 c1 c2 c3 c4 c5 c7 o xs, x = .agg [c0, c1, c2, c3, c4, c5, .sl o 3 xs, c7] /\ xs.length = e.exc.length := by
 obtain ⟨kv, ev, rfl, _, hev⟩ := h
 obtain ⟨o, xs, rfl, _, h1⟩ := hev
 exact ⟨_, _, _, _, _, _, _, _, _, rfl, h1.length⟩
section
variable {E : ak} (hE : E.fns = af.fn ag)
include hE
theorem Na {e : Ed} {x : AV} (h : jq e x) : bG 1 E (.fn ka [] []) [x] (.bool (decide (100 < (e.exc.length : Int)))) := by
 obtain ⟨c0, c1, c2, c3, c4, c5, c7, o, xs, rfl, hl⟩ := h.exc
 refine bG.byW (C2 hE) rfl rfl (K := 0) fun k hk bl tk => ?_
 simp [pH, u9, ac, hl]
theorem Nb {a : Au} {y : AV} {cs : List AV} (ha : tU a y) (hy : y = .agg cs) {s : St} {i : Nat} (hi : s.bl[i]? = some (.cells cs)) {e : Ed} {x : AV} (h : jq e x) (hb : Be e) {k : Nat} (hk : 9000001 <= k) :
  au E k none (.fn kb [] [.ptr i 0]) [x] s = some (.ret (.bool (!jL a.n e)), false, s) := by
 obtain ⟨k, rfl⟩ : ∃ j, k = j + 1 := ⟨k - 1, by omega⟩
 have g1 := Pv hE ha h hb k (by omega)
 subst hy
 obtain ⟨c0, c1, c2, c3, c4, c5, c7, o, xs, rfl, hl⟩ := h.exc
 obtain ⟨of, oe, ys, ha, _⟩ := ha
 cases ha
 refine vY (C4 hE) rfl fun bl tk hb => ?_
 have hb' : bl = s.bl /\ tk = s.tk := by
  rcases hb with h | h
  ·exact h
  ·simp [AV.plainL, AV.plain] at h
 obtain ⟨rfl, rfl⟩ := hb'
 have hi' : ∀ r, (s.bl ++ r)[i]? = s.bl[i]? := fun r => List.getElem?_append_left (List.getElem?_eq_some_iff.1 hi).1
 simp [pI, vc, ac, hi', hi, g1]
theorem HY {q : Ed -> Bool} {es : List Ed} {o : gu} {xs : List AV} (h : cL jq es xs) (hl : es.length <= 1048576) {pf : AV} {K : Nat} {s : St} (hp : ∀ k, K <= k -> ∀ s', (s'.bl = s.bl \/ AV.plain pf = true) -> ∀ e x, e ∈ es -> jq e x -> au E k none pf [x] s' = some (.ret (.bool (q e)), false, s')) {k : Nat} (hk : K + 1048579 <= k) :
  ∃ r, (∃ n, r = .int .i64 n /\ decide (0 <= n) = es.any q) /\ au E k none (.fn bc [] []) [.sl o 8 xs, pf] s = some (.ret r, false, s) := by
 obtain ⟨k, rfl⟩ : ∃ j, k = j + 1 := ⟨k - 1, by omega⟩
 have hlx := h.length
 refine CK (jZ hE) rfl fun bl tk hb => ?_
 have hb' : bl = s.bl \/ AV.plain pf = true := by
  rcases hb with h | h
  ·exact .inl h.1
  ·simp [AV.plainL] at h; exact .inr h.2
 simp [cg, dU]
 refine aA xs.length (fun i e' st => (es.take i).any q = false /\ e' = [(0, .sl o 8 xs), (1, pf), (7, .int .i64 xs.length), (8, .int .i64 i)] /\ st = { bl, tk, ro := bl.length, rt := tk.length }) (by omega) ⟨by simp, rfl, rfl⟩ ?_ ?_
 ·rintro i e' st hi ⟨hq, rfl, rfl⟩
  obtain ⟨t, ht⟩ : ∃ t, es[i]? = some t := ⟨_, List.getElem?_eq_getElem (by omega)⟩
  obtain ⟨x, hx, hrt⟩ := h.get ht
  have hc := hp k (by omega) { bl, tk, ro := bl.length, rt := tk.length } hb' t x (List.mem_of_getElem? ht) hrt
  obtain ⟨c0, c1, c2, c3, c4, c5, c7, o', zs, rfl, _⟩ := hrt.exc
  obtain ⟨hi1, hx1⟩ := List.getElem?_eq_some_iff.1 hx
  have e1 : et (.int .i64 i) xs.length = some i := av hi1
  have hwr : IntKind.wrap .i64 ((i : Int) + 1) = i + 1 := ar (by omega) (by omega)
  obtain ⟨hj, ht1⟩ := List.getElem?_eq_some_iff.1 ht
  have hq2 : (es.take (i + 1)).any q = q t := by
   rw [List.take_succ, ht]; simp only [Option.toList_some, List.any_append, hq, List.any_cons, List.any_nil, Bool.or_false, Bool.false_or]
  cases hqt : q t with
  | true =>
   rw [hqt] at hc hq2
   have ha : es.any q = true := List.any_eq_true.2 ⟨t, List.mem_of_getElem? ht, hqt⟩
   simp [aZ, hi, e1, hx1, hwr, hc]
   exact ⟨_, rfl, i, rfl, by rw [ha]; simp⟩
  | false =>
   rw [hqt] at hc hq2
   simp [aZ, hi, e1, hx1, hwr, hc]
   simpa using hq2
 ·rintro e' st ⟨hq, rfl, rfl⟩
  rw [List.take_of_length_le (by omega)] at hq
  simp [aZ]
  exact ⟨_, rfl, -1, rfl, by rw [hq]; rfl⟩
theorem nC {q : Ed -> Bool} {es : List Ed} {o : gu} {xs : List AV} (h : cL jq es xs) (hl : es.length <= 1048576) {pf : AV} {K : Nat} {s : St} (hp : ∀ k, K <= k -> ∀ s', (s'.bl = s.bl \/ AV.plain pf = true) -> ∀ e x, e ∈ es -> jq e x -> au E k none pf [x] s' = some (.ret (.bool (q e)), false, s')) {k : Nat} (hk : K + 1048580 <= k) :
  au E k none (.fn ax [] []) [.sl o 8 xs, pf] s = some (.ret (.bool (es.any q)), false, s) := by
 obtain ⟨k, rfl⟩ : ∃ j, k = j + 1 := ⟨k - 1, by omega⟩
 refine vY (jb hE) rfl fun bl tk hb => ?_
 have hb' : bl = s.bl \/ AV.plain pf = true := by
  rcases hb with h | h
  ·exact .inl h.1
  ·simp [AV.plainL] at h; exact .inr h.2
 have hcm : ∀ s' : St, (s'.bl = bl \/ AV.plain pf = true) -> (s'.bl = s.bl \/ AV.plain pf = true) := by
  intro s' hs
  rcases hs with h | h
  ·rcases hb' with h' | h'
   ·exact .inl (h.trans h')
   ·exact .inr h'
  ·exact .inr h
 obtain ⟨r, ⟨n, rfl, hn⟩, hc⟩ := HY hE (o := o) h hl (K := K) (s := { bl, tk, ro := bl.length, rt := tk.length }) (fun k hk s' hs e x he hx => hp k hk s' (hcm s' hs) e x he hx) (k := k) (by omega)
 simp [bJ, dE, hc, hn]
end
open Go Ab Go.RowKit
set_option maxRecDepth 10000
theorem ep {l : List Int} {i : Nat} {f : Int} (h : l[i]? = some f) : (ao l)[i]? = some (.int .i64 f) := by simp [ao, h]
@[simp] theorem S5 (l : List Int) : (ao l).length = l.length := by simp [ao]
section
variable {E : ak} (hE : E.fns = af.fn ag)
include hE
theorem Gi {a : Au} {x : AV} (ha : tU a x) (hb : Ba a) : bG 12000000 E (.fn ip [] []) [x] (.int .i64 (cP a)) := by
 have ha0 := ha
 have gs := ui hE ha a.start
 obtain ⟨of, oe, ys, rfl, hes, hof, _⟩ := ha
 obtain ⟨hb1, hb2, hb3⟩ := hb
 have hly := hes.length
 refine bG.byW (E8 hE) rfl rfl (K := 11999999) fun k hk bl tk => ?_
 have gs := gs k (by omega)
 have c1 : ∀ s, au E k none (.fn ax [] []) [.sl oe 8 ys, .fn ka [] []] s = some (.ret (.bool (xx a.eds)), false, s) := fun s =>
  nC hE hes hb2 (K := 1) (fun k hk s' _ e x he hx => Na hE hx k hk s') (by omega)
 have c2 : au E k none (.fn ax [] []) [.sl oe 8 ys, .fn kb [] [.ptr bl.length 0]] { bl := bl ++ [.cells [.int .i64 a.n, .int .i64 a.start, .sl of 1 (ao a.fin), .sl oe 8 ys]], tk, ro := bl.length, rt := tk.length } = some (.ret (.bool (a.eds.any fun e => !jL a.n e)), false, { bl := bl ++ [.cells [.int .i64 a.n, .int .i64 a.start, .sl of 1 (ao a.fin), .sl oe 8 ys]], tk, ro := bl.length, rt := tk.length }) := by
  refine nC hE hes hb2 (K := 9000001) (fun k hk s' hs e x he hx => Nb hE ha0 rfl ?_ hx (hb3 e he) hk) (by omega)
  rcases hs with h | h
  ·rw [h]; exact ac _ _
  ·simp [AV.plain, AV.plainL] at h
 obtain ⟨R, hR⟩ : ∃ R, R = cP a := ⟨_, rfl⟩
 rw [<- hR]
 unfold cP at hR
 have q0 : ∀ (c : AB) (r : List AB), (bl ++ c :: r)[bl.length]? = some c := fun c r => by rw [ac]; rfl
 by_cases b1 : 400 < a.n
 ·rw [if_pos (by simp [b1])] at hR; subst hR
  simp [er, fu, q0, b1]
 by_cases b2 : 400 < (a.fin.length : Int)
 ·rw [if_pos (by simp [b2])] at hR; subst hR
  simp [er, fu, q0, b1, b2]
 by_cases b3 : 4000 < (a.eds.length : Int)
 ·rw [if_pos (by simp [b3])] at hR; subst hR
  simp [er, fu, q0, b1, b2, hly, b3]
 cases b4 : xx a.eds with
 | true =>
  rw [if_pos (by simp [b4])] at hR; subst hR
  rw [b4] at c1
  simp [er, fu, q0, b1, b2, hly, b3, c1]
 | false =>
 rw [b4] at c1
 rw [if_neg (by simp [b1, b2, b3, b4])] at hR
 by_cases b5 : a.n < 1
 ·rw [if_pos (by simp [b5])] at hR; subst hR
  simp [er, fu, q0, b1, b2, hly, b3, c1, b5]
 cases b6 : ql a.n a.start with
 | false =>
  rw [if_pos (by simp [b6])] at hR; subst hR
  rw [b6] at gs
  simp [er, fu, q0, b1, b2, hly, b3, c1, b5, gs]
 | true =>
 rw [b6] at gs
 rw [if_neg (by simp [b5, b6])] at hR
 simp [er, fu, q0, b1, b2, hly, b3, c1, b5, gs]
 refine aA a.fin.length (fun i e' st => R = (if !BV a.n (pp a.fin i) (a.fin.drop i) then 250 else if a.eds.any (fun e => !jL a.n e) then 250 else 0) /\ e' = [(1, .ptr bl.length 0), (36, .sl of 1 (ao a.fin)), (37, .int .i64 a.fin.length), (38, .int .i64 i)] /\ st = { bl := bl ++ [.cells [.int .i64 a.n, .int .i64 a.start, .sl of 1 (ao a.fin), .sl oe 8 ys]], tk, ro := bl.length, rt := tk.length }) (by omega) ⟨by simpa [pp] using hR, rfl, rfl⟩ ?_ ?_
 ·rintro i e' st hi ⟨hq, rfl, rfl⟩
  obtain ⟨t, ht⟩ : ∃ t, a.fin[i]? = some t := ⟨_, List.getElem?_eq_getElem (by omega)⟩
  have hx := ep ht
  have gi := ui hE ha0 t k (by omega)
  rw [Iy ht] at hq
  obtain ⟨hi1, hx1⟩ := List.getElem?_eq_some_iff.1 hx
  have e1 : et (.int .i64 i) a.fin.length = some i := av hi
  have hwr : IntKind.wrap .i64 ((i : Int) + 1) = i + 1 := ar (by omega) (by omega)
  cases s1 : ql a.n t with
  | false =>
   rw [s1] at gi hq
   simp at hq
   subst hq
   simp [f7, hi, e1, hx, hx1, hwr, q0, gi]
  | true =>
   rw [s1] at gi hq
   by_cases hi0 : i = 0
   ·have hip : ¬ (0 : Int) < i := by omega
    have hip' : ¬ 0 < i := by omega
    simp only [pp, hi0, if_true, Bool.true_and] at hq
    simp [f7, hi, e1, hx, hx1, hwr, q0, gi, hip, hip']
    simpa [pp, hi0] using hq
   ·obtain ⟨q, hpq⟩ : ∃ q, a.fin[i - 1]? = some q := ⟨_, List.getElem?_eq_getElem (by omega)⟩
    have hpv : pp a.fin i = some q := by simp only [pp, if_neg hi0]; exact hpq
    rw [hpv] at hq
    simp only at hq
    have hy := ep hpq
    have e2 : et (.int .i64 ((i : Int) - 1)) a.fin.length = some (i - 1) := by
     rw [show ((i : Int) - 1) = ((i - 1 : Nat) : Int) by omega]; exact av (by omega)
    have hwm : IntKind.wrap .i64 ((i : Int) - 1) = (i : Int) - 1 := ar (by omega) (by omega)
    have hip : (0 : Int) < i := by omega
    have hip' : 0 < i := by omega
    by_cases s3 : q < t
    ·have s3' : ¬ t <= q := by omega
     simp only [s3, decide_true, Bool.true_and] at hq
     simp [f7, hi, e1, hx, hx1, hwr, q0, gi, hip, hip', hwm, e2, hy, s3']
     simpa using hq
    ·have s3' : t <= q := by omega
     simp [s3] at hq
     subst hq
     simp [f7, hi, e1, hx, hx1, hwr, q0, gi, hip, hip', hwm, e2, hy, s3']
 ·rintro e' st ⟨hq, rfl, rfl⟩
  rw [List.drop_of_length_le (by omega)] at hq
  have hq' : R = (if a.eds.any (fun e => !jL a.n e) then 250 else 0) := by rw [hq]; cases pp a.fin a.fin.length <;> simp [BV]
  cases b7 : a.eds.any (fun e => !jL a.n e) with
  | true =>
   rw [b7] at c2 hq'
   subst hq'
   simp [f7, q0, c2]
  | false =>
   rw [b7] at c2 hq'
   subst hq'
   simp [f7, q0, c2]
end
open Go Ab Go.RowKit
set_option maxRecDepth 10000
theorem FM {α : Type} {l : List α} {q : α -> Bool} {i : Nat} {t : α} (h : l[i]? = some t) : (l.drop i).any q = (q t || (l.drop (i + 1)).any q) := by
 obtain ⟨hi, h1⟩ := List.getElem?_eq_some_iff.1 h
 rw [List.drop_eq_getElem_cons hi, h1]; rfl
section
variable {E : ak} (hE : E.fns = af.fn ag)
include hE
theorem w9 {a : Au} {x : AV} (ha : tU a x) (hb : Ba a) : bG 12000000 E (.fn ek [] []) [x] (.int .i64 (cP a)) := by
 have ha0 := ha
 have gs := zF hE ha a.start
 have cst := yp hE [] []
 have crt := yo hE [] []
 obtain ⟨of, oe, ys, rfl, hes, hof, _⟩ := ha
 obtain ⟨hb1, hb2, hb3⟩ := hb
 have hly := hes.length
 refine bG.byW (yJ hE) rfl rfl (K := 11999999) fun k hk bl tk => ?_
 have gs := gs k (by omega)
 obtain ⟨R, hR⟩ : ∃ R, R = cP a := ⟨_, rfl⟩
 rw [<- hR]
 unfold cP at hR
 have q0 : ∀ (c : AB) (r : List AB), (bl ++ c :: r)[bl.length]? = some c := fun c r => by rw [ac]; rfl
 by_cases b1 : 400 < a.n
 ·rw [if_pos (by simp [b1])] at hR; subst hR
  simp [dZ, fJ, q0, b1]
 by_cases b2 : 400 < (a.fin.length : Int)
 ·rw [if_pos (by simp [b2])] at hR; subst hR
  simp [dZ, fJ, q0, b1, b2]
 by_cases b3 : 4000 < (a.eds.length : Int)
 ·rw [if_pos (by simp [b3])] at hR; subst hR
  simp [dZ, fJ, q0, b1, b2, hly, b3]
 simp only [b1, b2, b3, decide_false, Bool.false_or] at hR
 simp [dZ, fJ, q0, b1, b2, hly, b3]
 refine aA a.eds.length (fun i e' st => R = (if xx (a.eds.drop i) then 5
 else if decide (a.n < 1) || !ql a.n a.start then 250
 else if !BV a.n none a.fin then 250
 else if a.eds.any (fun e => !jL a.n e) then 250
 else 0) /\ e' = [(1, .ptr bl.length 0), (3, .int .i64 i)] /\ st = { bl := bl ++ [.cells [.int .i64 a.n, .int .i64 a.start, .sl of 1 (ao a.fin), .sl oe 8 ys]], tk, ro := bl.length, rt := tk.length }) (by omega) ⟨by simpa using hR, rfl, rfl⟩ ?_ ?_
 ·rintro i e' st hi ⟨hq, rfl, rfl⟩
  obtain ⟨t, ht⟩ : ∃ t, a.eds[i]? = some t := ⟨_, List.getElem?_eq_getElem (by omega)⟩
  obtain ⟨x, hx, hrt⟩ := hes.get ht
  unfold xx at hq
  rw [FM ht] at hq
  obtain ⟨c0, c1, c2, c3, c4, c5, c7, o', zs, rfl, hl⟩ := hrt.exc
  obtain ⟨hi1, hx1⟩ := List.getElem?_eq_some_iff.1 hx
  have e1 : et (.int .i64 i) a.eds.length = some i := av hi
  have hwr : IntKind.wrap .i64 ((i : Int) + 1) = i + 1 := ar (by omega) (by omega)
  by_cases s1 : 100 < (t.exc.length : Int)
  ·simp [s1] at hq
   subst hq
   simp [dL, hi, hly, e1, hx, hx1, hwr, q0, hl, s1]
  ·simp only [s1, decide_false, Bool.false_or] at hq
   simp [dL, hi, hly, e1, hx, hx1, hwr, q0, hl, s1]
   simpa [xx] using hq
 rintro e' st ⟨hR, rfl, rfl⟩
 rw [List.drop_of_length_le (Nat.le_refl _)] at hR
 rw [show xx [] = false from rfl] at hR
 simp only [Bool.false_eq_true, if_false] at hR
 by_cases b5 : a.n < 1
 ·rw [if_pos (by simp [b5])] at hR; subst hR
  simp [dL, q0, hly, b5]
 cases b6 : ql a.n a.start with
 | false =>
  rw [if_pos (by simp [b6])] at hR; subst hR
  rw [b6] at gs
  simp [dL, q0, hly, b5, gs]
 | true =>
 rw [b6] at gs
 rw [if_neg (by simp [b5, b6])] at hR
 simp [dL, q0, hly, b5, gs]
 refine aA a.fin.length (fun i e' st => R = (if !BV a.n (pp a.fin i) (a.fin.drop i) then 250 else if a.eds.any (fun e => !jL a.n e) then 250 else 0) /\ e' = [(1, .ptr bl.length 0), (4, .int .i64 i)] /\ st = { bl := bl ++ [.cells [.int .i64 a.n, .int .i64 a.start, .sl of 1 (ao a.fin), .sl oe 8 ys]], tk, ro := bl.length, rt := tk.length }) (by omega) ⟨by simpa [pp] using hR, rfl, rfl⟩ ?_ ?_
 ·rintro i e' st hi ⟨hq, rfl, rfl⟩
  obtain ⟨t, ht⟩ : ∃ t, a.fin[i]? = some t := ⟨_, List.getElem?_eq_getElem (by omega)⟩
  have hx := ep ht
  have gi := zF hE ha0 t k (by omega)
  rw [Iy ht] at hq
  obtain ⟨hi1, hx1⟩ := List.getElem?_eq_some_iff.1 hx
  have e1 : et (.int .i64 i) a.fin.length = some i := av hi
  have hwr : IntKind.wrap .i64 ((i : Int) + 1) = i + 1 := ar (by omega) (by omega)
  cases s1 : ql a.n t with
  | false =>
   rw [s1] at gi hq
   simp at hq
   subst hq
   simp [dM, hi, e1, hx, hx1, hwr, q0, cst, gi]
  | true =>
   rw [s1] at gi hq
   by_cases hi0 : i = 0
   ·have hip : ¬ (0 : Int) < i := by omega
    have hip' : ¬ 0 < i := by omega
    simp only [pp, hi0, if_true, Bool.true_and] at hq
    simp [dM, hi, e1, hx, hx1, hwr, q0, cst, gi, hip, hip']
    simpa [pp, hi0] using hq
   ·obtain ⟨q, hpq⟩ : ∃ q, a.fin[i - 1]? = some q := ⟨_, List.getElem?_eq_getElem (by omega)⟩
    have hpv : pp a.fin i = some q := by simp only [pp, if_neg hi0]; exact hpq
    rw [hpv] at hq
    simp only at hq
    have hy := ep hpq
    have e2 : et (.int .i64 ((i : Int) - 1)) a.fin.length = some (i - 1) := by
     rw [show ((i : Int) - 1) = ((i - 1 : Nat) : Int) by omega]; exact av (by omega)
    have hwm : IntKind.wrap .i64 ((i : Int) - 1) = (i : Int) - 1 := ar (by omega) (by omega)
    have hip : (0 : Int) < i := by omega
    have hip' : 0 < i := by omega
    by_cases s3 : q < t
    ·have s3' : ¬ t <= q := by omega
     simp only [s3, decide_true, Bool.true_and] at hq
     simp [dM, hi, e1, hx, hx1, hwr, q0, cst, gi, hip, hip', hwm, e2, hy, s3']
     simpa using hq
    ·have s3' : t <= q := by omega
     simp [s3] at hq
     subst hq
     simp [dM, hi, e1, hx, hx1, hwr, q0, cst, gi, hip, hip', hwm, e2, hy, s3']
 rintro e' st ⟨hq, rfl, rfl⟩
 rw [List.drop_of_length_le (Nat.le_refl _)] at hq
 have hR : R = (if a.eds.any (fun e => !jL a.n e) then 250 else 0) := by rw [hq]; cases pp a.fin a.fin.length <;> simp [BV]
 simp [dM, q0]
 refine aA a.eds.length (fun i e' st => R = (if (a.eds.drop i).any (fun e => !jL a.n e) then 250
 else 0) /\ e' = [(1, .ptr bl.length 0), (5, .int .i64 i)] /\ st = { bl := bl ++ [.cells [.int .i64 a.n, .int .i64 a.start, .sl of 1 (ao a.fin), .sl oe 8 ys]], tk, ro := bl.length, rt := tk.length }) (by omega) ⟨by simpa using hR, rfl, rfl⟩ ?_ ?_
 ·rintro i e' st hi ⟨hq, rfl, rfl⟩
  obtain ⟨t, ht⟩ : ∃ t, a.eds[i]? = some t := ⟨_, List.getElem?_eq_getElem (by omega)⟩
  obtain ⟨x, hx, hrt⟩ := hes.get ht
  have gr := H4 hE ha0 hrt (hb3 t (List.mem_of_getElem? ht)) k (by omega)
  rw [FM ht] at hq
  obtain ⟨c0, c1, c2, c3, c4, c5, c7, o', zs, rfl, hl⟩ := hrt.exc
  obtain ⟨hi1, hx1⟩ := List.getElem?_eq_some_iff.1 hx
  have e1 : et (.int .i64 i) a.eds.length = some i := av hi
  have hwr : IntKind.wrap .i64 ((i : Int) + 1) = i + 1 := ar (by omega) (by omega)
  cases s1 : jL a.n t with
  | false =>
   rw [s1] at gr hq
   simp at hq
   subst hq
   simp [iJ, hi, hly, e1, hx, hx1, hwr, q0, crt, gr]
  | true =>
   rw [s1] at gr hq
   simp only [Bool.not_true, Bool.false_or] at hq
   simp [iJ, hi, hly, e1, hx, hx1, hwr, q0, crt, gr]
   simpa using hq
 ·rintro e' st ⟨hq, rfl, rfl⟩
  rw [List.drop_of_length_le (Nat.le_refl _)] at hq
  simp at hq
  subst hq
  simp [iJ, q0, hly]
end
open Go Ab
def bits (p : Nat -> Bool) : Nat -> Nat
 | 0 => 0
 | k + 1 => bits p k ||| (if p k then 2 ^ k else 0)
theorem tB (p : Nat -> Bool) (i : Nat) : ∀ k, (bits p k).testBit i = (decide (i < k) && p i)
 | 0 => by simp [bits]
 | k + 1 => by
  rw [bits, Nat.testBit_or, tB p i k]
  by_cases h : i = k
  ·subst h
   cases hp : p i <;> simp [Nat.testBit_two_pow_self]
  ·have h2 : (if p k = true then 2 ^ k else 0).testBit i = false := by
    split
    ·exact Nat.testBit_two_pow_of_ne (Ne.symm h)
    ·simp
   rw [h2, Bool.or_false]
   by_cases h3 : i < k
   ·simp [h3, show i < k + 1 by omega]
   ·simp [h3, show ¬ i < k + 1 by omega]
theorem Oa (p : Nat -> Bool) : ∀ k, bits p k < 2 ^ k
 | 0 => by simp [bits]
 | k + 1 => by
  rw [bits]
  have h := Oa p k
  have h2 : 2 ^ k < 2 ^ (k + 1) := Nat.pow_lt_pow_right (by omega) (by omega)
  refine Nat.or_lt_two_pow (by omega) ?_
  split
  ·exact h2
  ·exact Nat.two_pow_pos _
def tx (p : Nat -> Bool) (n : Nat) : Nat -> Bool := fun i => if i = n then true else p i
theorem Qp (p : Nat -> Bool) {n k : Nat} (h : n < k) : bits p k ||| 2 ^ n = bits (tx p n) k := by
 apply Nat.eq_of_testBit_eq
 intro i
 rw [Nat.testBit_or, tB, tB]
 by_cases hi : i = n
 ·subst hi
  simp [tx, Nat.testBit_two_pow_self, h]
 ·rw [Nat.testBit_two_pow_of_ne (Ne.symm hi)]
  simp [tx, hi]
theorem BW {p q : Nat -> Bool} {k : Nat} (h : ∀ i, i < k -> p i = q i) : bits p k = bits q k := by
 apply Nat.eq_of_testBit_eq
 intro i
 rw [tB, tB]
 by_cases hi : i < k
 ·simp [hi, h i hi]
 ·simp [hi]
def bp (S : Nat -> Bool) (j : Nat) : Nat := bits (fun b => S (64 * j + b)) 64
def eQ (S : Nat -> Bool) : List AV := [.int .u64 (bp S 0), .int .u64 (bp S 1), .int .u64 (bp S 2), .int .u64 (bp S 3), .int .u64 (bp S 4), .int .u64 (bp S 5), .int .u64 (bp S 6)]
theorem aH (S : Nat -> Bool) : (eQ S).length = 7 := rfl
theorem Mq (S : Nat -> Bool) {j : Nat} (h : j < 7) : (eQ S)[j]? = some (.int .u64 (bp S j)) := by
 have : j = 0 \/ j = 1 \/ j = 2 \/ j = 3 \/ j = 4 \/ j = 5 \/ j = 6 := by omega
 rcases this with rfl | rfl | rfl | rfl | rfl | rfl | rfl <;> rfl
theorem SN (S : Nat -> Bool) (j : Nat) : bp S j < 2 ^ 64 := Oa _ _
theorem Ef (S : Nat -> Bool) (j : Nat) {r : Nat} (h : r < 64) : (bp S j).testBit r = S (64 * j + r) := by
 rw [bp, tB]; simp [h]
theorem RG (S : Nat -> Bool) {n : Nat} : bp S (n / 64) ||| 2 ^ (n % 64) = bp (tx S n) (n / 64) := by
 rw [bp, Qp _ (Nat.mod_lt _ (by omega)), bp]
 apply BW
 intro i hi
 simp only [tx]
 by_cases h : i = n % 64
 ·subst h; rw [if_pos rfl, if_pos (by omega)]
 ·rw [if_neg h, if_neg (by omega)]
theorem N0 (S : Nat -> Bool) {n j : Nat} (h : j ≠ n / 64) : bp (tx S n) j = bp S j := by
 apply BW
 intro i hi
 simp only [tx]
 rw [if_neg (by omega)]
theorem Rn (S : Nat -> Bool) {n : Nat} (h : n / 64 < 7) : (eQ S).take (n / 64) ++ [.int .u64 ((bp S (n / 64) ||| 2 ^ (n % 64) : Nat) : Int)] ++ (eQ S).drop (n / 64 + 1) = eQ (tx S n) := by
 rw [RG]
 obtain ⟨q, hq⟩ : ∃ q, q = n / 64 := ⟨_, rfl⟩
 have ho : ∀ j, j ≠ q -> bp (tx S n) j = bp S j := fun j hj => N0 S (by omega)
 rw [<- hq] at h ⊢
 have : q = 0 \/ q = 1 \/ q = 2 \/ q = 3 \/ q = 4 \/ q = 5 \/ q = 6 := by omega
 rcases this with rfl | rfl | rfl | rfl | rfl | rfl | rfl <;> simp [eQ, ho]
theorem SM {S T : Nat -> Bool} {j : Nat} (h : bp S j = bp T j) : ∀ r, r < 64 -> S (64 * j + r) = T (64 * j + r) := fun r hr => by
 rw [<- Ef S j hr, <- Ef T j hr, h]
theorem SE {S T : Nat -> Bool} (h : ∀ j, j < 7 -> bp S j = bp T j) : ∀ i, i < 448 -> S i = T i := fun i hi => by
 have := SM (h (i / 64) (by omega)) (i % 64) (Nat.mod_lt _ (by omega))
 rwa [Nat.div_add_mod] at this
theorem Td {x : Nat} (h : x < 2 ^ 64) : IntKind.wrap .u64 (x : Int) = x := by
 have e : IntKind.wrap .u64 (x : Int) = (x : Int) % (2 ^ 64 : Int) := rfl
 rw [e]
 have : (2 : Int) ^ 64 = ((2 ^ 64 : Nat) : Int) := by simp
 rw [this]
 omega
theorem Q0 (S : Nat -> Bool) {n : Nat} : (IntKind.wrap .u64 ((BitVec.ofInt 64 (((bp S (n / 64) : Nat) : Int).fdiv (2 ^ (n % 64))) &&& BitVec.ofInt 64 1).toNat : Int) == 1) = S n := by
 have hr : n % 64 < 64 := Nat.mod_lt _ (by omega)
 have h1 : (((bp S (n / 64) : Nat) : Int).fdiv (2 ^ (n % 64))) = ((bp S (n / 64) / 2 ^ (n % 64) : Nat) : Int) := by
  rw [Int.fdiv_eq_ediv_of_nonneg _ (Int.le_of_lt (Int.pow_pos (by omega)))]
  simp
 rw [h1]
 have h2 : (BitVec.ofInt 64 ((bp S (n / 64) / 2 ^ (n % 64) : Nat) : Int) &&& BitVec.ofInt 64 1).toNat = bp S (n / 64) / 2 ^ (n % 64) % 2 := by
  rw [BitVec.ofInt_natCast, BitVec.toNat_and, BitVec.toNat_ofNat]
  have : (BitVec.ofInt 64 1).toNat = 1 := by decide
  rw [this, Nat.and_one_is_mod]
  omega
 rw [h2]
 have h3 := Ef S (n / 64) hr
 rw [Nat.div_add_mod, Nat.testBit_eq_decide_div_mod_eq] at h3
 rw [<- h3]
 have h4 : bp S (n / 64) / 2 ^ (n % 64) % 2 < 2 := Nat.mod_lt _ (by omega)
 rcases (by omega : bp S (n / 64) / 2 ^ (n % 64) % 2 = 0 \/ bp S (n / 64) / 2 ^ (n % 64) % 2 = 1) with h | h <;> rw [h] <;> decide
theorem SA (S : Nat -> Bool) {n : Nat} : IntKind.wrap .u64 ((BitVec.ofInt 64 ((bp S (n / 64) : Nat) : Int) ||| BitVec.ofInt 64 (IntKind.wrap .u64 (1 * 2 ^ (n % 64)))).toNat : Int) = ((bp S (n / 64) ||| 2 ^ (n % 64) : Nat) : Int) := by
 have hr : n % 64 < 64 := Nat.mod_lt _ (by omega)
 have hp : 2 ^ (n % 64) < 2 ^ 64 := Nat.pow_lt_pow_right (by omega) hr
 have hw := SN S (n / 64)
 have hor : (bp S (n / 64) ||| 2 ^ (n % 64)) < 2 ^ 64 := Nat.or_lt_two_pow hw hp
 have e1 : IntKind.wrap .u64 (1 * 2 ^ (n % 64)) = ((2 ^ (n % 64) : Nat) : Int) := by
  rw [Int.one_mul, <- Td hp]
  simp
 rw [e1]
 have h2 : (BitVec.ofInt 64 ((bp S (n / 64) : Nat) : Int) ||| BitVec.ofInt 64 ((2 ^ (n % 64) : Nat) : Int)).toNat = (bp S (n / 64) ||| 2 ^ (n % 64)) := by
  rw [BitVec.ofInt_natCast, BitVec.ofInt_natCast, BitVec.toNat_or, BitVec.toNat_ofNat, BitVec.toNat_ofNat, Nat.mod_eq_of_lt hw, Nat.mod_eq_of_lt hp]
 rw [h2]
 exact Td hor
open Go Ab Go.RowKit
set_option maxRecDepth 10000
section
variable {E : ak} (hE : E.fns = af.fn ag)
include hE
theorem nf (S : Nat -> Bool) {n : Nat} (hn : n < 448) : bG 1 E (.fn aR [] []) [.agg (eQ S), .int .i64 n] (.bool (S n)) := by
 have hj : n / 64 < 7 := by omega
 have e0 : ((n : Int).tdiv 64) = (n : Int) / 64 := by simp [Int.tdiv_eq_ediv]
 have e1 : IntKind.wrap .i64 ((n : Int) / 64) = (n : Int) / 64 := ar (by omega) (by omega)
 have e2 : ((n : Int).tmod 64) = (n : Int) % 64 := by simp [Int.tmod_eq_emod]
 have e3 : et (.int .i64 ((n : Int) / 64)) 7 = some (n / 64) := by
  rw [show (n : Int) / 64 = ((n / 64 : Nat) : Int) by simp]; exact av hj
 have e4 : ((n : Int) % 64).toNat = n % 64 := by omega
 have e5 : min (n % 64) 64 = n % 64 := by omega
 have e6 : (0 : Int) <= (n : Int) % 64 := by omega
 have e7 : IntKind.bits .u64 = 64 := rfl
 have hl := Q0 S (n := n)
 simp only [e7, BitVec.toNat_and, BitVec.toNat_ofInt] at hl
 refine bG.byW (A5 hE) rfl rfl (K := 0) fun k hk bl tk => ?_
 simp [nP, sR, ac, e0, e1, e2, e3, e4, e5, e6, e7, Mq S hj, aH]
 simpa using hl
theorem JW (S : Nat -> Bool) {n : Nat} (hn : n < 448) {s : St} {i : Nat} (hi : s.bl[i]? = some (.cells (eQ S))) (hro : s.ro <= i) {k : Nat} (hk : 1 <= k) :
  au E k none (.fn bm [] []) [.ptr i 0, .int .i64 n] s = some (.ret (.tup []), false, s.setb i (.cells (eQ (tx S n)))) := by
 have hj : n / 64 < 7 := by omega
 have e0 : ((n : Int).tdiv 64) = (n : Int) / 64 := by simp [Int.tdiv_eq_ediv]
 have e1 : IntKind.wrap .i64 ((n : Int) / 64) = (n : Int) / 64 := ar (by omega) (by omega)
 have e2 : ((n : Int).tmod 64) = (n : Int) % 64 := by simp [Int.tmod_eq_emod]
 have e3 : et (.int .i64 ((n : Int) / 64)) 7 = some (n / 64) := by
  rw [show (n : Int) / 64 = ((n / 64 : Nat) : Int) by simp]; exact av hj
 have e4 : ((n : Int) % 64).toNat = n % 64 := by omega
 have e5 : min (n % 64) 64 = n % 64 := by omega
 have e6 : (0 : Int) <= (n : Int) % 64 := by omega
 have e7 : IntKind.bits .u64 = 64 := rfl
 have hl := SA S (n := n)
 have hu := Rn S hj
 simp only [e7, BitVec.toNat_or, BitVec.toNat_ofInt] at hl
 have hj' : n / 64 <= 6 := by omega
 simp at hl
 rw [show ((bp S (n / 64) : Nat) : Int) % 18446744073709551616 = ((bp S (n / 64) % 18446744073709551616 : Nat) : Int) by omega, Int.toNat_natCast] at hl
 simp at hu
 obtain ⟨hlt, hi2⟩ := List.getElem?_eq_some_iff.1 hi
 obtain ⟨k, rfl⟩ : ∃ j, k = j + 1 := ⟨k - 1, by omega⟩
 obtain ⟨v, s', h1, rfl, rfl⟩ := cI (zK hE) (first := []) (caps := []) (args := [.ptr i 0, .int .i64 n]) rfl (k := k) (s := s) (Post := fun v s' => v = .tup [] /\ s' = s.setb i (.cells (eQ (tx S n)))) (by
  simp [mQ, rH, jk, hi, hi2, e0, e1, e2, e3, e4, e5, e6, e7, Mq S hj, aH, hro, hlt]
  simp [hj', hl, hu, cD])
 exact h1
end
open Go Ab Go.RowKit
set_option maxRecDepth 10000
def oi (l : List Int) : Nat -> Bool := l.foldl (fun S f => tx S f.toNat) (fun _ => false)
theorem Ob : ∀ k, bits (fun _ => false) k = 0
 | 0 => rfl
 | k + 1 => by simp [bits, Ob k]
theorem ON : eQ (fun _ => false) = [.int .u64 0, .int .u64 0, .int .u64 0, .int .u64 0, .int .u64 0, .int .u64 0, .int .u64 0] := by simp [eQ, bp, Ob]
theorem ng {α β : Type} {f : β -> α -> β} {b : β} {l : List α} {i : Nat} {t : α} (h : l[i]? = some t) : (l.take (i + 1)).foldl f b = f ((l.take i).foldl f b) t := by
 rw [List.take_succ, h]; simp
section
variable {E : ak} (hE : E.fns = af.fn ag)
include hE
theorem Pt {a : Au} {x : AV} (ha : tU a x) (hf : ∀ f ∈ a.fin, 0 <= f /\ f < 448) (hb1 : a.fin.length <= 1048576) : bG 1048580 E (.fn de [] []) [x] (.agg (eQ (oi a.fin))) := by
 obtain ⟨of, oe, ys, rfl, _⟩ := ha
 refine bG.byW (sA hE) rfl rfl (K := 1048579) fun k hk bl tk => ?_
 have q0 : ∀ (c : AB) (r : List AB), (bl ++ c :: r)[bl.length]? = some c := fun c r => by rw [ac]; rfl
 have q1 : ∀ (c d : AB) (r : List AB), (bl ++ c :: d :: r)[bl.length + 1]? = some d := fun c d r => by rw [aa]; rfl
 have q2 : ∀ (c d e : AB) (r : List AB), (bl ++ c :: d :: e :: r)[bl.length + 2]? = some e := fun c d e r => by rw [aa]; rfl
 have s1 : ∀ (c d f : AB) (r : List AB), (bl ++ c :: d :: r).set (bl.length + 1) f = bl ++ c :: f :: r := fun c d f r => by rw [aj]; rfl
 have s2 : ∀ (c d e f : AB) (r : List AB), (bl ++ c :: d :: e :: r).set (bl.length + 2) f = bl ++ c :: d :: f :: r := fun c d e f r => by rw [aj]; rfl
 have z7 := ON
 simp [ia, lM, q0, q1, q2]
 refine aA a.fin.length (fun i e' st => e' = [(2, .ptr (bl.length + 1) 0), (3, .ptr (bl.length + 2) 0), (7, .sl of 1 (ao a.fin)), (8, .int .i64 a.fin.length), (9, .int .i64 i)] /\ st = { bl := bl ++ [.cells [.int .i64 a.n, .int .i64 a.start, .sl of 1 (ao a.fin), .sl oe 8 ys], .cells [.int .u64 0, .int .u64 0, .int .u64 0, .int .u64 0, .int .u64 0, .int .u64 0, .int .u64 0], .cells (eQ (oi (a.fin.take i)))], tk, ro := bl.length, rt := tk.length }) (by omega) ⟨rfl, by rw [List.take_zero, show oi [] = fun _ => false from rfl, z7]⟩ ?_ ?_
 ·rintro i e' st hi ⟨rfl, rfl⟩
  obtain ⟨t, ht⟩ : ∃ t, a.fin[i]? = some t := ⟨_, List.getElem?_eq_getElem (by omega)⟩
  have hx := ep ht
  obtain ⟨h0, h1⟩ := hf t (List.mem_of_getElem? ht)
  obtain ⟨hi1, hx1⟩ := List.getElem?_eq_some_iff.1 hx
  obtain ⟨m, rfl⟩ : ∃ m : Nat, t = m := ⟨t.toNat, by omega⟩
  have e1 : et (.int .i64 i) a.fin.length = some i := av hi
  have hwr : IntKind.wrap .i64 ((i : Int) + 1) = i + 1 := ar (by omega) (by omega)
  have hp := JW hE (oi (a.fin.take i)) (n := m) (by omega) (s := { bl := bl ++ [.cells [.int .i64 a.n, .int .i64 a.start, .sl of 1 (ao a.fin), .sl oe 8 ys], .cells [.int .u64 0, .int .u64 0, .int .u64 0, .int .u64 0, .int .u64 0, .int .u64 0, .int .u64 0], .cells (eQ (oi (a.fin.take i)))], tk, ro := bl.length, rt := tk.length }) (i := bl.length + 2) (q2 _ _ _ _) (by show bl.length <= bl.length + 2; omega) (k := k) (by omega)
  simp only [St.setb, s2] at hp
  have hs : oi (a.fin.take (i + 1)) = tx (oi (a.fin.take i)) m := by rw [oi, ng ht]; rfl
  simp [gC, hi, e1, hx, hx1, hwr, q0, q1, q2, hp, hs]
 ·rintro e' st ⟨rfl, rfl⟩
  rw [List.take_of_length_le (Nat.le_refl _)]
  simp [gC, q0, q1, q2, s1, aH]
  simp [eQ]
def ET (e : Ed) : Bool := e.kind != 2 || decide ((e.exc.length : Int) < 256)
def ja (S : Nat -> Bool) (e : Ed) : Bool := S e.to.toNat && ET e && (e.kind != 5 || S e.inner.toNat)
def UY (e : Ed) : Prop := (0 <= e.fr /\ e.fr < 448) /\ (0 <= e.to /\ e.to < 448) /\ (e.kind = 5 -> 0 <= e.inner /\ e.inner < 448)
theorem JU (S : Nat -> Bool) {e : Ed} {x : AV} (he : jq e x) (hw : UY e) : bG 3 E (.fn eg [] []) [x, .agg (eQ S)] (.bool (ja S e)) := by
 obtain ⟨kv, ev, rfl, hkv, hev⟩ := he
 obtain ⟨oev, xs, rfl, ⟨hm1, _⟩, h1⟩ := hev
 have hl1 := h1.length
 obtain ⟨_, hto, hin⟩ := hw
 refine bG.byW (yv hE) rfl rfl (K := 2) fun k hk bl tk => ?_
 have q0 : ∀ (c : AB) (r : List AB), (bl ++ c :: r)[bl.length]? = some c := fun c r => by rw [ac]; rfl
 have q1 : ∀ (c d : AB) (r : List AB), (bl ++ c :: d :: r)[bl.length + 1]? = some d := fun c d r => by rw [aa]; rfl
 have t7 : (eQ S).take 7 = eQ S := by simp [eQ]
 have g1 := nf hE S (n := e.to.toNat) (by omega) k (by omega)
 rw [Int.toNat_of_nonneg hto.1] at g1
 unfold ja ET
 cases a1 : S e.to.toNat with
 | false =>
  rw [a1] at g1
  simp [dk, eb, q0, q1, t7, aH, g1]
 | true =>
 rw [a1] at g1
 by_cases k2 : e.kind = 2
 ·have k2' : (e.kind != 2) = false := by simpa using k2
  have k5 : (e.kind != 5) = true := by simp [k2]
  by_cases hx : (e.exc.length : Int) < 256
  ·simp [dk, eb, q0, q1, t7, aH, g1, k2', k5, hl1, hx]
  ·simp [dk, eb, q0, q1, t7, aH, g1, k2', k5, hl1, hx]
 ·have k2' : (e.kind != 2) = true := by simpa using k2
  by_cases k5 : e.kind = 5
  ·have k5' : (e.kind != 5) = false := by simpa using k5
   have g2 := nf hE S (n := e.inner.toNat) (by have := hin k5; omega) k (by omega)
   rw [Int.toNat_of_nonneg (hin k5).1] at g2
   simp [dk, eb, q0, q1, t7, aH, g1, g2, k2', k5']
  ·have k5' : (e.kind != 5) = true := by simpa using k5
   simp [dk, eb, q0, q1, t7, aH, g1, k2', k5']
end
open Go Ab Go.RowKit
set_option maxRecDepth 10000
def BS (S : Nat -> Bool) (e : Ed) : Nat -> Bool := if ja S e then tx S e.fr.toNat else S
def eK (l : List Ed) (S : Nat -> Bool) : Nat -> Bool := l.foldl BS S
def vv (A S : Nat -> Bool) (e : Ed) : Nat -> Bool := if S e.fr.toNat && ja A e then (if e.kind = 5 then tx (tx S e.to.toNat) e.inner.toNat else tx S e.to.toNat) else S
def eq (A : Nat -> Bool) (l : List Ed) (S : Nat -> Bool) : Nat -> Bool := l.foldl (vv A) S
theorem Ho (S : Nat -> Bool) : (eQ S).take 7 = eQ S := by simp [eQ]
theorem D5 (S : Nat -> Bool) : AV.dataL (eQ S) = true /\ AV.untokL (eQ S) = eQ S := by simp [eQ]
theorem jq.open {e : Ed} {x : AV} (h : jq e x) : ∃ kv o xs, x = .agg [.int .i64 e.fr, .int .i64 e.to, .int .i64 e.kind, .int .i64 e.sym.kind, .str e.sym.text, kv, .sl o 3 xs, .int .i64 e.inner] := by
 obtain ⟨kv, ev, rfl, _, o, xs, rfl, _⟩ := h
 exact ⟨_, _, _, rfl⟩
section
variable {E : ak} (hE : E.fns = af.fn ag)
include hE
theorem QR {a : Au} {y : AV} {cs : List AV} (ha : tU a y) (hy : y = .agg cs) {s : St} {i0 : Nat} (hi0 : s.bl[i0]? = some (.cells cs)) (hw : ∀ e ∈ a.eds, UY e) (hb : a.eds.length <= 1048576) (S : Nat -> Bool) {k : Nat} (hk : 1048590 <= k) :
  au E k none (.fn dg [] [.ptr i0 0]) [.agg (eQ S)] s = some (.ret (.agg (eQ (eK a.eds S))), false, s) := by
 obtain ⟨k, rfl⟩ : ∃ j, k = j + 1 := ⟨k - 1, by omega⟩
 subst hy
 obtain ⟨of, oe, ys, ha, hes, _⟩ := ha
 cases ha
 have hly := hes.length
 refine vY (sB hE) rfl fun bl tk hb' => ?_
 have hb' : bl = s.bl /\ tk = s.tk := by
  rcases hb' with h | h
  ·exact h
  ·simp [AV.plainL, AV.plain] at h
 obtain ⟨rfl, rfl⟩ := hb'
 have hi' : ∀ r, (s.bl ++ r)[i0]? = s.bl[i0]? := fun r => List.getElem?_append_left (List.getElem?_eq_some_iff.1 hi0).1
 have q0 : ∀ (c : AB) (r : List AB), (s.bl ++ c :: r)[s.bl.length]? = some c := fun c r => by rw [ac]; rfl
 have q1 : ∀ (c d : AB) (r : List AB), (s.bl ++ c :: d :: r)[s.bl.length + 1]? = some d := fun c d r => by rw [aa]; rfl
 have s0 : ∀ (c f : AB) (r : List AB), (s.bl ++ c :: r).set s.bl.length f = s.bl ++ f :: r := fun c f r => by rw [aB]; rfl
 have s1 : ∀ (c d f : AB) (r : List AB), (s.bl ++ c :: d :: r).set (s.bl.length + 1) f = s.bl ++ c :: f :: r := fun c d f r => by rw [aj]; rfl
 have t7 := Ho
 simp [ii, lN, hi', hi0, t7, aH]
 refine aA ys.length (fun i e' st => ∃ g, e' = [(2, .ptr s.bl.length 0), (3, .ptr (s.bl.length + 1) 0), (7, .sl oe 8 ys), (8, .int .i64 ys.length), (9, .int .i64 i)] /\ st = { bl := s.bl ++ .cells (eQ (eK (a.eds.take i) S)) :: .cells [.int .u64 0, .int .u64 0, .int .u64 0, .int .u64 0, .int .u64 0, .int .u64 0, .int .u64 0] :: g, tk := s.tk, ro := s.bl.length, rt := s.tk.length }) (by omega) ⟨[], rfl, by simp [eK]⟩ ?_ ?_
 ·rintro i e' st hi ⟨g, rfl, rfl⟩
  obtain ⟨t, ht⟩ : ∃ t, a.eds[i]? = some t := ⟨_, List.getElem?_eq_getElem (by omega)⟩
  obtain ⟨x, hx, hrt⟩ := hes.get ht
  have hlow := hw t (List.mem_of_getElem? ht)
  have gg := JU hE (eK (a.eds.take i) S) hrt hlow k (by omega)
  obtain ⟨kv, o', zs, rfl⟩ := hrt.open
  obtain ⟨hi1, hx1⟩ := List.getElem?_eq_some_iff.1 hx
  have e1 : et (.int .i64 i) ys.length = some i := av hi
  have hwr : IntKind.wrap .i64 ((i : Int) + 1) = i + 1 := ar (by omega) (by omega)
  have q2 : ∀ (c d f : AB), (s.bl ++ c :: d :: (g ++ [f]))[s.bl.length + (g.length + 1 + 1)]? = some f := fun c d f => by rw [aa]; simp
  have q3 : ∀ (c d f f' : AB), (s.bl ++ c :: d :: (g ++ [f])).set (s.bl.length + (g.length + 1 + 1)) f' = s.bl ++ c :: d :: (g ++ [f']) := fun c d f f' => by rw [aj]; simp
  have hro : s.bl.length <= s.bl.length + (g.length + 1 + 1) := by omega
  have hs : eK (a.eds.take (i + 1)) S = BS (eK (a.eds.take i) S) t := ng ht
  unfold BS at hs
  cases hgd : ja (eK (a.eds.take i) S) t with
  | false =>
   rw [hgd] at gg hs
   simp [dV, hi, e1, hx, hx1, hwr, q0, q1, q2, q3, hro, t7, aH, gg, hs]
  | true =>
   rw [hgd] at gg hs
   obtain ⟨m, hm⟩ : ∃ m : Nat, t.fr = m := ⟨t.fr.toNat, by have := hlow.1.1; omega⟩
   have hfr := hlow.1
   rw [hm] at gg hs
   have hp : ∀ r, au E k none (.fn bm [] []) [.ptr s.bl.length 0, .int .i64 m] { bl := s.bl ++ .cells (eQ (eK (a.eds.take i) S)) :: r, tk := s.tk, ro := s.bl.length, rt := s.tk.length } = some (.ret (.tup []), false, { bl := s.bl ++ .cells (eQ (tx (eK (a.eds.take i) S) m)) :: r, tk := s.tk, ro := s.bl.length, rt := s.tk.length }) := fun r => by
    have h := JW hE (eK (a.eds.take i) S) (n := m) (by omega) (s := { bl := s.bl ++ .cells (eQ (eK (a.eds.take i) S)) :: r, tk := s.tk, ro := s.bl.length, rt := s.tk.length }) (i := s.bl.length) (q0 _ _) (Nat.le_refl _) (k := k) (by omega)
    simpa only [St.setb, s0] using h
   simp [dV, hi, e1, hx, hx1, hwr, q0, q1, q2, q3, hro, t7, aH, hm, gg, hp, hs]
 ·rintro e' st ⟨g, rfl, rfl⟩
  rw [hly, List.take_of_length_le (Nat.le_refl _)]
  simp [dV, q0, q1, s1, aH, t7, D5]
theorem QS {a : Au} {y : AV} {cs : List AV} (ha : tU a y) (hy : y = .agg cs) {s : St} {i0 : Nat} (hi0 : s.bl[i0]? = some (.cells cs)) {A : Nat -> Bool} {i1 : Nat} (hal : s.bl[i1]? = some (.cells (eQ A))) (hw : ∀ e ∈ a.eds, UY e) (hb : a.eds.length <= 1048576) (S : Nat -> Bool) {k : Nat} (hk : 1048590 <= k) :
  au E k none (.fn dh [] [.ptr i0 0, .ptr i1 0]) [.agg (eQ S)] s = some (.ret (.agg (eQ (eq A a.eds S))), false, s) := by
 obtain ⟨k, rfl⟩ : ∃ j, k = j + 1 := ⟨k - 1, by omega⟩
 subst hy
 obtain ⟨of, oe, ys, ha, hes, _⟩ := ha
 cases ha
 have hly := hes.length
 refine vY (sC hE) rfl fun bl tk hb' => ?_
 have hb' : bl = s.bl /\ tk = s.tk := by
  rcases hb' with h | h
  ·exact h
  ·simp [AV.plainL, AV.plain] at h
 obtain ⟨rfl, rfl⟩ := hb'
 have hi' : ∀ r, (s.bl ++ r)[i0]? = s.bl[i0]? := fun r => List.getElem?_append_left (List.getElem?_eq_some_iff.1 hi0).1
 have hal' : ∀ r, (s.bl ++ r)[i1]? = s.bl[i1]? := fun r => List.getElem?_append_left (List.getElem?_eq_some_iff.1 hal).1
 have q0 : ∀ (c : AB) (r : List AB), (s.bl ++ c :: r)[s.bl.length]? = some c := fun c r => by rw [ac]; rfl
 have q1 : ∀ (c d : AB) (r : List AB), (s.bl ++ c :: d :: r)[s.bl.length + 1]? = some d := fun c d r => by rw [aa]; rfl
 have s0 : ∀ (c f : AB) (r : List AB), (s.bl ++ c :: r).set s.bl.length f = s.bl ++ f :: r := fun c f r => by rw [aB]; rfl
 have s1 : ∀ (c d f : AB) (r : List AB), (s.bl ++ c :: d :: r).set (s.bl.length + 1) f = s.bl ++ c :: f :: r := fun c d f r => by rw [aj]; rfl
 have t7 := Ho
 simp [ij, lO, hi', hi0, hal', hal, t7, aH]
 refine aA ys.length (fun i e' st => ∃ g, e' = [(2, .ptr i1 0), (3, .ptr s.bl.length 0), (4, .ptr (s.bl.length + 1) 0), (8, .sl oe 8 ys), (9, .int .i64 ys.length), (10, .int .i64 i)] /\ st = { bl := s.bl ++ .cells (eQ (eq A (a.eds.take i) S)) :: .cells [.int .u64 0, .int .u64 0, .int .u64 0, .int .u64 0, .int .u64 0, .int .u64 0, .int .u64 0] :: g, tk := s.tk, ro := s.bl.length, rt := s.tk.length }) (by omega) ⟨[], rfl, by simp [eq]⟩ ?_ ?_
 ·rintro i e' st hi ⟨g, rfl, rfl⟩
  obtain ⟨t, ht⟩ : ∃ t, a.eds[i]? = some t := ⟨_, List.getElem?_eq_getElem (by omega)⟩
  obtain ⟨x, hx, hrt⟩ := hes.get ht
  have hlow := hw t (List.mem_of_getElem? ht)
  have gg := JU hE A hrt hlow k (by omega)
  obtain ⟨m, hm⟩ : ∃ m : Nat, t.fr = m := ⟨t.fr.toNat, by have := hlow.1.1; omega⟩
  obtain ⟨m2, hm2⟩ : ∃ m2 : Nat, t.to = m2 := ⟨t.to.toNat, by have := hlow.2.1.1; omega⟩
  have hfr := hlow.1
  have hto := hlow.2.1
  have hin := hlow.2.2
  have gh := nf hE (eq A (a.eds.take i) S) (n := m) (by omega) k (by omega)
  obtain ⟨kv, o', zs, rfl⟩ := hrt.open
  obtain ⟨hi1, hx1⟩ := List.getElem?_eq_some_iff.1 hx
  have e1 : et (.int .i64 i) ys.length = some i := av hi
  have hwr : IntKind.wrap .i64 ((i : Int) + 1) = i + 1 := ar (by omega) (by omega)
  have q2 : ∀ (c d f : AB), (s.bl ++ c :: d :: (g ++ [f]))[s.bl.length + (g.length + 1 + 1)]? = some f := fun c d f => by rw [aa]; simp
  have q3 : ∀ (c d f f' : AB), (s.bl ++ c :: d :: (g ++ [f])).set (s.bl.length + (g.length + 1 + 1)) f' = s.bl ++ c :: d :: (g ++ [f']) := fun c d f f' => by rw [aj]; simp
  have hro : s.bl.length <= s.bl.length + (g.length + 1 + 1) := by omega
  have hs : eq A (a.eds.take (i + 1)) S = vv A (eq A (a.eds.take i) S) t := ng ht
  unfold vv at hs
  rw [hm, hm2] at gg hs
  simp only [Int.toNat_natCast] at hs
  have hp : ∀ (T : Nat -> Bool) (m : Nat) r, m < 448 -> au E k none (.fn bm [] []) [.ptr s.bl.length 0, .int .i64 m] { bl := s.bl ++ .cells (eQ T) :: r, tk := s.tk, ro := s.bl.length, rt := s.tk.length } = some (.ret (.tup []), false, { bl := s.bl ++ .cells (eQ (tx T m)) :: r, tk := s.tk, ro := s.bl.length, rt := s.tk.length }) := fun T m r hm => by
   have h := JW hE T (n := m) hm (s := { bl := s.bl ++ .cells (eQ T) :: r, tk := s.tk, ro := s.bl.length, rt := s.tk.length }) (i := s.bl.length) (q0 _ _) (Nat.le_refl _) (k := k) (by omega)
   simpa only [St.setb, s0] using h
  have hp1 := fun r => hp (eq A (a.eds.take i) S) m2 r (by omega)
  cases hsm : eq A (a.eds.take i) S m with
  | false =>
   rw [hsm] at gh hs
   simp only [Bool.false_and, Bool.false_eq_true, if_false] at hs
   simp [bQ, hi, e1, hx, hx1, hwr, q0, q1, q2, q3, hro, hal', hal, t7, aH, hm, hm2, gh, hs]
  | true =>
  rw [hsm] at gh hs
  simp only [Bool.true_and] at hs
  cases hgd : ja A t with
  | false =>
   rw [hgd] at gg hs
   simp only [Bool.false_eq_true, if_false] at hs
   simp [bQ, hi, e1, hx, hx1, hwr, q0, q1, q2, q3, hro, hal', hal, t7, aH, hm, hm2, gh, gg, hs]
  | true =>
   rw [hgd] at gg hs
   simp only [if_true] at hs
   by_cases k5 : t.kind = 5
   ·obtain ⟨m3, hm3⟩ : ∃ m3 : Nat, t.inner = m3 := ⟨t.inner.toNat, by have := (hin k5).1; omega⟩
    have hp2 := fun r => hp (tx (eq A (a.eds.take i) S) m2) m3 r (by have := (hin k5).2; omega)
    have k5' : (t.kind == 5) = true := by simpa using k5
    rw [if_pos k5, hm3] at hs
    rw [hm3] at gg
    simp only [Int.toNat_natCast] at hs
    simp [bQ, hi, e1, hx, hx1, hwr, q0, q1, q2, q3, hro, hal', hal, t7, aH, hm, hm2, hm3, gh, gg, hp1, hp2, k5', hs]
   ·have k5' : (t.kind == 5) = false := by simpa using k5
    rw [if_neg k5] at hs
    simp [bQ, hi, e1, hx, hx1, hwr, q0, q1, q2, q3, hro, hal', hal, t7, aH, hm, hm2, gh, gg, hp1, k5', hs]
 ·rintro e' st ⟨g, rfl, rfl⟩
  rw [hly, List.take_of_length_le (Nat.le_refl _)]
  simp [bQ, q0, q1, s1, aH, t7, D5]
end
open Go Ab Go.RowKit
set_option maxRecDepth 10000
def uD (S T : Nat -> Bool) : Bool := decide (bp S 0 = bp T 0) && (decide (bp S 1 = bp T 1) && (decide (bp S 2 = bp T 2) && (decide (bp S 3 = bp T 3) && (decide (bp S 4 = bp T 4) && (decide (bp S 5 = bp T 5) && decide (bp S 6 = bp T 6))))))
theorem Iv (S T : Nat -> Bool) : vO 7 (eQ S) (eQ T) = some (uD S T) := by
 unfold uD eQ
 simp only [vO, if_true]
 have e : ∀ a b : Nat, ((a : Int) = (b : Int)) = (a = b) := fun a b => propext Int.natCast_inj
 simp only [e]
 by_cases h0 : bp S 0 = bp T 0 <;> simp only [h0, if_true, if_false, decide_true, decide_false, Bool.true_and, Bool.false_and]
 by_cases h1 : bp S 1 = bp T 1 <;> simp only [h1, if_true, if_false, decide_true, decide_false, Bool.true_and, Bool.false_and]
 by_cases h2 : bp S 2 = bp T 2 <;> simp only [h2, if_true, if_false, decide_true, decide_false, Bool.true_and, Bool.false_and]
 by_cases h3 : bp S 3 = bp T 3 <;> simp only [h3, if_true, if_false, decide_true, decide_false, Bool.true_and, Bool.false_and]
 by_cases h4 : bp S 4 = bp T 4 <;> simp only [h4, if_true, if_false, decide_true, decide_false, Bool.true_and, Bool.false_and]
 by_cases h5 : bp S 5 = bp T 5 <;> simp only [h5, if_true, if_false, decide_true, decide_false, Bool.true_and, Bool.false_and]
 by_cases h6 : bp S 6 = bp T 6 <;> simp only [h6, if_true, if_false, decide_true, decide_false]
theorem tI {S T : Nat -> Bool} : uD S T = true ↔ ∀ i, i < 448 -> S i = T i := by
 unfold uD
 simp only [Bool.and_eq_true, decide_eq_true_eq]
 constructor
 ·rintro ⟨h0, h1, h2, h3, h4, h5, h6⟩
  refine SE fun j hj => ?_
  have : j = 0 \/ j = 1 \/ j = 2 \/ j = 3 \/ j = 4 \/ j = 5 \/ j = 6 := by omega
  rcases this with rfl | rfl | rfl | rfl | rfl | rfl | rfl <;> assumption
 ·intro h
  have w : ∀ j, j < 7 -> bp S j = bp T j := fun j hj => BW fun i hi => h _ (by omega)
  exact ⟨w 0 (by omega), w 1 (by omega), w 2 (by omega), w 3 (by omega), w 4 (by omega), w 5 (by omega), w 6 (by omega)⟩
def s9 (f : (Nat -> Bool) -> Nat -> Bool) : Nat -> (Nat -> Bool) -> Nat -> Bool
 | 0, S => S
 | i + 1, S => f (s9 f i S)
section
variable {E : ak} (hE : E.fns = af.fn ag)
include hE
theorem Oq {pf : AV} (hnp : AV.plain pf = false) {f : (Nat -> Bool) -> Nat -> Bool} {K : Nat} {s : St} (S0 : Nat -> Bool)
  (hp : ∀ k, K <= k -> ∀ r tk ro rt S, au E k none pf [.agg (eQ S)] { bl := s.bl ++ r, tk, ro, rt } = some (.ret (.agg (eQ (f S))), false, { bl := s.bl ++ r, tk, ro, rt }))
  {m : Nat} (hm : ∀ i, i < m -> uD (s9 f (i + 1) S0) (s9 f i S0) = false) (hme : uD (s9 f (m + 1) S0) (s9 f m S0) = true) {k : Nat} (hk : K + m + 3 <= k) :
  au E k none (.fn ni [] []) [.agg (eQ S0), pf] s = some (.ret (.agg (eQ (s9 f m S0))), false, s) := by
 obtain ⟨k, rfl⟩ : ∃ j, k = j + 1 := ⟨k - 1, by omega⟩
 refine vY (Gz hE) rfl fun bl tk hb' => ?_
 have hb' : bl = s.bl /\ tk = s.tk := by
  rcases hb' with h | h
  ·exact h
  ·simp [AV.plainL, hnp] at h
 obtain ⟨rfl, rfl⟩ := hb'
 have q0 : ∀ (c : AB) (r : List AB), (s.bl ++ c :: r)[s.bl.length]? = some c := fun c r => by rw [ac]; rfl
 have q1 : ∀ (c d : AB) (r : List AB), (s.bl ++ c :: d :: r)[s.bl.length + 1]? = some d := fun c d r => by rw [aa]; rfl
 have s0 : ∀ (c f : AB) (r : List AB), (s.bl ++ c :: r).set s.bl.length f = s.bl ++ f :: r := fun c f r => by rw [aB]; rfl
 have s1 : ∀ (c d f : AB) (r : List AB), (s.bl ++ c :: d :: r).set (s.bl.length + 1) f = s.bl ++ c :: f :: r := fun c d f r => by rw [aj]; rfl
 have t7 := Ho
 have hp := hp k (by omega)
 simp [tM, zd, t7, aH]
 refine aA m (fun i e' st => ∃ g, e' = [(1, pf), (2, .ptr s.bl.length 0), (4, .ptr (s.bl.length + 1) 0)] /\ st = { bl := s.bl ++ .cells (eQ (s9 f i S0)) :: .cells [.int .u64 0, .int .u64 0, .int .u64 0, .int .u64 0, .int .u64 0, .int .u64 0, .int .u64 0] :: g, tk := s.tk, ro := s.bl.length, rt := s.tk.length }) (by omega) ⟨[], rfl, by simp [s9]⟩ ?_ ?_
 ·rintro i e' st hi ⟨g, rfl, rfl⟩
  have q2 : ∀ (c d f : AB), (s.bl ++ c :: d :: (g ++ [f]))[s.bl.length + (g.length + 1 + 1)]? = some f := fun c d f => by rw [aa]; simp
  have q3 : ∀ (c d f f' : AB), (s.bl ++ c :: d :: (g ++ [f])).set (s.bl.length + (g.length + 1 + 1)) f' = s.bl ++ c :: d :: (g ++ [f']) := fun c d f f' => by rw [aj]; simp
  have hro : s.bl.length <= s.bl.length + (g.length + 1 + 1) := by omega
  have hne := hm i hi
  have hag := Iv (s9 f (i + 1) S0) (s9 f i S0)
  rw [hne] at hag
  have hfs : s9 f (i + 1) S0 = f (s9 f i S0) := rfl
  rw [hfs] at hag
  simp [sF, q0, q1, q2, q3, s0, hro, t7, aH, hp, hag, hfs]
 ·rintro e' st ⟨g, rfl, rfl⟩
  have q2 : ∀ (c d f : AB), (s.bl ++ c :: d :: (g ++ [f]))[s.bl.length + (g.length + 1 + 1)]? = some f := fun c d f => by rw [aa]; simp
  have q3 : ∀ (c d f f' : AB), (s.bl ++ c :: d :: (g ++ [f])).set (s.bl.length + (g.length + 1 + 1)) f' = s.bl ++ c :: d :: (g ++ [f']) := fun c d f f' => by rw [aj]; simp
  have hro : s.bl.length <= s.bl.length + (g.length + 1 + 1) := by omega
  have hag := Iv (s9 f (m + 1) S0) (s9 f m S0)
  rw [hme] at hag
  have hfs : s9 f (m + 1) S0 = f (s9 f m S0) := rfl
  rw [hfs] at hag
  simp [sF, q0, q1, q2, q3, s1, hro, t7, aH, D5, hp, hag]
end
open Go Ab
def aX (S : Nat -> Bool) : Nat -> Nat
 | 0 => 0
 | k + 1 => aX S k + (if S k then 1 else 0)
theorem AO (S : Nat -> Bool) : ∀ k, aX S k <= k
 | 0 => Nat.le_refl _
 | k + 1 => by have := AO S k; simp only [aX]; split <;> omega
theorem DG {S T : Nat -> Bool} (h : ∀ i, S i = true -> T i = true) : ∀ k, aX S k <= aX T k
 | 0 => Nat.le_refl _
 | k + 1 => by
  have := DG h k
  simp only [aX]
  cases hs : S k with
  | true => rw [h k hs]; simp; omega
  | false => simp; omega
theorem Oi {S T : Nat -> Bool} (h : ∀ i, S i = true -> T i = true) : ∀ {k i : Nat}, i < k -> S i = false -> T i = true -> aX S k < aX T k
 | 0, i, hi, _, _ => by omega
 | k + 1, i, hi, h1, h2 => by
  simp only [aX]
  by_cases e : i = k
  ·subst e
   have := DG h i
   rw [h1, h2]; simp; omega
  ·have := Oi h (k := k) (by omega) h1 h2
   cases hs : S k with
   | true => rw [h k hs]; simp; omega
   | false => simp; omega
theorem Aa (f : (Nat -> Bool) -> Nat -> Bool) (S : Nat -> Bool) : ∀ i, s9 f (i + 1) S = s9 f i (f S)
 | 0 => rfl
 | i + 1 => by
  have := Aa f S i
  show f (s9 f (i + 1) S) = f (s9 f i (f S))
  rw [this]
theorem LP {f : (Nat -> Bool) -> Nat -> Bool} (hf : ∀ S i, S i = true -> f S i = true) : ∀ (d : Nat) (S : Nat -> Bool), 448 <= d + aX S 448 ->
  ∃ m, m <= d /\ (∀ i, i < m -> uD (s9 f (i + 1) S) (s9 f i S) = false) /\ uD (s9 f (m + 1) S) (s9 f m S) = true
 | d, S, h => by
  cases hs : uD (f S) S with
  | true => exact ⟨0, by omega, fun i hi => by omega, hs⟩
  | false =>
   have hne : ¬ ∀ i, i < 448 -> f S i = S i := fun hall => by rw [tI.2 hall] at hs; cases hs
   have hex : ∃ i, i < 448 /\ S i = false /\ f S i = true := by
    refine Classical.byContradiction fun hno => hne fun i hi => ?_
    cases h1 : S i with
    | true => exact hf S i h1
    | false =>
     cases h2 : f S i with
     | false => rfl
     | true => exact absurd ⟨i, hi, h1, h2⟩ hno
   obtain ⟨i, hi, h1, h2⟩ := hex
   have hlt := Oi (hf S) hi h1 h2
   have hle := AO (f S) 448
   cases d with
   | zero => omega
   | succ d =>
    obtain ⟨m, a1, a2, a3⟩ := LP hf d (f S) (by omega)
    refine ⟨m + 1, by omega, fun j hj => ?_, ?_⟩
    ·cases j with
     | zero => exact hs
     | succ j => rw [Aa, Aa f S j]; exact a2 j (by omega)
    ·rw [Aa, Aa f S m]; exact a3
theorem QV {f : (Nat -> Bool) -> Nat -> Bool} (hf : ∀ S i, S i = true -> f S i = true) (S : Nat -> Bool) :
  ∃ m, m <= 448 /\ (∀ i, i < m -> uD (s9 f (i + 1) S) (s9 f i S) = false) /\ uD (s9 f (m + 1) S) (s9 f m S) = true := LP hf 448 S (by omega)
theorem uI {S : Nat -> Bool} {n i : Nat} (h : S i = true) : tx S n i = true := by simp only [tx]; split <;> simp [h]
theorem Dp {S : Nat -> Bool} {n : Nat} (h : S n = true) : tx S n = S := by
 funext i; simp only [tx]; split
 ·rename_i e; subst e; exact h.symm
 ·rfl
theorem Hk {S : Nat -> Bool} {e : Ed} {i : Nat} (h : S i = true) : BS S e i = true := by
 unfold BS; split
 ·exact uI h
 ·exact h
theorem ji : ∀ (l : List Ed) (S : Nat -> Bool) (i : Nat), S i = true -> eK l S i = true
 | [], _, _, h => h
 | e :: l, S, i, h => ji l (BS S e) i (Hk h)
theorem Hl {A S : Nat -> Bool} {e : Ed} {i : Nat} (h : S i = true) : vv A S e i = true := by
 unfold vv; split
 ·split
  ·exact uI (uI h)
  ·exact uI h
 ·exact h
theorem iu (A : Nat -> Bool) : ∀ (l : List Ed) (S : Nat -> Bool) (i : Nat), S i = true -> eq A l S i = true
 | [], _, _, h => h
 | e :: l, S, i, h => iu A l (vv A S e) i (Hl h)
open Go Ab Go.RowKit
set_option maxRecDepth 10000
def pt (a b : Ed) : Bool := a.fr == b.fr && a.to == b.to && a.kind == b.kind && a.inner == b.inner && dB [a.sym] [b.sym] == 0 && dB a.exc b.exc == 0
section
variable {E : ak} (hE : E.fns = af.fn ag)
include hE
theorem Sk {a b : Ed} {x y : AV} (ha : jq a x) (hb : jq b y) (hB : Be a) : bG 4000000 E (.fn qx [] []) [x, y] (.bool (pt a b)) := by
 obtain ⟨kv, ev, rfl, hkv, hev⟩ := ha
 obtain ⟨kv', ev', rfl, hkv', hev'⟩ := hb
 have g1 := Gn hE (Rt.of hkv) (Rt.of hkv') hB.1
 have g2 := H7 hE hev hev'
 have hn : aV a.exc <= 1048576 := hB.2.1
 obtain ⟨o1, x1, rfl, _⟩ := hkv.len
 obtain ⟨o2, x2, rfl, _⟩ := hkv'.len
 obtain ⟨o3, x3, rfl, _⟩ := hev.len
 obtain ⟨o4, x4, rfl, _⟩ := hev'.len
 refine bG.byW (GC hE) rfl rfl (K := 3999999) fun k hk bl tk => ?_
 have g1 := g1 k (by omega)
 have g2 := g2 k (by omega)
 have q0 : ∀ (c : AB) (r : List AB), (bl ++ c :: r)[bl.length]? = some c := fun c r => by rw [ac]; rfl
 have q1 : ∀ (c d : AB) (r : List AB), (bl ++ c :: d :: r)[bl.length + 1]? = some d := fun c d r => by rw [aa]; rfl
 unfold pt
 cases a1 : (a.fr == b.fr) with
 | false => simp [gz, i8, q0, q1, a1]
 | true =>
 cases a2 : (a.to == b.to) with
 | false => simp [gz, i8, q0, q1, a1, a2]
 | true =>
 cases a3 : (a.kind == b.kind) with
 | false => simp [gz, i8, q0, q1, a1, a2, a3]
 | true =>
 cases a4 : (a.inner == b.inner) with
 | false => simp [gz, i8, q0, q1, a1, a2, a3, a4]
 | true =>
 cases a5 : (dB [a.sym] [b.sym] == 0) with
 | false => simp [gz, i8, q0, q1, a1, a2, a3, a4, a5, g1]
 | true => simp [gz, i8, q0, q1, a1, a2, a3, a4, a5, g1, g2]
theorem QP {a b : Ed} {x y : AV} (ha : jq a x) (hb : jq b y) (hB : Be a) : bG 4000000 E (.fn fU [] []) [x, y] (.bool (pt a b)) := by
 obtain ⟨kv, ev, rfl, hkv, hev⟩ := ha
 obtain ⟨kv', ev', rfl, hkv', hev'⟩ := hb
 have g1 := zE hE (Rt.of hkv) (Rt.of hkv') hB.1
 have g2 := xa hE hev hev'
 have hn : aV a.exc <= 1048576 := hB.2.1
 obtain ⟨o1, x1, rfl, _⟩ := hkv.len
 obtain ⟨o2, x2, rfl, _⟩ := hkv'.len
 obtain ⟨o3, x3, rfl, _⟩ := hev.len
 obtain ⟨o4, x4, rfl, _⟩ := hev'.len
 refine bG.byW (re hE) rfl rfl (K := 3999999) fun k hk bl tk => ?_
 have g1 := g1 k (by omega)
 have g2 := g2 k (by omega)
 have q0 : ∀ (c : AB) (r : List AB), (bl ++ c :: r)[bl.length]? = some c := fun c r => by rw [ac]; rfl
 have q1 : ∀ (c d : AB) (r : List AB), (bl ++ c :: d :: r)[bl.length + 1]? = some d := fun c d r => by rw [aa]; rfl
 unfold pt
 cases a1 : (a.fr == b.fr) with
 | false => simp [bM, dl, q0, q1, a1]
 | true =>
 cases a2 : (a.to == b.to) with
 | false => simp [bM, dl, q0, q1, a1, a2]
 | true =>
 cases a3 : (a.kind == b.kind) with
 | false => simp [bM, dl, q0, q1, a1, a2, a3]
 | true =>
 cases a4 : (a.inner == b.inner) with
 | false => simp [bM, dl, q0, q1, a1, a2, a3, a4]
 | true =>
 cases a5 : (dB [a.sym] [b.sym] == 0) with
 | false => simp [bM, dl, q0, q1, a1, a2, a3, a4, a5, g1]
 | true => simp [bM, dl, q0, q1, a1, a2, a3, a4, a5, g1, g2]
theorem CY {e : Ed} {x : AV} (he : jq e x) : bG 1 E (.fn dQ [] []) [x] (.bool (ET e)) := by
 obtain ⟨kv, ev, rfl, hkv, hev⟩ := he
 obtain ⟨oev, xs, rfl, ⟨hm1, _⟩, h1⟩ := hev
 have hl1 := h1.length
 refine bG.byW (uR hE) rfl rfl (K := 0) fun k hk bl tk => ?_
 have q0 : ∀ (c : AB) (r : List AB), (bl ++ c :: r)[bl.length]? = some c := fun c r => by rw [ac]; rfl
 unfold ET
 cases k2 : (e.kind != 2) with
 | true => simp [fD, jI, q0, k2]
 | false => simp [fD, jI, q0, k2, hl1]
end
open Go Ab Go.RowKit
set_option maxRecDepth 10000
def db (n : Nat) (S : Nat -> Bool) : List AV := (List.range n).map fun i => .bool (S i)
@[simp] theorem CF (n : Nat) (S : Nat -> Bool) : (db n S).length = n := by simp [db]
theorem bV {n i : Nat} (S : Nat -> Bool) (h : i < n) : (db n S)[i]? = some (.bool (S i)) := by simp [db, h]
theorem Dj {α : Type} (x : α) : ∀ n, bE x n = List.replicate n x
 | 0 => rfl
 | n + 1 => by simp [bE, Dj x n, List.replicate_succ]
theorem FV (n : Nat) : (bE [AV.bool false] n).flatten = db n fun _ => false := by
 rw [Dj]
 apply List.ext_getElem?
 intro i
 simp [db, List.getElem?_replicate]
 by_cases h : i < n <;> simp [h]
theorem vV {n i : Nat} (S : Nat -> Bool) (h : i < n) : (db n S).take i ++ AV.bool true :: (db n S).drop (i + 1) = db n (tx S i) := by
 apply List.ext_getElem?
 intro j
 rw [List.getElem?_append]
 simp only [List.length_take, CF, show min i n = i by omega]
 by_cases h1 : j < i
 ·rw [if_pos h1, List.getElem?_take_of_lt h1, bV _ (by omega), bV _ (by omega)]
  simp [tx, show j ≠ i by omega]
 ·rw [if_neg h1]
  by_cases h2 : j = i
  ·subst h2
   rw [Nat.sub_self, bV _ h]; simp [tx]
  ·obtain ⟨q, hq⟩ : ∃ q, j - i = q + 1 := ⟨j - i - 1, by omega⟩
   rw [hq, List.getElem?_cons_succ, List.getElem?_drop, show i + 1 + q = j by omega]
   by_cases h3 : j < n
   ·rw [bV _ h3, bV _ h3]; simp [tx, h2]
   ·rw [List.getElem?_eq_none (by simp; omega), List.getElem?_eq_none (by simp; omega)]
section
variable {E : ak} (hE : E.fns = af.fn ag)
include hE
theorem H3 {a : Au} {x : AV} {cs : List AV} (ha : tU a x) (hcs : x = .agg cs) {n : Nat} (hn : a.n = n) (hn2 : n <= 1048576) (hf : ∀ f ∈ a.fin, 0 <= f /\ f < a.n) (hb1 : a.fin.length <= 1048576) {s : St} (hro : s.ro <= s.bl.length) {k : Nat} (hk : 1048580 <= k) :
  au E k none (.fn iN [] []) [x] s = some (.ret (.msl (s.bl.length + 1) 0 1 n), false, { s with bl := s.bl ++ [.cells cs, .cells (db n (oi a.fin))] }) := by
 obtain ⟨k, rfl⟩ : ∃ j, k = j + 1 := ⟨k - 1, by omega⟩
 obtain ⟨of, oe, ys, rfl, _⟩ := ha
 cases hcs
 have q0 : ∀ (c : AB) (r : List AB), (s.bl ++ c :: r)[s.bl.length]? = some c := fun c r => by rw [ac]; rfl
 have q1 : ∀ (c d : AB) (r : List AB), (s.bl ++ c :: d :: r)[s.bl.length + 1]? = some d := fun c d r => by rw [aa]; rfl
 have s1 : ∀ (c d f : AB) (r : List AB), (s.bl ++ c :: d :: r).set (s.bl.length + 1) f = s.bl ++ c :: f :: r := fun c d f r => by rw [aj]; rfl
 have hro1 : s.ro <= s.bl.length + 1 := by omega
 have hmo : n <= aO := by unfold aO; omega
 have hmo' : (n : Int) <= (aO : Int) := by omega
 have z0 := FV n
 obtain ⟨v, s', h1, rfl, rfl⟩ := cI (xk hE) (first := []) (caps := []) (args := [.agg [.int .i64 a.n, .int .i64 a.start, .sl of 1 (ao a.fin), .sl oe 8 ys]]) rfl (k := k) (s := s) (Post := fun v s' => v = .msl (s.bl.length + 1) 0 1 n /\ s' = { s with bl := s.bl ++ [.cells [.int .i64 a.n, .int .i64 a.start, .sl of 1 (ao a.fin), .sl oe 8 ys], .cells (db n (oi a.fin))] }) (by
  simp [lx, pW, jk, q0, q1, hn, hmo, hmo', z0]
  refine aA a.fin.length (fun i e' st => e' = [(1, .ptr s.bl.length 0), (3, .msl (s.bl.length + 1) 0 1 n), (4, .int .i64 i)] /\ st = { s with bl := s.bl ++ [.cells [.int .i64 n, .int .i64 a.start, .sl of 1 (ao a.fin), .sl oe 8 ys], .cells (db n (oi (a.fin.take i)))] }) (by omega) ⟨rfl, rfl⟩ ?_ ?_
  ·rintro i e' st hi ⟨rfl, rfl⟩
   obtain ⟨t, ht⟩ : ∃ t, a.fin[i]? = some t := ⟨_, List.getElem?_eq_getElem (by omega)⟩
   have hx := ep ht
   obtain ⟨h0, h1⟩ := hf t (List.mem_of_getElem? ht)
   obtain ⟨hi1, hx1⟩ := List.getElem?_eq_some_iff.1 hx
   obtain ⟨m, rfl⟩ : ∃ m : Nat, t = m := ⟨t.toNat, by omega⟩
   have hmn : m < n := by omega
   have hmn1 : m + 1 <= n := by omega
   have e1 : et (.int .i64 i) a.fin.length = some i := av hi
   have e2 : et (.int .i64 m) n = some m := av hmn
   have hwr : IntKind.wrap .i64 ((i : Int) + 1) = i + 1 := ar (by omega) (by omega)
   have hs : oi (a.fin.take (i + 1)) = tx (oi (a.fin.take i)) m := by rw [oi, ng ht]; rfl
   have hu := vV (oi (a.fin.take i)) hmn
   simp [kO, hi, e1, e2, hx, hx1, hwr, q0, q1, s1, hs, hu, hmn, hmn1, hro1]
  ·rintro e' st ⟨rfl, rfl⟩
   rw [List.take_of_length_le (Nat.le_refl _)]
   simp [kO, q0, q1, cD])
 exact h1
end
end Ab.C
