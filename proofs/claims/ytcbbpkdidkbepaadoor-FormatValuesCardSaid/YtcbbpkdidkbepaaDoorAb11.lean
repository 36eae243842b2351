/- What 'format.within' and 'format.inside' answer. No condition but the table. -/
import Derived.Test.YtcbbpkdidkbepaaDoorAb10
import Derived.Test.YtcbbpkdidkbepaaDoorAb09
set_option linter.all false
namespace Ab.R
open Go Ab Go.RowKit
set_option maxRecDepth 10000
set_option linter.unusedSimpArgs false
set_option linter.unusedVariables false

def frontF (p : Tm → Tm → Bool) : List Tm → List Tm → Bool
  | _, [] => true
  | [], u :: us => u.kind == 6 && frontF p [] us
  | t :: ts, u :: us => p t u && frontF p ts us
def rearOf (a : Ls) : List Tm := if a.op then a.rear else a.front
def withinL (p : Tm → Tm → Bool) (f g : List Tm) : Bool :=
  if (splitT g).op = false then !(splitT f).op && eqF p f g
  else if (splitT f).front.length + (splitT f).rear.length < (splitT g).front.length + (splitT g).rear.length then false
  else frontF p (splitT f).front (splitT g).front && frontF p (rearOf (splitT f)).reverse (splitT g).rear.reverse
def insideT : Nat → Tm → Tm → Bool
  | 0, _, u => u.kind == 6
  | n + 1, t, u => if u.kind = 6 then true else if u.kind = 5 then t.kind == 5 else t.kind == 4 && withinL (insideT n) t.kids u.kids

theorem frontF_step (p : Tm → Tm → Bool) {ts us : List Tm} {i : Nat} {u : Tm} (hu : us[i]? = some u) :
    frontF p (ts.drop i) (us.drop i) = ((match ts[i]? with | some t => p t u | none => u.kind == 6) && frontF p (ts.drop (i + 1)) (us.drop (i + 1))) := by
  obtain ⟨hi, hu1⟩ := List.getElem?_eq_some_iff.1 hu
  rw [List.drop_eq_getElem_cons hi, hu1]
  by_cases ht : i < ts.length
  · rw [List.drop_eq_getElem_cons ht, List.getElem?_eq_getElem ht]; rfl
  · rw [List.drop_of_length_le (l := ts) (i := i) (by omega), List.getElem?_eq_none (by omega), List.drop_of_length_le (l := ts) (i := i + 1) (by omega)]; rfl

theorem frontF_end (p : Tm → Tm → Bool) (ts us : List Tm) {n : Nat} (h : us.length ≤ n) : frontF p (ts.drop n) (us.drop n) = true := by
  rw [List.drop_of_length_le h]; cases ts.drop n <;> rfl

section
variable {E : IEnv} (hE : E.fns = Table.fn table)
include hE
theorem within_rear {R U : List Tm} {or_ ob2 : Own} {xr zb : List AV} (hxr : Rts R xr) (hzb : Rts U zb) (hm : R.length < most) (hm2 : U.length < most) (p : Tm → Tm → Bool) {k : Nat}
    (hK : ∀ (i j : Nat) t u, R[i]? = some t → U[j]? = some u → ∃ x y, xr[i]? = some x ∧ zb[j]? = some y ∧ Rt t x ∧ Rt u y ∧ ∀ s, callA E k none (.fn n_format_inside [] []) [x, y] s = some (.ret (.bool (p t u)), false, s))
    (hk : zb.length < k) {bl g : List AB} {tk : List Nat} {C5 : AB} {va vb : AV} {Q : Pst} {e : Env} (e4 : e.get 4 = .ptr bl.length 0) (e6 : e.get 6 = .ptr (bl.length + 2) 0) (e9 : e.get 9 = .ptr (bl.length + (g.length + 3)) 0)
    (e77 : e.get 77 = .fn n_slices_Backward___api_Term_api_Term__1 [] [.ptr (bl.length + (g.length + 4)) 0])
    (q1 : frontF p R.reverse U.reverse = true → ∀ L r, Q .normal e { bl := bl ++ (.cells [.bool false] :: C5 :: .cells [va, vb, .sl ob2 3 zb] :: (g ++ (.cells [.sl or_ 3 xr] :: .cells [.sl ob2 3 zb] :: L :: r))), tk, ro := bl.length, rt := tk.length })
    (q2 : frontF p R.reverse U.reverse = false → ∀ L r, Q .ret e { bl := bl ++ (.cells [.bool false] :: C5 :: .cells [va, vb, .sl ob2 3 zb] :: (g ++ (.cells [.sl or_ 3 xr] :: .cells [.sl ob2 3 zb] :: L :: r))), tk, ro := bl.length, rt := tk.length }) :
    wp E (callA E (k + 2)) (k + 2) false (.rangeFn (.t 77) [78, 79] (.seq (.region [⟨(some 10), .mov (.t 78), none, [], false⟩] [10] false) (.region [⟨(some 11), .alloc [.int .i64 0, .str [], .sl .nil 3 []], none, [], false⟩, ⟨none, .store 3 (.t 11) (.t 79), none, [], false⟩] [11] false)) l1_format_within) Q e
      { bl := bl ++ (.cells [.bool false] :: C5 :: .cells [va, vb, .sl ob2 3 zb] :: (g ++ [.cells [.sl or_ 3 xr], .cells [.sl ob2 3 zb]])), tk, ro := bl.length, rt := tk.length } := by
  have hmx : maxLen = 9223372036854775807 := rfl
  have hmm : most = 1073741824 := rfl
  have hlr := hxr.length
  have hlu := hzb.length
  have hcal := c_format_inside hE [] []
  let L0 : ALoop := { st := .ready, pend := none, env := e, ps := [78, 79], assign := (.seq (.region [⟨(some 10), .mov (.t 78), none, [], false⟩] [10] false) (.region [⟨(some 11), .alloc [.int .i64 0, .str [], .sl .nil 3 []], none, [], false⟩, ⟨none, .store 3 (.t 11) (.t 79), none, [], false⟩] [11] false)), body := l1_format_within }
  let S : AB → List AB → St := fun L r => { bl := bl ++ (.cells [.bool false] :: C5 :: .cells [va, vb, .sl ob2 3 zb] :: (g ++ (.cells [.sl or_ 3 xr] :: .cells [.sl ob2 3 zb] :: L :: r))), tk, ro := bl.length, rt := tk.length }
  refine wp_range ?_
  have hlen : (bl ++ (AB.cells [.bool false] :: C5 :: .cells [va, vb, .sl ob2 3 zb] :: (g ++ [.cells [.sl or_ 3 xr], .cells [.sl ob2 3 zb]]))).length = bl.length + (g.length + 5) := by simp
  have hb := call_Backward_1 hE ob2 zb (by omega) (k := k + 1) (c := bl.length + (g.length + 4)) (yv := .yield (bl.length + (g.length + 5))) (s0 := S (.loop L0) [])
    (P := fun j s => ∃ r, s = S (.loop L0) r ∧ frontF p R.reverse U.reverse = frontF p (R.reverse.drop j) (U.reverse.drop j))
    (D := fun s => ∃ r, s = S (.loop { L0 with st := .done, pend := some .ret }) r ∧ frontF p R.reverse U.reverse = false)
    (by rintro j s ⟨r, rfl, _⟩; simp [S, append_get, append_get0])
    (by rintro s ⟨r, rfl, _⟩; simp [S])
    (by
      intro x hx
      obtain ⟨i, hi⟩ := List.mem_iff_getElem?.1 hx
      obtain ⟨h1, h2⟩ := List.getElem?_eq_some_iff.1 hi
      obtain ⟨y, h3, h4⟩ := hzb.get (i := i) (t := U[i]'(by omega)) (List.getElem?_eq_getElem (by omega))
      rw [hi] at h3; cases h3
      obtain ⟨_, h5, _⟩ := h4.open
      exact ⟨_, _, _, h5⟩)
    (by
      rintro j s x hj hx ⟨r, rfl, hq⟩
      have hju : j < U.reverse.length := by simp; omega
      obtain ⟨u, hu⟩ : ∃ u, U.reverse[j]? = some u := ⟨_, List.getElem?_eq_getElem hju⟩
      have hu' : U[zb.length - 1 - j]? = some u := by rw [List.getElem?_reverse (by omega)] at hu; rw [← hu, hlu]
      have hst := frontF_step p (ts := R.reverse) hu
      obtain ⟨x', hx', hrx⟩ := hzb.get hu'
      rw [hx] at hx'; cases hx'
      obtain ⟨kx, rfl, hkx⟩ := hrx.open
      have h1 : IntKind.wrap .i64 ((zb.length : Int) - (zb.length - 1 - j)) = (j : Int) + 1 := by rw [wrapIn (by omega) (by omega)]; omega
      obtain ⟨m, hm'⟩ : ∃ m : Int, m = (xr.length : Int) - (j + 1) := ⟨_, rfl⟩
      have h2 : IntKind.wrap .i64 ((xr.length : Int) - ((j : Int) + 1)) = m := by rw [wrapIn (by omega) (by omega), hm']
      refine call_round (L := L0) (by simp [S, append_get, append_get0]) rfl rfl (by simp [S]) ?_
      by_cases hjr : j < R.length
      · obtain ⟨t, ht⟩ : ∃ t, R.reverse[j]? = some t := ⟨_, List.getElem?_eq_getElem (by simp; omega)⟩
        have ht' : R[xr.length - 1 - j]? = some t := by rw [List.getElem?_reverse (by omega)] at ht; rw [← ht, hlr]
        obtain ⟨a, b, hxa, hyb, hra, hrb, hcall⟩ := hK _ _ _ _ ht' hu'
        rw [hx] at hyb; cases hyb
        obtain ⟨ka, rfl, hka⟩ := hra.open
        have hge : 0 ≤ m := by omega
        have e1 : idx (.int .i64 m) xr.length = some (xr.length - 1 - j) := by simp [idx]; omega
        obtain ⟨hlt', hx1⟩ := List.getElem?_eq_some_iff.1 hxa
        simp only [ht] at hst
        cases hp : p t u with
        | true =>
          rw [hp] at hst hcall
          simp [L0, S, l1_format_within, putAll, Env.get_put, e4, e6, e9, append_get, append_get0, append_set, append_set0, h1, h2, hge, e1, hlt', hx1, hxa, hcall, hcal]
          rw [hq, hst, Bool.true_and]
        | false =>
          rw [hp] at hst hcall
          simp [L0, S, l1_format_within, putAll, Env.get_put, e4, e6, e9, append_get, append_get0, append_set, append_set0, h1, h2, hge, e1, hlt', hx1, hxa, hcall, hcal]
          rw [hq, hst, Bool.false_and]
      · have hge : ¬ 0 ≤ m := by omega
        have ht : R.reverse[j]? = none := List.getElem?_eq_none (by simp; omega)
        simp only [ht] at hst
        cases hp : u.kind == 6 with
        | true =>
          have hp' : u.kind = 6 := by simpa using hp
          rw [hp] at hst
          simp [L0, S, l1_format_within, putAll, Env.get_put, e4, e6, e9, append_get, append_get0, append_set, append_set0, h1, h2, hge, hp']
          rw [hq, hst, Bool.true_and]
        | false =>
          have hp' : ¬ u.kind = 6 := by simpa using hp
          have hp2 : (u.kind != 6) = true := by simpa using hp
          rw [hp] at hst
          simp [L0, S, l1_format_within, putAll, Env.get_put, e4, e6, e9, append_get, append_get0, append_set, append_set0, h1, h2, hge, hp2]
          rw [hq, hst, Bool.false_and])
    ⟨[], rfl, by simp⟩ (by omega)
  obtain ⟨v, s', hcl, hor⟩ := hb
  refine ⟨v, false, s', ?_, ?_⟩
  · simp only [hlen, Opd.ev, e77]
    rw [← hcl]
    simp [S, L0, St.push]
  · rw [hlen]
    rcases hor with ⟨r, rfl, hq⟩ | ⟨r, rfl, hq⟩
    · rw [frontF_end p _ _ (by simp; omega)] at hq
      refine ⟨L0, by simp [S, append_get, append_get0], .inl ⟨rfl, rfl, ?_⟩⟩
      simpa [S, L0, append_set, append_set0] using q1 hq _ r
    · refine ⟨{ L0 with st := .done, pend := some .ret }, by simp [S, append_get, append_get0], .inr (.inr ⟨rfl, rfl, ?_⟩)⟩
      simpa [S, L0, append_set, append_set0] using q2 hq _ r

theorem fn_within {ts us : List Tm} {v w : AV} (hv : Sl ts v) (hw : Sl us w) (hm : ts.length < most) (hm2 : us.length < most) (p : Tm → Tm → Bool)
    (hf : ∀ t u x y, t ∈ ts → u ∈ us → Rt t x → Rt u y → Fn E (.fn n_format_inside [] []) [x, y] (.bool (p t u))) : Fn E (.fn n_format_within [] []) [v, w] (.bool (withinL p ts us)) := by
  have hmx : maxLen = 9223372036854775807 := rfl
  have hmm : most = 1073741824 := rfl
  obtain ⟨ra, ⟨K1, hK1⟩, hra⟩ := fn_split hE hv
  obtain ⟨rb, ⟨K2, hK2⟩, hrb⟩ := fn_split hE hw
  have hsa := splitT_le ts
  have hsb := splitT_le us
  have hcal := c_format_inside hE [] []
  obtain ⟨fa, rra, rfl, ha1, ha2⟩ := hra
  obtain ⟨fb, rrb, rfl, hb1, hb2⟩ := hrb
  by_cases cb : (splitT us).op = false
  · obtain ⟨K3, hK3⟩ := fn_EqualFunc hE hv hw (.fn n_format_inside [] []) p hf
    have hq : withinL p ts us = (!(splitT ts).op && eqF p ts us) := by unfold withinL; rw [if_pos cb]
    rw [hq]
    refine Fn.byW (h_format_within hE) rfl rfl ⟨K1 + K2 + K3, fun k hk bl tk => ?_⟩
    have h1 := hK1 k (by omega)
    have h2 := hK2 k (by omega)
    have h3 := hK3 k (by omega)
    rw [cb] at h2
    cases ca : (splitT ts).op <;> rw [ca] at h1 <;> simp [F_format_within, b_format_within, h1, h2, h3]
  have cb' : (splitT us).op = true := by simpa using cb
  obtain ⟨oa1, xa, rfl, hra1⟩ := ha1.len
  obtain ⟨oa2, za, rfl, hra2⟩ := ha2.len
  obtain ⟨ob1, xb, rfl, hrb1⟩ := hb1.len
  obtain ⟨ob2, zb, rfl, hrb2⟩ := hb2.len
  have w1 : IntKind.wrap .i64 ((xa.length : Int) + za.length) = (xa.length : Int) + za.length := wrapIn (by omega) (by omega)
  have w2 : IntKind.wrap .i64 ((xb.length : Int) + zb.length) = (xb.length : Int) + zb.length := wrapIn (by omega) (by omega)
  rw [cb'] at hK2
  by_cases cl : (splitT ts).front.length + (splitT ts).rear.length < (splitT us).front.length + (splitT us).rear.length
  · have hq : withinL p ts us = false := by unfold withinL; rw [if_neg cb, if_pos cl]
    have cl' : (xa.length : Int) + za.length < (xb.length : Int) + zb.length := by omega
    rw [hq]
    refine Fn.byW (h_format_within hE) rfl rfl ⟨K1 + K2, fun k hk bl tk => ?_⟩
    simp [F_format_within, b_format_within, hK1 k (by omega), hK2 k (by omega), w1, w2, cl']
  have cl' : ¬ (xa.length : Int) + za.length < (xb.length : Int) + zb.length := by omega
  obtain ⟨_, _, e, _, hxa⟩ := ha1; cases e
  obtain ⟨_, _, e, _, hza⟩ := ha2; cases e
  obtain ⟨_, _, e, _, hxb⟩ := hb1; cases e
  obtain ⟨_, _, e, _, hzb⟩ := hb2; cases e
  have hq : withinL p ts us = (frontF p (splitT ts).front (splitT us).front && frontF p (rearOf (splitT ts)).reverse (splitT us).rear.reverse) := by unfold withinL; rw [if_neg cb, if_neg cl]
  rw [hq]
  obtain ⟨K3, hK3⟩ := pair_all hxa hxb fun t u x y ht hu => hf t u x y (splitT_front ht) (splitT_front hu)
  obtain ⟨or_, xr, hsel⟩ : ∃ or_ xr, (if (splitT ts).op then AV.sl oa2 3 za else .sl oa1 3 xa) = .sl or_ 3 xr := by split <;> exact ⟨_, _, rfl⟩
  have hxr : Rts (rearOf (splitT ts)) xr := by
    unfold rearOf; revert hsel; split <;> (intro h; cases h; assumption)
  obtain ⟨K4, hK4⟩ := pair_all hxr hzb fun t u x y ht hu => hf t u x y (by unfold rearOf at ht; split at ht; exact splitT_rear ht; exact splitT_front ht) (splitT_rear hu)
  have hrl : (rearOf (splitT ts)).length ≤ ts.length := by unfold rearOf; split <;> omega
  have hlxa := hxa.length
  have hlxb := hxb.length
  refine Fn.byW (h_format_within hE) rfl rfl ⟨K1 + K2 + K3 + K4 + xb.length + zb.length + 10, fun k hk bl tk => ?_⟩
  obtain ⟨k, rfl⟩ : ∃ j, k = j + 2 := ⟨k - 2, by omega⟩
  have h1 := hK1 (k + 2) (by omega)
  have h2 := hK2 (k + 2) (by omega)
  simp [F_format_within, b_format_within, h1, h2, w1, w2, cl']
  refine wp_loop xb.length (fun i e s => ∃ g, frontF p (splitT ts).front (splitT us).front = frontF p ((splitT ts).front.drop i) ((splitT us).front.drop i) ∧
    e = [(4, .ptr bl.length 0), (5, .ptr (bl.length + 1) 0), (6, .ptr (bl.length + 2) 0), (44, .sl ob1 3 xb), (45, .int .i64 xb.length), (46, .int .i64 i)] ∧
    s = { bl := bl ++ (.cells [.bool false] :: .cells [.bool (splitT ts).op, .sl oa1 3 xa, .sl oa2 3 za] :: .cells [.bool true, .sl ob1 3 xb, .sl ob2 3 zb] :: g), tk, ro := bl.length, rt := tk.length }) (by omega) (by simp) ?_ ?_
  · rintro i e s hi ⟨g, hq, rfl, rfl⟩
    obtain ⟨u, hu⟩ : ∃ u, (splitT us).front[i]? = some u := ⟨_, List.getElem?_eq_getElem (by omega)⟩
    have hst := frontF_step p (ts := (splitT ts).front) hu
    obtain ⟨y, hy, hry⟩ := hxb.get hu
    obtain ⟨ky, rfl, hky⟩ := hry.open
    obtain ⟨_, hy1⟩ := List.getElem?_eq_some_iff.1 hy
    have e2 : idx (.int .i64 i) xb.length = some i := idx_nat hi
    have hwr : IntKind.wrap .i64 ((i : Int) + 1) = i + 1 := wrapIn (by omega) (by omega)
    by_cases hia : i < xa.length
    · obtain ⟨t, ht⟩ : ∃ t, (splitT ts).front[i]? = some t := ⟨_, List.getElem?_eq_getElem (by omega)⟩
      obtain ⟨x', y', hx, hy', hrx, _, hcall⟩ := hK3 (k + 2) (by omega) i i t u ht hu
      rw [hy] at hy'; cases hy'
      obtain ⟨kx, rfl, hkx⟩ := hrx.open
      obtain ⟨_, hx1⟩ := List.getElem?_eq_some_iff.1 hx
      have e1 : idx (.int .i64 i) xa.length = some i := idx_nat hia
      simp only [ht] at hst
      cases hp : p t u with
      | true =>
        rw [hp] at hst hcall
        simp [l0_format_within, hi, hia, e1, e2, hx1, hy1, append_get, append_get0, append_set, append_set0, hcall, hcal, hwr]
        rw [hq, hst, Bool.true_and]
      | false =>
        rw [hp] at hst hcall
        simp [l0_format_within, hi, hia, e1, e2, hx1, hy1, append_get, append_get0, append_set, append_set0, hcall, hcal, hwr]
        rw [hq, hst, Bool.false_and]
        intro h; cases h
    · have ht : (splitT ts).front[i]? = none := List.getElem?_eq_none (by omega)
      simp only [ht] at hst
      cases hp : u.kind == 6 with
      | true =>
        have hp' : u.kind = 6 := by simpa using hp
        rw [hp] at hst
        simp [l0_format_within, hi, hia, e2, hy1, append_get, append_get0, append_set, append_set0, hp', hwr]
        rw [hq, hst, Bool.true_and]
      | false =>
        have hp' : (u.kind != 6) = true := by simpa using hp
        rw [hp] at hst
        simp [l0_format_within, hi, hia, e2, hy1, append_get, append_get0, append_set, append_set0, hp', hwr]
        rw [hq, hst, Bool.false_and]
        intro h; cases h
  · rintro e s ⟨g, hq, rfl, rfl⟩
    rw [frontF_end p _ _ (by omega)] at hq
    cases ca : (splitT ts).op
    · simp [ca] at hsel
      obtain ⟨rfl, rfl⟩ := hsel
      simp [l0_format_within, ca, append_get, append_get0, append_set, append_set0, call_Backward hE _ _ (k + 2) (by omega)]
      refine within_rear hE hxr hzb (by omega) (by omega) p (hK4 k (by omega)) (by omega) (by simp) (by simp) (by simp) (by simp) (fun h L r => ?_) (fun h L r => ?_)
      · simp [hq, h, append_get, append_get0, append_set, append_set0]
      · simp [hq, h, append_get, append_get0, append_set, append_set0]
    · simp [ca] at hsel
      obtain ⟨rfl, rfl⟩ := hsel
      simp [l0_format_within, ca, append_get, append_get0, append_set, append_set0, call_Backward hE _ _ (k + 2) (by omega)]
      refine within_rear hE hxr hzb (by omega) (by omega) p (hK4 k (by omega)) (by omega) (by simp) (by simp) (by simp) (by simp) (fun h L r => ?_) (fun h L r => ?_)
      · simp [hq, h, append_get, append_get0, append_set, append_set0]
      · simp [hq, h, append_get, append_get0, append_set, append_set0]

theorem fn_inside : ∀ (n : Nat) {t u : Tm} {x y : AV}, nT t ≤ n → nT u ≤ n → n < most → Rt t x → Rt u y → Fn E (.fn n_format_inside [] []) [x, y] (.bool (insideT n t u))
  | 0, t, u, x, y, ht, hu, hm, hx, hy => by have := nT_pos t; omega
  | n + 1, t, u, x, y, ht, hu, hm, hx, hy => by
    have hmm : most = 1073741824 := rfl
    rw [nT_eq] at ht hu
    have h1 := length_le_nTs t.kids
    have h2 := length_le_nTs u.kids
    obtain ⟨kx, rfl, hkx⟩ := hx.open
    obtain ⟨ky, rfl, hky⟩ := hy.open
    obtain ⟨K, hK⟩ := fn_within hE hkx hky (by omega) (by omega) (insideT n) fun a b c d ha hb hc hd => fn_inside n (by have := nT_mem ha; omega) (by have := nT_mem hb; omega) (by omega) hc hd
    refine Fn.byW (h_format_inside hE) rfl rfl ⟨K, fun k hk bl tk => ?_⟩
    have h3 := hK k hk
    unfold insideT
    by_cases c6 : u.kind = 6
    · simp [F_format_inside, b_format_inside, c6]
    have b6 : (u.kind == 6) = false := by simpa using c6
    by_cases c5 : u.kind = 5
    · simp [F_format_inside, b_format_inside, c5]
    have b5 : (u.kind == 5) = false := by simpa using c5
    by_cases c4 : t.kind = 4
    · simp [F_format_inside, b_format_inside, c6, b6, b5, c5, c4, h3]
    · have b4 : (t.kind == 4) = false := by simpa using c4
      simp [F_format_inside, b_format_inside, c6, b6, b5, c5, b4, c4, h3]

theorem fn_withinT (n : Nat) {ts us : List Tm} {v w : AV} (hv : Sl ts v) (hw : Sl us w) (ht : nTs ts ≤ n) (hu : nTs us ≤ n) (hm : n < most) : Fn E (.fn n_format_within [] []) [v, w] (.bool (withinL (insideT n) ts us)) := by
  have h1 := length_le_nTs ts
  have h2 := length_le_nTs us
  exact fn_within hE hv hw (by omega) (by omega) _ fun a b c d ha hb hc hd => fn_inside hE n (by have := nT_mem ha; omega) (by have := nT_mem hb; omega) hm hc hd
end
end Ab.R

/- Terms as values, one form for each; slices under way in a function that others write beside. No condition. -/
namespace Ab
open Go Go.RowKit
mutual
def cano : Tm → AV
  | .mk k s kids => .agg [.int .i64 k, .str s, endV 3 (canoL kids)]
def canoL : List Tm → List AV
  | [] => []
  | t :: ts => cano t :: canoL ts
end
theorem canoL_length : ∀ ts : List Tm, (canoL ts).length = ts.length
  | [] => rfl
  | _ :: ts => by simp [canoL, canoL_length ts]
theorem canoL_append : ∀ a b : List Tm, canoL (a ++ b) = canoL a ++ canoL b
  | [], _ => rfl
  | _ :: a, b => by simp [canoL, canoL_append a b]
mutual
theorem cano_rt : ∀ {t : Tm}, nT t ≤ maxLen → Rt t (cano t)
  | .mk k s kids, h => by
    simp only [nT] at h
    have h1 := canoL_rts (ts := kids) (by omega)
    have h2 := length_le_nTs kids
    have h3 := canoL_length kids
    simp only [cano]
    exact Rt.mk (Sl.end h1 (by omega))
theorem canoL_rts : ∀ {ts : List Tm}, nTs ts ≤ maxLen → Rts ts (canoL ts)
  | [], _ => by simp [Rts, canoL]
  | t :: ts, h => by
    simp only [nTs] at h
    simp only [Rts, canoL]
    exact ⟨_, _, rfl, cano_rt (by omega), canoL_rts (by omega)⟩
end
@[simp] theorem endV_untok (z : Nat) (ys : List AV) : (endV z ys).untok = endV z ys := by
  unfold endV; split <;> rfl
theorem cano_untok (t : Tm) : (cano t).untok = cano t := by
  cases t; simp [cano]
theorem cano_agg (t : Tm) : ∃ a b c, cano t = .agg [a, b, c] := by
  cases t; exact ⟨_, _, _, rfl⟩
theorem endV_data (z : Nat) (ys : List AV) : (endV z ys).data = AV.dataL ys := by
  unfold endV; split
  · rename_i h; subst h; rfl
  · rfl
mutual
theorem cano_data : ∀ t : Tm, (cano t).data = true
  | .mk k s kids => by simp [cano, endV_data, canoL_data kids]
theorem canoL_data : ∀ ts : List Tm, AV.dataL (canoL ts) = true
  | [] => rfl
  | t :: ts => by simp [canoL, cano_data t, canoL_data ts]
end

/- a slice made by append, where others write tokens beside: tk the tokens at the start, h what came behind -/
def outOk (out : AV) (z : Nat) (ys : List AV) (tk h : List Nat) : Prop := (ys = [] ∧ out = .sl .nil z []) ∨ (∃ q, out = .sl (.tok (tk.length + q)) z ys ∧ h[q]? = some ys.length ∧ ys ≠ [])
theorem outOk.more {out : AV} {z : Nat} {ys : List AV} {tk h : List Nat} (ho : outOk out z ys tk h) (h' : List Nat) : outOk out z ys tk (h ++ h') := by
  rcases ho with h1 | ⟨q, h1, h2, h3⟩
  · exact .inl h1
  · obtain ⟨hq, _⟩ := List.getElem?_eq_some_iff.1 h2
    exact .inr ⟨q, h1, by rw [List.getElem?_append_left hq]; exact h2, h3⟩
theorem outOk.sl {out : AV} {z : Nat} {ys : List AV} {tk h : List Nat} (ho : outOk out z ys tk h) : ∃ o, out = .sl o z ys ∧ (o = .nil → ys = []) ∧ out.untok = endV z ys := by
  rcases ho with ⟨rfl, rfl⟩ | ⟨q, rfl, _, h3⟩
  · exact ⟨_, rfl, fun _ => rfl, rfl⟩
  · exact ⟨_, rfl, (fun h => by cases h), by unfold endV; rw [if_neg h3]; rfl⟩
theorem app_eff {out : AV} {z : Nat} {ys : List AV} {tk h : List Nat} (ho : outOk out z ys tk h) {bl : List AB} {ro rt : Nat} {o : Own} {w : AV} (hl : ys.length < most) (hr : rt ≤ tk.length) :
    ∃ out' h', appA { bl, tk := tk ++ h, ro, rt } z out (.sl o z [w]) = some (out', { bl, tk := tk ++ h', ro, rt }) ∧ outOk out' z (ys ++ [w.untok]) tk h' := by
  have hmm : most = 1073741824 := rfl
  rcases ho with ⟨rfl, rfl⟩ | ⟨q, rfl, h2, h3⟩
  · refine ⟨.sl (.tok (tk.length + h.length)) z [w.untok], h ++ [1], ?_, .inr ⟨h.length, rfl, by simp, by simp⟩⟩
    simp [appA, ysOf, AV.untokL, most]
  · obtain ⟨hq, _⟩ := List.getElem?_eq_some_iff.1 h2
    refine ⟨.sl (.tok (tk.length + q)) z (ys ++ [w.untok]), h.set q (ys.length + 1), ?_, .inr ⟨q, rfl, by simp [hq], by simp⟩⟩
    have h4 : ys.length + 1 ≤ most := hl
    have h5 : rt ≤ tk.length + q := by omega
    simp [appA, ysOf, AV.untokL, h4, h5, h2, append_get]
end Ab

/- What 'format.named' answers. No condition but the table. -/
namespace Ab.R
open Go Ab Go.RowKit
set_option maxRecDepth 10000
set_option linter.unusedSimpArgs false
set_option linter.unusedVariables false

/- the digits of small numbers -/
def itoaS (n : Nat) : List UInt8 := if n < 10 then [UInt8.ofNat (48 + n)] else [UInt8.ofNat (48 + n / 10), UInt8.ofNat (48 + n % 10)]
def PrimI (E : IEnv) : Prop := ∀ n : Nat, n < 100 → FnK 4 E (.fn n_strconv_Itoa [] []) [.int .i64 n] (.str (itoaS n))

mutual
def nameE : Nat → Tm → Tm × Nat
  | m, .mk k _ kids => if k = 4 then (.mk 4 [] (nameS m kids).1, (nameS m kids).2) else (.mk k (itoaS (m + 1)) [], m + 1)
def nameS : Nat → List Tm → List Tm × Nat
  | m, [] => ([], m)
  | m, t :: ts => ((nameE m t).1 :: (nameS (nameE m t).2 ts).1, (nameS (nameE m t).2 ts).2)
end
def namedT (ts : List Tm) : List Tm := (nameS 0 ts).1
theorem nameS_append : ∀ (m : Nat) (a b : List Tm), nameS m (a ++ b) = ((nameS m a).1 ++ (nameS (nameS m a).2 b).1, (nameS (nameS m a).2 b).2)
  | m, [], b => by simp [nameS]
  | m, t :: a, b => by simp [nameS, nameS_append (nameE m t).2 a b]
theorem nameS_length : ∀ (m : Nat) (a : List Tm), (nameS m a).1.length = a.length
  | m, [] => by simp [nameS]
  | m, t :: a => by simp [nameS, nameS_length (nameE m t).2 a]
mutual
theorem nameE_le : ∀ (m : Nat) (t : Tm), m ≤ (nameE m t).2 ∧ (nameE m t).2 ≤ m + nT t
  | m, .mk k s kids => by
    have := nameS_le m kids
    simp only [nameE, nT]; split <;> simp only <;> omega
theorem nameS_le : ∀ (m : Nat) (a : List Tm), m ≤ (nameS m a).2 ∧ (nameS m a).2 ≤ m + nTs a
  | m, [] => by simp [nameS, nTs]
  | m, t :: a => by
    have h1 := nameE_le m t
    have h2 := nameS_le (nameE m t).2 a
    simp only [nameS, nTs]; omega
end
theorem nameS_take {ts : List Tm} {m i : Nat} {t : Tm} (h : ts[i]? = some t) : nameS m (ts.take (i + 1)) = ((nameS m (ts.take i)).1 ++ [(nameE (nameS m (ts.take i)).2 t).1], (nameE (nameS m (ts.take i)).2 t).2) := by
  rw [List.take_add_one, h, nameS_append]; simp [nameS]
theorem nTs_take_le (ts : List Tm) (i : Nat) : nTs (ts.take i) ≤ nTs ts := by
  conv => rhs; rw [← List.take_append_drop i ts, nTs_append]
  omega

mutual
theorem nameE_nT : ∀ (m : Nat) (t : Tm), nT (nameE m t).1 ≤ nT t
  | m, .mk k s kids => by
    have := nameS_nTs m kids
    simp only [nameE]
    split
    · simp only [nT]; omega
    · simp only [nT, nTs]; omega
theorem nameS_nTs : ∀ (m : Nat) (a : List Tm), nTs (nameS m a).1 ≤ nTs a
  | m, [] => by simp [nameS, nTs]
  | m, t :: a => by
    have h1 := nameE_nT m t
    have h2 := nameS_nTs (nameE m t).2 a
    simp only [nameS, nTs]; omega
end
abbrev nameFn (b : Nat) : AV := .fn n___format_namer__next [.ptr b 0] []
abbrev walkFn (b : Nat) : AV := .fn n_format_named_1 [] [.ptr (b + 2) 0, .ptr (b + 1) 0]
/- the state while names are given: m so far -/
abbrev nmS (bl : List AB) (ro rt m : Nat) (g : List AB) (tk : List Nat) : St := { bl := bl ++ (.cells [.int .i64 m] :: .cells [nameFn bl.length] :: .cells [walkFn bl.length] :: g), tk, ro, rt }

def digitsS : List UInt8 := [48, 49, 50, 51, 52, 53, 54, 55, 56, 57, 97, 98, 99, 100, 101, 102, 103, 104, 105, 106, 107, 108, 109, 110, 111, 112, 113, 114, 115, 116, 117, 118, 119, 120, 121, 122]
def smallsS : List UInt8 := (List.range 100).flatMap fun i => [UInt8.ofNat (48 + i / 10), UInt8.ofNat (48 + i % 10)]
theorem digits_at : ∀ i < 10, (digitsS.take (i + 1)).drop i = itoaS i := by decide +kernel
theorem smalls_at : ∀ i < 100, i < 10 ∨ (smallsS.take (2 * i + 2)).drop (2 * i) = itoaS i := by decide +kernel
section
variable {E : IEnv} (hE : E.fns = Table.fn table)
include hE
theorem fn_small (n : Nat) (hn : n < 100) : FnK 1 E (.fn n_internal_strconv_small [] []) [.int .i64 n] (.str (itoaS n)) :=
  FnK.byW (h_internal_strconv_small hE) rfl rfl (K := 0) fun k hk bl tk => by
    by_cases h : n < 10
    · have h1 : (n : Int) < 10 := by omega
      have hw : IntKind.wrap .i64 ((n : Int) + 1) = ((n + 1 : Nat) : Int) := by rw [wrapIn (by omega) (by omega)]; omega
      have hs := digits_at n h
      have hsl : ∀ tk, sliceA tk 0 (.str digitsS) (some (.int .i64 n)) (some (.int .i64 ((n + 1 : Nat) : Int))) none = some (.str (itoaS n)) := by
        intro tk
        have h2 : digitsS.length = 36 := rfl
        have b1 : bound (some (.int .i64 ((n + 1 : Nat) : Int))) digitsS.length digitsS.length = some (n + 1) := by simp only [bound, h2]; rw [if_pos (by omega)]; rfl
        have b2 : bound (some (.int .i64 (n : Int))) 0 (n + 1) = some n := by simp only [bound]; rw [if_pos (by omega)]; rfl
        simp only [sliceA, Option.isSome_none, Bool.false_eq_true, ne_eq, not_true_eq_false, or_self, if_false, b1, b2, hs]
      unfold digitsS at hsl
      simp only [F_internal_strconv_small, b_internal_strconv_small]
      simp [h1, hw, -Int.natCast_add, hsl]
    · have h1 : ¬ (n : Int) < 10 := by omega
      have hw1 : IntKind.wrap .i64 ((n : Int) * 2) = ((2 * n : Nat) : Int) := by rw [wrapIn (by omega) (by omega)]; omega
      have hw : IntKind.wrap .i64 (((2 * n : Nat) : Int) + 2) = ((2 * n + 2 : Nat) : Int) := by rw [wrapIn (by omega) (by omega)]; omega
      have hs := (smalls_at n hn).resolve_left h
      have hsl : ∀ tk, sliceA tk 0 (.str smallsS) (some (.int .i64 ((2 * n : Nat) : Int))) (some (.int .i64 ((2 * n + 2 : Nat) : Int))) none = some (.str (itoaS n)) := by
        intro tk
        have h2 : smallsS.length = 200 := by decide +kernel
        have b1 : bound (some (.int .i64 ((2 * n + 2 : Nat) : Int))) smallsS.length smallsS.length = some (2 * n + 2) := by simp only [bound, h2]; rw [if_pos (by omega)]; rfl
        have b2 : bound (some (.int .i64 ((2 * n : Nat) : Int))) 0 (2 * n + 2) = some (2 * n) := by simp only [bound]; rw [if_pos (by omega)]; rfl
        simp only [sliceA, Option.isSome_none, Bool.false_eq_true, ne_eq, not_true_eq_false, or_self, if_false, b1, b2, hs]
      have hss : smallsS = [48, 48, 48, 49, 48, 50, 48, 51, 48, 52, 48, 53, 48, 54, 48, 55, 48, 56, 48, 57, 49, 48, 49, 49, 49, 50, 49, 51, 49, 52, 49, 53, 49, 54, 49, 55, 49, 56, 49, 57, 50, 48, 50, 49, 50, 50, 50, 51, 50, 52, 50, 53, 50, 54, 50, 55, 50, 56, 50, 57, 51, 48, 51, 49, 51, 50, 51, 51, 51, 52, 51, 53, 51, 54, 51, 55, 51, 56, 51, 57, 52, 48, 52, 49, 52, 50, 52, 51, 52, 52, 52, 53, 52, 54, 52, 55, 52, 56, 52, 57, 53, 48, 53, 49, 53, 50, 53, 51, 53, 52, 53, 53, 53, 54, 53, 55, 53, 56, 53, 57, 54, 48, 54, 49, 54, 50, 54, 51, 54, 52, 54, 53, 54, 54, 54, 55, 54, 56, 54, 57, 55, 48, 55, 49, 55, 50, 55, 51, 55, 52, 55, 53, 55, 54, 55, 55, 55, 56, 55, 57, 56, 48, 56, 49, 56, 50, 56, 51, 56, 52, 56, 53, 56, 54, 56, 55, 56, 56, 56, 57, 57, 48, 57, 49, 57, 50, 57, 51, 57, 52, 57, 53, 57, 54, 57, 55, 57, 56, 57, 57] := by decide +kernel
      rw [hss] at hsl
      simp only [F_internal_strconv_small, b_internal_strconv_small]
      simp [h1, hw1, hw, -Int.natCast_add, -Int.natCast_mul, hsl]
theorem primI : PrimI E := by
  intro n hn
  have h1 : FnK 2 E (.fn n_internal_strconv_FormatInt [] []) [.int .i64 n, .int .i64 10] (.str (itoaS n)) :=
    FnK.byW (h_internal_strconv_FormatInt hE) rfl rfl (K := 1) fun k hk bl tk => by
      have hs := fn_small hE n hn k hk
      have c1 : (0 : Int) ≤ n := by omega
      have c2 : (n : Int) < 100 := by omega
      simp [F_internal_strconv_FormatInt, b_internal_strconv_FormatInt, c1, c2, hs]
  have h2 : FnK 3 E (.fn n_internal_strconv_Itoa [] []) [.int .i64 n] (.str (itoaS n)) :=
    FnK.byW (h_internal_strconv_Itoa hE) rfl rfl (K := 2) fun k hk bl tk => by simp [F_internal_strconv_Itoa, b_internal_strconv_Itoa, h1 k hk]
  exact FnK.byW (h_strconv_Itoa hE) rfl rfl (K := 3) fun k hk bl tk => by simp [F_strconv_Itoa, b_strconv_Itoa, h2 k hk]
end
section
variable {E : IEnv} (hE : E.fns = Table.fn table) (hI : PrimI E)
include hE hI
theorem call_next {k : Nat} (bl : List AB) (ro rt m : Nat) (g : List AB) (tk : List Nat) (hro : ro ≤ bl.length) (hm : m + 1 < 100) : callA E (k + 5) none (nameFn bl.length) [] (nmS bl ro rt m g tk) = some (.ret (.str (itoaS (m + 1))), false, nmS bl ro rt (m + 1) g tk) := by
  have hw : IntKind.wrap .i64 ((m : Int) + 1) = ((m + 1 : Nat) : Int) := by rw [wrapIn (by omega) (by omega)]; omega
  have hcall := hI (m + 1) hm (k + 4) (by omega)
  have key := call_byW (h___format_namer__next hE) (first := [.ptr bl.length 0]) (caps := []) (args := []) rfl (k := k + 4) (s := nmS bl ro rt m g tk) (Post := fun v s' => v = .str (itoaS (m + 1)) ∧ s' = nmS bl ro rt (m + 1) g tk) (by
    have hcall' : ∀ s, callA E (k + 4) none (.fn n_strconv_Itoa [] []) [.int .i64 ((m : Int) + 1)] s = some (.ret (.str (itoaS (m + 1))), false, s) := by exact_mod_cast hcall
    have hw' : IntKind.wrap .i64 ((m : Int) + 1) = (m : Int) + 1 := by rw [hw]; omega
    simp [F___format_namer__next, b___format_namer__next, s0Of, finA, nmS, hw', hro, hcall', append_get, append_get0, append_set, append_set0])
  obtain ⟨v, s', h, rfl, rfl⟩ := key
  exact h

theorem call_walk : ∀ (n : Nat) {ts : List Tm} {v : AV} (bl : List AB) (ro rt m : Nat) (g : List AB) (tk : List Nat) (k : Nat), nTs ts < n → Sl ts v → ro ≤ bl.length → rt ≤ tk.length → m + nTs ts < 100 → 2 * nTs ts + 6 ≤ k →
    ∃ out g' h, callA E k none (walkFn bl.length) [v] (nmS bl ro rt m g tk) = some (.ret out, false, nmS bl ro rt (nameS m ts).2 g' (tk ++ h)) ∧ outOk out 3 (canoL (nameS m ts).1) tk h
  | 0, _, _, _, _, _, _, _, _, _, h, _, _, _, _, _ => by omega
  | n + 1, ts, v, bl, ro, rt, m, g, tk, k, hn, hv, hro, hrt, hm, hk => by
    obtain ⟨o, xs, rfl, _, hR⟩ := hv
    have hmx : maxLen = 9223372036854775807 := rfl
    have hmm : most = 1073741824 := rfl
    have hl := hR.length
    have hlt := length_le_nTs ts
    obtain ⟨k, rfl⟩ : ∃ j, k = j + 1 := ⟨k - 1, by omega⟩
    have key := call_byW (h_format_named_1 hE) (first := []) (caps := [.ptr (bl.length + 2) 0, .ptr (bl.length + 1) 0]) (args := [.sl o 3 xs]) rfl (k := k) (s := nmS bl ro rt m g tk)
      (Post := fun out s' => ∃ g' h, s' = nmS bl ro rt (nameS m ts).2 g' (tk ++ h) ∧ outOk out 3 (canoL (nameS m ts).1) tk h) (by
      simp [F_format_named_1, b_format_named_1, s0Of]
      refine wp_loop xs.length (fun i e s => ∃ g' h out, e = [(1, .ptr (bl.length + 2) 0), (2, .ptr (bl.length + 1) 0), (5, out), (8, .sl o 3 xs), (9, .int .i64 xs.length), (10, .int .i64 i)] ∧
        s = nmS bl ro rt (nameS m (ts.take i)).2 g' (tk ++ h) ∧ outOk out 3 (canoL (nameS m (ts.take i)).1) tk h) (by omega) ?_ ?_ ?_
      · exact ⟨g, [], .sl .nil 3 [], by simp, by simp [nameS], .inl ⟨by simp [nameS, canoL], rfl⟩⟩
      · rintro i e s hi ⟨g', h, out, rfl, rfl, hout⟩
        obtain ⟨t, ht⟩ : ∃ t, ts[i]? = some t := ⟨_, List.getElem?_eq_getElem (by omega)⟩
        obtain ⟨x, hx, hrx⟩ := hR.get ht
        obtain ⟨kx, rfl, hkx⟩ := hrx.open
        obtain ⟨_, hx1⟩ := List.getElem?_eq_some_iff.1 hx
        have e1 : idx (.int .i64 i) xs.length = some i := idx_nat hi
        have hwr : IntKind.wrap .i64 ((i : Int) + 1) = i + 1 := wrapIn (by omega) (by omega)
        have htk := nameS_take (m := m) ht
        have hle1 := nameS_le m (ts.take i)
        have hle2 := nTs_take_le ts (i + 1)
        have hle3 : nTs (ts.take (i + 1)) = nTs (ts.take i) + nT t := by rw [List.take_add_one, ht, nTs_append]; simp [nTs]
        have hnt := nT_eq t
        have hcl := canoL_length (nameS m (ts.take i)).1
        have hcl2 := nameS_length m (ts.take i)
        have hcl3 : (ts.take i).length ≤ ts.length := by simp; omega
        have hro' : ∀ j, ro ≤ bl.length + j := fun j => by omega
        by_cases h4 : t.kind = 4
        · obtain ⟨o2, g2, h2, hcall, ho2⟩ := call_walk n bl ro rt (nameS m (ts.take i)).2 (g' ++ [.cells [.int .i64 t.kind, .str t.text, kx]]) (tk ++ h) k (by omega) hkx hro (by simp; omega) (by omega) (by omega)
          obtain ⟨o3, h3, h5, ho3⟩ := ho2.sl
          obtain ⟨out', h', happ, hok⟩ := app_eff (hout.more h2) (bl := bl ++ (.cells [.int .i64 (nameS (nameS m (ts.take i)).2 t.kids).2] :: .cells [nameFn bl.length] :: .cells [walkFn bl.length] :: g2)) (ro := ro) (rt := rt) (o := .full) (w := .agg [.int .i64 4, .str [], endV 3 (canoL (nameS (nameS m (ts.take i)).2 t.kids).1)]) (by omega) hrt
          have hne : nameE (nameS m (ts.take i)).2 t = (.mk 4 [] (nameS (nameS m (ts.take i)).2 t.kids).1, (nameS (nameS m (ts.take i)).2 t.kids).2) := by
            cases t; simp only [Tm.kind, Tm.kids] at *; simp [nameE, h4]
          rw [htk, hne]
          subst h3
          simp [nmS] at hcall
          simp [h4] at hx1 hcall
          simp [l0_format_named_1, nmS, hi, e1, hx1, hwr, h4, hro', append_get, append_get0, append_set, append_set0, hcall, setElems, repl, hasSize, ho3, happ]
          refine ⟨_, h', ⟨rfl, rfl⟩, ?_⟩
          simpa [canoL_append, canoL, cano] using hok
        · have hb4 : (t.kind == 4) = false := by simpa using h4
          have hnext := call_next hE hI (k := k - 5) bl ro rt (nameS m (ts.take i)).2 (g' ++ [.cells [.int .i64 t.kind, .str t.text, kx]]) (tk ++ h) hro (by omega)
          rw [show k - 5 + 5 = k by omega] at hnext
          obtain ⟨out', h', happ, hok⟩ := app_eff hout (bl := bl ++ (.cells [.int .i64 ((nameS m (ts.take i)).2 + 1 : Nat)] :: .cells [nameFn bl.length] :: .cells [walkFn bl.length] :: (g' ++ [.cells [.int .i64 t.kind, .str t.text, kx]]))) (ro := ro) (rt := rt) (o := .full) (w := .agg [.int .i64 t.kind, .str (itoaS ((nameS m (ts.take i)).2 + 1)), .sl .nil 3 []]) (by omega) hrt
          have hne : nameE (nameS m (ts.take i)).2 t = (.mk t.kind (itoaS ((nameS m (ts.take i)).2 + 1)) [], (nameS m (ts.take i)).2 + 1) := by
            cases t; simp only [Tm.kind] at *; simp [nameE, h4]
          rw [htk, hne]
          simp [nmS] at hnext
          simp at happ
          simp [l0_format_named_1, nmS, hi, e1, hx1, hwr, hb4, hro', append_get, append_get0, append_set, append_set0, hnext, setElems, repl, hasSize, happ]
          refine ⟨_, h', ⟨rfl, rfl⟩, ?_⟩
          simpa [canoL_append, canoL, cano, endV] using hok
      · rintro e s ⟨g', h, out, rfl, rfl, hout⟩
        have : ts.take xs.length = ts := List.take_of_length_le (by omega)
        rw [this] at hout ⊢
        simp [l0_format_named_1, finA, nmS]
        exact ⟨g', h, ⟨rfl, rfl⟩, hout⟩)
    obtain ⟨out, s', hc, g', h, rfl, hout⟩ := key
    exact ⟨out, g', h, hc, hout⟩

theorem fn_named {ts : List Tm} {v : AV} (hv : Sl ts v) (hn : nTs ts < 100) : Fn E (.fn n_format_named [] []) [v] (endV 3 (canoL (namedT ts))) := by
  refine Fn.byW (h_format_named hE) rfl rfl ⟨2 * nTs ts + 6, fun k hk bl tk => ?_⟩
  obtain ⟨out, g', h, hc, ho⟩ := call_walk hE hI (nTs ts + 1) bl bl.length tk.length 0 [] tk k (by omega) hv (Nat.le_refl _) (Nat.le_refl _) (by omega) hk
  obtain ⟨o, rfl, h1, h2⟩ := ho.sl
  have hd := canoL_data (nameS 0 ts).1
  simp [nmS] at hc
  simp [F_format_named, b_format_named, hc, append_get, append_get0, append_set, append_set0, h2, hd, namedT]
end
end Ab.R

/- The order of terms as plain data; a function of the Kids of pairs of terms. No condition. -/
namespace Ab
open Go Go.RowKit
def cmpI (a b : Int) : Int := if a < b then -1 else if a > b then 1 else 0
def cmpS (a b : List UInt8) : Int := if Go.Op.bytesLess a b then -1 else if a = b then 0 else 1
theorem bytesLess_self : ∀ s : List UInt8, Go.Op.bytesLess s s = false
  | [] => rfl
  | a :: s => by simp [Go.Op.bytesLess, bytesLess_self s]
theorem cmpI_ne {a b : Int} (h : a ≠ b) : cmpI a b ≠ 0 := by unfold cmpI; split; omega; split; omega; omega
theorem cmpS_ne {a b : List UInt8} (h : a ≠ b) : cmpS a b ≠ 0 := by unfold cmpS; split; omega; simp [h]
mutual
def cmpT : Tm → Tm → Int
  | .mk k s l, u => if k ≠ u.kind then cmpI k u.kind else if s ≠ u.text then cmpS s u.text else cmpTs l u.kids
def cmpTs : List Tm → List Tm → Int
  | [], [] => 0
  | [], _ :: _ => -1
  | _ :: _, [] => 1
  | t :: ts, u :: us => if cmpT t u ≠ 0 then cmpT t u else cmpTs ts us
end
theorem cmpT_eq (t u : Tm) : cmpT t u = if t.kind ≠ u.kind then cmpI t.kind u.kind else if t.text ≠ u.text then cmpS t.text u.text else cmpTs t.kids u.kids := by
  cases t; cases u; simp only [cmpT, Tm.kind, Tm.text, Tm.kids]; congr
theorem cmpTs_step {ts us : List Tm} {i : Nat} {t u : Tm} (ht : ts[i]? = some t) (hu : us[i]? = some u) :
    cmpTs (ts.drop i) (us.drop i) = if cmpT t u ≠ 0 then cmpT t u else cmpTs (ts.drop (i + 1)) (us.drop (i + 1)) := by
  obtain ⟨h1, h2⟩ := List.getElem?_eq_some_iff.1 ht
  obtain ⟨h3, h4⟩ := List.getElem?_eq_some_iff.1 hu
  rw [List.drop_eq_getElem_cons h1, List.drop_eq_getElem_cons h3, h2, h4]; simp only [cmpTs]
theorem cmpTs_end (ts us : List Tm) : cmpTs (ts.drop (min ts.length us.length)) (us.drop (min ts.length us.length)) = cmpI ts.length us.length := by
  by_cases h : ts.length < us.length
  · rw [Nat.min_eq_left (by omega), List.drop_length, List.drop_eq_getElem_cons h]
    simp only [cmpTs, cmpI]; rw [if_pos (by omega)]
  · rw [Nat.min_eq_right (by omega), List.drop_length]
    by_cases h2 : us.length < ts.length
    · rw [List.drop_eq_getElem_cons h2]; simp only [cmpTs, cmpI]; rw [if_neg (by omega), if_pos (by omega)]
    · rw [List.drop_of_length_le (by omega)]; simp only [cmpTs, cmpI]; rw [if_neg (by omega), if_neg (by omega)]
mutual
theorem cmpT_zero : ∀ t u : Tm, cmpT t u = 0 → t = u
  | .mk k s l, .mk k' s' l', h => by
    simp only [cmpT, Tm.kind, Tm.text, Tm.kids] at h
    by_cases h1 : k = k'
    · subst h1
      by_cases h2 : s = s'
      · subst h2
        simp only [ne_eq, not_true_eq_false, if_false] at h
        rw [cmpTs_zero l l' h]
      · simp only [ne_eq, not_true_eq_false, if_false, h2, not_false_eq_true, if_true] at h
        exact absurd h (cmpS_ne h2)
    · simp only [ne_eq, h1, not_false_eq_true, if_true] at h
      exact absurd h (cmpI_ne h1)
theorem cmpTs_zero : ∀ ts us : List Tm, cmpTs ts us = 0 → ts = us
  | [], [], _ => rfl
  | [], _ :: _, h => by simp [cmpTs] at h
  | _ :: _, [], h => by simp [cmpTs] at h
  | t :: ts, u :: us, h => by
    simp only [cmpTs] at h
    by_cases h1 : cmpT t u = 0
    · simp only [h1, ne_eq, not_true_eq_false, if_false] at h
      rw [cmpT_zero t u h1, cmpTs_zero ts us h]
    · simp only [ne_eq, h1, not_false_eq_true, if_true] at h
end
mutual
theorem cmpT_self : ∀ t : Tm, cmpT t t = 0
  | .mk k s l => by simp [cmpT, Tm.kind, Tm.text, Tm.kids, cmpTs_self l]
theorem cmpTs_self : ∀ ts : List Tm, cmpTs ts ts = 0
  | [] => by simp [cmpTs]
  | t :: ts => by simp [cmpTs, cmpT_self t, cmpTs_self ts]
end
theorem cmpTs_iff (ts us : List Tm) : cmpTs ts us = 0 ↔ ts = us := ⟨cmpTs_zero ts us, fun h => h ▸ cmpTs_self ts⟩

/- a function of two slices, at the Kids of all pairs at the same place -/
theorem kids_all {E : IEnv} {f : AV} {c : Tm → Tm → Int} {ts us : List Tm} {xs ys : List AV} (h1 : Rts ts xs) (h2 : Rts us ys)
    (hf : ∀ t u v w, t ∈ ts → u ∈ us → Sl t.kids v → Sl u.kids w → Fn E f [v, w] (.int .i64 (c t u))) :
    ∃ K, ∀ k, K ≤ k → ∀ (i : Nat) t u, ts[i]? = some t → us[i]? = some u → ∃ v w, xs[i]? = some (.agg [.int .i64 t.kind, .str t.text, v]) ∧ ys[i]? = some (.agg [.int .i64 u.kind, .str u.text, w]) ∧ ∀ s, callA E k none f [v, w] s = some (.ret (.int .i64 (c t u)), false, s) := by
  let kid : AV → AV := fun x => match x with | .agg [_, _, v] => v | _ => .junk
  obtain ⟨K, hK⟩ := Fn.all (E := E) (tgt := f) (α := (Tm × AV) × (Tm × AV)) (args := fun q => [kid q.1.2, kid q.2.2]) (v := fun q => .int .i64 (c q.1.1 q.2.1)) (xs := (ts.zip xs).zip (us.zip ys)) (by
    intro q hq
    obtain ⟨i, hi⟩ := List.mem_iff_getElem?.1 hq
    obtain ⟨ha, hb⟩ := List.getElem?_zip_eq_some.1 hi
    obtain ⟨a1, a2⟩ := List.getElem?_zip_eq_some.1 ha
    obtain ⟨b1, b2⟩ := List.getElem?_zip_eq_some.1 hb
    obtain ⟨x, a3, a4⟩ := h1.get a1
    obtain ⟨y, b3, b4⟩ := h2.get b1
    rw [a3] at a2; cases a2
    rw [b3] at b2; cases b2
    obtain ⟨v, e1, hv⟩ := a4.open
    obtain ⟨w, e2, hw⟩ := b4.open
    have k1 : kid q.1.2 = v := by rw [e1]
    have k2 : kid q.2.2 = w := by rw [e2]
    rw [k1, k2]
    exact hf _ _ _ _ (List.mem_of_getElem? a1) (List.mem_of_getElem? b1) hv hw)
  refine ⟨K, fun k hk i t u ht hu => ?_⟩
  obtain ⟨x, a3, a4⟩ := h1.get ht
  obtain ⟨y, b3, b4⟩ := h2.get hu
  obtain ⟨v, e1, hv⟩ := a4.open
  obtain ⟨w, e2, hw⟩ := b4.open
  subst e1 e2
  exact ⟨v, w, a3, b3, hK k hk ((t, _), (u, _)) (List.mem_iff_getElem?.2 ⟨i, List.getElem?_zip_eq_some.2 ⟨List.getElem?_zip_eq_some.2 ⟨ht, a3⟩, List.getElem?_zip_eq_some.2 ⟨hu, b3⟩⟩⟩)⟩
end Ab

/- What the comparisons answer. No condition but the table. -/
namespace Ab.R
open Go Ab Go.RowKit
set_option maxRecDepth 10000
set_option linter.unusedSimpArgs false
set_option linter.unusedVariables false
section
variable {E : IEnv} (hE : E.fns = Table.fn table)
include hE
theorem fn_isNaN_int (a : Int) : FnK 1 E (.fn n_cmp_isNaN_int_ [] []) [.int .i64 a] (.bool false) :=
  FnK.byW (h_cmp_isNaN_int_ hE) rfl rfl (K := 0) fun k hk bl tk => by simp [F_cmp_isNaN_int_, b_cmp_isNaN_int_]
theorem fn_isNaN_string (a : List UInt8) : FnK 1 E (.fn n_cmp_isNaN_string_ [] []) [.str a] (.bool false) :=
  FnK.byW (h_cmp_isNaN_string_ hE) rfl rfl (K := 0) fun k hk bl tk => by simp [F_cmp_isNaN_string_, b_cmp_isNaN_string_]
theorem fn_cmp_int (a b : Int) : FnK 2 E (.fn n_cmp_Compare_int_ [] []) [.int .i64 a, .int .i64 b] (.int .i64 (cmpI a b)) :=
  FnK.byW (h_cmp_Compare_int_ hE) rfl rfl (K := 1) fun k hk bl tk => by
    have h1 := fn_isNaN_int hE a k hk
    have h2 := fn_isNaN_int hE b k hk
    unfold cmpI
    by_cases c1 : a < b
    · simp [F_cmp_Compare_int_, b_cmp_Compare_int_, h1, h2, c1]
    · by_cases c2 : a > b
      · simp [F_cmp_Compare_int_, b_cmp_Compare_int_, h1, h2, c1, c2]
      · simp [F_cmp_Compare_int_, b_cmp_Compare_int_, h1, h2, c1, c2]
theorem fn_cmp_string (a b : List UInt8) : FnK 2 E (.fn n_cmp_Compare_string_ [] []) [.str a, .str b] (.int .i64 (cmpS a b)) :=
  FnK.byW (h_cmp_Compare_string_ hE) rfl rfl (K := 1) fun k hk bl tk => by
    have h1 := fn_isNaN_string hE a k hk
    have h2 := fn_isNaN_string hE b k hk
    unfold cmpS
    by_cases c1 : Go.Op.bytesLess a b = true
    · simp [F_cmp_Compare_string_, b_cmp_Compare_string_, h1, h2, c1]
    · have c1' : Go.Op.bytesLess a b = false := by simpa using c1
      by_cases c2 : a = b
      · subst c2
        simp [F_cmp_Compare_string_, b_cmp_Compare_string_, h1, c1']
      · have c2' : (a == b) = false := by simpa using c2
        simp [F_cmp_Compare_string_, b_cmp_Compare_string_, h1, h2, c1', c2, c2']
theorem fn_Sign (a b : List UInt8) : FnK 1 E (.fn n_chiasmusref01_Sign [] []) [.str a, .str b] (.int .i64 (cmpS a b)) :=
  FnK.byW (h_chiasmusref01_Sign hE) rfl rfl (K := 0) fun k hk bl tk => by
    unfold cmpS
    by_cases c1 : Go.Op.bytesLess a b = true
    · simp [F_chiasmusref01_Sign, b_chiasmusref01_Sign, c1]
    · have c1' : Go.Op.bytesLess a b = false := by simpa using c1
      by_cases c2 : a = b
      · subst c2
        simp [F_chiasmusref01_Sign, b_chiasmusref01_Sign, c1']
      · have c2' : (a == b) = false := by simpa using c2
        simp [F_chiasmusref01_Sign, b_chiasmusref01_Sign, c1', c2, c2']

theorem fn_term_Compare : ∀ (n : Nat) {ts us : List Tm} {v w : AV}, nTs ts < n → Sl ts v → Sl us w → Fn E (.fn n_term_Compare [] []) [v, w] (.int .i64 (cmpTs ts us))
  | 0, _, _, _, _, h, _, _ => by omega
  | n + 1, ts, us, v, w, hn, hv, hw => by
    obtain ⟨o1, xs, rfl, ⟨hm1, _⟩, h1⟩ := hv
    obtain ⟨o2, ys, rfl, ⟨hm2, _⟩, h2⟩ := hw
    have hl1 := h1.length
    have hl2 := h2.length
    have hmx : maxLen = 9223372036854775807 := rfl
    obtain ⟨K, hK⟩ := kids_all (E := E) (f := .fn n_term_Compare [] []) (c := fun t u => cmpTs t.kids u.kids) h1 h2 fun t u v w ht hu hv hw => fn_term_Compare n (by have := nT_mem ht; rw [nT_eq] at this; omega) hv hw
    have ci := fn_cmp_int hE
    have cs := fn_cmp_string hE
    have c1 := c_cmp_Compare_int_ hE [] []
    have c2 := c_cmp_Compare_string_ hE [] []
    have c3 := c_term_Compare hE [] []
    have hmin : (if ys.length < xs.length then (ys.length : Int) else (xs.length : Int)) = ((min ts.length us.length : Nat) : Int) := by split <;> omega
    refine Fn.byW (h_term_Compare hE) rfl rfl ⟨K + ts.length + 10, fun k hk bl tk => ?_⟩
    simp [F_term_Compare, b_term_Compare, mmAll, mmA]
    rw [hmin]
    refine wp_loop (min ts.length us.length) (fun i e s => cmpTs ts us = cmpTs (ts.drop i) (us.drop i) ∧ e = [(0, .sl o1 3 xs), (1, .sl o2 3 ys), (11, .int .i64 ((min ts.length us.length : Nat) : Int)), (12, .int .i64 i)] ∧ s = { bl := bl, tk, ro := bl.length, rt := tk.length }) (by omega) (by simp) ?_ ?_
    · rintro i e s hi ⟨hq, rfl, rfl⟩
      obtain ⟨t, ht⟩ : ∃ t, ts[i]? = some t := ⟨_, List.getElem?_eq_getElem (by omega)⟩
      obtain ⟨u, hu⟩ : ∃ u, us[i]? = some u := ⟨_, List.getElem?_eq_getElem (by omega)⟩
      obtain ⟨vx, vy, hx, hy, hc⟩ := hK k (by omega) i t u ht hu
      obtain ⟨hi1, hx1⟩ := List.getElem?_eq_some_iff.1 hx
      obtain ⟨hi2, hy1⟩ := List.getElem?_eq_some_iff.1 hy
      have e1 : idx (.int .i64 i) xs.length = some i := idx_nat hi1
      have e2 : idx (.int .i64 i) ys.length = some i := idx_nat hi2
      have hwr : IntKind.wrap .i64 ((i : Int) + 1) = i + 1 := wrapIn (by omega) (by omega)
      have hst := cmpTs_step ht hu
      have hlt : (i : Int) < ((min ts.length us.length : Nat) : Int) := by omega
      obtain ⟨mn, hmn⟩ : ∃ mn : Int, mn = ((min ts.length us.length : Nat) : Int) := ⟨_, rfl⟩
      rw [← hmn] at hlt ⊢
      have ci' := fun a b => ci a b k (by omega)
      have cs' := fun a b => cs a b k (by omega)
      rw [cmpT_eq] at hst
      by_cases k1 : t.kind = u.kind
      · by_cases k2 : t.text = u.text
        · simp only [k1, k2, ne_eq, not_true_eq_false, if_false] at hst
          by_cases k3 : cmpTs t.kids u.kids = 0
          · simp only [k3, not_true_eq_false, if_false] at hst
            rw [k3] at hc
            simp [l0_term_Compare, hlt, e1, e2, hi1, hi2, hx1, hy1, hx, hy, k1, k2, hc, c1, c2, c3, hwr]
            rw [hq, hst]
          · simp only [k3, not_false_eq_true, if_true] at hst
            have k3' : (cmpTs t.kids u.kids != 0) = true := by simpa using k3
            simp [l0_term_Compare, hlt, e1, e2, hi1, hi2, hx1, hy1, hx, hy, k1, k2, hc, c1, c2, c3, hwr, k3, k3']
            rw [hq, hst]
        · have k2' : (t.text != u.text) = true := by simpa using k2
          have := cmpS_ne k2
          simp only [k1, k2, ne_eq, not_true_eq_false, if_false, not_false_eq_true, if_true, this] at hst
          have k2'' : (t.text == u.text) = false := by simpa using k2
          simp [l0_term_Compare, hlt, e1, e2, hi1, hi2, hx1, hy1, hx, hy, k1, k2, k2', k2'', cs', c1, c2, c3, hwr]
          rw [hq, hst]
      · have k1' : (t.kind != u.kind) = true := by simpa using k1
        have := cmpI_ne k1
        simp only [k1, ne_eq, not_false_eq_true, if_true, this] at hst
        simp [l0_term_Compare, hlt, e1, e2, hi1, hi2, hx1, hy1, hx, hy, k1, k1', ci', c1, c2, c3, hwr]
        rw [hq, hst]
    · rintro e s ⟨hq, rfl, rfl⟩
      rw [cmpTs_end] at hq
      simp [l0_term_Compare, ci _ _ k (by omega), hq, hl1, hl2]
end
end Ab.R

/- What the comparison of the reference, and both 'Equal', answer. No condition but the table. -/
namespace Ab.R
open Go Ab Go.RowKit
set_option maxRecDepth 10000
set_option linter.unusedSimpArgs false
set_option linter.unusedVariables false
section
variable {E : IEnv} (hE : E.fns = Table.fn table)
include hE
theorem fn_ref_Compare : ∀ (n : Nat) {ts us : List Tm} {v w : AV}, nTs ts < n → Sl ts v → Sl us w → Fn E (.fn n_chiasmusref01_Compare [] []) [v, w] (.int .i64 (cmpTs ts us))
  | 0, _, _, _, _, h, _, _ => by omega
  | n + 1, ts, us, v, w, hn, hv, hw => by
    obtain ⟨o1, xs, rfl, ⟨hm1, _⟩, h1⟩ := hv
    obtain ⟨o2, ys, rfl, ⟨hm2, _⟩, h2⟩ := hw
    have hl1 := h1.length
    have hl2 := h2.length
    have hmx : maxLen = 9223372036854775807 := rfl
    obtain ⟨K, hK⟩ := kids_all (E := E) (f := .fn n_chiasmusref01_Compare [] []) (c := fun t u => cmpTs t.kids u.kids) h1 h2 fun t u v w ht hu hv hw => fn_ref_Compare n (by have := nT_mem ht; rw [nT_eq] at this; omega) hv hw
    have cs := fn_Sign hE
    have c2 := c_chiasmusref01_Sign hE [] []
    have c3 := c_chiasmusref01_Compare hE [] []
    refine Fn.byW (h_chiasmusref01_Compare hE) rfl rfl ⟨K + ts.length + 10, fun k hk bl tk => ?_⟩
    simp [F_chiasmusref01_Compare, b_chiasmusref01_Compare]
    refine wp_loop (min ts.length us.length) (fun i e s => cmpTs ts us = cmpTs (ts.drop i) (us.drop i) ∧ e = [(0, .sl o1 3 xs), (1, .sl o2 3 ys), (5, .int .i64 i)] ∧ s = { bl := bl, tk, ro := bl.length, rt := tk.length }) (by omega) (by simp) ?_ ?_
    · rintro i e s hi ⟨hq, rfl, rfl⟩
      obtain ⟨t, ht⟩ : ∃ t, ts[i]? = some t := ⟨_, List.getElem?_eq_getElem (by omega)⟩
      obtain ⟨u, hu⟩ : ∃ u, us[i]? = some u := ⟨_, List.getElem?_eq_getElem (by omega)⟩
      obtain ⟨vx, vy, hx, hy, hc⟩ := hK k (by omega) i t u ht hu
      obtain ⟨hi1, hx1⟩ := List.getElem?_eq_some_iff.1 hx
      obtain ⟨hi2, hy1⟩ := List.getElem?_eq_some_iff.1 hy
      have e1 : idx (.int .i64 i) xs.length = some i := idx_nat hi1
      have e2 : idx (.int .i64 i) ys.length = some i := idx_nat hi2
      have hwr : IntKind.wrap .i64 ((i : Int) + 1) = i + 1 := wrapIn (by omega) (by omega)
      have hst := cmpTs_step ht hu
      have cs' := fun a b => cs a b k (by omega)
      rw [cmpT_eq] at hst
      by_cases k1 : t.kind = u.kind
      · by_cases k2 : t.text = u.text
        · simp only [k1, k2, ne_eq, not_true_eq_false, if_false] at hst
          have k2c : cmpS u.text u.text = 0 := by unfold cmpS; simp [bytesLess_self]
          by_cases k3 : cmpTs t.kids u.kids = 0
          · simp only [k3, not_true_eq_false, if_false] at hst
            rw [k3] at hc
            simp [l0_chiasmusref01_Compare, e1, e2, hi1, hi2, hx1, hy1, hx, hy, k1, k2, k2c, hc, cs', c2, c3, hwr]
            rw [hq, hst]
          · simp only [k3, not_false_eq_true, if_true] at hst
            have k3' : (cmpTs t.kids u.kids != 0) = true := by simpa using k3
            simp [l0_chiasmusref01_Compare, e1, e2, hi1, hi2, hx1, hy1, hx, hy, k1, k2, k2c, hc, cs', c2, c3, hwr, k3, k3']
            rw [hq, hst]
        · have := cmpS_ne k2
          simp only [k1, k2, ne_eq, not_true_eq_false, if_false, not_false_eq_true, if_true, this] at hst
          have k2' : (cmpS t.text u.text != 0) = true := by simpa using this
          simp [l0_chiasmusref01_Compare, e1, e2, hi1, hi2, hx1, hy1, hx, hy, k1, k2', this, cs', c2, c3, hwr]
          rw [hq, hst]
      · have k1' : (t.kind != u.kind) = true := by simpa using k1
        have := cmpI_ne k1
        simp only [k1, ne_eq, not_false_eq_true, if_true, this] at hst
        unfold cmpI at hst
        by_cases k4 : t.kind < u.kind
        · rw [if_pos k4] at hst
          simp [l0_chiasmusref01_Compare, e1, e2, hi1, hi2, hx1, hy1, hx, hy, k1, k1', k4, c2, c3, hwr]
          rw [hq, hst]
        · rw [if_neg k4, if_pos (by omega)] at hst
          simp [l0_chiasmusref01_Compare, e1, e2, hi1, hi2, hx1, hy1, hx, hy, k1, k1', k4, c2, c3, hwr]
          rw [hq, hst]
    · rintro e s ⟨hq, rfl, rfl⟩
      rw [cmpTs_end] at hq
      unfold cmpI at hq
      rw [hq]
      by_cases l1 : ts.length < us.length
      · have m1 : min xs.length ys.length = xs.length := by omega
        have l2 : xs.length < ys.length := by omega
        simp [l0_chiasmusref01_Compare, m1, ← hl1, ← hl2, l2]
      · have m1 : min xs.length ys.length = ys.length := by omega
        by_cases l2 : us.length < ts.length
        · have l3 : ys.length < xs.length := by omega
          have l4 : ¬ xs.length < ys.length := by omega
          simp [l0_chiasmusref01_Compare, m1, ← hl1, ← hl2, l3, l4]
        · have l3 : ¬ ys.length < xs.length := by omega
          have l4 : ¬ xs.length < ys.length := by omega
          simp [l0_chiasmusref01_Compare, m1, ← hl1, ← hl2, l3, l4]

theorem fn_ref_Equal {ts us : List Tm} {v w : AV} (hv : Sl ts v) (hw : Sl us w) : Fn E (.fn n_chiasmusref01_Equal [] []) [v, w] (.bool (cmpTs ts us == 0)) := by
  obtain ⟨K, hK⟩ := fn_ref_Compare hE _ (Nat.lt_succ_self _) hv hw
  exact Fn.byW (h_chiasmusref01_Equal hE) rfl rfl ⟨K, fun k hk bl tk => by simp [F_chiasmusref01_Equal, b_chiasmusref01_Equal, hK k hk]⟩
theorem fn_term_Equal {ts us : List Tm} {v w : AV} (hv : Sl ts v) (hw : Sl us w) : Fn E (.fn n_term_Equal [] []) [v, w] (.bool (cmpTs ts us == 0)) := by
  obtain ⟨K, hK⟩ := fn_term_Compare hE _ (Nat.lt_succ_self _) hv hw
  exact Fn.byW (h_term_Equal hE) rfl rfl ⟨K, fun k hk bl tk => by simp [F_term_Equal, b_term_Equal, hK k hk]⟩
end
end Ab.R

/- Texts of terms as plain data. No condition. -/
namespace Ab
open Go

def classN (n : Nat) : Int := if (97 ≤ n ∧ n ≤ 122) ∨ (65 ≤ n ∧ n ≤ 90) then 5 else if 48 ≤ n ∧ n ≤ 57 then 6 else if n = 45 ∨ n = 95 then 4 else if n = 32 ∨ n = 9 ∨ n = 10 ∨ n = 13 then 8 else 0
def isC (n : Nat) (c : Int) : Bool := (IntKind.wrap .u8 ((BitVec.ofInt 8 (classN n) &&& BitVec.ofInt 8 c).toNat : Nat)) != 0
def everyC (s : List UInt8) (c : Int) : Bool := s.all fun b => isC b.toNat c
def identT (s : List UInt8) (most : Int) : Bool := s != [] && decide ((s.length : Int) ≤ most) && isC (s.getD 0 0).toNat 1 && everyC s 4
def cutMinus (s : List UInt8) : List UInt8 × Bool := match s with
  | 45 :: r => (r, true)
  | s => (s, false)
def numT (s : List UInt8) : Bool :=
  let d := (cutMinus s).1
  !(d == [] || decide (500 < d.length) || !everyC d 2) && ((d.getD 0 0).toNat != 48 || (d.length == 1 && !(cutMinus s).2))
def runeIx (s : List UInt8) (p : Int → Bool) (want : Bool) : Nat → Nat → Int
  | 0, _ => -1
  | n + 1, pos => if pos < s.length then (if p (Go.Utf8.decode ⟨s.toArray⟩ pos).1 == want then (pos : Int) else runeIx s p want n (pos + (Go.Utf8.decode ⟨s.toArray⟩ pos).2)) else -1
def oddRune (c : Int) : Bool := decide (c < 32) || decide (126 < c)
def wordT (s : List UInt8) : Bool := s != [] && decide (s.length ≤ 60) && !decide (0 ≤ runeIx s oddRune true (s.length + 1) 0)
def rightT (t : Tm) : Bool :=
  if t.kind = 4 then t.text == [] else if t.kind = 8 then identT t.text 40 else if 0 < t.kids.length then false
  else if t.kind = 1 then t.text.length == 1 else if t.kind = 2 then wordT t.text else if t.kind = 3 then numT t.text
  else if t.kind = 5 ∨ t.kind = 6 ∨ t.kind = 7 then t.text != [] && decide (t.text.length ≤ 40) && everyC t.text 3 else false
theorem decode_pos (s : ByteArray) (i : Nat) : 1 ≤ (Go.Utf8.decode s i).2 := by
  unfold Go.Utf8.decode
  dsimp only
  repeat' split
  all_goals simp
end Ab

/- What the functions of texts answer. No condition but the table. -/
namespace Ab.R
open Go Ab Go.RowKit
set_option maxRecDepth 10000
set_option linter.unusedSimpArgs false
set_option linter.unusedVariables false
section
variable {E : IEnv} (hE : E.fns = Table.fn table)
include hE
theorem fn_classOf (n : Nat) : FnK 1 E (.fn n_term_classOf [] []) [.int .u8 n] (.int .u8 (classN n)) :=
  FnK.byW (h_term_classOf hE) rfl rfl (K := 0) fun k hk bl tk => by
    unfold classN
    by_cases a1 : 97 ≤ n
    · by_cases a2 : n ≤ 122
      · have b1 : (97 : Int) ≤ n := by omega
        have b2 : (n : Int) ≤ 122 := by omega
        simp [F_term_classOf, b_term_classOf, a1, a2, b1, b2]
      · have b1 : (97 : Int) ≤ n := by omega
        have b2 : ¬ (n : Int) ≤ 122 := by omega
        have b3 : (65 : Int) ≤ n := by omega
        have b4 : ¬ (n : Int) ≤ 90 := by omega
        have b5 : (48 : Int) ≤ n := by omega
        have b6 : ¬ (n : Int) ≤ 57 := by omega
        have b7 : ((n : Int) == 45) = false := by simp; omega
        have b8 : ((n : Int) == 95) = false := by simp; omega
        have b9 : ((n : Int) == 32) = false := by simp; omega
        have b10 : ((n : Int) == 9) = false := by simp; omega
        have b11 : ((n : Int) == 10) = false := by simp; omega
        have b12 : ((n : Int) == 13) = false := by simp; omega
        rw [if_neg (by omega), if_neg (by omega), if_neg (by omega), if_neg (by omega)]
        simp [F_term_classOf, b_term_classOf, b1, b2, b3, b4, b5, b6, b7, b8, b9, b10, b11, b12]
    have b1 : ¬ (97 : Int) ≤ n := by omega
    by_cases a3 : 65 ≤ n
    · have b3 : (65 : Int) ≤ n := by omega
      by_cases a4 : n ≤ 90
      · have b4 : (n : Int) ≤ 90 := by omega
        simp [F_term_classOf, b_term_classOf, a1, a3, a4, b1, b3, b4]
      · have b4 : ¬ (n : Int) ≤ 90 := by omega
        have b5 : (48 : Int) ≤ n := by omega
        have b6 : ¬ (n : Int) ≤ 57 := by omega
        have b7 : ((n : Int) == 45) = false := by simp; omega
        have b9 : ((n : Int) == 32) = false := by simp; omega
        have b10 : ((n : Int) == 9) = false := by simp; omega
        have b11 : ((n : Int) == 10) = false := by simp; omega
        have b12 : ((n : Int) == 13) = false := by simp; omega
        rw [if_neg (by omega), if_neg (by omega)]
        by_cases a8 : n = 95
        · have b8 : ((n : Int) == 95) = true := by simp; omega
          rw [if_pos (by omega)]
          simp [F_term_classOf, b_term_classOf, b1, b3, b4, b5, b6, b7, b8]
        · have b8 : ((n : Int) == 95) = false := by simp; omega
          rw [if_neg (by omega), if_neg (by omega)]
          simp [F_term_classOf, b_term_classOf, b1, b3, b4, b5, b6, b7, b8, b9, b10, b11, b12]
    have b3 : ¬ (65 : Int) ≤ n := by omega
    rw [if_neg (by omega)]
    by_cases a5 : 48 ≤ n
    · have b5 : (48 : Int) ≤ n := by omega
      by_cases a6 : n ≤ 57
      · have b6 : (n : Int) ≤ 57 := by omega
        simp [F_term_classOf, b_term_classOf, a5, a6, b1, b3, b5, b6]
      · have b6 : ¬ (n : Int) ≤ 57 := by omega
        have b7 : ((n : Int) == 45) = false := by simp; omega
        have b8 : ((n : Int) == 95) = false := by simp; omega
        have b9 : ((n : Int) == 32) = false := by simp; omega
        have b10 : ((n : Int) == 9) = false := by simp; omega
        have b11 : ((n : Int) == 10) = false := by simp; omega
        have b12 : ((n : Int) == 13) = false := by simp; omega
        rw [if_neg (by omega), if_neg (by omega), if_neg (by omega)]
        simp [F_term_classOf, b_term_classOf, b1, b3, b5, b6, b7, b8, b9, b10, b11, b12]
    have b5 : ¬ (48 : Int) ≤ n := by omega
    have b8 : ((n : Int) == 95) = false := by simp; omega
    rw [if_neg (by omega)]
    by_cases a7 : n = 45
    · subst a7
      simp [F_term_classOf, b_term_classOf, b1, b3, b5]
    have b7 : ((n : Int) == 45) = false := by simp; omega
    rw [if_neg (by omega)]
    by_cases a9 : n = 32
    · subst a9
      simp [F_term_classOf, b_term_classOf, b1, b3, b5, b8, b7]
    have b9 : ((n : Int) == 32) = false := by simp; omega
    by_cases a10 : n = 9
    · subst a10
      simp [F_term_classOf, b_term_classOf, b1, b3, b5, b8, b7, b9]
    have b10 : ((n : Int) == 9) = false := by simp; omega
    by_cases a11 : n = 10
    · subst a11
      simp [F_term_classOf, b_term_classOf, b1, b3, b5, b8, b7, b9, b10]
    have b11 : ((n : Int) == 10) = false := by simp; omega
    by_cases a12 : n = 13
    · subst a12
      simp [F_term_classOf, b_term_classOf, b1, b3, b5, b8, b7, b9, b10, b11]
    have b12 : ((n : Int) == 13) = false := by simp; omega
    rw [if_neg (by omega)]
    simp [F_term_classOf, b_term_classOf, b1, b3, b5, b8, b7, b9, b10, b11, b12]

theorem fn_is (n : Nat) (c : Int) : FnK 2 E (.fn n_term_is [] []) [.int .u8 n, .int .u8 c] (.bool (isC n c)) :=
  FnK.byW (h_term_is hE) rfl rfl (K := 1) fun k hk bl tk => by
    simp [F_term_is, b_term_is, fn_classOf hE n k (by omega), isC]
    rfl

theorem fn_every (s : List UInt8) (hs : s.length ≤ maxLen) (c : Int) : FnK (s.length + 4) E (.fn n_term_every [] []) [.str s, .int .u8 c] (.bool (everyC s c)) :=
  FnK.byW (h_term_every hE) rfl rfl (K := s.length + 3) fun k hk bl tk => by
    have hmx : maxLen = 9223372036854775807 := rfl
    simp [F_term_every, b_term_every]
    refine wp_loop s.length (fun i e st => everyC s c = everyC (s.drop i) c ∧ e = [(0, .str s), (1, .int .u8 c), (7, .int .i64 s.length), (8, .int .i64 i)] ∧ st = { bl, tk, ro := bl.length, rt := tk.length }) (by omega) (by simp) ?_ ?_
    · rintro i e st hi ⟨hq, rfl, rfl⟩
      have e1 : idx (.int .i64 i) s.length = some i := idx_nat hi
      have hwr : IntKind.wrap .i64 ((i : Int) + 1) = i + 1 := wrapIn (by omega) (by omega)
      rw [List.drop_eq_getElem_cons hi] at hq
      have h1 := fn_is hE s[i].toNat c k (by omega)
      unfold everyC at hq ⊢
      rw [List.all_cons] at hq
      cases hp : isC s[i].toNat c with
      | true =>
        rw [hp, Bool.true_and] at hq
        rw [hp] at h1
        simp [l0_term_every, hi, e1, hwr, h1]
        simpa using hq
      | false =>
        rw [hp, Bool.false_and] at hq
        rw [hp] at h1
        simp [l0_term_every, hi, e1, hwr, h1]
        simpa using hq
    · rintro e st ⟨hq, rfl, rfl⟩
      rw [List.drop_length] at hq
      have hq' : everyC s c = true := hq
      simp [l0_term_every, hq']

theorem fn_identifier (s : List UInt8) (hs : s.length ≤ maxLen) (m : Int) : FnK (s.length + 5) E (.fn n_term_identifier [] []) [.str s, .int .i64 m] (.bool (identT s m)) :=
  FnK.byW (h_term_identifier hE) rfl rfl (K := s.length + 4) fun k hk bl tk => by
    have h1 := fn_every hE s hs 4 k (by omega)
    cases s with
    | nil => simp [F_term_identifier, b_term_identifier, identT]
    | cons b r =>
      have h2 := fn_is hE b.toNat 1 k (by omega)
      unfold identT
      by_cases c1 : (((b :: r).length : Nat) : Int) ≤ m
      · simp only [List.length_cons, Int.natCast_add, Int.cast_ofNat_Int] at c1
        cases c2 : isC b.toNat 1 with
        | true =>
          rw [c2] at h2
          simp [F_term_identifier, b_term_identifier, c1, h1, h2, c2, idx]
        | false =>
          rw [c2] at h2
          simp [F_term_identifier, b_term_identifier, c1, h1, h2, c2, idx]
      · simp only [List.length_cons, Int.natCast_add, Int.cast_ofNat_Int] at c1
        simp [F_term_identifier, b_term_identifier, c1, h1, h2, idx]

theorem fn_CutMinus (s : List UInt8) : FnK 4 E (.fn n_strings_CutPrefix [] []) [.str s, .str [45]] (.tup [.str (cutMinus s).1, .bool (cutMinus s).2]) := by
  have hh : FnK 1 E (.fn n_internal_stringslite_HasPrefix [] []) [.str s, .str [45]] (.bool (cutMinus s).2) :=
    FnK.byW (h_internal_stringslite_HasPrefix hE) rfl rfl (K := 0) fun k hk bl tk => by
      cases s with
      | nil => simp [F_internal_stringslite_HasPrefix, b_internal_stringslite_HasPrefix, cutMinus]
      | cons b r =>
        have c1 : (1 : Int) ≤ (r.length : Int) + 1 := by omega
        by_cases hb : b = 45
        · subst hb
          simp [F_internal_stringslite_HasPrefix, b_internal_stringslite_HasPrefix, cutMinus, c1, sliceA, bound]
        · have : cutMinus (b :: r) = (b :: r, false) := by unfold cutMinus; split; rename_i h; cases h; exact absurd rfl hb; rfl
          simp [F_internal_stringslite_HasPrefix, b_internal_stringslite_HasPrefix, this, c1, sliceA, bound, hb]
  have hc : FnK 3 E (.fn n_internal_stringslite_CutPrefix [] []) [.str s, .str [45]] (.tup [.str (cutMinus s).1, .bool (cutMinus s).2]) :=
    FnK.byW (h_internal_stringslite_CutPrefix hE) rfl rfl (K := 2) fun k hk bl tk => by
      have h1 := hh k (by omega)
      cases s with
      | nil => simp [F_internal_stringslite_CutPrefix, b_internal_stringslite_CutPrefix, h1, cutMinus]
      | cons b r =>
        by_cases hb : b = 45
        · subst hb
          have c1 : (1 : Int) ≤ (r.length : Int) + 1 := by omega
          simp [F_internal_stringslite_CutPrefix, b_internal_stringslite_CutPrefix, h1, cutMinus, sliceA, bound, c1]
        · have : cutMinus (b :: r) = (b :: r, false) := by unfold cutMinus; split; rename_i h; cases h; exact absurd rfl hb; rfl
          rw [this] at h1 ⊢
          simp [F_internal_stringslite_CutPrefix, b_internal_stringslite_CutPrefix, h1]
  exact FnK.byW (h_strings_CutPrefix hE) rfl rfl (K := 3) fun k hk bl tk => by simp [F_strings_CutPrefix, b_strings_CutPrefix, hc k (by omega)]

theorem fn_isNumber (s : List UInt8) (hs : s.length ≤ maxLen) : FnK (s.length + 8) E (.fn n_term_isNumber [] []) [.str s] (.bool (numT s)) :=
  FnK.byW (h_term_isNumber hE) rfl rfl (K := s.length + 7) fun k hk bl tk => by
    have h1 := fn_CutMinus hE s k (by omega)
    have hle : (cutMinus s).1.length ≤ s.length := by unfold cutMinus; split <;> simp
    have h2 := fn_every hE (cutMinus s).1 (by omega) 2 k (by omega)
    unfold numT
    generalize cutMinus s = q at *
    obtain ⟨d, neg⟩ := q
    simp only at *
    cases d with
    | nil => simp [F_term_isNumber, b_term_isNumber, h1]
    | cons b r =>
      by_cases c1 : 500 < (b :: r).length
      · have c1' : (500 : Int) < (r.length : Int) + 1 := by simp at c1; omega
        simp only [List.length_cons] at c1
        simp [F_term_isNumber, b_term_isNumber, h1, c1, c1']
      · have c1' : ¬ (500 : Int) < (r.length : Int) + 1 := by simp at c1; omega
        simp only [List.length_cons] at c1
        cases c2 : everyC (b :: r) 2 with
        | false => rw [c2] at h2; simp [F_term_isNumber, b_term_isNumber, h1, h2, c1, c1']
        | true =>
          rw [c2] at h2
          by_cases c3 : b.toNat = 48
          · by_cases c4 : r = []
            · subst c4
              simp [F_term_isNumber, b_term_isNumber, h1, h2, c3, idx]
            · have c4' : ¬ r.length = 0 := by simpa using c4
              have c5 : (((r.length : Int) + 1) == 1) = false := by simp; omega
              simp [F_term_isNumber, b_term_isNumber, h1, h2, c1, c1', c3, c4, c5, idx]
          · have c3' : (((b.toNat : Nat) : Int) != 48) = true := by simp; omega
            simp [F_term_isNumber, b_term_isNumber, h1, h2, c1, c1', c3, c3', idx]
end
end Ab.R

/- What 'strings.ContainsFunc', 'term.right' and 'term.depth' answer. No condition but the table. -/
namespace Ab.R
open Go Ab Go.RowKit
set_option maxRecDepth 10000
set_option linter.unusedSimpArgs false
set_option linter.unusedVariables false
section
variable {E : IEnv} (hE : E.fns = Table.fn table)
include hE
theorem fn_right_1 (c : Int) : FnK 1 E (.fn n_term_right_1 [] []) [.int .i32 c] (.bool (oddRune c)) :=
  FnK.byW (h_term_right_1 hE) rfl rfl (K := 0) fun k hk bl tk => by
    unfold oddRune
    by_cases c1 : c < 32
    · simp [F_term_right_1, b_term_right_1, c1]
    · simp [F_term_right_1, b_term_right_1, c1]

theorem fn_indexFunc (s : List UInt8) (f : AV) (p : Int → Bool) (want : Bool) {Kf : Nat} (hf : ∀ c, FnK Kf E f [.int .i32 c] (.bool (p c))) :
    FnK (Kf + s.length + 3) E (.fn n_strings_indexFunc [] []) [.str s, f, .bool want] (.int .i64 (runeIx s p want (s.length + 1) 0)) :=
  FnK.byW (h_strings_indexFunc hE) rfl rfl (K := Kf + s.length + 2) fun k hk bl tk => by
    obtain ⟨Q, hQ⟩ : ∃ Q, Q = runeIx s p want (s.length + 1) 0 := ⟨_, rfl⟩
    rw [← hQ]
    simp [F_strings_indexFunc, b_strings_indexFunc]
    refine wp_loop s.length (fun i e st => ∃ pos, i ≤ pos ∧ Q = runeIx s p want (s.length + 1 - i) pos ∧ e = [(1, f), (2, .bool want), (10, .ptr bl.length 0)] ∧ st = { bl := bl ++ [.siter s pos], tk, ro := bl.length, rt := tk.length }) (by omega) ⟨0, by simp [hQ]⟩ ?_ ?_
    · rintro i e st hi ⟨pos, hp, hq, rfl, rfl⟩
      rw [show s.length + 1 - i = s.length - i + 1 by omega] at hq
      unfold runeIx at hq
      by_cases c1 : pos < s.length
      · rw [if_pos c1] at hq
        have h1 := hf ((Go.Utf8.decode ⟨s.toArray⟩ pos).1 : Nat) k (by omega)
        have hw := decode_pos ⟨s.toArray⟩ pos
        cases c2 : p ((Go.Utf8.decode ⟨s.toArray⟩ pos).1 : Nat) == want with
        | true =>
          rw [c2] at hq
          simp only [if_true] at hq
          simp [l0_strings_indexFunc, aeq, c1, h1, c2, hq]
        | false =>
          rw [c2] at hq
          simp only [Bool.false_eq_true, if_false] at hq
          simp [l0_strings_indexFunc, aeq, c1, h1, c2]
          exact ⟨by omega, hq⟩
      · rw [if_neg c1] at hq
        simp [l0_strings_indexFunc, aeq, c1, hq]
    · rintro e st ⟨pos, hp, hq, rfl, rfl⟩
      rw [show s.length + 1 - s.length = 0 + 1 by omega] at hq
      unfold runeIx at hq
      have c1 : ¬ pos < s.length := by omega
      rw [if_neg c1] at hq
      simp [l0_strings_indexFunc, aeq, c1, hq]

theorem fn_ContainsOdd (s : List UInt8) : FnK (s.length + 6) E (.fn n_strings_ContainsFunc [] []) [.str s, .fn n_term_right_1 [] []] (.bool (decide (0 ≤ runeIx s oddRune true (s.length + 1) 0))) := by
  have h1 := fn_indexFunc hE s (.fn n_term_right_1 [] []) oddRune true (fn_right_1 hE)
  have h2 : FnK (s.length + 5) E (.fn n_strings_IndexFunc [] []) [.str s, .fn n_term_right_1 [] []] (.int .i64 (runeIx s oddRune true (s.length + 1) 0)) :=
    FnK.byW (h_strings_IndexFunc hE) rfl rfl (K := s.length + 4) fun k hk bl tk => by simp [F_strings_IndexFunc, b_strings_IndexFunc, h1 k (by omega)]
  exact FnK.byW (h_strings_ContainsFunc hE) rfl rfl (K := s.length + 5) fun k hk bl tk => by simp [F_strings_ContainsFunc, b_strings_ContainsFunc, h2 k (by omega)]

set_option maxHeartbeats 1600000 in
theorem fn_right {t : Tm} {x : AV} (h : Rt t x) (hs : t.text.length ≤ maxLen) : FnK (t.text.length + 9) E (.fn n_term_right [] []) [x] (.bool (rightT t)) := by
  obtain ⟨v, rfl, hv⟩ := h.open
  obtain ⟨o, ks, rfl, hlk⟩ := hv.len
  refine FnK.byW (h_term_right hE) rfl rfl (K := t.text.length + 8) fun k hk bl tk => ?_
  unfold rightT
  by_cases c4 : t.kind = 4
  · simp [F_term_right, b_term_right, c4]
  have b4 : (t.kind == 4) = false := by simpa using c4
  by_cases c8 : t.kind = 8
  · have h1 := fn_identifier hE t.text hs 40 k (by omega)
    simp [F_term_right, b_term_right, c8, h1]
  have b8 : (t.kind == 8) = false := by simpa using c8
  by_cases ck : 0 < t.kids.length
  · have ck' : ¬ ks = [] := by rintro rfl; simp at hlk; omega
    have ck2 : (0 : Int) < (ks.length : Int) := by omega
    simp [F_term_right, b_term_right, c4, c8, b4, b8, ck, ck', ck2, hlk]
  have ck' : ks = [] := by cases ks with | nil => rfl | cons a l => simp at hlk; omega
  subst ck'
  rw [if_neg c4, if_neg c8, if_neg ck]
  by_cases c1 : t.kind = 1
  · have : (((t.text.length : Nat) : Int) == 1) = (t.text.length == 1) := by rw [Bool.eq_iff_iff]; simp; omega
    simp [F_term_right, b_term_right, c1, this]
  have b1 : (t.kind == 1) = false := by simpa using c1
  by_cases c2 : t.kind = 2
  · have h1 := fn_ContainsOdd hE t.text k (by omega)
    unfold wordT
    by_cases e1 : t.text = []
    · simp [F_term_right, b_term_right, c2, e1]
    · have e1' : t.text.isEmpty = false := by simpa using e1
      by_cases e2 : t.text.length ≤ 60
      · have e2' : (t.text.length : Int) ≤ 60 := by omega
        simp [F_term_right, b_term_right, c2, e1, e1', e2, e2', h1]
      · have e2' : ¬ (t.text.length : Int) ≤ 60 := by omega
        simp [F_term_right, b_term_right, c2, e1, e1', e2, e2']
  have b2 : (t.kind == 2) = false := by simpa using c2
  by_cases c3 : t.kind = 3
  · have h1 := fn_isNumber hE t.text hs k (by omega)
    simp [F_term_right, b_term_right, c3, h1]
  have b3 : (t.kind == 3) = false := by simpa using c3
  rw [if_neg c1, if_neg c2, if_neg c3]
  have h1 := fn_every hE t.text hs 3 k (by omega)
  by_cases e1 : t.text = []
  · rcases Decidable.em (t.kind = 5 ∨ t.kind = 6 ∨ t.kind = 7) with hk5 | hk5
    · rcases hk5 with c5 | c5 | c5 <;> simp [F_term_right, b_term_right, c5, e1]
    · have b5 : (t.kind == 5) = false := by simp; omega
      have b6 : (t.kind == 6) = false := by simp; omega
      have b7 : (t.kind == 7) = false := by simp; omega
      simp [F_term_right, b_term_right, b4, b8, b1, b2, b3, b5, b6, b7, hk5]
  · have e1' : t.text.isEmpty = false := by simpa using e1
    rcases Decidable.em (t.kind = 5 ∨ t.kind = 6 ∨ t.kind = 7) with hk5 | hk5
    · by_cases e2 : t.text.length ≤ 40
      · have e2' : (t.text.length : Int) ≤ 40 := by omega
        rcases hk5 with c5 | c5 | c5 <;> simp [F_term_right, b_term_right, c5, e1, e1', e2, e2', h1]
      · have e2' : ¬ (t.text.length : Int) ≤ 40 := by omega
        rcases hk5 with c5 | c5 | c5 <;> simp [F_term_right, b_term_right, c5, e1, e1', e2, e2']
    · have b5 : (t.kind == 5) = false := by simp; omega
      have b6 : (t.kind == 6) = false := by simp; omega
      have b7 : (t.kind == 7) = false := by simp; omega
      simp [F_term_right, b_term_right, b4, b8, b1, b2, b3, b5, b6, b7, hk5]
end
end Ab.R

/- Depths of terms; a function of the Kids of all terms of a list. No condition. -/
namespace Ab
open Go Go.RowKit
mutual
def dpE : Tm → Nat
  | .mk k _ kids => if k = 4 ∨ k = 8 ∨ 0 < kids.length then 1 + dpS kids else 0
def dpS : List Tm → Nat
  | [] => 0
  | t :: ts => max (dpE t) (dpS ts)
end
theorem dpE_eq (t : Tm) : dpE t = if t.kind = 4 ∨ t.kind = 8 ∨ 0 < t.kids.length then 1 + dpS t.kids else 0 := by cases t; simp only [dpE, Tm.kind, Tm.kids]; congr
theorem dpS_append : ∀ a b : List Tm, dpS (a ++ b) = max (dpS a) (dpS b)
  | [], b => by simp [dpS]
  | t :: a, b => by simp only [List.cons_append, dpS, dpS_append a b]; omega
mutual
theorem dpE_le : ∀ t : Tm, dpE t ≤ nT t
  | .mk k s kids => by have := dpS_le kids; simp only [dpE, nT]; split <;> omega
theorem dpS_le : ∀ ts : List Tm, dpS ts ≤ nTs ts
  | [] => by simp [dpS]
  | t :: ts => by have := dpE_le t; have := dpS_le ts; simp only [dpS, nTs]; omega
end

/- a function of one slice, at the Kids of all terms of a list -/
theorem kid_all {E : IEnv} {f : AV} {more : List AV} {c : Tm → AV} {ts : List Tm} {xs : List AV} (h1 : Rts ts xs)
    (hf : ∀ t v, t ∈ ts → Sl t.kids v → Fn E f (v :: more) (c t)) :
    ∃ K, ∀ k, K ≤ k → ∀ (i : Nat) t, ts[i]? = some t → ∃ v, xs[i]? = some (.agg [.int .i64 t.kind, .str t.text, v]) ∧ Sl t.kids v ∧ ∀ s, callA E k none f (v :: more) s = some (.ret (c t), false, s) := by
  let kid : AV → AV := fun x => match x with | .agg [_, _, v] => v | _ => .junk
  obtain ⟨K, hK⟩ := Fn.all (E := E) (tgt := f) (α := Tm × AV) (args := fun q => kid q.2 :: more) (v := fun q => c q.1) (xs := ts.zip xs) (by
    intro q hq
    obtain ⟨i, hi⟩ := List.mem_iff_getElem?.1 hq
    obtain ⟨a1, a2⟩ := List.getElem?_zip_eq_some.1 hi
    obtain ⟨x, a3, a4⟩ := h1.get a1
    rw [a3] at a2; cases a2
    obtain ⟨v, e1, hv⟩ := a4.open
    have k1 : kid q.2 = v := by rw [e1]
    rw [k1]
    exact hf _ _ (List.mem_of_getElem? a1) hv)
  refine ⟨K, fun k hk i t ht => ?_⟩
  obtain ⟨x, a3, a4⟩ := h1.get ht
  obtain ⟨v, e1, hv⟩ := a4.open
  subst e1
  exact ⟨v, a3, hv, hK k hk (t, _) (List.mem_iff_getElem?.2 ⟨i, List.getElem?_zip_eq_some.2 ⟨ht, a3⟩⟩)⟩
end Ab

/- What 'term.depth' answers. No condition but the table. -/
namespace Ab.R
open Go Ab Go.RowKit
set_option maxRecDepth 10000
set_option linter.unusedSimpArgs false
set_option linter.unusedVariables false
theorem max_nat (a b : Nat) : (if a < b then (b : Int) else (a : Int)) = ((max a b : Nat) : Int) := by split <;> omega
section
variable {E : IEnv} (hE : E.fns = Table.fn table)
include hE
theorem fn_depth : ∀ (n : Nat) {ts : List Tm} {v : AV}, nTs ts < n → nTs ts ≤ most → Sl ts v → Fn E (.fn n_term_depth [] []) [v] (.int .i64 (dpS ts))
  | 0, _, _, h, _, _ => by omega
  | n + 1, ts, v, hn, hm, hv => by
    obtain ⟨o1, xs, rfl, ⟨hm1, _⟩, h1⟩ := hv
    have hl1 := h1.length
    have hmx : maxLen = 9223372036854775807 := rfl
    have hmm : most = 1073741824 := rfl
    obtain ⟨K, hK⟩ := kid_all (E := E) (f := .fn n_term_depth [] []) (more := []) (c := fun t => .int .i64 (dpS t.kids)) h1 fun t v ht hv => fn_depth n (by have := nT_mem ht; rw [nT_eq] at this; omega) (by have := nT_mem ht; rw [nT_eq] at this; omega) hv
    refine Fn.byW (h_term_depth hE) rfl rfl ⟨K + ts.length + 10, fun k hk bl tk => ?_⟩
    simp [F_term_depth, b_term_depth]
    refine wp_loop xs.length (fun i e s => ∃ b, bl.length ≤ b.length ∧ e = [(3, .int .i64 (dpS (ts.take i))), (6, .sl o1 3 xs), (7, .int .i64 xs.length), (8, .int .i64 i)] ∧ s = { bl := b, tk, ro := bl.length, rt := tk.length }) (by omega) (by simp [dpS]) ?_ ?_
    · rintro i e s hi ⟨b, hb, rfl, rfl⟩
      obtain ⟨t, ht⟩ : ∃ t, ts[i]? = some t := ⟨_, List.getElem?_eq_getElem (by omega)⟩
      obtain ⟨vx, hx, hvx, hc⟩ := hK k (by omega) i t ht
      obtain ⟨o2, ks, rfl, hlk⟩ := hvx.len
      obtain ⟨hi1, hx1⟩ := List.getElem?_eq_some_iff.1 hx
      have e1 : idx (.int .i64 i) xs.length = some i := idx_nat hi1
      have hwr : IntKind.wrap .i64 ((i : Int) + 1) = i + 1 := wrapIn (by omega) (by omega)
      have htk : dpS (ts.take (i + 1)) = max (dpS (ts.take i)) (dpE t) := by rw [List.take_add_one, ht, dpS_append]; simp [dpS]
      have hle := nT_mem (List.mem_of_getElem? ht)
      have hle2 := dpS_le t.kids
      rw [nT_eq] at hle
      have hw2 : IntKind.wrap .i64 (1 + (dpS t.kids : Int)) = 1 + dpS t.kids := wrapIn (by omega) (by omega)
      have hmaxn : (if (dpS (ts.take i) : Int) < 1 + (dpS t.kids : Int) then (1 + (dpS t.kids : Int)) else (dpS (ts.take i) : Int)) = ((max (dpS (ts.take i)) (1 + dpS t.kids) : Nat) : Int) := by split <;> omega
      have hb1 : bl.length ≤ b.length + 1 := by omega
      rw [htk, dpE_eq]
      by_cases c4 : t.kind = 4
      · rw [if_pos (.inl c4)]
        simp [l0_term_depth, hi, e1, hx1, hwr, hb, hb1, c4, hc, hw2, mmAll, mmA, hmaxn]
      have b4 : (t.kind == 4) = false := by simpa using c4
      by_cases c8 : t.kind = 8
      · rw [if_pos (.inr (.inl c8))]
        simp [l0_term_depth, hi, e1, hx1, hwr, hb, hb1, c8, hc, hw2, mmAll, mmA, hmaxn]
      have b8 : (t.kind == 8) = false := by simpa using c8
      by_cases ck : 0 < t.kids.length
      · rw [if_pos (.inr (.inr ck))]
        have ck' : ¬ ks = [] := by rintro rfl; simp at hlk; omega
        simp [l0_term_depth, hi, e1, hx1, hwr, hb, hb1, b4, b8, ck', hc, hw2, mmAll, mmA, hmaxn]
      · rw [if_neg (by rintro (h | h | h) <;> omega)]
        have ck' : ks = [] := by cases ks with | nil => rfl | cons a l => simp at hlk; omega
        simp [l0_term_depth, hi, e1, hx1, hwr, hb, hb1, b4, b8, ck', hc]
    · rintro e s ⟨b, hb, rfl, rfl⟩
      rw [List.take_of_length_le (by omega)]
      simp [l0_term_depth]
end
end Ab.R
