/- The plain law of FormatOrder. No condition. -/
import Derived.Test.YtcbbpkdidkbepaaDoorAb11
set_option linter.all false
namespace Ab.R
open Ab

mutual
theorem nameE_twice : ∀ (m : Nat) (t : Tm), nameE m (nameE m t).1 = nameE m t
  | m, .mk k s kids => by
    have := nameS_twice m kids
    by_cases h : k = 4
    · simp only [nameE, h, if_true, this]
    · simp only [nameE, h, if_false]
theorem nameS_twice : ∀ (m : Nat) (ts : List Tm), nameS m (nameS m ts).1 = nameS m ts
  | m, [] => by simp [nameS]
  | m, t :: ts => by
    have h1 := nameE_twice m t
    have h2 := nameS_twice (nameE m t).2 ts
    simp only [nameS, h1, h2]
end
theorem named_twice (f : List Tm) : namedT (namedT f) = namedT f := by unfold namedT; rw [nameS_twice]
mutual
theorem formE_name : ∀ (m : Nat) (t : Tm), formE t = true → formE (nameE m t).1 = true
  | m, .mk k s kids, h => by
    rw [formE] at h
    by_cases h4 : k = 4
    · subst h4
      simp only [nameE, if_true]
      rw [formE]
      rw [if_neg (by omega), if_pos rfl] at h ⊢
      simp only [Bool.and_eq_true, decide_eq_true_eq] at h ⊢
      exact ⟨formL_name m kids h.1, by rw [cnt7_name]; exact h.2⟩
    · simp only [nameE, h4, if_false]
      rw [formE]
      simp only [h4, if_false] at h ⊢
      exact h
theorem formL_name : ∀ (m : Nat) (ts : List Tm), formL ts = true → formL (nameS m ts).1 = true
  | m, [], _ => by simp [nameS, formL]
  | m, t :: ts, h => by
    simp only [formL, Bool.and_eq_true] at h
    simp only [nameS, formL, formE_name m t h.1, formL_name _ ts h.2, Bool.and_self]
theorem cnt7_name : ∀ (m : Nat) (ts : List Tm), cnt7 (nameS m ts).1 = cnt7 ts
  | m, [] => by simp [nameS]
  | m, t :: ts => by
    simp only [nameS, cnt7_cons, nameE_kind, cnt7_name _ ts]
end
theorem formedT_name {f : List Tm} (h : formedT f = true) : formedT (namedT f) = true := by
  unfold formedT namedT at *
  simp only [Bool.and_eq_true, decide_eq_true_eq] at h ⊢
  exact ⟨formL_name 0 f h.1, by rw [cnt7_name]; exact h.2⟩
theorem digits_right : ∀ i < 100, (itoaS i != [] && decide ((itoaS i).length ≤ 2) && everyC (itoaS i) 3) = true := by decide +kernel
def okT (t : Tm) : Bool := decide (t.kind ≤ 7) && rightT t && decide (t.text.length ≤ 2)
theorem okT_var {k : Int} {i : Nat} (hk : k = 5 ∨ k = 6 ∨ k = 7) (hi : i < 100) : okT (.mk k (itoaS i) []) = true := by
  have h := digits_right i hi
  simp only [Bool.and_eq_true, decide_eq_true_eq] at h
  have h3 : decide ((itoaS i).length ≤ 40) = true := by have := h.1.2; simp; omega
  unfold okT rightT
  simp only [Tm.kind, Tm.text, Tm.kids]
  rcases hk with rfl | rfl | rfl <;> simp [h.1.1, h.1.2, h.2] <;> exact h3
mutual
theorem preT_ok : ∀ (m : Nat) (t : Tm), formE t = true → m + nT t < 100 → (preT (nameE m t).1).all okT = true
  | m, .mk k s kids, h, hm => by
    rw [formE] at h
    simp only [nT] at hm
    by_cases h4 : k = 4
    · subst h4
      rw [if_neg (by omega), if_pos rfl] at h
      simp only [Bool.and_eq_true, decide_eq_true_eq] at h
      simp only [nameE, if_true, preT, List.all_cons, preS_ok m kids h.1 (by omega), Bool.and_true]
      rfl
    · simp only [nameE, h4, if_false, preT, preS, List.all_cons, List.all_nil, Bool.and_true]
      refine okT_var ?_ (by omega)
      by_cases h7 : k = 7
      · exact .inr (.inr h7)
      · rw [if_neg h7, if_neg h4] at h
        simp only [Bool.or_eq_true, beq_iff_eq] at h
        omega
theorem preS_ok : ∀ (m : Nat) (ts : List Tm), formL ts = true → m + nTs ts < 100 → (preS (nameS m ts).1).all okT = true
  | m, [], _, _ => by simp [nameS, preS]
  | m, t :: ts, h, hm => by
    simp only [formL, Bool.and_eq_true] at h
    simp only [nTs] at hm
    have := nameE_le m t
    simp only [nameS, preS, List.all_append, preT_ok m t h.1 (by omega), preS_ok (nameE m t).2 ts h.2 (by omega), Bool.and_self]
end
theorem named_ok {f : List Tm} (hf : formedT f = true) (hn : nTs f < 100) : checkF (namedT f) = 0 ∧ Shorts (namedT f) := by
  have hl : formL f = true := by unfold formedT at hf; simp only [Bool.and_eq_true] at hf; exact hf.1
  have hall := preS_ok 0 f hl (by omega)
  rw [List.all_eq_true] at hall
  have hnn : nTs (namedT f) ≤ nTs f := nameS_nTs 0 f
  have hd := dpS_le (namedT f)
  refine ⟨?_, fun t ht => ?_⟩
  · have hc : checkT 7 (namedT f) = 0 := by
      unfold checkT
      rw [if_neg (by omega), if_neg (by omega), if_pos]
      rw [List.all_eq_true]
      intro t ht
      have := hall t ht
      unfold okT at this
      simp only [Bool.and_eq_true] at this
      simp only [Bool.and_eq_true]
      exact this.1
    unfold checkF
    rw [hc, named_twice, cmpTs_self, formedT_name hf]
    rfl
  · have := hall t ht
    unfold okT at this
    simp only [Bool.and_eq_true, decide_eq_true_eq] at this
    omega
theorem checkF_formed {f : List Tm} (h : checkF f = 0) : formedT f = true := by
  unfold checkF at h
  split at h
  · rename_i h1; exact absurd h h1
  · split at h
    · rename_i h2
      simp only [Bool.and_eq_true] at h2
      exact h2.1
    · omega

theorem orderLaw {f g h : List Tm} (nf : nTs f ≤ 60) (ng : nTs g ≤ 60) (_ : nTs h ≤ 60) (cf : checkF f = 0) (cg : checkF g = 0) (_ : checkF h = 0) : OrderLaw f g h := by
  have ff := checkF_formed cf
  have fg := checkF_formed cg
  have j1 := nTs_joinT NN f g
  have j2 := nTs_joinT NN g f
  have jfm := formedT_join NN f g
  have jc : joinL (bothT NN) f g = joinL (bothT NN) g f := joinL_comm (bothT_comm NN) f g
  have c1 := nTs_cut 0 f
  have cfm := formedT_cut 0 ff
  have okj := named_ok jfm (by omega)
  have okc := named_ok cfm (by omega)
  have hNN : NN = 200 := rfl
  exact {
    self := within_self NN ff (by omega)
    trans := withinT_trans NN
    jn := by omega
    jn' := by omega
    jeq := by rw [jc]
    jck := okj.1
    jf := by rw [within_named NN f jfm]; exact withinT_join NN g ff
    jg := by rw [within_named NN g jfm, jc]; exact withinT_join NN f fg
    js := okj.2
    cn := by omega
    cck := okc.1
    cf := by rw [within_named NN f cfm]; exact withinT_cut NN 0 ff (by omega)
    cs := okc.2
    cn' := by rw [cut_named_cut]; have := nameS_nTs 0 (cutT 0 f); unfold namedT; omega
    ceq := by rw [cut_named_cut, named_twice] }
end Ab.R

/- The plain law of FormatValues. No condition. -/
namespace Ab.R
open Ab

/- new names on the left -/
def AlikeL (p : Tm → Tm → Bool) (t u : Tm) : Prop := t.kind = u.kind ∧ ∀ b, p u b = p t b
theorem eqF_alikeL {p : Tm → Tm → Bool} : ∀ {bs ts us : List Tm}, Pw (AlikeL p) ts us → eqF p us bs = eqF p ts bs
  | bs, [], _, h => by simp only [Pw] at h; subst h; rfl
  | bs, t :: ts, _, h => by
    simp only [Pw] at h
    obtain ⟨u, r, rfl, h1, h2⟩ := h
    cases bs with
    | nil => rfl
    | cons b bs => simp only [eqF, h1.2 b, eqF_alikeL h2]
theorem frontF_alikeL {p : Tm → Tm → Bool} : ∀ {bs ts us : List Tm}, Pw (AlikeL p) ts us → frontF p us bs = frontF p ts bs
  | bs, [], _, h => by simp only [Pw] at h; subst h; rfl
  | bs, t :: ts, _, h => by
    simp only [Pw] at h
    obtain ⟨u, r, rfl, h1, h2⟩ := h
    cases bs with
    | nil => rfl
    | cons b bs => simp only [frontF, h1.2 b, frontF_alikeL h2]
theorem within_alikeL {p : Tm → Tm → Bool} {f f' g : List Tm} (h : Pw (fun t u => t.kind = u.kind ∧ (t.kind ≠ 7 → ∀ b, p u b = p t b)) f f') (h1 : cnt7 f ≤ 1) : withinL p f' g = withinL p f g := by
  obtain ⟨ho, hf, hr⟩ := h.split fun t u h => by rw [h.1]
  have hf7 := splitT_front7 f
  have hr7 := splitT_rear7 h1
  have hf' : Pw (AlikeL p) (splitT f).front (splitT f').front := hf.mono fun t u ht hq => ⟨hq.1, hq.2 (hf7 t ht)⟩
  have hr' : Pw (AlikeL p) (splitT f).rear (splitT f').rear := hr.mono fun t u ht hq => ⟨hq.1, hq.2 (hr7 t ht)⟩
  have hra : Pw (AlikeL p) (rearOf (splitT f)) (rearOf (splitT f')) := by
    unfold rearOf; rw [ho]; split
    · exact hr'
    · exact hf'
  unfold withinL
  rw [ho, hf.length, hr.length, frontF_alikeL hf', frontF_alikeL hra.reverse]
  cases of : (splitT f).op with
  | true => simp
  | false =>
    have e1 := splitT_shut of
    have e2 := splitT_shut (ho.trans of)
    rw [e1, e2] at hf'
    rw [eqF_alikeL hf']
theorem inside_namedL : ∀ (n : Nat) (t u : Tm) (m : Nat), formE t = true → t.kind ≠ 7 → insideT n (nameE m t).1 u = insideT n t u
  | 0, _, u, m, _, _ => rfl
  | n + 1, t, u, m, hf, h7 => by
    rw [insideT_succ, insideT_succ, nameE_kind]
    by_cases h4 : t.kind = 4
    · have hk : formedT t.kids = true := by
        rcases formE_cases hf with h | ⟨_, h⟩ | h | h
        · exact absurd h h7
        · exact h
        · omega
        · omega
      obtain ⟨k1, k2⟩ := (formedT_iff _).1 hk
      rw [nameE_kids h4, within_alikeL (nameS_pw m fun t ht m => ⟨(nameE_kind m t).symm, fun ht7 a => inside_namedL n t a m (k1 t ht) ht7⟩) k2]
    · have : (t.kind == 4) = false := by simpa using h4
      simp only [this, Bool.false_and]
theorem within_namedL (n : Nat) {f : List Tm} (g : List Tm) (hf : formedT f = true) : withinL (insideT n) (namedT f) g = withinL (insideT n) f g := by
  obtain ⟨k1, k2⟩ := (formedT_iff _).1 hf
  exact within_alikeL (nameS_pw 0 fun t ht m => ⟨(nameE_kind m t).symm, fun ht7 a => inside_namedL n t a m (k1 t ht) ht7⟩) k2

/- values -/
theorem right_kind {t : Tm} (h : rightT t = true) (h4 : t.kind ≤ 4) : t.kind = 4 ∨ t.kind = 1 ∨ t.kind = 2 ∨ t.kind = 3 := by
  unfold rightT at h
  by_cases c4 : t.kind = 4
  · exact .inl c4
  rw [if_neg c4, if_neg (by omega)] at h
  split at h
  · cases h
  · by_cases c1 : t.kind = 1
    · omega
    by_cases c2 : t.kind = 2
    · omega
    by_cases c3 : t.kind = 3
    · omega
    rw [if_neg c1, if_neg c2, if_neg c3, if_neg (by omega)] at h
    cases h
mutual
theorem valE_of : ∀ t : Tm, (preT t).all (fun t => decide (t.kind ≤ 4) && rightT t) = true → valE t = true
  | .mk k s kids, h => by
    simp only [preT, List.all_cons, Bool.and_eq_true, decide_eq_true_eq] at h
    have hk := right_kind h.1.2 h.1.1
    rw [valE]
    by_cases h4 : k = 4
    · rw [if_pos h4]
      refine valL_of kids ?_
      rw [List.all_eq_true] at h ⊢
      intro t ht
      have := h.2 t ht
      simpa using this
    · rw [if_neg h4]
      simp only [Tm.kind] at hk
      simp only [Bool.or_eq_true, beq_iff_eq]
      omega
theorem valL_of : ∀ ts : List Tm, (preS ts).all (fun t => decide (t.kind ≤ 4) && rightT t) = true → valL ts = true
  | [], _ => rfl
  | t :: ts, h => by
    simp only [preS, List.all_append, Bool.and_eq_true] at h
    simp only [valL, valE_of t h.1, valL_of ts h.2, Bool.and_self]
end
theorem value_facts {v : List Tm} (h : checkT 4 v = 0) : valL v = true ∧ checkT 8 v = 0 := by
  unfold checkT at h
  by_cases c1 : 4000 < nTs v
  · rw [if_pos c1] at h; omega
  rw [if_neg c1] at h
  by_cases c2 : 100 < dpS v
  · rw [if_pos c2] at h; omega
  rw [if_neg c2] at h
  cases c3 : (preS v).all (fun t => decide (t.kind ≤ 4) && rightT t) with
  | false => rw [c3] at h; simp at h
  | true =>
    refine ⟨valL_of v c3, ?_⟩
    unfold checkT
    rw [if_neg c1, if_neg c2, if_pos]
    rw [List.all_eq_true] at c3 ⊢
    intro t ht
    have := c3 t ht
    simp only [Bool.and_eq_true, decide_eq_true_eq] at this ⊢
    exact ⟨by omega, this.2⟩

structure ValuesLaw (f g v : List Tm) : Prop where
  val : valL v = true
  res : checkT 8 v = 0
  on : nTs (leastL v) < 100
  ock : checkF (namedT (leastL v)) = 0
  os : Shorts (namedT (leastL v))
  own : withinL (insideT NN) (leastL v) (namedT (leastL v)) = true
  inn : withinL (insideT NN) (namedT (leastL v)) f = withinL (insideT NN) (leastL v) f
  out : withinL (insideT NN) (leastL v) f = true → withinL (insideT NN) f g = true → withinL (insideT NN) (leastL v) g = true
theorem valuesLaw {f g v : List Tm} (nv : nTs v ≤ 60) (cv : checkT 4 v = 0) : ValuesLaw f g v := by
  obtain ⟨h1, h2⟩ := value_facts cv
  have h3 := leastL_nTs v
  have h4 := leastT_formed v
  have ok := named_ok h4 (by omega)
  have hNN : NN = 200 := rfl
  exact {
    val := h1
    res := h2
    on := by omega
    ock := ok.1
    os := ok.2
    own := by rw [within_named NN _ h4]; exact within_self NN h4 (by omega)
    inn := within_namedL NN f h4
    out := withinT_trans NN }
end Ab.R

/- What 'FormatValues' answers. No condition but the table. -/
namespace Ab.R
open Go Ab Go.RowKit
set_option maxRecDepth 10000
set_option linter.unusedSimpArgs false
set_option linter.unusedVariables false
section
variable {E : IEnv} (hE : E.fns = Table.fn table) (hI : PrimI E)
include hE hI
theorem fn_FormatValues {f g v : List Tm} {x y z : AV} (hx : Sl f x) (hy : Sl g y) (hz : Sl v z) : Fn E (.fn n_chiasmuslaw22_FormatValues [] []) [x, y, z] (.bool true) := by
  have hmm : most = 1073741824 := rfl
  obtain ⟨Ka, hKa⟩ := fn_awake hE hI
  obtain ⟨K1, hK1⟩ := fn_Small hE hx 60 (by omega) (by omega)
  obtain ⟨K2, hK2⟩ := fn_Small hE hy 60 (by omega) (by omega)
  obtain ⟨K3, hK3⟩ := fn_Small hE hz 60 (by omega) (by omega)
  by_cases s1 : ¬ (smallT f 60 = true)
  · have s1' : smallT f 60 = false := by simpa using s1
    rw [s1'] at hK1
    exact Fn.byW (h_chiasmuslaw22_FormatValues hE) rfl rfl ⟨Ka + K1, fun k hk bl tk => by simp [F_chiasmuslaw22_FormatValues, b_chiasmuslaw22_FormatValues, hKa k (by omega), hK1 k (by omega)]⟩
  have s1 := Decidable.of_not_not s1
  rw [s1] at hK1
  by_cases s2 : ¬ (smallT g 60 = true)
  · have s2' : smallT g 60 = false := by simpa using s2
    rw [s2'] at hK2
    exact Fn.byW (h_chiasmuslaw22_FormatValues hE) rfl rfl ⟨Ka + K1 + K2, fun k hk bl tk => by simp [F_chiasmuslaw22_FormatValues, b_chiasmuslaw22_FormatValues, hKa k (by omega), hK1 k (by omega), hK2 k (by omega)]⟩
  have s2 := Decidable.of_not_not s2
  rw [s2] at hK2
  by_cases s3 : ¬ (smallT v 60 = true)
  · have s3' : smallT v 60 = false := by simpa using s3
    rw [s3'] at hK3
    exact Fn.byW (h_chiasmuslaw22_FormatValues hE) rfl rfl ⟨Ka + K1 + K2 + K3, fun k hk bl tk => by simp [F_chiasmuslaw22_FormatValues, b_chiasmuslaw22_FormatValues, hKa k (by omega), hK1 k (by omega), hK2 k (by omega), hK3 k (by omega)]⟩
  have s3 := Decidable.of_not_not s3
  rw [s3] at hK3
  have n1 := smallT_nodes s1
  have n2 := smallT_nodes s2
  have n3 := smallT_nodes s3
  have t1 : Shorts f := smallT_short s1
  have t2 : Shorts g := smallT_short s2
  have t3 : Shorts v := smallT_short s3
  obtain ⟨K4, hK4⟩ := fn_Check hE hI hx (by omega) max600 t1
  obtain ⟨K5, hK5⟩ := fn_Check hE hI hy (by omega) max600 t2
  obtain ⟨K6, hK6⟩ := fn_Value hE hz (by omega) max600 t3
  by_cases c1 : ¬ (checkF f = 0)
  · have c1' : (checkF f != 0) = true := by simpa using c1
    exact Fn.byW (h_chiasmuslaw22_FormatValues hE) rfl rfl ⟨Ka + K1 + K2 + K3 + K4, fun k hk bl tk => by simp [F_chiasmuslaw22_FormatValues, b_chiasmuslaw22_FormatValues, hKa k (by omega), hK1 k (by omega), hK2 k (by omega), hK3 k (by omega), hK4 k (by omega), c1, c1']⟩
  have c1 := Decidable.of_not_not c1
  rw [c1] at hK4
  by_cases c2 : ¬ (checkF g = 0)
  · have c2' : (checkF g != 0) = true := by simpa using c2
    exact Fn.byW (h_chiasmuslaw22_FormatValues hE) rfl rfl ⟨Ka + K1 + K2 + K3 + K4 + K5, fun k hk bl tk => by simp [F_chiasmuslaw22_FormatValues, b_chiasmuslaw22_FormatValues, hKa k (by omega), hK1 k (by omega), hK2 k (by omega), hK3 k (by omega), hK4 k (by omega), hK5 k (by omega), c2, c2']⟩
  have c2 := Decidable.of_not_not c2
  rw [c2] at hK5
  by_cases c3 : ¬ (checkT 4 v = 0)
  · have c3' : (checkT 4 v != 0) = true := by simpa using c3
    exact Fn.byW (h_chiasmuslaw22_FormatValues hE) rfl rfl ⟨Ka + K1 + K2 + K3 + K4 + K5 + K6, fun k hk bl tk => by simp [F_chiasmuslaw22_FormatValues, b_chiasmuslaw22_FormatValues, hKa k (by omega), hK1 k (by omega), hK2 k (by omega), hK3 k (by omega), hK4 k (by omega), hK5 k (by omega), hK6 k (by omega), c3, c3']⟩
  have c3 := Decidable.of_not_not c3
  rw [c3] at hK6
  have l := valuesLaw (f := f) (g := g) (v := v) (by omega) c3
  obtain ⟨O, hO⟩ : ∃ O, O = namedT (leastL v) := ⟨_, rfl⟩
  have hon : nTs O < 100 := by rw [hO]; have h1 := nameS_nTs 0 (leastL v); have h2 := l.on; simp only [namedT] at *; omega
  have hos : Shorts O := by rw [hO]; exact l.os
  have hoc : checkF O = 0 := by rw [hO]; exact l.ock
  have vo : Sl O (endV 3 (canoL O)) := endV_Sl (by omega)
  have pp : ∀ {a b : List Tm}, checkF a = 0 → checkF b = 0 → pairF a b = 0 := fun ha hb => by unfold pairF; rw [if_neg (by simpa using ha)]; exact hb
  obtain ⟨K7, hK7⟩ := fn_Of hE hI hz (by omega) t3 l.val l.res
  rw [← hO] at hK7
  obtain ⟨K8, hK8⟩ := fn_Has hE hI NN vo hz hon (by omega) hos t3 l.val c3 hoc (by decide) (by decide)
  rw [show withinL (insideT NN) (leastL v) O = true by rw [hO]; exact l.own] at hK8
  obtain ⟨K9, hK9⟩ := fn_Has hE hI NN hx hz (by omega) (by omega) t1 t3 l.val c3 c1 (by decide) (by decide)
  obtain ⟨K10, hK10⟩ := fn_Has hE hI NN hy hz (by omega) (by omega) t2 t3 l.val c3 c2 (by decide) (by decide)
  obtain ⟨K11, hK11⟩ := fn_law_inside hE hI NN vo hx hon (by omega) hos t1 (by decide) (by decide)
  rw [pp hoc c1, show withinL (insideT NN) O f = withinL (insideT NN) (leastL v) f by rw [hO]; exact l.inn] at hK11
  obtain ⟨K12, hK12⟩ := fn_law_inside hE hI NN hx hy (by omega) (by omega) t1 t2 (by decide) (by decide)
  rw [pp c1 c2] at hK12
  have ltr := l.out
  generalize withinL (insideT NN) (leastL v) f = w1 at *
  generalize withinL (insideT NN) f g = w2 at *
  generalize withinL (insideT NN) (leastL v) g = w3 at *
  refine Fn.byW (h_chiasmuslaw22_FormatValues hE) rfl rfl ⟨Ka + K1 + K2 + K3 + K4 + K5 + K6 + K7 + K8 + K9 + K10 + K11 + K12, fun k hk bl tk => ?_⟩
  have e0 := hKa k (by omega)
  have e1 := hK1 k (by omega)
  have e2 := hK2 k (by omega)
  have e3 := hK3 k (by omega)
  have e4 := hK4 k (by omega)
  have e5 := hK5 k (by omega)
  have e6 := hK6 k (by omega)
  have e7 := hK7 k (by omega)
  have e8 := hK8 k (by omega)
  have e9 := hK9 k (by omega)
  have e10 := hK10 k (by omega)
  have e11 := hK11 k (by omega)
  have e12 := hK12 k (by omega)
  simp only [beq_self_eq_true, Bool.true_and] at e11 e12
  cases w1
  · simp [F_chiasmuslaw22_FormatValues, b_chiasmuslaw22_FormatValues, aeq, e0, e1, e2, e3, e4, e5, e6, e7, e8, e9, e10, e11, e12]
  · cases w2
    · simp [F_chiasmuslaw22_FormatValues, b_chiasmuslaw22_FormatValues, aeq, e0, e1, e2, e3, e4, e5, e6, e7, e8, e9, e10, e11, e12]
    · have w3t : w3 = true := ltr rfl rfl
      subst w3t
      simp [F_chiasmuslaw22_FormatValues, b_chiasmuslaw22_FormatValues, aeq, e0, e1, e2, e3, e4, e5, e6, e7, e8, e9, e10, e11, e12]
end
end Ab.R
