/- Plain laws of the join. No condition. -/
import Derived.Test.YtcbbpkdidkbepaaDoorAb12
set_option linter.all false
namespace Ab.R
open Ab

theorem zipWith_comm' {p : Tm → Tm → Tm} (hp : ∀ a b, p a b = p b a) : ∀ f g : List Tm, List.zipWith p f g = List.zipWith p g f
  | [], [] => rfl
  | [], _ :: _ => rfl
  | _ :: _, [] => rfl
  | a :: f, b :: g => by simp only [List.zipWith_cons_cons, hp a b, zipWith_comm' hp f g]
theorem joinL_comm {p : Tm → Tm → Tm} (hp : ∀ a b, p a b = p b a) (f g : List Tm) : joinL p f g = joinL p g f := by
  unfold joinL
  by_cases h : (splitT f).op = false ∧ (splitT g).op = false ∧ f.length = g.length
  · rw [if_pos h, if_pos ⟨h.2.1, h.1, h.2.2.symm⟩, zipWith_comm' hp]
  · rw [if_neg h, if_neg fun h' => h ⟨h'.2.1, h'.1, h'.2.2.symm⟩]
    dsimp only
    rw [Nat.min_comm (splitT g).front.length, Nat.min_comm (behindT _ (splitT g)).length, zipWith_comm' hp ((splitT f).front.take _), zipWith_comm' hp (List.drop _ (behindT _ (splitT f)))]
theorem bothT_comm : ∀ (n : Nat) (a b : Tm), bothT n a b = bothT n b a
  | 0, _, _ => rfl
  | n + 1, a, b => by
    unfold bothT
    by_cases h5 : a.kind = 5 ∧ b.kind = 5
    · rw [if_pos h5, if_pos ⟨h5.2, h5.1⟩]
    have h5' : ¬ (b.kind = 5 ∧ a.kind = 5) := fun h => h5 ⟨h.2, h.1⟩
    simp only [h5, h5', if_false]
    by_cases h4 : a.kind = 4 ∧ b.kind = 4
    · rw [if_pos h4, if_pos ⟨h4.2, h4.1⟩, joinL_comm (bothT_comm n)]
    · have h4' : ¬ (b.kind = 4 ∧ a.kind = 4) := fun h => h4 ⟨h.2, h.1⟩
      simp only [h4, h4', if_false]
theorem bothT_kind (n : Nat) (a b : Tm) : (bothT n a b).kind = 4 ∨ (bothT n a b).kind = 5 ∨ (bothT n a b).kind = 6 := by
  cases n with
  | zero => exact .inr (.inr rfl)
  | succ n =>
    unfold bothT
    split
    · exact .inr (.inl rfl)
    · split
      · exact .inl rfl
      · exact .inr (.inr rfl)

/- a list within what is made of it -/
theorem zip_pw {q : Tm → Tm → Bool} {p : Tm → Tm → Tm} : ∀ {f g : List Tm}, f.length = g.length → (∀ a ∈ f, ∀ b, q a (p a b) = true) → Pw (fun t u => q t u = true) f (List.zipWith p f g)
  | [], [], _, _ => by simp [Pw]
  | [], _ :: _, h, _ => by simp at h
  | _ :: _, [], h, _ => by simp at h
  | a :: f, b :: g, h, hq => by
    simp only [List.zipWith_cons_cons, Pw]
    exact ⟨_, _, rfl, hq a (List.mem_cons_self ..) b, zip_pw (by simpa using h) fun c hc => hq c (List.mem_cons_of_mem _ hc)⟩
theorem frontF_take {q : Tm → Tm → Bool} {A B : List Tm} (k : Nat) (h : Pw (fun t u => q t u = true) (A.take k) B) : frontF q A B = true := by
  rw [← List.take_append_drop k A]
  exact frontF_pw _ h
theorem zip_no7 {p : Tm → Tm → Tm} (hp : ∀ a b, (p a b).kind ≠ 7) : ∀ f g : List Tm, no7 (List.zipWith p f g)
  | [], _ => by intro t h; simp at h
  | _ :: _, [] => by intro t h; simp at h
  | a :: f, b :: g => by
    intro t h
    simp only [List.zipWith_cons_cons, List.mem_cons] at h
    rcases h with rfl | h
    · exact hp a b
    · exact zip_no7 hp f g t h
theorem within_join {q : Tm → Tm → Bool} {p : Tm → Tm → Tm} (hp : ∀ a b, (p a b).kind ≠ 7) {f g : List Tm} (hq : ∀ a ∈ f, ∀ b, a.kind ≠ 7 → q a (p a b) = true) (h1 : cnt7 f ≤ 1) : withinL q f (joinL p f g) = true := by
  have hf7 := splitT_front7 f
  have hr7 := splitT_rear7 h1
  unfold joinL
  by_cases h : (splitT f).op = false ∧ (splitT g).op = false ∧ f.length = g.length
  · rw [if_pos h]
    have e1 := splitT_shut h.1
    rw [e1] at hf7
    unfold withinL
    rw [splitT_no7 (zip_no7 hp f g), if_pos rfl, h.1, Bool.not_false, Bool.true_and]
    exact eqF_pw (zip_pw h.2.2 fun a ha b => hq a ha b (hf7 a ha))
  rw [if_neg h]
  dsimp only
  obtain ⟨k, hk⟩ : ∃ k, k = min (splitT f).front.length (splitT g).front.length := ⟨_, rfl⟩
  obtain ⟨m, hm⟩ : ∃ m, m = min (behindT k (splitT f)).length (behindT k (splitT g)).length := ⟨_, rfl⟩
  rw [← hk, ← hm]
  have hxl : (behindT k (splitT f)).length + k ≤ (splitT f).front.length + (splitT f).rear.length := by
    unfold behindT; split
    · omega
    · simp; omega
  have hmem : ∀ t ∈ behindT k (splitT f), t.kind ≠ 7 := by
    intro t ht
    unfold behindT at ht; split at ht
    · exact hr7 t ht
    · exact hf7 t (List.mem_of_mem_drop ht)
  unfold allT withinL
  simp only [if_true]
  rw [splitT_open (zip_no7 hp _ _), if_neg (by simp), if_neg (by simp; omega)]
  have r1 : frontF q (splitT f).front (List.zipWith p ((splitT f).front.take k) ((splitT g).front.take k)) = true :=
    frontF_take k (zip_pw (by simp; omega) fun a ha b => hq a (splitT_front (List.mem_of_mem_take ha)) b (hf7 a (List.mem_of_mem_take ha)))
  rw [r1, Bool.true_and]
  have r2 : ∃ pre, rearOf (splitT f) = pre ++ behindT k (splitT f) := by
    unfold rearOf behindT
    cases (splitT f).op with
    | true => exact ⟨[], rfl⟩
    | false => exact ⟨(splitT f).front.take k, by simp⟩
  obtain ⟨pre, r2⟩ := r2
  have r3 : rearOf (splitT f) = (pre ++ (behindT k (splitT f)).take ((behindT k (splitT f)).length - m)) ++ (behindT k (splitT f)).drop ((behindT k (splitT f)).length - m) := by
    rw [List.append_assoc, List.take_append_drop]; exact r2
  rw [r3, List.reverse_append]
  exact frontF_pw _ (zip_pw (by simp; omega) fun a ha b => hq a (behindT_mem (List.mem_of_mem_drop ha)) b (hmem a (List.mem_of_mem_drop ha))).reverse
theorem bothT_no7 (n : Nat) (a b : Tm) : (bothT n a b).kind ≠ 7 := by
  have := bothT_kind n a b; omega
theorem insideT_succ (n : Nat) (t u : Tm) : insideT (n + 1) t u = if u.kind = 6 then true else if u.kind = 5 then t.kind == 5 else t.kind == 4 && withinL (insideT n) t.kids u.kids := by unfold insideT; rfl
theorem inside_both : ∀ (n : Nat) (a b : Tm), formE a = true → a.kind ≠ 7 → insideT n a (bothT n a b) = true
  | 0, _, _, _, _ => rfl
  | n + 1, a, b, hf, h7 => by
    unfold bothT
    by_cases h5 : a.kind = 5 ∧ b.kind = 5
    · rw [if_pos h5, insideT_succ]
      rw [show (Tm.mk 5 [] []).kind = 5 from rfl]
      simp [h5.1]
    rw [if_neg h5]
    by_cases h4 : a.kind = 4 ∧ b.kind = 4
    · rw [if_pos h4, insideT_succ]
      have hk : formedT a.kids = true := by
        rcases formE_cases hf with h | ⟨_, h⟩ | h | h
        · exact absurd h h7
        · exact h
        · omega
        · omega
      obtain ⟨k1, k2⟩ := (formedT_iff _).1 hk
      have := within_join (q := insideT n) (p := bothT n) (f := a.kids) (g := b.kids) (bothT_no7 n) (fun c hc d h7 => inside_both n c d (k1 c hc) h7) k2
      rw [show ∀ X, (Tm.mk 4 [] X).kind = 4 from fun _ => rfl, show ∀ X, (Tm.mk 4 [] X).kids = X from fun _ => rfl]
      simp [h4.1, this]
    · rw [if_neg h4]; exact inside_top _ _ _ rfl
theorem withinT_join (n : Nat) {f : List Tm} (g : List Tm) (hf : formedT f = true) : withinL (insideT n) f (joinL (bothT n) f g) = true := by
  obtain ⟨k1, k2⟩ := (formedT_iff _).1 hf
  exact within_join (bothT_no7 n) (fun c hc d h7 => inside_both n c d (k1 c hc) h7) k2

/- the join is well formed -/
theorem zip_mem {p : Tm → Tm → Tm} : ∀ {f g : List Tm} {t : Tm}, t ∈ List.zipWith p f g → ∃ a b, a ∈ f ∧ b ∈ g ∧ t = p a b
  | [], _, _, h => by simp at h
  | _ :: _, [], _, h => by simp at h
  | a :: f, b :: g, t, h => by
    simp only [List.zipWith_cons_cons, List.mem_cons] at h
    rcases h with rfl | h
    · exact ⟨a, b, List.mem_cons_self .., List.mem_cons_self .., rfl⟩
    · obtain ⟨c, d, h1, h2, h3⟩ := zip_mem h
      exact ⟨c, d, List.mem_cons_of_mem _ h1, List.mem_cons_of_mem _ h2, h3⟩
theorem formed_join {p : Tm → Tm → Tm} (hp : ∀ a b, (p a b).kind ≠ 7) {f g : List Tm} (hq : ∀ a ∈ f, ∀ b ∈ g, formE (p a b) = true) : formedT (joinL p f g) = true := by
  unfold joinL
  by_cases h : (splitT f).op = false ∧ (splitT g).op = false ∧ f.length = g.length
  · rw [if_pos h, formedT_iff]
    refine ⟨fun t ht => ?_, by rw [no7_cnt7 (zip_no7 hp f g)]; omega⟩
    obtain ⟨a, b, ha, hb, rfl⟩ := zip_mem ht
    exact hq a ha b hb
  rw [if_neg h]
  dsimp only
  rw [formedT_iff]
  unfold allT
  simp only [if_true]
  refine ⟨fun t ht => ?_, ?_⟩
  · simp only [List.mem_append, List.mem_cons] at ht
    rcases ht with ht | rfl | ht
    · obtain ⟨a, b, ha, hb, rfl⟩ := zip_mem ht
      exact hq a (splitT_front (List.mem_of_mem_take ha)) b (splitT_front (List.mem_of_mem_take hb))
    · rfl
    · obtain ⟨a, b, ha, hb, rfl⟩ := zip_mem ht
      exact hq a (behindT_mem (List.mem_of_mem_drop ha)) b (behindT_mem (List.mem_of_mem_drop hb))
  · rw [cnt7_append, cnt7_cons, no7_cnt7 (zip_no7 hp _ _), no7_cnt7 (zip_no7 hp _ _)]
    simp [someT, Tm.kind]
theorem formE_both : ∀ (n : Nat) (a b : Tm), formE (bothT n a b) = true
  | 0, _, _ => rfl
  | n + 1, a, b => by
    unfold bothT
    split
    · rfl
    · split
      · rw [formE_eq]
        simp only [Tm.kind, Tm.kids]
        exact formed_join (bothT_no7 n) fun c _ d _ => formE_both n c d
      · rfl
theorem formedT_join (n : Nat) (f g : List Tm) : formedT (joinL (bothT n) f g) = true := formed_join (bothT_no7 n) fun c _ d _ => formE_both n c d

/- how many terms the join has -/
theorem nTs_zip {p : Tm → Tm → Tm} : ∀ {f g : List Tm}, (∀ a ∈ f, ∀ b ∈ g, 3 * nT (p a b) ≤ 2 * (nT a + nT b)) → 3 * nTs (List.zipWith p f g) ≤ 2 * (nTs f + nTs g)
  | [], _, _ => by simp [nTs]
  | _ :: _, [], _ => by simp [nTs]
  | a :: f, b :: g, h => by
    have h1 := h a (List.mem_cons_self ..) b (List.mem_cons_self ..)
    have h2 := nTs_zip (f := f) (g := g) fun c hc d hd => h c (List.mem_cons_of_mem _ hc) d (List.mem_cons_of_mem _ hd)
    simp only [List.zipWith_cons_cons, nTs]; omega
theorem nTs_take (ts : List Tm) (i : Nat) : nTs (ts.take i) + nTs (ts.drop i) = nTs ts := by
  conv => rhs; rw [← List.take_append_drop i ts, nTs_append]
theorem nTs_split (f : List Tm) : nTs (splitT f).front + nTs (splitT f).rear + (if (splitT f).op then 1 else 0) ≤ nTs f := by
  cases ho : (splitT f).op with
  | false =>
    rw [splitT_shut ho, splitT_shut2 ho]; simp [nTs]
  | true =>
    obtain ⟨e, _, h2⟩ := splitT_eq f ho
    have := nT_pos e
    conv => rhs; rw [h2, nTs_append, nTs]
    simp only [if_true]; omega
theorem nTs_behind (k : Nat) (x : Ls) (hk : k ≤ x.front.length) : nTs (x.front.take k) + nTs (behindT k x) ≤ nTs x.front + nTs x.rear := by
  unfold behindT
  have := nTs_take x.front k
  split <;> omega
theorem nTs_join {p : Tm → Tm → Tm} {f g : List Tm} (h : ∀ a ∈ f, ∀ b ∈ g, 3 * nT (p a b) ≤ 2 * (nT a + nT b)) : 3 * nTs (joinL p f g) ≤ 2 * (nTs f + nTs g) + 1 := by
  unfold joinL
  by_cases hc : (splitT f).op = false ∧ (splitT g).op = false ∧ f.length = g.length
  · rw [if_pos hc]
    have := nTs_zip h
    omega
  rw [if_neg hc]
  dsimp only
  obtain ⟨k, hk⟩ : ∃ k, k = min (splitT f).front.length (splitT g).front.length := ⟨_, rfl⟩
  obtain ⟨m, hm⟩ : ∃ m, m = min (behindT k (splitT f)).length (behindT k (splitT g)).length := ⟨_, rfl⟩
  rw [← hk, ← hm]
  unfold allT
  simp only [if_true, nTs_append, nTs]
  have z1 := nTs_zip (p := p) (f := (splitT f).front.take k) (g := (splitT g).front.take k) fun a ha b hb => h a (splitT_front (List.mem_of_mem_take ha)) b (splitT_front (List.mem_of_mem_take hb))
  have z2 := nTs_zip (p := p) (f := (behindT k (splitT f)).drop ((behindT k (splitT f)).length - m)) (g := (behindT k (splitT g)).drop ((behindT k (splitT g)).length - m)) fun a ha b hb => h a (behindT_mem (List.mem_of_mem_drop ha)) b (behindT_mem (List.mem_of_mem_drop hb))
  have b1 := nTs_behind k (splitT f) (by omega)
  have b2 := nTs_behind k (splitT g) (by omega)
  have s1 := nTs_split f
  have s2 := nTs_split g
  have t1 := nTs_take (behindT k (splitT f)) ((behindT k (splitT f)).length - m)
  have t2 := nTs_take (behindT k (splitT g)) ((behindT k (splitT g)).length - m)
  have hsome : nT someT = 1 := rfl
  rw [hsome]
  -- one term at least is left over
  have left : nTs ((splitT f).front.take k) + nTs ((behindT k (splitT f)).drop ((behindT k (splitT f)).length - m)) + (nTs ((splitT g).front.take k) + nTs ((behindT k (splitT g)).drop ((behindT k (splitT g)).length - m))) + 1 ≤ nTs f + nTs g := by
    cases ho1 : (splitT f).op with
    | true => rw [ho1, if_pos rfl] at s1; omega
    | false =>
      cases ho2 : (splitT g).op with
      | true => rw [ho2, if_pos rfl] at s2; omega
      | false =>
        have e1 := splitT_shut ho1
        have e2 := splitT_shut ho2
        have hne : f.length ≠ g.length := fun he => hc ⟨ho1, ho2, he⟩
        rw [e1, e2] at hk
        have q1 : behindT k (splitT f) = f.drop k := by unfold behindT; rw [ho1, e1]; rfl
        have q2 : behindT k (splitT g) = g.drop k := by unfold behindT; rw [ho2, e2]; rfl
        rw [q1, q2] at hm
        simp only [List.length_drop] at hm
        have hm0 : m = 0 := by omega
        rw [e1, e2, q1, q2, hm0]
        simp only [Nat.sub_zero, List.drop_length, nTs, Nat.add_zero]
        have t3 := nTs_take f k
        have t4 := nTs_take g k
        have l3 := length_le_nTs (f.drop k)
        have l4 := length_le_nTs (g.drop k)
        simp only [List.length_drop] at l3 l4
        omega
  omega
theorem nT_both : ∀ (n : Nat) (a b : Tm), 3 * nT (bothT n a b) ≤ 2 * (nT a + nT b)
  | 0, a, b => by have := nT_pos a; have := nT_pos b; simp only [bothT, nT, nTs]; omega
  | n + 1, a, b => by
    have h1 := nT_eq a
    have h2 := nT_eq b
    unfold bothT
    split
    · simp only [nT, nTs]; omega
    · split
      · have := nTs_join (p := bothT n) (f := a.kids) (g := b.kids) fun c _ d _ => nT_both n c d
        simp only [nT]; omega
      · simp only [nT, nTs]; omega
theorem nTs_joinT (n : Nat) (f g : List Tm) : 3 * nTs (joinL (bothT n) f g) ≤ 2 * (nTs f + nTs g) + 1 := nTs_join fun c _ d _ => nT_both n c d
end Ab.R

/- Plain laws of the cut. No condition. -/
namespace Ab.R
open Ab

theorem cutE_eq (lv : Nat) (t : Tm) : cutE lv t = if t.kind = 4 then (if lv = 4 then .mk 6 [] [] else .mk t.kind t.text (cutT (lv + 1) t.kids)) else t := by
  obtain ⟨k, s, kids⟩ := t
  rw [cutE]; rfl
theorem cutE_other {lv : Nat} {t : Tm} (h : t.kind ≠ 4) : cutE lv t = t := by rw [cutE_eq, if_neg h]
theorem cutE_7 (lv : Nat) (t : Tm) : (cutE lv t).kind = 7 ↔ t.kind = 7 := by
  rw [cutE_eq]
  by_cases h : t.kind = 4
  · rw [if_pos h]
    split
    · rw [h]; simp [Tm.kind]
    · exact Iff.rfl
  · rw [if_neg h]
theorem cutS_pw {R : Tm → Tm → Prop} (lv : Nat) : ∀ {ts : List Tm}, (∀ t ∈ ts, R t (cutE lv t)) → Pw R ts (cutS lv ts)
  | [], _ => by simp [cutS, Pw]
  | t :: ts, h => by
    simp only [cutS, Pw]
    exact ⟨_, _, rfl, h t (List.mem_cons_self ..), cutS_pw lv fun u hu => h u (List.mem_cons_of_mem _ hu)⟩
theorem cutS_mem {lv : Nat} : ∀ {ts : List Tm} {u : Tm}, u ∈ cutS lv ts → ∃ t ∈ ts, u = cutE lv t
  | [], _, h => by simp [cutS] at h
  | t :: ts, u, h => by
    simp only [cutS, List.mem_cons] at h
    rcases h with rfl | h
    · exact ⟨t, List.mem_cons_self .., rfl⟩
    · obtain ⟨v, h1, h2⟩ := cutS_mem h
      exact ⟨v, List.mem_cons_of_mem _ h1, h2⟩
theorem cutS_cnt7 (lv : Nat) : ∀ ts : List Tm, cnt7 (cutS lv ts) = cnt7 ts
  | [] => rfl
  | t :: ts => by
    simp only [cutS, cnt7_cons, cutS_cnt7 lv ts, cutE_7]

/- the three ways of trimming -/
theorem trimL_short {X : List Tm} (h : X.length ≤ 12) : trimL X = X := by unfold trimL; rw [if_pos h]
theorem trimL_shut {X : List Tm} (h : ¬ X.length ≤ 12) (ho : (splitT X).op = false) : trimL X = X.take 6 ++ someT :: X.drop (X.length - 5) := by
  unfold trimL; rw [if_neg h, if_neg (by rw [ho]; simp), splitT_shut ho]; simp [allT]
theorem trimL_open {X : List Tm} (h : ¬ X.length ≤ 12) (ho : (splitT X).op = true) : ∃ a, a ≤ (splitT X).front.length ∧ a ≤ 11 ∧ 11 - a ≤ (splitT X).rear.length ∧ trimL X = (splitT X).front.take a ++ someT :: (splitT X).rear.drop ((splitT X).rear.length - (11 - a)) := by
  have := splitT_len ho
  refine ⟨min (splitT X).front.length (11 - min (splitT X).rear.length 5), by omega, by omega, by omega, ?_⟩
  unfold trimL; rw [if_neg h, if_pos ho]; simp [allT]

theorem within_trim {q : Tm → Tm → Bool} {f X : List Tm} (h : Pw (fun t u => (t.kind = 7 ↔ u.kind = 7) ∧ (t.kind ≠ 7 → q t u = true)) f X) (h1 : cnt7 f ≤ 1) (hx : cnt7 X ≤ 1) : withinL q f (trimL X) = true := by
  by_cases hl : X.length ≤ 12
  · rw [trimL_short hl]; exact within_map h h1
  obtain ⟨ho, hf, hr⟩ := h.split fun t u h => h.1
  have hf7 := splitT_front7 f
  have hr7 := splitT_rear7 h1
  have hf' : Pw (fun t u => q t u = true) (splitT f).front (splitT X).front := hf.mono fun t u ht hq => hq.2 (hf7 t ht)
  have hr' : Pw (fun t u => q t u = true) (splitT f).rear (splitT X).rear := hr.mono fun t u ht hq => hq.2 (hr7 t ht)
  have hlen := h.length
  cases hop : (splitT X).op with
  | false =>
    rw [hop] at ho
    have e1 := splitT_shut ho.symm
    have e2 := splitT_shut hop
    have e3 := splitT_shut2 ho.symm
    rw [e1, e2] at hf'
    have hx7 : no7 X := by rw [← e2]; exact splitT_front7 X
    rw [trimL_shut hl hop]
    unfold withinL
    rw [splitT_open fun t ht => hx7 t (List.mem_of_mem_take ht), if_neg (by simp), if_neg (by rw [e1, e3]; simp; omega), e1]
    have r1 : rearOf (splitT f) = f := by unfold rearOf; rw [← ho, e1]; rfl
    rw [r1, frontF_take 6 (hf'.take 6), Bool.true_and]
    have r2 : f = f.take (X.length - 5) ++ f.drop (X.length - 5) := (List.take_append_drop _ _).symm
    rw [r2, List.reverse_append]
    exact frontF_pw _ (hf'.drop (X.length - 5)).reverse
  | true =>
    rw [hop] at ho
    obtain ⟨a, ha1, ha2, ha3, he⟩ := trimL_open hl hop
    rw [he]
    have l1 := hf'.length
    have l2 := hr'.length
    unfold withinL
    rw [splitT_open fun t ht => splitT_front7 X t (List.mem_of_mem_take ht), if_neg (by simp), if_neg (by simp; omega)]
    have r1 : rearOf (splitT f) = (splitT f).rear := by unfold rearOf; rw [← ho]; rfl
    rw [r1, frontF_take a (hf'.take a), Bool.true_and]
    have r2 : (splitT f).rear = (splitT f).rear.take ((splitT X).rear.length - (11 - a)) ++ (splitT f).rear.drop ((splitT X).rear.length - (11 - a)) := (List.take_append_drop _ _).symm
    rw [r2, List.reverse_append]
    exact frontF_pw _ (hr'.drop _).reverse

theorem inside_cut : ∀ (n lv : Nat) (t : Tm), nT t ≤ n → formE t = true → t.kind ≠ 7 → insideT n t (cutE lv t) = true
  | 0, _, t, h, _, _ => by have := nT_pos t; omega
  | n + 1, lv, t, h, hf, h7 => by
    by_cases h4 : t.kind = 4
    · rw [cutE_eq, if_pos h4]
      by_cases hl : lv = 4
      · rw [if_pos hl]; exact inside_top _ _ _ rfl
      · rw [if_neg hl, insideT_succ]
        rw [show ∀ X, (Tm.mk t.kind t.text X).kind = t.kind from fun _ => rfl, show ∀ X, (Tm.mk t.kind t.text X).kids = X from fun _ => rfl, h4]
        have hk : formedT t.kids = true := by
          rcases formE_cases hf with h | ⟨_, h⟩ | h | h
          · exact absurd h h7
          · exact h
          · omega
          · omega
        obtain ⟨k1, k2⟩ := (formedT_iff _).1 hk
        rw [nT_eq] at h
        have := within_trim (q := insideT n) (f := t.kids) (X := cutS (lv + 1) t.kids) (cutS_pw (lv + 1) fun u hu => ⟨(cutE_7 _ u).symm, fun hu7 => inside_cut n (lv + 1) u (by have := nT_mem hu; omega) (k1 u hu) hu7⟩) k2 (by rw [cutS_cnt7]; exact k2)
        simp only [beq_self_eq_true, Bool.true_and]
        simpa [cutT] using this
    · rw [cutE_other h4]; exact inside_self _ h hf h7
theorem withinT_cut (n lv : Nat) {f : List Tm} (hf : formedT f = true) (hn : nTs f ≤ n) : withinL (insideT n) f (cutT lv f) = true := by
  obtain ⟨k1, k2⟩ := (formedT_iff _).1 hf
  exact within_trim (cutS_pw lv fun u hu => ⟨(cutE_7 _ u).symm, fun hu7 => inside_cut n lv u (by have := nT_mem hu; omega) (k1 u hu) hu7⟩) k2 (by rw [cutS_cnt7]; exact k2)

/- the cut is well formed -/
theorem formed_trim {X : List Tm} (h : formedT X = true) : formedT (trimL X) = true := by
  by_cases hl : X.length ≤ 12
  · rw [trimL_short hl]; exact h
  obtain ⟨k1, k2⟩ := (formedT_iff _).1 h
  rw [formedT_iff]
  cases hop : (splitT X).op with
  | false =>
    have e2 := splitT_shut hop
    have hx7 : no7 X := by rw [← e2]; exact splitT_front7 X
    rw [trimL_shut hl hop]
    refine ⟨fun t ht => ?_, ?_⟩
    · simp only [List.mem_append, List.mem_cons] at ht
      rcases ht with ht | rfl | ht
      · exact k1 t (List.mem_of_mem_take ht)
      · rfl
      · exact k1 t (List.mem_of_mem_drop ht)
    · rw [cnt7_append, cnt7_cons, no7_cnt7 fun t ht => hx7 t (List.mem_of_mem_take ht), no7_cnt7 fun t ht => hx7 t (List.mem_of_mem_drop ht)]
      simp [someT, Tm.kind]
  | true =>
    obtain ⟨a, ha1, ha2, ha3, he⟩ := trimL_open hl hop
    rw [he]
    refine ⟨fun t ht => ?_, ?_⟩
    · simp only [List.mem_append, List.mem_cons] at ht
      rcases ht with ht | rfl | ht
      · exact k1 t (splitT_front (List.mem_of_mem_take ht))
      · rfl
      · exact k1 t (splitT_rear (List.mem_of_mem_drop ht))
    · rw [cnt7_append, cnt7_cons, no7_cnt7 fun t ht => splitT_front7 X t (List.mem_of_mem_take ht), no7_cnt7 fun t ht => splitT_rear7 k2 t (List.mem_of_mem_drop ht)]
      simp [someT, Tm.kind]
theorem formE_cut : ∀ (n lv : Nat) (t : Tm), nT t ≤ n → formE t = true → formE (cutE lv t) = true
  | 0, _, t, h, _ => by have := nT_pos t; omega
  | n + 1, lv, t, h, hf => by
    by_cases h4 : t.kind = 4
    · rw [cutE_eq, if_pos h4]
      by_cases hl : lv = 4
      · rw [if_pos hl]; rfl
      · rw [if_neg hl, formE_eq]
        rw [show ∀ X, (Tm.mk t.kind t.text X).kind = t.kind from fun _ => rfl, show ∀ X, (Tm.mk t.kind t.text X).kids = X from fun _ => rfl, h4]
        have hk : formedT t.kids = true := by
          rcases formE_cases hf with h | ⟨_, h⟩ | h | h
          · omega
          · exact h
          · omega
          · omega
        obtain ⟨k1, k2⟩ := (formedT_iff _).1 hk
        rw [nT_eq] at h
        rw [if_neg (by omega), if_pos rfl]
        refine formed_trim ((formedT_iff _).2 ⟨fun u hu => ?_, by rw [cutS_cnt7]; exact k2⟩)
        obtain ⟨v, hv, rfl⟩ := cutS_mem hu
        exact formE_cut n (lv + 1) v (by have := nT_mem hv; omega) (k1 v hv)
    · rw [cutE_other h4]; exact hf
theorem formedT_cut (lv : Nat) {f : List Tm} (hf : formedT f = true) : formedT (cutT lv f) = true := by
  obtain ⟨k1, k2⟩ := (formedT_iff _).1 hf
  refine formed_trim ((formedT_iff _).2 ⟨fun u hu => ?_, by rw [cutS_cnt7]; exact k2⟩)
  obtain ⟨v, hv, rfl⟩ := cutS_mem hu
  exact formE_cut _ lv v (Nat.le_refl _) (k1 v hv)

/- how many terms it has -/
theorem nTs_trim (X : List Tm) : nTs (trimL X) ≤ nTs X := by
  by_cases hl : X.length ≤ 12
  · rw [trimL_short hl]; omega
  have hsome : nT someT = 1 := rfl
  cases hop : (splitT X).op with
  | false =>
    rw [trimL_shut hl hop, nTs_append, nTs, hsome]
    have t1 := nTs_take X 6
    have t2 := nTs_take (X.drop 6) (X.length - 11)
    have l1 := length_le_nTs ((X.drop 6).take (X.length - 11))
    simp only [List.length_take, List.length_drop] at l1
    rw [List.drop_drop, show 6 + (X.length - 11) = X.length - 5 by omega] at t2
    omega
  | true =>
    obtain ⟨a, ha1, ha2, ha3, he⟩ := trimL_open hl hop
    rw [he, nTs_append, nTs, hsome]
    have s := nTs_split X
    rw [hop, if_pos rfl] at s
    have t1 := nTs_take (splitT X).front a
    have t2 := nTs_take (splitT X).rear ((splitT X).rear.length - (11 - a))
    omega
mutual
theorem nT_cut : ∀ (lv : Nat) (t : Tm), nT (cutE lv t) ≤ nT t
  | lv, .mk k s kids => by
    have h1 := nTs_cutS (lv + 1) kids
    have h2 := nTs_trim (cutS (lv + 1) kids)
    simp only [cutE]
    split
    · split
      · simp only [nT, nTs]; omega
      · simp only [nT]; omega
    · exact Nat.le_refl _
theorem nTs_cutS : ∀ (lv : Nat) (ts : List Tm), nTs (cutS lv ts) ≤ nTs ts
  | _, [] => by simp [cutS]
  | lv, t :: ts => by
    have h1 := nT_cut lv t
    have h2 := nTs_cutS lv ts
    simp only [cutS, nTs]; omega
end
theorem nTs_cut (lv : Nat) (f : List Tm) : nTs (cutT lv f) ≤ nTs f := by
  have h1 := nTs_trim (cutS lv f)
  have h2 := nTs_cutS lv f
  unfold cutT; omega

/- what is cut stays -/
mutual
def stE : Nat → Tm → Bool
  | lv, .mk k _ kids => if k = 4 then decide (lv ≠ 4) && stS (lv + 1) kids && decide (kids.length ≤ 12) else true
def stS : Nat → List Tm → Bool
  | _, [] => true
  | lv, t :: ts => stE lv t && stS lv ts
end
def stT (lv : Nat) (l : List Tm) : Bool := stS lv l && decide (l.length ≤ 12)
mutual
theorem cutE_st : ∀ (lv : Nat) (t : Tm), stE lv t = true → cutE lv t = t
  | lv, .mk k s kids, h => by
    simp only [stE] at h
    simp only [cutE]
    split
    · rename_i h4
      rw [if_pos h4] at h
      simp only [Bool.and_eq_true, decide_eq_true_eq] at h
      rw [if_neg h.1.1, cutS_st (lv + 1) kids h.1.2, trimL_short h.2]
    · rfl
theorem cutS_st : ∀ (lv : Nat) (ts : List Tm), stS lv ts = true → cutS lv ts = ts
  | _, [], _ => rfl
  | lv, t :: ts, h => by
    simp only [stS, Bool.and_eq_true] at h
    simp only [cutS, cutE_st lv t h.1, cutS_st lv ts h.2]
end
theorem cutT_st {lv : Nat} {l : List Tm} (h : stT lv l = true) : cutT lv l = l := by
  simp only [stT, Bool.and_eq_true, decide_eq_true_eq] at h
  unfold cutT; rw [cutS_st lv l h.1, trimL_short h.2]
theorem stS_iff : ∀ (lv : Nat) (l : List Tm), stS lv l = true ↔ ∀ t ∈ l, stE lv t = true
  | lv, [] => by simp [stS]
  | lv, t :: l => by simp [stS, stS_iff lv l]
theorem trim_len (X : List Tm) : (trimL X).length ≤ 12 := by
  by_cases hl : X.length ≤ 12
  · rw [trimL_short hl]; exact hl
  cases hop : (splitT X).op with
  | false => rw [trimL_shut hl hop]; simp; omega
  | true =>
    obtain ⟨a, ha1, ha2, ha3, he⟩ := trimL_open hl hop
    rw [he]; simp; omega
theorem trim_mem {X : List Tm} {t : Tm} (h : t ∈ trimL X) : t = someT ∨ t ∈ X := by
  by_cases hl : X.length ≤ 12
  · rw [trimL_short hl] at h; exact .inr h
  cases hop : (splitT X).op with
  | false =>
    rw [trimL_shut hl hop] at h
    simp only [List.mem_append, List.mem_cons] at h
    rcases h with h | h | h
    · exact .inr (List.mem_of_mem_take h)
    · exact .inl h
    · exact .inr (List.mem_of_mem_drop h)
  | true =>
    obtain ⟨a, ha1, ha2, ha3, he⟩ := trimL_open hl hop
    rw [he] at h
    simp only [List.mem_append, List.mem_cons] at h
    rcases h with h | h | h
    · exact .inr (splitT_front (List.mem_of_mem_take h))
    · exact .inl h
    · exact .inr (splitT_rear (List.mem_of_mem_drop h))
theorem st_trim {lv : Nat} {X : List Tm} (h : ∀ t ∈ X, stE lv t = true) : stT lv (trimL X) = true := by
  unfold stT
  rw [Bool.and_eq_true, stS_iff, decide_eq_true_eq]
  refine ⟨fun t ht => ?_, trim_len X⟩
  rcases trim_mem ht with rfl | ht
  · rfl
  · exact h t ht
mutual
theorem stE_cut : ∀ (lv : Nat) (t : Tm), stE lv (cutE lv t) = true
  | lv, .mk k s kids => by
    have h1 := stS_cut (lv + 1) kids
    simp only [cutE]
    split
    · split
      · rfl
      · rename_i h4 hl
        have h2 := st_trim (lv := lv + 1) (X := cutS (lv + 1) kids) ((stS_iff _ _).1 h1)
        simp only [stT, Bool.and_eq_true, decide_eq_true_eq] at h2
        simp only [stE, h4, if_true, h2.1, Bool.and_true, Bool.and_eq_true, decide_eq_true_eq]
        exact ⟨hl, h2.2⟩
    · rename_i h4
      simp only [stE, h4, if_false]
theorem stS_cut : ∀ (lv : Nat) (ts : List Tm), stS lv (cutS lv ts) = true
  | _, [] => rfl
  | lv, t :: ts => by simp only [cutS, stS, stE_cut lv t, stS_cut lv ts, Bool.and_self]
end
theorem stT_cut (lv : Nat) (f : List Tm) : stT lv (cutT lv f) = true := st_trim ((stS_iff _ _).1 (stS_cut lv f))
mutual
theorem stE_name : ∀ (lv m : Nat) (t : Tm), stE lv t = true → stE lv (nameE m t).1 = true
  | lv, m, .mk k s kids, h => by
    simp only [stE] at h
    simp only [nameE]
    split
    · rename_i h4
      rw [if_pos h4] at h
      simp only [Bool.and_eq_true, decide_eq_true_eq] at h
      simp only [stE, if_true, stS_name (lv + 1) m kids h.1.2, nameS_length, Bool.and_true, Bool.and_eq_true, decide_eq_true_eq]
      exact ⟨h.1.1, h.2⟩
    · rename_i h4
      simp only [stE, h4, if_false]
theorem stS_name : ∀ (lv m : Nat) (ts : List Tm), stS lv ts = true → stS lv (nameS m ts).1 = true
  | _, m, [], _ => by simp [nameS, stS]
  | lv, m, t :: ts, h => by
    simp only [stS, Bool.and_eq_true] at h
    simp only [nameS, stS, stE_name lv m t h.1, stS_name lv _ ts h.2, Bool.and_self]
end
theorem cut_named_cut (f : List Tm) : cutT 0 (namedT (cutT 0 f)) = namedT (cutT 0 f) := by
  have h := stT_cut 0 f
  simp only [stT, Bool.and_eq_true, decide_eq_true_eq] at h
  refine cutT_st ?_
  simp only [stT, Bool.and_eq_true, decide_eq_true_eq]
  exact ⟨stS_name 0 0 _ h.1, by unfold namedT; rw [nameS_length]; exact h.2⟩
end Ab.R

/- The plain law of FormatOrder. No condition. -/
namespace Ab.R
open Ab

mutual
theorem nameE_twice : ∀ (m : Nat) (t : Tm), nameE m (nameE m t).1 = nameE m t
  | m, .mk k s kids => by
    have := nameS_twice m kids
    by_cases h : k = 4
    · simp only [nameE, h, if_true, this]
    · simp only [nameE, h, if_false]
theorem nameS_twice : ∀ (m : Nat) (ts : List Tm), nameS m (nameS m ts).1 = nameS m ts
  | m, [] => by simp [nameS]
  | m, t :: ts => by
    have h1 := nameE_twice m t
    have h2 := nameS_twice (nameE m t).2 ts
    simp only [nameS, h1, h2]
end
theorem named_twice (f : List Tm) : namedT (namedT f) = namedT f := by unfold namedT; rw [nameS_twice]
mutual
theorem formE_name : ∀ (m : Nat) (t : Tm), formE t = true → formE (nameE m t).1 = true
  | m, .mk k s kids, h => by
    rw [formE] at h
    by_cases h4 : k = 4
    · subst h4
      simp only [nameE, if_true]
      rw [formE]
      rw [if_neg (by omega), if_pos rfl] at h ⊢
      simp only [Bool.and_eq_true, decide_eq_true_eq] at h ⊢
      exact ⟨formL_name m kids h.1, by rw [cnt7_name]; exact h.2⟩
    · simp only [nameE, h4, if_false]
      rw [formE]
      simp only [h4, if_false] at h ⊢
      exact h
theorem formL_name : ∀ (m : Nat) (ts : List Tm), formL ts = true → formL (nameS m ts).1 = true
  | m, [], _ => by simp [nameS, formL]
  | m, t :: ts, h => by
    simp only [formL, Bool.and_eq_true] at h
    simp only [nameS, formL, formE_name m t h.1, formL_name _ ts h.2, Bool.and_self]
theorem cnt7_name : ∀ (m : Nat) (ts : List Tm), cnt7 (nameS m ts).1 = cnt7 ts
  | m, [] => by simp [nameS]
  | m, t :: ts => by
    simp only [nameS, cnt7_cons, nameE_kind, cnt7_name _ ts]
end
theorem formedT_name {f : List Tm} (h : formedT f = true) : formedT (namedT f) = true := by
  unfold formedT namedT at *
  simp only [Bool.and_eq_true, decide_eq_true_eq] at h ⊢
  exact ⟨formL_name 0 f h.1, by rw [cnt7_name]; exact h.2⟩
theorem digits_right : ∀ i < 100, (itoaS i != [] && decide ((itoaS i).length ≤ 2) && everyC (itoaS i) 3) = true := by decide +kernel
def okT (t : Tm) : Bool := decide (t.kind ≤ 7) && rightT t && decide (t.text.length ≤ 2)
theorem okT_var {k : Int} {i : Nat} (hk : k = 5 ∨ k = 6 ∨ k = 7) (hi : i < 100) : okT (.mk k (itoaS i) []) = true := by
  have h := digits_right i hi
  simp only [Bool.and_eq_true, decide_eq_true_eq] at h
  have h3 : decide ((itoaS i).length ≤ 40) = true := by have := h.1.2; simp; omega
  unfold okT rightT
  simp only [Tm.kind, Tm.text, Tm.kids]
  rcases hk with rfl | rfl | rfl <;> simp [h.1.1, h.1.2, h.2] <;> exact h3
mutual
theorem preT_ok : ∀ (m : Nat) (t : Tm), formE t = true → m + nT t < 100 → (preT (nameE m t).1).all okT = true
  | m, .mk k s kids, h, hm => by
    rw [formE] at h
    simp only [nT] at hm
    by_cases h4 : k = 4
    · subst h4
      rw [if_neg (by omega), if_pos rfl] at h
      simp only [Bool.and_eq_true, decide_eq_true_eq] at h
      simp only [nameE, if_true, preT, List.all_cons, preS_ok m kids h.1 (by omega), Bool.and_true]
      rfl
    · simp only [nameE, h4, if_false, preT, preS, List.all_cons, List.all_nil, Bool.and_true]
      refine okT_var ?_ (by omega)
      by_cases h7 : k = 7
      · exact .inr (.inr h7)
      · rw [if_neg h7, if_neg h4] at h
        simp only [Bool.or_eq_true, beq_iff_eq] at h
        omega
theorem preS_ok : ∀ (m : Nat) (ts : List Tm), formL ts = true → m + nTs ts < 100 → (preS (nameS m ts).1).all okT = true
  | m, [], _, _ => by simp [nameS, preS]
  | m, t :: ts, h, hm => by
    simp only [formL, Bool.and_eq_true] at h
    simp only [nTs] at hm
    have := nameE_le m t
    simp only [nameS, preS, List.all_append, preT_ok m t h.1 (by omega), preS_ok (nameE m t).2 ts h.2 (by omega), Bool.and_self]
end
theorem named_ok {f : List Tm} (hf : formedT f = true) (hn : nTs f < 100) : checkF (namedT f) = 0 ∧ Shorts (namedT f) := by
  have hl : formL f = true := by unfold formedT at hf; simp only [Bool.and_eq_true] at hf; exact hf.1
  have hall := preS_ok 0 f hl (by omega)
  rw [List.all_eq_true] at hall
  have hnn : nTs (namedT f) ≤ nTs f := nameS_nTs 0 f
  have hd := dpS_le (namedT f)
  refine ⟨?_, fun t ht => ?_⟩
  · have hc : checkT 7 (namedT f) = 0 := by
      unfold checkT
      rw [if_neg (by omega), if_neg (by omega), if_pos]
      rw [List.all_eq_true]
      intro t ht
      have := hall t ht
      unfold okT at this
      simp only [Bool.and_eq_true] at this
      simp only [Bool.and_eq_true]
      exact this.1
    unfold checkF
    rw [hc, named_twice, cmpTs_self, formedT_name hf]
    rfl
  · have := hall t ht
    unfold okT at this
    simp only [Bool.and_eq_true, decide_eq_true_eq] at this
    omega
theorem checkF_formed {f : List Tm} (h : checkF f = 0) : formedT f = true := by
  unfold checkF at h
  split at h
  · rename_i h1; exact absurd h h1
  · split at h
    · rename_i h2
      simp only [Bool.and_eq_true] at h2
      exact h2.1
    · omega

theorem orderLaw {f g h : List Tm} (nf : nTs f ≤ 60) (ng : nTs g ≤ 60) (_ : nTs h ≤ 60) (cf : checkF f = 0) (cg : checkF g = 0) (_ : checkF h = 0) : OrderLaw f g h := by
  have ff := checkF_formed cf
  have fg := checkF_formed cg
  have j1 := nTs_joinT NN f g
  have j2 := nTs_joinT NN g f
  have jfm := formedT_join NN f g
  have jc : joinL (bothT NN) f g = joinL (bothT NN) g f := joinL_comm (bothT_comm NN) f g
  have c1 := nTs_cut 0 f
  have cfm := formedT_cut 0 ff
  have okj := named_ok jfm (by omega)
  have okc := named_ok cfm (by omega)
  have hNN : NN = 200 := rfl
  exact {
    self := within_self NN ff (by omega)
    trans := withinT_trans NN
    jn := by omega
    jn' := by omega
    jeq := by rw [jc]
    jck := okj.1
    jf := by rw [within_named NN f jfm]; exact withinT_join NN g ff
    jg := by rw [within_named NN g jfm, jc]; exact withinT_join NN f fg
    js := okj.2
    cn := by omega
    cck := okc.1
    cf := by rw [within_named NN f cfm]; exact withinT_cut NN 0 ff (by omega)
    cs := okc.2
    cn' := by rw [cut_named_cut]; have := nameS_nTs 0 (cutT 0 f); unfold namedT; omega
    ceq := by rw [cut_named_cut, named_twice] }
end Ab.R

/- The plain law of FormatValues. No condition. -/
namespace Ab.R
open Ab

/- new names on the left -/
def AlikeL (p : Tm → Tm → Bool) (t u : Tm) : Prop := t.kind = u.kind ∧ ∀ b, p u b = p t b
theorem eqF_alikeL {p : Tm → Tm → Bool} : ∀ {bs ts us : List Tm}, Pw (AlikeL p) ts us → eqF p us bs = eqF p ts bs
  | bs, [], _, h => by simp only [Pw] at h; subst h; rfl
  | bs, t :: ts, _, h => by
    simp only [Pw] at h
    obtain ⟨u, r, rfl, h1, h2⟩ := h
    cases bs with
    | nil => rfl
    | cons b bs => simp only [eqF, h1.2 b, eqF_alikeL h2]
theorem frontF_alikeL {p : Tm → Tm → Bool} : ∀ {bs ts us : List Tm}, Pw (AlikeL p) ts us → frontF p us bs = frontF p ts bs
  | bs, [], _, h => by simp only [Pw] at h; subst h; rfl
  | bs, t :: ts, _, h => by
    simp only [Pw] at h
    obtain ⟨u, r, rfl, h1, h2⟩ := h
    cases bs with
    | nil => rfl
    | cons b bs => simp only [frontF, h1.2 b, frontF_alikeL h2]
theorem within_alikeL {p : Tm → Tm → Bool} {f f' g : List Tm} (h : Pw (fun t u => t.kind = u.kind ∧ (t.kind ≠ 7 → ∀ b, p u b = p t b)) f f') (h1 : cnt7 f ≤ 1) : withinL p f' g = withinL p f g := by
  obtain ⟨ho, hf, hr⟩ := h.split fun t u h => by rw [h.1]
  have hf7 := splitT_front7 f
  have hr7 := splitT_rear7 h1
  have hf' : Pw (AlikeL p) (splitT f).front (splitT f').front := hf.mono fun t u ht hq => ⟨hq.1, hq.2 (hf7 t ht)⟩
  have hr' : Pw (AlikeL p) (splitT f).rear (splitT f').rear := hr.mono fun t u ht hq => ⟨hq.1, hq.2 (hr7 t ht)⟩
  have hra : Pw (AlikeL p) (rearOf (splitT f)) (rearOf (splitT f')) := by
    unfold rearOf; rw [ho]; split
    · exact hr'
    · exact hf'
  unfold withinL
  rw [ho, hf.length, hr.length, frontF_alikeL hf', frontF_alikeL hra.reverse]
  cases of : (splitT f).op with
  | true => simp
  | false =>
    have e1 := splitT_shut of
    have e2 := splitT_shut (ho.trans of)
    rw [e1, e2] at hf'
    rw [eqF_alikeL hf']
theorem inside_namedL : ∀ (n : Nat) (t u : Tm) (m : Nat), formE t = true → t.kind ≠ 7 → insideT n (nameE m t).1 u = insideT n t u
  | 0, _, u, m, _, _ => rfl
  | n + 1, t, u, m, hf, h7 => by
    rw [insideT_succ, insideT_succ, nameE_kind]
    by_cases h4 : t.kind = 4
    · have hk : formedT t.kids = true := by
        rcases formE_cases hf with h | ⟨_, h⟩ | h | h
        · exact absurd h h7
        · exact h
        · omega
        · omega
      obtain ⟨k1, k2⟩ := (formedT_iff _).1 hk
      rw [nameE_kids h4, within_alikeL (nameS_pw m fun t ht m => ⟨(nameE_kind m t).symm, fun ht7 a => inside_namedL n t a m (k1 t ht) ht7⟩) k2]
    · have : (t.kind == 4) = false := by simpa using h4
      simp only [this, Bool.false_and]
theorem within_namedL (n : Nat) {f : List Tm} (g : List Tm) (hf : formedT f = true) : withinL (insideT n) (namedT f) g = withinL (insideT n) f g := by
  obtain ⟨k1, k2⟩ := (formedT_iff _).1 hf
  exact within_alikeL (nameS_pw 0 fun t ht m => ⟨(nameE_kind m t).symm, fun ht7 a => inside_namedL n t a m (k1 t ht) ht7⟩) k2

/- values -/
theorem right_kind {t : Tm} (h : rightT t = true) (h4 : t.kind ≤ 4) : t.kind = 4 ∨ t.kind = 1 ∨ t.kind = 2 ∨ t.kind = 3 := by
  unfold rightT at h
  by_cases c4 : t.kind = 4
  · exact .inl c4
  rw [if_neg c4, if_neg (by omega)] at h
  split at h
  · cases h
  · by_cases c1 : t.kind = 1
    · omega
    by_cases c2 : t.kind = 2
    · omega
    by_cases c3 : t.kind = 3
    · omega
    rw [if_neg c1, if_neg c2, if_neg c3, if_neg (by omega)] at h
    cases h
mutual
theorem valE_of : ∀ t : Tm, (preT t).all (fun t => decide (t.kind ≤ 4) && rightT t) = true → valE t = true
  | .mk k s kids, h => by
    simp only [preT, List.all_cons, Bool.and_eq_true, decide_eq_true_eq] at h
    have hk := right_kind h.1.2 h.1.1
    rw [valE]
    by_cases h4 : k = 4
    · rw [if_pos h4]
      refine valL_of kids ?_
      rw [List.all_eq_true] at h ⊢
      intro t ht
      have := h.2 t ht
      simpa using this
    · rw [if_neg h4]
      simp only [Tm.kind] at hk
      simp only [Bool.or_eq_true, beq_iff_eq]
      omega
theorem valL_of : ∀ ts : List Tm, (preS ts).all (fun t => decide (t.kind ≤ 4) && rightT t) = true → valL ts = true
  | [], _ => rfl
  | t :: ts, h => by
    simp only [preS, List.all_append, Bool.and_eq_true] at h
    simp only [valL, valE_of t h.1, valL_of ts h.2, Bool.and_self]
end
theorem value_facts {v : List Tm} (h : checkT 4 v = 0) : valL v = true ∧ checkT 8 v = 0 := by
  unfold checkT at h
  by_cases c1 : 4000 < nTs v
  · rw [if_pos c1] at h; omega
  rw [if_neg c1] at h
  by_cases c2 : 100 < dpS v
  · rw [if_pos c2] at h; omega
  rw [if_neg c2] at h
  cases c3 : (preS v).all (fun t => decide (t.kind ≤ 4) && rightT t) with
  | false => rw [c3] at h; simp at h
  | true =>
    refine ⟨valL_of v c3, ?_⟩
    unfold checkT
    rw [if_neg c1, if_neg c2, if_pos]
    rw [List.all_eq_true] at c3 ⊢
    intro t ht
    have := c3 t ht
    simp only [Bool.and_eq_true, decide_eq_true_eq] at this ⊢
    exact ⟨by omega, this.2⟩

structure ValuesLaw (f g v : List Tm) : Prop where
  val : valL v = true
  res : checkT 8 v = 0
  on : nTs (leastL v) < 100
  ock : checkF (namedT (leastL v)) = 0
  os : Shorts (namedT (leastL v))
  own : withinL (insideT NN) (leastL v) (namedT (leastL v)) = true
  inn : withinL (insideT NN) (namedT (leastL v)) f = withinL (insideT NN) (leastL v) f
  out : withinL (insideT NN) (leastL v) f = true → withinL (insideT NN) f g = true → withinL (insideT NN) (leastL v) g = true
theorem valuesLaw {f g v : List Tm} (nv : nTs v ≤ 60) (cv : checkT 4 v = 0) : ValuesLaw f g v := by
  obtain ⟨h1, h2⟩ := value_facts cv
  have h3 := leastL_nTs v
  have h4 := leastT_formed v
  have ok := named_ok h4 (by omega)
  have hNN : NN = 200 := rfl
  exact {
    val := h1
    res := h2
    on := by omega
    ock := ok.1
    os := ok.2
    own := by rw [within_named NN _ h4]; exact within_self NN h4 (by omega)
    inn := within_namedL NN f h4
    out := withinT_trans NN }
end Ab.R

/- What 'FormatValues' answers. No condition but the table. -/
namespace Ab.R
open Go Ab Go.RowKit
set_option maxRecDepth 10000
set_option linter.unusedSimpArgs false
set_option linter.unusedVariables false
section
variable {E : IEnv} (hE : E.fns = Table.fn table) (hI : PrimI E)
include hE hI
theorem fn_FormatValues {f g v : List Tm} {x y z : AV} (hx : Sl f x) (hy : Sl g y) (hz : Sl v z) : Fn E (.fn n_chiasmuslaw22_FormatValues [] []) [x, y, z] (.bool true) := by
  have hmm : most = 1073741824 := rfl
  obtain ⟨Ka, hKa⟩ := fn_awake hE hI
  obtain ⟨K1, hK1⟩ := fn_Small hE hx 60 (by omega) (by omega)
  obtain ⟨K2, hK2⟩ := fn_Small hE hy 60 (by omega) (by omega)
  obtain ⟨K3, hK3⟩ := fn_Small hE hz 60 (by omega) (by omega)
  by_cases s1 : ¬ (smallT f 60 = true)
  · have s1' : smallT f 60 = false := by simpa using s1
    rw [s1'] at hK1
    exact Fn.byW (h_chiasmuslaw22_FormatValues hE) rfl rfl ⟨Ka + K1, fun k hk bl tk => by simp [F_chiasmuslaw22_FormatValues, b_chiasmuslaw22_FormatValues, hKa k (by omega), hK1 k (by omega)]⟩
  have s1 := Decidable.of_not_not s1
  rw [s1] at hK1
  by_cases s2 : ¬ (smallT g 60 = true)
  · have s2' : smallT g 60 = false := by simpa using s2
    rw [s2'] at hK2
    exact Fn.byW (h_chiasmuslaw22_FormatValues hE) rfl rfl ⟨Ka + K1 + K2, fun k hk bl tk => by simp [F_chiasmuslaw22_FormatValues, b_chiasmuslaw22_FormatValues, hKa k (by omega), hK1 k (by omega), hK2 k (by omega)]⟩
  have s2 := Decidable.of_not_not s2
  rw [s2] at hK2
  by_cases s3 : ¬ (smallT v 60 = true)
  · have s3' : smallT v 60 = false := by simpa using s3
    rw [s3'] at hK3
    exact Fn.byW (h_chiasmuslaw22_FormatValues hE) rfl rfl ⟨Ka + K1 + K2 + K3, fun k hk bl tk => by simp [F_chiasmuslaw22_FormatValues, b_chiasmuslaw22_FormatValues, hKa k (by omega), hK1 k (by omega), hK2 k (by omega), hK3 k (by omega)]⟩
  have s3 := Decidable.of_not_not s3
  rw [s3] at hK3
  have n1 := smallT_nodes s1
  have n2 := smallT_nodes s2
  have n3 := smallT_nodes s3
  have t1 : Shorts f := smallT_short s1
  have t2 : Shorts g := smallT_short s2
  have t3 : Shorts v := smallT_short s3
  obtain ⟨K4, hK4⟩ := fn_Check hE hI hx (by omega) max600 t1
  obtain ⟨K5, hK5⟩ := fn_Check hE hI hy (by omega) max600 t2
  obtain ⟨K6, hK6⟩ := fn_Value hE hz (by omega) max600 t3
  by_cases c1 : ¬ (checkF f = 0)
  · have c1' : (checkF f != 0) = true := by simpa using c1
    exact Fn.byW (h_chiasmuslaw22_FormatValues hE) rfl rfl ⟨Ka + K1 + K2 + K3 + K4, fun k hk bl tk => by simp [F_chiasmuslaw22_FormatValues, b_chiasmuslaw22_FormatValues, hKa k (by omega), hK1 k (by omega), hK2 k (by omega), hK3 k (by omega), hK4 k (by omega), c1, c1']⟩
  have c1 := Decidable.of_not_not c1
  rw [c1] at hK4
  by_cases c2 : ¬ (checkF g = 0)
  · have c2' : (checkF g != 0) = true := by simpa using c2
    exact Fn.byW (h_chiasmuslaw22_FormatValues hE) rfl rfl ⟨Ka + K1 + K2 + K3 + K4 + K5, fun k hk bl tk => by simp [F_chiasmuslaw22_FormatValues, b_chiasmuslaw22_FormatValues, hKa k (by omega), hK1 k (by omega), hK2 k (by omega), hK3 k (by omega), hK4 k (by omega), hK5 k (by omega), c2, c2']⟩
  have c2 := Decidable.of_not_not c2
  rw [c2] at hK5
  by_cases c3 : ¬ (checkT 4 v = 0)
  · have c3' : (checkT 4 v != 0) = true := by simpa using c3
    exact Fn.byW (h_chiasmuslaw22_FormatValues hE) rfl rfl ⟨Ka + K1 + K2 + K3 + K4 + K5 + K6, fun k hk bl tk => by simp [F_chiasmuslaw22_FormatValues, b_chiasmuslaw22_FormatValues, hKa k (by omega), hK1 k (by omega), hK2 k (by omega), hK3 k (by omega), hK4 k (by omega), hK5 k (by omega), hK6 k (by omega), c3, c3']⟩
  have c3 := Decidable.of_not_not c3
  rw [c3] at hK6
  have l := valuesLaw (f := f) (g := g) (v := v) (by omega) c3
  obtain ⟨O, hO⟩ : ∃ O, O = namedT (leastL v) := ⟨_, rfl⟩
  have hon : nTs O < 100 := by rw [hO]; have h1 := nameS_nTs 0 (leastL v); have h2 := l.on; simp only [namedT] at *; omega
  have hos : Shorts O := by rw [hO]; exact l.os
  have hoc : checkF O = 0 := by rw [hO]; exact l.ock
  have vo : Sl O (endV 3 (canoL O)) := endV_Sl (by omega)
  have pp : ∀ {a b : List Tm}, checkF a = 0 → checkF b = 0 → pairF a b = 0 := fun ha hb => by unfold pairF; rw [if_neg (by simpa using ha)]; exact hb
  obtain ⟨K7, hK7⟩ := fn_Of hE hI hz (by omega) t3 l.val l.res
  rw [← hO] at hK7
  obtain ⟨K8, hK8⟩ := fn_Has hE hI NN vo hz hon (by omega) hos t3 l.val c3 hoc (by decide) (by decide)
  rw [show withinL (insideT NN) (leastL v) O = true by rw [hO]; exact l.own] at hK8
  obtain ⟨K9, hK9⟩ := fn_Has hE hI NN hx hz (by omega) (by omega) t1 t3 l.val c3 c1 (by decide) (by decide)
  obtain ⟨K10, hK10⟩ := fn_Has hE hI NN hy hz (by omega) (by omega) t2 t3 l.val c3 c2 (by decide) (by decide)
  obtain ⟨K11, hK11⟩ := fn_law_inside hE hI NN vo hx hon (by omega) hos t1 (by decide) (by decide)
  rw [pp hoc c1, show withinL (insideT NN) O f = withinL (insideT NN) (leastL v) f by rw [hO]; exact l.inn] at hK11
  obtain ⟨K12, hK12⟩ := fn_law_inside hE hI NN hx hy (by omega) (by omega) t1 t2 (by decide) (by decide)
  rw [pp c1 c2] at hK12
  have ltr := l.out
  generalize withinL (insideT NN) (leastL v) f = w1 at *
  generalize withinL (insideT NN) f g = w2 at *
  generalize withinL (insideT NN) (leastL v) g = w3 at *
  refine Fn.byW (h_chiasmuslaw22_FormatValues hE) rfl rfl ⟨Ka + K1 + K2 + K3 + K4 + K5 + K6 + K7 + K8 + K9 + K10 + K11 + K12, fun k hk bl tk => ?_⟩
  have e0 := hKa k (by omega)
  have e1 := hK1 k (by omega)
  have e2 := hK2 k (by omega)
  have e3 := hK3 k (by omega)
  have e4 := hK4 k (by omega)
  have e5 := hK5 k (by omega)
  have e6 := hK6 k (by omega)
  have e7 := hK7 k (by omega)
  have e8 := hK8 k (by omega)
  have e9 := hK9 k (by omega)
  have e10 := hK10 k (by omega)
  have e11 := hK11 k (by omega)
  have e12 := hK12 k (by omega)
  simp only [beq_self_eq_true, Bool.true_and] at e11 e12
  cases w1
  · simp [F_chiasmuslaw22_FormatValues, b_chiasmuslaw22_FormatValues, aeq, e0, e1, e2, e3, e4, e5, e6, e7, e8, e9, e10, e11, e12]
  · cases w2
    · simp [F_chiasmuslaw22_FormatValues, b_chiasmuslaw22_FormatValues, aeq, e0, e1, e2, e3, e4, e5, e6, e7, e8, e9, e10, e11, e12]
    · have w3t : w3 = true := ltr rfl rfl
      subst w3t
      simp [F_chiasmuslaw22_FormatValues, b_chiasmuslaw22_FormatValues, aeq, e0, e1, e2, e3, e4, e5, e6, e7, e8, e9, e10, e11, e12]
end
end Ab.R
