/- What the reference's functions of texts answer. No condition but the table. -/
import Derived.Test.YtooeglbpejfklaaGreatDoorAb08
set_option linter.all false
namespace Ab.B
open Go Ab Go.RowKit
set_option maxRecDepth 10000
set_option linter.all false
def letterN (n : Nat) : Bool := decide (97 ≤ n ∧ n ≤ 122) || decide (65 ≤ n ∧ n ≤ 90)
def digitN (n : Nat) : Bool := decide (48 ≤ n ∧ n ≤ 57)
def innerN (n : Nat) : Bool := letterN n || digitN n || decide (n = 45) || decide (n = 95)
theorem isC1 : ∀ n < 256, isC n 1 = letterN n := by decide +kernel
theorem isC2 : ∀ n < 256, isC n 2 = digitN n := by decide +kernel
theorem isC3 : ∀ n < 256, isC n 3 = (letterN n || digitN n) := by decide +kernel
theorem isC4 : ∀ n < 256, isC n 4 = innerN n := by decide +kernel
theorem all_congr {s : List UInt8} {p : UInt8 → Bool} {c : Int} (h : ∀ n < 256, ∀ b : UInt8, b.toNat = n → p b = isC n c) : s.all p = everyC s c := by
  unfold everyC
  induction s with
  | nil => rfl
  | cons b r ih => rw [List.all_cons, List.all_cons, ih, h b.toNat (UInt8.toNat_lt b) b rfl]
section
variable {E : IEnv} (hE : E.fns = Table.fn table)
include hE
theorem fn_Letter (n : Nat) : FnK 1 E (.fn n_chiasmusref01_Letter [] []) [.int .u8 n] (.bool (letterN n)) :=
  FnK.byW (h_chiasmusref01_Letter hE) rfl rfl (K := 0) fun k hk bl tk => by
    by_cases a1 : (97 : Int) ≤ n <;> by_cases a2 : (n : Int) ≤ 122 <;> by_cases a3 : (65 : Int) ≤ n <;> by_cases a4 : (n : Int) ≤ 90 <;> simp [F_chiasmusref01_Letter, b_chiasmusref01_Letter, a1, a2, a3, a4, letterN] <;> omega
theorem fn_Digit (n : Nat) : FnK 1 E (.fn n_chiasmusref01_Digit [] []) [.int .u8 n] (.bool (digitN n)) :=
  FnK.byW (h_chiasmusref01_Digit hE) rfl rfl (K := 0) fun k hk bl tk => by
    by_cases a1 : (48 : Int) ≤ n <;> by_cases a2 : (n : Int) ≤ 57 <;> simp [F_chiasmusref01_Digit, b_chiasmusref01_Digit, a1, a2, digitN] <;> omega
theorem fn_Inner (n : Nat) : FnK 2 E (.fn n_chiasmusref01_Inner [] []) [.int .u8 n] (.bool (innerN n)) :=
  FnK.byW (h_chiasmusref01_Inner hE) rfl rfl (K := 1) fun k hk bl tk => by
    have h1 := fn_Letter hE n k (by omega)
    have h2 := fn_Digit hE n k (by omega)
    unfold innerN
    have e3 : ((n : Int) == 45) = decide (n = 45) := by rw [Bool.eq_iff_iff]; simp; omega
    have e4 : ((n : Int) == 95) = decide (n = 95) := by rw [Bool.eq_iff_iff]; simp; omega
    cases a1 : letterN n <;> cases a2 : digitN n <;> rw [a1] at h1 <;> rw [a2] at h2 <;> cases a3 : decide (n = 45) <;> cases a4 : decide (n = 95) <;> rw [a3] at e3 <;> rw [a4] at e4 <;> simp [F_chiasmusref01_Inner, b_chiasmusref01_Inner, h1, h2, e3, e4]
/- a loop over the bytes of a text that leaves at the first one that is not of some kind -/
theorem fn_IsName (s : List UInt8) (hs : s.length ≤ maxLen) (m : Int) : FnK (s.length + 5) E (.fn n_chiasmusref01_IsName [] []) [.str s, .int .i64 m] (.bool (identT s m)) :=
  FnK.byW (h_chiasmusref01_IsName hE) rfl rfl (K := s.length + 4) fun k hk bl tk => by
    have hmx : maxLen = 9223372036854775807 := rfl
    unfold identT
    by_cases c0 : s = []
    · subst c0; simp [F_chiasmusref01_IsName, b_chiasmusref01_IsName]
    have c0' : (s == []) = false := by simpa using c0
    have c0n : (s != []) = true := by simpa using c0
    by_cases c1 : (m : Int) < s.length
    · have : ¬ ((s.length : Int) ≤ m) := by omega
      simp [F_chiasmusref01_IsName, b_chiasmusref01_IsName, c0', c1, this]
    have c1' : ((s.length : Int) ≤ m) := by omega
    have hp : 0 < s.length := by cases s with | nil => exact absurd rfl c0 | cons a r => simp
    have e0 : idx (.int .i64 0) s.length = some 0 := idx_nat hp
    have hl : s.getD 0 0 = s[0] := by rw [List.getD_eq_getElem?_getD, List.getElem?_eq_getElem hp]; rfl
    have h1 := fn_Letter hE s[0].toNat k (by omega)
    rw [← isC1 _ (UInt8.toNat_lt _)] at h1
    cases c2 : isC s[0].toNat 1 with
    | false =>
      rw [c2] at h1
      simp [F_chiasmusref01_IsName, b_chiasmusref01_IsName, c0', c1, c1', e0, hp, h1, c2]
    | true =>
      rw [c2] at h1
      simp [F_chiasmusref01_IsName, b_chiasmusref01_IsName, c0', c0n, c1, c1', e0, hp, h1, c2]
      refine wp_loop s.length (fun i e st => everyC s 4 = everyC (s.drop i) 4 ∧ e = [(0, .str s), (5, .int .i64 i)] ∧ st = { bl, tk, ro := bl.length, rt := tk.length }) (by omega) (by simp) ?_ ?_
      · rintro i e st hi ⟨hq, rfl, rfl⟩
        have e1 : idx (.int .i64 i) s.length = some i := idx_nat hi
        have hwr : IntKind.wrap .i64 ((i : Int) + 1) = i + 1 := wrapIn (by omega) (by omega)
        rw [List.drop_eq_getElem_cons hi] at hq
        have h1 := fn_Inner hE s[i].toNat k (by omega)
        rw [← isC4 _ (UInt8.toNat_lt _)] at h1
        unfold everyC at hq ⊢
        rw [List.all_cons] at hq
        cases hp : isC s[i].toNat 4 with
        | true =>
          rw [hp, Bool.true_and] at hq
          rw [hp] at h1
          simp [l0_chiasmusref01_IsName, hi, e1, hwr, h1]
          simpa using hq
        | false =>
          rw [hp, Bool.false_and] at hq
          rw [hp] at h1
          simp [l0_chiasmusref01_IsName, hi, e1, hwr, h1]
          simpa using hq
      · rintro e st ⟨hq, rfl, rfl⟩
        rw [List.drop_length] at hq
        have hq' : everyC s 4 = true := hq
        simp [l0_chiasmusref01_IsName, hq']
theorem fn_IsVar (s : List UInt8) (hs : s.length ≤ maxLen) : FnK (s.length + 5) E (.fn n_chiasmusref01_IsVar [] []) [.str s] (.bool (s != [] && decide (s.length ≤ 40) && everyC s 3)) :=
  FnK.byW (h_chiasmusref01_IsVar hE) rfl rfl (K := s.length + 4) fun k hk bl tk => by
    have hmx : maxLen = 9223372036854775807 := rfl
    simp [F_chiasmusref01_IsVar, b_chiasmusref01_IsVar]
    refine wp_loop s.length (fun i e st => everyC s 3 = everyC (s.drop i) 3 ∧ e = [(0, .str s), (3, .int .i64 i)] ∧ st = { bl, tk, ro := bl.length, rt := tk.length }) (by omega) (by simp) ?_ ?_
    · rintro i e st hi ⟨hq, rfl, rfl⟩
      have e1 : idx (.int .i64 i) s.length = some i := idx_nat hi
      have hwr : IntKind.wrap .i64 ((i : Int) + 1) = i + 1 := wrapIn (by omega) (by omega)
      rw [List.drop_eq_getElem_cons hi] at hq
      have h1 := fn_Letter hE s[i].toNat k (by omega)
      have h2 := fn_Digit hE s[i].toNat k (by omega)
      have h3 := isC3 s[i].toNat (UInt8.toNat_lt _)
      unfold everyC at hq ⊢
      rw [List.all_cons, h3] at hq
      cases hp : letterN s[i].toNat with
      | true =>
        rw [hp, Bool.true_or, Bool.true_and] at hq
        rw [hp] at h1
        simp [l0_chiasmusref01_IsVar, hi, e1, hwr, h1]
        simpa using hq
      | false =>
        rw [hp] at h1 hq
        cases hp2 : digitN s[i].toNat with
        | true =>
          rw [hp2, Bool.or_true, Bool.true_and] at hq
          rw [hp2] at h2
          simp [l0_chiasmusref01_IsVar, hi, e1, hwr, h1, h2]
          simpa using hq
        | false =>
          rw [hp2, Bool.or_false, Bool.false_and] at hq
          rw [hp2] at h2
          simp [l0_chiasmusref01_IsVar, hi, e1, hwr, h1, h2]
          intro _ _
          simpa using hq
    · rintro e st ⟨hq, rfl, rfl⟩
      rw [List.drop_length] at hq
      have hq' : everyC s 3 = true := hq
      by_cases c0 : s = []
      · subst c0; simp [l0_chiasmusref01_IsVar]
      · have c0' : (s == []) = false := by simpa using c0
        have c0n : (s != []) = true := by simpa using c0
        have : (decide ((s.length : Int) ≤ 40)) = decide (s.length ≤ 40) := by congr 1; apply propext; omega
        simp [l0_chiasmusref01_IsVar, c0', c0n, hq', this]
end
end Ab.B

/- How many terms: sizes of terms. No condition. -/
namespace Ab
mutual
def nT : Tm → Nat
  | .mk _ _ kids => 1 + nTs kids
def nTs : List Tm → Nat
  | [] => 0
  | t :: ts => nT t + nTs ts
end
theorem nT_eq (t : Tm) : nT t = 1 + nTs t.kids := by cases t; simp only [nT, Tm.kids]
theorem nT_pos (t : Tm) : 0 < nT t := by rw [nT_eq]; omega
theorem nT_mem : ∀ {ts : List Tm} {t : Tm}, t ∈ ts → nT t ≤ nTs ts
  | _ :: ts, t, h => by
    rcases List.mem_cons.1 h with rfl | h
    · simp only [nTs]; omega
    · have := nT_mem h; simp only [nTs]; omega
theorem nTs_append : ∀ a b : List Tm, nTs (a ++ b) = nTs a + nTs b
  | [], b => by simp [nTs]
  | t :: a, b => by simp only [List.cons_append, nTs, nTs_append a b]; omega
theorem length_le_nTs : ∀ ts : List Tm, ts.length ≤ nTs ts
  | [] => by simp
  | t :: ts => by have := length_le_nTs ts; have := nT_pos t; simp only [nTs, List.length_cons]; omega
theorem Sl.len {ts : List Tm} {v : AV} (h : Sl ts v) : ∃ o xs, v = .sl o 3 xs ∧ xs.length = ts.length := by
  obtain ⟨o, xs, rfl, _, h3⟩ := h
  exact ⟨o, xs, rfl, h3.length⟩

end Ab

/- The reference's IsWord, IsNumber, right. No condition but the table. -/
namespace Ab.B
open Go Ab Go.RowKit
set_option maxRecDepth 10000
set_option linter.all false
def oddB (b : UInt8) : Bool := decide (b.toNat < 32) || decide (126 < b.toNat)
theorem decode_at (s : List UInt8) (i : Nat) (hi : i < s.length) : (s[i].toNat < 128 ∧ Go.Utf8.decode ⟨s.toArray⟩ i = (s[i].toNat, 1)) ∨ (128 ≤ s[i].toNat ∧ 128 ≤ (Go.Utf8.decode ⟨s.toArray⟩ i).1) := by
  have h0 : (ByteArray.get! ⟨s.toArray⟩ (i + 0)) = s[i] := by
    simp [ByteArray.get!, hi]
  by_cases h : s[i].toNat < 128
  · left
    refine ⟨h, ?_⟩
    unfold Go.Utf8.decode
    simp only [h0, h, if_true]
  · right
    refine ⟨by omega, ?_⟩
    unfold Go.Utf8.decode
    simp only [h0, if_neg h]
    have hr : Go.Utf8.runeError = 65533 := rfl
    split
    · split <;> simp [hr] <;> omega
    · split
      · split
        · rename_i h2; simp at h2 ⊢; omega
        · simp [hr]
      · split
        · split
          · rename_i h2; simp at h2 ⊢; omega
          · simp [hr]
        · simp [hr]
theorem runeIx_nonneg (s : List UInt8) (p : Int → Bool) (w : Bool) : ∀ n pos, -1 ≤ runeIx s p w n pos
  | 0, _ => by simp [runeIx]
  | n + 1, pos => by
    unfold runeIx
    split
    · split
      · omega
      · exact runeIx_nonneg s p w n _
    · omega
theorem runeIx_odd (s : List UInt8) : ∀ n pos, s.length < n + pos → decide (0 ≤ runeIx s oddRune true n pos) = (s.drop pos).any oddB
  | 0, pos, h => by rw [List.drop_of_length_le (by omega)]; simp [runeIx]
  | n + 1, pos, h => by
    unfold runeIx
    by_cases hp : pos < s.length
    · rw [if_pos hp, List.drop_eq_getElem_cons hp, List.any_cons]
      rcases decode_at s pos hp with ⟨h1, h2⟩ | ⟨h1, h2⟩
      · rw [h2]
        have e : oddRune (s[pos].toNat : Int) = oddB s[pos] := by
          unfold oddRune oddB
          congr 1 <;> (congr 1; apply propext; omega)
        cases hb : oddB s[pos] with
        | true => simp [e, hb]
        | false => simp only [e, hb, Bool.false_or]; simpa using runeIx_odd s n (pos + 1) (by omega)
      · have e : oddRune (((Go.Utf8.decode ⟨s.toArray⟩ pos).1 : Nat) : Int) = true := by
          unfold oddRune
          simp only [Bool.or_eq_true, decide_eq_true_eq]; right; omega
        have e2 : oddB s[pos] = true := by
          unfold oddB
          simp only [Bool.or_eq_true, decide_eq_true_eq]; right; omega
        simp [e, e2]
    · rw [if_neg hp, List.drop_of_length_le (by omega)]; simp
theorem wordT_eq (s : List UInt8) : wordT s = (s != [] && decide (s.length ≤ 60) && !s.any oddB) := by
  unfold wordT
  rw [runeIx_odd s _ 0 (by omega), List.drop_zero]
section
variable {E : IEnv} (hE : E.fns = Table.fn table)
include hE
theorem fn_IsWord (s : List UInt8) (hs : s.length ≤ maxLen) : FnK (s.length + 5) E (.fn n_chiasmusref01_IsWord [] []) [.str s] (.bool (wordT s)) :=
  FnK.byW (h_chiasmusref01_IsWord hE) rfl rfl (K := s.length + 4) fun k hk bl tk => by
    have hmx : maxLen = 9223372036854775807 := rfl
    rw [wordT_eq]
    simp [F_chiasmusref01_IsWord, b_chiasmusref01_IsWord]
    refine wp_loop s.length (fun i e st => s.any oddB = (s.drop i).any oddB ∧ e = [(0, .str s), (3, .int .i64 i)] ∧ st = { bl, tk, ro := bl.length, rt := tk.length }) (by omega) (by simp) ?_ ?_
    · rintro i e st hi ⟨hq, rfl, rfl⟩
      have e1 : idx (.int .i64 i) s.length = some i := idx_nat hi
      have hwr : IntKind.wrap .i64 ((i : Int) + 1) = i + 1 := wrapIn (by omega) (by omega)
      rw [List.drop_eq_getElem_cons hi] at hq
      rw [List.any_cons] at hq
      by_cases c1 : s[i].toNat < 32
      · have c1' : (s[i].toNat : Int) < 32 := by omega
        have : oddB s[i] = true := by simp [oddB, c1]
        rw [this, Bool.true_or] at hq
        simp [l0_chiasmusref01_IsWord, hi, e1, hwr, c1']
        intro _ _; simpa using hq
      · by_cases c2 : 126 < s[i].toNat
        · have c1' : ¬ (s[i].toNat : Int) < 32 := by omega
          have c2' : (126 : Int) < s[i].toNat := by omega
          have : oddB s[i] = true := by simp [oddB, c2]
          rw [this, Bool.true_or] at hq
          simp [l0_chiasmusref01_IsWord, hi, e1, hwr, c1', c2']
          intro _ _; simpa using hq
        · have c1' : ¬ (s[i].toNat : Int) < 32 := by omega
          have c2' : ¬ (126 : Int) < s[i].toNat := by omega
          have : oddB s[i] = false := by simp [oddB, c1, c2]
          rw [this, Bool.false_or] at hq
          simp [l0_chiasmusref01_IsWord, hi, e1, hwr, c1', c2']
          simpa using hq
    · rintro e st ⟨hq, rfl, rfl⟩
      rw [List.drop_length] at hq
      have hq' : s.any oddB = false := hq
      by_cases c0 : s = []
      · subst c0; simp [l0_chiasmusref01_IsWord]
      · have c0' : (s == []) = false := by simpa using c0
        have c0n : (s != []) = true := by simpa using c0
        have : (decide ((s.length : Int) ≤ 60)) = decide (s.length ≤ 60) := by congr 1; apply propext; omega
        simp [l0_chiasmusref01_IsWord, c0', c0n, hq', this]
def minusCut (s : List UInt8) : List UInt8 := (cutMinus s).1
def numR (s : List UInt8) : Bool := s == [48] || (minusCut s != [] && decide ((minusCut s).length ≤ 500) && everyC (minusCut s) 2 && ((minusCut s).getD 0 0).toNat != 48)
omit hE in
theorem dec500 (n : Nat) : decide (n ≤ 500) = !decide (500 < n) := by
  by_cases h : 500 < n <;> simp [h] <;> omega
omit hE in
theorem numR_eq (s : List UInt8) : numR s = numT s := by
  unfold numR numT minusCut
  by_cases h : s = [48]
  · subst h; decide +kernel
  · have h' : (s == [48]) = false := by simpa using h
    rw [h', Bool.false_or]
    cases s with
    | nil => rfl
    | cons b r =>
      by_cases hb : b = 45
      · subst hb
        have e : cutMinus (45 :: r) = (r, true) := rfl
        rw [e]
        cases r with
        | nil => rfl
        | cons c q =>
          simp only [Bool.not_true, Bool.and_false, Bool.or_false]
          rw [dec500]
          cases everyC (c :: q) 2 <;> cases decide (500 < (c :: q).length) <;> rfl
      · have e : cutMinus (b :: r) = (b :: r, false) := by unfold cutMinus; split; rename_i h; cases h; exact absurd rfl hb; rfl
        rw [e]
        simp only [Bool.not_false, Bool.and_true]
        cases r with
        | nil =>
          have : b.toNat ≠ 48 := by intro hx; apply h; congr 1; exact UInt8.toNat_inj.1 hx
          cases he : everyC [b] 2 <;> simp [he, this]
        | cons c q =>
          have hf : (b :: c :: q == [48]) = false := by simp
          rw [dec500]
          cases everyC (b :: c :: q) 2 <;> cases decide (500 < (b :: c :: q).length) <;> simp
theorem fn_refIsNumber (s : List UInt8) (hs : s.length ≤ maxLen) : FnK (s.length + 5) E (.fn n_chiasmusref01_IsNumber [] []) [.str s] (.bool (numT s)) :=
  FnK.byW (h_chiasmusref01_IsNumber hE) rfl rfl (K := s.length + 4) fun k hk bl tk => by
    have hmx : maxLen = 9223372036854775807 := rfl
    rw [← numR_eq]
    unfold numR
    by_cases c0 : s = [48]
    · subst c0; simp [F_chiasmusref01_IsNumber, b_chiasmusref01_IsNumber]
    have c0' : (s == [48]) = false := by simpa using c0
    rw [c0', Bool.false_or]
    obtain ⟨d, hd⟩ : ∃ d, d = minusCut s := ⟨_, rfl⟩
    rw [← hd]
    have hdl : d.length ≤ s.length := by rw [hd]; unfold minusCut cutMinus; split <;> simp
    have loop : ∀ e5 e12 : AV, wp E (callA E k) k false (.seq
 (.seq
 (.region [
   ⟨(some 3), .mov (.c (.int .i64 0)), none, [], false⟩] [3] false)
 (.block 0
  (.loop [2, 5, 12, 18, 25] l0_chiasmusref01_IsNumber)))
 (.seq
 (.region [
   ⟨(some 26), .mov (.t 0), none, [], false⟩,
   ⟨(some 27), .bin .neq .val (.t 26) (.c (.str [])), none, [], false⟩,
   ⟨(some 28), .mov (.t 27), none, [], false⟩,
   ⟨(some 29), .mov (.t 0), (some (28, true)), [], false⟩,
   ⟨(some 30), .len .str (.t 29), (some (28, true)), [], false⟩,
   ⟨(some 31), .bin .leq .val (.t 30) (.c (.int .i64 500)), (some (28, true)), [], false⟩,
   ⟨(some 32), .pick (.t 28) (.t 31) (.c (.bool false)), none, [], false⟩,
   ⟨(some 33), .mov (.t 32), none, [], false⟩,
   ⟨(some 34), .mov (.t 0), (some (33, true)), [], false⟩,
   ⟨(some 35), .index (.t 34) (.c (.int .i64 0)), (some (33, true)), [], false⟩,
   ⟨(some 36), .bin .neq .val (.t 35) (.c (.int .u8 48)), (some (33, true)), [], false⟩,
   ⟨(some 37), .pick (.t 33) (.t 36) (.c (.bool false)), none, [], false⟩,
   ⟨(some 2), .mov (.t 37), none, [], false⟩] [2] false)
 .ret)) (finW [.t 2] (.bool (d != [] && decide (d.length ≤ 500) && everyC d 2 && (d.getD 0 0).toNat != 48))) [(0, .str d), (2, .bool false), (5, e5), (12, e12)] { bl, tk, ro := bl.length, rt := tk.length } := by
      intro e5 e12
      simp
      refine wp_loop d.length (fun i e st => everyC d 2 = everyC (d.drop i) 2 ∧ e = [(0, .str d), (3, .int .i64 i)] ∧ st = { bl, tk, ro := bl.length, rt := tk.length }) (by omega) (by simp) ?_ ?_
      · rintro i e st hi ⟨hq, rfl, rfl⟩
        have e1 : idx (.int .i64 i) d.length = some i := idx_nat hi
        have hwr : IntKind.wrap .i64 ((i : Int) + 1) = i + 1 := wrapIn (by omega) (by omega)
        rw [List.drop_eq_getElem_cons hi] at hq
        have h1 := fn_Digit hE d[i].toNat k (by omega)
        rw [← isC2 _ (UInt8.toNat_lt _)] at h1
        unfold everyC at hq ⊢
        rw [List.all_cons] at hq
        cases hp : isC d[i].toNat 2 with
        | true =>
          rw [hp, Bool.true_and] at hq
          rw [hp] at h1
          simp [l0_chiasmusref01_IsNumber, hi, e1, hwr, h1]
          simpa using hq
        | false =>
          rw [hp, Bool.false_and] at hq
          rw [hp] at h1
          simp [l0_chiasmusref01_IsNumber, hi, e1, hwr, h1]
          intro _ _ hall
          exfalso
          rw [List.all_eq_false] at hq
          obtain ⟨x, hx, hf⟩ := hq
          exact hf (hall x hx)
      · rintro e st ⟨hq, rfl, rfl⟩
        rw [List.drop_length] at hq
        have hq' : everyC d 2 = true := hq
        cases d with
        | nil => simp [l0_chiasmusref01_IsNumber]
        | cons b r =>
          have : (decide ((((b :: r).length : Nat) : Int) ≤ 500)) = decide ((b :: r).length ≤ 500) := by congr 1; apply propext; omega
          have h48 : ((b.toNat : Int) != 48) = (b.toNat != 48) := by rw [Bool.eq_iff_iff]; simp; omega
          simp only [List.length_cons] at this
          by_cases hl : (r.length + 1) ≤ 500
          · have hl' : (r.length : Int) + 1 ≤ 500 := by omega
            simp [l0_chiasmusref01_IsNumber, hq', hl, hl', h48, idx]
          · have hl' : ¬ (r.length : Int) + 1 ≤ 500 := by omega
            simp [l0_chiasmusref01_IsNumber, hq', hl, hl']
    cases s with
    | nil =>
      have e : d = [] := by rw [hd]; rfl
      subst e
      have := loop (.bool false) (.bool false)
      simp [F_chiasmusref01_IsNumber, b_chiasmusref01_IsNumber] at this ⊢
      exact this
    | cons b r =>
      by_cases hb : b = 45
      · subst hb
        have e : d = r := by rw [hd]; rfl
        subst e
        have := loop (.bool false) (.bool true)
        have c1 : (1 : Int) ≤ (d.length : Int) + 1 := by omega
        simp [F_chiasmusref01_IsNumber, b_chiasmusref01_IsNumber, idx, sliceA, bound, c1] at this ⊢
        exact this
      · have e : d = b :: r := by rw [hd]; unfold minusCut cutMinus; split; rename_i h; cases h; exact absurd rfl hb; rfl
        subst e
        have := loop (.bool false) (.bool false)
        have h45 : ((b.toNat : Int) == 45) = false := by
          rw [Bool.eq_false_iff]; intro h; apply hb; have h := eq_of_beq h; exact UInt8.toNat_inj.1 (by show b.toNat = 45; omega)
        simp [F_chiasmusref01_IsNumber, b_chiasmusref01_IsNumber, idx, c0', h45] at this ⊢
        exact this
end
end Ab.B

/- What 'strings.ContainsFunc', 'term.right' and 'term.depth' answer. No condition but the table. -/
namespace Ab.B
open Go Ab Go.RowKit
set_option maxRecDepth 10000
set_option linter.unusedSimpArgs false
set_option linter.unusedVariables false
section
variable {E : IEnv} (hE : E.fns = Table.fn table)
include hE
theorem fn_right_1 (c : Int) : FnK 1 E (.fn n_term_right_1 [] []) [.int .i32 c] (.bool (oddRune c)) :=
  FnK.byW (h_term_right_1 hE) rfl rfl (K := 0) fun k hk bl tk => by
    unfold oddRune
    by_cases c1 : c < 32
    · simp [F_term_right_1, b_term_right_1, c1]
    · simp [F_term_right_1, b_term_right_1, c1]

theorem fn_indexFunc (s : List UInt8) (f : AV) (p : Int → Bool) (want : Bool) {Kf : Nat} (hf : ∀ c, FnK Kf E f [.int .i32 c] (.bool (p c))) :
    FnK (Kf + s.length + 3) E (.fn n_strings_indexFunc [] []) [.str s, f, .bool want] (.int .i64 (runeIx s p want (s.length + 1) 0)) :=
  FnK.byW (h_strings_indexFunc hE) rfl rfl (K := Kf + s.length + 2) fun k hk bl tk => by
    obtain ⟨Q, hQ⟩ : ∃ Q, Q = runeIx s p want (s.length + 1) 0 := ⟨_, rfl⟩
    rw [← hQ]
    simp [F_strings_indexFunc, b_strings_indexFunc]
    refine wp_loop s.length (fun i e st => ∃ pos, i ≤ pos ∧ Q = runeIx s p want (s.length + 1 - i) pos ∧ e = [(1, f), (2, .bool want), (10, .ptr bl.length 0)] ∧ st = { bl := bl ++ [.siter s pos], tk, ro := bl.length, rt := tk.length }) (by omega) ⟨0, by simp [hQ]⟩ ?_ ?_
    · rintro i e st hi ⟨pos, hp, hq, rfl, rfl⟩
      rw [show s.length + 1 - i = s.length - i + 1 by omega] at hq
      unfold runeIx at hq
      by_cases c1 : pos < s.length
      · rw [if_pos c1] at hq
        have h1 := hf ((Go.Utf8.decode ⟨s.toArray⟩ pos).1 : Nat) k (by omega)
        have hw := decode_pos ⟨s.toArray⟩ pos
        cases c2 : p ((Go.Utf8.decode ⟨s.toArray⟩ pos).1 : Nat) == want with
        | true =>
          rw [c2] at hq
          simp only [if_true] at hq
          simp [l0_strings_indexFunc, aeq, c1, h1, c2, hq]
        | false =>
          rw [c2] at hq
          simp only [Bool.false_eq_true, if_false] at hq
          simp [l0_strings_indexFunc, aeq, c1, h1, c2]
          exact ⟨by omega, hq⟩
      · rw [if_neg c1] at hq
        simp [l0_strings_indexFunc, aeq, c1, hq]
    · rintro e st ⟨pos, hp, hq, rfl, rfl⟩
      rw [show s.length + 1 - s.length = 0 + 1 by omega] at hq
      unfold runeIx at hq
      have c1 : ¬ pos < s.length := by omega
      rw [if_neg c1] at hq
      simp [l0_strings_indexFunc, aeq, c1, hq]

theorem fn_ContainsOdd (s : List UInt8) : FnK (s.length + 6) E (.fn n_strings_ContainsFunc [] []) [.str s, .fn n_term_right_1 [] []] (.bool (decide (0 ≤ runeIx s oddRune true (s.length + 1) 0))) := by
  have h1 := fn_indexFunc hE s (.fn n_term_right_1 [] []) oddRune true (fn_right_1 hE)
  have h2 : FnK (s.length + 5) E (.fn n_strings_IndexFunc [] []) [.str s, .fn n_term_right_1 [] []] (.int .i64 (runeIx s oddRune true (s.length + 1) 0)) :=
    FnK.byW (h_strings_IndexFunc hE) rfl rfl (K := s.length + 4) fun k hk bl tk => by simp [F_strings_IndexFunc, b_strings_IndexFunc, h1 k (by omega)]
  exact FnK.byW (h_strings_ContainsFunc hE) rfl rfl (K := s.length + 5) fun k hk bl tk => by simp [F_strings_ContainsFunc, b_strings_ContainsFunc, h2 k (by omega)]

set_option maxHeartbeats 1600000 in
theorem fn_right {t : Tm} {x : AV} (h : Rt t x) (hs : t.text.length ≤ maxLen) : FnK (t.text.length + 9) E (.fn n_term_right [] []) [x] (.bool (rightT t)) := by
  obtain ⟨v, rfl, hv⟩ := h.open
  obtain ⟨o, ks, rfl, hlk⟩ := hv.len
  refine FnK.byW (h_term_right hE) rfl rfl (K := t.text.length + 8) fun k hk bl tk => ?_
  unfold rightT
  by_cases c4 : t.kind = 4
  · simp [F_term_right, b_term_right, c4]
  have b4 : (t.kind == 4) = false := by simpa using c4
  by_cases c8 : t.kind = 8
  · have h1 := fn_identifier hE t.text hs 40 k (by omega)
    simp [F_term_right, b_term_right, c8, h1]
  have b8 : (t.kind == 8) = false := by simpa using c8
  by_cases ck : 0 < t.kids.length
  · have ck' : ¬ ks = [] := by rintro rfl; simp at hlk; omega
    have ck2 : (0 : Int) < (ks.length : Int) := by omega
    simp [F_term_right, b_term_right, c4, c8, b4, b8, ck, ck', ck2, hlk]
  have ck' : ks = [] := by cases ks with | nil => rfl | cons a l => simp at hlk; omega
  subst ck'
  rw [if_neg c4, if_neg c8, if_neg ck]
  by_cases c1 : t.kind = 1
  · have : (((t.text.length : Nat) : Int) == 1) = (t.text.length == 1) := by rw [Bool.eq_iff_iff]; simp; omega
    simp [F_term_right, b_term_right, c1, this]
  have b1 : (t.kind == 1) = false := by simpa using c1
  by_cases c2 : t.kind = 2
  · have h1 := fn_ContainsOdd hE t.text k (by omega)
    unfold wordT
    by_cases e1 : t.text = []
    · simp [F_term_right, b_term_right, c2, e1]
    · have e1' : t.text.isEmpty = false := by simpa using e1
      by_cases e2 : t.text.length ≤ 60
      · have e2' : (t.text.length : Int) ≤ 60 := by omega
        simp [F_term_right, b_term_right, c2, e1, e1', e2, e2', h1]
      · have e2' : ¬ (t.text.length : Int) ≤ 60 := by omega
        simp [F_term_right, b_term_right, c2, e1, e1', e2, e2']
  have b2 : (t.kind == 2) = false := by simpa using c2
  by_cases c3 : t.kind = 3
  · have h1 := fn_isNumber hE t.text hs k (by omega)
    simp [F_term_right, b_term_right, c3, h1]
  have b3 : (t.kind == 3) = false := by simpa using c3
  rw [if_neg c1, if_neg c2, if_neg c3]
  have h1 := fn_every hE t.text hs 3 k (by omega)
  by_cases e1 : t.text = []
  · rcases Decidable.em (t.kind = 5 ∨ t.kind = 6 ∨ t.kind = 7) with hk5 | hk5
    · rcases hk5 with c5 | c5 | c5 <;> simp [F_term_right, b_term_right, c5, e1]
    · have b5 : (t.kind == 5) = false := by simp; omega
      have b6 : (t.kind == 6) = false := by simp; omega
      have b7 : (t.kind == 7) = false := by simp; omega
      simp [F_term_right, b_term_right, b4, b8, b1, b2, b3, b5, b6, b7, hk5]
  · have e1' : t.text.isEmpty = false := by simpa using e1
    rcases Decidable.em (t.kind = 5 ∨ t.kind = 6 ∨ t.kind = 7) with hk5 | hk5
    · by_cases e2 : t.text.length ≤ 40
      · have e2' : (t.text.length : Int) ≤ 40 := by omega
        rcases hk5 with c5 | c5 | c5 <;> simp [F_term_right, b_term_right, c5, e1, e1', e2, e2', h1]
      · have e2' : ¬ (t.text.length : Int) ≤ 40 := by omega
        rcases hk5 with c5 | c5 | c5 <;> simp [F_term_right, b_term_right, c5, e1, e1', e2, e2']
    · have b5 : (t.kind == 5) = false := by simp; omega
      have b6 : (t.kind == 6) = false := by simp; omega
      have b7 : (t.kind == 7) = false := by simp; omega
      simp [F_term_right, b_term_right, b4, b8, b1, b2, b3, b5, b6, b7, hk5]
end
end Ab.B

/- Depths of terms; a function of the Kids of all terms of a list. No condition. -/
namespace Ab
open Go Go.RowKit
mutual
def dpE : Tm → Nat
  | .mk k _ kids => if k = 4 ∨ k = 8 ∨ 0 < kids.length then 1 + dpS kids else 0
def dpS : List Tm → Nat
  | [] => 0
  | t :: ts => max (dpE t) (dpS ts)
end
theorem dpE_eq (t : Tm) : dpE t = if t.kind = 4 ∨ t.kind = 8 ∨ 0 < t.kids.length then 1 + dpS t.kids else 0 := by cases t; simp only [dpE, Tm.kind, Tm.kids]; congr
theorem dpS_append : ∀ a b : List Tm, dpS (a ++ b) = max (dpS a) (dpS b)
  | [], b => by simp [dpS]
  | t :: a, b => by simp only [List.cons_append, dpS, dpS_append a b]; omega
mutual
theorem dpE_le : ∀ t : Tm, dpE t ≤ nT t
  | .mk k s kids => by have := dpS_le kids; simp only [dpE, nT]; split <;> omega
theorem dpS_le : ∀ ts : List Tm, dpS ts ≤ nTs ts
  | [] => by simp [dpS]
  | t :: ts => by have := dpE_le t; have := dpS_le ts; simp only [dpS, nTs]; omega
end

/- a function of one slice, at the Kids of all terms of a list -/
theorem kid_all {E : IEnv} {f : AV} {more : List AV} {c : Tm → AV} {ts : List Tm} {xs : List AV} (h1 : Rts ts xs)
    (hf : ∀ t v, t ∈ ts → Sl t.kids v → Fn E f (v :: more) (c t)) :
    ∃ K, ∀ k, K ≤ k → ∀ (i : Nat) t, ts[i]? = some t → ∃ v, xs[i]? = some (.agg [.int .i64 t.kind, .str t.text, v]) ∧ Sl t.kids v ∧ ∀ s, callA E k none f (v :: more) s = some (.ret (c t), false, s) := by
  let kid : AV → AV := fun x => match x with | .agg [_, _, v] => v | _ => .junk
  obtain ⟨K, hK⟩ := Fn.all (E := E) (tgt := f) (α := Tm × AV) (args := fun q => kid q.2 :: more) (v := fun q => c q.1) (xs := ts.zip xs) (by
    intro q hq
    obtain ⟨i, hi⟩ := List.mem_iff_getElem?.1 hq
    obtain ⟨a1, a2⟩ := List.getElem?_zip_eq_some.1 hi
    obtain ⟨x, a3, a4⟩ := h1.get a1
    rw [a3] at a2; cases a2
    obtain ⟨v, e1, hv⟩ := a4.open
    have k1 : kid q.2 = v := by rw [e1]
    rw [k1]
    exact hf _ _ (List.mem_of_getElem? a1) hv)
  refine ⟨K, fun k hk i t ht => ?_⟩
  obtain ⟨x, a3, a4⟩ := h1.get ht
  obtain ⟨v, e1, hv⟩ := a4.open
  subst e1
  exact ⟨v, a3, hv, hK k hk (t, _) (List.mem_iff_getElem?.2 ⟨i, List.getElem?_zip_eq_some.2 ⟨ht, a3⟩⟩)⟩
end Ab

/- What 'term.depth' answers. No condition but the table. -/
namespace Ab.B
open Go Ab Go.RowKit
set_option maxRecDepth 10000
set_option linter.unusedSimpArgs false
set_option linter.unusedVariables false
theorem max_nat (a b : Nat) : (if a < b then (b : Int) else (a : Int)) = ((max a b : Nat) : Int) := by split <;> omega
section
variable {E : IEnv} (hE : E.fns = Table.fn table)
include hE
theorem fn_depth : ∀ (n : Nat) {ts : List Tm} {v : AV}, nTs ts < n → nTs ts ≤ most → Sl ts v → Fn E (.fn n_term_depth [] []) [v] (.int .i64 (dpS ts))
  | 0, _, _, h, _, _ => by omega
  | n + 1, ts, v, hn, hm, hv => by
    obtain ⟨o1, xs, rfl, ⟨hm1, _⟩, h1⟩ := hv
    have hl1 := h1.length
    have hmx : maxLen = 9223372036854775807 := rfl
    have hmm : most = 1073741824 := rfl
    obtain ⟨K, hK⟩ := kid_all (E := E) (f := .fn n_term_depth [] []) (more := []) (c := fun t => .int .i64 (dpS t.kids)) h1 fun t v ht hv => fn_depth n (by have := nT_mem ht; rw [nT_eq] at this; omega) (by have := nT_mem ht; rw [nT_eq] at this; omega) hv
    refine Fn.byW (h_term_depth hE) rfl rfl ⟨K + ts.length + 10, fun k hk bl tk => ?_⟩
    simp [F_term_depth, b_term_depth]
    refine wp_loop xs.length (fun i e s => ∃ b, bl.length ≤ b.length ∧ e = [(3, .int .i64 (dpS (ts.take i))), (6, .sl o1 3 xs), (7, .int .i64 xs.length), (8, .int .i64 i)] ∧ s = { bl := b, tk, ro := bl.length, rt := tk.length }) (by omega) (by simp [dpS]) ?_ ?_
    · rintro i e s hi ⟨b, hb, rfl, rfl⟩
      obtain ⟨t, ht⟩ : ∃ t, ts[i]? = some t := ⟨_, List.getElem?_eq_getElem (by omega)⟩
      obtain ⟨vx, hx, hvx, hc⟩ := hK k (by omega) i t ht
      obtain ⟨o2, ks, rfl, hlk⟩ := hvx.len
      obtain ⟨hi1, hx1⟩ := List.getElem?_eq_some_iff.1 hx
      have e1 : idx (.int .i64 i) xs.length = some i := idx_nat hi1
      have hwr : IntKind.wrap .i64 ((i : Int) + 1) = i + 1 := wrapIn (by omega) (by omega)
      have htk : dpS (ts.take (i + 1)) = max (dpS (ts.take i)) (dpE t) := by rw [List.take_add_one, ht, dpS_append]; simp [dpS]
      have hle := nT_mem (List.mem_of_getElem? ht)
      have hle2 := dpS_le t.kids
      rw [nT_eq] at hle
      have hw2 : IntKind.wrap .i64 (1 + (dpS t.kids : Int)) = 1 + dpS t.kids := wrapIn (by omega) (by omega)
      have hmaxn : (if (dpS (ts.take i) : Int) < 1 + (dpS t.kids : Int) then (1 + (dpS t.kids : Int)) else (dpS (ts.take i) : Int)) = ((max (dpS (ts.take i)) (1 + dpS t.kids) : Nat) : Int) := by split <;> omega
      have hb1 : bl.length ≤ b.length + 1 := by omega
      rw [htk, dpE_eq]
      by_cases c4 : t.kind = 4
      · rw [if_pos (.inl c4)]
        simp [l0_term_depth, hi, e1, hx1, hwr, hb, hb1, c4, hc, hw2, mmAll, mmA, hmaxn]
      have b4 : (t.kind == 4) = false := by simpa using c4
      by_cases c8 : t.kind = 8
      · rw [if_pos (.inr (.inl c8))]
        simp [l0_term_depth, hi, e1, hx1, hwr, hb, hb1, c8, hc, hw2, mmAll, mmA, hmaxn]
      have b8 : (t.kind == 8) = false := by simpa using c8
      by_cases ck : 0 < t.kids.length
      · rw [if_pos (.inr (.inr ck))]
        have ck' : ¬ ks = [] := by rintro rfl; simp at hlk; omega
        simp [l0_term_depth, hi, e1, hx1, hwr, hb, hb1, b4, b8, ck', hc, hw2, mmAll, mmA, hmaxn]
      · rw [if_neg (by rintro (h | h | h) <;> omega)]
        have ck' : ks = [] := by cases ks with | nil => rfl | cons a l => simp at hlk; omega
        simp [l0_term_depth, hi, e1, hx1, hwr, hb, hb1, b4, b8, ck', hc]
    · rintro e s ⟨b, hb, rfl, rfl⟩
      rw [List.take_of_length_le (by omega)]
      simp [l0_term_depth]
end
end Ab.B

/- Loops over functions: rounds of a body, goal by goal. No condition. -/
namespace Ab
open Go

/- at the end of a round: what becomes of the loop -/
def roundW (i : Nat) (L : ALoop) (Post : Bool → St → Prop) : Pst := fun o _ s => s.bl[i]? = some (.loop { L with st := .busy }) ∧ (match o with
  | .normal => Post true (s.setb i (.loop { L with st := .ready, pend := none }))
  | .exit id => Post false (s.setb i (.loop { L with st := .done, pend := some (.exit id) }))
  | .ret => Post false (s.setb i (.loop { L with st := .done, pend := some .ret }))
  | .pan _ => False)
section
variable {i : Nat} {L : ALoop} {Post : Bool → St → Prop} {e : Env} {s : St}
@[simp] theorem roundW_normal : roundW i L Post .normal e s = (s.bl[i]? = some (.loop { L with st := .busy }) ∧ Post true (s.setb i (.loop { L with st := .ready, pend := none }))) := rfl
@[simp] theorem roundW_exit (id : Nat) : roundW i L Post (.exit id) e s = (s.bl[i]? = some (.loop { L with st := .busy }) ∧ Post false (s.setb i (.loop { L with st := .done, pend := some (.exit id) }))) := rfl
@[simp] theorem roundW_ret : roundW i L Post .ret e s = (s.bl[i]? = some (.loop { L with st := .busy }) ∧ Post false (s.setb i (.loop { L with st := .done, pend := some .ret }))) := rfl
end
/- ahead of a round: what the variables of the loop get -/
def startW (E : IEnv) (call : Caller) (n : Nat) (i : Nat) (L : ALoop) (Post : Bool → St → Prop) : Pst := fun o e s => o = .normal ∧ s.bl[i]? = some (.loop L) ∧ wp E call n true L.body (roundW i L Post) e (s.setb i (.loop { L with st := .busy }))
@[simp] theorem startW_normal (E : IEnv) (call : Caller) (n : Nat) (i : Nat) (L : ALoop) (Post : Bool → St → Prop) (e : Env) (s : St) : startW E call n i L Post .normal e s = (s.bl[i]? = some (.loop L) ∧ wp E call n true L.body (roundW i L Post) e (s.setb i (.loop { L with st := .busy }))) := by simp [startW]

theorem call_round {E : IEnv} {k i : Nat} {args : List AV} {s : St} {L : ALoop} {Post : Bool → St → Prop} (hL : s.bl[i]? = some (.loop L)) (hst : L.st = .ready) (hn : args.length = L.ps.length) (hro : s.ro ≤ i)
    (h : wp E (callA E k) k true L.assign (startW E (callA E k) k i L Post) (putAll L.ps args L.env) s) : ∃ b s', callA E (k + 1) none (.yield i) args s = some (.ret (.bool b), false, s') ∧ Post b s' := by
  obtain ⟨o, e1, s1, h1, rfl, h2, h3⟩ := wp_run h
  obtain ⟨o2, e2, s2, h4, h5, h6⟩ := wp_run h3
  have hc : codeA E (callA E k) k L.assign { env := putAll L.ps args L.env, defers := [], rcv := none, recd := false, rnd := true } s = some (.normal, frW true e1, s1) := h1
  have hb : codeA E (callA E k) k L.body (frW true e1) (s1.setb i (.loop { L with st := .busy })) = some (o2, frW true e2, s2) := h4
  cases o2 with
  | normal => exact ⟨true, _, by simp only [callA, Option.isSome_none, Bool.false_eq_true, if_false, roundA, hL, hn, hro, and_self, if_true, hc, h2, hst, hb, h5], h6⟩
  | exit id => exact ⟨false, _, by simp only [callA, Option.isSome_none, Bool.false_eq_true, if_false, roundA, hL, hn, hro, and_self, if_true, hc, h2, hst, hb, h5], h6⟩
  | ret => exact ⟨false, _, by simp only [callA, Option.isSome_none, Bool.false_eq_true, if_false, roundA, hL, hn, hro, and_self, if_true, hc, h2, hst, hb, h5], h6⟩
  | pan v => exact h6.elim

/- behind the call of the iterator -/
def overW (i : Nat) (e : Env) (Q : Pst) (s : St) : Prop := ∃ L, s.bl[i]? = some (.loop L) ∧ ((L.st = .ready ∧ L.pend = none ∧ Q .normal e (s.setb i (.loop { L with st := .exhausted }))) ∨ (∃ id, L.st = .done ∧ L.pend = some (.exit id) ∧ Q (.exit id) e (s.setb i (.loop { L with st := .exhausted }))) ∨ (L.st = .done ∧ L.pend = some .ret ∧ Q .ret e (s.setb i (.loop { L with st := .exhausted }))))
theorem wp_range {E : IEnv} {call : Caller} {n : Nat} {r : Bool} {g : Opd} {ps : List Nat} {a b : ICode} {Q : Pst} {e : Env} {s : St}
    (h : ∃ v rd s', call none (g.ev E e) [.yield s.bl.length] (s.push (.loop { st := .ready, pend := none, env := e, ps, assign := a, body := b })) = some (.ret v, rd, s') ∧ overW s.bl.length e Q s') : wp E call n r (.rangeFn g ps a b) Q e s := by
  obtain ⟨v, rd, s', h1, L, h2, h3⟩ := h
  simp only [wp, codeA, h1, h2]
  rcases h3 with ⟨h4, h5, q⟩ | ⟨id, h4, h5, q⟩ | ⟨h4, h5, q⟩
  · rw [if_neg (by rw [h4]; exact fun h => by cases h)]; simp only [h5]; exact ⟨_, _, rfl, by simpa only [h5] using q⟩
  · rw [if_neg (by rw [h4]; exact fun h => by cases h)]; simp only [h5]; exact ⟨_, _, rfl, by simpa only [h5] using q⟩
  · rw [if_neg (by rw [h4]; exact fun h => by cases h)]; simp only [h5]; exact ⟨_, _, rfl, by simpa only [h5] using q⟩
theorem wp_range_none {E : IEnv} {call : Caller} {n : Nat} {r : Bool} {g : Opd} {ps : List Nat} {a b : ICode} {Q : Pst} {e : Env} {s : St}
    (h : ∃ v, call none (g.ev E e) [.yield s.bl.length] (s.push (.loop { st := .ready, pend := none, env := e, ps, assign := a, body := b })) = some (.ret v, false, s.push (.loop { st := .ready, pend := none, env := e, ps, assign := a, body := b })))
    (hq : ∀ L, Q .normal e (s.push (.loop L))) : wp E call n r (.rangeFn g ps a b) Q e s := by
  obtain ⟨v, h⟩ := h
  refine wp_range ⟨v, false, _, h, { st := .ready, pend := none, env := e, ps, assign := a, body := b }, by simp [St.push], .inl ⟨rfl, rfl, ?_⟩⟩
  have := hq { st := .exhausted, pend := none, env := e, ps, assign := a, body := b }
  simpa [St.push, St.setb] using this
end Ab

/- All terms of an expression, each ahead of its Kids; a step from term to term. No condition. -/
namespace Ab
open Go Go.RowKit
mutual
def preT : Tm → List Tm
  | .mk k s kids => .mk k s kids :: preS kids
def preS : List Tm → List Tm
  | [] => []
  | t :: ts => preT t ++ preS ts
end
theorem preT_eq (t : Tm) : preT t = t :: preS t.kids := by cases t; simp only [preT, Tm.kids]
theorem preS_cons (t : Tm) (ts : List Tm) : preS (t :: ts) = t :: (preS t.kids ++ preS ts) := by simp only [preS, preT_eq, List.cons_append]
theorem preS_append : ∀ a b : List Tm, preS (a ++ b) = preS a ++ preS b
  | [], b => by simp [preS]
  | t :: a, b => by simp [preS, preS_append a b]
mutual
theorem preT_length : ∀ t : Tm, (preT t).length = nT t
  | .mk k s kids => by simp only [preT, nT, List.length_cons, preS_length kids]; omega
theorem preS_length : ∀ ts : List Tm, (preS ts).length = nTs ts
  | [] => rfl
  | t :: ts => by simp only [preS, nTs, List.length_append, preT_length t, preS_length ts]
end
def foldO {α : Type} (y : α → Tm → Option α) : α → List Tm → Option α
  | a, [] => some a
  | a, t :: ts => match y a t with
    | some b => foldO y b ts
    | none => none
theorem foldO_append {α : Type} (y : α → Tm → Option α) : ∀ (a : α) (l r : List Tm), foldO y a (l ++ r) = match foldO y a l with | some b => foldO y b r | none => none
  | a, [], r => rfl
  | a, t :: l, r => by
    simp only [List.cons_append, foldO]
    cases y a t with
    | none => rfl
    | some b => exact foldO_append y b l r
end Ab

/- What the iterator of 'term.all' does. No condition but the table. -/
namespace Ab.B
open Go Ab Go.RowKit
set_option maxRecDepth 10000
set_option linter.unusedSimpArgs false
set_option linter.unusedVariables false
section
variable {E : IEnv} (hE : E.fns = Table.fn table)
include hE
theorem call_all {v : AV} (hv : ∃ o xs, v = .sl o 3 xs) : ∀ k, 1 ≤ k → ∀ s, callA E k none (.fn n_term_all [] []) [v] s = some (.ret (.fn n_term_all_1 [] [.ptr s.bl.length 0]), false, { s with bl := s.bl ++ [.cells [v]] }) := by
  intro k hk s
  obtain ⟨o, xs, rfl⟩ := hv
  obtain ⟨j, rfl⟩ : ∃ j, k = j + 1 := ⟨k - 1, by omega⟩
  have key := call_byW (h_term_all hE) (first := []) (caps := []) (args := [.sl o 3 xs]) rfl (k := j) (s := s) (Post := fun v s' => v = .fn n_term_all_1 [] [.ptr s.bl.length 0] ∧ s' = { s with bl := s.bl ++ [.cells [.sl o 3 xs]] }) (by
    simp [F_term_all, b_term_all, s0Of, finA])
  obtain ⟨v, s', h, rfl, rfl⟩ := key
  exact h

abbrev goFn (c : Nat) : AV := .fn n_term_all_1_1 [] [.ptr (c + 1) 0, .ptr (c + 2) 0]

section
variable {α : Type} (B : α → List AB) (c : Nat) (hB : ∀ a, (B a).length = c) (tk : List Nat) (ro rt : Nat) (hro : ro ≤ c) (L : AB) (y : α → Tm → Option α) (D : St → Prop) (k0 : Nat) (W : Tm → Prop)
  (hD : ∀ s, D s → s.ro = ro ∧ s.rt = rt)
  (hy : ∀ a g t x k, W t → Rt t x → k0 ≤ k → ∃ b s', callA E k none (.yield c) [x] ⟨B a ++ L :: g, tk, ro, rt⟩ = some (.ret (.bool b), false, s') ∧
    (match y a t with | some a' => b = true ∧ ∃ g', s' = ⟨B a' ++ L :: (g ++ g'), tk, ro, rt⟩ | none => b = false ∧ D s'))
include hB hro hD hy

theorem call_go : ∀ (n : Nat) {ts : List Tm} {v : AV} (a : α) (g : List AB) (k : Nat), nTs ts < n → nTs ts < most → (∀ t ∈ preS ts, W t) → Sl ts v → 2 * nTs ts + k0 + 3 ≤ k →
    ∃ b s', callA E k none (goFn c) [v] ⟨B a ++ L :: .cells [.yield c] :: .cells [goFn c] :: g, tk, ro, rt⟩ = some (.ret (.bool b), false, s') ∧
      (match foldO y a (preS ts) with | some a' => b = true ∧ ∃ g', s' = ⟨B a' ++ L :: .cells [.yield c] :: .cells [goFn c] :: g', tk, ro, rt⟩ | none => b = false ∧ D s')
  | 0, _, _, _, _, _, h, _, _, _, _ => by omega
  | n + 1, ts, v, a, g, k, hn, hm, hW, hv, hk => by
    obtain ⟨o, xs, rfl, _, hR⟩ := hv
    have hmx : maxLen = 9223372036854775807 := rfl
    have hmm : most = 1073741824 := rfl
    have hl := hR.length
    have hlt := length_le_nTs ts
    have gj : ∀ a r j, (B a ++ r)[c + j]? = r[j]? := fun a r j => by rw [← hB a]; exact append_get _ _ _
    have g0 : ∀ a r, (B a ++ r)[c]? = r[0]? := fun a r => by rw [← hB a]; exact append_get0 _ _
    have sj : ∀ a r j x, (B a ++ r).set (c + j) x = B a ++ r.set j x := fun a r j x => by rw [← hB a]; exact append_set _ _ _ _
    have hro' : ∀ j, ro ≤ c + j := fun j => by omega
    obtain ⟨k, rfl⟩ : ∃ j, k = j + 1 := ⟨k - 1, by omega⟩
    have key := call_byW (h_term_all_1_1 hE) (first := []) (caps := [.ptr (c + 1) 0, .ptr (c + 2) 0]) (args := [.sl o 3 xs]) rfl (k := k) (s := ⟨B a ++ L :: .cells [.yield c] :: .cells [goFn c] :: g, tk, ro, rt⟩)
      (Post := fun v s' => ∃ b, v = .bool b ∧ (match foldO y a (preS ts) with | some a' => b = true ∧ ∃ g', s' = ⟨B a' ++ L :: .cells [.yield c] :: .cells [goFn c] :: g', tk, ro, rt⟩ | none => b = false ∧ D s')) (by
      simp only [F_term_all_1_1, b_term_all_1_1, s0Of]
      simp
      refine wp_loop xs.length (fun i e s => ∃ a' g', foldO y a (preS ts) = foldO y a' (preS (ts.drop i)) ∧ e = [(1, .ptr (c + 1) 0), (2, .ptr (c + 2) 0), (7, .sl o 3 xs), (8, .int .i64 xs.length), (9, .int .i64 i)] ∧
        s = ⟨B a' ++ L :: .cells [.yield c] :: .cells [goFn c] :: g', tk, ro, rt⟩) (by omega) ⟨a, g, by simp⟩ ?_ ?_
      · rintro i e s hi ⟨a', g', hq, rfl, rfl⟩
        obtain ⟨t, ht⟩ : ∃ t, ts[i]? = some t := ⟨_, List.getElem?_eq_getElem (by omega)⟩
        obtain ⟨x, hx, hrx⟩ := hR.get ht
        obtain ⟨kx, rfl, hkx⟩ := hrx.open
        obtain ⟨hi1, hx1⟩ := List.getElem?_eq_some_iff.1 hx
        have e1 : idx (.int .i64 i) xs.length = some i := idx_nat hi
        have hwr : IntKind.wrap .i64 ((i : Int) + 1) = i + 1 := wrapIn (by omega) (by omega)
        have hmt := List.mem_of_getElem? ht
        have hle := nT_mem hmt
        rw [nT_eq] at hle
        have hpre : ∀ u ∈ t :: preS t.kids, u ∈ preS ts := by
          intro u hu
          obtain ⟨l, r, rfl⟩ := List.append_of_mem hmt
          rw [preS_append, preS_cons]
          simp only [List.mem_append, List.mem_cons]
          rcases List.mem_cons.1 hu with rfl | hu
          · exact .inr (.inl rfl)
          · exact .inr (.inr (.inl hu))
        obtain ⟨hti, ht1⟩ := List.getElem?_eq_some_iff.1 ht
        rw [List.drop_eq_getElem_cons hti, ht1, preS_cons, foldO] at hq
        obtain ⟨b, s', hcall, hpost⟩ := hy a' (.cells [.yield c] :: .cells [goFn c] :: (g' ++ [.cells [.int .i64 t.kind, .str t.text, kx]])) t _ k (hW t (hpre t (List.mem_cons_self ..))) hrx (by omega)
        cases hyt : y a' t with
        | none =>
          rw [hyt] at hpost hq
          obtain ⟨rfl, hd⟩ := hpost
          simp only at hq
          rw [hq]
          obtain ⟨r1, r2⟩ := hD s' hd
          have hbk : ({ s' with ro := ro, rt := rt } : St) = s' := by rw [← r1, ← r2]
          simp [l0_term_all_1_1, hB, hi, e1, hi1, hx1, hwr, gj, g0, sj, hro', hcall, finA, hbk, hd]
        | some a2 =>
          rw [hyt] at hpost hq
          obtain ⟨rfl, g2, rfl⟩ := hpost
          simp only [foldO_append] at hq
          obtain ⟨b3, s3, hcall3, hpost3⟩ := call_go n a2 ((g' ++ [.cells [.int .i64 t.kind, .str t.text, kx]]) ++ g2) k (by omega) (by omega) (fun u hu => hW u (hpre u (List.mem_cons_of_mem _ hu))) hkx (by omega)
          simp only [List.cons_append, List.append_assoc, List.nil_append] at hcall hcall3
          cases hf : foldO y a2 (preS t.kids) with
          | none =>
            rw [hf] at hpost3 hq
            obtain ⟨rfl, hd⟩ := hpost3
            simp only at hq
            rw [hq]
            obtain ⟨r1, r2⟩ := hD s3 hd
            have hbk : ({ s3 with ro := ro, rt := rt } : St) = s3 := by rw [← r1, ← r2]
            simp [l0_term_all_1_1, hB, hi, e1, hi1, hx1, hwr, gj, g0, sj, hro', hcall, hcall3, finA, hbk, hd]
          | some a4 =>
            rw [hf] at hpost3 hq
            obtain ⟨rfl, g3, rfl⟩ := hpost3
            simp only at hq
            simp [l0_term_all_1_1, hB, hi, e1, hi1, hx1, hwr, gj, g0, sj, hro', hcall, hcall3]
            exact ⟨a4, hq, g3, rfl⟩
      · rintro e s ⟨a', g', hq, rfl, rfl⟩
        rw [List.drop_of_length_le (by omega)] at hq
        simp only [preS, foldO] at hq
        rw [hq]
        simp [l0_term_all_1_1, finA])
    obtain ⟨v, s', hc, b, rfl, hpost⟩ := key
    exact ⟨b, s', hc, hpost⟩

theorem call_all_1 {ts : List Tm} {v : AV} (a : α) (k cl : Nat) (hcl : ∀ a r, (B a ++ r)[cl]? = some (.cells [v])) (hm : nTs ts < most) (hW : ∀ t ∈ preS ts, W t) (hv : Sl ts v) (hk : 2 * nTs ts + k0 + 4 ≤ k) :
    ∃ v s', callA E k none (.fn n_term_all_1 [] [.ptr cl 0]) [.yield c] ⟨B a ++ [L], tk, ro, rt⟩ = some (.ret v, false, s') ∧
      (match foldO y a (preS ts) with | some a' => ∃ g', s' = ⟨B a' ++ L :: g', tk, ro, rt⟩ | none => D s') := by
  obtain ⟨k, rfl⟩ : ∃ j, k = j + 1 := ⟨k - 1, by omega⟩
  have gj : ∀ a r j, (B a ++ r)[c + j]? = r[j]? := fun a r j => by rw [← hB a]; exact append_get _ _ _
  have g0 : ∀ a r, (B a ++ r)[c]? = r[0]? := fun a r => by rw [← hB a]; exact append_get0 _ _
  have sj : ∀ a r j x, (B a ++ r).set (c + j) x = B a ++ r.set j x := fun a r j x => by rw [← hB a]; exact append_set _ _ _ _
  have hro' : ∀ j, ro ≤ c + j := fun j => by omega
  obtain ⟨b, s', hcall, hpost⟩ := call_go hE B c hB tk ro rt hro L y D k0 W hD hy (nTs ts + 1) a [] k (by omega) hm hW hv (by omega)
  have key := call_byW (h_term_all_1 hE) (first := []) (caps := [.ptr cl 0]) (args := [.yield c]) rfl (k := k) (s := ⟨B a ++ [L], tk, ro, rt⟩)
    (Post := fun v s' => match foldO y a (preS ts) with | some a' => ∃ g', s' = ⟨B a' ++ L :: g', tk, ro, rt⟩ | none => D s') (by
      simp only [F_term_all_1, b_term_all_1, s0Of]
      cases hf : foldO y a (preS ts) with
      | none =>
        rw [hf] at hpost
        obtain ⟨rfl, hd⟩ := hpost
        obtain ⟨r1, r2⟩ := hD s' hd
        have hbk : ({ s' with ro := ro, rt := rt } : St) = s' := by rw [← r1, ← r2]
        simp [hB, gj, g0, sj, hro', hcl, hcall, finA, hbk, hd]
      | some a' =>
        rw [hf] at hpost
        obtain ⟨rfl, g', rfl⟩ := hpost
        simp [hB, gj, g0, sj, hro', hcl, hcall, finA])
  exact key
end
end
end Ab.B

/- What 'term.check' answers. No condition but the table. -/
namespace Ab.B
open Go Ab Go.RowKit
set_option maxRecDepth 10000
set_option linter.unusedSimpArgs false
set_option linter.unusedVariables false

abbrev Cnt := { a : Nat // a ≤ 4000 }
def countY (a : Cnt) (_ : Tm) : Option Cnt := if h : a.1 + 1 ≤ 4000 then some ⟨a.1 + 1, h⟩ else none
theorem countY_none : ∀ (l : List Tm) (a : Cnt), 4000 < a.1 + l.length → foldO countY a l = none
  | [], a, h => by have := a.2; simp at h; omega
  | t :: l, a, h => by
    simp only [foldO, countY]
    by_cases h1 : a.1 + 1 ≤ 4000
    · simp only [h1, dif_pos]; exact countY_none l _ (by simp at h ⊢; omega)
    · simp only [h1, dif_neg, not_false_eq_true]
theorem countY_some : ∀ (l : List Tm) (a : Cnt) (h : a.1 + l.length ≤ 4000), foldO countY a l = some ⟨a.1 + l.length, h⟩
  | [], a, h => rfl
  | t :: l, a, h => by
    have h1 : a.1 + 1 ≤ 4000 := by simp at h; omega
    simp only [foldO, countY, h1, dif_pos]
    rw [countY_some l ⟨a.1 + 1, h1⟩ (by simp at h ⊢; omega)]
    simp only [List.length_cons]; congr 2; omega
def rightY (kind : Int) (_ : Unit) (t : Tm) : Option Unit := if decide (t.kind ≤ kind) && rightT t then some () else none
theorem rightY_some (kind : Int) : ∀ l : List Tm, l.all (fun t => decide (t.kind ≤ kind) && rightT t) = true → foldO (rightY kind) () l = some ()
  | [], _ => rfl
  | t :: l, h => by
    rw [List.all_cons, Bool.and_eq_true] at h
    simp only [foldO, rightY, h.1, if_true]
    exact rightY_some kind l h.2
theorem rightY_none (kind : Int) : ∀ l : List Tm, l.all (fun t => decide (t.kind ≤ kind) && rightT t) = false → foldO (rightY kind) () l = none
  | [], h => by cases h
  | t :: l, h => by
    rw [List.all_cons, Bool.and_eq_false_iff] at h
    by_cases h1 : (decide (t.kind ≤ kind) && rightT t) = true
    · simp only [foldO, rightY, h1, if_true]
      rcases h with h | h
      · rw [h] at h1; cases h1
      · exact rightY_none kind l h
    · simp only [foldO, rightY]; rw [if_neg h1]
def checkT (kind : Int) (ts : List Tm) : Int := if 4000 < nTs ts then 5 else if 100 < dpS ts then 6 else if (preS ts).all (fun t => decide (t.kind ≤ kind) && rightT t) then 0 else 2

section
variable {E : IEnv} (hE : E.fns = Table.fn table)
include hE
theorem check_count {ts : List Tm} {v : AV} (hv : Sl ts v) (hm : nTs ts < most) {k : Nat} (hk : 2 * nTs ts + 10 ≤ k) {bl : List AB} {tk : List Nat} {C3 : AB} {Q : Pst} {e : Env} (e4 : e.get 4 = .ptr (bl.length + 1) 0) (e5 : e.get 5 = .ptr (bl.length + 2) 0)
    (e8 : e.get 8 = .fn n_term_all_1 [] [.ptr (bl.length + 3) 0])
    (q1 : nTs ts ≤ 4000 → ∀ L r, Q .normal e { bl := bl ++ (C3 :: .cells [.int .i64 0] :: .cells [.int .i64 (nTs ts)] :: .cells [v] :: L :: r), tk, ro := bl.length, rt := tk.length })
    (q2 : 4000 < nTs ts → ∀ C L r, Q .ret e { bl := bl ++ (C3 :: .cells [.int .i64 5] :: C :: .cells [v] :: L :: r), tk, ro := bl.length, rt := tk.length }) :
    wp E (callA E k) k false (.rangeFn (.t 8) [9] .skip l0_term_check) Q e { bl := bl ++ [C3, .cells [.int .i64 0], .cells [.int .i64 0], .cells [v]], tk, ro := bl.length, rt := tk.length } := by
  have hmx : maxLen = 9223372036854775807 := rfl
  have hmm : most = 1073741824 := rfl
  let L0 : ALoop := { st := .ready, pend := none, env := e, ps := [9], assign := .skip, body := l0_term_check }
  let B : Cnt → List AB := fun a => bl ++ [C3, .cells [.int .i64 0], .cells [.int .i64 a.1], .cells [v]]
  refine wp_range ?_
  have key := call_all_1 hE B (bl.length + 4) (fun a => by simp [B]) tk bl.length tk.length (by omega) (.loop L0) countY
    (fun s => ∃ C r, s = { bl := bl ++ (C3 :: .cells [.int .i64 5] :: C :: .cells [v] :: .loop { L0 with st := .done, pend := some .ret } :: r), tk, ro := bl.length, rt := tk.length }) 2 (fun _ => True)
    (by rintro s ⟨C, r, rfl⟩; exact ⟨rfl, rfl⟩)
    (by
      intro a g t x k _ hx hk
      obtain ⟨k, rfl⟩ : ∃ j, k = j + 1 := ⟨k - 1, by omega⟩
      refine call_round (L := L0) (by simp [B, append_get]) rfl rfl (by simp) ?_
      obtain ⟨a, ha⟩ := a
      have hw : IntKind.wrap .i64 ((a : Int) + 1) = a + 1 := wrapIn (by omega) (by omega)
      by_cases h : a + 1 ≤ 4000
      · have h3 : ¬ (4000 : Int) < (a : Int) + 1 := by omega
        simp [L0, B, countY, h, l0_term_check, putAll, Env.get_put, e4, e5, append_get, append_get0, append_set, append_set0, hw, h3]
      · have h3 : (4000 : Int) < (a : Int) + 1 := by omega
        simp [L0, B, countY, h, l0_term_check, putAll, Env.get_put, e4, e5, append_get, append_get0, append_set, append_set0, hw, h3])
    ⟨0, by omega⟩ k (bl.length + 3) (fun a r => by simp [B, append_get]) hm (fun _ _ => trivial) hv (by omega)
  obtain ⟨v', s', hcl, hor⟩ := key
  refine ⟨v', false, s', ?_, ?_⟩
  · simp only [Opd.ev, e8]
    rw [← hcl]
    simp [B, L0, St.push]
  · by_cases h : 4000 < nTs ts
    · rw [countY_none _ _ (by rw [preS_length]; simpa using h)] at hor
      obtain ⟨C, r, rfl⟩ := hor
      refine ⟨{ L0 with st := .done, pend := some .ret }, by simp [append_get], .inr (.inr ⟨rfl, rfl, ?_⟩)⟩
      simpa [append_set, append_set0] using q2 h _ _ r
    · rw [countY_some _ _ (by rw [preS_length]; simp; omega)] at hor
      obtain ⟨r, rfl⟩ := hor
      refine ⟨L0, by simp [B, append_get], .inl ⟨rfl, rfl, ?_⟩⟩
      simpa [B, append_set, append_set0, preS_length] using q1 (by omega) _ r

theorem check_right {ts : List Tm} {v : AV} (hv : Sl ts v) (hm : nTs ts < most) {M : Nat} (hM : M ≤ maxLen) (hW : ∀ t ∈ preS ts, t.text.length ≤ M) (kind : Int) {k : Nat} (hk : 2 * nTs ts + M + 20 ≤ k) {bl r : List AB} {tk : List Nat} {C5 CB Lx : AB} {Q : Pst} {e : Env}
    (e3 : e.get 3 = .ptr bl.length 0) (e4 : e.get 4 = .ptr (bl.length + 1) 0) (e18 : e.get 18 = .fn n_term_all_1 [] [.ptr (bl.length + (r.length + 5)) 0])
    (q1 : (preS ts).all (fun t => decide (t.kind ≤ kind) && rightT t) = true → ∀ g, Q .normal e { bl := bl ++ (.cells [.int .i64 kind] :: .cells [.int .i64 0] :: g), tk, ro := bl.length, rt := tk.length })
    (q2 : (preS ts).all (fun t => decide (t.kind ≤ kind) && rightT t) = false → ∀ g, Q .ret e { bl := bl ++ (.cells [.int .i64 kind] :: .cells [.int .i64 2] :: g), tk, ro := bl.length, rt := tk.length }) :
    wp E (callA E k) k false (.rangeFn (.t 18) [19] (.region [⟨(some 6), .alloc [.int .i64 0, .str [], .sl .nil 3 []], none, [], false⟩, ⟨none, .store 3 (.t 6) (.t 19), none, [], false⟩] [6] false) l1_term_check) Q e
      { bl := bl ++ (.cells [.int .i64 kind] :: .cells [.int .i64 0] :: C5 :: CB :: Lx :: (r ++ [.cells [v]])), tk, ro := bl.length, rt := tk.length } := by
  have hmx : maxLen = 9223372036854775807 := rfl
  have hmm : most = 1073741824 := rfl
  let L0 : ALoop := { st := .ready, pend := none, env := e, ps := [19], assign := (.region [⟨(some 6), .alloc [.int .i64 0, .str [], .sl .nil 3 []], none, [], false⟩, ⟨none, .store 3 (.t 6) (.t 19), none, [], false⟩] [6] false), body := l1_term_check }
  let B : Unit → List AB := fun _ => bl ++ (.cells [.int .i64 kind] :: .cells [.int .i64 0] :: C5 :: CB :: Lx :: (r ++ [.cells [v]]))
  have hlen : (bl ++ (.cells [.int .i64 kind] :: .cells [.int .i64 0] :: C5 :: CB :: Lx :: (r ++ [.cells [v]]))).length = bl.length + (r.length + 6) := by simp
  refine wp_range ?_
  have key := call_all_1 hE B (bl.length + (r.length + 6)) (fun a => hlen) tk bl.length tk.length (by omega) (.loop L0) (rightY kind)
    (fun s => ∃ g, s = { bl := bl ++ (.cells [.int .i64 kind] :: .cells [.int .i64 2] :: C5 :: CB :: Lx :: (r ++ (.cells [v] :: .loop { L0 with st := .done, pend := some .ret } :: g))), tk, ro := bl.length, rt := tk.length }) (M + 12) (fun t => t.text.length ≤ M)
    (by rintro s ⟨g, rfl⟩; exact ⟨rfl, rfl⟩)
    (by
      intro a g t x k ht hx hk
      obtain ⟨k, rfl⟩ : ∃ j, k = j + 1 := ⟨k - 1, by omega⟩
      have hr := fn_right hE hx (by omega) k (by omega)
      obtain ⟨kx, rfl, hkx⟩ := hx.open
      refine call_round (L := L0) (by simp [B, append_get, append_get0]) rfl rfl (by simp) ?_
      by_cases h : t.kind ≤ kind
      · have h3 : ¬ kind < t.kind := by omega
        cases h4 : rightT t with
        | true =>
          rw [h4] at hr
          simp [L0, B, rightY, h, h4, l1_term_check, putAll, Env.get_put, e3, e4, append_get, append_get0, append_set, append_set0, h3, hr]
        | false =>
          rw [h4] at hr
          simp [L0, B, rightY, h, h4, l1_term_check, putAll, Env.get_put, e3, e4, append_get, append_get0, append_set, append_set0, h3, hr]
      · have h3 : kind < t.kind := by omega
        simp [L0, B, rightY, h, l1_term_check, putAll, Env.get_put, e3, e4, append_get, append_get0, append_set, append_set0, h3])
    () k (bl.length + (r.length + 5)) (fun a g => by simp [B, append_get, append_get0]) hm hW hv (by omega)
  obtain ⟨v', s', hcl, hor⟩ := key
  refine ⟨v', false, s', ?_, ?_⟩
  · simp only [Opd.ev, e18, hlen]
    rw [← hcl]
    simp [B, L0, St.push]
  · rw [hlen]
    cases h : (preS ts).all (fun t => decide (t.kind ≤ kind) && rightT t) with
    | false =>
      rw [rightY_none _ _ h] at hor
      obtain ⟨g, rfl⟩ := hor
      refine ⟨{ L0 with st := .done, pend := some .ret }, by simp [append_get, append_get0], .inr (.inr ⟨rfl, rfl, ?_⟩)⟩
      simpa [append_set, append_set0] using q2 h _
    | true =>
      rw [rightY_some _ _ h] at hor
      obtain ⟨g, rfl⟩ := hor
      refine ⟨L0, by simp [B, append_get, append_get0], .inl ⟨rfl, rfl, ?_⟩⟩
      simpa [B, append_set, append_set0] using q1 h _

theorem fn_check {ts : List Tm} {v : AV} (hv : Sl ts v) (hm : nTs ts < most) {M : Nat} (hM : M ≤ maxLen) (hW : ∀ t ∈ preS ts, t.text.length ≤ M) (kind : Int) : Fn E (.fn n_term_check [] []) [v, .int .i64 kind] (.int .i64 (checkT kind ts)) := by
  have hmm : most = 1073741824 := rfl
  obtain ⟨K, hK⟩ := fn_depth hE _ (Nat.lt_succ_self _) (by omega) hv
  have hsl : ∃ o xs, v = .sl o 3 xs := by obtain ⟨o, xs, h, _⟩ := hv.len; exact ⟨o, xs, h⟩
  refine Fn.byW (h_term_check hE) rfl rfl ⟨K + 2 * nTs ts + M + 30, fun k hk bl tk => ?_⟩
  have hal := call_all hE hsl k (by omega)
  have hd := hK k (by omega)
  simp [F_term_check, b_term_check, hal]
  refine check_count hE hv hm (by omega) (by simp) (by simp) (by simp) (fun h L r => ?_) (fun h C L r => ?_)
  · by_cases hdp : 100 < dpS ts
    · have hc : checkT kind ts = 6 := by unfold checkT; rw [if_neg (by omega), if_pos hdp]
      have hdi : (100 : Int) < (dpS ts : Int) := by omega
      simp [hd, hdi, hc, append_get, append_get0, append_set, append_set0]
    · have hdi : ¬ (100 : Int) < (dpS ts : Int) := by omega
      simp [hd, hdi, hal, append_get, append_get0, append_set, append_set0]
      refine check_right hE hv hm hM hW kind (by omega) (by simp) (by simp) (by simp) (fun hr g => ?_) (fun hr g => ?_)
      · have hc : checkT kind ts = 0 := by unfold checkT; rw [if_neg (by omega), if_neg hdp, if_pos hr]
        simp [hc, append_get, append_get0, append_set, append_set0]
      · have hc : checkT kind ts = 2 := by unfold checkT; rw [if_neg (by omega), if_neg hdp, if_neg (by rw [hr]; simp)]
        simp [hc, append_get, append_get0, append_set, append_set0]
  · have hc : checkT kind ts = 5 := by unfold checkT; rw [if_pos h]
    simp [hc, append_get, append_get0, append_set, append_set0]
end
end Ab.B

/- The reference's right, Size, form, Value. No condition but the table. -/
namespace Ab.B
open Go Ab Go.RowKit
set_option maxRecDepth 10000
set_option linter.all false
section
variable {E : IEnv} (hE : E.fns = Table.fn table)
include hE
set_option maxHeartbeats 1600000 in
theorem fn_ref_right {t : Tm} {x : AV} (h : Rt t x) (hs : t.text.length ≤ maxLen) : FnK (t.text.length + 9) E (.fn n_chiasmusref01_right [] []) [x] (.bool (rightT t)) := by
  obtain ⟨v, rfl, hv⟩ := h.open
  obtain ⟨o, ks, rfl, hlk⟩ := hv.len
  obtain ⟨kd, s, kids⟩ := t
  simp only [Tm.kind, Tm.text, Tm.kids] at *
  refine FnK.byW (h_chiasmusref01_right hE) rfl rfl (K := s.length + 8) fun k hk bl tk => ?_
  have w1 := fn_IsWord hE s hs k (by omega)
  have w2 := fn_refIsNumber hE s hs k (by omega)
  have w3 := fn_IsVar hE s hs k (by omega)
  have w4 := fn_IsName hE s hs 40 k (by omega)
  unfold rightT
  simp only [Tm.kind, Tm.text, Tm.kids]
  by_cases a4 : kd = 4
  · subst a4
    cases s with
    | nil => simp [F_chiasmusref01_right, b_chiasmusref01_right]
    | cons b r => simp [F_chiasmusref01_right, b_chiasmusref01_right]
  by_cases a8 : kd = 8
  · subst a8; simp [F_chiasmusref01_right, b_chiasmusref01_right, w4]
  simp only [a4, a8, if_false]
  have b4 : (kd == 4) = false := by simpa using a4
  have b8 : (kd == 8) = false := by simpa using a8
  have n4 : (kd != 4) = true := by simpa using a4
  have n8 : (kd != 8) = true := by simpa using a8
  by_cases ck : 0 < kids.length
  · have ck' : ¬ ks = [] := by rintro rfl; simp at hlk; omega
    have ck2 : (0 : Int) < ks.length := by omega
    simp only [ck, if_true]
    simp [F_chiasmusref01_right, b_chiasmusref01_right, n4, n8, ck2, hlk, ck]
  have ck' : ks = [] := by cases ks with | nil => rfl | cons a l => simp at hlk; omega
  subst ck'
  simp only [ck, if_false]
  by_cases a1 : kd = 1
  · subst a1
    have : ((s.length : Int) == 1) = (s.length == 1) := by rw [Bool.eq_iff_iff]; simp; omega
    simp [F_chiasmusref01_right, b_chiasmusref01_right, this]
  by_cases a2 : kd = 2
  · subst a2; simp [F_chiasmusref01_right, b_chiasmusref01_right, w1]
  by_cases a3 : kd = 3
  · subst a3; simp [F_chiasmusref01_right, b_chiasmusref01_right, w2]
  simp only [a1, a2, a3, if_false]
  have b1 : (kd == 1) = false := by simpa using a1
  have b2 : (kd == 2) = false := by simpa using a2
  have b3 : (kd == 3) = false := by simpa using a3
  by_cases a5 : kd = 5
  · subst a5; simp [F_chiasmusref01_right, b_chiasmusref01_right, w3]; rfl
  by_cases a6 : kd = 6
  · subst a6; simp [F_chiasmusref01_right, b_chiasmusref01_right, w3]; rfl
  by_cases a7 : kd = 7
  · subst a7; simp [F_chiasmusref01_right, b_chiasmusref01_right, w3]; rfl
  have b5 : (kd == 5) = false := by simpa using a5
  have b6 : (kd == 6) = false := by simpa using a6
  have b7 : (kd == 7) = false := by simpa using a7
  simp [F_chiasmusref01_right, b_chiasmusref01_right, n4, n8, b1, b2, b3, b4, b5, b6, b7, b8, a5, a6, a7]
theorem fn_ref_Size : ∀ (n : Nat) {ts : List Tm} {v : AV}, nTs ts < n → nTs ts ≤ most → Sl ts v → Fn E (.fn n_chiasmusref01_Size [] []) [v] (.tup [.int .i64 (nTs ts), .int .i64 (dpS ts)])
  | 0, _, _, h, _, _ => by omega
  | n + 1, ts, v, hn, hm, hv => by
    obtain ⟨o1, xs, rfl, ⟨hm1, _⟩, h1⟩ := hv
    have hl1 := h1.length
    have hmx : maxLen = 9223372036854775807 := rfl
    have hmm : most = 1073741824 := rfl
    obtain ⟨K, hK⟩ := kid_all (E := E) (f := .fn n_chiasmusref01_Size [] []) (more := []) (c := fun t => .tup [.int .i64 (nTs t.kids), .int .i64 (dpS t.kids)]) h1 fun t v ht hv => fn_ref_Size n (by have := nT_mem ht; rw [nT_eq] at this; omega) (by have := nT_mem ht; rw [nT_eq] at this; omega) hv
    refine Fn.byW (h_chiasmusref01_Size hE) rfl rfl ⟨K + ts.length + 10, fun k hk bl tk => ?_⟩
    simp [F_chiasmusref01_Size, b_chiasmusref01_Size]
    refine wp_loop xs.length (fun i e s => e = [(0, .sl o1 3 xs), (4, .int .i64 (nTs (ts.take i))), (5, .int .i64 (dpS (ts.take i))), (6, .int .i64 i)] ∧ s = { bl, tk, ro := bl.length, rt := tk.length }) (by omega) (by simp [dpS, nTs]) ?_ ?_
    · rintro i e s hi ⟨rfl, rfl⟩
      obtain ⟨t, ht⟩ : ∃ t, ts[i]? = some t := ⟨_, List.getElem?_eq_getElem (by omega)⟩
      obtain ⟨vx, hx, hvx, hc⟩ := hK k (by omega) i t ht
      obtain ⟨o2, ks, rfl, hlk⟩ := hvx.len
      obtain ⟨hi1, hx1⟩ := List.getElem?_eq_some_iff.1 hx
      have e1 : idx (.int .i64 i) xs.length = some i := idx_nat hi1
      have hwr : IntKind.wrap .i64 ((i : Int) + 1) = i + 1 := wrapIn (by omega) (by omega)
      have htk : dpS (ts.take (i + 1)) = max (dpS (ts.take i)) (dpE t) := by rw [List.take_add_one, ht, dpS_append]; simp [dpS]
      have htn : nTs (ts.take (i + 1)) = nTs (ts.take i) + (nTs t.kids + 1) := by rw [List.take_add_one, ht, nTs_append]; simp [nTs, nT_eq]; omega
      have hle := nT_mem (List.mem_of_getElem? ht)
      have hle2 := dpS_le t.kids
      have hln : nTs (ts.take i) + nTs (ts.drop i) = nTs ts := by rw [← nTs_append, List.take_append_drop]
      rw [nT_eq] at hle
      have hw1 : IntKind.wrap .i64 ((nTs (ts.take i) : Int) + (nTs t.kids : Int)) = (nTs (ts.take i) : Int) + nTs t.kids := wrapIn (by omega) (by omega)
      have hw3 : IntKind.wrap .i64 ((nTs (ts.take i) : Int) + (nTs t.kids : Int) + 1) = ((nTs (ts.take i) + (nTs t.kids + 1) : Nat) : Int) := by rw [wrapIn (by omega) (by omega)]; omega
      have hw2 : IntKind.wrap .i64 ((dpS t.kids : Int) + 1) = dpS t.kids + 1 := wrapIn (by omega) (by omega)
      have hmaxn : (if (dpS (ts.take i) : Int) < (dpS t.kids : Int) + 1 then ((dpS t.kids : Int) + 1) else (dpS (ts.take i) : Int)) = ((max (dpS (ts.take i)) (1 + dpS t.kids) : Nat) : Int) := by split <;> omega
      have hmaxm : (if (dpS (ts.take i) : Int) < (dpS t.kids : Int) then ((dpS t.kids : Int)) else (dpS (ts.take i) : Int)) = ((max (dpS (ts.take i)) (dpS t.kids) : Nat) : Int) := by split <;> omega
      rw [htk, htn, dpE_eq]
      by_cases c4 : t.kind = 4
      · rw [if_pos (.inl c4)]
        simp [l0_chiasmusref01_Size, hi, e1, hx1, hwr, c4, hc, hw1, hw2, hw3, mmAll, mmA, hmaxn]
      have b4 : (t.kind == 4) = false := by simpa using c4
      by_cases c8 : t.kind = 8
      · rw [if_pos (.inr (.inl c8))]
        simp [l0_chiasmusref01_Size, hi, e1, hx1, hwr, c8, hc, hw1, hw2, hw3, mmAll, mmA, hmaxn]
      have b8 : (t.kind == 8) = false := by simpa using c8
      by_cases ck : 0 < t.kids.length
      · rw [if_pos (.inr (.inr ck))]
        have ck' : ¬ ks = [] := by rintro rfl; simp at hlk; omega
        have ck2 : (0 : Int) < ks.length := by omega
        simp [l0_chiasmusref01_Size, hi, e1, hx1, hwr, b4, b8, ck', ck2, hc, hw1, hw2, hw3, mmAll, mmA, hmaxn]
      · rw [if_neg (by rintro (h | h | h) <;> omega)]
        have ck' : ks = [] := by cases ks with | nil => rfl | cons a l => simp at hlk; omega
        subst ck'
        have hk0 : t.kids = [] := List.eq_nil_of_length_eq_zero (by simpa using hlk.symm)
        have hd0 : dpS t.kids = 0 := by rw [hk0]; rfl
        rw [hd0] at hc hmaxm
        simp [l0_chiasmusref01_Size, hi, e1, hx1, hwr, b4, b8, hc, hw1, hw3, mmAll, mmA] at hmaxm ⊢
        omega
    · rintro e s ⟨rfl, rfl⟩
      rw [List.take_of_length_le (by omega)]
      simp [l0_chiasmusref01_Size]
def formOk (m : Int) (t : Tm) : Bool := decide (t.kind ≤ m) && rightT t
theorem fn_form (m : Int) : ∀ (n : Nat) {ts : List Tm} {v : AV} {M : Nat}, nTs ts < n → nTs ts ≤ most → M ≤ maxLen → (∀ t ∈ preS ts, t.text.length ≤ M) → Sl ts v → Fn E (.fn n_chiasmusref01_form [] []) [v, .int .i64 m] (.bool ((preS ts).all (formOk m)))
  | 0, _, _, _, h, _, _, _, _ => by omega
  | n + 1, ts, v, M, hn, hm, hM, hW, hv => by
    obtain ⟨o1, xs, rfl, ⟨hm1, _⟩, h1⟩ := hv
    have hl1 := h1.length
    have hmx : maxLen = 9223372036854775807 := rfl
    have hmm : most = 1073741824 := rfl
    have hpre : ∀ t ∈ ts, ∀ u ∈ preT t, u ∈ preS ts := by
      intro t ht u hu
      obtain ⟨a, b, rfl⟩ := List.append_of_mem ht
      rw [preS_append]; simp only [preS, List.mem_append]; exact .inr (.inl hu)
    obtain ⟨K, hK⟩ := kid_all (E := E) (f := .fn n_chiasmusref01_form [] []) (more := [.int .i64 m]) (c := fun t => .bool ((preS t.kids).all (formOk m))) h1 fun t v ht hv => fn_form m n (M := M) (by have := nT_mem ht; rw [nT_eq] at this; omega) (by have := nT_mem ht; rw [nT_eq] at this; omega) hM (fun u hu => hW u (hpre t ht u (by rw [preT_eq]; exact List.mem_cons_of_mem _ hu))) hv
    refine Fn.byW (h_chiasmusref01_form hE) rfl rfl ⟨K + ts.length + M + 20, fun k hk bl tk => ?_⟩
    obtain ⟨R, hR⟩ : ∃ R, R = (preS ts).all (formOk m) := ⟨_, rfl⟩
    rw [← hR]
    simp [F_chiasmusref01_form, b_chiasmusref01_form]
    refine wp_loop xs.length (fun i e s => R = (preS (ts.drop i)).all (formOk m) ∧ e = [(0, .sl o1 3 xs), (1, .int .i64 m), (5, .int .i64 i)] ∧ s = { bl, tk, ro := bl.length, rt := tk.length }) (by omega) (by simp [hR]) ?_ ?_
    · rintro i e s hi ⟨hq, rfl, rfl⟩
      obtain ⟨t, ht⟩ : ∃ t, ts[i]? = some t := ⟨_, List.getElem?_eq_getElem (by omega)⟩
      obtain ⟨vx, hx, hvx, hc⟩ := hK k (by omega) i t ht
      obtain ⟨hi1, hx1⟩ := List.getElem?_eq_some_iff.1 hx
      obtain ⟨hi2, ht1⟩ := List.getElem?_eq_some_iff.1 ht
      obtain ⟨y, hy, hrt⟩ := h1.get ht
      rw [hx] at hy; cases hy
      have hmem := List.mem_of_getElem? ht
      have hr := fn_ref_right hE hrt (by have := hW t (hpre t hmem t (by rw [preT_eq]; exact List.mem_cons_self ..)); omega) k (by have := hW t (hpre t hmem t (by rw [preT_eq]; exact List.mem_cons_self ..)); omega)
      have e1 : idx (.int .i64 i) xs.length = some i := idx_nat hi1
      have hwr : IntKind.wrap .i64 ((i : Int) + 1) = i + 1 := wrapIn (by omega) (by omega)
      rw [List.drop_eq_getElem_cons hi2, ht1, preS_cons, List.all_cons, List.all_append] at hq
      unfold formOk at hq
      obtain ⟨o2, ks, rfl, hlk⟩ := hvx.len
      cases r1 : rightT t with
      | false =>
        rw [r1] at hr hq
        simp only [Bool.and_false, Bool.false_and] at hq
        simp [l0_chiasmusref01_form, hi, e1, hx1, hwr, hr, hq]
      | true =>
        rw [r1] at hr hq
        by_cases c1 : m < t.kind
        · have c2 : ¬ t.kind ≤ m := by omega
          simp only [c2, decide_false, Bool.false_and] at hq
          simp [l0_chiasmusref01_form, hi, e1, hx1, hwr, hr, hq, c1]
        · have c2 : t.kind ≤ m := by omega
          simp only [c2, decide_true, Bool.true_and] at hq
          rw [show (fun t : Tm => decide (t.kind ≤ m) && rightT t) = formOk m from rfl] at hq
          cases c3 : (preS t.kids).all (formOk m) with
          | false =>
            rw [c3] at hc hq
            rw [Bool.false_and] at hq
            simp [l0_chiasmusref01_form, hi, e1, hx1, hwr, hr, hq, c1, hc]
          | true =>
            rw [c3] at hc hq
            rw [Bool.true_and] at hq
            simp [l0_chiasmusref01_form, hi, e1, hx1, hwr, hr, c1, hc]
            simpa using hq
    · rintro e s ⟨hq, rfl, rfl⟩
      rw [List.drop_of_length_le (by omega)] at hq
      have hq' : R = true := by simpa [preS] using hq
      simp [l0_chiasmusref01_form, hq']
theorem fn_wrong {ts : List Tm} {v : AV} (hv : Sl ts v) (hm : nTs ts < most) {M : Nat} (hM : M ≤ maxLen) (hW : ∀ t ∈ preS ts, t.text.length ≤ M) (kind : Int) : Fn E (.fn n_chiasmusref01_wrong [] []) [v, .int .i64 kind] (.int .i64 (checkT kind ts)) := by
  obtain ⟨K1, h1⟩ := fn_ref_Size hE _ (Nat.lt_succ_self _) (by omega) hv
  obtain ⟨K2, h2⟩ := fn_form hE kind _ (Nat.lt_succ_self _) (by omega) hM hW hv
  refine Fn.byW (h_chiasmusref01_wrong hE) rfl rfl ⟨K1 + K2, fun k hk bl tk => ?_⟩
  have g1 := h1 k (by omega)
  have g2 := h2 k (by omega)
  unfold checkT
  rw [show (fun t : Tm => decide (t.kind ≤ kind) && rightT t) = formOk kind from rfl]
  by_cases c1 : 4000 < nTs ts
  · have c1' : (4000 : Int) < nTs ts := by omega
    simp [F_chiasmusref01_wrong, b_chiasmusref01_wrong, g1, c1, c1']
  have c1' : ¬ (4000 : Int) < nTs ts := by omega
  by_cases c2 : 100 < dpS ts
  · have c2' : (100 : Int) < dpS ts := by omega
    simp [F_chiasmusref01_wrong, b_chiasmusref01_wrong, g1, c1, c1', c2, c2']
  have c2' : ¬ (100 : Int) < dpS ts := by omega
  rw [if_neg c1, if_neg c2]
  cases c3 : (preS ts).all (formOk kind) with
  | false => rw [c3] at g2; simp [F_chiasmusref01_wrong, b_chiasmusref01_wrong, g1, c1', c2', g2]
  | true => rw [c3] at g2; simp [F_chiasmusref01_wrong, b_chiasmusref01_wrong, g1, c1', c2', g2]
theorem fn_ref_Value {ts : List Tm} {v : AV} (hv : Sl ts v) (hm : nTs ts < most) {M : Nat} (hM : M ≤ maxLen) (hW : ∀ t ∈ preS ts, t.text.length ≤ M) : Fn E (.fn n_chiasmusref01_Value [] []) [v] (.int .i64 (checkT 4 ts)) := by
  obtain ⟨K, h⟩ := fn_wrong hE hv hm hM hW 4
  exact Fn.byW (h_chiasmusref01_Value hE) rfl rfl ⟨K, fun k hk bl tk => by simp [F_chiasmusref01_Value, b_chiasmusref01_Value, h k hk]⟩
theorem fn_Value {ts : List Tm} {v : AV} (hv : Sl ts v) (hm : nTs ts < most) {M : Nat} (hM : M ≤ maxLen) (hW : ∀ t ∈ preS ts, t.text.length ≤ M) : Fn E (.fn n_term_Value [] []) [v] (.int .i64 (checkT 4 ts)) := by
  obtain ⟨K, h⟩ := fn_check hE hv hm hM hW 4
  exact Fn.byW (h_term_Value hE) rfl rfl ⟨K, fun k hk bl tk => by simp [F_term_Value, b_term_Value, h k hk]⟩
end
end Ab.B

/- Rows that are written into: elements and cells. No condition. -/
namespace Ab
open Go

def Aggs (z : Nat) (ys : List AV) : Prop := ∀ y ∈ ys, ∃ cs : List AV, y = .agg cs ∧ cs.length = z
def rowC : List AV → List AV
  | [] => []
  | y :: ys => (match y with | .agg cs => cs | y => [y]) ++ rowC ys
theorem rowC_append : ∀ a b : List AV, rowC (a ++ b) = rowC a ++ rowC b
  | [], b => rfl
  | y :: a, b => by simp only [List.cons_append, rowC, rowC_append a b, List.append_assoc]
theorem Aggs.tail {z : Nat} {y : AV} {ys : List AV} (h : Aggs z (y :: ys)) : Aggs z ys := fun x hx => h x (List.mem_cons_of_mem _ hx)
theorem Aggs.append {z : Nat} {a b : List AV} (h : Aggs z a) (h' : Aggs z b) : Aggs z (a ++ b) := fun x hx => by
  rcases List.mem_append.1 hx with hx | hx
  · exact h x hx
  · exact h' x hx
theorem rowC_length {z : Nat} : ∀ {ys : List AV}, Aggs z ys → (rowC ys).length = ys.length * z
  | [], _ => by simp [rowC]
  | y :: ys, h => by
    obtain ⟨cs, rfl, hc⟩ := h y (List.mem_cons_self ..)
    simp only [rowC, List.length_append, rowC_length h.tail, hc, List.length_cons, Nat.succ_mul]; omega
theorem cellsL_rowC {z : Nat} : ∀ {ys : List AV}, Aggs z ys → cellsL ys = some (rowC ys)
  | [], _ => rfl
  | y :: ys, h => by
    obtain ⟨cs, rfl, hc⟩ := h y (List.mem_cons_self ..)
    simp only [cellsL, AV.cells?, cellsL_rowC h.tail, rowC]
theorem chunk_rowC {z : Nat} (hz : z ≠ 1) : ∀ {ys : List AV} (rest : List AV), Aggs z ys → AV.chunk z ys.length (rowC ys ++ rest) = ys
  | [], _, _ => rfl
  | y :: ys, rest, h => by
    obtain ⟨cs, rfl, hc⟩ := h y (List.mem_cons_self ..)
    simp only [List.length_cons, AV.chunk, if_neg hz, rowC, List.append_assoc]
    rw [List.take_left' hc, List.drop_left' hc, chunk_rowC hz rest h.tail]
/- one element of a row: what lies there, and a cell of it set -/
theorem rowC_get {z : Nat} {l r : List AV} {cs : List AV} (h : Aggs z l) (o : Nat) (ho : o < cs.length) : (rowC (l ++ .agg cs :: r))[l.length * z + o]? = cs[o]? := by
  rw [rowC_append, ← rowC_length h, append_get]
  simp only [rowC]
  rw [List.getElem?_append_left ho]
theorem rowC_set {z : Nat} {l r : List AV} {cs : List AV} (h : Aggs z l) (o : Nat) (ho : o < cs.length) (v : AV) :
    (rowC (l ++ .agg cs :: r)).take (l.length * z + o) ++ v :: (rowC (l ++ .agg cs :: r)).drop (l.length * z + o + 1) = rowC (l ++ .agg (cs.set o v) :: r) := by
  rw [rowC_append, rowC_append, ← rowC_length h, List.take_length_add_append, Nat.add_assoc, List.drop_length_add_append]
  simp only [rowC, List.append_assoc]
  congr 1
  rw [List.take_append_of_le_length (by omega), List.drop_append_of_le_length (by omega), List.set_eq_take_append_cons_drop, if_pos ho]
  simp
theorem Rts.aggs : ∀ {ts : List Tm} {ys : List AV}, Rts ts ys → Aggs 3 ys
  | [], _, h => by simp only [Rts] at h; subst h; intro y hy; cases hy
  | t :: ts, _, h => by
    simp only [Rts] at h
    obtain ⟨y, r, rfl, h1, h2⟩ := h
    obtain ⟨v, rfl, _⟩ := h1.open
    intro x hx
    rcases List.mem_cons.1 hx with rfl | hx
    · exact ⟨_, rfl, rfl⟩
    · exact h2.aggs x hx
theorem frz_sl (s : St) (lo k : Nat) (o : Own) (z : Nat) (xs : List AV) : frz s lo k (.sl o z xs) = .sl o z xs := by cases k <;> rfl
theorem Rt.frz {t : Tm} {y : AV} (h : Rt t y) (s : St) (lo k : Nat) : frz s lo k y = y := by
  obtain ⟨v, rfl, hv⟩ := h.open
  obtain ⟨o, xs, rfl, _⟩ := hv
  cases k with
  | zero => rfl
  | succ k =>
    simp only [Ab.frz, List.map_cons, List.map_nil]
    cases k <;> rfl
theorem Rts.frz (s : St) (lo k : Nat) : ∀ {ts : List Tm} {ys : List AV}, Rts ts ys → ys.map (Ab.frz s lo k) = ys
  | [], _, h => by simp only [Rts] at h; subst h; rfl
  | t :: ts, _, h => by
    simp only [Rts] at h
    obtain ⟨y, r, rfl, h1, h2⟩ := h
    simp only [List.map_cons, h1.frz, Rts.frz s lo k h2]
theorem frz_row {s : St} {lo i z : Nat} {ys : List AV} (hlo : lo ≤ i) (hc : s.cell? i = some (rowC ys)) (ha : Aggs z ys) (hz : 1 < z) (hfr : ∀ k, ys.map (Ab.frz s lo k) = ys) : Ab.frz s lo 8 (.msl i 0 z ys.length) = .sl .any z (AV.untokL ys) := by
  have h1 : elemsA s (.msl i 0 z ys.length) = some ys := by
    simp only [elemsA, hc]
    rw [if_pos ⟨by rw [rowC_length ha]; omega, by omega⟩, List.drop_zero]
    have := chunk_rowC (by omega) [] ha
    rw [List.append_nil] at this
    rw [this]
  have h2 : Ab.frz s lo 8 (.msl i 0 z ys.length) = (if lo ≤ i then (match elemsA s (.msl i 0 z ys.length) with | some xs => .sl .any z (AV.untokL (xs.map (Ab.frz s lo 7))) | none => .msl i 0 z ys.length) else .msl i 0 z ys.length) := rfl
  rw [h2, if_pos hlo, h1]
  simp only [hfr]
/- what a function makes of the Kids of all terms of a list, as terms -/
theorem kid_mk {E : IEnv} {f : AV} {ts : List Tm} {xs : List AV} (h1 : Rts ts xs) (hf : ∀ t v, t ∈ ts → Sl t.kids v → ∃ r, Fn E f [v] r ∧ Sl t.kids r ∧ r.untok = r) :
    ∃ zs K, Rts ts zs ∧ AV.untokL zs = zs ∧ ∀ k, K ≤ k → ∀ (i : Nat) t, ts[i]? = some t → ∃ v r, xs[i]? = some (.agg [.int .i64 t.kind, .str t.text, v]) ∧ zs[i]? = some (.agg [.int .i64 t.kind, .str t.text, r]) ∧ ∀ s, callA E k none f [v] s = some (.ret r, false, s) := by
  induction ts generalizing xs with
  | nil => exact ⟨[], 0, by simp [Rts], rfl, fun _ _ i t h => by simp at h⟩
  | cons t ts ih =>
    simp only [Rts] at h1
    obtain ⟨y, ys, rfl, hy, hys⟩ := h1
    obtain ⟨zs, K, k1, k2, k3⟩ := ih hys fun t v ht => hf t v (List.mem_cons_of_mem _ ht)
    obtain ⟨v, rfl, hv⟩ := hy.open
    obtain ⟨r, ⟨K1, hr⟩, hr2, hr3⟩ := hf t v (List.mem_cons_self ..) hv
    refine ⟨.agg [.int .i64 t.kind, .str t.text, r] :: zs, K + K1, ?_, ?_, fun k hk i u hu => ?_⟩
    · simp only [Rts]
      refine ⟨_, _, rfl, ?_, k1⟩
      have := Rt.mk (k := t.kind) (s := t.text) hr2
      cases t; exact this
    · simp only [AV.untokL, AV.untok, hr3, k2]
    · cases i with
      | zero =>
        simp only [List.getElem?_cons_zero, Option.some.injEq] at hu
        subst hu
        exact ⟨v, r, rfl, rfl, hr k (by omega)⟩
      | succ i => exact k3 k (by omega) i u (by simpa using hu)
end Ab

/- What 'term.Copy' answers. No condition but the table. -/
namespace Ab.B
open Go Ab Go.RowKit
set_option maxRecDepth 10000
set_option linter.unusedSimpArgs false
set_option linter.unusedVariables false
section
variable {E : IEnv} (hE : E.fns = Table.fn table)
include hE
theorem call_Clone {ts : List Tm} {v : AV} (h : Sl ts v) (hn : ts.length ≤ most) (k : Nat) (s : St) : ∃ r s', callA E (k + 1) none (.fn n_slices_Clone___api_Term_api_Term__m [] []) [v] s = some (.ret r, false, s') ∧
    ((ts = [] ∧ (r = .sl .nil 3 [] ∧ v = .sl .nil 3 [] ∨ r = .sl .full 3 [] ∧ (∃ o, o ≠ .nil ∧ v = .sl o 3 [])) ∧ s' = s) ∨ (ts ≠ [] ∧ r = .msl s.bl.length 0 3 ts.length ∧ ∃ o xs, v = .sl o 3 xs ∧ s' = { s with bl := s.bl ++ [.cells (rowC (AV.untokL xs))] })) := by
  obtain ⟨o, xs, rfl, ⟨_, ho⟩, hR⟩ := h
  have hR' := Rts.untokL hR
  have hl := hR'.length
  have hl0 := hR.length
  have hmm : most = 1073741824 := rfl
  refine call_byW (h_slices_Clone___api_Term_api_Term__m hE) rfl ?_
  by_cases hon : o = .nil
  · subst hon
    have := ho rfl
    subst this
    have h0 : ts = [] := List.eq_nil_of_length_eq_zero (by simpa using hl0.symm)
    subst h0
    simp [F_slices_Clone___api_Term_api_Term__m, b_slices_Clone___api_Term_api_Term__m, aeq, finA, s0Of]
  · have ha : ∀ z, aeq .slice (.sl o 3 xs) (.sl .nil z []) = some false := by
      intro z; cases o <;> first | rfl | exact absurd rfl hon
    cases hx : AV.untokL xs with
    | nil =>
      have hx0 : xs = [] := by cases xs with | nil => rfl | cons _ _ => simp [AV.untokL] at hx
      subst hx0
      have h0 : ts = [] := List.eq_nil_of_length_eq_zero (by simpa using hl0.symm)
      subst h0
      simp [F_slices_Clone___api_Term_api_Term__m, b_slices_Clone___api_Term_api_Term__m, ha, setElems, repl, appmA, ysOf, finA, s0Of, hon]
    | cons y r =>
      have hcl := cellsL_rowC hR'.aggs
      have hne : ts ≠ [] := by rintro rfl; simp only [Rts] at hR'; rw [hR'] at hx; cases hx
      rw [hx] at hcl hl
      have hlen : (y :: r).length ≤ most := by omega
      have hlen2 : r.length + 1 = ts.length := by simpa using hl
      simp only [List.length_cons] at hlen
      simp [F_slices_Clone___api_Term_api_Term__m, b_slices_Clone___api_Term_api_Term__m, ha, setElems, repl, appmA, ysOf, hx, hn, hcl, finA, s0Of, hne, hlen2]
      exact ⟨o, xs, ⟨rfl, rfl⟩, by rw [hx]⟩

theorem fn_Copy : ∀ (n : Nat) {ts : List Tm} {v : AV}, nTs ts < n → nTs ts ≤ most → Sl ts v → ∃ r, Fn E (.fn n_term_Copy [] []) [v] r ∧ Sl ts r ∧ r.untok = r
  | 0, _, _, h, _, _ => by omega
  | n + 1, ts, v, hn, hm, hv => by
    have hv0 := hv
    obtain ⟨o1, xs, rfl, ⟨hm1, hnil⟩, h1⟩ := hv
    have hl1 := h1.length
    have hmx : maxLen = 9223372036854775807 := rfl
    have hmm : most = 1073741824 := rfl
    have hlt := length_le_nTs ts
    obtain ⟨zs, K, z1, z2, z3⟩ := kid_mk (E := E) (f := .fn n_term_Copy [] []) (Rts.untokL h1) fun t v ht hv => fn_Copy n (by have := nT_mem ht; rw [nT_eq] at this; omega) (by have := nT_mem ht; rw [nT_eq] at this; omega) hv
    have hzl := z1.length
    by_cases hts : ts = []
    · subst hts
      have hx0 : xs = [] := by simpa using hl1
      subst hx0
      have key : ∀ k s, 2 ≤ k → callA E k none (.fn n_term_Copy [] []) [.sl o1 3 []] s = some (.ret (if o1 = .nil then .sl .nil 3 [] else .sl .full 3 []), false, s) := by
        intro k s hk
        obtain ⟨k, rfl⟩ : ∃ j, k = j + 2 := ⟨k - 2, by omega⟩
        refine call_byP (E := E) (h_term_Copy hE) (first := []) (caps := []) (args := [AV.sl o1 3 []]) rfl (k := k + 1) (fun bl tk => ?_) s
        obtain ⟨r, s', hc, hor⟩ := call_Clone hE hv0 (by simp) k { bl, tk, ro := bl.length, rt := tk.length }
        rcases hor with ⟨_, hr, rfl⟩ | ⟨h, _⟩
        · rcases hr with ⟨rfl, he⟩ | ⟨rfl, o2, ho2, he⟩
          · cases he
            simp [F_term_Copy, b_term_Copy, s0Of, hc]
            refine wp_loop 0 (fun i e st => i = 0 ∧ e = [(3, .sl .nil 3 []), (8, .int .i64 0), (9, .int .i64 0)] ∧ st = { bl, tk, ro := bl.length, rt := tk.length }) (by omega) (by simp) (fun i e st hi _ => by omega) ?_
            rintro e st ⟨_, rfl, rfl⟩
            simp [l0_term_Copy, finV]
          · cases he
            simp [F_term_Copy, b_term_Copy, s0Of, hc]
            refine wp_loop 0 (fun i e st => i = 0 ∧ e = [(3, .sl .full 3 []), (8, .int .i64 0), (9, .int .i64 0)] ∧ st = { bl, tk, ro := bl.length, rt := tk.length }) (by omega) (by simp) (fun i e st hi _ => by omega) ?_
            rintro e st ⟨_, rfl, rfl⟩
            simp [l0_term_Copy, finV, ho2]
        · exact absurd rfl h
      refine ⟨_, ⟨2, fun k hk s => key k s hk⟩, ?_, ?_⟩
      · split
        · exact Sl.nil
        · exact ⟨_, _, rfl, ⟨by simp, fun h => by cases h⟩, by simp [Rts]⟩
      · split <;> rfl
    · refine ⟨.sl .any 3 zs, ⟨K + ts.length + 5, fun k hk s => ?_⟩, ⟨_, _, rfl, ⟨by rw [hzl]; omega, fun h => by cases h⟩, z1⟩, rfl⟩
      obtain ⟨k, rfl⟩ : ∃ j, k = j + 2 := ⟨k - 2, by omega⟩
      refine call_byP (E := E) (h_term_Copy hE) (first := []) (caps := []) (args := [AV.sl o1 3 xs]) rfl (k := k + 1) (fun bl tk => ?_) s
      obtain ⟨r, s', hc, hor⟩ := call_Clone hE hv0 (by omega) k { bl, tk, ro := bl.length, rt := tk.length }
      rcases hor with ⟨rfl, _⟩ | ⟨_, rfl, o2, xs2, e2, rfl⟩
      · exact absurd rfl hts
      cases e2
      have hul : (AV.untokL xs).length = ts.length := by simp [hl1]
      have hag := (Rts.untokL h1).aggs
      have hagz := z1.aggs
      simp [F_term_Copy, b_term_Copy, s0Of, hc]
      refine wp_loop ts.length (fun i e st => e = [(3, .msl bl.length 0 3 ts.length), (8, .int .i64 ts.length), (9, .int .i64 i)] ∧ st = { bl := bl ++ [.cells (rowC (zs.take i ++ (AV.untokL xs).drop i))], tk, ro := bl.length, rt := tk.length }) (by omega) (by simp) ?_ ?_
      · rintro i e st hi ⟨rfl, rfl⟩
        obtain ⟨t, ht⟩ : ∃ t, ts[i]? = some t := ⟨_, List.getElem?_eq_getElem hi⟩
        obtain ⟨v, r, hx, hz, hcall⟩ := z3 (k + 1) (by omega) i t ht
        obtain ⟨or, kr, rfl⟩ : ∃ o xs, r = .sl o 3 xs := by
          obtain ⟨y, hy, hry⟩ := z1.get ht
          rw [hz] at hy; cases hy
          obtain ⟨q, hq, hsl⟩ := hry.open
          cases hq
          obtain ⟨o, xs, h, _⟩ := hsl
          exact ⟨o, xs, h⟩
        obtain ⟨hxi, hx1⟩ := List.getElem?_eq_some_iff.1 hx
        obtain ⟨hzi, hz1⟩ := List.getElem?_eq_some_iff.1 hz
        have e1 : idx (.int .i64 i) ts.length = some i := idx_nat hi
        have hwr : IntKind.wrap .i64 ((i : Int) + 1) = i + 1 := wrapIn (by omega) (by omega)
        have htl : (zs.take i).length = i := by rw [List.length_take]; omega
        have hagt : Aggs 3 (zs.take i) := fun y hy => hagz y (List.mem_of_mem_take hy)
        obtain ⟨X, hX⟩ : ∃ X, X = rowC (zs.take i ++ (AV.untokL xs).drop i) := ⟨_, rfl⟩
        have hd : (AV.untokL xs).drop i = .agg [.int .i64 t.kind, .str t.text, v] :: (AV.untokL xs).drop (i + 1) := by rw [List.drop_eq_getElem_cons hxi, hx1]
        have hzt : zs.take (i + 1) = zs.take i ++ [.agg [.int .i64 t.kind, .str t.text, .sl or 3 kr]] := by rw [List.take_add_one, hz]; rfl
        have g1 : X[i * 3 + 2]? = some v := by
          rw [hX, hd]
          have := rowC_get (l := zs.take i) (r := (AV.untokL xs).drop (i + 1)) (cs := [.int .i64 t.kind, .str t.text, v]) hagt 2 (by simp)
          rw [htl] at this; exact this
        have g2 : X.take (i * 3 + 2) ++ .sl or 3 kr :: X.drop (i * 3 + 3) = rowC (zs.take (i + 1) ++ (AV.untokL xs).drop (i + 1)) := by
          rw [hX, hd, hzt, List.append_assoc]
          have := rowC_set (l := zs.take i) (r := (AV.untokL xs).drop (i + 1)) (cs := [.int .i64 t.kind, .str t.text, v]) hagt 2 (by simp) (.sl or 3 kr)
          rw [htl] at this
          exact this
        have g3 : X.length = ts.length * 3 := by
          rw [hX, rowC_length (z := 3)]
          · simp only [List.length_append, htl, List.length_drop, hul]; congr 1; omega
          · exact hagt.append fun y hy => hag y (List.mem_of_mem_drop hy)
        have g4 : i * 3 + 3 ≤ X.length := by omega
        rw [← hX]
        simp [l0_term_Copy, hi, e1, hwr, append_get, append_get0, append_set, append_set0, g1, g4, hcall, g2]
      · rintro e st ⟨rfl, rfl⟩
        have hf := frz_row (s := { bl := bl ++ [.cells (rowC zs)], tk, ro := bl.length, rt := tk.length }) (lo := bl.length) (i := bl.length) (z := 3) (ys := zs) (Nat.le_refl _) (by simp) hagz (by omega) (fun k => z1.frz _ _ _)
        rw [hzl] at hf
        have hdz := z1.data
        rw [List.take_of_length_le (by omega), List.drop_of_length_le (by omega), List.append_nil]
        simp [l0_term_Copy, finV, hf, z2, hdz]
end
end Ab.B

/- Small expressions as plain data. No condition. -/
namespace Ab
open Go Go.RowKit
mutual
def nodesL (d : Nat) (left n : Int) : List Tm → Int
  | [] => n
  | t :: ts => if n ≤ left then (if 150 < d then left + 1 else nodesL d left (n + (1 + nodesK (d + 1) (left - n - 1) t)) ts) else n
def nodesK (d : Nat) (left : Int) : Tm → Int
  | .mk _ _ kids => nodesL d left 0 kids
end
theorem nodesK_eq (d : Nat) (left : Int) (t : Tm) : nodesK d left t = nodesL d left 0 t.kids := by cases t; simp only [nodesK, Tm.kids]
mutual
theorem nodesL_bound (d : Nat) (left n : Int) : ∀ ts : List Tm, 0 ≤ n → n ≤ nodesL d left n ts ∧ nodesL d left n ts ≤ max n (left + 1)
  | [], h => by simp only [nodesL]; omega
  | t :: ts, h => by
    simp only [nodesL]
    split
    · split
      · omega
      · have h1 := nodesK_bound (d + 1) (left - n - 1) t
        have h2 := nodesL_bound d left (n + (1 + nodesK (d + 1) (left - n - 1) t)) ts (by omega)
        omega
    · omega
theorem nodesK_bound (d : Nat) (left : Int) : ∀ t : Tm, 0 ≤ nodesK d left t ∧ nodesK d left t ≤ max 0 (left + 1)
  | .mk _ _ kids => by
    have := nodesL_bound d left 0 kids (by omega)
    simp only [nodesK]; omega
end
mutual
theorem nodesL_exact (d : Nat) (left n : Int) : ∀ ts : List Tm, 0 ≤ n → nodesL d left n ts ≤ left → nodesL d left n ts = n + nTs ts
  | [], h, h' => by simp only [nodesL, nTs]; omega
  | t :: ts, h, h' => by
    simp only [nodesL] at h' ⊢
    split at h'
    · rename_i h1
      rw [if_pos h1]
      split at h'
      · omega
      · rename_i h2
        rw [if_neg h2]
        have h3 := nodesK_bound (d + 1) (left - n - 1) t
        have h4 := nodesL_bound d left (n + (1 + nodesK (d + 1) (left - n - 1) t)) ts (by omega)
        have h5 := nodesL_exact d left (n + (1 + nodesK (d + 1) (left - n - 1) t)) ts (by omega) h'
        have h6 := nodesK_exact (d + 1) (left - n - 1) t (by omega)
        simp only [nTs]
        omega
    · omega
theorem nodesK_exact (d : Nat) (left : Int) : ∀ t : Tm, nodesK d left t ≤ left → 1 + nodesK d left t = nT t
  | .mk _ _ kids, h => by
    simp only [nodesK] at h ⊢
    have := nodesL_exact d left 0 kids (by omega) h
    simp only [nT]; omega
end
mutual
def shortL : List Tm → Bool
  | [] => true
  | t :: ts => shortE t && shortL ts
def shortE : Tm → Bool
  | .mk _ s kids => decide (s.length ≤ 600) && shortL kids
end
theorem shortE_eq (t : Tm) : shortE t = (decide (t.text.length ≤ 600) && shortL t.kids) := by cases t; rw [shortE]; rfl
mutual
theorem shortL_pre : ∀ ts : List Tm, shortL ts = true → ∀ t ∈ preS ts, t.text.length ≤ 600
  | [], _, t, h => by simp [preS] at h
  | u :: ts, hs, t, h => by
    simp only [shortL, Bool.and_eq_true] at hs
    simp only [preS, List.mem_append] at h
    rcases h with h | h
    · exact shortE_pre u hs.1 t h
    · exact shortL_pre ts hs.2 t h
theorem shortE_pre : ∀ u : Tm, shortE u = true → ∀ t ∈ preT u, t.text.length ≤ 600
  | .mk k s kids, hs, t, h => by
    simp only [shortE, Bool.and_eq_true, decide_eq_true_eq] at hs
    simp only [preT, List.mem_cons] at h
    rcases h with rfl | h
    · exact hs.1
    · exact shortL_pre kids hs.2 t h
end
def smallT (ts : List Tm) (m : Int) : Bool := decide (nodesL 0 m 0 ts ≤ m) && shortL ts
theorem smallT_nodes {ts : List Tm} {m : Int} (h : smallT ts m = true) : (nTs ts : Int) ≤ m := by
  simp only [smallT, Bool.and_eq_true, decide_eq_true_eq] at h
  have := nodesL_exact 0 m 0 ts (by omega) h.1
  omega
theorem smallT_short {ts : List Tm} {m : Int} (h : smallT ts m = true) : ∀ t ∈ preS ts, t.text.length ≤ 600 := by
  simp only [smallT, Bool.and_eq_true] at h
  exact shortL_pre ts h.2
end Ab
