/- What 'strings.ContainsFunc', 'term.right' and 'term.depth' answer. No condition but the table. -/
import Derived.Test.YtengohlmonphiaaGreatDoorAb10
import Derived.Test.YtengohlmonphiaaGreatDoorAb09
import Derived.OpenShut
import Derived.Below
set_option linter.all false
namespace Ab.D
open Go Ab Go.RowKit
set_option maxRecDepth 10000
set_option linter.unusedSimpArgs false
set_option linter.unusedVariables false
section
variable {E : IEnv} (hE : E.fns = Table.fn table)
include hE
theorem fn_right_1 (c : Int) : FnK 1 E (.fn n_term_right_1 [] []) [.int .i32 c] (.bool (oddRune c)) :=
  FnK.byW (h_term_right_1 hE) rfl rfl (K := 0) fun k hk bl tk => by
    unfold oddRune
    by_cases c1 : c < 32
    · simp [F_term_right_1, b_term_right_1, c1]
    · simp [F_term_right_1, b_term_right_1, c1]

theorem fn_indexFunc (s : List UInt8) (f : AV) (p : Int → Bool) (want : Bool) {Kf : Nat} (hf : ∀ c, FnK Kf E f [.int .i32 c] (.bool (p c))) :
    FnK (Kf + s.length + 3) E (.fn n_strings_indexFunc [] []) [.str s, f, .bool want] (.int .i64 (runeIx s p want (s.length + 1) 0)) :=
  FnK.byW (h_strings_indexFunc hE) rfl rfl (K := Kf + s.length + 2) fun k hk bl tk => by
    obtain ⟨Q, hQ⟩ : ∃ Q, Q = runeIx s p want (s.length + 1) 0 := ⟨_, rfl⟩
    rw [← hQ]
    simp [F_strings_indexFunc, b_strings_indexFunc]
    refine wp_loop s.length (fun i e st => ∃ pos, i ≤ pos ∧ Q = runeIx s p want (s.length + 1 - i) pos ∧ e = [(1, f), (2, .bool want), (10, .ptr bl.length 0)] ∧ st = { bl := bl ++ [.siter s pos], tk, ro := bl.length, rt := tk.length }) (by omega) ⟨0, by simp [hQ]⟩ ?_ ?_
    · rintro i e st hi ⟨pos, hp, hq, rfl, rfl⟩
      rw [show s.length + 1 - i = s.length - i + 1 by omega] at hq
      unfold runeIx at hq
      by_cases c1 : pos < s.length
      · rw [if_pos c1] at hq
        have h1 := hf ((Go.Utf8.decode ⟨s.toArray⟩ pos).1 : Nat) k (by omega)
        have hw := decode_pos ⟨s.toArray⟩ pos
        cases c2 : p ((Go.Utf8.decode ⟨s.toArray⟩ pos).1 : Nat) == want with
        | true =>
          rw [c2] at hq
          simp only [if_true] at hq
          simp [l0_strings_indexFunc, aeq, c1, h1, c2, hq]
        | false =>
          rw [c2] at hq
          simp only [Bool.false_eq_true, if_false] at hq
          simp [l0_strings_indexFunc, aeq, c1, h1, c2]
          exact ⟨by omega, hq⟩
      · rw [if_neg c1] at hq
        simp [l0_strings_indexFunc, aeq, c1, hq]
    · rintro e st ⟨pos, hp, hq, rfl, rfl⟩
      rw [show s.length + 1 - s.length = 0 + 1 by omega] at hq
      unfold runeIx at hq
      have c1 : ¬ pos < s.length := by omega
      rw [if_neg c1] at hq
      simp [l0_strings_indexFunc, aeq, c1, hq]

theorem fn_ContainsOdd (s : List UInt8) : FnK (s.length + 6) E (.fn n_strings_ContainsFunc [] []) [.str s, .fn n_term_right_1 [] []] (.bool (decide (0 ≤ runeIx s oddRune true (s.length + 1) 0))) := by
  have h1 := fn_indexFunc hE s (.fn n_term_right_1 [] []) oddRune true (fn_right_1 hE)
  have h2 : FnK (s.length + 5) E (.fn n_strings_IndexFunc [] []) [.str s, .fn n_term_right_1 [] []] (.int .i64 (runeIx s oddRune true (s.length + 1) 0)) :=
    FnK.byW (h_strings_IndexFunc hE) rfl rfl (K := s.length + 4) fun k hk bl tk => by simp [F_strings_IndexFunc, b_strings_IndexFunc, h1 k (by omega)]
  exact FnK.byW (h_strings_ContainsFunc hE) rfl rfl (K := s.length + 5) fun k hk bl tk => by simp [F_strings_ContainsFunc, b_strings_ContainsFunc, h2 k (by omega)]

set_option maxHeartbeats 1600000 in
theorem fn_right {t : Tm} {x : AV} (h : Rt t x) (hs : t.text.length ≤ maxLen) : FnK (t.text.length + 9) E (.fn n_term_right [] []) [x] (.bool (rightT t)) := by
  obtain ⟨v, rfl, hv⟩ := h.open
  obtain ⟨o, ks, rfl, hlk⟩ := hv.len
  refine FnK.byW (h_term_right hE) rfl rfl (K := t.text.length + 8) fun k hk bl tk => ?_
  unfold rightT
  by_cases c4 : t.kind = 4
  · simp [F_term_right, b_term_right, c4]
  have b4 : (t.kind == 4) = false := by simpa using c4
  by_cases c8 : t.kind = 8
  · have h1 := fn_identifier hE t.text hs 40 k (by omega)
    simp [F_term_right, b_term_right, c8, h1]
  have b8 : (t.kind == 8) = false := by simpa using c8
  by_cases ck : 0 < t.kids.length
  · have ck' : ¬ ks = [] := by rintro rfl; simp at hlk; omega
    have ck2 : (0 : Int) < (ks.length : Int) := by omega
    simp [F_term_right, b_term_right, c4, c8, b4, b8, ck, ck', ck2, hlk]
  have ck' : ks = [] := by cases ks with | nil => rfl | cons a l => simp at hlk; omega
  subst ck'
  rw [if_neg c4, if_neg c8, if_neg ck]
  by_cases c1 : t.kind = 1
  · have : (((t.text.length : Nat) : Int) == 1) = (t.text.length == 1) := by rw [Bool.eq_iff_iff]; simp; omega
    simp [F_term_right, b_term_right, c1, this]
  have b1 : (t.kind == 1) = false := by simpa using c1
  by_cases c2 : t.kind = 2
  · have h1 := fn_ContainsOdd hE t.text k (by omega)
    unfold wordT
    by_cases e1 : t.text = []
    · simp [F_term_right, b_term_right, c2, e1]
    · have e1' : t.text.isEmpty = false := by simpa using e1
      by_cases e2 : t.text.length ≤ 60
      · have e2' : (t.text.length : Int) ≤ 60 := by omega
        simp [F_term_right, b_term_right, c2, e1, e1', e2, e2', h1]
      · have e2' : ¬ (t.text.length : Int) ≤ 60 := by omega
        simp [F_term_right, b_term_right, c2, e1, e1', e2, e2']
  have b2 : (t.kind == 2) = false := by simpa using c2
  by_cases c3 : t.kind = 3
  · have h1 := fn_isNumber hE t.text hs k (by omega)
    simp [F_term_right, b_term_right, c3, h1]
  have b3 : (t.kind == 3) = false := by simpa using c3
  rw [if_neg c1, if_neg c2, if_neg c3]
  have h1 := fn_every hE t.text hs 3 k (by omega)
  by_cases e1 : t.text = []
  · rcases Decidable.em (t.kind = 5 ∨ t.kind = 6 ∨ t.kind = 7) with hk5 | hk5
    · rcases hk5 with c5 | c5 | c5 <;> simp [F_term_right, b_term_right, c5, e1]
    · have b5 : (t.kind == 5) = false := by simp; omega
      have b6 : (t.kind == 6) = false := by simp; omega
      have b7 : (t.kind == 7) = false := by simp; omega
      simp [F_term_right, b_term_right, b4, b8, b1, b2, b3, b5, b6, b7, hk5]
  · have e1' : t.text.isEmpty = false := by simpa using e1
    rcases Decidable.em (t.kind = 5 ∨ t.kind = 6 ∨ t.kind = 7) with hk5 | hk5
    · by_cases e2 : t.text.length ≤ 40
      · have e2' : (t.text.length : Int) ≤ 40 := by omega
        rcases hk5 with c5 | c5 | c5 <;> simp [F_term_right, b_term_right, c5, e1, e1', e2, e2', h1]
      · have e2' : ¬ (t.text.length : Int) ≤ 40 := by omega
        rcases hk5 with c5 | c5 | c5 <;> simp [F_term_right, b_term_right, c5, e1, e1', e2, e2']
    · have b5 : (t.kind == 5) = false := by simp; omega
      have b6 : (t.kind == 6) = false := by simp; omega
      have b7 : (t.kind == 7) = false := by simp; omega
      simp [F_term_right, b_term_right, b4, b8, b1, b2, b3, b5, b6, b7, hk5]
end
end Ab.D

/- What 'term.depth' answers. No condition but the table. -/
namespace Ab.D
open Go Ab Go.RowKit
set_option maxRecDepth 10000
set_option linter.unusedSimpArgs false
set_option linter.unusedVariables false
theorem max_nat (a b : Nat) : (if a < b then (b : Int) else (a : Int)) = ((max a b : Nat) : Int) := by split <;> omega
section
variable {E : IEnv} (hE : E.fns = Table.fn table)
include hE
theorem fn_depth : ∀ (n : Nat) {ts : List Tm} {v : AV}, nTs ts < n → nTs ts ≤ most → Sl ts v → Fn E (.fn n_term_depth [] []) [v] (.int .i64 (dpS ts))
  | 0, _, _, h, _, _ => by omega
  | n + 1, ts, v, hn, hm, hv => by
    obtain ⟨o1, xs, rfl, ⟨hm1, _⟩, h1⟩ := hv
    have hl1 := h1.length
    have hmx : maxLen = 9223372036854775807 := rfl
    have hmm : most = 1073741824 := rfl
    obtain ⟨K, hK⟩ := kid_all (E := E) (f := .fn n_term_depth [] []) (more := []) (c := fun t => .int .i64 (dpS t.kids)) h1 fun t v ht hv => fn_depth n (by have := nT_mem ht; rw [nT_eq] at this; omega) (by have := nT_mem ht; rw [nT_eq] at this; omega) hv
    refine Fn.byW (h_term_depth hE) rfl rfl ⟨K + ts.length + 10, fun k hk bl tk => ?_⟩
    simp [F_term_depth, b_term_depth]
    refine wp_loop xs.length (fun i e s => ∃ b, bl.length ≤ b.length ∧ e = [(3, .int .i64 (dpS (ts.take i))), (6, .sl o1 3 xs), (7, .int .i64 xs.length), (8, .int .i64 i)] ∧ s = { bl := b, tk, ro := bl.length, rt := tk.length }) (by omega) (by simp [dpS]) ?_ ?_
    · rintro i e s hi ⟨b, hb, rfl, rfl⟩
      obtain ⟨t, ht⟩ : ∃ t, ts[i]? = some t := ⟨_, List.getElem?_eq_getElem (by omega)⟩
      obtain ⟨vx, hx, hvx, hc⟩ := hK k (by omega) i t ht
      obtain ⟨o2, ks, rfl, hlk⟩ := hvx.len
      obtain ⟨hi1, hx1⟩ := List.getElem?_eq_some_iff.1 hx
      have e1 : idx (.int .i64 i) xs.length = some i := idx_nat hi1
      have hwr : IntKind.wrap .i64 ((i : Int) + 1) = i + 1 := wrapIn (by omega) (by omega)
      have htk : dpS (ts.take (i + 1)) = max (dpS (ts.take i)) (dpE t) := by rw [List.take_add_one, ht, dpS_append]; simp [dpS]
      have hle := nT_mem (List.mem_of_getElem? ht)
      have hle2 := dpS_le t.kids
      rw [nT_eq] at hle
      have hw2 : IntKind.wrap .i64 (1 + (dpS t.kids : Int)) = 1 + dpS t.kids := wrapIn (by omega) (by omega)
      have hmaxn : (if (dpS (ts.take i) : Int) < 1 + (dpS t.kids : Int) then (1 + (dpS t.kids : Int)) else (dpS (ts.take i) : Int)) = ((max (dpS (ts.take i)) (1 + dpS t.kids) : Nat) : Int) := by split <;> omega
      have hb1 : bl.length ≤ b.length + 1 := by omega
      rw [htk, dpE_eq]
      by_cases c4 : t.kind = 4
      · rw [if_pos (.inl c4)]
        simp [l0_term_depth, hi, e1, hx1, hwr, hb, hb1, c4, hc, hw2, mmAll, mmA, hmaxn]
      have b4 : (t.kind == 4) = false := by simpa using c4
      by_cases c8 : t.kind = 8
      · rw [if_pos (.inr (.inl c8))]
        simp [l0_term_depth, hi, e1, hx1, hwr, hb, hb1, c8, hc, hw2, mmAll, mmA, hmaxn]
      have b8 : (t.kind == 8) = false := by simpa using c8
      by_cases ck : 0 < t.kids.length
      · rw [if_pos (.inr (.inr ck))]
        have ck' : ¬ ks = [] := by rintro rfl; simp at hlk; omega
        simp [l0_term_depth, hi, e1, hx1, hwr, hb, hb1, b4, b8, ck', hc, hw2, mmAll, mmA, hmaxn]
      · rw [if_neg (by rintro (h | h | h) <;> omega)]
        have ck' : ks = [] := by cases ks with | nil => rfl | cons a l => simp at hlk; omega
        simp [l0_term_depth, hi, e1, hx1, hwr, hb, hb1, b4, b8, ck', hc]
    · rintro e s ⟨b, hb, rfl, rfl⟩
      rw [List.take_of_length_le (by omega)]
      simp [l0_term_depth]
end
end Ab.D

/- What the iterator of 'term.all' does. No condition but the table. -/
namespace Ab.D
open Go Ab Go.RowKit
set_option maxRecDepth 10000
set_option linter.unusedSimpArgs false
set_option linter.unusedVariables false
section
variable {E : IEnv} (hE : E.fns = Table.fn table)
include hE
theorem call_all {v : AV} (hv : ∃ o xs, v = .sl o 3 xs) : ∀ k, 1 ≤ k → ∀ s, callA E k none (.fn n_term_all [] []) [v] s = some (.ret (.fn n_term_all_1 [] [.ptr s.bl.length 0]), false, { s with bl := s.bl ++ [.cells [v]] }) := by
  intro k hk s
  obtain ⟨o, xs, rfl⟩ := hv
  obtain ⟨j, rfl⟩ : ∃ j, k = j + 1 := ⟨k - 1, by omega⟩
  have key := call_byW (h_term_all hE) (first := []) (caps := []) (args := [.sl o 3 xs]) rfl (k := j) (s := s) (Post := fun v s' => v = .fn n_term_all_1 [] [.ptr s.bl.length 0] ∧ s' = { s with bl := s.bl ++ [.cells [.sl o 3 xs]] }) (by
    simp [F_term_all, b_term_all, s0Of, finA])
  obtain ⟨v, s', h, rfl, rfl⟩ := key
  exact h

abbrev goFn (c : Nat) : AV := .fn n_term_all_1_1 [] [.ptr (c + 1) 0, .ptr (c + 2) 0]

section
variable {α : Type} (B : α → List AB) (c : Nat) (hB : ∀ a, (B a).length = c) (tk : List Nat) (ro rt : Nat) (hro : ro ≤ c) (L : AB) (y : α → Tm → Option α) (D : St → Prop) (k0 : Nat) (W : Tm → Prop)
  (hD : ∀ s, D s → s.ro = ro ∧ s.rt = rt)
  (hy : ∀ a g t x k, W t → Rt t x → k0 ≤ k → ∃ b s', callA E k none (.yield c) [x] ⟨B a ++ L :: g, tk, ro, rt⟩ = some (.ret (.bool b), false, s') ∧
    (match y a t with | some a' => b = true ∧ ∃ g', s' = ⟨B a' ++ L :: (g ++ g'), tk, ro, rt⟩ | none => b = false ∧ D s'))
include hB hro hD hy

theorem call_go : ∀ (n : Nat) {ts : List Tm} {v : AV} (a : α) (g : List AB) (k : Nat), nTs ts < n → nTs ts < most → (∀ t ∈ preS ts, W t) → Sl ts v → 2 * nTs ts + k0 + 3 ≤ k →
    ∃ b s', callA E k none (goFn c) [v] ⟨B a ++ L :: .cells [.yield c] :: .cells [goFn c] :: g, tk, ro, rt⟩ = some (.ret (.bool b), false, s') ∧
      (match foldO y a (preS ts) with | some a' => b = true ∧ ∃ g', s' = ⟨B a' ++ L :: .cells [.yield c] :: .cells [goFn c] :: g', tk, ro, rt⟩ | none => b = false ∧ D s')
  | 0, _, _, _, _, _, h, _, _, _, _ => by omega
  | n + 1, ts, v, a, g, k, hn, hm, hW, hv, hk => by
    obtain ⟨o, xs, rfl, _, hR⟩ := hv
    have hmx : maxLen = 9223372036854775807 := rfl
    have hmm : most = 1073741824 := rfl
    have hl := hR.length
    have hlt := length_le_nTs ts
    have gj : ∀ a r j, (B a ++ r)[c + j]? = r[j]? := fun a r j => by rw [← hB a]; exact append_get _ _ _
    have g0 : ∀ a r, (B a ++ r)[c]? = r[0]? := fun a r => by rw [← hB a]; exact append_get0 _ _
    have sj : ∀ a r j x, (B a ++ r).set (c + j) x = B a ++ r.set j x := fun a r j x => by rw [← hB a]; exact append_set _ _ _ _
    have hro' : ∀ j, ro ≤ c + j := fun j => by omega
    obtain ⟨k, rfl⟩ : ∃ j, k = j + 1 := ⟨k - 1, by omega⟩
    have key := call_byW (h_term_all_1_1 hE) (first := []) (caps := [.ptr (c + 1) 0, .ptr (c + 2) 0]) (args := [.sl o 3 xs]) rfl (k := k) (s := ⟨B a ++ L :: .cells [.yield c] :: .cells [goFn c] :: g, tk, ro, rt⟩)
      (Post := fun v s' => ∃ b, v = .bool b ∧ (match foldO y a (preS ts) with | some a' => b = true ∧ ∃ g', s' = ⟨B a' ++ L :: .cells [.yield c] :: .cells [goFn c] :: g', tk, ro, rt⟩ | none => b = false ∧ D s')) (by
      simp only [F_term_all_1_1, b_term_all_1_1, s0Of]
      simp
      refine wp_loop xs.length (fun i e s => ∃ a' g', foldO y a (preS ts) = foldO y a' (preS (ts.drop i)) ∧ e = [(1, .ptr (c + 1) 0), (2, .ptr (c + 2) 0), (7, .sl o 3 xs), (8, .int .i64 xs.length), (9, .int .i64 i)] ∧
        s = ⟨B a' ++ L :: .cells [.yield c] :: .cells [goFn c] :: g', tk, ro, rt⟩) (by omega) ⟨a, g, by simp⟩ ?_ ?_
      · rintro i e s hi ⟨a', g', hq, rfl, rfl⟩
        obtain ⟨t, ht⟩ : ∃ t, ts[i]? = some t := ⟨_, List.getElem?_eq_getElem (by omega)⟩
        obtain ⟨x, hx, hrx⟩ := hR.get ht
        obtain ⟨kx, rfl, hkx⟩ := hrx.open
        obtain ⟨hi1, hx1⟩ := List.getElem?_eq_some_iff.1 hx
        have e1 : idx (.int .i64 i) xs.length = some i := idx_nat hi
        have hwr : IntKind.wrap .i64 ((i : Int) + 1) = i + 1 := wrapIn (by omega) (by omega)
        have hmt := List.mem_of_getElem? ht
        have hle := nT_mem hmt
        rw [nT_eq] at hle
        have hpre : ∀ u ∈ t :: preS t.kids, u ∈ preS ts := by
          intro u hu
          obtain ⟨l, r, rfl⟩ := List.append_of_mem hmt
          rw [preS_append, preS_cons]
          simp only [List.mem_append, List.mem_cons]
          rcases List.mem_cons.1 hu with rfl | hu
          · exact .inr (.inl rfl)
          · exact .inr (.inr (.inl hu))
        obtain ⟨hti, ht1⟩ := List.getElem?_eq_some_iff.1 ht
        rw [List.drop_eq_getElem_cons hti, ht1, preS_cons, foldO] at hq
        obtain ⟨b, s', hcall, hpost⟩ := hy a' (.cells [.yield c] :: .cells [goFn c] :: (g' ++ [.cells [.int .i64 t.kind, .str t.text, kx]])) t _ k (hW t (hpre t (List.mem_cons_self ..))) hrx (by omega)
        cases hyt : y a' t with
        | none =>
          rw [hyt] at hpost hq
          obtain ⟨rfl, hd⟩ := hpost
          simp only at hq
          rw [hq]
          obtain ⟨r1, r2⟩ := hD s' hd
          have hbk : ({ s' with ro := ro, rt := rt } : St) = s' := by rw [← r1, ← r2]
          simp [l0_term_all_1_1, hB, hi, e1, hi1, hx1, hwr, gj, g0, sj, hro', hcall, finA, hbk, hd]
        | some a2 =>
          rw [hyt] at hpost hq
          obtain ⟨rfl, g2, rfl⟩ := hpost
          simp only [foldO_append] at hq
          obtain ⟨b3, s3, hcall3, hpost3⟩ := call_go n a2 ((g' ++ [.cells [.int .i64 t.kind, .str t.text, kx]]) ++ g2) k (by omega) (by omega) (fun u hu => hW u (hpre u (List.mem_cons_of_mem _ hu))) hkx (by omega)
          simp only [List.cons_append, List.append_assoc, List.nil_append] at hcall hcall3
          cases hf : foldO y a2 (preS t.kids) with
          | none =>
            rw [hf] at hpost3 hq
            obtain ⟨rfl, hd⟩ := hpost3
            simp only at hq
            rw [hq]
            obtain ⟨r1, r2⟩ := hD s3 hd
            have hbk : ({ s3 with ro := ro, rt := rt } : St) = s3 := by rw [← r1, ← r2]
            simp [l0_term_all_1_1, hB, hi, e1, hi1, hx1, hwr, gj, g0, sj, hro', hcall, hcall3, finA, hbk, hd]
          | some a4 =>
            rw [hf] at hpost3 hq
            obtain ⟨rfl, g3, rfl⟩ := hpost3
            simp only at hq
            simp [l0_term_all_1_1, hB, hi, e1, hi1, hx1, hwr, gj, g0, sj, hro', hcall, hcall3]
            exact ⟨a4, hq, g3, rfl⟩
      · rintro e s ⟨a', g', hq, rfl, rfl⟩
        rw [List.drop_of_length_le (by omega)] at hq
        simp only [preS, foldO] at hq
        rw [hq]
        simp [l0_term_all_1_1, finA])
    obtain ⟨v, s', hc, b, rfl, hpost⟩ := key
    exact ⟨b, s', hc, hpost⟩

theorem call_all_1 {ts : List Tm} {v : AV} (a : α) (k cl : Nat) (hcl : ∀ a r, (B a ++ r)[cl]? = some (.cells [v])) (hm : nTs ts < most) (hW : ∀ t ∈ preS ts, W t) (hv : Sl ts v) (hk : 2 * nTs ts + k0 + 4 ≤ k) :
    ∃ v s', callA E k none (.fn n_term_all_1 [] [.ptr cl 0]) [.yield c] ⟨B a ++ [L], tk, ro, rt⟩ = some (.ret v, false, s') ∧
      (match foldO y a (preS ts) with | some a' => ∃ g', s' = ⟨B a' ++ L :: g', tk, ro, rt⟩ | none => D s') := by
  obtain ⟨k, rfl⟩ : ∃ j, k = j + 1 := ⟨k - 1, by omega⟩
  have gj : ∀ a r j, (B a ++ r)[c + j]? = r[j]? := fun a r j => by rw [← hB a]; exact append_get _ _ _
  have g0 : ∀ a r, (B a ++ r)[c]? = r[0]? := fun a r => by rw [← hB a]; exact append_get0 _ _
  have sj : ∀ a r j x, (B a ++ r).set (c + j) x = B a ++ r.set j x := fun a r j x => by rw [← hB a]; exact append_set _ _ _ _
  have hro' : ∀ j, ro ≤ c + j := fun j => by omega
  obtain ⟨b, s', hcall, hpost⟩ := call_go hE B c hB tk ro rt hro L y D k0 W hD hy (nTs ts + 1) a [] k (by omega) hm hW hv (by omega)
  have key := call_byW (h_term_all_1 hE) (first := []) (caps := [.ptr cl 0]) (args := [.yield c]) rfl (k := k) (s := ⟨B a ++ [L], tk, ro, rt⟩)
    (Post := fun v s' => match foldO y a (preS ts) with | some a' => ∃ g', s' = ⟨B a' ++ L :: g', tk, ro, rt⟩ | none => D s') (by
      simp only [F_term_all_1, b_term_all_1, s0Of]
      cases hf : foldO y a (preS ts) with
      | none =>
        rw [hf] at hpost
        obtain ⟨rfl, hd⟩ := hpost
        obtain ⟨r1, r2⟩ := hD s' hd
        have hbk : ({ s' with ro := ro, rt := rt } : St) = s' := by rw [← r1, ← r2]
        simp [hB, gj, g0, sj, hro', hcl, hcall, finA, hbk, hd]
      | some a' =>
        rw [hf] at hpost
        obtain ⟨rfl, g', rfl⟩ := hpost
        simp [hB, gj, g0, sj, hro', hcl, hcall, finA])
  exact key
end
end
end Ab.D

/- What 'term.check' answers. No condition but the table. -/
namespace Ab.D
open Go Ab Go.RowKit
set_option maxRecDepth 10000
set_option linter.unusedSimpArgs false
set_option linter.unusedVariables false

abbrev Cnt := { a : Nat // a ≤ 4000 }
def countY (a : Cnt) (_ : Tm) : Option Cnt := if h : a.1 + 1 ≤ 4000 then some ⟨a.1 + 1, h⟩ else none
theorem countY_none : ∀ (l : List Tm) (a : Cnt), 4000 < a.1 + l.length → foldO countY a l = none
  | [], a, h => by have := a.2; simp at h; omega
  | t :: l, a, h => by
    simp only [foldO, countY]
    by_cases h1 : a.1 + 1 ≤ 4000
    · simp only [h1, dif_pos]; exact countY_none l _ (by simp at h ⊢; omega)
    · simp only [h1, dif_neg, not_false_eq_true]
theorem countY_some : ∀ (l : List Tm) (a : Cnt) (h : a.1 + l.length ≤ 4000), foldO countY a l = some ⟨a.1 + l.length, h⟩
  | [], a, h => rfl
  | t :: l, a, h => by
    have h1 : a.1 + 1 ≤ 4000 := by simp at h; omega
    simp only [foldO, countY, h1, dif_pos]
    rw [countY_some l ⟨a.1 + 1, h1⟩ (by simp at h ⊢; omega)]
    simp only [List.length_cons]; congr 2; omega
def rightY (kind : Int) (_ : Unit) (t : Tm) : Option Unit := if decide (t.kind ≤ kind) && rightT t then some () else none
theorem rightY_some (kind : Int) : ∀ l : List Tm, l.all (fun t => decide (t.kind ≤ kind) && rightT t) = true → foldO (rightY kind) () l = some ()
  | [], _ => rfl
  | t :: l, h => by
    rw [List.all_cons, Bool.and_eq_true] at h
    simp only [foldO, rightY, h.1, if_true]
    exact rightY_some kind l h.2
theorem rightY_none (kind : Int) : ∀ l : List Tm, l.all (fun t => decide (t.kind ≤ kind) && rightT t) = false → foldO (rightY kind) () l = none
  | [], h => by cases h
  | t :: l, h => by
    rw [List.all_cons, Bool.and_eq_false_iff] at h
    by_cases h1 : (decide (t.kind ≤ kind) && rightT t) = true
    · simp only [foldO, rightY, h1, if_true]
      rcases h with h | h
      · rw [h] at h1; cases h1
      · exact rightY_none kind l h
    · simp only [foldO, rightY]; rw [if_neg h1]
def checkT (kind : Int) (ts : List Tm) : Int := if 4000 < nTs ts then 5 else if 100 < dpS ts then 6 else if (preS ts).all (fun t => decide (t.kind ≤ kind) && rightT t) then 0 else 2

section
variable {E : IEnv} (hE : E.fns = Table.fn table)
include hE
theorem check_count {ts : List Tm} {v : AV} (hv : Sl ts v) (hm : nTs ts < most) {k : Nat} (hk : 2 * nTs ts + 10 ≤ k) {bl : List AB} {tk : List Nat} {C3 : AB} {Q : Pst} {e : Env} (e4 : e.get 4 = .ptr (bl.length + 1) 0) (e5 : e.get 5 = .ptr (bl.length + 2) 0)
    (e8 : e.get 8 = .fn n_term_all_1 [] [.ptr (bl.length + 3) 0])
    (q1 : nTs ts ≤ 4000 → ∀ L r, Q .normal e { bl := bl ++ (C3 :: .cells [.int .i64 0] :: .cells [.int .i64 (nTs ts)] :: .cells [v] :: L :: r), tk, ro := bl.length, rt := tk.length })
    (q2 : 4000 < nTs ts → ∀ C L r, Q .ret e { bl := bl ++ (C3 :: .cells [.int .i64 5] :: C :: .cells [v] :: L :: r), tk, ro := bl.length, rt := tk.length }) :
    wp E (callA E k) k false (.rangeFn (.t 8) [9] .skip l0_term_check) Q e { bl := bl ++ [C3, .cells [.int .i64 0], .cells [.int .i64 0], .cells [v]], tk, ro := bl.length, rt := tk.length } := by
  have hmx : maxLen = 9223372036854775807 := rfl
  have hmm : most = 1073741824 := rfl
  let L0 : ALoop := { st := .ready, pend := none, env := e, ps := [9], assign := .skip, body := l0_term_check }
  let B : Cnt → List AB := fun a => bl ++ [C3, .cells [.int .i64 0], .cells [.int .i64 a.1], .cells [v]]
  refine wp_range ?_
  have key := call_all_1 hE B (bl.length + 4) (fun a => by simp [B]) tk bl.length tk.length (by omega) (.loop L0) countY
    (fun s => ∃ C r, s = { bl := bl ++ (C3 :: .cells [.int .i64 5] :: C :: .cells [v] :: .loop { L0 with st := .done, pend := some .ret } :: r), tk, ro := bl.length, rt := tk.length }) 2 (fun _ => True)
    (by rintro s ⟨C, r, rfl⟩; exact ⟨rfl, rfl⟩)
    (by
      intro a g t x k _ hx hk
      obtain ⟨k, rfl⟩ : ∃ j, k = j + 1 := ⟨k - 1, by omega⟩
      refine call_round (L := L0) (by simp [B, append_get]) rfl rfl (by simp) ?_
      obtain ⟨a, ha⟩ := a
      have hw : IntKind.wrap .i64 ((a : Int) + 1) = a + 1 := wrapIn (by omega) (by omega)
      by_cases h : a + 1 ≤ 4000
      · have h3 : ¬ (4000 : Int) < (a : Int) + 1 := by omega
        simp [L0, B, countY, h, l0_term_check, putAll, Env.get_put, e4, e5, append_get, append_get0, append_set, append_set0, hw, h3]
      · have h3 : (4000 : Int) < (a : Int) + 1 := by omega
        simp [L0, B, countY, h, l0_term_check, putAll, Env.get_put, e4, e5, append_get, append_get0, append_set, append_set0, hw, h3])
    ⟨0, by omega⟩ k (bl.length + 3) (fun a r => by simp [B, append_get]) hm (fun _ _ => trivial) hv (by omega)
  obtain ⟨v', s', hcl, hor⟩ := key
  refine ⟨v', false, s', ?_, ?_⟩
  · simp only [Opd.ev, e8]
    rw [← hcl]
    simp [B, L0, St.push]
  · by_cases h : 4000 < nTs ts
    · rw [countY_none _ _ (by rw [preS_length]; simpa using h)] at hor
      obtain ⟨C, r, rfl⟩ := hor
      refine ⟨{ L0 with st := .done, pend := some .ret }, by simp [append_get], .inr (.inr ⟨rfl, rfl, ?_⟩)⟩
      simpa [append_set, append_set0] using q2 h _ _ r
    · rw [countY_some _ _ (by rw [preS_length]; simp; omega)] at hor
      obtain ⟨r, rfl⟩ := hor
      refine ⟨L0, by simp [B, append_get], .inl ⟨rfl, rfl, ?_⟩⟩
      simpa [B, append_set, append_set0, preS_length] using q1 (by omega) _ r

theorem check_right {ts : List Tm} {v : AV} (hv : Sl ts v) (hm : nTs ts < most) {M : Nat} (hM : M ≤ maxLen) (hW : ∀ t ∈ preS ts, t.text.length ≤ M) (kind : Int) {k : Nat} (hk : 2 * nTs ts + M + 20 ≤ k) {bl r : List AB} {tk : List Nat} {C5 CB Lx : AB} {Q : Pst} {e : Env}
    (e3 : e.get 3 = .ptr bl.length 0) (e4 : e.get 4 = .ptr (bl.length + 1) 0) (e18 : e.get 18 = .fn n_term_all_1 [] [.ptr (bl.length + (r.length + 5)) 0])
    (q1 : (preS ts).all (fun t => decide (t.kind ≤ kind) && rightT t) = true → ∀ g, Q .normal e { bl := bl ++ (.cells [.int .i64 kind] :: .cells [.int .i64 0] :: g), tk, ro := bl.length, rt := tk.length })
    (q2 : (preS ts).all (fun t => decide (t.kind ≤ kind) && rightT t) = false → ∀ g, Q .ret e { bl := bl ++ (.cells [.int .i64 kind] :: .cells [.int .i64 2] :: g), tk, ro := bl.length, rt := tk.length }) :
    wp E (callA E k) k false (.rangeFn (.t 18) [19] (.region [⟨(some 6), .alloc [.int .i64 0, .str [], .sl .nil 3 []], none, [], false⟩, ⟨none, .store 3 (.t 6) (.t 19), none, [], false⟩] [6] false) l1_term_check) Q e
      { bl := bl ++ (.cells [.int .i64 kind] :: .cells [.int .i64 0] :: C5 :: CB :: Lx :: (r ++ [.cells [v]])), tk, ro := bl.length, rt := tk.length } := by
  have hmx : maxLen = 9223372036854775807 := rfl
  have hmm : most = 1073741824 := rfl
  let L0 : ALoop := { st := .ready, pend := none, env := e, ps := [19], assign := (.region [⟨(some 6), .alloc [.int .i64 0, .str [], .sl .nil 3 []], none, [], false⟩, ⟨none, .store 3 (.t 6) (.t 19), none, [], false⟩] [6] false), body := l1_term_check }
  let B : Unit → List AB := fun _ => bl ++ (.cells [.int .i64 kind] :: .cells [.int .i64 0] :: C5 :: CB :: Lx :: (r ++ [.cells [v]]))
  have hlen : (bl ++ (.cells [.int .i64 kind] :: .cells [.int .i64 0] :: C5 :: CB :: Lx :: (r ++ [.cells [v]]))).length = bl.length + (r.length + 6) := by simp
  refine wp_range ?_
  have key := call_all_1 hE B (bl.length + (r.length + 6)) (fun a => hlen) tk bl.length tk.length (by omega) (.loop L0) (rightY kind)
    (fun s => ∃ g, s = { bl := bl ++ (.cells [.int .i64 kind] :: .cells [.int .i64 2] :: C5 :: CB :: Lx :: (r ++ (.cells [v] :: .loop { L0 with st := .done, pend := some .ret } :: g))), tk, ro := bl.length, rt := tk.length }) (M + 12) (fun t => t.text.length ≤ M)
    (by rintro s ⟨g, rfl⟩; exact ⟨rfl, rfl⟩)
    (by
      intro a g t x k ht hx hk
      obtain ⟨k, rfl⟩ : ∃ j, k = j + 1 := ⟨k - 1, by omega⟩
      have hr := fn_right hE hx (by omega) k (by omega)
      obtain ⟨kx, rfl, hkx⟩ := hx.open
      refine call_round (L := L0) (by simp [B, append_get, append_get0]) rfl rfl (by simp) ?_
      by_cases h : t.kind ≤ kind
      · have h3 : ¬ kind < t.kind := by omega
        cases h4 : rightT t with
        | true =>
          rw [h4] at hr
          simp [L0, B, rightY, h, h4, l1_term_check, putAll, Env.get_put, e3, e4, append_get, append_get0, append_set, append_set0, h3, hr]
        | false =>
          rw [h4] at hr
          simp [L0, B, rightY, h, h4, l1_term_check, putAll, Env.get_put, e3, e4, append_get, append_get0, append_set, append_set0, h3, hr]
      · have h3 : kind < t.kind := by omega
        simp [L0, B, rightY, h, l1_term_check, putAll, Env.get_put, e3, e4, append_get, append_get0, append_set, append_set0, h3])
    () k (bl.length + (r.length + 5)) (fun a g => by simp [B, append_get, append_get0]) hm hW hv (by omega)
  obtain ⟨v', s', hcl, hor⟩ := key
  refine ⟨v', false, s', ?_, ?_⟩
  · simp only [Opd.ev, e18, hlen]
    rw [← hcl]
    simp [B, L0, St.push]
  · rw [hlen]
    cases h : (preS ts).all (fun t => decide (t.kind ≤ kind) && rightT t) with
    | false =>
      rw [rightY_none _ _ h] at hor
      obtain ⟨g, rfl⟩ := hor
      refine ⟨{ L0 with st := .done, pend := some .ret }, by simp [append_get, append_get0], .inr (.inr ⟨rfl, rfl, ?_⟩)⟩
      simpa [append_set, append_set0] using q2 h _
    | true =>
      rw [rightY_some _ _ h] at hor
      obtain ⟨g, rfl⟩ := hor
      refine ⟨L0, by simp [B, append_get, append_get0], .inl ⟨rfl, rfl, ?_⟩⟩
      simpa [B, append_set, append_set0] using q1 h _

theorem fn_check {ts : List Tm} {v : AV} (hv : Sl ts v) (hm : nTs ts < most) {M : Nat} (hM : M ≤ maxLen) (hW : ∀ t ∈ preS ts, t.text.length ≤ M) (kind : Int) : Fn E (.fn n_term_check [] []) [v, .int .i64 kind] (.int .i64 (checkT kind ts)) := by
  have hmm : most = 1073741824 := rfl
  obtain ⟨K, hK⟩ := fn_depth hE _ (Nat.lt_succ_self _) (by omega) hv
  have hsl : ∃ o xs, v = .sl o 3 xs := by obtain ⟨o, xs, h, _⟩ := hv.len; exact ⟨o, xs, h⟩
  refine Fn.byW (h_term_check hE) rfl rfl ⟨K + 2 * nTs ts + M + 30, fun k hk bl tk => ?_⟩
  have hal := call_all hE hsl k (by omega)
  have hd := hK k (by omega)
  simp [F_term_check, b_term_check, hal]
  refine check_count hE hv hm (by omega) (by simp) (by simp) (by simp) (fun h L r => ?_) (fun h C L r => ?_)
  · by_cases hdp : 100 < dpS ts
    · have hc : checkT kind ts = 6 := by unfold checkT; rw [if_neg (by omega), if_pos hdp]
      have hdi : (100 : Int) < (dpS ts : Int) := by omega
      simp [hd, hdi, hc, append_get, append_get0, append_set, append_set0]
    · have hdi : ¬ (100 : Int) < (dpS ts : Int) := by omega
      simp [hd, hdi, hal, append_get, append_get0, append_set, append_set0]
      refine check_right hE hv hm hM hW kind (by omega) (by simp) (by simp) (by simp) (fun hr g => ?_) (fun hr g => ?_)
      · have hc : checkT kind ts = 0 := by unfold checkT; rw [if_neg (by omega), if_neg hdp, if_pos hr]
        simp [hc, append_get, append_get0, append_set, append_set0]
      · have hc : checkT kind ts = 2 := by unfold checkT; rw [if_neg (by omega), if_neg hdp, if_neg (by rw [hr]; simp)]
        simp [hc, append_get, append_get0, append_set, append_set0]
  · have hc : checkT kind ts = 5 := by unfold checkT; rw [if_pos h]
    simp [hc, append_get, append_get0, append_set, append_set0]
end
end Ab.D

/- What 'term.Value' answers. No condition but the table. -/
namespace Ab.D
open Go Ab Go.RowKit
set_option maxRecDepth 10000
set_option linter.all false
section
variable {E : IEnv} (hE : E.fns = Table.fn table)
include hE
theorem fn_Value {ts : List Tm} {v : AV} (hv : Sl ts v) (hm : nTs ts < most) {M : Nat} (hM : M ≤ maxLen) (hW : ∀ t ∈ preS ts, t.text.length ≤ M) : Fn E (.fn n_term_Value [] []) [v] (.int .i64 (checkT 4 ts)) := by
  obtain ⟨K, h⟩ := fn_check hE hv hm hM hW 4
  exact Fn.byW (h_term_Value hE) rfl rfl ⟨K, fun k hk bl tk => by simp [F_term_Value, b_term_Value, h k hk]⟩
end
end Ab.D

/- What 'term.Copy' answers. No condition but the table. -/
namespace Ab.D
open Go Ab Go.RowKit
set_option maxRecDepth 10000
set_option linter.unusedSimpArgs false
set_option linter.unusedVariables false
section
variable {E : IEnv} (hE : E.fns = Table.fn table)
include hE
theorem call_Clone {ts : List Tm} {v : AV} (h : Sl ts v) (hn : ts.length ≤ most) (k : Nat) (s : St) : ∃ r s', callA E (k + 1) none (.fn n_slices_Clone___api_Term_api_Term__m [] []) [v] s = some (.ret r, false, s') ∧
    ((ts = [] ∧ (r = .sl .nil 3 [] ∧ v = .sl .nil 3 [] ∨ r = .sl .full 3 [] ∧ (∃ o, o ≠ .nil ∧ v = .sl o 3 [])) ∧ s' = s) ∨ (ts ≠ [] ∧ r = .msl s.bl.length 0 3 ts.length ∧ ∃ o xs, v = .sl o 3 xs ∧ s' = { s with bl := s.bl ++ [.cells (rowC (AV.untokL xs))] })) := by
  obtain ⟨o, xs, rfl, ⟨_, ho⟩, hR⟩ := h
  have hR' := Rts.untokL hR
  have hl := hR'.length
  have hl0 := hR.length
  have hmm : most = 1073741824 := rfl
  refine call_byW (h_slices_Clone___api_Term_api_Term__m hE) rfl ?_
  by_cases hon : o = .nil
  · subst hon
    have := ho rfl
    subst this
    have h0 : ts = [] := List.eq_nil_of_length_eq_zero (by simpa using hl0.symm)
    subst h0
    simp [F_slices_Clone___api_Term_api_Term__m, b_slices_Clone___api_Term_api_Term__m, aeq, finA, s0Of]
  · have ha : ∀ z, aeq .slice (.sl o 3 xs) (.sl .nil z []) = some false := by
      intro z; cases o <;> first | rfl | exact absurd rfl hon
    cases hx : AV.untokL xs with
    | nil =>
      have hx0 : xs = [] := by cases xs with | nil => rfl | cons _ _ => simp [AV.untokL] at hx
      subst hx0
      have h0 : ts = [] := List.eq_nil_of_length_eq_zero (by simpa using hl0.symm)
      subst h0
      simp [F_slices_Clone___api_Term_api_Term__m, b_slices_Clone___api_Term_api_Term__m, ha, setElems, repl, appmA, ysOf, finA, s0Of, hon]
    | cons y r =>
      have hcl := cellsL_rowC hR'.aggs
      have hne : ts ≠ [] := by rintro rfl; simp only [Rts] at hR'; rw [hR'] at hx; cases hx
      rw [hx] at hcl hl
      have hlen : (y :: r).length ≤ most := by omega
      have hlen2 : r.length + 1 = ts.length := by simpa using hl
      simp only [List.length_cons] at hlen
      simp [F_slices_Clone___api_Term_api_Term__m, b_slices_Clone___api_Term_api_Term__m, ha, setElems, repl, appmA, ysOf, hx, hn, hcl, finA, s0Of, hne, hlen2]
      exact ⟨o, xs, ⟨rfl, rfl⟩, by rw [hx]⟩

theorem fn_Copy : ∀ (n : Nat) {ts : List Tm} {v : AV}, nTs ts < n → nTs ts ≤ most → Sl ts v → ∃ r, Fn E (.fn n_term_Copy [] []) [v] r ∧ Sl ts r ∧ r.untok = r
  | 0, _, _, h, _, _ => by omega
  | n + 1, ts, v, hn, hm, hv => by
    have hv0 := hv
    obtain ⟨o1, xs, rfl, ⟨hm1, hnil⟩, h1⟩ := hv
    have hl1 := h1.length
    have hmx : maxLen = 9223372036854775807 := rfl
    have hmm : most = 1073741824 := rfl
    have hlt := length_le_nTs ts
    obtain ⟨zs, K, z1, z2, z3⟩ := kid_mk (E := E) (f := .fn n_term_Copy [] []) (Rts.untokL h1) fun t v ht hv => fn_Copy n (by have := nT_mem ht; rw [nT_eq] at this; omega) (by have := nT_mem ht; rw [nT_eq] at this; omega) hv
    have hzl := z1.length
    by_cases hts : ts = []
    · subst hts
      have hx0 : xs = [] := by simpa using hl1
      subst hx0
      have key : ∀ k s, 2 ≤ k → callA E k none (.fn n_term_Copy [] []) [.sl o1 3 []] s = some (.ret (if o1 = .nil then .sl .nil 3 [] else .sl .full 3 []), false, s) := by
        intro k s hk
        obtain ⟨k, rfl⟩ : ∃ j, k = j + 2 := ⟨k - 2, by omega⟩
        refine call_byP (E := E) (h_term_Copy hE) (first := []) (caps := []) (args := [AV.sl o1 3 []]) rfl (k := k + 1) (fun bl tk => ?_) s
        obtain ⟨r, s', hc, hor⟩ := call_Clone hE hv0 (by simp) k { bl, tk, ro := bl.length, rt := tk.length }
        rcases hor with ⟨_, hr, rfl⟩ | ⟨h, _⟩
        · rcases hr with ⟨rfl, he⟩ | ⟨rfl, o2, ho2, he⟩
          · cases he
            simp [F_term_Copy, b_term_Copy, s0Of, hc]
            refine wp_loop 0 (fun i e st => i = 0 ∧ e = [(3, .sl .nil 3 []), (8, .int .i64 0), (9, .int .i64 0)] ∧ st = { bl, tk, ro := bl.length, rt := tk.length }) (by omega) (by simp) (fun i e st hi _ => by omega) ?_
            rintro e st ⟨_, rfl, rfl⟩
            simp [l0_term_Copy, finV]
          · cases he
            simp [F_term_Copy, b_term_Copy, s0Of, hc]
            refine wp_loop 0 (fun i e st => i = 0 ∧ e = [(3, .sl .full 3 []), (8, .int .i64 0), (9, .int .i64 0)] ∧ st = { bl, tk, ro := bl.length, rt := tk.length }) (by omega) (by simp) (fun i e st hi _ => by omega) ?_
            rintro e st ⟨_, rfl, rfl⟩
            simp [l0_term_Copy, finV, ho2]
        · exact absurd rfl h
      refine ⟨_, ⟨2, fun k hk s => key k s hk⟩, ?_, ?_⟩
      · split
        · exact Sl.nil
        · exact ⟨_, _, rfl, ⟨by simp, fun h => by cases h⟩, by simp [Rts]⟩
      · split <;> rfl
    · refine ⟨.sl .any 3 zs, ⟨K + ts.length + 5, fun k hk s => ?_⟩, ⟨_, _, rfl, ⟨by rw [hzl]; omega, fun h => by cases h⟩, z1⟩, rfl⟩
      obtain ⟨k, rfl⟩ : ∃ j, k = j + 2 := ⟨k - 2, by omega⟩
      refine call_byP (E := E) (h_term_Copy hE) (first := []) (caps := []) (args := [AV.sl o1 3 xs]) rfl (k := k + 1) (fun bl tk => ?_) s
      obtain ⟨r, s', hc, hor⟩ := call_Clone hE hv0 (by omega) k { bl, tk, ro := bl.length, rt := tk.length }
      rcases hor with ⟨rfl, _⟩ | ⟨_, rfl, o2, xs2, e2, rfl⟩
      · exact absurd rfl hts
      cases e2
      have hul : (AV.untokL xs).length = ts.length := by simp [hl1]
      have hag := (Rts.untokL h1).aggs
      have hagz := z1.aggs
      simp [F_term_Copy, b_term_Copy, s0Of, hc]
      refine wp_loop ts.length (fun i e st => e = [(3, .msl bl.length 0 3 ts.length), (8, .int .i64 ts.length), (9, .int .i64 i)] ∧ st = { bl := bl ++ [.cells (rowC (zs.take i ++ (AV.untokL xs).drop i))], tk, ro := bl.length, rt := tk.length }) (by omega) (by simp) ?_ ?_
      · rintro i e st hi ⟨rfl, rfl⟩
        obtain ⟨t, ht⟩ : ∃ t, ts[i]? = some t := ⟨_, List.getElem?_eq_getElem hi⟩
        obtain ⟨v, r, hx, hz, hcall⟩ := z3 (k + 1) (by omega) i t ht
        obtain ⟨or, kr, rfl⟩ : ∃ o xs, r = .sl o 3 xs := by
          obtain ⟨y, hy, hry⟩ := z1.get ht
          rw [hz] at hy; cases hy
          obtain ⟨q, hq, hsl⟩ := hry.open
          cases hq
          obtain ⟨o, xs, h, _⟩ := hsl
          exact ⟨o, xs, h⟩
        obtain ⟨hxi, hx1⟩ := List.getElem?_eq_some_iff.1 hx
        obtain ⟨hzi, hz1⟩ := List.getElem?_eq_some_iff.1 hz
        have e1 : idx (.int .i64 i) ts.length = some i := idx_nat hi
        have hwr : IntKind.wrap .i64 ((i : Int) + 1) = i + 1 := wrapIn (by omega) (by omega)
        have htl : (zs.take i).length = i := by rw [List.length_take]; omega
        have hagt : Aggs 3 (zs.take i) := fun y hy => hagz y (List.mem_of_mem_take hy)
        obtain ⟨X, hX⟩ : ∃ X, X = rowC (zs.take i ++ (AV.untokL xs).drop i) := ⟨_, rfl⟩
        have hd : (AV.untokL xs).drop i = .agg [.int .i64 t.kind, .str t.text, v] :: (AV.untokL xs).drop (i + 1) := by rw [List.drop_eq_getElem_cons hxi, hx1]
        have hzt : zs.take (i + 1) = zs.take i ++ [.agg [.int .i64 t.kind, .str t.text, .sl or 3 kr]] := by rw [List.take_add_one, hz]; rfl
        have g1 : X[i * 3 + 2]? = some v := by
          rw [hX, hd]
          have := rowC_get (l := zs.take i) (r := (AV.untokL xs).drop (i + 1)) (cs := [.int .i64 t.kind, .str t.text, v]) hagt 2 (by simp)
          rw [htl] at this; exact this
        have g2 : X.take (i * 3 + 2) ++ .sl or 3 kr :: X.drop (i * 3 + 3) = rowC (zs.take (i + 1) ++ (AV.untokL xs).drop (i + 1)) := by
          rw [hX, hd, hzt, List.append_assoc]
          have := rowC_set (l := zs.take i) (r := (AV.untokL xs).drop (i + 1)) (cs := [.int .i64 t.kind, .str t.text, v]) hagt 2 (by simp) (.sl or 3 kr)
          rw [htl] at this
          exact this
        have g3 : X.length = ts.length * 3 := by
          rw [hX, rowC_length (z := 3)]
          · simp only [List.length_append, htl, List.length_drop, hul]; congr 1; omega
          · exact hagt.append fun y hy => hag y (List.mem_of_mem_drop hy)
        have g4 : i * 3 + 3 ≤ X.length := by omega
        rw [← hX]
        simp [l0_term_Copy, hi, e1, hwr, append_get, append_get0, append_set, append_set0, g1, g4, hcall, g2]
      · rintro e st ⟨rfl, rfl⟩
        have hf := frz_row (s := { bl := bl ++ [.cells (rowC zs)], tk, ro := bl.length, rt := tk.length }) (lo := bl.length) (i := bl.length) (z := 3) (ys := zs) (Nat.le_refl _) (by simp) hagz (by omega) (fun k => z1.frz _ _ _)
        rw [hzl] at hf
        have hdz := z1.data
        rw [List.take_of_length_le (by omega), List.drop_of_length_le (by omega), List.append_nil]
        simp [l0_term_Copy, finV, hf, z2, hdz]
end
end Ab.D

/- What the law's own small functions answer. No condition but the table. -/
namespace Ab.D
open Go Ab Go.RowKit
set_option maxRecDepth 10000
set_option linter.unusedSimpArgs false
set_option linter.unusedVariables false

/- the first of some answers that is true -/
def idxF : List Bool → Nat → Int
  | [], _ => -1
  | b :: r, i => if b then (i : Int) else idxF r (i + 1)
theorem idxF_any : ∀ (rs : List Bool) (i : Nat), decide (0 ≤ idxF rs i) = rs.any id
  | [], _ => rfl
  | true :: r, i => by simp [idxF]
  | false :: r, i => by simp only [idxF, Bool.false_eq_true, if_false, idxF_any r, List.any_cons, id, Bool.false_or]
mutual
def ndL (m n : Int) : List Tm → Int
  | [] => n
  | t :: ts => if m < n then n else ndL m (n + (1 + ndK (m - n) t)) ts
def ndK (m : Int) : Tm → Int
  | .mk _ _ kids => ndL m 0 kids
end
theorem ndK_eq (m : Int) (t : Tm) : ndK m t = ndL m 0 t.kids := by cases t; simp only [ndK, Tm.kids]
mutual
theorem ndL_bound (m n : Int) : ∀ ts : List Tm, n ≤ ndL m n ts ∧ ndL m n ts ≤ n + nTs ts
  | [] => by simp only [ndL, nTs]; omega
  | t :: ts => by
    simp only [ndL, nTs]
    have h1 := ndK_bound (m - n) t
    have h2 := ndL_bound m (n + (1 + ndK (m - n) t)) ts
    split <;> omega
theorem ndK_bound (m : Int) : ∀ t : Tm, 0 ≤ ndK m t ∧ 1 + ndK m t ≤ nT t
  | .mk _ _ kids => by
    have := ndL_bound m 0 kids
    simp only [ndK, nT]; omega
end
section
variable {E : IEnv} (hE : E.fns = Table.fn table)
include hE
theorem fn_Index_string_string {o : Own} {xs : List AV} {rs : List Bool} {f : AV} (hl : rs.length = xs.length) (hm : xs.length ≤ most) (hsh : ∀ x ∈ xs, ∃ s, x = .str s) {K : Nat}
    (hf : ∀ k, K ≤ k → ∀ (i : Nat) x b, xs[i]? = some x → rs[i]? = some b → ∀ s, callA E k none f [x] s = some (.ret (.bool b), false, s)) :
    FnK (K + xs.length + 3) E (.fn n_slices_IndexFunc___string_string_ [] []) [.sl o 1 xs, f] (.int .i64 (idxF rs 0)) :=
  FnK.byW (h_slices_IndexFunc___string_string_ hE) rfl rfl (K := K + xs.length + 2) fun k hk bl tk => by
    have hmm : most = 1073741824 := rfl
    simp [F_slices_IndexFunc___string_string_, b_slices_IndexFunc___string_string_]
    refine wp_loop xs.length (fun i e s => idxF rs 0 = idxF (rs.drop i) i ∧ e = [(0, .sl o 1 xs), (1, f), (7, .int .i64 xs.length), (8, .int .i64 i)] ∧ s = { bl := bl, tk, ro := bl.length, rt := tk.length }) (by omega) (by simp) ?_ ?_
    · rintro i e s hi ⟨hq, rfl, rfl⟩
      obtain ⟨x, hx⟩ : ∃ x, xs[i]? = some x := ⟨_, List.getElem?_eq_getElem hi⟩
      obtain ⟨q, hq2⟩ : ∃ q, rs[i]? = some q := ⟨_, List.getElem?_eq_getElem (by omega)⟩
      obtain ⟨hqi, hq3⟩ := List.getElem?_eq_some_iff.1 hq2
      have hc := hf k (by omega) i x q hx hq2
      obtain ⟨sx, rfl⟩ := hsh _ (List.mem_of_getElem? hx)
      obtain ⟨hi1, hx1⟩ := List.getElem?_eq_some_iff.1 hx
      have e1 : idx (.int .i64 i) xs.length = some i := idx_nat hi1
      have hwr : IntKind.wrap .i64 ((i : Int) + 1) = i + 1 := wrapIn (by omega) (by omega)
      rw [List.drop_eq_getElem_cons hqi, hq3, idxF] at hq
      cases q with
      | true => simp [l0_slices_IndexFunc___string_string_, hi, e1, hx1, hwr, hc, hq]
      | false =>
        simp only [Bool.false_eq_true, if_false] at hq
        simp [l0_slices_IndexFunc___string_string_, hi, e1, hx1, hwr, hc, hq]
    · rintro e s ⟨hq, rfl, rfl⟩
      rw [List.drop_of_length_le (by omega), idxF] at hq
      simp [l0_slices_IndexFunc___string_string_, hq]
theorem fn_Contains_string_string {o : Own} {xs : List AV} {rs : List Bool} {f : AV} (hl : rs.length = xs.length) (hm : xs.length ≤ most) (hsh : ∀ x ∈ xs, ∃ s, x = .str s) {K : Nat}
    (hf : ∀ k, K ≤ k → ∀ (i : Nat) x b, xs[i]? = some x → rs[i]? = some b → ∀ s, callA E k none f [x] s = some (.ret (.bool b), false, s)) :
    FnK (K + xs.length + 4) E (.fn n_slices_ContainsFunc___string_string_ [] []) [.sl o 1 xs, f] (.bool (rs.any id)) :=
  FnK.byW (h_slices_ContainsFunc___string_string_ hE) rfl rfl (K := K + xs.length + 3) fun k hk bl tk => by
    have h1 := fn_Index_string_string hE (o := o) hl hm hsh hf k (by omega)
    simp [F_slices_ContainsFunc___string_string_, b_slices_ContainsFunc___string_string_, h1, ← idxF_any rs 0]
theorem fn_Index_api_Buried_api_Buried {o : Own} {xs : List AV} {rs : List Bool} {f : AV} (hl : rs.length = xs.length) (hm : xs.length ≤ most) (hsh : ∀ x ∈ xs, ∃ a b, x = .agg [a, b]) {K : Nat}
    (hf : ∀ k, K ≤ k → ∀ (i : Nat) x b, xs[i]? = some x → rs[i]? = some b → ∀ s, callA E k none f [x] s = some (.ret (.bool b), false, s)) :
    FnK (K + xs.length + 3) E (.fn n_slices_IndexFunc___api_Buried_api_Buried_ [] []) [.sl o 2 xs, f] (.int .i64 (idxF rs 0)) :=
  FnK.byW (h_slices_IndexFunc___api_Buried_api_Buried_ hE) rfl rfl (K := K + xs.length + 2) fun k hk bl tk => by
    have hmm : most = 1073741824 := rfl
    simp [F_slices_IndexFunc___api_Buried_api_Buried_, b_slices_IndexFunc___api_Buried_api_Buried_]
    refine wp_loop xs.length (fun i e s => idxF rs 0 = idxF (rs.drop i) i ∧ e = [(0, .sl o 2 xs), (1, f), (7, .int .i64 xs.length), (8, .int .i64 i)] ∧ s = { bl := bl, tk, ro := bl.length, rt := tk.length }) (by omega) (by simp) ?_ ?_
    · rintro i e s hi ⟨hq, rfl, rfl⟩
      obtain ⟨x, hx⟩ : ∃ x, xs[i]? = some x := ⟨_, List.getElem?_eq_getElem hi⟩
      obtain ⟨q, hq2⟩ : ∃ q, rs[i]? = some q := ⟨_, List.getElem?_eq_getElem (by omega)⟩
      obtain ⟨hqi, hq3⟩ := List.getElem?_eq_some_iff.1 hq2
      have hc := hf k (by omega) i x q hx hq2
      obtain ⟨a, b, rfl⟩ := hsh _ (List.mem_of_getElem? hx)
      obtain ⟨hi1, hx1⟩ := List.getElem?_eq_some_iff.1 hx
      have e1 : idx (.int .i64 i) xs.length = some i := idx_nat hi1
      have hwr : IntKind.wrap .i64 ((i : Int) + 1) = i + 1 := wrapIn (by omega) (by omega)
      rw [List.drop_eq_getElem_cons hqi, hq3, idxF] at hq
      cases q with
      | true => simp [l0_slices_IndexFunc___api_Buried_api_Buried_, hi, e1, hx1, hwr, hc, hq]
      | false =>
        simp only [Bool.false_eq_true, if_false] at hq
        simp [l0_slices_IndexFunc___api_Buried_api_Buried_, hi, e1, hx1, hwr, hc, hq]
    · rintro e s ⟨hq, rfl, rfl⟩
      rw [List.drop_of_length_le (by omega), idxF] at hq
      simp [l0_slices_IndexFunc___api_Buried_api_Buried_, hq]
theorem fn_Contains_api_Buried_api_Buried {o : Own} {xs : List AV} {rs : List Bool} {f : AV} (hl : rs.length = xs.length) (hm : xs.length ≤ most) (hsh : ∀ x ∈ xs, ∃ a b, x = .agg [a, b]) {K : Nat}
    (hf : ∀ k, K ≤ k → ∀ (i : Nat) x b, xs[i]? = some x → rs[i]? = some b → ∀ s, callA E k none f [x] s = some (.ret (.bool b), false, s)) :
    FnK (K + xs.length + 4) E (.fn n_slices_ContainsFunc___api_Buried_api_Buried_ [] []) [.sl o 2 xs, f] (.bool (rs.any id)) :=
  FnK.byW (h_slices_ContainsFunc___api_Buried_api_Buried_ hE) rfl rfl (K := K + xs.length + 3) fun k hk bl tk => by
    have h1 := fn_Index_api_Buried_api_Buried hE (o := o) hl hm hsh hf k (by omega)
    simp [F_slices_ContainsFunc___api_Buried_api_Buried_, b_slices_ContainsFunc___api_Buried_api_Buried_, h1, ← idxF_any rs 0]
theorem fn_Index_api_Term_api_Term {o : Own} {xs : List AV} {rs : List Bool} {f : AV} (hl : rs.length = xs.length) (hm : xs.length ≤ most) (hsh : ∀ x ∈ xs, ∃ a b c, x = .agg [a, b, c]) {K : Nat}
    (hf : ∀ k, K ≤ k → ∀ (i : Nat) x b, xs[i]? = some x → rs[i]? = some b → ∀ s, callA E k none f [x] s = some (.ret (.bool b), false, s)) :
    FnK (K + xs.length + 3) E (.fn n_slices_IndexFunc___api_Term_api_Term_ [] []) [.sl o 3 xs, f] (.int .i64 (idxF rs 0)) :=
  FnK.byW (h_slices_IndexFunc___api_Term_api_Term_ hE) rfl rfl (K := K + xs.length + 2) fun k hk bl tk => by
    have hmm : most = 1073741824 := rfl
    simp [F_slices_IndexFunc___api_Term_api_Term_, b_slices_IndexFunc___api_Term_api_Term_]
    refine wp_loop xs.length (fun i e s => idxF rs 0 = idxF (rs.drop i) i ∧ e = [(0, .sl o 3 xs), (1, f), (7, .int .i64 xs.length), (8, .int .i64 i)] ∧ s = { bl := bl, tk, ro := bl.length, rt := tk.length }) (by omega) (by simp) ?_ ?_
    · rintro i e s hi ⟨hq, rfl, rfl⟩
      obtain ⟨x, hx⟩ : ∃ x, xs[i]? = some x := ⟨_, List.getElem?_eq_getElem hi⟩
      obtain ⟨q, hq2⟩ : ∃ q, rs[i]? = some q := ⟨_, List.getElem?_eq_getElem (by omega)⟩
      obtain ⟨hqi, hq3⟩ := List.getElem?_eq_some_iff.1 hq2
      have hc := hf k (by omega) i x q hx hq2
      obtain ⟨a, b, c, rfl⟩ := hsh _ (List.mem_of_getElem? hx)
      obtain ⟨hi1, hx1⟩ := List.getElem?_eq_some_iff.1 hx
      have e1 : idx (.int .i64 i) xs.length = some i := idx_nat hi1
      have hwr : IntKind.wrap .i64 ((i : Int) + 1) = i + 1 := wrapIn (by omega) (by omega)
      rw [List.drop_eq_getElem_cons hqi, hq3, idxF] at hq
      cases q with
      | true => simp [l0_slices_IndexFunc___api_Term_api_Term_, hi, e1, hx1, hwr, hc, hq]
      | false =>
        simp only [Bool.false_eq_true, if_false] at hq
        simp [l0_slices_IndexFunc___api_Term_api_Term_, hi, e1, hx1, hwr, hc, hq]
    · rintro e s ⟨hq, rfl, rfl⟩
      rw [List.drop_of_length_le (by omega), idxF] at hq
      simp [l0_slices_IndexFunc___api_Term_api_Term_, hq]
theorem fn_Contains_api_Term_api_Term {o : Own} {xs : List AV} {rs : List Bool} {f : AV} (hl : rs.length = xs.length) (hm : xs.length ≤ most) (hsh : ∀ x ∈ xs, ∃ a b c, x = .agg [a, b, c]) {K : Nat}
    (hf : ∀ k, K ≤ k → ∀ (i : Nat) x b, xs[i]? = some x → rs[i]? = some b → ∀ s, callA E k none f [x] s = some (.ret (.bool b), false, s)) :
    FnK (K + xs.length + 4) E (.fn n_slices_ContainsFunc___api_Term_api_Term_ [] []) [.sl o 3 xs, f] (.bool (rs.any id)) :=
  FnK.byW (h_slices_ContainsFunc___api_Term_api_Term_ hE) rfl rfl (K := K + xs.length + 3) fun k hk bl tk => by
    have h1 := fn_Index_api_Term_api_Term hE (o := o) hl hm hsh hf k (by omega)
    simp [F_slices_ContainsFunc___api_Term_api_Term_, b_slices_ContainsFunc___api_Term_api_Term_, h1, ← idxF_any rs 0]
theorem fn_nodes : ∀ (n : Nat) {ts : List Tm} {v : AV} (m : Int), nTs ts < n → nTs ts ≤ most → -1073741824 ≤ m → m ≤ 1073741824 → Sl ts v → FnK (2 * nTs ts + 3) E (.fn n_chiasmuslaw10_nodes [] []) [v, .int .i64 m] (.int .i64 (ndL m 0 ts))
  | 0, _, _, _, h, _, _, _, _ => by omega
  | n + 1, ts, v, m, hn, hmo, hl0, hl1, hv => by
    obtain ⟨o1, xs, rfl, ⟨hm1, _⟩, h1⟩ := hv
    have hl := h1.length
    have hlt := length_le_nTs ts
    have hmx : maxLen = 9223372036854775807 := rfl
    have hmm : most = 1073741824 := rfl
    refine FnK.byW (h_chiasmuslaw10_nodes hE) rfl rfl (K := 2 * nTs ts + 2) fun k hk bl tk => ?_
    simp [F_chiasmuslaw10_nodes, b_chiasmuslaw10_nodes]
    refine wp_loop xs.length (fun i e s => ∃ (c : Int) (b : List AB), bl.length ≤ b.length ∧ 0 ≤ c ∧ c ≤ nTs (ts.take i) ∧ ndL m 0 ts = ndL m c (ts.drop i) ∧ e = [(1, .int .i64 m), (5, .int .i64 c), (8, .sl o1 3 xs), (9, .int .i64 xs.length), (10, .int .i64 i)] ∧ s = { bl := b, tk, ro := bl.length, rt := tk.length }) (by omega) ⟨0, bl, by simp [nTs]⟩ ?_ ?_
    · rintro i e s hi ⟨c, b, hb, hc0, hc1, hq, rfl, rfl⟩
      obtain ⟨t, ht⟩ : ∃ t, ts[i]? = some t := ⟨_, List.getElem?_eq_getElem (by omega)⟩
      obtain ⟨x, hx, hrx⟩ := h1.get ht
      obtain ⟨kx, rfl, hkx⟩ := hrx.open
      obtain ⟨hi1, hx1⟩ := List.getElem?_eq_some_iff.1 hx
      have e1 : idx (.int .i64 i) xs.length = some i := idx_nat hi1
      have hwr : IntKind.wrap .i64 ((i : Int) + 1) = i + 1 := wrapIn (by omega) (by omega)
      obtain ⟨hti, ht1⟩ := List.getElem?_eq_some_iff.1 ht
      have hle := nT_mem (List.mem_of_getElem? ht)
      have hsum : nTs (ts.take (i + 1)) = nTs (ts.take i) + nT t := by rw [List.take_add_one, ht, nTs_append]; simp [nTs]
      have hall : nTs (ts.take (i + 1)) ≤ nTs ts := by
        have := nTs_append (ts.take (i + 1)) (ts.drop (i + 1)); rw [List.take_append_drop] at this; omega
      rw [List.drop_eq_getElem_cons hti, ht1, ndL] at hq
      have hb1 : bl.length ≤ b.length + 1 := by omega
      by_cases c1 : m < c
      · rw [if_pos c1] at hq
        simp [l0_chiasmuslaw10_nodes, hi, e1, hi1, hx, hx1, c1, hq, hb, append_get, append_get0, append_set, append_set0]
      · rw [if_neg c1] at hq
        have hkb := ndK_bound (m - c) t
        rw [ndK_eq] at hq hkb
        have hle2 := hle
        rw [nT_eq] at hle2
        have hc := fn_nodes n (m - c) (by omega) (by omega) (by omega) (by omega) hkx k (by omega)
        obtain ⟨r, hr⟩ : ∃ r, r = ndL (m - c) 0 t.kids := ⟨_, rfl⟩
        rw [← hr] at hc hq hkb
        have w1 : IntKind.wrap .i64 (m - c) = m - c := wrapIn (by omega) (by omega)
        have w4 : IntKind.wrap .i64 (1 + r) = 1 + r := wrapIn (by omega) (by omega)
        have w5 : IntKind.wrap .i64 (c + (1 + r)) = c + (1 + r) := wrapIn (by omega) (by omega)
        simp [l0_chiasmuslaw10_nodes, hi, e1, hi1, hx, hx1, c1, hb, hb1, append_get, append_get0, append_set, append_set0, w1, w4, w5, hc, hwr]
        exact ⟨_, _, by simp; omega, by omega, by omega, hq, rfl, rfl⟩
    · rintro e s ⟨c, b, hb, hc0, hc1, hq, rfl, rfl⟩
      rw [List.drop_of_length_le (by omega), ndL] at hq
      simp [l0_chiasmuslaw10_nodes, hq]
end
end Ab.D

/- All arguments of a row as abstract values, with how much there is; and that they read the same afterwards. No condition. -/
namespace Ab
open Go Go.RowKit Go.WideShapes

def ArgOf (P : Program) (t : TypeId) (x : AV) : Prop := if (isAggP P t).getD false then ∃ xs, x = .agg xs ∧ Of P t xs else Of P t [x]

theorem arg_open {H : Type} {enc : TypeId × Value → H} {P : Program} {S : List TypeId} (hS : closedT P S = true) {L : Lk} {W : World} {t : TypeId} (ht : t ∈ S) {base : Nat} {v : Value} {d : DataW H} {p : List MemPlace}
    (hv : Value.okWide P W .any base t v) (h : DataW.Trod enc P W 0 (fun _ => true) true t v d p) : ∃ x, Rep L (g0 W) W x v ∧ ArgOf P t x ∧ AV.sz x ≤ bulkD d := by
  obtain ⟨fuel, hf⟩ := h
  obtain ⟨xs, h1, h2, h3, h4, h5⟩ := open_trod hS (L := L) fuel t _ d p ht hf
  have hc := List.all_eq_true.1 hS t ht
  cases hu : P.underlying t with
  | none => rw [hu] at hc; cases hc
  | some dd =>
    have hagg := isAgg_of hu
    cases hda : aggOf dd with
    | true =>
      have hs : ∃ cs, v = .agg cs := by
        cases dd with
        | struct fs => obtain ⟨cs, rfl, _⟩ := okWide_struct hu hv; exact ⟨cs, rfl⟩
        | array n e => rw [hu] at hc; cases hc
        | _ => simp [aggOf] at hda
      obtain ⟨cs, rfl⟩ := hs
      refine ⟨.agg xs, ?_, ?_, ?_⟩
      · simp only [Rep]
        exact ⟨cs.toList, by simp, by simpa [Value.cells] using h1, fun u hu => h3 u (by simpa [Value.cells] using hu)⟩
      · simp only [ArgOf, hagg, Option.getD_some, hda, if_true]; exact ⟨xs, rfl, h4⟩
      · simp only [anP, hagg, Option.getD_some, hda, if_true] at h5
        simp only [AV.sz]; omega
    | false =>
      have hone : v.cells = #[v] := by
        rw [hu] at hc
        cases dd with
        | struct fs => simp [aggOf] at hda
        | array n e => simp [aggOf] at hda
        | bool => obtain ⟨b, rfl⟩ := okWide_bool hu hv; rfl
        | int k => obtain ⟨b, rfl⟩ := okWide_int hu hv; rfl
        | string => obtain ⟨b, rfl⟩ := okWide_string hu hv; rfl
        | slice e => obtain ⟨a, b, c, rfl⟩ := okWide_slice hu hv; rfl
        | _ => cases hc
      obtain ⟨x, rfl⟩ := of_one hu hda h4
      rw [hone] at h1
      simp only [RepL] at h1
      obtain ⟨v', r, e, h6, _⟩ := h1
      simp at e
      obtain ⟨rfl, rfl⟩ := e
      refine ⟨x, h6, ?_, ?_⟩
      · simp only [ArgOf, hagg, Option.getD_some, hda, Bool.false_eq_true, if_false]; exact h4
      · simp only [AV.szL] at h5; omega

def ArgsOf (P : Program) : List TypeId → List AV → Prop
  | [], [] => True
  | t :: ts, x :: xs => ArgOf P t x ∧ ArgsOf P ts xs
  | _, _ => False
theorem args_open {H : Type} {enc : TypeId × Value → H} {P : Program} {S : List TypeId} (hS : closedT P S = true) {L : Lk} {W : World} {base : Nat} : ∀ {ts : List TypeId} {vs : List Value} {ds : List (DataW H)} {p : List MemPlace}, (ts.all fun t => S.contains t) = true →
    (∀ (j : Nat) t v, ts[j]? = some t → vs[j]? = some v → Value.okWide P W .any base t v) → DataW.TrodAll enc P W 0 (fun _ => true) true ts vs ds p →
    ∃ xs, RepL L (g0 W) W xs vs ∧ ArgsOf P ts xs ∧ AV.szL xs ≤ bulkL ds
  | [], [], [], _, _, _, _ => ⟨[], by simp [RepL], trivial, by simp [AV.szL, bulkL]⟩
  | t :: ts, v :: vs, d :: ds, p, hm, hv, h => by
    simp only [List.all_cons, Bool.and_eq_true] at hm
    obtain ⟨p1, q1, h1, h2, _⟩ := h
    obtain ⟨x, a1, a2, a3⟩ := arg_open hS (L := L) (by simpa using hm.1) (hv 0 t v rfl rfl) h1
    obtain ⟨xs, b1, b2, b3⟩ := args_open hS hm.2 (fun j t' v' ht' hv' => hv (j + 1) t' v' (by simpa using ht') (by simpa using hv')) h2
    exact ⟨x :: xs, by simp only [RepL]; exact ⟨_, _, rfl, a1, b1⟩, ⟨a2, b2⟩, by simp only [AV.szL, bulkL]; omega⟩
  | [], _ :: _, _, _, _, _, h => h.elim
  | [], [], _ :: _, _, _, _, h => h.elim
  | _ :: _, [], _, _, _, _, h => h.elim
  | _ :: _, _ :: _, [], _, _, _, h => h.elim

theorem args_lt {H : Type} {enc : TypeId × Value → H} {P : Program} {W : World} : ∀ {ts : List TypeId} {vs : List Value} {ds : List (DataW H)} {p : List MemPlace}, DataW.TrodAll enc P W 0 (fun _ => true) true ts vs ds p → ∀ x ∈ p, x.block < W.heap.size
  | [], [], [], _, h, x, hx => by cases h; cases hx
  | t :: ts, v :: vs, d :: ds, p, h, x, hx => by
    obtain ⟨p1, q1, ⟨m, h1⟩, h2, rfl⟩ := h
    rcases List.mem_append.1 hx with hx | hx
    · exact DataW.trod_lt m _ _ _ h1 x hx
    · exact args_lt h2 x hx
  | [], _ :: _, _, _, h, _, _ => h.elim
  | [], [], _ :: _, _, h, _, _ => h.elim
  | _ :: _, [], _, _, h, _, _ => h.elim
  | _ :: _, _ :: _, [], _, h, _, _ => h.elim

def readT (P : Program) (ts : List TypeId) : Bool := ts.all fun t => P.readableRec t && decide (t < P.types.size)
theorem args_shut {H : Type} {enc : TypeId × Value → H} {P : Program} (hl : laidOutB P = true) {W W' : World} (hb : Below W.heap.size W W') : ∀ {ts : List TypeId} {vs : List Value} {ds : List (DataW H)} {p : List MemPlace}, readT P ts = true →
    DataW.TrodAll enc P W 0 (fun _ => true) true ts vs ds p → DataW.TrodAll enc P W' 0 (fun b => decide (b < W.heap.size)) true ts vs ds p
  | [], [], [], _, _, h => h
  | t :: ts, v :: vs, d :: ds, p, hr, h => by
    simp only [readT, List.all_cons, Bool.and_eq_true, decide_eq_true_eq] at hr
    obtain ⟨p1, q1, h1, h2, rfl⟩ := h
    have hlt : ∀ x ∈ p1, x.block < W.heap.size := by obtain ⟨m, hm⟩ := h1; exact DataW.trod_lt m _ _ _ hm
    exact ⟨p1, q1, Below.trod hl hr.1.1 hr.1.2 h1 hb hlt, args_shut hl hb (by simpa [readT] using hr.2) h2, rfl⟩
  | [], _ :: _, _, _, _, h => h.elim
  | [], [], _ :: _, _, _, h => h.elim
  | _ :: _, [], _, _, _, h => h.elim
  | _ :: _, _ :: _, [], _, _, h => h.elim

/- a world that lays what a row lists -/
def litV : Lit → Value
  | .bool b => .bool b
  | .int k n => .int k n
  | .string s => .string ⟨s.toArray⟩
  | _ => .nilIface
/- (fuel, next block, data) to cells and blocks that are new -/
def layC {H : Type} (f : String → TypeId × TypeId) : Nat → Nat → DataW H → List Value × List (List Value × TypeId)
  | 0, _, _ => ([], [])
  | k + 1, N, d => match d with
    | .lit l => ([litV l], [])
    | .agg ps => ps.foldl (fun acc p => let q := layC f k (N + acc.2.length) p; (acc.1 ++ q.1, acc.2 ++ q.2)) ([], [])
    | .iface s (.ptr e) => let q := layC f k (N + 1) e; ([.iface (f s).1 (.pointer (some ⟨N, 0, none⟩))], (q.1, (f s).2) :: q.2)
    | _ => ([], [])
noncomputable def layW (P : Program) (os : Os) (f : String → TypeId × TypeId) (laid : List (String × DataW Unit)) : World :=
  let N := (World.settled P os).heap.size
  let r := laid.foldl (fun acc x => let q := layC f 9 (N + acc.2.length) x.2; (acc.1 ++ [(x.1, q.1)], acc.2 ++ q.2)) (([] : List (String × List Value)), ([] : List (List Value × TypeId)))
  let w0 := World.holding P os ⟨(r.2.map fun b => Obj.cells b.1.toArray b.2 (0, 0)).toArray, #[], []⟩
  let put (h : Array Obj) (x : String × List Value) : Array Obj := match P.globalNamed x.1 with
    | some g => h.modify g fun
      | .cells _ t frozen => .cells x.2.toArray t frozen
      | o => o
    | none => h
  { w0 with heap := r.1.foldl put w0.heap }
end Ab

/- What arguments of a type look like; how many terms and letters an abstract value has at most. No condition. -/
namespace Ab
open Go Go.RowKit
section
variable {P : Program} {t e : TypeId} {xs : List AV}
theorem of_slice (h : P.underlying t = some (.slice e)) (ho : Of P t xs) : xs = [.sl .nil (P.cellsOf e) []] ∨ ∃ yss : List (List AV), (∀ ys ∈ yss, Of P e ys) ∧ yss.length ≤ maxLen ∧ xs = [.sl .any (P.cellsOf e) (yss.map (elemAV ((isAggP P e).getD false)))] := by
  cases ho with
  | nil h' => rw [h] at h'; cases h'; exact .inl rfl
  | slice h' yss hy hl => rw [h] at h'; cases h'; exact .inr ⟨yss, hy, hl, rfl⟩
  | bool h' => rw [h] at h'; cases h'
  | int h' => rw [h] at h'; cases h'
  | str h' => rw [h] at h'; cases h'
  | struct h' => rw [h] at h'; cases h'
theorem of_struct {fs : Array Field} (h : P.underlying t = some (.struct fs)) (ho : Of P t xs) : ∃ xss : List (List AV), xss.length = fs.size ∧ (∀ (i : Nat) (f : Field) (ys : List AV), fs[i]? = some f → xss[i]? = some ys → Of P f.type ys) ∧ xs = xss.flatten := by
  cases ho with
  | struct h' xss hl hx => rw [h] at h'; cases h'; exact ⟨xss, hl, hx, rfl⟩
  | bool h' => rw [h] at h'; cases h'
  | int h' => rw [h] at h'; cases h'
  | str h' => rw [h] at h'; cases h'
  | nil h' => rw [h] at h'; cases h'
  | slice h' => rw [h] at h'; cases h'
theorem of_string (h : P.underlying t = some .string) (ho : Of P t xs) : ∃ s : List UInt8, xs = [.str s] ∧ s.length ≤ maxLen := by
  cases ho with
  | str h' s hl => exact ⟨s, rfl, hl⟩
  | bool h' => rw [h] at h'; cases h'
  | int h' => rw [h] at h'; cases h'
  | nil h' => rw [h] at h'; cases h'
  | slice h' => rw [h] at h'; cases h'
  | struct h' => rw [h] at h'; cases h'
theorem of_int {k : IntKind} (h : P.underlying t = some (.int k)) (ho : Of P t xs) : ∃ n : Int, xs = [.int k n] ∧ (Lit.int k n).wf = true := by
  cases ho with
  | int h' n hw => rw [h] at h'; cases h'; exact ⟨n, rfl, hw⟩
  | bool h' => rw [h] at h'; cases h'
  | str h' => rw [h] at h'; cases h'
  | nil h' => rw [h] at h'; cases h'
  | slice h' => rw [h] at h'; cases h'
  | struct h' => rw [h] at h'; cases h'
end
theorem one_le_sz (x : AV) : 1 ≤ AV.sz x := by cases x <;> simp [AV.sz]
theorem length_le_szL : ∀ xs : List AV, xs.length ≤ AV.szL xs
  | [] => by simp
  | x :: xs => by have := one_le_sz x; have := length_le_szL xs; simp only [AV.szL, List.length_cons]; omega
theorem sz_mem : ∀ {xs : List AV} {x : AV}, x ∈ xs → AV.sz x ≤ AV.szL xs
  | y :: ys, x, h => by
    rcases List.mem_cons.1 h with rfl | h
    · simp only [AV.szL]; omega
    · have := sz_mem h; simp only [AV.szL]; omega
mutual
theorem Rt.sz : ∀ {t : Tm} {x : AV}, Rt t x → nT t ≤ AV.sz x ∧ ∀ u ∈ preT t, u.text.length ≤ AV.sz x
  | .mk k s kids, x, h => by
    simp only [Rt] at h
    obtain ⟨o, ys, rfl, _, h2⟩ := h
    obtain ⟨g1, g2⟩ := Rts.sz h2
    simp only [AV.sz, AV.szL, nT, preT]
    refine ⟨by omega, fun u hu => ?_⟩
    rcases List.mem_cons.1 hu with rfl | hu
    · simp only [Tm.text]; omega
    · have := g2 u hu; omega
theorem Rts.sz : ∀ {ts : List Tm} {ys : List AV}, Rts ts ys → nTs ts ≤ AV.szL ys ∧ ∀ u ∈ preS ts, u.text.length ≤ AV.szL ys
  | [], ys, h => by simp only [Rts] at h; subst h; simp [nTs, preS, AV.szL]
  | t :: ts, ys, h => by
    simp only [Rts] at h
    obtain ⟨y, r, rfl, h1, h2⟩ := h
    obtain ⟨g1, g2⟩ := Rt.sz h1
    obtain ⟨k1, k2⟩ := Rts.sz h2
    simp only [AV.szL, nTs, preS]
    refine ⟨by omega, fun u hu => ?_⟩
    rcases List.mem_append.1 hu with hu | hu
    · have := g2 u hu; omega
    · have := k2 u hu; omega
end
theorem Sl.sz {ts : List Tm} {v : AV} (h : Sl ts v) : nTs ts < AV.sz v ∧ ∀ u ∈ preS ts, u.text.length ≤ AV.sz v := by
  obtain ⟨o, ys, rfl, _, h3⟩ := h
  obtain ⟨g1, g2⟩ := h3.sz
  simp only [AV.sz]
  exact ⟨by omega, fun u hu => by have := g2 u hu; omega⟩
end Ab

/- Lists of values beside lists of abstract values. No condition. -/
namespace Ab
open Go
set_option linter.all false
def All2 {α : Type} (R : α → AV → Prop) : List α → List AV → Prop
  | [], ys => ys = []
  | a :: al, ys => ∃ y r, ys = y :: r ∧ R a y ∧ All2 R al r
section
variable {α : Type} {R : α → AV → Prop}
theorem All2.length : ∀ {al : List α} {ys : List AV}, All2 R al ys → ys.length = al.length
  | [], _, h => by simp only [All2] at h; simp [h]
  | a :: al, _, h => by
    simp only [All2] at h
    obtain ⟨y, r, rfl, _, h2⟩ := h
    simp [h2.length]
theorem All2.get : ∀ {al : List α} {ys : List AV} {i : Nat} {a : α}, All2 R al ys → al[i]? = some a → ∃ y, ys[i]? = some y ∧ R a y
  | [], _, _, _, _, h => by simp at h
  | b :: al, _, i, a, h, hi => by
    simp only [All2] at h
    obtain ⟨y, r, rfl, h1, h2⟩ := h
    cases i with
    | zero => simp at hi; subst hi; exact ⟨y, rfl, h1⟩
    | succ i => simp at hi; simpa using h2.get hi
theorem All2.mem : ∀ {al : List α} {ys : List AV} {y : AV}, All2 R al ys → y ∈ ys → ∃ a, a ∈ al ∧ R a y
  | [], _, _, h, hy => by simp only [All2] at h; subst h; cases hy
  | b :: al, _, y, h, hy => by
    simp only [All2] at h
    obtain ⟨z, r, rfl, h1, h2⟩ := h
    rcases List.mem_cons.1 hy with rfl | hy
    · exact ⟨b, List.mem_cons_self .., h1⟩
    · obtain ⟨a, ha, hr⟩ := h2.mem hy; exact ⟨a, List.mem_cons_of_mem _ ha, hr⟩
end
theorem all_mk {E : IEnv} {α : Type} {f : AV} {R : α → AV → Prop} {P : α → AV → Prop} {g : AV → List AV} : ∀ {al : List α} {xs : List AV}, All2 R al xs → (∀ a x, a ∈ al → R a x → ∃ r, Fn E f (g x) r ∧ P a r) →
    ∃ rs K, All2 P al rs ∧ ∀ k, K ≤ k → ∀ (i : Nat) x a, xs[i]? = some x → al[i]? = some a → ∃ r, rs[i]? = some r ∧ P a r ∧ ∀ s, callA E k none f (g x) s = some (.ret r, false, s)
  | [], xs, h, _ => ⟨[], 0, by simp [All2], fun _ _ i x a _ ha => by simp at ha⟩
  | a :: al, xs, h, hf => by
    simp only [All2] at h
    obtain ⟨y, r, rfl, h1, h2⟩ := h
    obtain ⟨v, ⟨K1, g1⟩, pv⟩ := hf a y (List.mem_cons_self ..) h1
    obtain ⟨rs, K2, g2, g3⟩ := all_mk h2 fun b x hb => hf b x (List.mem_cons_of_mem _ hb)
    refine ⟨v :: rs, K1 + K2, by simp only [All2]; exact ⟨_, _, rfl, pv, g2⟩, fun k hk i x c hx hc => ?_⟩
    cases i with
    | zero => simp at hx hc; subst hx; subst hc; exact ⟨v, rfl, pv, g1 k (by omega)⟩
    | succ i => simp at hx hc; simpa using g3 k (by omega) i x c hx hc
theorem all_ev {E : IEnv} {α : Type} {f : AV} {R : α → AV → Prop} {g : AV → List AV} {c : α → AV} {al : List α} {xs : List AV} (h : All2 R al xs) (hf : ∀ a x, a ∈ al → R a x → Fn E f (g x) (c a)) :
    ∃ K, ∀ k, K ≤ k → ∀ (i : Nat) x a, xs[i]? = some x → al[i]? = some a → ∀ s, callA E k none f (g x) s = some (.ret (c a), false, s) := by
  obtain ⟨rs, K, _, h2⟩ := all_mk (P := fun a r => r = c a) h fun a x ha hx => ⟨c a, hf a x ha hx, rfl⟩
  refine ⟨K, fun k hk i x a hx ha s => ?_⟩
  obtain ⟨r, _, rfl, h3⟩ := h2 k hk i x a hx ha
  exact h3 s
theorem all2_mk {α : Type} {R : α → AV → Prop} {β : Type} {g : β → AV} : ∀ {l : List β}, (∀ y ∈ l, ∃ a, R a (g y)) → ∃ al, All2 R al (l.map g)
  | [], _ => ⟨[], by simp [All2]⟩
  | y :: l, h => by
    obtain ⟨a, ha⟩ := h y (List.mem_cons_self ..)
    obtain ⟨al, hal⟩ := all2_mk fun z hz => h z (List.mem_cons_of_mem _ hz)
    exact ⟨a :: al, by simp only [List.map_cons, All2]; exact ⟨_, _, rfl, ha, hal⟩⟩
theorem all2_sz {α : Type} {R : α → AV → Prop} {Q : α → Nat → Prop} (h : ∀ a y, R a y → Q a (AV.sz y)) (hm : ∀ a m n, Q a m → m ≤ n → Q a n) : ∀ {al : List α} {ys : List AV}, All2 R al ys → ∀ a ∈ al, Q a (AV.szL ys)
  | [], _, _, a, ha => by cases ha
  | b :: al, _, hh, a, ha => by
    simp only [All2] at hh
    obtain ⟨y, r, rfl, h1, h2⟩ := hh
    simp only [AV.szL]
    rcases List.mem_cons.1 ha with rfl | ha
    · exact hm _ _ _ (h _ _ h1) (by omega)
    · exact hm _ _ _ (all2_sz h hm h2 a ha) (by omega)

def fieldsAre (P : Program) (t : TypeId) (l : List TypeId) : Bool := match P.underlying t with
  | some (.struct fs) => fs.toList.map (·.type) == l
  | _ => false
theorem look_of {P : Program} {t : TypeId} {l : List TypeId} (h : fieldsAre P t l = true) : ∃ fs, P.underlying t = some (.struct fs) ∧ fs.toList.map (·.type) = l := by
  unfold fieldsAre at h
  split at h
  · rename_i fs hfs
    exact ⟨fs, hfs, by simpa using h⟩
  · cases h
end Ab

/- What 'Small' and 'SmallStore' answer. No condition but the table. -/
namespace Ab.D
open Go Ab Go.RowKit
set_option maxRecDepth 10000
set_option linter.unusedSimpArgs false
set_option linter.unusedVariables false

abbrev Bur := List Tm × List Tm
def Bu (p : Bur) (x : AV) : Prop := ∃ a b, x = .agg [a, b] ∧ Sl p.1 a ∧ Sl p.2 b
def IsS (s : List UInt8) (y : AV) : Prop := y = .str s
/- a store -/
def Sto (ps : List Bur) (os : List (List UInt8)) (v : AV) : Prop := ∃ ob xs oo ys, v = .agg [.sl ob 2 xs, .sl oo 1 ys] ∧ All2 Bu ps xs ∧ All2 IsS os ys ∧ (ob = .nil → xs = []) ∧ (oo = .nil → ys = [])
def szS (ps : List Bur) (os : List (List UInt8)) : Prop := ps.length ≤ most ∧ os.length ≤ most ∧ ∀ p ∈ ps, nTs p.1 ≤ most ∧ nTs p.2 ≤ most

def badB (p : Bur) : Bool := decide (30 < ndL 30 0 p.1) || decide (30 < ndL 30 0 p.2) || !shortL p.1 || !shortL p.2
def smallS (ps : List Bur) (os : List (List UInt8)) : Bool := decide (ps.length ≤ 210) && decide (os.length ≤ 210) && !(os.any fun s => decide (600 < s.length)) && !(ps.any badB)
theorem any_short : ∀ ts : List Tm, (ts.map fun t => !shortE t).any id = !shortL ts
  | [] => rfl
  | t :: ts => by simp only [List.map_cons, List.any_cons, any_short ts, id, shortL, Bool.not_and]
section
variable {E : IEnv} (hE : E.fns = Table.fn table)
include hE
theorem fn_short : ∀ (n : Nat) {ts : List Tm} {v : AV}, nTs ts < n → nTs ts ≤ most → Sl ts v → Fn E (.fn n_chiasmuslaw10_shortTexts [] []) [v] (.bool (shortL ts))
  | 0, _, _, h, _, _ => by omega
  | n + 1, ts, v, hn, hm, hv => by
    obtain ⟨o1, xs, rfl, ⟨hm1, _⟩, h1⟩ := hv
    have hl1 := h1.length
    have hlt := length_le_nTs ts
    have hmm : most = 1073741824 := rfl
    obtain ⟨K, hK⟩ := kid_all (E := E) (f := .fn n_chiasmuslaw10_shortTexts [] []) (more := []) (c := fun t => .bool (shortL t.kids)) h1 fun t v ht hv => fn_short n (by have := nT_mem ht; rw [nT_eq] at this; omega) (by have := nT_mem ht; rw [nT_eq] at this; omega) hv
    have hc := fn_Contains_api_Term_api_Term hE (o := o1) (xs := xs) (rs := ts.map fun t => !shortE t) (f := .fn n_chiasmuslaw10_shortTexts_1 [] []) (by simp [hl1]) (by omega)
      (fun x hx => by
        obtain ⟨i, hi⟩ := List.mem_iff_getElem?.1 hx
        obtain ⟨t, ht⟩ : ∃ t, ts[i]? = some t := ⟨_, List.getElem?_eq_getElem (by have := (List.getElem?_eq_some_iff.1 hi).1; omega)⟩
        obtain ⟨y, hy, hr⟩ := h1.get ht
        rw [hi] at hy; cases hy
        obtain ⟨v, rfl, _⟩ := hr.open
        exact ⟨_, _, _, rfl⟩) (K := K + 2) (by
        intro k hk i x b hx hb
        obtain ⟨t, ht⟩ : ∃ t, ts[i]? = some t := ⟨_, List.getElem?_eq_getElem (by have := (List.getElem?_eq_some_iff.1 hx).1; omega)⟩
        rw [List.getElem?_map, ht] at hb
        simp only [Option.map_some, Option.some.injEq] at hb
        subst hb
        refine (FnK.byW (K := K + 1) (h_chiasmuslaw10_shortTexts_1 hE) rfl rfl fun k hk bl tk => ?_) k hk
        obtain ⟨v, hv1, hv2, hv3⟩ := hK k (by omega) i t ht
        rw [hx] at hv1
        cases hv1
        rw [shortE_eq]
        by_cases hq : t.text.length ≤ 600
        · have hq' : ¬ (600 : Int) < (t.text.length : Int) := by omega
          simp [F_chiasmuslaw10_shortTexts_1, b_chiasmuslaw10_shortTexts_1, append_get, append_get0, hq, hq', hv3]
        · have hq' : (600 : Int) < (t.text.length : Int) := by omega
          simp [F_chiasmuslaw10_shortTexts_1, b_chiasmuslaw10_shortTexts_1, append_get, append_get0, hq, hq'])
    refine Fn.byW (h_chiasmuslaw10_shortTexts hE) rfl rfl ⟨K + xs.length + 10, fun k hk bl tk => ?_⟩
    have h2 := hc k (by omega)
    rw [any_short] at h2
    simp [F_chiasmuslaw10_shortTexts, b_chiasmuslaw10_shortTexts, h2]

theorem fn_Small {ts : List Tm} {v : AV} (hm : nTs ts ≤ most) (hv : Sl ts v) : Fn E (.fn n_chiasmuslaw10_Small [] []) [v] (.bool (decide (ndL 300 0 ts ≤ 300) && shortL ts)) := by
  have h1 := fn_nodes hE (nTs ts + 1) 300 (by omega) hm (by omega) (by omega) hv
  obtain ⟨K, h2⟩ := fn_short hE (nTs ts + 1) (by omega) hm hv
  refine Fn.byW (h_chiasmuslaw10_Small hE) rfl rfl ⟨K + 2 * nTs ts + 10, fun k hk bl tk => ?_⟩
  have h1 := h1 k (by omega)
  have h2 := h2 k (by omega)
  by_cases hq : ndL 300 0 ts ≤ 300
  · simp [F_chiasmuslaw10_Small, b_chiasmuslaw10_Small, h1, h2, hq]
  · simp [F_chiasmuslaw10_Small, b_chiasmuslaw10_Small, h1, h2, hq]

theorem fn_Small1 (s : List UInt8) : FnK 1 E (.fn n_chiasmuslaw10_SmallStore_1 [] []) [.str s] (.bool (decide (600 < s.length))) :=
  FnK.byW (h_chiasmuslaw10_SmallStore_1 hE) rfl rfl (K := 0) fun k hk bl tk => by
    by_cases hq : 600 < s.length
    · have hq' : (600 : Int) < (s.length : Int) := by omega
      simp [F_chiasmuslaw10_SmallStore_1, b_chiasmuslaw10_SmallStore_1, hq, hq']
    · have hq' : ¬ (600 : Int) < (s.length : Int) := by omega
      simp [F_chiasmuslaw10_SmallStore_1, b_chiasmuslaw10_SmallStore_1, hq, hq']

theorem fn_Small2 {p : Bur} {x : AV} (hx : Bu p x) (hm : nTs p.1 ≤ most ∧ nTs p.2 ≤ most) : Fn E (.fn n_chiasmuslaw10_SmallStore_2 [] []) [x] (.bool (badB p)) := by
  obtain ⟨a, b, rfl, ha, hb⟩ := hx
  have h1 := fn_nodes hE (nTs p.1 + 1) 30 (by omega) hm.1 (by omega) (by omega) ha
  have h2 := fn_nodes hE (nTs p.2 + 1) 30 (by omega) hm.2 (by omega) (by omega) hb
  obtain ⟨K1, h3⟩ := fn_short hE (nTs p.1 + 1) (by omega) hm.1 ha
  obtain ⟨K2, h4⟩ := fn_short hE (nTs p.2 + 1) (by omega) hm.2 hb
  refine Fn.byW (h_chiasmuslaw10_SmallStore_2 hE) rfl rfl ⟨K1 + K2 + 2 * nTs p.1 + 2 * nTs p.2 + 10, fun k hk bl tk => ?_⟩
  have h1 := h1 k (by omega)
  have h2 := h2 k (by omega)
  have h3 := h3 k (by omega)
  have h4 := h4 k (by omega)
  unfold badB
  by_cases q1 : 30 < ndL 30 0 p.1
  · simp [F_chiasmuslaw10_SmallStore_2, b_chiasmuslaw10_SmallStore_2, append_get, append_get0, h1, q1]
  by_cases q2 : 30 < ndL 30 0 p.2
  · simp [F_chiasmuslaw10_SmallStore_2, b_chiasmuslaw10_SmallStore_2, append_get, append_get0, h1, h2, q1, q2]
  cases q3 : shortL p.1 with
  | false =>
    rw [q3] at h3
    simp [F_chiasmuslaw10_SmallStore_2, b_chiasmuslaw10_SmallStore_2, append_get, append_get0, h1, h2, h3, q1, q2]
  | true =>
    rw [q3] at h3
    simp [F_chiasmuslaw10_SmallStore_2, b_chiasmuslaw10_SmallStore_2, append_get, append_get0, h1, h2, h3, h4, q1, q2]

theorem all_K {α : Type} {f : AV} {R : α → AV → Prop} {c : α → AV} : ∀ {as : List α} {xs : List AV}, All2 R as xs → (∀ a x, a ∈ as → R a x → Fn E f [x] (c a)) → ∃ K, ∀ k, K ≤ k → ∀ (i : Nat) x a, xs[i]? = some x → as[i]? = some a → ∀ s, callA E k none f [x] s = some (.ret (c a), false, s)
  | [], _, _, _ => ⟨0, fun _ _ i x a _ h => by simp at h⟩
  | a :: as, _, h, hf => by
    simp only [All2] at h
    obtain ⟨y, r, rfl, h1, h2⟩ := h
    obtain ⟨K1, k1⟩ := hf a y (List.mem_cons_self ..) h1
    obtain ⟨K2, k2⟩ := all_K h2 fun a x ha => hf a x (List.mem_cons_of_mem _ ha)
    refine ⟨K1 + K2, fun k hk i x b hx hb => ?_⟩
    cases i with
    | zero => simp at hx hb; subst hx; subst hb; exact k1 k (by omega)
    | succ i => exact k2 k (by omega) i x b (by simpa using hx) (by simpa using hb)

theorem fn_SmallStore {ps : List Bur} {os : List (List UInt8)} {v : AV} (hm : szS ps os) (hv : Sto ps os v) : Fn E (.fn n_chiasmuslaw10_SmallStore [] []) [v] (.bool (smallS ps os)) := by
  obtain ⟨ob, xs, oo, ys, rfl, hb, ho, _, _⟩ := hv
  have hxl := hb.length
  have hyl := ho.length
  obtain ⟨K1, k1⟩ := all_K hE (f := .fn n_chiasmuslaw10_SmallStore_1 [] []) (c := fun s : List UInt8 => .bool (decide (600 < s.length))) ho fun a x _ hx => by cases hx; exact ⟨1, fn_Small1 hE a⟩
  obtain ⟨K2, k2⟩ := all_K hE (f := .fn n_chiasmuslaw10_SmallStore_2 [] []) (c := fun p => .bool (badB p)) hb fun a x ha hx => fn_Small2 hE hx (hm.2.2 a ha)
  have c1 := fn_Contains_string_string hE (o := oo) (xs := ys) (rs := os.map fun s => decide (600 < s.length)) (f := .fn n_chiasmuslaw10_SmallStore_1 [] []) (by simp [hyl]) (by rw [hyl]; exact hm.2.1)
    (fun x hx => by obtain ⟨a, _, rfl⟩ := ho.mem hx; exact ⟨_, rfl⟩) (K := K1) (by
      intro k hk i x b hx hb'
      rw [List.getElem?_map] at hb'
      cases ha : os[i]? with
      | none => rw [ha] at hb'; cases hb'
      | some a =>
        rw [ha] at hb'
        simp only [Option.map_some, Option.some.injEq] at hb'
        subst hb'
        exact k1 k hk i x a hx ha)
  have c2 := fn_Contains_api_Buried_api_Buried hE (o := ob) (xs := xs) (rs := ps.map badB) (f := .fn n_chiasmuslaw10_SmallStore_2 [] []) (by simp [hxl]) (by rw [hxl]; exact hm.1)
    (fun x hx => by obtain ⟨a, _, b, c, rfl, _⟩ := hb.mem hx; exact ⟨_, _, rfl⟩) (K := K2) (by
      intro k hk i x b hx hb'
      rw [List.getElem?_map] at hb'
      cases ha : ps[i]? with
      | none => rw [ha] at hb'; cases hb'
      | some a =>
        rw [ha] at hb'
        simp only [Option.map_some, Option.some.injEq] at hb'
        subst hb'
        exact k2 k hk i x a hx ha)
  refine Fn.byW (h_chiasmuslaw10_SmallStore hE) rfl rfl ⟨K1 + K2 + ys.length + xs.length + 20, fun k hk bl tk => ?_⟩
  have c1 := c1 k (by omega)
  have c2 := c2 k (by omega)
  have e1 : (os.map fun s => decide (600 < s.length)).any id = os.any fun s => decide (600 < s.length) := by rw [List.any_map]; rfl
  have e2 : (ps.map badB).any id = ps.any badB := by rw [List.any_map]; rfl
  rw [e1] at c1
  rw [e2] at c2
  unfold smallS
  rw [← hxl, ← hyl]
  by_cases q1 : xs.length ≤ 210
  · have q1' : (xs.length : Int) ≤ 210 := by omega
    by_cases q2 : ys.length ≤ 210
    · have q2' : (ys.length : Int) ≤ 210 := by omega
      cases q3 : os.any fun s => decide (600 < s.length) with
      | true =>
        rw [q3] at c1
        simp [F_chiasmuslaw10_SmallStore, b_chiasmuslaw10_SmallStore, append_get, append_get0, q1, q1', q2, q2', c1]
      | false =>
        rw [q3] at c1
        simp [F_chiasmuslaw10_SmallStore, b_chiasmuslaw10_SmallStore, append_get, append_get0, q1, q1', q2, q2', c1, c2]
    · have q2' : ¬ (ys.length : Int) ≤ 210 := by omega
      simp [F_chiasmuslaw10_SmallStore, b_chiasmuslaw10_SmallStore, append_get, append_get0, q1, q1', q2, q2']
  · have q1' : ¬ (xs.length : Int) ≤ 210 := by omega
    simp [F_chiasmuslaw10_SmallStore, b_chiasmuslaw10_SmallStore, append_get, append_get0, q1, q1']
end
end Ab.D

/- The order of terms as plain data; a function of the Kids of pairs of terms. No condition. -/
namespace Ab
open Go Go.RowKit
def cmpI (a b : Int) : Int := if a < b then -1 else if a > b then 1 else 0
def cmpS (a b : List UInt8) : Int := if Go.Op.bytesLess a b then -1 else if a = b then 0 else 1
theorem bytesLess_self : ∀ s : List UInt8, Go.Op.bytesLess s s = false
  | [] => rfl
  | a :: s => by simp [Go.Op.bytesLess, bytesLess_self s]
theorem cmpI_ne {a b : Int} (h : a ≠ b) : cmpI a b ≠ 0 := by unfold cmpI; split; omega; split; omega; omega
theorem cmpS_ne {a b : List UInt8} (h : a ≠ b) : cmpS a b ≠ 0 := by unfold cmpS; split; omega; simp [h]
mutual
def cmpT : Tm → Tm → Int
  | .mk k s l, u => if k ≠ u.kind then cmpI k u.kind else if s ≠ u.text then cmpS s u.text else cmpTs l u.kids
def cmpTs : List Tm → List Tm → Int
  | [], [] => 0
  | [], _ :: _ => -1
  | _ :: _, [] => 1
  | t :: ts, u :: us => if cmpT t u ≠ 0 then cmpT t u else cmpTs ts us
end
theorem cmpT_eq (t u : Tm) : cmpT t u = if t.kind ≠ u.kind then cmpI t.kind u.kind else if t.text ≠ u.text then cmpS t.text u.text else cmpTs t.kids u.kids := by
  cases t; cases u; simp only [cmpT, Tm.kind, Tm.text, Tm.kids]; congr
theorem cmpTs_step {ts us : List Tm} {i : Nat} {t u : Tm} (ht : ts[i]? = some t) (hu : us[i]? = some u) :
    cmpTs (ts.drop i) (us.drop i) = if cmpT t u ≠ 0 then cmpT t u else cmpTs (ts.drop (i + 1)) (us.drop (i + 1)) := by
  obtain ⟨h1, h2⟩ := List.getElem?_eq_some_iff.1 ht
  obtain ⟨h3, h4⟩ := List.getElem?_eq_some_iff.1 hu
  rw [List.drop_eq_getElem_cons h1, List.drop_eq_getElem_cons h3, h2, h4]; simp only [cmpTs]
theorem cmpTs_end (ts us : List Tm) : cmpTs (ts.drop (min ts.length us.length)) (us.drop (min ts.length us.length)) = cmpI ts.length us.length := by
  by_cases h : ts.length < us.length
  · rw [Nat.min_eq_left (by omega), List.drop_length, List.drop_eq_getElem_cons h]
    simp only [cmpTs, cmpI]; rw [if_pos (by omega)]
  · rw [Nat.min_eq_right (by omega), List.drop_length]
    by_cases h2 : us.length < ts.length
    · rw [List.drop_eq_getElem_cons h2]; simp only [cmpTs, cmpI]; rw [if_neg (by omega), if_pos (by omega)]
    · rw [List.drop_of_length_le (by omega)]; simp only [cmpTs, cmpI]; rw [if_neg (by omega), if_neg (by omega)]
mutual
theorem cmpT_zero : ∀ t u : Tm, cmpT t u = 0 → t = u
  | .mk k s l, .mk k' s' l', h => by
    simp only [cmpT, Tm.kind, Tm.text, Tm.kids] at h
    by_cases h1 : k = k'
    · subst h1
      by_cases h2 : s = s'
      · subst h2
        simp only [ne_eq, not_true_eq_false, if_false] at h
        rw [cmpTs_zero l l' h]
      · simp only [ne_eq, not_true_eq_false, if_false, h2, not_false_eq_true, if_true] at h
        exact absurd h (cmpS_ne h2)
    · simp only [ne_eq, h1, not_false_eq_true, if_true] at h
      exact absurd h (cmpI_ne h1)
theorem cmpTs_zero : ∀ ts us : List Tm, cmpTs ts us = 0 → ts = us
  | [], [], _ => rfl
  | [], _ :: _, h => by simp [cmpTs] at h
  | _ :: _, [], h => by simp [cmpTs] at h
  | t :: ts, u :: us, h => by
    simp only [cmpTs] at h
    by_cases h1 : cmpT t u = 0
    · simp only [h1, ne_eq, not_true_eq_false, if_false] at h
      rw [cmpT_zero t u h1, cmpTs_zero ts us h]
    · simp only [ne_eq, h1, not_false_eq_true, if_true] at h
end
mutual
theorem cmpT_self : ∀ t : Tm, cmpT t t = 0
  | .mk k s l => by simp [cmpT, Tm.kind, Tm.text, Tm.kids, cmpTs_self l]
theorem cmpTs_self : ∀ ts : List Tm, cmpTs ts ts = 0
  | [] => by simp [cmpTs]
  | t :: ts => by simp [cmpTs, cmpT_self t, cmpTs_self ts]
end
theorem cmpTs_iff (ts us : List Tm) : cmpTs ts us = 0 ↔ ts = us := ⟨cmpTs_zero ts us, fun h => h ▸ cmpTs_self ts⟩

/- a function of two slices, at the Kids of all pairs at the same place -/
theorem kids_all {E : IEnv} {f : AV} {c : Tm → Tm → Int} {ts us : List Tm} {xs ys : List AV} (h1 : Rts ts xs) (h2 : Rts us ys)
    (hf : ∀ t u v w, t ∈ ts → u ∈ us → Sl t.kids v → Sl u.kids w → Fn E f [v, w] (.int .i64 (c t u))) :
    ∃ K, ∀ k, K ≤ k → ∀ (i : Nat) t u, ts[i]? = some t → us[i]? = some u → ∃ v w, xs[i]? = some (.agg [.int .i64 t.kind, .str t.text, v]) ∧ ys[i]? = some (.agg [.int .i64 u.kind, .str u.text, w]) ∧ ∀ s, callA E k none f [v, w] s = some (.ret (.int .i64 (c t u)), false, s) := by
  let kid : AV → AV := fun x => match x with | .agg [_, _, v] => v | _ => .junk
  obtain ⟨K, hK⟩ := Fn.all (E := E) (tgt := f) (α := (Tm × AV) × (Tm × AV)) (args := fun q => [kid q.1.2, kid q.2.2]) (v := fun q => .int .i64 (c q.1.1 q.2.1)) (xs := (ts.zip xs).zip (us.zip ys)) (by
    intro q hq
    obtain ⟨i, hi⟩ := List.mem_iff_getElem?.1 hq
    obtain ⟨ha, hb⟩ := List.getElem?_zip_eq_some.1 hi
    obtain ⟨a1, a2⟩ := List.getElem?_zip_eq_some.1 ha
    obtain ⟨b1, b2⟩ := List.getElem?_zip_eq_some.1 hb
    obtain ⟨x, a3, a4⟩ := h1.get a1
    obtain ⟨y, b3, b4⟩ := h2.get b1
    rw [a3] at a2; cases a2
    rw [b3] at b2; cases b2
    obtain ⟨v, e1, hv⟩ := a4.open
    obtain ⟨w, e2, hw⟩ := b4.open
    have k1 : kid q.1.2 = v := by rw [e1]
    have k2 : kid q.2.2 = w := by rw [e2]
    rw [k1, k2]
    exact hf _ _ _ _ (List.mem_of_getElem? a1) (List.mem_of_getElem? b1) hv hw)
  refine ⟨K, fun k hk i t u ht hu => ?_⟩
  obtain ⟨x, a3, a4⟩ := h1.get ht
  obtain ⟨y, b3, b4⟩ := h2.get hu
  obtain ⟨v, e1, hv⟩ := a4.open
  obtain ⟨w, e2, hw⟩ := b4.open
  subst e1 e2
  exact ⟨v, w, a3, b3, hK k hk ((t, _), (u, _)) (List.mem_iff_getElem?.2 ⟨i, List.getElem?_zip_eq_some.2 ⟨List.getElem?_zip_eq_some.2 ⟨ht, a3⟩, List.getElem?_zip_eq_some.2 ⟨hu, b3⟩⟩⟩)⟩
end Ab
