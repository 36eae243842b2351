/- Terms as values, one form for each; slices under way in a function that others write beside. No condition. -/
import Derived.Test.YtcbbpkdidkbepaaDoorAb08
set_option linter.all false
namespace Ab
open Go Go.RowKit
mutual
def cano : Tm → AV
  | .mk k s kids => .agg [.int .i64 k, .str s, endV 3 (canoL kids)]
def canoL : List Tm → List AV
  | [] => []
  | t :: ts => cano t :: canoL ts
end
theorem canoL_length : ∀ ts : List Tm, (canoL ts).length = ts.length
  | [] => rfl
  | _ :: ts => by simp [canoL, canoL_length ts]
theorem canoL_append : ∀ a b : List Tm, canoL (a ++ b) = canoL a ++ canoL b
  | [], _ => rfl
  | _ :: a, b => by simp [canoL, canoL_append a b]
mutual
theorem cano_rt : ∀ {t : Tm}, nT t ≤ maxLen → Rt t (cano t)
  | .mk k s kids, h => by
    simp only [nT] at h
    have h1 := canoL_rts (ts := kids) (by omega)
    have h2 := length_le_nTs kids
    have h3 := canoL_length kids
    simp only [cano]
    exact Rt.mk (Sl.end h1 (by omega))
theorem canoL_rts : ∀ {ts : List Tm}, nTs ts ≤ maxLen → Rts ts (canoL ts)
  | [], _ => by simp [Rts, canoL]
  | t :: ts, h => by
    simp only [nTs] at h
    simp only [Rts, canoL]
    exact ⟨_, _, rfl, cano_rt (by omega), canoL_rts (by omega)⟩
end
@[simp] theorem endV_untok (z : Nat) (ys : List AV) : (endV z ys).untok = endV z ys := by
  unfold endV; split <;> rfl
theorem cano_untok (t : Tm) : (cano t).untok = cano t := by
  cases t; simp [cano]
theorem cano_agg (t : Tm) : ∃ a b c, cano t = .agg [a, b, c] := by
  cases t; exact ⟨_, _, _, rfl⟩
theorem endV_data (z : Nat) (ys : List AV) : (endV z ys).data = AV.dataL ys := by
  unfold endV; split
  · rename_i h; subst h; rfl
  · rfl
mutual
theorem cano_data : ∀ t : Tm, (cano t).data = true
  | .mk k s kids => by simp [cano, endV_data, canoL_data kids]
theorem canoL_data : ∀ ts : List Tm, AV.dataL (canoL ts) = true
  | [] => rfl
  | t :: ts => by simp [canoL, cano_data t, canoL_data ts]
end

/- a slice made by append, where others write tokens beside: tk the tokens at the start, h what came behind -/
def outOk (out : AV) (z : Nat) (ys : List AV) (tk h : List Nat) : Prop := (ys = [] ∧ out = .sl .nil z []) ∨ (∃ q, out = .sl (.tok (tk.length + q)) z ys ∧ h[q]? = some ys.length ∧ ys ≠ [])
theorem outOk.more {out : AV} {z : Nat} {ys : List AV} {tk h : List Nat} (ho : outOk out z ys tk h) (h' : List Nat) : outOk out z ys tk (h ++ h') := by
  rcases ho with h1 | ⟨q, h1, h2, h3⟩
  · exact .inl h1
  · obtain ⟨hq, _⟩ := List.getElem?_eq_some_iff.1 h2
    exact .inr ⟨q, h1, by rw [List.getElem?_append_left hq]; exact h2, h3⟩
theorem outOk.sl {out : AV} {z : Nat} {ys : List AV} {tk h : List Nat} (ho : outOk out z ys tk h) : ∃ o, out = .sl o z ys ∧ (o = .nil → ys = []) ∧ out.untok = endV z ys := by
  rcases ho with ⟨rfl, rfl⟩ | ⟨q, rfl, _, h3⟩
  · exact ⟨_, rfl, fun _ => rfl, rfl⟩
  · exact ⟨_, rfl, (fun h => by cases h), by unfold endV; rw [if_neg h3]; rfl⟩
theorem app_eff {out : AV} {z : Nat} {ys : List AV} {tk h : List Nat} (ho : outOk out z ys tk h) {bl : List AB} {ro rt : Nat} {o : Own} {w : AV} (hl : ys.length < most) (hr : rt ≤ tk.length) :
    ∃ out' h', appA { bl, tk := tk ++ h, ro, rt } z out (.sl o z [w]) = some (out', { bl, tk := tk ++ h', ro, rt }) ∧ outOk out' z (ys ++ [w.untok]) tk h' := by
  have hmm : most = 1073741824 := rfl
  rcases ho with ⟨rfl, rfl⟩ | ⟨q, rfl, h2, h3⟩
  · refine ⟨.sl (.tok (tk.length + h.length)) z [w.untok], h ++ [1], ?_, .inr ⟨h.length, rfl, by simp, by simp⟩⟩
    simp [appA, ysOf, AV.untokL, most]
  · obtain ⟨hq, _⟩ := List.getElem?_eq_some_iff.1 h2
    refine ⟨.sl (.tok (tk.length + q)) z (ys ++ [w.untok]), h.set q (ys.length + 1), ?_, .inr ⟨q, rfl, by simp [hq], by simp⟩⟩
    have h4 : ys.length + 1 ≤ most := hl
    have h5 : rt ≤ tk.length + q := by omega
    simp [appA, ysOf, AV.untokL, h4, h5, h2, append_get]
end Ab

/- What 'format.named' answers. No condition but the table. -/
namespace Ab.R
open Go Ab Go.RowKit
set_option maxRecDepth 10000
set_option linter.unusedSimpArgs false
set_option linter.unusedVariables false

/- the digits of small numbers -/
def itoaS (n : Nat) : List UInt8 := if n < 10 then [UInt8.ofNat (48 + n)] else [UInt8.ofNat (48 + n / 10), UInt8.ofNat (48 + n % 10)]
def PrimI (E : IEnv) : Prop := ∀ n : Nat, n < 100 → FnK 4 E (.fn n_strconv_Itoa [] []) [.int .i64 n] (.str (itoaS n))

mutual
def nameE : Nat → Tm → Tm × Nat
  | m, .mk k _ kids => if k = 4 then (.mk 4 [] (nameS m kids).1, (nameS m kids).2) else (.mk k (itoaS (m + 1)) [], m + 1)
def nameS : Nat → List Tm → List Tm × Nat
  | m, [] => ([], m)
  | m, t :: ts => ((nameE m t).1 :: (nameS (nameE m t).2 ts).1, (nameS (nameE m t).2 ts).2)
end
def namedT (ts : List Tm) : List Tm := (nameS 0 ts).1
theorem nameS_append : ∀ (m : Nat) (a b : List Tm), nameS m (a ++ b) = ((nameS m a).1 ++ (nameS (nameS m a).2 b).1, (nameS (nameS m a).2 b).2)
  | m, [], b => by simp [nameS]
  | m, t :: a, b => by simp [nameS, nameS_append (nameE m t).2 a b]
theorem nameS_length : ∀ (m : Nat) (a : List Tm), (nameS m a).1.length = a.length
  | m, [] => by simp [nameS]
  | m, t :: a => by simp [nameS, nameS_length (nameE m t).2 a]
mutual
theorem nameE_le : ∀ (m : Nat) (t : Tm), m ≤ (nameE m t).2 ∧ (nameE m t).2 ≤ m + nT t
  | m, .mk k s kids => by
    have := nameS_le m kids
    simp only [nameE, nT]; split <;> simp only <;> omega
theorem nameS_le : ∀ (m : Nat) (a : List Tm), m ≤ (nameS m a).2 ∧ (nameS m a).2 ≤ m + nTs a
  | m, [] => by simp [nameS, nTs]
  | m, t :: a => by
    have h1 := nameE_le m t
    have h2 := nameS_le (nameE m t).2 a
    simp only [nameS, nTs]; omega
end
theorem nameS_take {ts : List Tm} {m i : Nat} {t : Tm} (h : ts[i]? = some t) : nameS m (ts.take (i + 1)) = ((nameS m (ts.take i)).1 ++ [(nameE (nameS m (ts.take i)).2 t).1], (nameE (nameS m (ts.take i)).2 t).2) := by
  rw [List.take_add_one, h, nameS_append]; simp [nameS]
theorem nTs_take_le (ts : List Tm) (i : Nat) : nTs (ts.take i) ≤ nTs ts := by
  conv => rhs; rw [← List.take_append_drop i ts, nTs_append]
  omega

mutual
theorem nameE_nT : ∀ (m : Nat) (t : Tm), nT (nameE m t).1 ≤ nT t
  | m, .mk k s kids => by
    have := nameS_nTs m kids
    simp only [nameE]
    split
    · simp only [nT]; omega
    · simp only [nT, nTs]; omega
theorem nameS_nTs : ∀ (m : Nat) (a : List Tm), nTs (nameS m a).1 ≤ nTs a
  | m, [] => by simp [nameS, nTs]
  | m, t :: a => by
    have h1 := nameE_nT m t
    have h2 := nameS_nTs (nameE m t).2 a
    simp only [nameS, nTs]; omega
end
abbrev nameFn (b : Nat) : AV := .fn n___format_namer__next [.ptr b 0] []
abbrev walkFn (b : Nat) : AV := .fn n_format_named_1 [] [.ptr (b + 2) 0, .ptr (b + 1) 0]
/- the state while names are given: m so far -/
abbrev nmS (bl : List AB) (ro rt m : Nat) (g : List AB) (tk : List Nat) : St := { bl := bl ++ (.cells [.int .i64 m] :: .cells [nameFn bl.length] :: .cells [walkFn bl.length] :: g), tk, ro, rt }

def digitsS : List UInt8 := [48, 49, 50, 51, 52, 53, 54, 55, 56, 57, 97, 98, 99, 100, 101, 102, 103, 104, 105, 106, 107, 108, 109, 110, 111, 112, 113, 114, 115, 116, 117, 118, 119, 120, 121, 122]
def smallsS : List UInt8 := (List.range 100).flatMap fun i => [UInt8.ofNat (48 + i / 10), UInt8.ofNat (48 + i % 10)]
theorem digits_at : ∀ i < 10, (digitsS.take (i + 1)).drop i = itoaS i := by decide +kernel
theorem smalls_at : ∀ i < 100, i < 10 ∨ (smallsS.take (2 * i + 2)).drop (2 * i) = itoaS i := by decide +kernel
section
variable {E : IEnv} (hE : E.fns = Table.fn table)
include hE
theorem fn_small (n : Nat) (hn : n < 100) : FnK 1 E (.fn n_internal_strconv_small [] []) [.int .i64 n] (.str (itoaS n)) :=
  FnK.byW (h_internal_strconv_small hE) rfl rfl (K := 0) fun k hk bl tk => by
    by_cases h : n < 10
    · have h1 : (n : Int) < 10 := by omega
      have hw : IntKind.wrap .i64 ((n : Int) + 1) = ((n + 1 : Nat) : Int) := by rw [wrapIn (by omega) (by omega)]; omega
      have hs := digits_at n h
      have hsl : ∀ tk, sliceA tk 0 (.str digitsS) (some (.int .i64 n)) (some (.int .i64 ((n + 1 : Nat) : Int))) none = some (.str (itoaS n)) := by
        intro tk
        have h2 : digitsS.length = 36 := rfl
        have b1 : bound (some (.int .i64 ((n + 1 : Nat) : Int))) digitsS.length digitsS.length = some (n + 1) := by simp only [bound, h2]; rw [if_pos (by omega)]; rfl
        have b2 : bound (some (.int .i64 (n : Int))) 0 (n + 1) = some n := by simp only [bound]; rw [if_pos (by omega)]; rfl
        simp only [sliceA, Option.isSome_none, Bool.false_eq_true, ne_eq, not_true_eq_false, or_self, if_false, b1, b2, hs]
      unfold digitsS at hsl
      simp only [F_internal_strconv_small, b_internal_strconv_small]
      simp [h1, hw, -Int.natCast_add, hsl]
    · have h1 : ¬ (n : Int) < 10 := by omega
      have hw1 : IntKind.wrap .i64 ((n : Int) * 2) = ((2 * n : Nat) : Int) := by rw [wrapIn (by omega) (by omega)]; omega
      have hw : IntKind.wrap .i64 (((2 * n : Nat) : Int) + 2) = ((2 * n + 2 : Nat) : Int) := by rw [wrapIn (by omega) (by omega)]; omega
      have hs := (smalls_at n hn).resolve_left h
      have hsl : ∀ tk, sliceA tk 0 (.str smallsS) (some (.int .i64 ((2 * n : Nat) : Int))) (some (.int .i64 ((2 * n + 2 : Nat) : Int))) none = some (.str (itoaS n)) := by
        intro tk
        have h2 : smallsS.length = 200 := by decide +kernel
        have b1 : bound (some (.int .i64 ((2 * n + 2 : Nat) : Int))) smallsS.length smallsS.length = some (2 * n + 2) := by simp only [bound, h2]; rw [if_pos (by omega)]; rfl
        have b2 : bound (some (.int .i64 ((2 * n : Nat) : Int))) 0 (2 * n + 2) = some (2 * n) := by simp only [bound]; rw [if_pos (by omega)]; rfl
        simp only [sliceA, Option.isSome_none, Bool.false_eq_true, ne_eq, not_true_eq_false, or_self, if_false, b1, b2, hs]
      have hss : smallsS = [48, 48, 48, 49, 48, 50, 48, 51, 48, 52, 48, 53, 48, 54, 48, 55, 48, 56, 48, 57, 49, 48, 49, 49, 49, 50, 49, 51, 49, 52, 49, 53, 49, 54, 49, 55, 49, 56, 49, 57, 50, 48, 50, 49, 50, 50, 50, 51, 50, 52, 50, 53, 50, 54, 50, 55, 50, 56, 50, 57, 51, 48, 51, 49, 51, 50, 51, 51, 51, 52, 51, 53, 51, 54, 51, 55, 51, 56, 51, 57, 52, 48, 52, 49, 52, 50, 52, 51, 52, 52, 52, 53, 52, 54, 52, 55, 52, 56, 52, 57, 53, 48, 53, 49, 53, 50, 53, 51, 53, 52, 53, 53, 53, 54, 53, 55, 53, 56, 53, 57, 54, 48, 54, 49, 54, 50, 54, 51, 54, 52, 54, 53, 54, 54, 54, 55, 54, 56, 54, 57, 55, 48, 55, 49, 55, 50, 55, 51, 55, 52, 55, 53, 55, 54, 55, 55, 55, 56, 55, 57, 56, 48, 56, 49, 56, 50, 56, 51, 56, 52, 56, 53, 56, 54, 56, 55, 56, 56, 56, 57, 57, 48, 57, 49, 57, 50, 57, 51, 57, 52, 57, 53, 57, 54, 57, 55, 57, 56, 57, 57] := by decide +kernel
      rw [hss] at hsl
      simp only [F_internal_strconv_small, b_internal_strconv_small]
      simp [h1, hw1, hw, -Int.natCast_add, -Int.natCast_mul, hsl]
theorem primI : PrimI E := by
  intro n hn
  have h1 : FnK 2 E (.fn n_internal_strconv_FormatInt [] []) [.int .i64 n, .int .i64 10] (.str (itoaS n)) :=
    FnK.byW (h_internal_strconv_FormatInt hE) rfl rfl (K := 1) fun k hk bl tk => by
      have hs := fn_small hE n hn k hk
      have c1 : (0 : Int) ≤ n := by omega
      have c2 : (n : Int) < 100 := by omega
      simp [F_internal_strconv_FormatInt, b_internal_strconv_FormatInt, c1, c2, hs]
  have h2 : FnK 3 E (.fn n_internal_strconv_Itoa [] []) [.int .i64 n] (.str (itoaS n)) :=
    FnK.byW (h_internal_strconv_Itoa hE) rfl rfl (K := 2) fun k hk bl tk => by simp [F_internal_strconv_Itoa, b_internal_strconv_Itoa, h1 k hk]
  exact FnK.byW (h_strconv_Itoa hE) rfl rfl (K := 3) fun k hk bl tk => by simp [F_strconv_Itoa, b_strconv_Itoa, h2 k hk]
end
section
variable {E : IEnv} (hE : E.fns = Table.fn table) (hI : PrimI E)
include hE hI
theorem call_next {k : Nat} (bl : List AB) (ro rt m : Nat) (g : List AB) (tk : List Nat) (hro : ro ≤ bl.length) (hm : m + 1 < 100) : callA E (k + 5) none (nameFn bl.length) [] (nmS bl ro rt m g tk) = some (.ret (.str (itoaS (m + 1))), false, nmS bl ro rt (m + 1) g tk) := by
  have hw : IntKind.wrap .i64 ((m : Int) + 1) = ((m + 1 : Nat) : Int) := by rw [wrapIn (by omega) (by omega)]; omega
  have hcall := hI (m + 1) hm (k + 4) (by omega)
  have key := call_byW (h___format_namer__next hE) (first := [.ptr bl.length 0]) (caps := []) (args := []) rfl (k := k + 4) (s := nmS bl ro rt m g tk) (Post := fun v s' => v = .str (itoaS (m + 1)) ∧ s' = nmS bl ro rt (m + 1) g tk) (by
    have hcall' : ∀ s, callA E (k + 4) none (.fn n_strconv_Itoa [] []) [.int .i64 ((m : Int) + 1)] s = some (.ret (.str (itoaS (m + 1))), false, s) := by exact_mod_cast hcall
    have hw' : IntKind.wrap .i64 ((m : Int) + 1) = (m : Int) + 1 := by rw [hw]; omega
    simp [F___format_namer__next, b___format_namer__next, s0Of, finA, nmS, hw', hro, hcall', append_get, append_get0, append_set, append_set0])
  obtain ⟨v, s', h, rfl, rfl⟩ := key
  exact h

theorem call_walk : ∀ (n : Nat) {ts : List Tm} {v : AV} (bl : List AB) (ro rt m : Nat) (g : List AB) (tk : List Nat) (k : Nat), nTs ts < n → Sl ts v → ro ≤ bl.length → rt ≤ tk.length → m + nTs ts < 100 → 2 * nTs ts + 6 ≤ k →
    ∃ out g' h, callA E k none (walkFn bl.length) [v] (nmS bl ro rt m g tk) = some (.ret out, false, nmS bl ro rt (nameS m ts).2 g' (tk ++ h)) ∧ outOk out 3 (canoL (nameS m ts).1) tk h
  | 0, _, _, _, _, _, _, _, _, _, h, _, _, _, _, _ => by omega
  | n + 1, ts, v, bl, ro, rt, m, g, tk, k, hn, hv, hro, hrt, hm, hk => by
    obtain ⟨o, xs, rfl, _, hR⟩ := hv
    have hmx : maxLen = 9223372036854775807 := rfl
    have hmm : most = 1073741824 := rfl
    have hl := hR.length
    have hlt := length_le_nTs ts
    obtain ⟨k, rfl⟩ : ∃ j, k = j + 1 := ⟨k - 1, by omega⟩
    have key := call_byW (h_format_named_1 hE) (first := []) (caps := [.ptr (bl.length + 2) 0, .ptr (bl.length + 1) 0]) (args := [.sl o 3 xs]) rfl (k := k) (s := nmS bl ro rt m g tk)
      (Post := fun out s' => ∃ g' h, s' = nmS bl ro rt (nameS m ts).2 g' (tk ++ h) ∧ outOk out 3 (canoL (nameS m ts).1) tk h) (by
      simp [F_format_named_1, b_format_named_1, s0Of]
      refine wp_loop xs.length (fun i e s => ∃ g' h out, e = [(1, .ptr (bl.length + 2) 0), (2, .ptr (bl.length + 1) 0), (5, out), (8, .sl o 3 xs), (9, .int .i64 xs.length), (10, .int .i64 i)] ∧
        s = nmS bl ro rt (nameS m (ts.take i)).2 g' (tk ++ h) ∧ outOk out 3 (canoL (nameS m (ts.take i)).1) tk h) (by omega) ?_ ?_ ?_
      · exact ⟨g, [], .sl .nil 3 [], by simp, by simp [nameS], .inl ⟨by simp [nameS, canoL], rfl⟩⟩
      · rintro i e s hi ⟨g', h, out, rfl, rfl, hout⟩
        obtain ⟨t, ht⟩ : ∃ t, ts[i]? = some t := ⟨_, List.getElem?_eq_getElem (by omega)⟩
        obtain ⟨x, hx, hrx⟩ := hR.get ht
        obtain ⟨kx, rfl, hkx⟩ := hrx.open
        obtain ⟨_, hx1⟩ := List.getElem?_eq_some_iff.1 hx
        have e1 : idx (.int .i64 i) xs.length = some i := idx_nat hi
        have hwr : IntKind.wrap .i64 ((i : Int) + 1) = i + 1 := wrapIn (by omega) (by omega)
        have htk := nameS_take (m := m) ht
        have hle1 := nameS_le m (ts.take i)
        have hle2 := nTs_take_le ts (i + 1)
        have hle3 : nTs (ts.take (i + 1)) = nTs (ts.take i) + nT t := by rw [List.take_add_one, ht, nTs_append]; simp [nTs]
        have hnt := nT_eq t
        have hcl := canoL_length (nameS m (ts.take i)).1
        have hcl2 := nameS_length m (ts.take i)
        have hcl3 : (ts.take i).length ≤ ts.length := by simp; omega
        have hro' : ∀ j, ro ≤ bl.length + j := fun j => by omega
        by_cases h4 : t.kind = 4
        · obtain ⟨o2, g2, h2, hcall, ho2⟩ := call_walk n bl ro rt (nameS m (ts.take i)).2 (g' ++ [.cells [.int .i64 t.kind, .str t.text, kx]]) (tk ++ h) k (by omega) hkx hro (by simp; omega) (by omega) (by omega)
          obtain ⟨o3, h3, h5, ho3⟩ := ho2.sl
          obtain ⟨out', h', happ, hok⟩ := app_eff (hout.more h2) (bl := bl ++ (.cells [.int .i64 (nameS (nameS m (ts.take i)).2 t.kids).2] :: .cells [nameFn bl.length] :: .cells [walkFn bl.length] :: g2)) (ro := ro) (rt := rt) (o := .full) (w := .agg [.int .i64 4, .str [], endV 3 (canoL (nameS (nameS m (ts.take i)).2 t.kids).1)]) (by omega) hrt
          have hne : nameE (nameS m (ts.take i)).2 t = (.mk 4 [] (nameS (nameS m (ts.take i)).2 t.kids).1, (nameS (nameS m (ts.take i)).2 t.kids).2) := by
            cases t; simp only [Tm.kind, Tm.kids] at *; simp [nameE, h4]
          rw [htk, hne]
          subst h3
          simp [nmS] at hcall
          simp [h4] at hx1 hcall
          simp [l0_format_named_1, nmS, hi, e1, hx1, hwr, h4, hro', append_get, append_get0, append_set, append_set0, hcall, setElems, repl, hasSize, ho3, happ]
          refine ⟨_, h', ⟨rfl, rfl⟩, ?_⟩
          simpa [canoL_append, canoL, cano] using hok
        · have hb4 : (t.kind == 4) = false := by simpa using h4
          have hnext := call_next hE hI (k := k - 5) bl ro rt (nameS m (ts.take i)).2 (g' ++ [.cells [.int .i64 t.kind, .str t.text, kx]]) (tk ++ h) hro (by omega)
          rw [show k - 5 + 5 = k by omega] at hnext
          obtain ⟨out', h', happ, hok⟩ := app_eff hout (bl := bl ++ (.cells [.int .i64 ((nameS m (ts.take i)).2 + 1 : Nat)] :: .cells [nameFn bl.length] :: .cells [walkFn bl.length] :: (g' ++ [.cells [.int .i64 t.kind, .str t.text, kx]]))) (ro := ro) (rt := rt) (o := .full) (w := .agg [.int .i64 t.kind, .str (itoaS ((nameS m (ts.take i)).2 + 1)), .sl .nil 3 []]) (by omega) hrt
          have hne : nameE (nameS m (ts.take i)).2 t = (.mk t.kind (itoaS ((nameS m (ts.take i)).2 + 1)) [], (nameS m (ts.take i)).2 + 1) := by
            cases t; simp only [Tm.kind] at *; simp [nameE, h4]
          rw [htk, hne]
          simp [nmS] at hnext
          simp at happ
          simp [l0_format_named_1, nmS, hi, e1, hx1, hwr, hb4, hro', append_get, append_get0, append_set, append_set0, hnext, setElems, repl, hasSize, happ]
          refine ⟨_, h', ⟨rfl, rfl⟩, ?_⟩
          simpa [canoL_append, canoL, cano, endV] using hok
      · rintro e s ⟨g', h, out, rfl, rfl, hout⟩
        have : ts.take xs.length = ts := List.take_of_length_le (by omega)
        rw [this] at hout ⊢
        simp [l0_format_named_1, finA, nmS]
        exact ⟨g', h, ⟨rfl, rfl⟩, hout⟩)
    obtain ⟨out, s', hc, g', h, rfl, hout⟩ := key
    exact ⟨out, g', h, hc, hout⟩

theorem fn_named {ts : List Tm} {v : AV} (hv : Sl ts v) (hn : nTs ts < 100) : Fn E (.fn n_format_named [] []) [v] (endV 3 (canoL (namedT ts))) := by
  refine Fn.byW (h_format_named hE) rfl rfl ⟨2 * nTs ts + 6, fun k hk bl tk => ?_⟩
  obtain ⟨out, g', h, hc, ho⟩ := call_walk hE hI (nTs ts + 1) bl bl.length tk.length 0 [] tk k (by omega) hv (Nat.le_refl _) (Nat.le_refl _) (by omega) hk
  obtain ⟨o, rfl, h1, h2⟩ := ho.sl
  have hd := canoL_data (nameS 0 ts).1
  simp [nmS] at hc
  simp [F_format_named, b_format_named, hc, append_get, append_get0, append_set, append_set0, h2, hd, namedT]
end
end Ab.R

/- The order of terms as plain data; a function of the Kids of pairs of terms. No condition. -/
namespace Ab
open Go Go.RowKit
def cmpI (a b : Int) : Int := if a < b then -1 else if a > b then 1 else 0
def cmpS (a b : List UInt8) : Int := if Go.Op.bytesLess a b then -1 else if a = b then 0 else 1
theorem bytesLess_self : ∀ s : List UInt8, Go.Op.bytesLess s s = false
  | [] => rfl
  | a :: s => by simp [Go.Op.bytesLess, bytesLess_self s]
theorem cmpI_ne {a b : Int} (h : a ≠ b) : cmpI a b ≠ 0 := by unfold cmpI; split; omega; split; omega; omega
theorem cmpS_ne {a b : List UInt8} (h : a ≠ b) : cmpS a b ≠ 0 := by unfold cmpS; split; omega; simp [h]
mutual
def cmpT : Tm → Tm → Int
  | .mk k s l, u => if k ≠ u.kind then cmpI k u.kind else if s ≠ u.text then cmpS s u.text else cmpTs l u.kids
def cmpTs : List Tm → List Tm → Int
  | [], [] => 0
  | [], _ :: _ => -1
  | _ :: _, [] => 1
  | t :: ts, u :: us => if cmpT t u ≠ 0 then cmpT t u else cmpTs ts us
end
theorem cmpT_eq (t u : Tm) : cmpT t u = if t.kind ≠ u.kind then cmpI t.kind u.kind else if t.text ≠ u.text then cmpS t.text u.text else cmpTs t.kids u.kids := by
  cases t; cases u; simp only [cmpT, Tm.kind, Tm.text, Tm.kids]; congr
theorem cmpTs_step {ts us : List Tm} {i : Nat} {t u : Tm} (ht : ts[i]? = some t) (hu : us[i]? = some u) :
    cmpTs (ts.drop i) (us.drop i) = if cmpT t u ≠ 0 then cmpT t u else cmpTs (ts.drop (i + 1)) (us.drop (i + 1)) := by
  obtain ⟨h1, h2⟩ := List.getElem?_eq_some_iff.1 ht
  obtain ⟨h3, h4⟩ := List.getElem?_eq_some_iff.1 hu
  rw [List.drop_eq_getElem_cons h1, List.drop_eq_getElem_cons h3, h2, h4]; simp only [cmpTs]
theorem cmpTs_end (ts us : List Tm) : cmpTs (ts.drop (min ts.length us.length)) (us.drop (min ts.length us.length)) = cmpI ts.length us.length := by
  by_cases h : ts.length < us.length
  · rw [Nat.min_eq_left (by omega), List.drop_length, List.drop_eq_getElem_cons h]
    simp only [cmpTs, cmpI]; rw [if_pos (by omega)]
  · rw [Nat.min_eq_right (by omega), List.drop_length]
    by_cases h2 : us.length < ts.length
    · rw [List.drop_eq_getElem_cons h2]; simp only [cmpTs, cmpI]; rw [if_neg (by omega), if_pos (by omega)]
    · rw [List.drop_of_length_le (by omega)]; simp only [cmpTs, cmpI]; rw [if_neg (by omega), if_neg (by omega)]
mutual
theorem cmpT_zero : ∀ t u : Tm, cmpT t u = 0 → t = u
  | .mk k s l, .mk k' s' l', h => by
    simp only [cmpT, Tm.kind, Tm.text, Tm.kids] at h
    by_cases h1 : k = k'
    · subst h1
      by_cases h2 : s = s'
      · subst h2
        simp only [ne_eq, not_true_eq_false, if_false] at h
        rw [cmpTs_zero l l' h]
      · simp only [ne_eq, not_true_eq_false, if_false, h2, not_false_eq_true, if_true] at h
        exact absurd h (cmpS_ne h2)
    · simp only [ne_eq, h1, not_false_eq_true, if_true] at h
      exact absurd h (cmpI_ne h1)
theorem cmpTs_zero : ∀ ts us : List Tm, cmpTs ts us = 0 → ts = us
  | [], [], _ => rfl
  | [], _ :: _, h => by simp [cmpTs] at h
  | _ :: _, [], h => by simp [cmpTs] at h
  | t :: ts, u :: us, h => by
    simp only [cmpTs] at h
    by_cases h1 : cmpT t u = 0
    · simp only [h1, ne_eq, not_true_eq_false, if_false] at h
      rw [cmpT_zero t u h1, cmpTs_zero ts us h]
    · simp only [ne_eq, h1, not_false_eq_true, if_true] at h
end
mutual
theorem cmpT_self : ∀ t : Tm, cmpT t t = 0
  | .mk k s l => by simp [cmpT, Tm.kind, Tm.text, Tm.kids, cmpTs_self l]
theorem cmpTs_self : ∀ ts : List Tm, cmpTs ts ts = 0
  | [] => by simp [cmpTs]
  | t :: ts => by simp [cmpTs, cmpT_self t, cmpTs_self ts]
end
theorem cmpTs_iff (ts us : List Tm) : cmpTs ts us = 0 ↔ ts = us := ⟨cmpTs_zero ts us, fun h => h ▸ cmpTs_self ts⟩

/- a function of two slices, at the Kids of all pairs at the same place -/
theorem kids_all {E : IEnv} {f : AV} {c : Tm → Tm → Int} {ts us : List Tm} {xs ys : List AV} (h1 : Rts ts xs) (h2 : Rts us ys)
    (hf : ∀ t u v w, t ∈ ts → u ∈ us → Sl t.kids v → Sl u.kids w → Fn E f [v, w] (.int .i64 (c t u))) :
    ∃ K, ∀ k, K ≤ k → ∀ (i : Nat) t u, ts[i]? = some t → us[i]? = some u → ∃ v w, xs[i]? = some (.agg [.int .i64 t.kind, .str t.text, v]) ∧ ys[i]? = some (.agg [.int .i64 u.kind, .str u.text, w]) ∧ ∀ s, callA E k none f [v, w] s = some (.ret (.int .i64 (c t u)), false, s) := by
  let kid : AV → AV := fun x => match x with | .agg [_, _, v] => v | _ => .junk
  obtain ⟨K, hK⟩ := Fn.all (E := E) (tgt := f) (α := (Tm × AV) × (Tm × AV)) (args := fun q => [kid q.1.2, kid q.2.2]) (v := fun q => .int .i64 (c q.1.1 q.2.1)) (xs := (ts.zip xs).zip (us.zip ys)) (by
    intro q hq
    obtain ⟨i, hi⟩ := List.mem_iff_getElem?.1 hq
    obtain ⟨ha, hb⟩ := List.getElem?_zip_eq_some.1 hi
    obtain ⟨a1, a2⟩ := List.getElem?_zip_eq_some.1 ha
    obtain ⟨b1, b2⟩ := List.getElem?_zip_eq_some.1 hb
    obtain ⟨x, a3, a4⟩ := h1.get a1
    obtain ⟨y, b3, b4⟩ := h2.get b1
    rw [a3] at a2; cases a2
    rw [b3] at b2; cases b2
    obtain ⟨v, e1, hv⟩ := a4.open
    obtain ⟨w, e2, hw⟩ := b4.open
    have k1 : kid q.1.2 = v := by rw [e1]
    have k2 : kid q.2.2 = w := by rw [e2]
    rw [k1, k2]
    exact hf _ _ _ _ (List.mem_of_getElem? a1) (List.mem_of_getElem? b1) hv hw)
  refine ⟨K, fun k hk i t u ht hu => ?_⟩
  obtain ⟨x, a3, a4⟩ := h1.get ht
  obtain ⟨y, b3, b4⟩ := h2.get hu
  obtain ⟨v, e1, hv⟩ := a4.open
  obtain ⟨w, e2, hw⟩ := b4.open
  subst e1 e2
  exact ⟨v, w, a3, b3, hK k hk ((t, _), (u, _)) (List.mem_iff_getElem?.2 ⟨i, List.getElem?_zip_eq_some.2 ⟨List.getElem?_zip_eq_some.2 ⟨ht, a3⟩, List.getElem?_zip_eq_some.2 ⟨hu, b3⟩⟩⟩)⟩
end Ab

/- What the comparisons answer. No condition but the table. -/
namespace Ab.R
open Go Ab Go.RowKit
set_option maxRecDepth 10000
set_option linter.unusedSimpArgs false
set_option linter.unusedVariables false
section
variable {E : IEnv} (hE : E.fns = Table.fn table)
include hE
theorem fn_isNaN_int (a : Int) : FnK 1 E (.fn n_cmp_isNaN_int_ [] []) [.int .i64 a] (.bool false) :=
  FnK.byW (h_cmp_isNaN_int_ hE) rfl rfl (K := 0) fun k hk bl tk => by simp [F_cmp_isNaN_int_, b_cmp_isNaN_int_]
theorem fn_isNaN_string (a : List UInt8) : FnK 1 E (.fn n_cmp_isNaN_string_ [] []) [.str a] (.bool false) :=
  FnK.byW (h_cmp_isNaN_string_ hE) rfl rfl (K := 0) fun k hk bl tk => by simp [F_cmp_isNaN_string_, b_cmp_isNaN_string_]
theorem fn_cmp_int (a b : Int) : FnK 2 E (.fn n_cmp_Compare_int_ [] []) [.int .i64 a, .int .i64 b] (.int .i64 (cmpI a b)) :=
  FnK.byW (h_cmp_Compare_int_ hE) rfl rfl (K := 1) fun k hk bl tk => by
    have h1 := fn_isNaN_int hE a k hk
    have h2 := fn_isNaN_int hE b k hk
    unfold cmpI
    by_cases c1 : a < b
    · simp [F_cmp_Compare_int_, b_cmp_Compare_int_, h1, h2, c1]
    · by_cases c2 : a > b
      · simp [F_cmp_Compare_int_, b_cmp_Compare_int_, h1, h2, c1, c2]
      · simp [F_cmp_Compare_int_, b_cmp_Compare_int_, h1, h2, c1, c2]
theorem fn_cmp_string (a b : List UInt8) : FnK 2 E (.fn n_cmp_Compare_string_ [] []) [.str a, .str b] (.int .i64 (cmpS a b)) :=
  FnK.byW (h_cmp_Compare_string_ hE) rfl rfl (K := 1) fun k hk bl tk => by
    have h1 := fn_isNaN_string hE a k hk
    have h2 := fn_isNaN_string hE b k hk
    unfold cmpS
    by_cases c1 : Go.Op.bytesLess a b = true
    · simp [F_cmp_Compare_string_, b_cmp_Compare_string_, h1, h2, c1]
    · have c1' : Go.Op.bytesLess a b = false := by simpa using c1
      by_cases c2 : a = b
      · subst c2
        simp [F_cmp_Compare_string_, b_cmp_Compare_string_, h1, c1']
      · have c2' : (a == b) = false := by simpa using c2
        simp [F_cmp_Compare_string_, b_cmp_Compare_string_, h1, h2, c1', c2, c2']
theorem fn_Sign (a b : List UInt8) : FnK 1 E (.fn n_chiasmusref01_Sign [] []) [.str a, .str b] (.int .i64 (cmpS a b)) :=
  FnK.byW (h_chiasmusref01_Sign hE) rfl rfl (K := 0) fun k hk bl tk => by
    unfold cmpS
    by_cases c1 : Go.Op.bytesLess a b = true
    · simp [F_chiasmusref01_Sign, b_chiasmusref01_Sign, c1]
    · have c1' : Go.Op.bytesLess a b = false := by simpa using c1
      by_cases c2 : a = b
      · subst c2
        simp [F_chiasmusref01_Sign, b_chiasmusref01_Sign, c1']
      · have c2' : (a == b) = false := by simpa using c2
        simp [F_chiasmusref01_Sign, b_chiasmusref01_Sign, c1', c2, c2']

theorem fn_term_Compare : ∀ (n : Nat) {ts us : List Tm} {v w : AV}, nTs ts < n → Sl ts v → Sl us w → Fn E (.fn n_term_Compare [] []) [v, w] (.int .i64 (cmpTs ts us))
  | 0, _, _, _, _, h, _, _ => by omega
  | n + 1, ts, us, v, w, hn, hv, hw => by
    obtain ⟨o1, xs, rfl, ⟨hm1, _⟩, h1⟩ := hv
    obtain ⟨o2, ys, rfl, ⟨hm2, _⟩, h2⟩ := hw
    have hl1 := h1.length
    have hl2 := h2.length
    have hmx : maxLen = 9223372036854775807 := rfl
    obtain ⟨K, hK⟩ := kids_all (E := E) (f := .fn n_term_Compare [] []) (c := fun t u => cmpTs t.kids u.kids) h1 h2 fun t u v w ht hu hv hw => fn_term_Compare n (by have := nT_mem ht; rw [nT_eq] at this; omega) hv hw
    have ci := fn_cmp_int hE
    have cs := fn_cmp_string hE
    have c1 := c_cmp_Compare_int_ hE [] []
    have c2 := c_cmp_Compare_string_ hE [] []
    have c3 := c_term_Compare hE [] []
    have hmin : (if ys.length < xs.length then (ys.length : Int) else (xs.length : Int)) = ((min ts.length us.length : Nat) : Int) := by split <;> omega
    refine Fn.byW (h_term_Compare hE) rfl rfl ⟨K + ts.length + 10, fun k hk bl tk => ?_⟩
    simp [F_term_Compare, b_term_Compare, mmAll, mmA]
    rw [hmin]
    refine wp_loop (min ts.length us.length) (fun i e s => cmpTs ts us = cmpTs (ts.drop i) (us.drop i) ∧ e = [(0, .sl o1 3 xs), (1, .sl o2 3 ys), (11, .int .i64 ((min ts.length us.length : Nat) : Int)), (12, .int .i64 i)] ∧ s = { bl := bl, tk, ro := bl.length, rt := tk.length }) (by omega) (by simp) ?_ ?_
    · rintro i e s hi ⟨hq, rfl, rfl⟩
      obtain ⟨t, ht⟩ : ∃ t, ts[i]? = some t := ⟨_, List.getElem?_eq_getElem (by omega)⟩
      obtain ⟨u, hu⟩ : ∃ u, us[i]? = some u := ⟨_, List.getElem?_eq_getElem (by omega)⟩
      obtain ⟨vx, vy, hx, hy, hc⟩ := hK k (by omega) i t u ht hu
      obtain ⟨hi1, hx1⟩ := List.getElem?_eq_some_iff.1 hx
      obtain ⟨hi2, hy1⟩ := List.getElem?_eq_some_iff.1 hy
      have e1 : idx (.int .i64 i) xs.length = some i := idx_nat hi1
      have e2 : idx (.int .i64 i) ys.length = some i := idx_nat hi2
      have hwr : IntKind.wrap .i64 ((i : Int) + 1) = i + 1 := wrapIn (by omega) (by omega)
      have hst := cmpTs_step ht hu
      have hlt : (i : Int) < ((min ts.length us.length : Nat) : Int) := by omega
      obtain ⟨mn, hmn⟩ : ∃ mn : Int, mn = ((min ts.length us.length : Nat) : Int) := ⟨_, rfl⟩
      rw [← hmn] at hlt ⊢
      have ci' := fun a b => ci a b k (by omega)
      have cs' := fun a b => cs a b k (by omega)
      rw [cmpT_eq] at hst
      by_cases k1 : t.kind = u.kind
      · by_cases k2 : t.text = u.text
        · simp only [k1, k2, ne_eq, not_true_eq_false, if_false] at hst
          by_cases k3 : cmpTs t.kids u.kids = 0
          · simp only [k3, not_true_eq_false, if_false] at hst
            rw [k3] at hc
            simp [l0_term_Compare, hlt, e1, e2, hi1, hi2, hx1, hy1, hx, hy, k1, k2, hc, c1, c2, c3, hwr]
            rw [hq, hst]
          · simp only [k3, not_false_eq_true, if_true] at hst
            have k3' : (cmpTs t.kids u.kids != 0) = true := by simpa using k3
            simp [l0_term_Compare, hlt, e1, e2, hi1, hi2, hx1, hy1, hx, hy, k1, k2, hc, c1, c2, c3, hwr, k3, k3']
            rw [hq, hst]
        · have k2' : (t.text != u.text) = true := by simpa using k2
          have := cmpS_ne k2
          simp only [k1, k2, ne_eq, not_true_eq_false, if_false, not_false_eq_true, if_true, this] at hst
          have k2'' : (t.text == u.text) = false := by simpa using k2
          simp [l0_term_Compare, hlt, e1, e2, hi1, hi2, hx1, hy1, hx, hy, k1, k2, k2', k2'', cs', c1, c2, c3, hwr]
          rw [hq, hst]
      · have k1' : (t.kind != u.kind) = true := by simpa using k1
        have := cmpI_ne k1
        simp only [k1, ne_eq, not_false_eq_true, if_true, this] at hst
        simp [l0_term_Compare, hlt, e1, e2, hi1, hi2, hx1, hy1, hx, hy, k1, k1', ci', c1, c2, c3, hwr]
        rw [hq, hst]
    · rintro e s ⟨hq, rfl, rfl⟩
      rw [cmpTs_end] at hq
      simp [l0_term_Compare, ci _ _ k (by omega), hq, hl1, hl2]
end
end Ab.R

/- What the comparison of the reference, and both 'Equal', answer. No condition but the table. -/
namespace Ab.R
open Go Ab Go.RowKit
set_option maxRecDepth 10000
set_option linter.unusedSimpArgs false
set_option linter.unusedVariables false
section
variable {E : IEnv} (hE : E.fns = Table.fn table)
include hE
theorem fn_ref_Compare : ∀ (n : Nat) {ts us : List Tm} {v w : AV}, nTs ts < n → Sl ts v → Sl us w → Fn E (.fn n_chiasmusref01_Compare [] []) [v, w] (.int .i64 (cmpTs ts us))
  | 0, _, _, _, _, h, _, _ => by omega
  | n + 1, ts, us, v, w, hn, hv, hw => by
    obtain ⟨o1, xs, rfl, ⟨hm1, _⟩, h1⟩ := hv
    obtain ⟨o2, ys, rfl, ⟨hm2, _⟩, h2⟩ := hw
    have hl1 := h1.length
    have hl2 := h2.length
    have hmx : maxLen = 9223372036854775807 := rfl
    obtain ⟨K, hK⟩ := kids_all (E := E) (f := .fn n_chiasmusref01_Compare [] []) (c := fun t u => cmpTs t.kids u.kids) h1 h2 fun t u v w ht hu hv hw => fn_ref_Compare n (by have := nT_mem ht; rw [nT_eq] at this; omega) hv hw
    have cs := fn_Sign hE
    have c2 := c_chiasmusref01_Sign hE [] []
    have c3 := c_chiasmusref01_Compare hE [] []
    refine Fn.byW (h_chiasmusref01_Compare hE) rfl rfl ⟨K + ts.length + 10, fun k hk bl tk => ?_⟩
    simp [F_chiasmusref01_Compare, b_chiasmusref01_Compare]
    refine wp_loop (min ts.length us.length) (fun i e s => cmpTs ts us = cmpTs (ts.drop i) (us.drop i) ∧ e = [(0, .sl o1 3 xs), (1, .sl o2 3 ys), (5, .int .i64 i)] ∧ s = { bl := bl, tk, ro := bl.length, rt := tk.length }) (by omega) (by simp) ?_ ?_
    · rintro i e s hi ⟨hq, rfl, rfl⟩
      obtain ⟨t, ht⟩ : ∃ t, ts[i]? = some t := ⟨_, List.getElem?_eq_getElem (by omega)⟩
      obtain ⟨u, hu⟩ : ∃ u, us[i]? = some u := ⟨_, List.getElem?_eq_getElem (by omega)⟩
      obtain ⟨vx, vy, hx, hy, hc⟩ := hK k (by omega) i t u ht hu
      obtain ⟨hi1, hx1⟩ := List.getElem?_eq_some_iff.1 hx
      obtain ⟨hi2, hy1⟩ := List.getElem?_eq_some_iff.1 hy
      have e1 : idx (.int .i64 i) xs.length = some i := idx_nat hi1
      have e2 : idx (.int .i64 i) ys.length = some i := idx_nat hi2
      have hwr : IntKind.wrap .i64 ((i : Int) + 1) = i + 1 := wrapIn (by omega) (by omega)
      have hst := cmpTs_step ht hu
      have cs' := fun a b => cs a b k (by omega)
      rw [cmpT_eq] at hst
      by_cases k1 : t.kind = u.kind
      · by_cases k2 : t.text = u.text
        · simp only [k1, k2, ne_eq, not_true_eq_false, if_false] at hst
          have k2c : cmpS u.text u.text = 0 := by unfold cmpS; simp [bytesLess_self]
          by_cases k3 : cmpTs t.kids u.kids = 0
          · simp only [k3, not_true_eq_false, if_false] at hst
            rw [k3] at hc
            simp [l0_chiasmusref01_Compare, e1, e2, hi1, hi2, hx1, hy1, hx, hy, k1, k2, k2c, hc, cs', c2, c3, hwr]
            rw [hq, hst]
          · simp only [k3, not_false_eq_true, if_true] at hst
            have k3' : (cmpTs t.kids u.kids != 0) = true := by simpa using k3
            simp [l0_chiasmusref01_Compare, e1, e2, hi1, hi2, hx1, hy1, hx, hy, k1, k2, k2c, hc, cs', c2, c3, hwr, k3, k3']
            rw [hq, hst]
        · have := cmpS_ne k2
          simp only [k1, k2, ne_eq, not_true_eq_false, if_false, not_false_eq_true, if_true, this] at hst
          have k2' : (cmpS t.text u.text != 0) = true := by simpa using this
          simp [l0_chiasmusref01_Compare, e1, e2, hi1, hi2, hx1, hy1, hx, hy, k1, k2', this, cs', c2, c3, hwr]
          rw [hq, hst]
      · have k1' : (t.kind != u.kind) = true := by simpa using k1
        have := cmpI_ne k1
        simp only [k1, ne_eq, not_false_eq_true, if_true, this] at hst
        unfold cmpI at hst
        by_cases k4 : t.kind < u.kind
        · rw [if_pos k4] at hst
          simp [l0_chiasmusref01_Compare, e1, e2, hi1, hi2, hx1, hy1, hx, hy, k1, k1', k4, c2, c3, hwr]
          rw [hq, hst]
        · rw [if_neg k4, if_pos (by omega)] at hst
          simp [l0_chiasmusref01_Compare, e1, e2, hi1, hi2, hx1, hy1, hx, hy, k1, k1', k4, c2, c3, hwr]
          rw [hq, hst]
    · rintro e s ⟨hq, rfl, rfl⟩
      rw [cmpTs_end] at hq
      unfold cmpI at hq
      rw [hq]
      by_cases l1 : ts.length < us.length
      · have m1 : min xs.length ys.length = xs.length := by omega
        have l2 : xs.length < ys.length := by omega
        simp [l0_chiasmusref01_Compare, m1, ← hl1, ← hl2, l2]
      · have m1 : min xs.length ys.length = ys.length := by omega
        by_cases l2 : us.length < ts.length
        · have l3 : ys.length < xs.length := by omega
          have l4 : ¬ xs.length < ys.length := by omega
          simp [l0_chiasmusref01_Compare, m1, ← hl1, ← hl2, l3, l4]
        · have l3 : ¬ ys.length < xs.length := by omega
          have l4 : ¬ xs.length < ys.length := by omega
          simp [l0_chiasmusref01_Compare, m1, ← hl1, ← hl2, l3, l4]

theorem fn_ref_Equal {ts us : List Tm} {v w : AV} (hv : Sl ts v) (hw : Sl us w) : Fn E (.fn n_chiasmusref01_Equal [] []) [v, w] (.bool (cmpTs ts us == 0)) := by
  obtain ⟨K, hK⟩ := fn_ref_Compare hE _ (Nat.lt_succ_self _) hv hw
  exact Fn.byW (h_chiasmusref01_Equal hE) rfl rfl ⟨K, fun k hk bl tk => by simp [F_chiasmusref01_Equal, b_chiasmusref01_Equal, hK k hk]⟩
theorem fn_term_Equal {ts us : List Tm} {v w : AV} (hv : Sl ts v) (hw : Sl us w) : Fn E (.fn n_term_Equal [] []) [v, w] (.bool (cmpTs ts us == 0)) := by
  obtain ⟨K, hK⟩ := fn_term_Compare hE _ (Nat.lt_succ_self _) hv hw
  exact Fn.byW (h_term_Equal hE) rfl rfl ⟨K, fun k hk bl tk => by simp [F_term_Equal, b_term_Equal, hK k hk]⟩
end
end Ab.R

/- Texts of terms as plain data. No condition. -/
namespace Ab
open Go

def classN (n : Nat) : Int := if (97 ≤ n ∧ n ≤ 122) ∨ (65 ≤ n ∧ n ≤ 90) then 5 else if 48 ≤ n ∧ n ≤ 57 then 6 else if n = 45 ∨ n = 95 then 4 else if n = 32 ∨ n = 9 ∨ n = 10 ∨ n = 13 then 8 else 0
def isC (n : Nat) (c : Int) : Bool := (IntKind.wrap .u8 ((BitVec.ofInt 8 (classN n) &&& BitVec.ofInt 8 c).toNat : Nat)) != 0
def everyC (s : List UInt8) (c : Int) : Bool := s.all fun b => isC b.toNat c
def identT (s : List UInt8) (most : Int) : Bool := s != [] && decide ((s.length : Int) ≤ most) && isC (s.getD 0 0).toNat 1 && everyC s 4
def cutMinus (s : List UInt8) : List UInt8 × Bool := match s with
  | 45 :: r => (r, true)
  | s => (s, false)
def numT (s : List UInt8) : Bool :=
  let d := (cutMinus s).1
  !(d == [] || decide (500 < d.length) || !everyC d 2) && ((d.getD 0 0).toNat != 48 || (d.length == 1 && !(cutMinus s).2))
def runeIx (s : List UInt8) (p : Int → Bool) (want : Bool) : Nat → Nat → Int
  | 0, _ => -1
  | n + 1, pos => if pos < s.length then (if p (Go.Utf8.decode ⟨s.toArray⟩ pos).1 == want then (pos : Int) else runeIx s p want n (pos + (Go.Utf8.decode ⟨s.toArray⟩ pos).2)) else -1
def oddRune (c : Int) : Bool := decide (c < 32) || decide (126 < c)
def wordT (s : List UInt8) : Bool := s != [] && decide (s.length ≤ 60) && !decide (0 ≤ runeIx s oddRune true (s.length + 1) 0)
def rightT (t : Tm) : Bool :=
  if t.kind = 4 then t.text == [] else if t.kind = 8 then identT t.text 40 else if 0 < t.kids.length then false
  else if t.kind = 1 then t.text.length == 1 else if t.kind = 2 then wordT t.text else if t.kind = 3 then numT t.text
  else if t.kind = 5 ∨ t.kind = 6 ∨ t.kind = 7 then t.text != [] && decide (t.text.length ≤ 40) && everyC t.text 3 else false
theorem decode_pos (s : ByteArray) (i : Nat) : 1 ≤ (Go.Utf8.decode s i).2 := by
  unfold Go.Utf8.decode
  dsimp only
  repeat' split
  all_goals simp
end Ab

/- What the functions of texts answer. No condition but the table. -/
namespace Ab.R
open Go Ab Go.RowKit
set_option maxRecDepth 10000
set_option linter.unusedSimpArgs false
set_option linter.unusedVariables false
section
variable {E : IEnv} (hE : E.fns = Table.fn table)
include hE
theorem fn_classOf (n : Nat) : FnK 1 E (.fn n_term_classOf [] []) [.int .u8 n] (.int .u8 (classN n)) :=
  FnK.byW (h_term_classOf hE) rfl rfl (K := 0) fun k hk bl tk => by
    unfold classN
    by_cases a1 : 97 ≤ n
    · by_cases a2 : n ≤ 122
      · have b1 : (97 : Int) ≤ n := by omega
        have b2 : (n : Int) ≤ 122 := by omega
        simp [F_term_classOf, b_term_classOf, a1, a2, b1, b2]
      · have b1 : (97 : Int) ≤ n := by omega
        have b2 : ¬ (n : Int) ≤ 122 := by omega
        have b3 : (65 : Int) ≤ n := by omega
        have b4 : ¬ (n : Int) ≤ 90 := by omega
        have b5 : (48 : Int) ≤ n := by omega
        have b6 : ¬ (n : Int) ≤ 57 := by omega
        have b7 : ((n : Int) == 45) = false := by simp; omega
        have b8 : ((n : Int) == 95) = false := by simp; omega
        have b9 : ((n : Int) == 32) = false := by simp; omega
        have b10 : ((n : Int) == 9) = false := by simp; omega
        have b11 : ((n : Int) == 10) = false := by simp; omega
        have b12 : ((n : Int) == 13) = false := by simp; omega
        rw [if_neg (by omega), if_neg (by omega), if_neg (by omega), if_neg (by omega)]
        simp [F_term_classOf, b_term_classOf, b1, b2, b3, b4, b5, b6, b7, b8, b9, b10, b11, b12]
    have b1 : ¬ (97 : Int) ≤ n := by omega
    by_cases a3 : 65 ≤ n
    · have b3 : (65 : Int) ≤ n := by omega
      by_cases a4 : n ≤ 90
      · have b4 : (n : Int) ≤ 90 := by omega
        simp [F_term_classOf, b_term_classOf, a1, a3, a4, b1, b3, b4]
      · have b4 : ¬ (n : Int) ≤ 90 := by omega
        have b5 : (48 : Int) ≤ n := by omega
        have b6 : ¬ (n : Int) ≤ 57 := by omega
        have b7 : ((n : Int) == 45) = false := by simp; omega
        have b9 : ((n : Int) == 32) = false := by simp; omega
        have b10 : ((n : Int) == 9) = false := by simp; omega
        have b11 : ((n : Int) == 10) = false := by simp; omega
        have b12 : ((n : Int) == 13) = false := by simp; omega
        rw [if_neg (by omega), if_neg (by omega)]
        by_cases a8 : n = 95
        · have b8 : ((n : Int) == 95) = true := by simp; omega
          rw [if_pos (by omega)]
          simp [F_term_classOf, b_term_classOf, b1, b3, b4, b5, b6, b7, b8]
        · have b8 : ((n : Int) == 95) = false := by simp; omega
          rw [if_neg (by omega), if_neg (by omega)]
          simp [F_term_classOf, b_term_classOf, b1, b3, b4, b5, b6, b7, b8, b9, b10, b11, b12]
    have b3 : ¬ (65 : Int) ≤ n := by omega
    rw [if_neg (by omega)]
    by_cases a5 : 48 ≤ n
    · have b5 : (48 : Int) ≤ n := by omega
      by_cases a6 : n ≤ 57
      · have b6 : (n : Int) ≤ 57 := by omega
        simp [F_term_classOf, b_term_classOf, a5, a6, b1, b3, b5, b6]
      · have b6 : ¬ (n : Int) ≤ 57 := by omega
        have b7 : ((n : Int) == 45) = false := by simp; omega
        have b8 : ((n : Int) == 95) = false := by simp; omega
        have b9 : ((n : Int) == 32) = false := by simp; omega
        have b10 : ((n : Int) == 9) = false := by simp; omega
        have b11 : ((n : Int) == 10) = false := by simp; omega
        have b12 : ((n : Int) == 13) = false := by simp; omega
        rw [if_neg (by omega), if_neg (by omega), if_neg (by omega)]
        simp [F_term_classOf, b_term_classOf, b1, b3, b5, b6, b7, b8, b9, b10, b11, b12]
    have b5 : ¬ (48 : Int) ≤ n := by omega
    have b8 : ((n : Int) == 95) = false := by simp; omega
    rw [if_neg (by omega)]
    by_cases a7 : n = 45
    · subst a7
      simp [F_term_classOf, b_term_classOf, b1, b3, b5]
    have b7 : ((n : Int) == 45) = false := by simp; omega
    rw [if_neg (by omega)]
    by_cases a9 : n = 32
    · subst a9
      simp [F_term_classOf, b_term_classOf, b1, b3, b5, b8, b7]
    have b9 : ((n : Int) == 32) = false := by simp; omega
    by_cases a10 : n = 9
    · subst a10
      simp [F_term_classOf, b_term_classOf, b1, b3, b5, b8, b7, b9]
    have b10 : ((n : Int) == 9) = false := by simp; omega
    by_cases a11 : n = 10
    · subst a11
      simp [F_term_classOf, b_term_classOf, b1, b3, b5, b8, b7, b9, b10]
    have b11 : ((n : Int) == 10) = false := by simp; omega
    by_cases a12 : n = 13
    · subst a12
      simp [F_term_classOf, b_term_classOf, b1, b3, b5, b8, b7, b9, b10, b11]
    have b12 : ((n : Int) == 13) = false := by simp; omega
    rw [if_neg (by omega)]
    simp [F_term_classOf, b_term_classOf, b1, b3, b5, b8, b7, b9, b10, b11, b12]

theorem fn_is (n : Nat) (c : Int) : FnK 2 E (.fn n_term_is [] []) [.int .u8 n, .int .u8 c] (.bool (isC n c)) :=
  FnK.byW (h_term_is hE) rfl rfl (K := 1) fun k hk bl tk => by
    simp [F_term_is, b_term_is, fn_classOf hE n k (by omega), isC]
    rfl

theorem fn_every (s : List UInt8) (hs : s.length ≤ maxLen) (c : Int) : FnK (s.length + 4) E (.fn n_term_every [] []) [.str s, .int .u8 c] (.bool (everyC s c)) :=
  FnK.byW (h_term_every hE) rfl rfl (K := s.length + 3) fun k hk bl tk => by
    have hmx : maxLen = 9223372036854775807 := rfl
    simp [F_term_every, b_term_every]
    refine wp_loop s.length (fun i e st => everyC s c = everyC (s.drop i) c ∧ e = [(0, .str s), (1, .int .u8 c), (7, .int .i64 s.length), (8, .int .i64 i)] ∧ st = { bl, tk, ro := bl.length, rt := tk.length }) (by omega) (by simp) ?_ ?_
    · rintro i e st hi ⟨hq, rfl, rfl⟩
      have e1 : idx (.int .i64 i) s.length = some i := idx_nat hi
      have hwr : IntKind.wrap .i64 ((i : Int) + 1) = i + 1 := wrapIn (by omega) (by omega)
      rw [List.drop_eq_getElem_cons hi] at hq
      have h1 := fn_is hE s[i].toNat c k (by omega)
      unfold everyC at hq ⊢
      rw [List.all_cons] at hq
      cases hp : isC s[i].toNat c with
      | true =>
        rw [hp, Bool.true_and] at hq
        rw [hp] at h1
        simp [l0_term_every, hi, e1, hwr, h1]
        simpa using hq
      | false =>
        rw [hp, Bool.false_and] at hq
        rw [hp] at h1
        simp [l0_term_every, hi, e1, hwr, h1]
        simpa using hq
    · rintro e st ⟨hq, rfl, rfl⟩
      rw [List.drop_length] at hq
      have hq' : everyC s c = true := hq
      simp [l0_term_every, hq']

theorem fn_identifier (s : List UInt8) (hs : s.length ≤ maxLen) (m : Int) : FnK (s.length + 5) E (.fn n_term_identifier [] []) [.str s, .int .i64 m] (.bool (identT s m)) :=
  FnK.byW (h_term_identifier hE) rfl rfl (K := s.length + 4) fun k hk bl tk => by
    have h1 := fn_every hE s hs 4 k (by omega)
    cases s with
    | nil => simp [F_term_identifier, b_term_identifier, identT]
    | cons b r =>
      have h2 := fn_is hE b.toNat 1 k (by omega)
      unfold identT
      by_cases c1 : (((b :: r).length : Nat) : Int) ≤ m
      · simp only [List.length_cons, Int.natCast_add, Int.cast_ofNat_Int] at c1
        cases c2 : isC b.toNat 1 with
        | true =>
          rw [c2] at h2
          simp [F_term_identifier, b_term_identifier, c1, h1, h2, c2, idx]
        | false =>
          rw [c2] at h2
          simp [F_term_identifier, b_term_identifier, c1, h1, h2, c2, idx]
      · simp only [List.length_cons, Int.natCast_add, Int.cast_ofNat_Int] at c1
        simp [F_term_identifier, b_term_identifier, c1, h1, h2, idx]

theorem fn_CutMinus (s : List UInt8) : FnK 4 E (.fn n_strings_CutPrefix [] []) [.str s, .str [45]] (.tup [.str (cutMinus s).1, .bool (cutMinus s).2]) := by
  have hh : FnK 1 E (.fn n_internal_stringslite_HasPrefix [] []) [.str s, .str [45]] (.bool (cutMinus s).2) :=
    FnK.byW (h_internal_stringslite_HasPrefix hE) rfl rfl (K := 0) fun k hk bl tk => by
      cases s with
      | nil => simp [F_internal_stringslite_HasPrefix, b_internal_stringslite_HasPrefix, cutMinus]
      | cons b r =>
        have c1 : (1 : Int) ≤ (r.length : Int) + 1 := by omega
        by_cases hb : b = 45
        · subst hb
          simp [F_internal_stringslite_HasPrefix, b_internal_stringslite_HasPrefix, cutMinus, c1, sliceA, bound]
        · have : cutMinus (b :: r) = (b :: r, false) := by unfold cutMinus; split; rename_i h; cases h; exact absurd rfl hb; rfl
          simp [F_internal_stringslite_HasPrefix, b_internal_stringslite_HasPrefix, this, c1, sliceA, bound, hb]
  have hc : FnK 3 E (.fn n_internal_stringslite_CutPrefix [] []) [.str s, .str [45]] (.tup [.str (cutMinus s).1, .bool (cutMinus s).2]) :=
    FnK.byW (h_internal_stringslite_CutPrefix hE) rfl rfl (K := 2) fun k hk bl tk => by
      have h1 := hh k (by omega)
      cases s with
      | nil => simp [F_internal_stringslite_CutPrefix, b_internal_stringslite_CutPrefix, h1, cutMinus]
      | cons b r =>
        by_cases hb : b = 45
        · subst hb
          have c1 : (1 : Int) ≤ (r.length : Int) + 1 := by omega
          simp [F_internal_stringslite_CutPrefix, b_internal_stringslite_CutPrefix, h1, cutMinus, sliceA, bound, c1]
        · have : cutMinus (b :: r) = (b :: r, false) := by unfold cutMinus; split; rename_i h; cases h; exact absurd rfl hb; rfl
          rw [this] at h1 ⊢
          simp [F_internal_stringslite_CutPrefix, b_internal_stringslite_CutPrefix, h1]
  exact FnK.byW (h_strings_CutPrefix hE) rfl rfl (K := 3) fun k hk bl tk => by simp [F_strings_CutPrefix, b_strings_CutPrefix, hc k (by omega)]

theorem fn_isNumber (s : List UInt8) (hs : s.length ≤ maxLen) : FnK (s.length + 8) E (.fn n_term_isNumber [] []) [.str s] (.bool (numT s)) :=
  FnK.byW (h_term_isNumber hE) rfl rfl (K := s.length + 7) fun k hk bl tk => by
    have h1 := fn_CutMinus hE s k (by omega)
    have hle : (cutMinus s).1.length ≤ s.length := by unfold cutMinus; split <;> simp
    have h2 := fn_every hE (cutMinus s).1 (by omega) 2 k (by omega)
    unfold numT
    generalize cutMinus s = q at *
    obtain ⟨d, neg⟩ := q
    simp only at *
    cases d with
    | nil => simp [F_term_isNumber, b_term_isNumber, h1]
    | cons b r =>
      by_cases c1 : 500 < (b :: r).length
      · have c1' : (500 : Int) < (r.length : Int) + 1 := by simp at c1; omega
        simp only [List.length_cons] at c1
        simp [F_term_isNumber, b_term_isNumber, h1, c1, c1']
      · have c1' : ¬ (500 : Int) < (r.length : Int) + 1 := by simp at c1; omega
        simp only [List.length_cons] at c1
        cases c2 : everyC (b :: r) 2 with
        | false => rw [c2] at h2; simp [F_term_isNumber, b_term_isNumber, h1, h2, c1, c1']
        | true =>
          rw [c2] at h2
          by_cases c3 : b.toNat = 48
          · by_cases c4 : r = []
            · subst c4
              simp [F_term_isNumber, b_term_isNumber, h1, h2, c3, idx]
            · have c4' : ¬ r.length = 0 := by simpa using c4
              have c5 : (((r.length : Int) + 1) == 1) = false := by simp; omega
              simp [F_term_isNumber, b_term_isNumber, h1, h2, c1, c1', c3, c4, c5, idx]
          · have c3' : (((b.toNat : Nat) : Int) != 48) = true := by simp; omega
            simp [F_term_isNumber, b_term_isNumber, h1, h2, c1, c1', c3, c3', idx]
end
end Ab.R

/- What 'strings.ContainsFunc', 'term.right' and 'term.depth' answer. No condition but the table. -/
namespace Ab.R
open Go Ab Go.RowKit
set_option maxRecDepth 10000
set_option linter.unusedSimpArgs false
set_option linter.unusedVariables false
section
variable {E : IEnv} (hE : E.fns = Table.fn table)
include hE
theorem fn_right_1 (c : Int) : FnK 1 E (.fn n_term_right_1 [] []) [.int .i32 c] (.bool (oddRune c)) :=
  FnK.byW (h_term_right_1 hE) rfl rfl (K := 0) fun k hk bl tk => by
    unfold oddRune
    by_cases c1 : c < 32
    · simp [F_term_right_1, b_term_right_1, c1]
    · simp [F_term_right_1, b_term_right_1, c1]

theorem fn_indexFunc (s : List UInt8) (f : AV) (p : Int → Bool) (want : Bool) {Kf : Nat} (hf : ∀ c, FnK Kf E f [.int .i32 c] (.bool (p c))) :
    FnK (Kf + s.length + 3) E (.fn n_strings_indexFunc [] []) [.str s, f, .bool want] (.int .i64 (runeIx s p want (s.length + 1) 0)) :=
  FnK.byW (h_strings_indexFunc hE) rfl rfl (K := Kf + s.length + 2) fun k hk bl tk => by
    obtain ⟨Q, hQ⟩ : ∃ Q, Q = runeIx s p want (s.length + 1) 0 := ⟨_, rfl⟩
    rw [← hQ]
    simp [F_strings_indexFunc, b_strings_indexFunc]
    refine wp_loop s.length (fun i e st => ∃ pos, i ≤ pos ∧ Q = runeIx s p want (s.length + 1 - i) pos ∧ e = [(1, f), (2, .bool want), (10, .ptr bl.length 0)] ∧ st = { bl := bl ++ [.siter s pos], tk, ro := bl.length, rt := tk.length }) (by omega) ⟨0, by simp [hQ]⟩ ?_ ?_
    · rintro i e st hi ⟨pos, hp, hq, rfl, rfl⟩
      rw [show s.length + 1 - i = s.length - i + 1 by omega] at hq
      unfold runeIx at hq
      by_cases c1 : pos < s.length
      · rw [if_pos c1] at hq
        have h1 := hf ((Go.Utf8.decode ⟨s.toArray⟩ pos).1 : Nat) k (by omega)
        have hw := decode_pos ⟨s.toArray⟩ pos
        cases c2 : p ((Go.Utf8.decode ⟨s.toArray⟩ pos).1 : Nat) == want with
        | true =>
          rw [c2] at hq
          simp only [if_true] at hq
          simp [l0_strings_indexFunc, aeq, c1, h1, c2, hq]
        | false =>
          rw [c2] at hq
          simp only [Bool.false_eq_true, if_false] at hq
          simp [l0_strings_indexFunc, aeq, c1, h1, c2]
          exact ⟨by omega, hq⟩
      · rw [if_neg c1] at hq
        simp [l0_strings_indexFunc, aeq, c1, hq]
    · rintro e st ⟨pos, hp, hq, rfl, rfl⟩
      rw [show s.length + 1 - s.length = 0 + 1 by omega] at hq
      unfold runeIx at hq
      have c1 : ¬ pos < s.length := by omega
      rw [if_neg c1] at hq
      simp [l0_strings_indexFunc, aeq, c1, hq]

theorem fn_ContainsOdd (s : List UInt8) : FnK (s.length + 6) E (.fn n_strings_ContainsFunc [] []) [.str s, .fn n_term_right_1 [] []] (.bool (decide (0 ≤ runeIx s oddRune true (s.length + 1) 0))) := by
  have h1 := fn_indexFunc hE s (.fn n_term_right_1 [] []) oddRune true (fn_right_1 hE)
  have h2 : FnK (s.length + 5) E (.fn n_strings_IndexFunc [] []) [.str s, .fn n_term_right_1 [] []] (.int .i64 (runeIx s oddRune true (s.length + 1) 0)) :=
    FnK.byW (h_strings_IndexFunc hE) rfl rfl (K := s.length + 4) fun k hk bl tk => by simp [F_strings_IndexFunc, b_strings_IndexFunc, h1 k (by omega)]
  exact FnK.byW (h_strings_ContainsFunc hE) rfl rfl (K := s.length + 5) fun k hk bl tk => by simp [F_strings_ContainsFunc, b_strings_ContainsFunc, h2 k (by omega)]

set_option maxHeartbeats 1600000 in
theorem fn_right {t : Tm} {x : AV} (h : Rt t x) (hs : t.text.length ≤ maxLen) : FnK (t.text.length + 9) E (.fn n_term_right [] []) [x] (.bool (rightT t)) := by
  obtain ⟨v, rfl, hv⟩ := h.open
  obtain ⟨o, ks, rfl, hlk⟩ := hv.len
  refine FnK.byW (h_term_right hE) rfl rfl (K := t.text.length + 8) fun k hk bl tk => ?_
  unfold rightT
  by_cases c4 : t.kind = 4
  · simp [F_term_right, b_term_right, c4]
  have b4 : (t.kind == 4) = false := by simpa using c4
  by_cases c8 : t.kind = 8
  · have h1 := fn_identifier hE t.text hs 40 k (by omega)
    simp [F_term_right, b_term_right, c8, h1]
  have b8 : (t.kind == 8) = false := by simpa using c8
  by_cases ck : 0 < t.kids.length
  · have ck' : ¬ ks = [] := by rintro rfl; simp at hlk; omega
    have ck2 : (0 : Int) < (ks.length : Int) := by omega
    simp [F_term_right, b_term_right, c4, c8, b4, b8, ck, ck', ck2, hlk]
  have ck' : ks = [] := by cases ks with | nil => rfl | cons a l => simp at hlk; omega
  subst ck'
  rw [if_neg c4, if_neg c8, if_neg ck]
  by_cases c1 : t.kind = 1
  · have : (((t.text.length : Nat) : Int) == 1) = (t.text.length == 1) := by rw [Bool.eq_iff_iff]; simp; omega
    simp [F_term_right, b_term_right, c1, this]
  have b1 : (t.kind == 1) = false := by simpa using c1
  by_cases c2 : t.kind = 2
  · have h1 := fn_ContainsOdd hE t.text k (by omega)
    unfold wordT
    by_cases e1 : t.text = []
    · simp [F_term_right, b_term_right, c2, e1]
    · have e1' : t.text.isEmpty = false := by simpa using e1
      by_cases e2 : t.text.length ≤ 60
      · have e2' : (t.text.length : Int) ≤ 60 := by omega
        simp [F_term_right, b_term_right, c2, e1, e1', e2, e2', h1]
      · have e2' : ¬ (t.text.length : Int) ≤ 60 := by omega
        simp [F_term_right, b_term_right, c2, e1, e1', e2, e2']
  have b2 : (t.kind == 2) = false := by simpa using c2
  by_cases c3 : t.kind = 3
  · have h1 := fn_isNumber hE t.text hs k (by omega)
    simp [F_term_right, b_term_right, c3, h1]
  have b3 : (t.kind == 3) = false := by simpa using c3
  rw [if_neg c1, if_neg c2, if_neg c3]
  have h1 := fn_every hE t.text hs 3 k (by omega)
  by_cases e1 : t.text = []
  · rcases Decidable.em (t.kind = 5 ∨ t.kind = 6 ∨ t.kind = 7) with hk5 | hk5
    · rcases hk5 with c5 | c5 | c5 <;> simp [F_term_right, b_term_right, c5, e1]
    · have b5 : (t.kind == 5) = false := by simp; omega
      have b6 : (t.kind == 6) = false := by simp; omega
      have b7 : (t.kind == 7) = false := by simp; omega
      simp [F_term_right, b_term_right, b4, b8, b1, b2, b3, b5, b6, b7, hk5]
  · have e1' : t.text.isEmpty = false := by simpa using e1
    rcases Decidable.em (t.kind = 5 ∨ t.kind = 6 ∨ t.kind = 7) with hk5 | hk5
    · by_cases e2 : t.text.length ≤ 40
      · have e2' : (t.text.length : Int) ≤ 40 := by omega
        rcases hk5 with c5 | c5 | c5 <;> simp [F_term_right, b_term_right, c5, e1, e1', e2, e2', h1]
      · have e2' : ¬ (t.text.length : Int) ≤ 40 := by omega
        rcases hk5 with c5 | c5 | c5 <;> simp [F_term_right, b_term_right, c5, e1, e1', e2, e2']
    · have b5 : (t.kind == 5) = false := by simp; omega
      have b6 : (t.kind == 6) = false := by simp; omega
      have b7 : (t.kind == 7) = false := by simp; omega
      simp [F_term_right, b_term_right, b4, b8, b1, b2, b3, b5, b6, b7, hk5]
end
end Ab.R

/- Depths of terms; a function of the Kids of all terms of a list. No condition. -/
namespace Ab
open Go Go.RowKit
mutual
def dpE : Tm → Nat
  | .mk k _ kids => if k = 4 ∨ k = 8 ∨ 0 < kids.length then 1 + dpS kids else 0
def dpS : List Tm → Nat
  | [] => 0
  | t :: ts => max (dpE t) (dpS ts)
end
theorem dpE_eq (t : Tm) : dpE t = if t.kind = 4 ∨ t.kind = 8 ∨ 0 < t.kids.length then 1 + dpS t.kids else 0 := by cases t; simp only [dpE, Tm.kind, Tm.kids]; congr
theorem dpS_append : ∀ a b : List Tm, dpS (a ++ b) = max (dpS a) (dpS b)
  | [], b => by simp [dpS]
  | t :: a, b => by simp only [List.cons_append, dpS, dpS_append a b]; omega
mutual
theorem dpE_le : ∀ t : Tm, dpE t ≤ nT t
  | .mk k s kids => by have := dpS_le kids; simp only [dpE, nT]; split <;> omega
theorem dpS_le : ∀ ts : List Tm, dpS ts ≤ nTs ts
  | [] => by simp [dpS]
  | t :: ts => by have := dpE_le t; have := dpS_le ts; simp only [dpS, nTs]; omega
end

/- a function of one slice, at the Kids of all terms of a list -/
theorem kid_all {E : IEnv} {f : AV} {more : List AV} {c : Tm → AV} {ts : List Tm} {xs : List AV} (h1 : Rts ts xs)
    (hf : ∀ t v, t ∈ ts → Sl t.kids v → Fn E f (v :: more) (c t)) :
    ∃ K, ∀ k, K ≤ k → ∀ (i : Nat) t, ts[i]? = some t → ∃ v, xs[i]? = some (.agg [.int .i64 t.kind, .str t.text, v]) ∧ Sl t.kids v ∧ ∀ s, callA E k none f (v :: more) s = some (.ret (c t), false, s) := by
  let kid : AV → AV := fun x => match x with | .agg [_, _, v] => v | _ => .junk
  obtain ⟨K, hK⟩ := Fn.all (E := E) (tgt := f) (α := Tm × AV) (args := fun q => kid q.2 :: more) (v := fun q => c q.1) (xs := ts.zip xs) (by
    intro q hq
    obtain ⟨i, hi⟩ := List.mem_iff_getElem?.1 hq
    obtain ⟨a1, a2⟩ := List.getElem?_zip_eq_some.1 hi
    obtain ⟨x, a3, a4⟩ := h1.get a1
    rw [a3] at a2; cases a2
    obtain ⟨v, e1, hv⟩ := a4.open
    have k1 : kid q.2 = v := by rw [e1]
    rw [k1]
    exact hf _ _ (List.mem_of_getElem? a1) hv)
  refine ⟨K, fun k hk i t ht => ?_⟩
  obtain ⟨x, a3, a4⟩ := h1.get ht
  obtain ⟨v, e1, hv⟩ := a4.open
  subst e1
  exact ⟨v, a3, hv, hK k hk (t, _) (List.mem_iff_getElem?.2 ⟨i, List.getElem?_zip_eq_some.2 ⟨ht, a3⟩⟩)⟩
end Ab

/- What 'term.depth' answers. No condition but the table. -/
namespace Ab.R
open Go Ab Go.RowKit
set_option maxRecDepth 10000
set_option linter.unusedSimpArgs false
set_option linter.unusedVariables false
theorem max_nat (a b : Nat) : (if a < b then (b : Int) else (a : Int)) = ((max a b : Nat) : Int) := by split <;> omega
section
variable {E : IEnv} (hE : E.fns = Table.fn table)
include hE
theorem fn_depth : ∀ (n : Nat) {ts : List Tm} {v : AV}, nTs ts < n → nTs ts ≤ most → Sl ts v → Fn E (.fn n_term_depth [] []) [v] (.int .i64 (dpS ts))
  | 0, _, _, h, _, _ => by omega
  | n + 1, ts, v, hn, hm, hv => by
    obtain ⟨o1, xs, rfl, ⟨hm1, _⟩, h1⟩ := hv
    have hl1 := h1.length
    have hmx : maxLen = 9223372036854775807 := rfl
    have hmm : most = 1073741824 := rfl
    obtain ⟨K, hK⟩ := kid_all (E := E) (f := .fn n_term_depth [] []) (more := []) (c := fun t => .int .i64 (dpS t.kids)) h1 fun t v ht hv => fn_depth n (by have := nT_mem ht; rw [nT_eq] at this; omega) (by have := nT_mem ht; rw [nT_eq] at this; omega) hv
    refine Fn.byW (h_term_depth hE) rfl rfl ⟨K + ts.length + 10, fun k hk bl tk => ?_⟩
    simp [F_term_depth, b_term_depth]
    refine wp_loop xs.length (fun i e s => ∃ b, bl.length ≤ b.length ∧ e = [(3, .int .i64 (dpS (ts.take i))), (6, .sl o1 3 xs), (7, .int .i64 xs.length), (8, .int .i64 i)] ∧ s = { bl := b, tk, ro := bl.length, rt := tk.length }) (by omega) (by simp [dpS]) ?_ ?_
    · rintro i e s hi ⟨b, hb, rfl, rfl⟩
      obtain ⟨t, ht⟩ : ∃ t, ts[i]? = some t := ⟨_, List.getElem?_eq_getElem (by omega)⟩
      obtain ⟨vx, hx, hvx, hc⟩ := hK k (by omega) i t ht
      obtain ⟨o2, ks, rfl, hlk⟩ := hvx.len
      obtain ⟨hi1, hx1⟩ := List.getElem?_eq_some_iff.1 hx
      have e1 : idx (.int .i64 i) xs.length = some i := idx_nat hi1
      have hwr : IntKind.wrap .i64 ((i : Int) + 1) = i + 1 := wrapIn (by omega) (by omega)
      have htk : dpS (ts.take (i + 1)) = max (dpS (ts.take i)) (dpE t) := by rw [List.take_add_one, ht, dpS_append]; simp [dpS]
      have hle := nT_mem (List.mem_of_getElem? ht)
      have hle2 := dpS_le t.kids
      rw [nT_eq] at hle
      have hw2 : IntKind.wrap .i64 (1 + (dpS t.kids : Int)) = 1 + dpS t.kids := wrapIn (by omega) (by omega)
      have hmaxn : (if (dpS (ts.take i) : Int) < 1 + (dpS t.kids : Int) then (1 + (dpS t.kids : Int)) else (dpS (ts.take i) : Int)) = ((max (dpS (ts.take i)) (1 + dpS t.kids) : Nat) : Int) := by split <;> omega
      have hb1 : bl.length ≤ b.length + 1 := by omega
      rw [htk, dpE_eq]
      by_cases c4 : t.kind = 4
      · rw [if_pos (.inl c4)]
        simp [l0_term_depth, hi, e1, hx1, hwr, hb, hb1, c4, hc, hw2, mmAll, mmA, hmaxn]
      have b4 : (t.kind == 4) = false := by simpa using c4
      by_cases c8 : t.kind = 8
      · rw [if_pos (.inr (.inl c8))]
        simp [l0_term_depth, hi, e1, hx1, hwr, hb, hb1, c8, hc, hw2, mmAll, mmA, hmaxn]
      have b8 : (t.kind == 8) = false := by simpa using c8
      by_cases ck : 0 < t.kids.length
      · rw [if_pos (.inr (.inr ck))]
        have ck' : ¬ ks = [] := by rintro rfl; simp at hlk; omega
        simp [l0_term_depth, hi, e1, hx1, hwr, hb, hb1, b4, b8, ck', hc, hw2, mmAll, mmA, hmaxn]
      · rw [if_neg (by rintro (h | h | h) <;> omega)]
        have ck' : ks = [] := by cases ks with | nil => rfl | cons a l => simp at hlk; omega
        simp [l0_term_depth, hi, e1, hx1, hwr, hb, hb1, b4, b8, ck', hc]
    · rintro e s ⟨b, hb, rfl, rfl⟩
      rw [List.take_of_length_le (by omega)]
      simp [l0_term_depth]
end
end Ab.R

/- What the iterator of 'term.all' does. No condition but the table. -/
namespace Ab.R
open Go Ab Go.RowKit
set_option maxRecDepth 10000
set_option linter.unusedSimpArgs false
set_option linter.unusedVariables false
section
variable {E : IEnv} (hE : E.fns = Table.fn table)
include hE
theorem call_all {v : AV} (hv : ∃ o xs, v = .sl o 3 xs) : ∀ k, 1 ≤ k → ∀ s, callA E k none (.fn n_term_all [] []) [v] s = some (.ret (.fn n_term_all_1 [] [.ptr s.bl.length 0]), false, { s with bl := s.bl ++ [.cells [v]] }) := by
  intro k hk s
  obtain ⟨o, xs, rfl⟩ := hv
  obtain ⟨j, rfl⟩ : ∃ j, k = j + 1 := ⟨k - 1, by omega⟩
  have key := call_byW (h_term_all hE) (first := []) (caps := []) (args := [.sl o 3 xs]) rfl (k := j) (s := s) (Post := fun v s' => v = .fn n_term_all_1 [] [.ptr s.bl.length 0] ∧ s' = { s with bl := s.bl ++ [.cells [.sl o 3 xs]] }) (by
    simp [F_term_all, b_term_all, s0Of, finA])
  obtain ⟨v, s', h, rfl, rfl⟩ := key
  exact h

abbrev goFn (c : Nat) : AV := .fn n_term_all_1_1 [] [.ptr (c + 1) 0, .ptr (c + 2) 0]

section
variable {α : Type} (B : α → List AB) (c : Nat) (hB : ∀ a, (B a).length = c) (tk : List Nat) (ro rt : Nat) (hro : ro ≤ c) (L : AB) (y : α → Tm → Option α) (D : St → Prop) (k0 : Nat) (W : Tm → Prop)
  (hD : ∀ s, D s → s.ro = ro ∧ s.rt = rt)
  (hy : ∀ a g t x k, W t → Rt t x → k0 ≤ k → ∃ b s', callA E k none (.yield c) [x] ⟨B a ++ L :: g, tk, ro, rt⟩ = some (.ret (.bool b), false, s') ∧
    (match y a t with | some a' => b = true ∧ ∃ g', s' = ⟨B a' ++ L :: (g ++ g'), tk, ro, rt⟩ | none => b = false ∧ D s'))
include hB hro hD hy

theorem call_go : ∀ (n : Nat) {ts : List Tm} {v : AV} (a : α) (g : List AB) (k : Nat), nTs ts < n → nTs ts < most → (∀ t ∈ preS ts, W t) → Sl ts v → 2 * nTs ts + k0 + 3 ≤ k →
    ∃ b s', callA E k none (goFn c) [v] ⟨B a ++ L :: .cells [.yield c] :: .cells [goFn c] :: g, tk, ro, rt⟩ = some (.ret (.bool b), false, s') ∧
      (match foldO y a (preS ts) with | some a' => b = true ∧ ∃ g', s' = ⟨B a' ++ L :: .cells [.yield c] :: .cells [goFn c] :: g', tk, ro, rt⟩ | none => b = false ∧ D s')
  | 0, _, _, _, _, _, h, _, _, _, _ => by omega
  | n + 1, ts, v, a, g, k, hn, hm, hW, hv, hk => by
    obtain ⟨o, xs, rfl, _, hR⟩ := hv
    have hmx : maxLen = 9223372036854775807 := rfl
    have hmm : most = 1073741824 := rfl
    have hl := hR.length
    have hlt := length_le_nTs ts
    have gj : ∀ a r j, (B a ++ r)[c + j]? = r[j]? := fun a r j => by rw [← hB a]; exact append_get _ _ _
    have g0 : ∀ a r, (B a ++ r)[c]? = r[0]? := fun a r => by rw [← hB a]; exact append_get0 _ _
    have sj : ∀ a r j x, (B a ++ r).set (c + j) x = B a ++ r.set j x := fun a r j x => by rw [← hB a]; exact append_set _ _ _ _
    have hro' : ∀ j, ro ≤ c + j := fun j => by omega
    obtain ⟨k, rfl⟩ : ∃ j, k = j + 1 := ⟨k - 1, by omega⟩
    have key := call_byW (h_term_all_1_1 hE) (first := []) (caps := [.ptr (c + 1) 0, .ptr (c + 2) 0]) (args := [.sl o 3 xs]) rfl (k := k) (s := ⟨B a ++ L :: .cells [.yield c] :: .cells [goFn c] :: g, tk, ro, rt⟩)
      (Post := fun v s' => ∃ b, v = .bool b ∧ (match foldO y a (preS ts) with | some a' => b = true ∧ ∃ g', s' = ⟨B a' ++ L :: .cells [.yield c] :: .cells [goFn c] :: g', tk, ro, rt⟩ | none => b = false ∧ D s')) (by
      simp only [F_term_all_1_1, b_term_all_1_1, s0Of]
      simp
      refine wp_loop xs.length (fun i e s => ∃ a' g', foldO y a (preS ts) = foldO y a' (preS (ts.drop i)) ∧ e = [(1, .ptr (c + 1) 0), (2, .ptr (c + 2) 0), (7, .sl o 3 xs), (8, .int .i64 xs.length), (9, .int .i64 i)] ∧
        s = ⟨B a' ++ L :: .cells [.yield c] :: .cells [goFn c] :: g', tk, ro, rt⟩) (by omega) ⟨a, g, by simp⟩ ?_ ?_
      · rintro i e s hi ⟨a', g', hq, rfl, rfl⟩
        obtain ⟨t, ht⟩ : ∃ t, ts[i]? = some t := ⟨_, List.getElem?_eq_getElem (by omega)⟩
        obtain ⟨x, hx, hrx⟩ := hR.get ht
        obtain ⟨kx, rfl, hkx⟩ := hrx.open
        obtain ⟨hi1, hx1⟩ := List.getElem?_eq_some_iff.1 hx
        have e1 : idx (.int .i64 i) xs.length = some i := idx_nat hi
        have hwr : IntKind.wrap .i64 ((i : Int) + 1) = i + 1 := wrapIn (by omega) (by omega)
        have hmt := List.mem_of_getElem? ht
        have hle := nT_mem hmt
        rw [nT_eq] at hle
        have hpre : ∀ u ∈ t :: preS t.kids, u ∈ preS ts := by
          intro u hu
          obtain ⟨l, r, rfl⟩ := List.append_of_mem hmt
          rw [preS_append, preS_cons]
          simp only [List.mem_append, List.mem_cons]
          rcases List.mem_cons.1 hu with rfl | hu
          · exact .inr (.inl rfl)
          · exact .inr (.inr (.inl hu))
        obtain ⟨hti, ht1⟩ := List.getElem?_eq_some_iff.1 ht
        rw [List.drop_eq_getElem_cons hti, ht1, preS_cons, foldO] at hq
        obtain ⟨b, s', hcall, hpost⟩ := hy a' (.cells [.yield c] :: .cells [goFn c] :: (g' ++ [.cells [.int .i64 t.kind, .str t.text, kx]])) t _ k (hW t (hpre t (List.mem_cons_self ..))) hrx (by omega)
        cases hyt : y a' t with
        | none =>
          rw [hyt] at hpost hq
          obtain ⟨rfl, hd⟩ := hpost
          simp only at hq
          rw [hq]
          obtain ⟨r1, r2⟩ := hD s' hd
          have hbk : ({ s' with ro := ro, rt := rt } : St) = s' := by rw [← r1, ← r2]
          simp [l0_term_all_1_1, hB, hi, e1, hi1, hx1, hwr, gj, g0, sj, hro', hcall, finA, hbk, hd]
        | some a2 =>
          rw [hyt] at hpost hq
          obtain ⟨rfl, g2, rfl⟩ := hpost
          simp only [foldO_append] at hq
          obtain ⟨b3, s3, hcall3, hpost3⟩ := call_go n a2 ((g' ++ [.cells [.int .i64 t.kind, .str t.text, kx]]) ++ g2) k (by omega) (by omega) (fun u hu => hW u (hpre u (List.mem_cons_of_mem _ hu))) hkx (by omega)
          simp only [List.cons_append, List.append_assoc, List.nil_append] at hcall hcall3
          cases hf : foldO y a2 (preS t.kids) with
          | none =>
            rw [hf] at hpost3 hq
            obtain ⟨rfl, hd⟩ := hpost3
            simp only at hq
            rw [hq]
            obtain ⟨r1, r2⟩ := hD s3 hd
            have hbk : ({ s3 with ro := ro, rt := rt } : St) = s3 := by rw [← r1, ← r2]
            simp [l0_term_all_1_1, hB, hi, e1, hi1, hx1, hwr, gj, g0, sj, hro', hcall, hcall3, finA, hbk, hd]
          | some a4 =>
            rw [hf] at hpost3 hq
            obtain ⟨rfl, g3, rfl⟩ := hpost3
            simp only at hq
            simp [l0_term_all_1_1, hB, hi, e1, hi1, hx1, hwr, gj, g0, sj, hro', hcall, hcall3]
            exact ⟨a4, hq, g3, rfl⟩
      · rintro e s ⟨a', g', hq, rfl, rfl⟩
        rw [List.drop_of_length_le (by omega)] at hq
        simp only [preS, foldO] at hq
        rw [hq]
        simp [l0_term_all_1_1, finA])
    obtain ⟨v, s', hc, b, rfl, hpost⟩ := key
    exact ⟨b, s', hc, hpost⟩

theorem call_all_1 {ts : List Tm} {v : AV} (a : α) (k cl : Nat) (hcl : ∀ a r, (B a ++ r)[cl]? = some (.cells [v])) (hm : nTs ts < most) (hW : ∀ t ∈ preS ts, W t) (hv : Sl ts v) (hk : 2 * nTs ts + k0 + 4 ≤ k) :
    ∃ v s', callA E k none (.fn n_term_all_1 [] [.ptr cl 0]) [.yield c] ⟨B a ++ [L], tk, ro, rt⟩ = some (.ret v, false, s') ∧
      (match foldO y a (preS ts) with | some a' => ∃ g', s' = ⟨B a' ++ L :: g', tk, ro, rt⟩ | none => D s') := by
  obtain ⟨k, rfl⟩ : ∃ j, k = j + 1 := ⟨k - 1, by omega⟩
  have gj : ∀ a r j, (B a ++ r)[c + j]? = r[j]? := fun a r j => by rw [← hB a]; exact append_get _ _ _
  have g0 : ∀ a r, (B a ++ r)[c]? = r[0]? := fun a r => by rw [← hB a]; exact append_get0 _ _
  have sj : ∀ a r j x, (B a ++ r).set (c + j) x = B a ++ r.set j x := fun a r j x => by rw [← hB a]; exact append_set _ _ _ _
  have hro' : ∀ j, ro ≤ c + j := fun j => by omega
  obtain ⟨b, s', hcall, hpost⟩ := call_go hE B c hB tk ro rt hro L y D k0 W hD hy (nTs ts + 1) a [] k (by omega) hm hW hv (by omega)
  have key := call_byW (h_term_all_1 hE) (first := []) (caps := [.ptr cl 0]) (args := [.yield c]) rfl (k := k) (s := ⟨B a ++ [L], tk, ro, rt⟩)
    (Post := fun v s' => match foldO y a (preS ts) with | some a' => ∃ g', s' = ⟨B a' ++ L :: g', tk, ro, rt⟩ | none => D s') (by
      simp only [F_term_all_1, b_term_all_1, s0Of]
      cases hf : foldO y a (preS ts) with
      | none =>
        rw [hf] at hpost
        obtain ⟨rfl, hd⟩ := hpost
        obtain ⟨r1, r2⟩ := hD s' hd
        have hbk : ({ s' with ro := ro, rt := rt } : St) = s' := by rw [← r1, ← r2]
        simp [hB, gj, g0, sj, hro', hcl, hcall, finA, hbk, hd]
      | some a' =>
        rw [hf] at hpost
        obtain ⟨rfl, g', rfl⟩ := hpost
        simp [hB, gj, g0, sj, hro', hcl, hcall, finA])
  exact key
end
end
end Ab.R

/- What 'term.check' answers. No condition but the table. -/
namespace Ab.R
open Go Ab Go.RowKit
set_option maxRecDepth 10000
set_option linter.unusedSimpArgs false
set_option linter.unusedVariables false

abbrev Cnt := { a : Nat // a ≤ 4000 }
def countY (a : Cnt) (_ : Tm) : Option Cnt := if h : a.1 + 1 ≤ 4000 then some ⟨a.1 + 1, h⟩ else none
theorem countY_none : ∀ (l : List Tm) (a : Cnt), 4000 < a.1 + l.length → foldO countY a l = none
  | [], a, h => by have := a.2; simp at h; omega
  | t :: l, a, h => by
    simp only [foldO, countY]
    by_cases h1 : a.1 + 1 ≤ 4000
    · simp only [h1, dif_pos]; exact countY_none l _ (by simp at h ⊢; omega)
    · simp only [h1, dif_neg, not_false_eq_true]
theorem countY_some : ∀ (l : List Tm) (a : Cnt) (h : a.1 + l.length ≤ 4000), foldO countY a l = some ⟨a.1 + l.length, h⟩
  | [], a, h => rfl
  | t :: l, a, h => by
    have h1 : a.1 + 1 ≤ 4000 := by simp at h; omega
    simp only [foldO, countY, h1, dif_pos]
    rw [countY_some l ⟨a.1 + 1, h1⟩ (by simp at h ⊢; omega)]
    simp only [List.length_cons]; congr 2; omega
def rightY (kind : Int) (_ : Unit) (t : Tm) : Option Unit := if decide (t.kind ≤ kind) && rightT t then some () else none
theorem rightY_some (kind : Int) : ∀ l : List Tm, l.all (fun t => decide (t.kind ≤ kind) && rightT t) = true → foldO (rightY kind) () l = some ()
  | [], _ => rfl
  | t :: l, h => by
    rw [List.all_cons, Bool.and_eq_true] at h
    simp only [foldO, rightY, h.1, if_true]
    exact rightY_some kind l h.2
theorem rightY_none (kind : Int) : ∀ l : List Tm, l.all (fun t => decide (t.kind ≤ kind) && rightT t) = false → foldO (rightY kind) () l = none
  | [], h => by cases h
  | t :: l, h => by
    rw [List.all_cons, Bool.and_eq_false_iff] at h
    by_cases h1 : (decide (t.kind ≤ kind) && rightT t) = true
    · simp only [foldO, rightY, h1, if_true]
      rcases h with h | h
      · rw [h] at h1; cases h1
      · exact rightY_none kind l h
    · simp only [foldO, rightY]; rw [if_neg h1]
def checkT (kind : Int) (ts : List Tm) : Int := if 4000 < nTs ts then 5 else if 100 < dpS ts then 6 else if (preS ts).all (fun t => decide (t.kind ≤ kind) && rightT t) then 0 else 2

section
variable {E : IEnv} (hE : E.fns = Table.fn table)
include hE
theorem check_count {ts : List Tm} {v : AV} (hv : Sl ts v) (hm : nTs ts < most) {k : Nat} (hk : 2 * nTs ts + 10 ≤ k) {bl : List AB} {tk : List Nat} {C3 : AB} {Q : Pst} {e : Env} (e4 : e.get 4 = .ptr (bl.length + 1) 0) (e5 : e.get 5 = .ptr (bl.length + 2) 0)
    (e8 : e.get 8 = .fn n_term_all_1 [] [.ptr (bl.length + 3) 0])
    (q1 : nTs ts ≤ 4000 → ∀ L r, Q .normal e { bl := bl ++ (C3 :: .cells [.int .i64 0] :: .cells [.int .i64 (nTs ts)] :: .cells [v] :: L :: r), tk, ro := bl.length, rt := tk.length })
    (q2 : 4000 < nTs ts → ∀ C L r, Q .ret e { bl := bl ++ (C3 :: .cells [.int .i64 5] :: C :: .cells [v] :: L :: r), tk, ro := bl.length, rt := tk.length }) :
    wp E (callA E k) k false (.rangeFn (.t 8) [9] .skip l0_term_check) Q e { bl := bl ++ [C3, .cells [.int .i64 0], .cells [.int .i64 0], .cells [v]], tk, ro := bl.length, rt := tk.length } := by
  have hmx : maxLen = 9223372036854775807 := rfl
  have hmm : most = 1073741824 := rfl
  let L0 : ALoop := { st := .ready, pend := none, env := e, ps := [9], assign := .skip, body := l0_term_check }
  let B : Cnt → List AB := fun a => bl ++ [C3, .cells [.int .i64 0], .cells [.int .i64 a.1], .cells [v]]
  refine wp_range ?_
  have key := call_all_1 hE B (bl.length + 4) (fun a => by simp [B]) tk bl.length tk.length (by omega) (.loop L0) countY
    (fun s => ∃ C r, s = { bl := bl ++ (C3 :: .cells [.int .i64 5] :: C :: .cells [v] :: .loop { L0 with st := .done, pend := some .ret } :: r), tk, ro := bl.length, rt := tk.length }) 2 (fun _ => True)
    (by rintro s ⟨C, r, rfl⟩; exact ⟨rfl, rfl⟩)
    (by
      intro a g t x k _ hx hk
      obtain ⟨k, rfl⟩ : ∃ j, k = j + 1 := ⟨k - 1, by omega⟩
      refine call_round (L := L0) (by simp [B, append_get]) rfl rfl (by simp) ?_
      obtain ⟨a, ha⟩ := a
      have hw : IntKind.wrap .i64 ((a : Int) + 1) = a + 1 := wrapIn (by omega) (by omega)
      by_cases h : a + 1 ≤ 4000
      · have h3 : ¬ (4000 : Int) < (a : Int) + 1 := by omega
        simp [L0, B, countY, h, l0_term_check, putAll, Env.get_put, e4, e5, append_get, append_get0, append_set, append_set0, hw, h3]
      · have h3 : (4000 : Int) < (a : Int) + 1 := by omega
        simp [L0, B, countY, h, l0_term_check, putAll, Env.get_put, e4, e5, append_get, append_get0, append_set, append_set0, hw, h3])
    ⟨0, by omega⟩ k (bl.length + 3) (fun a r => by simp [B, append_get]) hm (fun _ _ => trivial) hv (by omega)
  obtain ⟨v', s', hcl, hor⟩ := key
  refine ⟨v', false, s', ?_, ?_⟩
  · simp only [Opd.ev, e8]
    rw [← hcl]
    simp [B, L0, St.push]
  · by_cases h : 4000 < nTs ts
    · rw [countY_none _ _ (by rw [preS_length]; simpa using h)] at hor
      obtain ⟨C, r, rfl⟩ := hor
      refine ⟨{ L0 with st := .done, pend := some .ret }, by simp [append_get], .inr (.inr ⟨rfl, rfl, ?_⟩)⟩
      simpa [append_set, append_set0] using q2 h _ _ r
    · rw [countY_some _ _ (by rw [preS_length]; simp; omega)] at hor
      obtain ⟨r, rfl⟩ := hor
      refine ⟨L0, by simp [B, append_get], .inl ⟨rfl, rfl, ?_⟩⟩
      simpa [B, append_set, append_set0, preS_length] using q1 (by omega) _ r

theorem check_right {ts : List Tm} {v : AV} (hv : Sl ts v) (hm : nTs ts < most) {M : Nat} (hM : M ≤ maxLen) (hW : ∀ t ∈ preS ts, t.text.length ≤ M) (kind : Int) {k : Nat} (hk : 2 * nTs ts + M + 20 ≤ k) {bl r : List AB} {tk : List Nat} {C5 CB Lx : AB} {Q : Pst} {e : Env}
    (e3 : e.get 3 = .ptr bl.length 0) (e4 : e.get 4 = .ptr (bl.length + 1) 0) (e18 : e.get 18 = .fn n_term_all_1 [] [.ptr (bl.length + (r.length + 5)) 0])
    (q1 : (preS ts).all (fun t => decide (t.kind ≤ kind) && rightT t) = true → ∀ g, Q .normal e { bl := bl ++ (.cells [.int .i64 kind] :: .cells [.int .i64 0] :: g), tk, ro := bl.length, rt := tk.length })
    (q2 : (preS ts).all (fun t => decide (t.kind ≤ kind) && rightT t) = false → ∀ g, Q .ret e { bl := bl ++ (.cells [.int .i64 kind] :: .cells [.int .i64 2] :: g), tk, ro := bl.length, rt := tk.length }) :
    wp E (callA E k) k false (.rangeFn (.t 18) [19] (.region [⟨(some 6), .alloc [.int .i64 0, .str [], .sl .nil 3 []], none, [], false⟩, ⟨none, .store 3 (.t 6) (.t 19), none, [], false⟩] [6] false) l1_term_check) Q e
      { bl := bl ++ (.cells [.int .i64 kind] :: .cells [.int .i64 0] :: C5 :: CB :: Lx :: (r ++ [.cells [v]])), tk, ro := bl.length, rt := tk.length } := by
  have hmx : maxLen = 9223372036854775807 := rfl
  have hmm : most = 1073741824 := rfl
  let L0 : ALoop := { st := .ready, pend := none, env := e, ps := [19], assign := (.region [⟨(some 6), .alloc [.int .i64 0, .str [], .sl .nil 3 []], none, [], false⟩, ⟨none, .store 3 (.t 6) (.t 19), none, [], false⟩] [6] false), body := l1_term_check }
  let B : Unit → List AB := fun _ => bl ++ (.cells [.int .i64 kind] :: .cells [.int .i64 0] :: C5 :: CB :: Lx :: (r ++ [.cells [v]]))
  have hlen : (bl ++ (.cells [.int .i64 kind] :: .cells [.int .i64 0] :: C5 :: CB :: Lx :: (r ++ [.cells [v]]))).length = bl.length + (r.length + 6) := by simp
  refine wp_range ?_
  have key := call_all_1 hE B (bl.length + (r.length + 6)) (fun a => hlen) tk bl.length tk.length (by omega) (.loop L0) (rightY kind)
    (fun s => ∃ g, s = { bl := bl ++ (.cells [.int .i64 kind] :: .cells [.int .i64 2] :: C5 :: CB :: Lx :: (r ++ (.cells [v] :: .loop { L0 with st := .done, pend := some .ret } :: g))), tk, ro := bl.length, rt := tk.length }) (M + 12) (fun t => t.text.length ≤ M)
    (by rintro s ⟨g, rfl⟩; exact ⟨rfl, rfl⟩)
    (by
      intro a g t x k ht hx hk
      obtain ⟨k, rfl⟩ : ∃ j, k = j + 1 := ⟨k - 1, by omega⟩
      have hr := fn_right hE hx (by omega) k (by omega)
      obtain ⟨kx, rfl, hkx⟩ := hx.open
      refine call_round (L := L0) (by simp [B, append_get, append_get0]) rfl rfl (by simp) ?_
      by_cases h : t.kind ≤ kind
      · have h3 : ¬ kind < t.kind := by omega
        cases h4 : rightT t with
        | true =>
          rw [h4] at hr
          simp [L0, B, rightY, h, h4, l1_term_check, putAll, Env.get_put, e3, e4, append_get, append_get0, append_set, append_set0, h3, hr]
        | false =>
          rw [h4] at hr
          simp [L0, B, rightY, h, h4, l1_term_check, putAll, Env.get_put, e3, e4, append_get, append_get0, append_set, append_set0, h3, hr]
      · have h3 : kind < t.kind := by omega
        simp [L0, B, rightY, h, l1_term_check, putAll, Env.get_put, e3, e4, append_get, append_get0, append_set, append_set0, h3])
    () k (bl.length + (r.length + 5)) (fun a g => by simp [B, append_get, append_get0]) hm hW hv (by omega)
  obtain ⟨v', s', hcl, hor⟩ := key
  refine ⟨v', false, s', ?_, ?_⟩
  · simp only [Opd.ev, e18, hlen]
    rw [← hcl]
    simp [B, L0, St.push]
  · rw [hlen]
    cases h : (preS ts).all (fun t => decide (t.kind ≤ kind) && rightT t) with
    | false =>
      rw [rightY_none _ _ h] at hor
      obtain ⟨g, rfl⟩ := hor
      refine ⟨{ L0 with st := .done, pend := some .ret }, by simp [append_get, append_get0], .inr (.inr ⟨rfl, rfl, ?_⟩)⟩
      simpa [append_set, append_set0] using q2 h _
    | true =>
      rw [rightY_some _ _ h] at hor
      obtain ⟨g, rfl⟩ := hor
      refine ⟨L0, by simp [B, append_get, append_get0], .inl ⟨rfl, rfl, ?_⟩⟩
      simpa [B, append_set, append_set0] using q1 h _

theorem fn_check {ts : List Tm} {v : AV} (hv : Sl ts v) (hm : nTs ts < most) {M : Nat} (hM : M ≤ maxLen) (hW : ∀ t ∈ preS ts, t.text.length ≤ M) (kind : Int) : Fn E (.fn n_term_check [] []) [v, .int .i64 kind] (.int .i64 (checkT kind ts)) := by
  have hmm : most = 1073741824 := rfl
  obtain ⟨K, hK⟩ := fn_depth hE _ (Nat.lt_succ_self _) (by omega) hv
  have hsl : ∃ o xs, v = .sl o 3 xs := by obtain ⟨o, xs, h, _⟩ := hv.len; exact ⟨o, xs, h⟩
  refine Fn.byW (h_term_check hE) rfl rfl ⟨K + 2 * nTs ts + M + 30, fun k hk bl tk => ?_⟩
  have hal := call_all hE hsl k (by omega)
  have hd := hK k (by omega)
  simp [F_term_check, b_term_check, hal]
  refine check_count hE hv hm (by omega) (by simp) (by simp) (by simp) (fun h L r => ?_) (fun h C L r => ?_)
  · by_cases hdp : 100 < dpS ts
    · have hc : checkT kind ts = 6 := by unfold checkT; rw [if_neg (by omega), if_pos hdp]
      have hdi : (100 : Int) < (dpS ts : Int) := by omega
      simp [hd, hdi, hc, append_get, append_get0, append_set, append_set0]
    · have hdi : ¬ (100 : Int) < (dpS ts : Int) := by omega
      simp [hd, hdi, hal, append_get, append_get0, append_set, append_set0]
      refine check_right hE hv hm hM hW kind (by omega) (by simp) (by simp) (by simp) (fun hr g => ?_) (fun hr g => ?_)
      · have hc : checkT kind ts = 0 := by unfold checkT; rw [if_neg (by omega), if_neg hdp, if_pos hr]
        simp [hc, append_get, append_get0, append_set, append_set0]
      · have hc : checkT kind ts = 2 := by unfold checkT; rw [if_neg (by omega), if_neg hdp, if_neg (by rw [hr]; simp)]
        simp [hc, append_get, append_get0, append_set, append_set0]
  · have hc : checkT kind ts = 5 := by unfold checkT; rw [if_pos h]
    simp [hc, append_get, append_get0, append_set, append_set0]
end
end Ab.R

/- Well formed lists of a format, as plain data. No condition. -/
namespace Ab
def cnt7 (ts : List Tm) : Nat := ts.countP fun t => t.kind == 7
mutual
def formE : Tm → Bool
  | .mk k _ kids => if k = 7 then true else if k = 4 then formL kids && decide (cnt7 kids ≤ 1) else k == 5 || k == 6
def formL : List Tm → Bool
  | [] => true
  | t :: ts => formE t && formL ts
end
def formedT (ts : List Tm) : Bool := formL ts && decide (cnt7 ts ≤ 1)
theorem formE_eq (t : Tm) : formE t = if t.kind = 7 then true else if t.kind = 4 then formedT t.kids else t.kind == 5 || t.kind == 6 := by cases t; rw [formE]; rfl
theorem cnt7_take {ts : List Tm} {i : Nat} {t : Tm} (h : ts[i]? = some t) : cnt7 (ts.take (i + 1)) = cnt7 (ts.take i) + (if t.kind = 7 then 1 else 0) := by
  unfold cnt7
  rw [List.take_add_one, h]
  simp [List.countP_append, List.countP_cons]
theorem cnt7_le (ts : List Tm) : cnt7 ts ≤ ts.length := List.countP_le_length
end Ab
