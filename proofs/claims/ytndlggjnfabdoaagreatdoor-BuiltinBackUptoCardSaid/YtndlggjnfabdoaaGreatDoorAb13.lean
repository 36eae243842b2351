/- slices.Insert into no row, walked; what 'term.right' answers. No condition. -/
import Derived.Test.YtndlggjnfabdoaaGreatDoorAb01
import Derived.Test.YtndlggjnfabdoaaGreatDoorAb11
import Derived.Test.YtndlggjnfabdoaaGreatDoorAb12
import Derived.Test.YtndlggjnfabdoaaGreatDoorAb09
import Derived.Shelf.RegionOpenPlain
import Derived.Lib.AppendZerosOnto
import Derived.Test.YtndlggjnfabdoaaGreatDoorAb10
set_option linter.all false
namespace Ab.U
open Go Go.Proofs Go.RowKit Go.Lib
set_option linter.all false
abbrev Z2 : Value := .agg #[.slice none 0 0, .slice none 0 0]
set_option maxRecDepth 100000 in
theorem row50' : (Tryz.prog.info? 78).map (fun i => (i.zero, i.size, i.bytes)) = some (some Z2, 2, 48) := by kernel_rfl
theorem row50 : ∃ i, Tryz.prog.info? 78 = some i ∧ i.zero = some Z2 ∧ i.size = 2 ∧ i.bytes = 48 := by
  have h := row50'
  cases hi : Tryz.prog.info? 78 with
  | none => rw [hi] at h; cases h
  | some i =>
    rw [hi] at h
    simp only [Option.map_some, Option.some.injEq, Prod.mk.injEq] at h
    exact ⟨i, rfl, h.1, h.2.1, h.2.2⟩
set_option maxHeartbeats 4000000 in
set_option maxRecDepth 100000 in
theorem ins_nil (base : Option Addr) (vb voff vc : Nat) (vs : List Value) (w : World) (hvl : vs.length = 2)
    (hvs : ∀ j v, vs[j]? = some v → w.cell? ⟨vb, voff + j, none⟩ = some v) (h1v : ∀ v ∈ vs, v.oneCell' = true) :
    Calls Tryz.prog 138 #[.slice none 0 0, .int .i64 0, .slice (some ⟨vb, voff, none⟩) 1 vc] w fun e w' =>
      e = .returned (.slice (some ⟨w.heap.size, 0, none⟩) 1 (grownCap w 1 0 78)) ∧
      w' = w.drew.alloc (.cells (vs.toArray ++ Builtin.zeroCells Z2.cells (grownCap w 1 0 78 - 1)) 78) := by
  obtain ⟨i0, hi0, hz0, hzs, hzb⟩ := row50
  have hsrc : Src Tryz.prog i0.size 46 (.slice (some ⟨vb, voff, none⟩) 1 vc) 1 vs w := by
    rw [hzs]
    exact Src.ofSlice w Tryz.underlying46 ⟨vb, voff, none⟩ 1 vc vs (by omega) (fun j u hj => by rw [Addr.add_lit]; exact hvs j u hj) h1v
  have hold : (Builtin.firstCells i0.size 0 (.slice none 0 0)).run Tryz.prog w.drew = .ok (([] : List Value)).toArray w.drew := by
    rw [hzs]
    exact run_firstCells_none w.drew 2 0 0 0
  have hrun : ∀ ty, (Builtin.append_ #[46, 46] ty #[.slice none 0 0, .slice (some ⟨vb, voff, none⟩) 1 vc]).run Tryz.prog w = _ := fun ty =>
    run_append_grow_src w 46 46 ty 78 i0 _ Tryz.underlying46 hi0 hz0 none 0 0 [] hold _ 1 vs hsrc (by omega) (by omega) (by rw [hzb]; exact growslice_fits (by omega) (by omega))
  go_enter Tryz.func138, Tryz.ntmps138
  go_wp2_with (at_builtin; refine Lib.wpList_append_run _ rfl _ _ _ _ rfl _ _ rfl rfl _ _ (hrun _) ?_)
  go_ret
  exact ⟨rfl, rfl⟩


def E0 : IEnv := { fns := Table.fn table, glob := fun _ => .junk, prim := fun _ _ => none }
theorem env0 (w : World) : EnvOk Tryz.prog (varLink w) E0 where
  inj a b h := h
  fns f F h := fns_of_tab (tab_ok w) f F h
  prim f args v h1 h2 := by cases h2
theorem glR0 (W : World) : GlR (varLink W) E0 (g0 W) W := ⟨fun n => by simp [E0, Rep], fun n => .inl rfl, Nat.le_refl _, Below.refl _ _⟩
theorem right_calls (c : UInt8) (k : Option Addr × Nat) (hk : k.1 = none → k.2 = 0) (W : World) : Calls Tryz.prog 26 #[.agg #[.int .i64 1, .string ⟨#[c]⟩, .slice k.1 0 k.2]] W fun e W' => e = .returned (.bool true) ∧ Below W.heap.size W W' := by
  obtain ⟨a, cap⟩ := k
  have hr : Rt (.mk 1 [c] []) (.agg [.int .i64 1, .str [c], .sl (if a = none then .nil else .any) 3 []]) := Rt.mk ⟨_, _, rfl, ⟨Nat.zero_le _, fun _ => rfl⟩, by simp only [Rts]⟩
  have h1 := fn_right (E := E0) rfl hr (by simp [Tm.text]; show 1 ≤ 9223372036854775807; omega)
  have h2 : rightT (.mk 1 [c] []) = true := by simp [rightT, Tm.kind, Tm.kids, Tm.text]
  rw [h2] at h1
  refine calls_true (env0 W) (h1 _ (Nat.le_refl _) st0) (by kernel_rfl) (glR0 W) (cargs := [.agg #[.int .i64 1, .string ⟨#[c]⟩, .slice a 0 cap]]) ?_
  simp only [RepL]
  refine ⟨_, _, rfl, ?_, rfl⟩
  simp only [Rep]
  refine ⟨[.int .i64 1, .string ⟨#[c]⟩, .slice a 0 cap], rfl, ?_, ?_⟩
  · simp only [RepL, Rep]
    refine ⟨_, _, rfl, rfl, _, _, rfl, rfl, _, _, rfl, ⟨a, cap, [], rfl, by simp, by simp [AV.untokL], rfl, (fun u h => by cases h), ?_, ?_⟩, rfl⟩
    · cases a with
      | none => exact ⟨trivial, hk rfl⟩
      | some p => exact ⟨fun h => absurd rfl h, fun j u h => by simp [flat] at h⟩
    · cases a with
      | none => simp only [if_true, OwnOk]; exact ⟨trivial, rfl, hk rfl⟩
      | some p => simp [OwnOk]
  · intro u hu
    simp only [List.mem_cons, List.not_mem_nil, or_false] at hu
    rcases hu with rfl | rfl | rfl <;> trivial
end Ab.U

/- What 'term.Size' answers. No condition but the table. -/
namespace Ab.U
open Go Ab Go.RowKit
set_option maxRecDepth 10000
set_option linter.all false
def stepY (a : Int) (_ : Tm) : Option Int := some (IntKind.wrap .i64 (a + 1))
theorem stepY_fold : ∀ (l : List Tm) (a : Int), 0 ≤ a → a + l.length ≤ 1073741824 → foldO stepY a l = some (a + l.length)
  | [], a, _, _ => by simp [foldO]
  | t :: l, a, h0, h1 => by
    simp only [List.length_cons] at h1
    have hw : IntKind.wrap .i64 (a + 1) = a + 1 := wrapIn (by omega) (by omega)
    simp only [foldO, stepY, hw]
    rw [stepY_fold l (a + 1) (by omega) (by omega)]
    simp only [List.length_cons, Int.natCast_add]
    congr 1; omega
section
variable {E : IEnv} (hE : E.fns = Table.fn table)
include hE
theorem call_Size_1 {k : Nat} (hk : 1 ≤ k) (s : St) (b : Nat) (a : Int) (hb : s.bl[b]? = some (.cells [.int .i64 a])) (hro : s.ro ≤ b) :
    callA E k none (.fn n_term_Size_1 [] [.ptr b 0]) [] s = some (.ret (.tup []), false, { s with bl := s.bl.set b (.cells [.int .i64 (IntKind.wrap .i64 (a + 1))]) }) := by
  obtain ⟨k, rfl⟩ : ∃ j, k = j + 1 := ⟨k - 1, by omega⟩
  obtain ⟨v, s', h, rfl, rfl⟩ := call_byW (h_term_Size_1 hE) (first := []) (caps := [.ptr b 0]) (args := []) rfl (k := k) (s := s)
    (Post := fun v s' => v = .tup [] ∧ s' = { s with bl := s.bl.set b (.cells [.int .i64 (IntKind.wrap .i64 (a + 1))]) }) (by
      simp [-getElem?_pos, List.getElem?_cons_zero, F_term_Size_1, b_term_Size_1, s0Of, hb, hro, finA])
  exact h
theorem fn_Size {ts : List Tm} {v : AV} (hv : Sl ts v) (hm : nTs ts < most) : Fn E (.fn n_term_Size [] []) [v] (.tup [.int .i64 (nTs ts), .int .i64 (dpS ts)]) := by
  have hmm : most = 1073741824 := rfl
  obtain ⟨K, hK⟩ := fn_depth hE _ (Nat.lt_succ_self _) (by omega) hv
  have hsl : ∃ o xs, v = .sl o 3 xs := by obtain ⟨o, xs, h, _⟩ := hv.len; exact ⟨o, xs, h⟩
  refine Fn.byW (h_term_Size hE) rfl rfl ⟨K + 2 * nTs ts + 30, fun k hk bl tk => ?_⟩
  have hal := call_all hE hsl k (by omega)
  have hd := hK k (by omega)
  have hcd := c_term_depth hE [] []
  simp [F_term_Size, b_term_Size, hal, append_get, append_get0, append_set, append_set0]
  let e : Env := [(0, v), (2, .ptr bl.length 0), (3, .int .i64 0), (4, .ptr (bl.length + 1) 0), (7, .fn n_term_all_1 [] [.ptr (bl.length + 2) 0])]
  let L0 : ALoop := { st := .ready, pend := none, env := e, ps := [8], assign := .skip, body := l0_term_Size }
  let B : Int → List AB := fun a => bl ++ [.cells [.int .i64 a], .cells [.fn n_term_Size_1 [] [.ptr bl.length 0]], .cells [v]]
  refine wp_range ?_
  have key := call_all_1 hE B (bl.length + 3) (fun a => by simp [B]) tk bl.length tk.length (by omega) (.loop L0) stepY (fun s => False) 5 (fun _ => True)
    (by rintro s ⟨⟩)
    (by
      intro a g t x k _ hx hk
      obtain ⟨k, rfl⟩ : ∃ j, k = j + 1 := ⟨k - 1, by omega⟩
      refine call_round (L := L0) (by simp [B, append_get]) rfl rfl (by simp) ?_
      have hc := fun bl2 => call_Size_1 hE (k := k) (by omega) { bl := bl2, tk := tk, ro := bl.length, rt := tk.length } bl.length a
      simp [L0, B, e, stepY, l0_term_Size, putAll, Env.get_put, append_get, append_get0, append_set, append_set0, hc])
    0 k (bl.length + 2) (fun a r => by simp [B, append_get]) hm (fun _ _ => trivial) hv (by omega)
  obtain ⟨v', s', hcl, hor⟩ := key
  refine ⟨v', false, s', ?_, ?_⟩
  · simp only [Opd.ev]
    rw [← hcl]
    simp [B, L0, St.push, e]
  · rw [stepY_fold _ _ (by omega) (by rw [preS_length]; omega)] at hor
    obtain ⟨g, rfl⟩ := hor
    refine ⟨L0, by simp [B, append_get], .inl ⟨rfl, rfl, ?_⟩⟩
    simp [B, append_set, append_set0, preS_length, e, append_get, append_get0, hd, hcd]
end
end Ab.U

/- A pure call whose arguments lead into the caller's blocks. No condition. -/
namespace Ab
open Go
set_option linter.all false
theorem call_byS {E : IEnv} {f : Nat} {first caps : List AV} {F : IFn} (hF : E.fns f = some F) {args : List AV} (hn : (first ++ args ++ caps).length = F.np) {k : Nat} {s : St} {Q : AV → Prop}
    (h : ∀ bl tk, (bl = s.bl ∧ tk = s.tk ∨ AV.plainL (first ++ args ++ caps) = true) → wp E (callA E k) k false F.body (endE F.res bl.length Q) (envOf 0 (first ++ args ++ caps)) { bl, tk, ro := bl.length, rt := tk.length }) (hm : F.mode = .pure := by rfl) : ∃ r, Q r ∧ callA E (k + 1) none (.fn f first caps) args s = some (.ret r, false, s) := by
  obtain ⟨bl, tk, hst, hb⟩ : ∃ bl tk, startA F.mode none (first ++ args ++ caps) s = { bl, tk, ro := bl.length, rt := tk.length } ∧ (bl = s.bl ∧ tk = s.tk ∨ AV.plainL (first ++ args ++ caps) = true) := by
    unfold startA
    split
    · rename_i h; exact ⟨[], [], rfl, .inr (by revert h; cases AV.plainL (first ++ args ++ caps) <;> simp)⟩
    · exact ⟨s.bl, s.tk, by rw [hm]; rfl, .inl ⟨rfl, rfl⟩⟩
  obtain ⟨o, e', s1, h1, ho, vs, h2, r, h3, hq⟩ := wp_run (h bl tk hb)
  have hfin : finA .pure bl.length s s1 (resOne vs) = some (r, s) := by
    unfold finV at h3
    simp only [finA]
    split at h3
    · rename_i hd; rw [if_pos hd, h3]
    · rename_i hd; rw [if_neg hd, if_pos h3.1, h3.2]
  rw [hm] at hst
  refine ⟨r, hq, ?_⟩
  rcases ho with rfl | rfl <;> simp only [callA, hF, runA, hn, ne_eq, not_true_eq_false, if_false, hm, hst, h1, outPan, unwindA, h2, hfin]
/-- The same for one answer that is data. -/
theorem call_byR {E : IEnv} {f : Nat} {first caps : List AV} {F : IFn} (hF : E.fns f = some F) {args : List AV} (hn : (first ++ args ++ caps).length = F.np) {k : Nat} {s : St} {v : AV}
    (h : ∀ bl tk, (bl = s.bl ∧ tk = s.tk ∨ AV.plainL (first ++ args ++ caps) = true) → wp E (callA E k) k false F.body (finW F.res v) (envOf 0 (first ++ args ++ caps)) { bl, tk, ro := bl.length, rt := tk.length }) (hm : F.mode = .pure := by rfl) : callA E (k + 1) none (.fn f first caps) args s = some (.ret v, false, s) := by
  obtain ⟨bl, tk, hst, hb⟩ : ∃ bl tk, startA F.mode none (first ++ args ++ caps) s = { bl, tk, ro := bl.length, rt := tk.length } ∧ (bl = s.bl ∧ tk = s.tk ∨ AV.plainL (first ++ args ++ caps) = true) := by
    unfold startA
    split
    · rename_i h; exact ⟨[], [], rfl, .inr (by revert h; cases AV.plainL (first ++ args ++ caps) <;> simp)⟩
    · exact ⟨s.bl, s.tk, by rw [hm]; rfl, .inl ⟨rfl, rfl⟩⟩
  obtain ⟨o, e', s1, h1, ho, vs, h2, h3, h4⟩ := wp_run (h bl tk hb)
  have hfin : finA .pure bl.length s s1 (resOne vs) = some (v, s) := by
    simp only [finA]
    rw [if_pos h3, h4]
  rw [hm] at hst
  rcases ho with rfl | rfl <;> simp only [callA, hF, runA, hn, ne_eq, not_true_eq_false, if_false, hm, hst, h1, outPan, unwindA, h2, hfin]
end Ab

/- Calls that end in a panic. No condition. -/
namespace Ab
open Go
def panW (v : AV) : Pst := fun o _ _ => match o with | .pan u => u = v | _ => False
@[simp] theorem panW_pan (v u : AV) (e : Env) (s : St) : panW v (.pan u) e s = (u = v) := rfl
@[simp] theorem panW_normal (v : AV) (e : Env) (s : St) : panW v .normal e s = False := rfl
@[simp] theorem panW_ret (v : AV) (e : Env) (s : St) : panW v .ret e s = False := rfl
theorem call_panR {E : IEnv} {f : Nat} {first caps : List AV} {F : IFn} (hF : E.fns f = some F) {args : List AV} (hn : (first ++ args ++ caps).length = F.np) {k : Nat} {s : St} {v : AV} (hd : v.data = true) (hu : v.untok = v)
    (h : ∀ bl tk, (bl = s.bl ∧ tk = s.tk ∨ AV.plainL (first ++ args ++ caps) = true) → wp E (callA E k) k false F.body (panW v) (envOf 0 (first ++ args ++ caps)) { bl, tk, ro := bl.length, rt := tk.length }) (hm : F.mode = .pure := by rfl) : callA E (k + 1) none (.fn f first caps) args s = some (.pan v, false, s) := by
  obtain ⟨bl, tk, hst, hb⟩ : ∃ bl tk, startA F.mode none (first ++ args ++ caps) s = { bl, tk, ro := bl.length, rt := tk.length } ∧ (bl = s.bl ∧ tk = s.tk ∨ AV.plainL (first ++ args ++ caps) = true) := by
    unfold startA
    split
    · rename_i h; exact ⟨[], [], rfl, .inr (by revert h; cases AV.plainL (first ++ args ++ caps) <;> simp)⟩
    · exact ⟨s.bl, s.tk, by rw [hm]; rfl, .inl ⟨rfl, rfl⟩⟩
  obtain ⟨o, e', s1, h1, ho⟩ := wp_run (h bl tk hb)
  have hfin : finA .pure bl.length s s1 v = some (v, s) := by
    simp only [finA]
    rw [if_pos hd, hu]
  rw [hm] at hst
  cases o with
  | pan u =>
    have : u = v := ho
    subst this
    simp only [callA, hF, runA, hn, ne_eq, not_true_eq_false, if_false, hm, hst, h1, outPan, unwindA, hfin]
  | normal => exact ho.elim
  | ret => exact ho.elim
  | exit _ => exact ho.elim
end Ab

/- Slices made by append, from nil or from an empty literal on. No condition. -/
namespace Ab
open Go
def outG (o : Own) (z T : Nat) (ys : List AV) : AV := if ys = [] then .sl o z [] else .sl (.tok T) z ys
def endG (o : Own) (z : Nat) (ys : List AV) : AV := if ys = [] then .sl o z [] else .sl .any z ys
@[simp] theorem outG_nil (o : Own) (z T : Nat) : outG o z T [] = .sl o z [] := rfl
theorem outV_outG (z T : Nat) (ys : List AV) : outV z T ys = outG .nil z T ys := rfl
theorem endV_endG (z : Nat) (ys : List AV) : endV z ys = endG .nil z ys := rfl
theorem outG_untok {o : Own} (ho : o = .nil ∨ o = .full) (z T : Nat) (ys : List AV) : (outG o z T ys).untok = endG o z ys := by
  rcases ho with rfl | rfl <;> unfold outG endG <;> split <;> rfl
theorem outG_data (o : Own) (z T : Nat) (ys : List AV) : (outG o z T ys).data = AV.dataL ys := by
  unfold outG; split
  · rename_i h; subst h; rfl
  · rfl
theorem endG_data (o : Own) (z : Nat) (ys : List AV) : (endG o z ys).data = AV.dataL ys := by
  unfold endG; split
  · rename_i h; subst h; rfl
  · rfl
theorem endG_untok {o : Own} (ho : o = .nil ∨ o = .full) (z : Nat) (ys : List AV) : (endG o z ys).untok = endG o z ys := by
  rcases ho with rfl | rfl <;> unfold endG <;> split <;> rfl
theorem endG_sl (o : Own) (z : Nat) (ys : List AV) : ∃ o', endG o z ys = .sl o' z ys ∧ (o' = .nil → ys = []) := by
  unfold endG; split
  · rename_i h; subst h; exact ⟨_, rfl, fun _ => rfl⟩
  · exact ⟨_, rfl, fun h => by cases h⟩
theorem outG_sl (o : Own) (z T : Nat) (ys : List AV) : ∃ o', outG o z T ys = .sl o' z ys ∧ (o' = .nil → ys = []) := by
  unfold outG; split
  · rename_i h; subst h; exact ⟨_, rfl, (fun _ => rfl)⟩
  · exact ⟨_, rfl, (fun h => by cases h)⟩
theorem app_outG {o0 : Own} (h0 : o0 = .nil ∨ o0 = .full) {bl : List AB} {tk : List Nat} {ro rt z : Nat} {ys zs : List AV} {o : Own} (hl : ys.length + zs.length ≤ most) (hr : rt ≤ tk.length) :
    appA { bl, tk := outT tk ys, ro, rt } z (outG o0 z tk.length ys) (.sl o z zs) = some (outG o0 z tk.length (ys ++ AV.untokL zs), { bl, tk := outT tk (ys ++ AV.untokL zs), ro, rt }) := by
  cases zs with
  | nil => by_cases hy : ys = [] <;> simp [outG, outT, appA, ysOf, AV.untokL, hy] <;> simpa using hl
  | cons a zs =>
    simp only [List.length_cons] at hl
    by_cases hy : ys = []
    · subst hy
      simp only [List.length_nil, Nat.zero_add] at hl
      rcases h0 with rfl | rfl <;> simp [outG, outT, appA, ysOf, AV.untokL, hl]
    · simp [outG, outT, appA, ysOf, AV.untokL, hy, hl, hr]
theorem app_oneG {o0 : Own} (h0 : o0 = .nil ∨ o0 = .full) {bl : List AB} {tk : List Nat} {ro rt z : Nat} {ys : List AV} {y : AV} {o : Own} (hl : ys.length < most) (hr : rt ≤ tk.length) :
    appA { bl, tk := outT tk ys, ro, rt } z (outG o0 z tk.length ys) (.sl o z [y]) = some (outG o0 z tk.length (ys ++ [y.untok]), { bl, tk := outT tk (ys ++ [y.untok]), ro, rt }) :=
  app_outG h0 (zs := [y]) hl hr
end Ab

/- need, single, Chars, number: what they answer, and where they leave. No condition but the table. -/
namespace Ab.U
open Go Ab Go.RowKit
set_option maxRecDepth 10000
set_option linter.all false
/- what a function panics with -/
def leaveV (c : Int) : AV := .iface 62 (.agg [.int .i64 c])
/- a call under way: its argument, a store -/
def Ans (E : IEnv) (nf : Nat) (ra : AV) (res : CRes) : Prop := ∃ K, ∀ k, K ≤ k → ∀ (s : St) (i0 : Nat) (bv ov : AV), s.bl[i0]? = some (.cells [ra, bv, ov]) → callA E k none (.fn nf [] []) [.ptr i0 0] s = some (res, false, s)
def tmV (k : Int) (s : List UInt8) (v : AV) : AV := .agg [.int .i64 k, .str s, v]
def charsT (s : List UInt8) : List Tm := s.map fun c => .mk 1 [c] []
def charsV (s : List UInt8) : List AV := s.map fun c => tmV 1 [c] (.sl .nil 3 [])
theorem rts_chars : ∀ s : List UInt8, Rts (charsT s) (charsV s)
  | [] => by simp [charsT, charsV, Rts]
  | c :: s => by
    have := rts_chars s
    simp only [charsT, charsV, List.map_cons, Rts, Rt] at this ⊢
    exact ⟨_, _, rfl, ⟨.nil, [], rfl, ⟨by simp, fun _ => rfl⟩, by simp only [Rts]⟩, this⟩
theorem charsV_untok (s : List UInt8) : AV.untokL (charsV s) = charsV s := by
  rw [AV.untokL_eq]; simp [charsV, tmV, AV.untok, AV.untokL]
section
variable {E : IEnv} (hE : E.fns = Table.fn table)
include hE
theorem fn_need (e : Int) : FnK 3 E (.fn n_builtin_need [] []) [.bool true, .int .i64 e] (.tup []) :=
  FnK.byW (h_builtin_need hE) rfl rfl (K := 2) fun k hk bl tk => by simp [F_builtin_need, b_builtin_need]
theorem pan_need (e : Int) {k : Nat} (hk : 3 ≤ k) (s : St) : callA E k none (.fn n_builtin_need [] []) [.bool false, .int .i64 e] s = some (.pan (leaveV e), false, s) := by
  obtain ⟨k, rfl⟩ : ∃ j, k = j + 1 := ⟨k - 1, by omega⟩
  exact call_panR (h_builtin_need hE) rfl rfl rfl fun bl tk _ => by simp [F_builtin_need, b_builtin_need, leaveV]
theorem fn_number (s : List UInt8) : FnK 3 E (.fn n_builtin_number [] []) [.str s] (tmV 3 s (.sl .nil 3 [])) :=
  FnK.byW (h_builtin_number hE) rfl rfl (K := 2) fun k hk bl tk => by simp [F_builtin_number, b_builtin_number, append_get, append_get0, append_set, append_set0, tmV]
theorem fn_Chars (s : List UInt8) (hs : s.length ≤ most) : FnK (s.length + 5) E (.fn n_term_Chars [] []) [.str s] (endV 3 (charsV s)) := by
  have hmm : most = 1073741824 := rfl
  refine FnK.byW (h_term_Chars hE) rfl rfl (K := s.length + 4) fun k hk bl tk => ?_
  simp [F_term_Chars, b_term_Chars]
  refine wp_loop s.length (fun i e st => e = [(0, .str s), (3, outV 3 tk.length (charsV (s.take i))), (6, .int .i64 s.length), (7, .int .i64 i)] ∧ st = { bl, tk := outT tk (charsV (s.take i)), ro := bl.length, rt := tk.length }) (by omega) ⟨by simp [charsV], by simp [charsV, outT]⟩ ?_ ?_
  · rintro i e st hi ⟨rfl, rfl⟩
    have hwr : IntKind.wrap .i64 ((i : Int) + 1) = i + 1 := wrapIn (by omega) (by omega)
    have ha := app_one (bl := bl) (tk := tk) (ro := bl.length) (rt := tk.length) (z := 3) (ys := charsV (s.take i)) (y := tmV 1 [s[i]] (.sl .nil 3 [])) (o := .full) (by simp [charsV]; omega) (Nat.le_refl _)
    have htk : s.take (i + 1) = s.take i ++ [s[i]] := by simp
    have hcv : charsV (s.take (i + 1)) = charsV (s.take i) ++ [tmV 1 [s[i]] (.sl .nil 3 [])] := by simp only [charsV, htk, List.map_append, List.map_cons, List.map_nil]
    have hsl : (s.take (i + 1)).drop i = [s[i]] := by
      rw [htk, List.drop_append, List.drop_of_length_le (by rw [List.length_take]; omega), List.length_take, show i - min i s.length = 0 by omega]; rfl
    have hb1 : (0 : Int) ≤ (i : Int) + 1 ∧ (i : Int) + 1 ≤ (s.length : Int) := ⟨by omega, by omega⟩
    have hb2 : (i : Int) ≤ (i : Int) + 1 := by omega
    rw [show (tmV 1 [s[i]] (.sl .nil 3 [])).untok = tmV 1 [s[i]] (.sl .nil 3 []) from rfl] at ha
    simp only [tmV] at ha hcv
    simp [l0_term_Chars, hi, hwr, setElems, repl, elemOfCells, hasSize, sliceA, bound, hcv, hb1, hb2, hsl, ha, -List.take_append_getElem]
  · rintro e st ⟨rfl, rfl⟩
    simp [l0_term_Chars]
    exact ⟨by rw [outV_data]; exact (rts_chars s).data, outV_untok _ _ _⟩
end
end Ab.U

/- Terms as values, one form for each; slices under way in a function that others write beside. No condition. -/
namespace Ab
open Go Go.RowKit
mutual
def cano : Tm → AV
  | .mk k s kids => .agg [.int .i64 k, .str s, endV 3 (canoL kids)]
def canoL : List Tm → List AV
  | [] => []
  | t :: ts => cano t :: canoL ts
end
theorem canoL_length : ∀ ts : List Tm, (canoL ts).length = ts.length
  | [] => rfl
  | _ :: ts => by simp [canoL, canoL_length ts]
theorem canoL_append : ∀ a b : List Tm, canoL (a ++ b) = canoL a ++ canoL b
  | [], _ => rfl
  | _ :: a, b => by simp [canoL, canoL_append a b]
mutual
theorem cano_rt : ∀ {t : Tm}, nT t ≤ maxLen → Rt t (cano t)
  | .mk k s kids, h => by
    simp only [nT] at h
    have h1 := canoL_rts (ts := kids) (by omega)
    have h2 := length_le_nTs kids
    have h3 := canoL_length kids
    simp only [cano]
    exact Rt.mk (Sl.end h1 (by omega))
theorem canoL_rts : ∀ {ts : List Tm}, nTs ts ≤ maxLen → Rts ts (canoL ts)
  | [], _ => by simp [Rts, canoL]
  | t :: ts, h => by
    simp only [nTs] at h
    simp only [Rts, canoL]
    exact ⟨_, _, rfl, cano_rt (by omega), canoL_rts (by omega)⟩
end
@[simp] theorem endV_untok (z : Nat) (ys : List AV) : (endV z ys).untok = endV z ys := by
  unfold endV; split <;> rfl
theorem cano_untok (t : Tm) : (cano t).untok = cano t := by
  cases t; simp [cano]
theorem cano_agg (t : Tm) : ∃ a b c, cano t = .agg [a, b, c] := by
  cases t; exact ⟨_, _, _, rfl⟩
theorem endV_data (z : Nat) (ys : List AV) : (endV z ys).data = AV.dataL ys := by
  unfold endV; split
  · rename_i h; subst h; rfl
  · rfl
mutual
theorem cano_data : ∀ t : Tm, (cano t).data = true
  | .mk k s kids => by simp [cano, endV_data, canoL_data kids]
theorem canoL_data : ∀ ts : List Tm, AV.dataL (canoL ts) = true
  | [] => rfl
  | t :: ts => by simp [canoL, cano_data t, canoL_data ts]
end

/- a slice made by append, where others write tokens beside: tk the tokens at the start, h what came behind -/
def outOk (out : AV) (z : Nat) (ys : List AV) (tk h : List Nat) : Prop := (ys = [] ∧ out = .sl .nil z []) ∨ (∃ q, out = .sl (.tok (tk.length + q)) z ys ∧ h[q]? = some ys.length ∧ ys ≠ [])
theorem outOk.more {out : AV} {z : Nat} {ys : List AV} {tk h : List Nat} (ho : outOk out z ys tk h) (h' : List Nat) : outOk out z ys tk (h ++ h') := by
  rcases ho with h1 | ⟨q, h1, h2, h3⟩
  · exact .inl h1
  · obtain ⟨hq, _⟩ := List.getElem?_eq_some_iff.1 h2
    exact .inr ⟨q, h1, by rw [List.getElem?_append_left hq]; exact h2, h3⟩
theorem outOk.sl {out : AV} {z : Nat} {ys : List AV} {tk h : List Nat} (ho : outOk out z ys tk h) : ∃ o, out = .sl o z ys ∧ (o = .nil → ys = []) ∧ out.untok = endV z ys := by
  rcases ho with ⟨rfl, rfl⟩ | ⟨q, rfl, _, h3⟩
  · exact ⟨_, rfl, fun _ => rfl, rfl⟩
  · exact ⟨_, rfl, (fun h => by cases h), by unfold endV; rw [if_neg h3]; rfl⟩
theorem app_eff {out : AV} {z : Nat} {ys : List AV} {tk h : List Nat} (ho : outOk out z ys tk h) {bl : List AB} {ro rt : Nat} {o : Own} {w : AV} (hl : ys.length < most) (hr : rt ≤ tk.length) :
    ∃ out' h', appA { bl, tk := tk ++ h, ro, rt } z out (.sl o z [w]) = some (out', { bl, tk := tk ++ h', ro, rt }) ∧ outOk out' z (ys ++ [w.untok]) tk h' := by
  have hmm : most = 1073741824 := rfl
  rcases ho with ⟨rfl, rfl⟩ | ⟨q, rfl, h2, h3⟩
  · refine ⟨.sl (.tok (tk.length + h.length)) z [w.untok], h ++ [1], ?_, .inr ⟨h.length, rfl, by simp, by simp⟩⟩
    simp [appA, ysOf, AV.untokL, most]
  · obtain ⟨hq, _⟩ := List.getElem?_eq_some_iff.1 h2
    refine ⟨.sl (.tok (tk.length + q)) z (ys ++ [w.untok]), h.set q (ys.length + 1), ?_, .inr ⟨q, rfl, by simp [hq], by simp⟩⟩
    have h4 : ys.length + 1 ≤ most := hl
    have h5 : rt ≤ tk.length + q := by omega
    simp [appA, ysOf, AV.untokL, h4, h5, h2, append_get]
end Ab

/- Symb and Explode: what they answer, and where they leave. No condition but the table. -/
namespace Ab.U
open Go Ab Go.RowKit
set_option maxRecDepth 10000
set_option linter.all false
/- the text of the only term -/
def oneOf (kd : Int) : List Tm → Option (List UInt8)
  | [t] => if t.kind = kd then some t.text else none
  | _ => none
theorem oneOf_some {kd : Int} {ts : List Tm} {x : List UInt8} (h : oneOf kd ts = some x) : ∃ t, ts = [t] ∧ t.kind = kd ∧ t.text = x := by
  match ts, h with
  | [t], h =>
    simp only [oneOf] at h
    split at h
    · exact ⟨t, rfl, by assumption, by simpa using h⟩
    · cases h
theorem ix0 : idx (.int .i64 0) 1 = some 0 := rfl
section
variable {E : IEnv} (hE : E.fns = Table.fn table)
include hE
theorem plain_ptr {s : St} {bl : List AB} {tk : List Nat} {i : Nat} {l : List AV} (h : bl = s.bl ∧ tk = s.tk ∨ AV.plainL (.ptr i 0 :: l) = true) : bl = s.bl ∧ tk = s.tk := by
  rcases h with h | h
  · exact h
  · simp [AV.plainL, AV.plain] at h
theorem single_ok {o : Own} {zs : List AV} {ts : List Tm} (hz : Rts ts zs) {kd : Int} {x : List UInt8} (h : oneOf kd ts = some x) {k : Nat} (hk : 10 ≤ k) (s : St) (i0 : Nat) (bv ov : AV) (hi0 : s.bl[i0]? = some (.cells [.sl o 3 zs, bv, ov])) :
    callA E k none (.fn n___builtin_call__single [] []) [.ptr i0 0, .int .i64 kd] s = some (.ret (.str x), false, s) := by
  obtain ⟨k, rfl⟩ : ∃ j, k = j + 1 := ⟨k - 1, by omega⟩
  obtain ⟨t, rfl, hkd, rfl⟩ := oneOf_some h
  simp only [Rts] at hz
  obtain ⟨y, _, rfl, hy, rfl⟩ := hz
  obtain ⟨v, rfl, hv⟩ := hy.open
  have hnd := fn_need hE 22 k (by omega)
  refine call_byR (h___builtin_call__single hE) rfl fun bl tk hb' => ?_
  obtain ⟨rfl, rfl⟩ := plain_ptr hE hb'
  have hi' : ∀ r, (s.bl ++ r)[i0]? = s.bl[i0]? := fun r => List.getElem?_append_left (List.getElem?_eq_some_iff.1 hi0).1
  subst hkd
  simp [-getElem?_pos, List.getElem?_cons_zero, List.getElem?_cons_succ, F___builtin_call__single, b___builtin_call__single, hi', hi0, hnd, ix0]
theorem single_pan {o : Own} {zs : List AV} {ts : List Tm} (hz : Rts ts zs) {kd : Int} (h : oneOf kd ts = none) (hm : ts.length ≤ most) {k : Nat} (hk : 10 ≤ k) (s : St) (i0 : Nat) (bv ov : AV) (hi0 : s.bl[i0]? = some (.cells [.sl o 3 zs, bv, ov])) :
    callA E k none (.fn n___builtin_call__single [] []) [.ptr i0 0, .int .i64 kd] s = some (.pan (leaveV 22), false, s) := by
  obtain ⟨k, rfl⟩ : ∃ j, k = j + 1 := ⟨k - 1, by omega⟩
  have hnd := pan_need hE 22 (k := k) (by omega)
  have hzl := hz.length
  refine call_panR (h___builtin_call__single hE) rfl rfl rfl fun bl tk hb' => ?_
  obtain ⟨rfl, rfl⟩ := plain_ptr hE hb'
  have hi' : ∀ r, (s.bl ++ r)[i0]? = s.bl[i0]? := fun r => List.getElem?_append_left (List.getElem?_eq_some_iff.1 hi0).1
  match ts, hz, h, hzl, hm with
  | [], hz, h, hzl, hm =>
    obtain rfl : zs = [] := by simpa using hzl
    simp [-getElem?_pos, List.getElem?_cons_zero, List.getElem?_cons_succ, F___builtin_call__single, b___builtin_call__single, hi', hi0, hnd, ix0]
  | t :: u :: r, hz, h, hzl, hm =>
    have h1 : ((zs.length : Int) == 1) = false := beq_eq_false_iff_ne.2 (by rw [hzl]; simp only [List.length_cons]; omega)
    simp [-getElem?_pos, List.getElem?_cons_zero, List.getElem?_cons_succ, F___builtin_call__single, b___builtin_call__single, hi', hi0, hnd, h1]
  | [t], hz, h, hzl, hm =>
    simp only [Rts] at hz
    obtain ⟨y, _, rfl, hy, rfl⟩ := hz
    obtain ⟨v, rfl, hv⟩ := hy.open
    have hkd : (t.kind == kd) = false := by
      simp only [oneOf] at h
      split at h
      · cases h
      · rename_i hne; exact beq_eq_false_iff_ne.2 hne
    simp [-getElem?_pos, List.getElem?_cons_zero, List.getElem?_cons_succ, F___builtin_call__single, b___builtin_call__single, hi', hi0, hnd, hkd, ix0]
/- what they answer -/
def spell (x : Option (List UInt8)) : CRes := match x with | some x => .ret (endV 3 (charsV x)) | none => .pan (leaveV 22)
theorem ans_symb {o : Own} {zs : List AV} {ts : List Tm} (hz : Rts ts zs) (hm : ts.length ≤ most) (hx : ∀ x, oneOf 3 ts = some x → x.length ≤ 1048576) : Ans E n___builtin_call__symb (.sl o 3 zs) (spell (oneOf 3 ts)) := by
  refine ⟨1048600, fun k hk s i0 bv ov hi0 => ?_⟩
  obtain ⟨k, rfl⟩ : ∃ j, k = j + 1 := ⟨k - 1, by omega⟩
  have hmm : most = 1073741824 := rfl
  cases hc : oneOf 3 ts with
  | some x =>
    have hc1 := fn_Chars hE x (by have := hx x hc; omega) k (by have := hx x hc; omega)
    refine call_byR (h___builtin_call__symb hE) rfl fun bl tk hb' => ?_
    obtain ⟨rfl, rfl⟩ := plain_ptr hE hb'
    have h1 := single_ok hE hz hc (k := k) (by omega) { bl := s.bl, tk := s.tk, ro := s.bl.length, rt := s.tk.length } i0 bv ov hi0
    simp [-getElem?_pos, List.getElem?_cons_zero, List.getElem?_cons_succ, F___builtin_call__symb, b___builtin_call__symb, h1, hc1]
    rw [endV_data]; exact (rts_chars x).data
  | none =>
    refine call_panR (h___builtin_call__symb hE) rfl rfl rfl fun bl tk hb' => ?_
    obtain ⟨rfl, rfl⟩ := plain_ptr hE hb'
    have h1 := single_pan hE hz hc hm (k := k) (by omega) { bl := s.bl, tk := s.tk, ro := s.bl.length, rt := s.tk.length } i0 bv ov hi0
    simp [-getElem?_pos, List.getElem?_cons_zero, List.getElem?_cons_succ, F___builtin_call__symb, b___builtin_call__symb, h1]
theorem ans_explode {o : Own} {zs : List AV} {ts : List Tm} (hz : Rts ts zs) (hm : ts.length ≤ most) (hx : ∀ x, oneOf 2 ts = some x → x.length ≤ 1048576) : Ans E n___builtin_call__explode (.sl o 3 zs) (spell (oneOf 2 ts)) := by
  refine ⟨1048600, fun k hk s i0 bv ov hi0 => ?_⟩
  obtain ⟨k, rfl⟩ : ∃ j, k = j + 1 := ⟨k - 1, by omega⟩
  have hmm : most = 1073741824 := rfl
  cases hc : oneOf 2 ts with
  | some x =>
    have hc1 := fn_Chars hE x (by have := hx x hc; omega) k (by have := hx x hc; omega)
    refine call_byR (h___builtin_call__explode hE) rfl fun bl tk hb' => ?_
    obtain ⟨rfl, rfl⟩ := plain_ptr hE hb'
    have h1 := single_ok hE hz hc (k := k) (by omega) { bl := s.bl, tk := s.tk, ro := s.bl.length, rt := s.tk.length } i0 bv ov hi0
    simp [-getElem?_pos, List.getElem?_cons_zero, List.getElem?_cons_succ, F___builtin_call__explode, b___builtin_call__explode, h1, hc1]
    rw [endV_data]; exact (rts_chars x).data
  | none =>
    refine call_panR (h___builtin_call__explode hE) rfl rfl rfl fun bl tk hb' => ?_
    obtain ⟨rfl, rfl⟩ := plain_ptr hE hb'
    have h1 := single_pan hE hz hc hm (k := k) (by omega) { bl := s.bl, tk := s.tk, ro := s.bl.length, rt := s.tk.length } i0 bv ov hi0
    simp [-getElem?_pos, List.getElem?_cons_zero, List.getElem?_cons_succ, F___builtin_call__explode, b___builtin_call__explode, h1]
end
end Ab.U

/- What 'meta.up' answers for values. No condition but the table. -/
namespace Ab.U
open Go Ab Go.RowKit
set_option maxRecDepth 10000
set_option linter.all false
mutual
/- the metacode of a value -/
def upE : Tm → List Tm
  | .mk k s kids => if k = 4 then [.mk 4 [] (upL kids)] else if k = 1 ∧ s = [42] then [.mk 1 [42] [], .mk 1 [86] []] else [.mk k s []]
def upL : List Tm → List Tm
  | [] => []
  | t :: ts => upE t ++ upL ts
end
theorem upE_eq (t : Tm) : upE t = if t.kind = 4 then [.mk 4 [] (upL t.kids)] else if t.kind = 1 ∧ t.text = [42] then [.mk 1 [42] [], .mk 1 [86] []] else [.mk t.kind t.text []] := by cases t; simp only [upE, Tm.kind, Tm.text, Tm.kids]; congr
/- what a value's terms are -/
def Vt (t : Tm) : Prop := 1 ≤ t.kind ∧ t.kind ≤ 4 ∧ (t.kind = 4 → t.text = []) ∧ (t.kind ≠ 4 → t.kids = [])
def Vs (ts : List Tm) : Prop := ∀ t ∈ preS ts, Vt t
def nilV : AV := .sl .nil 3 []
def pieceV (t : Tm) : List AV := if t.kind = 1 ∧ t.text = [42] then [tmV 1 [42] nilV, tmV 1 [86] nilV] else [tmV t.kind t.text nilV]
theorem rt_nil (k : Int) (s : List UInt8) : Rt (.mk k s []) (tmV k s nilV) := Rt.mk Sl.nil
theorem up_parts {E : IEnv} {f : AV} {K : Nat} {ts : List Tm} {xs : List AV} (h1 : Rts ts xs) (hv : ∀ t ∈ ts, Vt t) (hf : ∀ t v, t ∈ ts → Sl t.kids v → ∃ r, FnK K E f [v] r ∧ Sl (upL t.kids) r ∧ r.untok = r) :
    ∃ ps : List (List AV), Rts (upL ts) ps.flatten ∧ AV.untokL ps.flatten = ps.flatten ∧ ps.length = ts.length ∧ ∀ (i : Nat) t, ts[i]? = some t → ∃ v p, xs[i]? = some (tmV t.kind t.text v) ∧ ps[i]? = some p ∧ Sl t.kids v ∧ p.length ≤ 2 ∧ AV.untokL p = p ∧
      (t.kind = 4 → ∃ r, FnK K E f [v] r ∧ p = [tmV 4 [] r] ∧ r.data = true ∧ r.untok = r ∧ ∃ o y, r = .sl o 3 y) ∧ (t.kind ≠ 4 → p = pieceV t) := by
  induction ts generalizing xs with
  | nil => exact ⟨[], by simp [Rts, upL], rfl, rfl, fun i t h => by simp at h⟩
  | cons t ts ih =>
    simp only [Rts] at h1
    obtain ⟨y, ys, rfl, hy, hys⟩ := h1
    obtain ⟨ps, k1, k2, k3, k4⟩ := ih hys (fun t ht => hv t (List.mem_cons_of_mem _ ht)) fun t v ht => hf t v (List.mem_cons_of_mem _ ht)
    obtain ⟨v, rfl, hkv⟩ := hy.open
    obtain ⟨r, hr, hr2, hr3⟩ := hf t v (List.mem_cons_self ..) hkv
    obtain ⟨w1, w2, w3, w4⟩ := hv t (List.mem_cons_self ..)
    by_cases h4 : t.kind = 4
    · have hp : AV.untokL [tmV 4 [] r] = [tmV 4 [] r] := by simp [AV.untokL, AV.untok, tmV, hr3]
      refine ⟨[tmV 4 [] r] :: ps, ?_, ?_, by simp [k3], ?_⟩
      · rw [upL, upE_eq, if_pos h4, List.flatten_cons]
        refine Rts.append ?_ k1
        simp only [Rts]
        exact ⟨_, _, rfl, Rt.mk hr2, rfl⟩
      · rw [List.flatten_cons, AV.untokL_eq, List.map_append, ← AV.untokL_eq, ← AV.untokL_eq, k2, hp]
      · intro i u hu
        cases i with
        | zero =>
          simp only [List.getElem?_cons_zero, Option.some.injEq] at hu
          subst hu
          exact ⟨v, _, rfl, rfl, hkv, by simp, hp, fun _ => ⟨r, hr, rfl, hr2.data, hr3, by obtain ⟨o, y, h, _⟩ := hr2; exact ⟨o, y, h⟩⟩, fun h => absurd h4 h⟩
        | succ i => exact k4 i u (by simpa using hu)
    · have hp : AV.untokL (pieceV t) = pieceV t := by unfold pieceV; split <;> simp [AV.untokL, AV.untok, tmV, nilV]
      refine ⟨pieceV t :: ps, ?_, ?_, by simp [k3], ?_⟩
      · rw [upL, upE_eq, if_neg h4, List.flatten_cons]
        refine Rts.append ?_ k1
        unfold pieceV
        split
        · simp only [Rts]
          exact ⟨_, _, rfl, rt_nil _ _, _, _, rfl, rt_nil _ _, rfl⟩
        · simp only [Rts]
          exact ⟨_, _, rfl, rt_nil _ _, rfl⟩
      · rw [List.flatten_cons, AV.untokL_eq, List.map_append, ← AV.untokL_eq, ← AV.untokL_eq, k2, hp]
      · intro i u hu
        cases i with
        | zero =>
          simp only [List.getElem?_cons_zero, Option.some.injEq] at hu
          subst hu
          exact ⟨v, _, rfl, rfl, hkv, by unfold pieceV; split <;> simp, hp, fun h => absurd h h4, fun _ => rfl⟩
        | succ i => exact k4 i u (by simpa using hu)
mutual
theorem upE_nT : ∀ t : Tm, Vt t → (∀ u ∈ preS t.kids, Vt u) → nTs (upE t) ≤ 2 * nT t
  | .mk k s kids, hv, hk => by
    rw [nT_eq]
    simp only [upE, Tm.kids] at *
    split
    · have := upL_nT kids hk
      simp only [nTs, nT]; omega
    · split <;> simp only [nTs, nT] <;> omega
theorem upL_nT : ∀ ts : List Tm, Vs ts → nTs (upL ts) ≤ 2 * nTs ts
  | [], _ => by simp [upL, nTs]
  | t :: ts, hv => by
    have h1 := upE_nT t (hv t (by cases t; simp [preS, preT])) (fun u hu => hv u (by cases t; simp only [preS, preT, Tm.kids] at hu ⊢; simp [hu]))
    have h2 := upL_nT ts (fun u hu => hv u (by simp only [preS]; simp [hu]))
    simp only [upL, nTs_append, nTs]; omega
end
theorem upE_len (t : Tm) : (upE t).length ≤ 2 := by
  rw [upE_eq]; split
  · simp
  · split <;> simp
theorem upL_len : ∀ ts : List Tm, (upL ts).length ≤ 2 * ts.length
  | [] => by simp [upL]
  | t :: ts => by
    have := upE_len t
    have := upL_len ts
    simp only [upL, List.length_append, List.length_cons]; omega
theorem pre_mem : ∀ {ts : List Tm} {t : Tm}, t ∈ ts → t ∈ preS ts
  | u :: ts, t, h => by
    simp only [preS, List.mem_append]
    rcases List.mem_cons.1 h with rfl | h
    · left; cases t; simp [preT]
    · right; exact pre_mem h
theorem pre_kids : ∀ {ts : List Tm} {t u : Tm}, t ∈ ts → u ∈ preS t.kids → u ∈ preS ts
  | w :: ts, t, u, h, hu => by
    simp only [preS, List.mem_append]
    rcases List.mem_cons.1 h with rfl | h
    · left; cases t; simp only [preT, Tm.kids] at hu ⊢; simp [hu]
    · right; exact pre_kids h hu
section
variable {E : IEnv} (hE : E.fns = Table.fn table)
include hE
theorem fn_mgroup {o : Own} {y : List AV} (hd : (AV.sl o 3 y).data = true) (hu : (AV.sl o 3 y).untok = .sl o 3 y) : FnK 3 E (.fn n_meta_group [] []) [.sl o 3 y] (tmV 4 [] (.sl o 3 y)) :=
  FnK.byW (h_meta_group hE) rfl rfl (K := 2) fun k hk bl tk => by
    simp [F_meta_group, b_meta_group, append_get, append_get0, append_set, append_set0, tmV, hu]
    simpa [AV.data] using hd
theorem fn_mchar (s : List UInt8) : FnK 3 E (.fn n_meta_char [] []) [.str s] (tmV 1 s nilV) :=
  FnK.byW (h_meta_char hE) rfl rfl (K := 2) fun k hk bl tk => by simp [F_meta_char, b_meta_char, append_get, append_get0, append_set, append_set0, tmV, nilV]
theorem fn_IsVar {c : Int} (h : c < 5) (s : List UInt8) (o : Own) (y : List AV) : FnK 3 E (.fn n_term_IsVariable [] []) [tmV c s (.sl o 3 y)] (.bool false) :=
  FnK.byW (h_term_IsVariable hE) rfl rfl (K := 2) fun k hk bl tk => by
    have h1 : ¬ 5 ≤ c := by omega
    simp [F_term_IsVariable, b_term_IsVariable, append_get, append_get0, append_set, append_set0, tmV, h1]
end
end Ab.U

/- Small expressions as plain data. No condition. -/
namespace Ab
open Go Go.RowKit
mutual
def nodesL (d : Nat) (left n : Int) : List Tm → Int
  | [] => n
  | t :: ts => if n ≤ left then (if 150 < d then left + 1 else nodesL d left (n + (1 + nodesK (d + 1) (left - n - 1) t)) ts) else n
def nodesK (d : Nat) (left : Int) : Tm → Int
  | .mk _ _ kids => nodesL d left 0 kids
end
theorem nodesK_eq (d : Nat) (left : Int) (t : Tm) : nodesK d left t = nodesL d left 0 t.kids := by cases t; simp only [nodesK, Tm.kids]
mutual
theorem nodesL_bound (d : Nat) (left n : Int) : ∀ ts : List Tm, 0 ≤ n → n ≤ nodesL d left n ts ∧ nodesL d left n ts ≤ max n (left + 1)
  | [], h => by simp only [nodesL]; omega
  | t :: ts, h => by
    simp only [nodesL]
    split
    · split
      · omega
      · have h1 := nodesK_bound (d + 1) (left - n - 1) t
        have h2 := nodesL_bound d left (n + (1 + nodesK (d + 1) (left - n - 1) t)) ts (by omega)
        omega
    · omega
theorem nodesK_bound (d : Nat) (left : Int) : ∀ t : Tm, 0 ≤ nodesK d left t ∧ nodesK d left t ≤ max 0 (left + 1)
  | .mk _ _ kids => by
    have := nodesL_bound d left 0 kids (by omega)
    simp only [nodesK]; omega
end
mutual
theorem nodesL_exact (d : Nat) (left n : Int) : ∀ ts : List Tm, 0 ≤ n → nodesL d left n ts ≤ left → nodesL d left n ts = n + nTs ts
  | [], h, h' => by simp only [nodesL, nTs]; omega
  | t :: ts, h, h' => by
    simp only [nodesL] at h' ⊢
    split at h'
    · rename_i h1
      rw [if_pos h1]
      split at h'
      · omega
      · rename_i h2
        rw [if_neg h2]
        have h3 := nodesK_bound (d + 1) (left - n - 1) t
        have h4 := nodesL_bound d left (n + (1 + nodesK (d + 1) (left - n - 1) t)) ts (by omega)
        have h5 := nodesL_exact d left (n + (1 + nodesK (d + 1) (left - n - 1) t)) ts (by omega) h'
        have h6 := nodesK_exact (d + 1) (left - n - 1) t (by omega)
        simp only [nTs]
        omega
    · omega
theorem nodesK_exact (d : Nat) (left : Int) : ∀ t : Tm, nodesK d left t ≤ left → 1 + nodesK d left t = nT t
  | .mk _ _ kids, h => by
    simp only [nodesK] at h ⊢
    have := nodesL_exact d left 0 kids (by omega) h
    simp only [nT]; omega
end
mutual
def shortL : List Tm → Bool
  | [] => true
  | t :: ts => shortE t && shortL ts
def shortE : Tm → Bool
  | .mk _ s kids => decide (s.length ≤ 600) && shortL kids
end
theorem shortE_eq (t : Tm) : shortE t = (decide (t.text.length ≤ 600) && shortL t.kids) := by cases t; rw [shortE]; rfl
mutual
theorem shortL_pre : ∀ ts : List Tm, shortL ts = true → ∀ t ∈ preS ts, t.text.length ≤ 600
  | [], _, t, h => by simp [preS] at h
  | u :: ts, hs, t, h => by
    simp only [shortL, Bool.and_eq_true] at hs
    simp only [preS, List.mem_append] at h
    rcases h with h | h
    · exact shortE_pre u hs.1 t h
    · exact shortL_pre ts hs.2 t h
theorem shortE_pre : ∀ u : Tm, shortE u = true → ∀ t ∈ preT u, t.text.length ≤ 600
  | .mk k s kids, hs, t, h => by
    simp only [shortE, Bool.and_eq_true, decide_eq_true_eq] at hs
    simp only [preT, List.mem_cons] at h
    rcases h with rfl | h
    · exact hs.1
    · exact shortL_pre kids hs.2 t h
end
def smallT (ts : List Tm) (m : Int) : Bool := decide (nodesL 0 m 0 ts ≤ m) && shortL ts
theorem smallT_nodes {ts : List Tm} {m : Int} (h : smallT ts m = true) : (nTs ts : Int) ≤ m := by
  simp only [smallT, Bool.and_eq_true, decide_eq_true_eq] at h
  have := nodesL_exact 0 m 0 ts (by omega) h.1
  omega
theorem smallT_short {ts : List Tm} {m : Int} (h : smallT ts m = true) : ∀ t ∈ preS ts, t.text.length ≤ 600 := by
  simp only [smallT, Bool.and_eq_true] at h
  exact shortL_pre ts h.2
end Ab

/- Functions of the Kids of terms, with fuel that is told. No condition. -/
namespace Ab
open Go
theorem FnK.mono {K K' : Nat} {E : IEnv} {f : AV} {a : List AV} {v : AV} (h : FnK K E f a v) (hk : K ≤ K') : FnK K' E f a v := fun k hk' s => h k (by omega) s
theorem kid_allK {K : Nat} {E : IEnv} {f : AV} {more : List AV} {c : Tm → AV} {ts : List Tm} {xs : List AV} (h1 : Rts ts xs)
    (hf : ∀ t v, t ∈ ts → Sl t.kids v → FnK K E f (v :: more) (c t)) :
    ∀ k, K ≤ k → ∀ (i : Nat) t, ts[i]? = some t → ∃ v, xs[i]? = some (.agg [.int .i64 t.kind, .str t.text, v]) ∧ Sl t.kids v ∧ ∀ s, callA E k none f (v :: more) s = some (.ret (c t), false, s) := by
  intro k hk i t ht
  obtain ⟨x, a3, a4⟩ := h1.get ht
  obtain ⟨v, e1, hv⟩ := a4.open
  subst e1
  exact ⟨v, a3, hv, hf t v (List.mem_of_getElem? ht) hv k hk⟩
theorem kids_allK {K : Nat} {E : IEnv} {f : AV} {c : Tm → Tm → Int} {ts us : List Tm} {xs ys : List AV} (h1 : Rts ts xs) (h2 : Rts us ys)
    (hf : ∀ t u v w, t ∈ ts → u ∈ us → Sl t.kids v → Sl u.kids w → FnK K E f [v, w] (.int .i64 (c t u))) :
    ∀ k, K ≤ k → ∀ (i : Nat) t u, ts[i]? = some t → us[i]? = some u → ∃ v w, xs[i]? = some (.agg [.int .i64 t.kind, .str t.text, v]) ∧ ys[i]? = some (.agg [.int .i64 u.kind, .str u.text, w]) ∧ ∀ s, callA E k none f [v, w] s = some (.ret (.int .i64 (c t u)), false, s) := by
  intro k hk i t u ht hu
  obtain ⟨x, a3, a4⟩ := h1.get ht
  obtain ⟨y, b3, b4⟩ := h2.get hu
  obtain ⟨v, e1, hv⟩ := a4.open
  obtain ⟨w, e2, hw⟩ := b4.open
  subst e1 e2
  exact ⟨v, w, a3, b3, hf t u v w (List.mem_of_getElem? ht) (List.mem_of_getElem? hu) hv hw k hk⟩
end Ab

/- What 'meta.up' answers for values: the walk. No condition but the table. -/
namespace Ab.U
open Go Ab Go.RowKit
set_option maxRecDepth 10000
set_option linter.all false
section
variable {E : IEnv} (hE : E.fns = Table.fn table)
include hE
theorem up_body {ts : List Tm} {v : AV} (hv : Sl ts v) (hm : nTs ts ≤ 1000000) {K : Nat} (hK : 5 ≤ K) (hlK : ts.length ≤ K) {ps : List (List AV)} {xs : List AV} {o : Own} (hxs : v = .sl o 3 xs) (hR : Rts ts xs) (hval : ∀ t ∈ ts, Vt t)
    (k1 : Rts (upL ts) ps.flatten) (k2 : AV.untokL ps.flatten = ps.flatten) (k3 : ps.length = ts.length) (k4 : ∀ (i : Nat) t, ts[i]? = some t → ∃ v p, xs[i]? = some (tmV t.kind t.text v) ∧ ps[i]? = some p ∧ Sl t.kids v ∧ p.length ≤ 2 ∧ AV.untokL p = p ∧
      (t.kind = 4 → ∃ r, FnK K E (.fn n_meta_up [] []) [v] r ∧ p = [tmV 4 [] r] ∧ r.data = true ∧ r.untok = r ∧ ∃ o y, r = .sl o 3 y) ∧ (t.kind ≠ 4 → p = pieceV t)) :
    FnK (K + 3) E (.fn n_meta_up [] []) [v] (endV 3 ps.flatten) := by
  subst hxs
  have hmm : most = 1073741824 := rfl
  have hl := hR.length
  have hlt := length_le_nTs ts
  refine FnK.byW (h_meta_up hE) rfl rfl (K := K + 2) fun k hk bl tk => ?_
  have hplen : ∀ i, i ≤ ts.length → (ps.take i).flatten.length ≤ 2 * i := by
    intro i
    induction i with
    | zero => intro _; simp
    | succ i ih =>
      intro hi
      obtain ⟨t, ht⟩ : ∃ t, ts[i]? = some t := ⟨_, List.getElem?_eq_getElem (by omega)⟩
      obtain ⟨_, p, _, hp, _, hp2, _⟩ := k4 i t ht
      rw [List.take_succ, hp, List.flatten_append, List.length_append]
      have := ih (by omega)
      simp only [Option.toList, List.flatten_cons, List.flatten_nil, List.append_nil]
      omega
  simp [F_meta_up, b_meta_up]
  refine wp_loop ts.length (fun i e s => ∃ b, bl.length ≤ b.length ∧ e = [(3, outV 3 tk.length (ps.take i).flatten), (6, .sl o 3 xs), (7, .int .i64 xs.length), (8, .int .i64 i)] ∧ s = { bl := b, tk := outT tk (ps.take i).flatten, ro := bl.length, rt := tk.length }) (by omega) ⟨bl, Nat.le_refl _, by simp, by simp [outT]⟩ ?_ ?_
  · rintro i e s hi ⟨b, hb, rfl, rfl⟩
    obtain ⟨t, ht⟩ : ∃ t, ts[i]? = some t := ⟨_, List.getElem?_eq_getElem hi⟩
    obtain ⟨kv, p, hx, hp, hkv, hp2, hpu, hp4, hpn⟩ := k4 i t ht
    have hvt := hval t (List.mem_of_getElem? ht)
    obtain ⟨w1, w2, w3, w4⟩ := hvt
    obtain ⟨hi1, hx1⟩ := List.getElem?_eq_some_iff.1 hx
    have hix : i < xs.length := hi1
    have e1 : idx (.int .i64 i) xs.length = some i := idx_nat hi1
    have hwr : IntKind.wrap .i64 ((i : Int) + 1) = i + 1 := wrapIn (by omega) (by omega)
    have htk : (ps.take (i + 1)).flatten = (ps.take i).flatten ++ p := by
      rw [List.take_succ, hp, List.flatten_append]
      simp only [Option.toList, List.flatten_cons, List.flatten_nil, List.append_nil]
    have ha := fun b => app_outs (bl := b) (tk := tk) (ro := bl.length) (rt := tk.length) (z := 3) (ys := (ps.take i).flatten) (zs := p) (o := .full) (by have := hplen i (by omega); omega) (Nat.le_refl _)
    rw [hpu] at ha
    have q0 : ∀ (c : AB) (r : List AB), (b ++ c :: r)[b.length]? = some c := fun c r => by rw [append_get0]; rfl
    have s0 : ∀ (c f : AB) (r : List AB), (b ++ c :: r).set b.length f = b ++ f :: r := fun c f r => by rw [append_set0]; rfl
    have hlen : ∀ c : AB, bl.length ≤ (b ++ [c]).length := fun c => by rw [List.length_append]; omega
    obtain ⟨ov, yv, rfl, _⟩ := hkv
    rw [htk]
    by_cases h4 : t.kind = 4
    · obtain ⟨r, hr, rfl, hrd, hru, orr, yrr, rfl⟩ := hp4 h4
      have hr := hr k (by omega)
      have hg := fn_mgroup hE hrd hru k (by omega)
      have ht0 := w3 h4
      rw [h4, ht0] at hx1 hx
      simp only [tmV] at hx hg ha
      have e8 : ∀ c : AB, (b ++ [c]).length = b.length + 1 := fun c => by simp
      simp [-getElem?_pos, List.getElem?_cons_zero, List.getElem?_cons_succ, l0_meta_up, hix, e1, hx, q0, s0, hb, hr, hg, hwr, setElems, repl, elemOfCells, hasSize, hru, ha]
      exact ⟨_, hlen _, rfl, rfl, rfl⟩
    · have hp := hpn h4
      subst hp
      have b4 : (t.kind == 4) = false := beq_eq_false_iff_ne.2 h4
      have b8 : (t.kind == 8) = false := beq_eq_false_iff_ne.2 (by omega)
      have hiv := fn_IsVar hE (c := t.kind) (by omega) t.text ov yv k (by omega)
      simp only [tmV] at hx hiv
      unfold pieceV at ha ⊢
      have n8 : ¬ t.kind = 8 := by omega
      by_cases hs : t.kind = 1 ∧ t.text = [42]
      · obtain ⟨hs1, hs2⟩ := hs
        have g1 := fn_mchar hE [42] k (by omega)
        have g2 := fn_mchar hE [86] k (by omega)
        rw [if_pos ⟨hs1, hs2⟩] at ha ⊢
        rw [hs1, hs2] at hx hiv
        simp only [tmV, nilV] at ha g1 g2 ⊢
        simp [-getElem?_pos, List.getElem?_cons_zero, List.getElem?_cons_succ, l0_meta_up, hix, e1, hx, q0, s0, hb, hiv, g1, g2, hwr, setElems, repl, elemOfCells, hasSize, ha]
        omega
      · rw [if_neg hs] at ha ⊢
        simp only [tmV, nilV] at ha ⊢
        by_cases hs1 : t.kind = 1
        · have hs2 : ¬ t.text = [42] := fun h => hs ⟨hs1, h⟩
          rw [hs1] at hx hiv ha ⊢
          simp [-getElem?_pos, List.getElem?_cons_zero, List.getElem?_cons_succ, l0_meta_up, hix, e1, hx, q0, s0, hb, hiv, hwr, setElems, repl, elemOfCells, hasSize, hs2, ha]
          omega
        · have b1 : (t.kind == 1) = false := beq_eq_false_iff_ne.2 hs1
          simp [-getElem?_pos, List.getElem?_cons_zero, List.getElem?_cons_succ, l0_meta_up, hix, e1, hx, q0, s0, hb, b4, b8, h4, n8, hs1, hiv, hwr, setElems, repl, elemOfCells, hasSize, b1, ha]
          omega
  · rintro e s ⟨b, hb, rfl, rfl⟩
    have h0 : ¬ (ts.length < xs.length) := by omega
    rw [← k3, List.take_length]
    simp [l0_meta_up, hl, k3]
    exact ⟨by rw [outV_data]; exact k1.data, outV_untok _ _ _⟩
theorem fn_mup : ∀ (n : Nat) {ts : List Tm} {v : AV}, nTs ts < n → nTs ts ≤ 1000000 → Vs ts → Sl ts v → ∃ r, FnK (3 * nTs ts + 10) E (.fn n_meta_up [] []) [v] r ∧ Sl (upL ts) r ∧ r.untok = r
  | 0, _, _, h, _, _, _ => by omega
  | n + 1, ts, v, hn, hm, hvs, hv => by
    obtain ⟨o, xs, hxs, hlm, hR⟩ := id hv
    have hlt := length_le_nTs ts
    have hmx : maxLen = 9223372036854775807 := rfl
    have hval : ∀ t ∈ ts, Vt t := fun t ht => hvs t (pre_mem ht)
    have hkid : ∀ t v, t ∈ ts → Sl t.kids v → ∃ r, FnK (3 * nTs ts + 7) E (.fn n_meta_up [] []) [v] r ∧ Sl (upL t.kids) r ∧ r.untok = r := by
      intro t v ht hs
      have hle := nT_mem ht
      rw [nT_eq] at hle
      obtain ⟨r, h1, h2, h3⟩ := fn_mup n (ts := t.kids) (by omega) (by omega) (fun u hu => hvs u (pre_kids ht hu)) hs
      exact ⟨r, h1.mono (by omega), h2, h3⟩
    obtain ⟨ps, k1, k2, k3, k4⟩ := up_parts hR hval hkid
    exact ⟨_, (up_body hE hv hm (K := 3 * nTs ts + 7) (by omega) (by omega) hxs hR hval k1 k2 k3 k4).mono (by omega), Sl.end k1 (by have := k1.length; have := upL_len ts; omega), endV_untok _ _⟩
end
end Ab.U

/- Up of a value: what it answers. No condition but the table. -/
namespace Ab.U
open Go Ab Go.RowKit
set_option maxRecDepth 10000
set_option linter.all false
theorem all_value {ts : List Tm} (h : (preS ts).all (fun t => decide (t.kind ≤ 4) && rightT t) = true) : Vs ts := fun t ht => by
  have h1 := List.all_eq_true.1 h t ht
  simp only [Bool.and_eq_true, decide_eq_true_eq] at h1
  obtain ⟨h1, h2⟩ := h1
  unfold rightT at h2
  split at h2
  · rename_i h4
    exact ⟨by omega, by omega, fun _ => by simpa using h2, fun h => absurd h4 h⟩
  · rename_i h4
    split at h2
    · omega
    · split at h2
      · cases h2
      · rename_i hk
        have hk0 : t.kids = [] := List.eq_nil_of_length_eq_zero (by omega)
        split at h2
        · exact ⟨by omega, by omega, fun h => absurd h h4, fun _ => hk0⟩
        · split at h2
          · exact ⟨by omega, by omega, fun h => absurd h h4, fun _ => hk0⟩
          · split at h2
            · exact ⟨by omega, by omega, fun h => absurd h h4, fun _ => hk0⟩
            · split at h2
              · omega
              · cases h2
mutual
theorem upE_all : ∀ t : Tm, Vt t → rightT t = true → (preS t.kids).all (fun t => decide (t.kind ≤ 4) && rightT t) = true → (preS (upE t)).all (fun t => decide (t.kind ≤ 4) && rightT t) = true
  | .mk k s kids, hv, hr, hk => by
    simp only [upE]
    split
    · have := upL_all kids hk
      simp only [preS, preT, List.append_nil, List.all_cons, this, Bool.and_true]
      rfl
    · split
      · rfl
      · rename_i h4 _
        have hk0 : kids = [] := hv.2.2.2 h4
        subst hk0
        simp only [preS, preT, List.append_nil, List.all_cons, List.all_nil, Bool.and_true, Bool.and_eq_true, decide_eq_true_eq]
        exact ⟨hv.2.1, hr⟩
theorem upL_all : ∀ ts : List Tm, (preS ts).all (fun t => decide (t.kind ≤ 4) && rightT t) = true → (preS (upL ts)).all (fun t => decide (t.kind ≤ 4) && rightT t) = true
  | [], _ => rfl
  | t :: ts, h => by
    have hv := all_value h t (by rw [preS_cons]; exact List.mem_cons_self ..)
    rw [preS_cons, List.all_cons, List.all_append, Bool.and_eq_true, Bool.and_eq_true, Bool.and_eq_true] at h
    simp only [upL, preS_append, List.all_append, Bool.and_eq_true]
    exact ⟨upE_all t hv h.1.2 h.2.1, upL_all ts h.2.2⟩
end
mutual
theorem upE_dp : ∀ t : Tm, Vt t → (∀ u ∈ preS t.kids, Vt u) → dpS (upE t) = dpE t
  | .mk k s kids, hv, hk => by
    simp only [upE]
    split
    · rename_i h4
      subst h4
      have := upL_dp kids hk
      simp [dpS, dpE, this]
    · split
      · rename_i h4 h1
        have hk0 : kids = [] := hv.2.2.2 h4
        subst hk0
        obtain ⟨rfl, _⟩ := h1
        simp [dpS, dpE]
      · rename_i h4 h1
        have hk0 : kids = [] := hv.2.2.2 h4
        subst hk0
        simp [dpS]
theorem upL_dp : ∀ ts : List Tm, Vs ts → dpS (upL ts) = dpS ts
  | [], _ => by simp [upL]
  | t :: ts, hv => by
    have h1 := upE_dp t (hv t (by rw [preS_cons]; exact List.mem_cons_self ..)) (fun u hu => hv u (by rw [preS_cons]; simp [hu]))
    have h2 := upL_dp ts (fun u hu => hv u (by rw [preS_cons]; simp [hu]))
    simp only [upL, dpS_append, h1, h2, dpS]
end
mutual
theorem upE_text : ∀ t : Tm, (∀ u ∈ preS (upE t), u.text.length ≤ 1 ∨ ∃ w ∈ preT t, w.text = u.text)
  | .mk k s kids => by
    simp only [upE]
    split
    · intro u hu
      simp only [preS, preT, List.append_nil, List.mem_cons] at hu
      rcases hu with rfl | hu
      · left; simp [Tm.text]
      · rcases upL_text kids u hu with h | ⟨w, h1, h2⟩
        · exact .inl h
        · exact .inr ⟨w, by simp only [preT, List.mem_cons]; exact .inr h1, h2⟩
    · split
      · intro u hu
        simp only [preS, preT, List.append_nil, List.cons_append, List.nil_append, List.mem_cons, List.not_mem_nil, or_false] at hu
        rcases hu with rfl | rfl <;> (left; simp [Tm.text])
      · intro u hu
        simp only [preS, preT, List.append_nil, List.mem_cons, List.not_mem_nil, or_false] at hu
        subst hu
        exact .inr ⟨.mk k s kids, by simp only [preT]; exact List.mem_cons_self .., rfl⟩
theorem upL_text : ∀ ts : List Tm, (∀ u ∈ preS (upL ts), u.text.length ≤ 1 ∨ ∃ w ∈ preS ts, w.text = u.text)
  | [] => by simp [upL, preS]
  | t :: ts => by
    intro u hu
    simp only [upL, preS_append, List.mem_append] at hu
    rcases hu with hu | hu
    · rcases upE_text t u hu with h | ⟨w, h1, h2⟩
      · exact .inl h
      · exact .inr ⟨w, by simp only [preS, List.mem_append]; exact .inl h1, h2⟩
    · rcases upL_text ts u hu with h | ⟨w, h1, h2⟩
      · exact .inl h
      · exact .inr ⟨w, by simp only [preS, List.mem_append]; exact .inr h1, h2⟩
end
section
variable {E : IEnv} (hE : E.fns = Table.fn table)
include hE
theorem fn_Result {ts : List Tm} {v : AV} (hv : Sl ts v) (hm : nTs ts < most) {M : Nat} (hM : M ≤ maxLen) (hW : ∀ t ∈ preS ts, t.text.length ≤ M) : Fn E (.fn n_term_Result [] []) [v] (.int .i64 (checkT 8 ts)) := by
  obtain ⟨K, h⟩ := fn_check hE hv hm hM hW 8
  exact Fn.byW (h_term_Result hE) rfl rfl ⟨K, fun k hk bl tk => by simp [F_term_Result, b_term_Result, h k hk]⟩
theorem fn_fits {ts : List Tm} {v : AV} (hv : Sl ts v) (hm : nTs ts ≤ 4000) (hd : dpS ts ≤ 100) : Fn E (.fn n_meta_fits [] []) [v] (.int .i64 0) := by
  have hmm : most = 1073741824 := rfl
  obtain ⟨K, h⟩ := fn_Size hE hv (by omega)
  have h1 : ¬ (4000 : Int) < (nTs ts : Int) := by omega
  have h2 : ¬ (100 : Int) < (dpS ts : Int) := by omega
  exact Fn.byW (h_meta_fits hE) rfl rfl ⟨K, fun k hk bl tk => by simp [F_meta_fits, b_meta_fits, h k hk, h1, h2]⟩
theorem value_result {ts : List Tm} (h : checkT 4 ts = 0) : checkT 8 ts = 0 := by
  unfold checkT at h ⊢
  split at h
  · cases h
  · rename_i h1
    split at h
    · cases h
    · rename_i h2
      split at h
      · rename_i h3
        rw [if_neg h1, if_neg h2, if_pos]
        rw [List.all_eq_true] at h3 ⊢
        intro t ht
        have := h3 t ht
        simp only [Bool.and_eq_true, decide_eq_true_eq] at this ⊢
        exact ⟨by omega, this.2⟩
      · cases h
theorem fn_Up {ts : List Tm} {v : AV} (hv : Sl ts v) (hm : nTs ts ≤ 2000) (hd : dpS ts ≤ 100) {M : Nat} (hM : M ≤ maxLen) (hW : ∀ t ∈ preS ts, t.text.length ≤ M) (hc : checkT 4 ts = 0) (hvs : Vs ts) : ∃ r, Fn E (.fn n_meta_Up [] []) [v] (.tup [r, .int .i64 0]) ∧ Sl (upL ts) r ∧ r.untok = r := by
  have hmm : most = 1073741824 := rfl
  obtain ⟨r, hr, hs, hu⟩ := fn_mup hE _ (Nat.lt_succ_self _) (by omega) hvs hv
  obtain ⟨K1, h1⟩ := fn_Result hE hv (by omega) hM hW
  obtain ⟨K2, h2⟩ := fn_fits hE hs (by have := upL_nT ts hvs; omega) (by rw [upL_dp ts hvs]; omega)
  rw [value_result hE hc] at h1
  refine ⟨r, Fn.byW (h_meta_Up hE) rfl rfl ⟨K1 + K2 + (3 * nTs ts + 10), fun k hk bl tk => ?_⟩, hs, hu⟩
  have h1 := h1 k (by omega)
  have h2 := h2 k (by omega)
  have h3 := hr k (by omega)
  have hrd := hs.data
  obtain ⟨o, y, rfl, _⟩ := hs
  simp [F_meta_Up, b_meta_Up, h1, h2, h3, hu]
  simpa [AV.data] using hrd
theorem ans_up {ts : List Tm} {v : AV} (hv : Sl ts v) (hm : nTs ts ≤ 2000) (hd : dpS ts ≤ 100) {M : Nat} (hM : M ≤ maxLen) (hW : ∀ t ∈ preS ts, t.text.length ≤ M) (hc : checkT 4 ts = 0) (hvs : Vs ts) : ∃ r, Ans E n___builtin_call__up v (.ret r) ∧ Sl (upL ts) r ∧ r.untok = r := by
  obtain ⟨r, ⟨K, h⟩, hs, hu⟩ := fn_Up hE hv hm hd hM hW hc hvs
  refine ⟨r, ⟨K + 20, fun k hk s i0 bv ov hi0 => ?_⟩, hs, hu⟩
  obtain ⟨k, rfl⟩ : ∃ j, k = j + 1 := ⟨k - 1, by omega⟩
  have h := h k (by omega)
  have n1 := fn_need hE 22 k (by omega)
  have n2 := fn_need hE 0 k (by omega)
  have hrd := hs.data
  refine call_byR (h___builtin_call__up hE) rfl fun bl tk hb' => ?_
  obtain ⟨rfl, rfl⟩ := plain_ptr hE hb'
  obtain ⟨o, y, rfl, _⟩ := hs
  obtain ⟨o1, y1, rfl, _⟩ := hv
  simp [-getElem?_pos, List.getElem?_cons_zero, List.getElem?_cons_succ, F___builtin_call__up, b___builtin_call__up, hi0, h, n1, n2, hu]
  simpa [AV.data] using hrd
end
end Ab.U

/- What 'meta.dn' answers for the metacode of a value: the reader. No condition but the table. -/
namespace Ab.U
open Go Ab Go.RowKit
set_option maxRecDepth 10000
set_option linter.all false
section
variable {E : IEnv} (hE : E.fns = Table.fn table)
include hE
/- the owner of a row without its first element -/
def tlO (o : Own) : Own := if o = .full then .full else if o = .nil then .nil else .any
theorem next_some {k : Nat} (hk : 3 ≤ k) (b : List AB) (tk : List Nat) (ro rt : Nat) (i0 : Nat) (hro : ro ≤ i0) (o : Own) (a c d : AV) (ys : List AV) (hl : ys.length < 100000) (hb : b[i0]? = some (.cells [.sl o 3 (.agg [a, c, d] :: ys)]))
    (ha : a.cells? = some [a]) (hc : c.cells? = some [c]) (hd : d.cells? = some [d]) :
    ∃ g, callA E k none (.fn n___meta_reader__next [] []) [.ptr i0 0] { bl := b, tk, ro, rt } = some (.ret (.tup [.agg [a, c, d], .bool true]), false, { bl := b.set i0 (.cells [.sl (tlO o) 3 ys]) ++ g, tk, ro, rt }) := by
  obtain ⟨k, rfl⟩ : ∃ j, k = j + 1 := ⟨k - 1, by omega⟩
  have hil : i0 < b.length := (List.getElem?_eq_some_iff.1 hb).1
  have hi' : ∀ r, (b ++ r)[i0]? = b[i0]? := fun r => List.getElem?_append_left hil
  have hs' : ∀ r x, (b ++ r).set i0 x = b.set i0 x ++ r := fun r x => List.set_append_left _ _ hil
  have i1 : idx (.int .i64 0) (ys.length + 1) = some 0 := idx_nat (i := 0) (by omega)
  have hb0 : bound none (ys.length + 1) (ys.length + 1) = some (ys.length + 1) := rfl
  have hb1 : bound (some (.int .i64 1)) 0 (ys.length + 1) = some 1 := by simp [bound]; omega
  have hr0 : ro ≤ b.length := by omega
  have hr1 : ro ≤ b.length + 1 := by omega
  have hl0 : ¬ ((ys.length : Int) + 1 = 0) := by omega
  have hl1 : (((ys.length : Int) + 1) == 0) = false := beq_eq_false_iff_ne.2 hl0
  have hwl : ∀ x r, (b.set i0 x ++ r).length = b.length + r.length := fun x r => by simp
  have q0 : ∀ (x : AB) (c : AB) (r : List AB), (b.set i0 x ++ c :: r)[b.length]? = some c := fun x c r => by rw [show b.length = (b.set i0 x).length by simp, append_get0]; rfl
  have q1 : ∀ (x : AB) (c d : AB) (r : List AB), (b.set i0 x ++ c :: d :: r)[b.length + 1]? = some d := fun x c d r => by rw [show b.length = (b.set i0 x).length by simp, append_get]; rfl
  obtain ⟨v, s', h, rfl, g, rfl⟩ := call_byW (h___meta_reader__next hE) (first := []) (caps := []) (args := [.ptr i0 0]) rfl (k := k) (s := { bl := b, tk, ro, rt })
    (Post := fun v s' => v = .tup [.agg [a, c, d], .bool true] ∧ ∃ g, s' = { bl := b.set i0 (.cells [.sl (tlO o) 3 ys]) ++ g, tk, ro, rt }) (by
      simp [-getElem?_pos, List.getElem?_cons_zero, List.getElem?_cons_succ, F___meta_reader__next, b___meta_reader__next, s0Of, hi', hb, hl0, hl1, i1, sliceA, hb0, hb1, hs', append_get, append_get0, append_set, append_set0, hro, hr0, hr1, q0, q1, finA, ha, hc, hd]
      exact ⟨_, rfl⟩)
  exact ⟨g, h⟩
theorem next_none {k : Nat} (hk : 3 ≤ k) (b : List AB) (tk : List Nat) (ro rt : Nat) (i0 : Nat) (hro : ro ≤ i0) (o : Own) (hb : b[i0]? = some (.cells [.sl o 3 []])) :
    ∃ g, callA E k none (.fn n___meta_reader__next [] []) [.ptr i0 0] { bl := b, tk, ro, rt } = some (.ret (.tup [tmV 0 [] nilV, .bool false]), false, { bl := b ++ g, tk, ro, rt }) := by
  obtain ⟨k, rfl⟩ : ∃ j, k = j + 1 := ⟨k - 1, by omega⟩
  have hil : i0 < b.length := (List.getElem?_eq_some_iff.1 hb).1
  have hi' : ∀ r, (b ++ r)[i0]? = b[i0]? := fun r => List.getElem?_append_left hil
  have hr0 : ro ≤ b.length := by omega
  obtain ⟨v, s', h, rfl, g, rfl⟩ := call_byW (h___meta_reader__next hE) (first := []) (caps := []) (args := [.ptr i0 0]) rfl (k := k) (s := { bl := b, tk, ro, rt })
    (Post := fun v s' => v = .tup [tmV 0 [] nilV, .bool false] ∧ ∃ g, s' = { bl := b ++ g, tk, ro, rt }) (by
      simp [-getElem?_pos, List.getElem?_cons_zero, List.getElem?_cons_succ, F___meta_reader__next, b___meta_reader__next, s0Of, hi', hb, append_get, append_get0, append_set, append_set0, hro, hr0, finA, tmV, nilV])
  exact ⟨g, h⟩
theorem fn_isChar (t : Int) (s w : List UInt8) (o : Own) (y : List AV) : FnK 3 E (.fn n_meta_isChar [] []) [tmV t s (.sl o 3 y), .str w] (.bool (t == 1 && s == w)) :=
  FnK.byW (h_meta_isChar hE) rfl rfl (K := 2) fun k hk bl tk => by
    by_cases h1 : t = 1
    · subst h1
      simp [-getElem?_pos, List.getElem?_cons_zero, List.getElem?_cons_succ, F_meta_isChar, b_meta_isChar, append_get, append_get0, append_set, append_set0, tmV]
    · have h2 : (t == 1) = false := beq_eq_false_iff_ne.2 h1
      simp [-getElem?_pos, List.getElem?_cons_zero, List.getElem?_cons_succ, F_meta_isChar, b_meta_isChar, append_get, append_get0, append_set, append_set0, tmV, h1, h2]
theorem starred_V {k : Nat} (hk : 5 ≤ k) (b : List AB) (tk : List Nat) (ro rt : Nat) (i0 : Nat) (hro : ro ≤ i0) (o o1 : Own) (y1 ys : List AV) (hl : ys.length < 100000) (hb : b[i0]? = some (.cells [.sl o 3 (tmV 1 [86] (.sl o1 3 y1) :: ys)])) :
    ∃ g, callA E k none (.fn n___meta_reader__starred [] []) [.ptr i0 0] { bl := b, tk, ro, rt } = some (.ret (.tup [tmV 1 [42] nilV, .bool true]), false, { bl := b.set i0 (.cells [.sl (tlO o) 3 ys]) ++ g, tk, ro, rt }) := by
  obtain ⟨k, rfl⟩ : ∃ j, k = j + 1 := ⟨k - 1, by omega⟩
  have hil : i0 < b.length := (List.getElem?_eq_some_iff.1 hb).1
  have hi' : ∀ r, (b ++ r)[i0]? = b[i0]? := fun r => List.getElem?_append_left hil
  have hs' : ∀ r x, (b ++ r).set i0 x = b.set i0 x ++ r := fun r x => List.set_append_left _ _ hil
  have hr0 : ro ≤ b.length := by omega
  obtain ⟨g, hn⟩ := next_some hE (k := k) (by omega) (b ++ [.cells [.int .i64 0, .str [], .sl .nil 3 []]]) tk ro rt i0 hro o (.int .i64 1) (.str [86]) (.sl o1 3 y1) ys hl (by rw [hi']; exact hb) rfl rfl rfl
  rw [hs'] at hn
  obtain ⟨B, hB⟩ : ∃ B, B = b.set i0 (.cells [.sl (tlO o) 3 ys]) := ⟨_, rfl⟩
  have hBl : B.length = b.length := by rw [hB]; simp
  rw [← hB] at hn
  have hc := fn_isChar hE 1 [86] [86] o1 y1 k (by omega)
  have hm := fn_mchar hE [42] k (by omega)
  simp only [tmV] at hc hm
  have q0 : ∀ (c : AB) (r : List AB), (B ++ c :: r)[b.length]? = some c := fun c r => by rw [← hBl, append_get0]; rfl
  have s0 : ∀ (c f : AB) (r : List AB), (B ++ c :: r).set b.length f = B ++ f :: r := fun c f r => by rw [← hBl, append_set0]; rfl
  obtain ⟨v, s', h, rfl, g, rfl⟩ := call_byW (h___meta_reader__starred hE) (first := []) (caps := []) (args := [.ptr i0 0]) rfl (k := k) (s := { bl := b, tk, ro, rt })
    (Post := fun v s' => v = .tup [tmV 1 [42] nilV, .bool true] ∧ ∃ g, s' = { bl := b.set i0 (.cells [.sl (tlO o) 3 ys]) ++ g, tk, ro, rt }) (by
      rw [← hB]
      have hr2 : ro ≤ b.length + (g.length + 1) := by omega
      have q2 : ∀ (c d : AB) (r : List AB), (B ++ c :: (g ++ d :: r))[b.length + (g.length + 1)]? = some d := fun c d r => by
        rw [← hBl, append_get, List.getElem?_cons_succ, List.getElem?_append_right (Nat.le_refl _), Nat.sub_self]; rfl
      simp [-getElem?_pos, List.getElem?_cons_zero, List.getElem?_cons_succ, F___meta_reader__starred, b___meta_reader__starred, s0Of, hn, q0, s0, q2, hr0, hr2, hc, hm, hBl, finA, tmV, nilV])
  exact ⟨g, h⟩
end
end Ab.U

/- What 'meta.dn' answers for the metacode of a value. No condition but the table. -/
namespace Ab.U
open Go Ab Go.RowKit
set_option maxRecDepth 10000
set_option linter.all false
/- how a round of the reader turns the rest of the metacode -/
def Turn (E : IEnv) (K : Nat) (t : Tm) (q : AV) (z z' : List AV) : Prop :=
  (t.kind = 4 ∧ ∃ o y r, z = tmV 4 [] (.sl o 3 y) :: z' ∧ FnK K E (.fn n_meta_dn [] []) [.sl o 3 y] (.tup [r, .bool true]) ∧ q = tmV 4 [] r ∧ r.untok = r ∧ ∃ o' y', r = .sl o' 3 y') ∨
  (t.kind = 1 ∧ t.text = [42] ∧ ∃ o y o1 y1, z = tmV 1 [42] (.sl o 3 y) :: tmV 1 [86] (.sl o1 3 y1) :: z' ∧ q = tmV 1 [42] nilV) ∨
  (t.kind ≠ 4 ∧ ¬ (t.kind = 1 ∧ t.text = [42]) ∧ ∃ o y, z = tmV t.kind t.text (.sl o 3 y) :: z' ∧ q = tmV t.kind t.text (AV.sl o 3 y).untok)
theorem dn_parts {E : IEnv} {K : Nat} {ts : List Tm} {zs : List AV} (h : Rts (upL ts) zs) (hv : ∀ t ∈ ts, Vt t) (hf : ∀ t w, t ∈ ts → Sl (upL t.kids) w → ∃ r, FnK K E (.fn n_meta_dn [] []) [w] (.tup [r, .bool true]) ∧ Sl t.kids r ∧ r.untok = r) :
    ∃ (qs : List AV) (R : Nat → List AV), Rts ts qs ∧ AV.untokL qs = qs ∧ R 0 = zs ∧ R ts.length = [] ∧ (∀ i, (R i).length ≤ zs.length) ∧ ∀ (i : Nat) t, ts[i]? = some t → ∃ q, qs[i]? = some q ∧ q.untok = q ∧ Turn E K t q (R i) (R (i + 1)) := by
  induction ts generalizing zs with
  | nil =>
    have h0 : zs = [] := by simpa [upL, Rts] using h
    subst h0
    exact ⟨[], fun _ => [], by simp [Rts], rfl, rfl, rfl, fun _ => Nat.le_refl _, fun i t h => by simp at h⟩
  | cons t ts ih =>
    obtain ⟨w1, w2, w3, w4⟩ := hv t (List.mem_cons_self ..)
    have hstep : ∃ q z', Turn E K t q zs z' ∧ q.untok = q ∧ Rt t q ∧ Rts (upL ts) z' ∧ z'.length ≤ zs.length := by
      simp only [upL] at h
      rw [upE_eq] at h
      split at h
      · rename_i h4
        simp only [List.cons_append, List.nil_append, Rts] at h
        obtain ⟨y, z', rfl, hy, hz⟩ := h
        obtain ⟨w, rfl, hw⟩ := hy.open
        obtain ⟨r, hr1, hr2, hr3⟩ := hf t w (List.mem_cons_self ..) hw
        have hq : Rt t (tmV 4 [] r) := by
          have := Rt.mk (k := 4) (s := []) hr2
          have e : t = .mk 4 [] t.kids := by cases t; simp only [Tm.kind, Tm.text, Tm.kids] at *; rw [h4, w3 h4]
          rw [← e] at this; exact this
        obtain ⟨o, x, rfl, _⟩ := hw
        refine ⟨_, z', .inl ⟨h4, o, x, r, rfl, hr1, rfl, hr3, ?_⟩, by simp [tmV, AV.untok, AV.untokL, hr3], hq, hz, by simp⟩
        obtain ⟨o', y', e, _⟩ := hr2; exact ⟨o', y', e⟩
      · rename_i h4
        have hk0 : t.kids = [] := w4 h4
        split at h
        · rename_i h1
          simp only [List.cons_append, List.nil_append, Rts] at h
          obtain ⟨y, z1, rfl, hy, y2, z', rfl, hy2, hz⟩ := h
          obtain ⟨w, rfl, o, x, rfl, _⟩ := hy.open
          obtain ⟨w', rfl, o1, x1, rfl, _⟩ := hy2.open
          have hq : Rt t (tmV 1 [42] nilV) := by
            have := rt_nil 1 [42]
            have e : t = .mk 1 [42] [] := by cases t; simp only [Tm.kind, Tm.text, Tm.kids] at *; rw [h1.1, h1.2, hk0]
            rw [← e] at this; exact this
          exact ⟨_, z', .inr (.inl ⟨h1.1, h1.2, o, x, o1, x1, rfl, rfl⟩), by simp [tmV, nilV, AV.untok, AV.untokL], hq, hz, by simp only [List.length_cons]; omega⟩
        · rename_i h1
          simp only [List.cons_append, List.nil_append, Rts] at h
          obtain ⟨y, z', rfl, hy, hz⟩ := h
          obtain ⟨w, rfl, hw⟩ := hy.open
          have hwu := hw.untok
          have hq : Rt t (tmV t.kind t.text w.untok) := by
            have := Rt.mk (k := t.kind) (s := t.text) hwu
            have e : t = .mk t.kind t.text [] := by cases t; simp only [Tm.kind, Tm.text, Tm.kids] at *; rw [hk0]
            simp only [Tm.kids] at this
            rw [← e] at this; exact this
          obtain ⟨o, x, rfl, _⟩ := hw
          refine ⟨_, z', .inr (.inr ⟨h4, h1, o, x, rfl, rfl⟩), ?_, hq, hz, by simp⟩
          simp only [tmV, AV.untok, AV.untokL]
          cases o <;> simp [AV.untok]
    obtain ⟨q, z', hT, hqu, hqr, hz, hzl⟩ := hstep
    obtain ⟨qs, R, k1, k2, k3, k4, k5, k6⟩ := ih hz (fun t ht => hv t (List.mem_cons_of_mem _ ht)) fun t w ht => hf t w (List.mem_cons_of_mem _ ht)
    refine ⟨q :: qs, fun i => match i with | 0 => zs | i + 1 => R i, ?_, ?_, rfl, ?_, ?_, ?_⟩
    · simp only [Rts]; exact ⟨_, _, rfl, hqr, k1⟩
    · simp only [AV.untokL, hqu, k2]
    · exact k4
    · intro i
      cases i with
      | zero => exact Nat.le_refl _
      | succ i => exact Nat.le_trans (k5 i) hzl
    · intro i u hu
      cases i with
      | zero =>
        simp only [List.getElem?_cons_zero, Option.some.injEq] at hu
        subst hu
        refine ⟨q, rfl, hqu, ?_⟩
        show Turn E K t q zs (R 0)
        rw [k3]; exact hT
      | succ i => exact k6 i u (by simpa using hu)
end Ab.U

/- What 'meta.dn' answers for the metacode of a value: the walk. No condition but the table. -/
namespace Ab.U
open Go Ab Go.RowKit
set_option maxRecDepth 10000
set_option linter.all false
section
variable {E : IEnv} (hE : E.fns = Table.fn table)
include hE
set_option maxHeartbeats 1000000 in
theorem dn_body {ts : List Tm} (hm : ts.length ≤ 1000) {K : Nat} (hK : 6 ≤ K) (hlK : ts.length ≤ K) {o : Own} {zs qs : List AV} {R : Nat → List AV} (hzl : zs.length ≤ 5000) (hval : ∀ t ∈ ts, Vt t) (k1 : Rts ts qs) (k3 : R 0 = zs) (k4 : R ts.length = []) (k5 : ∀ i, (R i).length ≤ zs.length)
    (k6 : ∀ (i : Nat) t, ts[i]? = some t → ∃ q, qs[i]? = some q ∧ q.untok = q ∧ Turn E K t q (R i) (R (i + 1))) :
    FnK (K + 3) E (.fn n_meta_dn [] []) [.sl o 3 zs] (.tup [endV 3 qs, .bool true]) := by
  have hmm : most = 1073741824 := rfl
  have hql := k1.length
  refine FnK.byW (h_meta_dn hE) rfl rfl (K := K + 2) fun k hk bl tk => ?_
  simp [F_meta_dn, b_meta_dn]
  refine wp_loop ts.length (fun i e s => ∃ o' g, e = [(4, outV 3 tk.length (qs.take i)), (5, .ptr bl.length 0)] ∧ s = { bl := bl ++ .cells [.sl o' 3 (R i)] :: g, tk := outT tk (qs.take i), ro := bl.length, rt := tk.length }) (by omega) ⟨o, [], by simp, by simp [outT, k3]⟩ ?_ ?_
  · rintro i e s hi ⟨o', g, rfl, rfl⟩
    obtain ⟨t, ht⟩ : ∃ t, ts[i]? = some t := ⟨_, List.getElem?_eq_getElem hi⟩
    obtain ⟨q, hq, hqu, hT⟩ := k6 i t ht
    obtain ⟨w1, w2, w3, w4⟩ := hval t (List.mem_of_getElem? ht)
    have htk : qs.take (i + 1) = qs.take i ++ [q] := by rw [List.take_succ, hq]; rfl
    have ha := fun b => app_one (bl := b) (tk := tk) (ro := bl.length) (rt := tk.length) (z := 3) (ys := qs.take i) (y := q) (o := .full) (by rw [List.length_take]; omega) (Nat.le_refl _)
    rw [hqu, ← htk] at ha
    have hrl := k5 i
    have hb0 : ∀ z, (bl ++ AB.cells [.sl o' 3 z] :: g)[bl.length]? = some (.cells [.sl o' 3 z]) := fun z => by rw [append_get0]; rfl
    obtain ⟨b, hb⟩ : ∃ b, b = bl ++ AB.cells [.sl o' 3 (R i)] :: g := ⟨_, rfl⟩
    have hb1 := hb0 (R i)
    have hbs : ∀ x, b.set bl.length x = bl ++ x :: g := fun x => by rw [hb, append_set0]; rfl
    rw [← hb] at hb1
    have Q : ∀ (G : List AB) (x c : AB) (r : List AB), (bl ++ x :: (G ++ c :: r))[bl.length + (G.length + 1)]? = some c := fun G x c r => by
      rw [append_get, List.getElem?_cons_succ, List.getElem?_append_right (Nat.le_refl _), Nat.sub_self]; rfl
    have S : ∀ (G : List AB) (x c d : AB) (r : List AB), (bl ++ x :: (G ++ c :: r)).set (bl.length + (G.length + 1)) d = bl ++ x :: (G ++ d :: r) := fun G x c d r => by
      rw [append_set, List.set_cons_succ, List.set_append_right _ _ (Nat.le_refl _), Nat.sub_self, List.set_cons_zero]
    have A : ∀ (x : AB) (g1 : List AB), bl ++ x :: g ++ g1 = bl ++ x :: (g ++ g1) := fun x g1 => by simp
    rcases hT with ⟨h4, oy, y, r, hz, hr, rfl, hru, orr, yr, rfl⟩ | ⟨h1, h2, oy, y, o1, y1, hz, rfl⟩ | ⟨h4, h1, oy, y, hz, rfl⟩
    · rw [hz] at hb1
      obtain ⟨g1, hn⟩ := next_some hE (k := k) (by omega) b (outT tk (qs.take i)) bl.length tk.length bl.length (Nat.le_refl _) o' _ _ _ (R (i + 1)) (by have := k5 (i + 1); omega) hb1 rfl rfl rfl
      rw [hbs, A] at hn
      obtain ⟨G, hG⟩ : ∃ G, G = g ++ g1 := ⟨_, rfl⟩
      rw [← hG] at hn
      have hr := hr k (by omega)
      simp only [tmV] at ha
      rw [← hb]
      simp [-getElem?_pos, List.getElem?_cons_zero, List.getElem?_cons_succ, l0_meta_dn, hn, Q, S, hr, hru, setElems, repl, elemOfCells, hasSize, ha]
    · rw [hz] at hb1
      obtain ⟨g1, hn⟩ := next_some hE (k := k) (by omega) b (outT tk (qs.take i)) bl.length tk.length bl.length (Nat.le_refl _) o' _ _ _ (tmV 1 [86] (.sl o1 3 y1) :: R (i + 1)) (by have := k5 i; rw [hz] at this; simp only [List.length_cons] at this ⊢; omega) hb1 rfl rfl rfl
      rw [hbs, A] at hn
      obtain ⟨G, hG⟩ : ∃ G, G = g ++ g1 := ⟨_, rfl⟩
      rw [← hG] at hn
      obtain ⟨g2, hst⟩ := starred_V hE (k := k) (by omega) (bl ++ AB.cells [.sl (tlO o') 3 (tmV 1 [86] (.sl o1 3 y1) :: R (i + 1))] :: (G ++ [AB.cells [.int .i64 1, .str [42], .sl oy 3 y]])) (outT tk (qs.take i)) bl.length tk.length bl.length (Nat.le_refl _) (tlO o') o1 y1 (R (i + 1)) (by have := k5 (i + 1); omega) (by rw [append_get0]; rfl)
      rw [append_set0] at hst
      have hc := fn_isChar hE 1 [42] [42] oy y k (by omega)
      simp only [tmV, nilV] at ha hst hc hn
      rw [← hb]
      simp [-getElem?_pos, List.getElem?_cons_zero, List.getElem?_cons_succ, l0_meta_dn, hn, Q, S, hc, hst, tmV, nilV, setElems, repl, elemOfCells, hasSize, ha]
    · rw [hz] at hb1
      obtain ⟨g1, hn⟩ := next_some hE (k := k) (by omega) b (outT tk (qs.take i)) bl.length tk.length bl.length (Nat.le_refl _) o' _ _ _ (R (i + 1)) (by have := k5 (i + 1); omega) hb1 rfl rfl rfl
      rw [hbs, A] at hn
      obtain ⟨G, hG⟩ : ∃ G, G = g ++ g1 := ⟨_, rfl⟩
      rw [← hG] at hn
      have hc := fn_isChar hE t.kind t.text [42] oy y k (by omega)
      have hcf : (t.kind == 1 && t.text == [42]) = false := by
        cases e1 : t.kind == 1 with
        | false => rfl
        | true => cases e2 : t.text == [42] with
          | false => rfl
          | true => exact absurd ⟨eq_of_beq e1, eq_of_beq e2⟩ h1
      rw [hcf] at hc
      have b4 : (t.kind == 4) = false := beq_eq_false_iff_ne.2 h4
      simp only [tmV] at ha hc
      rw [← hb]
      simp [-getElem?_pos, List.getElem?_cons_zero, List.getElem?_cons_succ, l0_meta_dn, hn, Q, S, hc, b4, h4, setElems, repl, elemOfCells, hasSize, ha]
  · rintro e s ⟨o', g, rfl, rfl⟩
    have hb0 : (bl ++ AB.cells [.sl o' 3 (R ts.length)] :: g)[bl.length]? = some (.cells [.sl o' 3 []]) := by rw [append_get0, k4]; rfl
    obtain ⟨g1, hn⟩ := next_none hE (k := k) (by omega) _ (outT tk (qs.take ts.length)) bl.length tk.length bl.length (Nat.le_refl _) o' hb0
    rw [k4] at hn ⊢
    rw [← hql, List.take_length] at hn ⊢
    have Q : ∀ (G : List AB) (x c : AB) (r : List AB), (bl ++ x :: (G ++ c :: r))[bl.length + (G.length + 1)]? = some c := fun G x c r => by
      rw [append_get, List.getElem?_cons_succ, List.getElem?_append_right (Nat.le_refl _), Nat.sub_self]; rfl
    have A : ∀ (x : AB) (g1 : List AB), bl ++ x :: g ++ g1 = bl ++ x :: (g ++ g1) := fun x g1 => by simp
    rw [A] at hn
    obtain ⟨G, hG⟩ : ∃ G, G = g ++ g1 := ⟨_, rfl⟩
    rw [← hG] at hn
    simp [-getElem?_pos, List.getElem?_cons_zero, List.getElem?_cons_succ, l0_meta_dn, hn, Q, tmV]
    exact ⟨by rw [outV_data]; exact k1.data, outV_untok _ _ _⟩
theorem fn_mdn : ∀ (n : Nat) {ts : List Tm} {v : AV}, nTs ts < n → nTs ts ≤ 1000 → Vs ts → Sl (upL ts) v → ∃ r, FnK (3 * nTs ts + 10) E (.fn n_meta_dn [] []) [v] (.tup [r, .bool true]) ∧ Sl ts r ∧ r.untok = r
  | 0, _, _, h, _, _, _ => by omega
  | n + 1, ts, v, hn, hm, hvs, hv => by
    obtain ⟨o, zs, rfl, _, hR⟩ := hv
    have hlt := length_le_nTs ts
    have hmx : maxLen = 9223372036854775807 := rfl
    have hval : ∀ t ∈ ts, Vt t := fun t ht => hvs t (pre_mem ht)
    have hkid : ∀ t w, t ∈ ts → Sl (upL t.kids) w → ∃ r, FnK (3 * nTs ts + 7) E (.fn n_meta_dn [] []) [w] (.tup [r, .bool true]) ∧ Sl t.kids r ∧ r.untok = r := by
      intro t w ht hs
      have hle := nT_mem ht
      rw [nT_eq] at hle
      obtain ⟨r, h1, h2, h3⟩ := fn_mdn n (ts := t.kids) (by omega) (by omega) (fun u hu => hvs u (pre_kids ht hu)) hs
      exact ⟨r, h1.mono (by omega), h2, h3⟩
    obtain ⟨qs, R, k1, k2, k3, k4, k5, k6⟩ := dn_parts hR hval hkid
    exact ⟨_, (dn_body hE (by omega) (K := 3 * nTs ts + 7) (by omega) (by omega) (by have := hR.length; have := upL_len ts; omega) hval k1 k3 k4 k5 k6).mono (by omega), Sl.end k1 (by have := k1.length; omega), endV_untok _ _⟩
end
end Ab.U

/- Dn of the metacode of a value: what it answers. No condition but the table. -/
namespace Ab.U
open Go Ab Go.RowKit
set_option maxRecDepth 10000
set_option linter.all false
theorem fold_unit : ∀ (l : List Tm), foldO (fun (_ : Unit) (_ : Tm) => some ()) () l = some ()
  | [] => rfl
  | t :: l => by simp only [foldO]; exact fold_unit l
section
variable {E : IEnv} (hE : E.fns = Table.fn table)
include hE
theorem fn_Name {t : Tm} (h : t.kind < 5) {x : AV} (hx : Rt t x) : FnK 6 E (.fn n_term_Name [] []) [x] (.str []) := by
  obtain ⟨w, rfl, o, y, rfl, _⟩ := hx.open
  have hv := fn_IsVar hE h t.text o y
  refine FnK.byW (h_term_Name hE) rfl rfl (K := 5) fun k hk bl tk => ?_
  have hv := hv k (by omega)
  simp only [tmV] at hv
  simp [-getElem?_pos, List.getElem?_cons_zero, List.getElem?_cons_succ, F_term_Name, b_term_Name, append_get, append_get0, append_set, append_set0, hv]
theorem fn_Variables {ts : List Tm} {v : AV} (hv : Sl ts v) (hm : nTs ts < most) (hW : ∀ t ∈ preS ts, t.kind < 5) : Fn E (.fn n_term_Variables [] []) [v] (.sl .nil 1 []) := by
  have hmm : most = 1073741824 := rfl
  have hsl : ∃ o xs, v = .sl o 3 xs := by obtain ⟨o, xs, h, _⟩ := hv.len; exact ⟨o, xs, h⟩
  refine Fn.byW (h_term_Variables hE) rfl rfl ⟨2 * nTs ts + 30, fun k hk bl tk => ?_⟩
  have hal := call_all hE hsl k (by omega)
  simp [F_term_Variables, b_term_Variables, hal, append_get, append_get0, append_set, append_set0]
  let e : Env := [(0, v), (2, .sl .nil 1 []), (3, .ptr bl.length 0), (4, .ptr (bl.length + 2) 0), (9, .fn n_term_all_1 [] [.ptr (bl.length + 3) 0])]
  let asg : ICode := (.region [⟨(some 5), .alloc [.int .i64 0, .str [], .sl .nil 3 []], none, [], false⟩, ⟨none, .store 3 (.t 5) (.t 10), none, [], false⟩] [5] false)
  let L0 : ALoop := { st := .ready, pend := none, env := e, ps := [10], assign := asg, body := l0_term_Variables }
  let B : Unit → List AB := fun _ => bl ++ [.cells [.sl .nil 1 []], .amap [], .cells [.map (some (bl.length + 1))], .cells [v]]
  refine wp_range ?_
  have key := call_all_1 hE B (bl.length + 4) (fun a => by simp [B]) tk bl.length tk.length (by omega) (.loop L0) (fun (_ : Unit) (_ : Tm) => some ()) (fun s => False) 10 (fun t => t.kind < 5)
    (by rintro s ⟨⟩)
    (by
      intro a g t x k ht hx hk
      obtain ⟨k, rfl⟩ : ∃ j, k = j + 1 := ⟨k - 1, by omega⟩
      have hn := fn_Name hE ht hx k (by omega)
      obtain ⟨w, rfl, ow, yw, rfl, _⟩ := hx.open
      refine call_round (L := L0) (by simp [B, append_get]) rfl rfl (by simp) ?_
      simp [-getElem?_pos, List.getElem?_cons_zero, List.getElem?_cons_succ, L0, B, e, asg, l0_term_Variables, putAll, Env.get_put, append_get, append_get0, append_set, append_set0, hn]
      )
    () k (bl.length + 3) (fun a r => by simp [B, append_get]) hm hW hv (by omega)
  obtain ⟨v', s', hcl, hor⟩ := key
  refine ⟨v', false, s', ?_, ?_⟩
  · simp only [Opd.ev]
    rw [← hcl]
    simp [B, L0, St.push, e, asg]
  · rw [fold_unit] at hor
    obtain ⟨g, rfl⟩ := hor
    refine ⟨L0, by simp [B, append_get], .inl ⟨rfl, rfl, ?_⟩⟩
    simp [B, append_set, append_set0, e, append_get, append_get0]
theorem fn_Dn {ts : List Tm} {v : AV} (hv : Sl (upL ts) v) (hm : nTs ts ≤ 1000) {M : Nat} (hM1 : 1 ≤ M) (hM : M ≤ maxLen) (hW : ∀ t ∈ preS ts, t.text.length ≤ M) (hc : checkT 4 ts = 0) (hcu : checkT 4 (upL ts) = 0) (hvs : Vs ts) : ∃ r, Fn E (.fn n_meta_Dn [] []) [v] (.tup [r, .int .i64 0]) ∧ Sl ts r ∧ r.untok = r := by
  have hmm : most = 1073741824 := rfl
  obtain ⟨r, hr, hs, hu⟩ := fn_mdn hE _ (Nat.lt_succ_self _) hm hvs hv
  have hWu : ∀ t ∈ preS (upL ts), t.text.length ≤ M := fun t ht => by
    rcases upL_text ts t ht with h | ⟨w, h1, h2⟩
    · omega
    · rw [← h2]; exact hW w h1
  obtain ⟨K1, h1⟩ := fn_Value hE hv (by have := upL_nT ts hvs; omega) hM hWu
  obtain ⟨K2, h2⟩ := fn_Result hE hs (by omega) hM hW
  rw [hcu] at h1
  rw [value_result hE hc] at h2
  refine ⟨r, Fn.byW (h_meta_Dn hE) rfl rfl ⟨K1 + K2 + (3 * nTs ts + 10), fun k hk bl tk => ?_⟩, hs, hu⟩
  have h1 := h1 k (by omega)
  have h2 := h2 k (by omega)
  have h3 := hr k (by omega)
  have hrd := hs.data
  obtain ⟨o, y, rfl, _⟩ := hs
  simp [F_meta_Dn, b_meta_Dn, h1, h2, h3, hu]
  simpa [AV.data] using hrd
theorem ans_dn {ts : List Tm} {v : AV} (hv : Sl (upL ts) v) (hm : nTs ts ≤ 1000) {M : Nat} (hM1 : 1 ≤ M) (hM : M ≤ maxLen) (hW : ∀ t ∈ preS ts, t.text.length ≤ M) (hc : checkT 4 ts = 0) (hcu : checkT 4 (upL ts) = 0) (hvs : Vs ts) : ∃ r, Ans E n___builtin_call__dn v (.ret r) ∧ Sl ts r ∧ r.untok = r := by
  have hmm : most = 1073741824 := rfl
  obtain ⟨r, ⟨K, h⟩, hs, hu⟩ := fn_Dn hE hv hm hM1 hM hW hc hcu hvs
  obtain ⟨K2, h2⟩ := fn_Variables hE hs (by omega) (fun t ht => by have := (hvs t ht).2.1; omega)
  refine ⟨r, ⟨K + K2 + 20, fun k hk s i0 bv ov hi0 => ?_⟩, hs, hu⟩
  obtain ⟨k, rfl⟩ : ∃ j, k = j + 1 := ⟨k - 1, by omega⟩
  have h := h k (by omega)
  have h2 := h2 k (by omega)
  have n1 := fn_need hE 22 k (by omega)
  have hrd := hs.data
  refine call_byR (h___builtin_call__dn hE) rfl fun bl tk hb' => ?_
  obtain ⟨rfl, rfl⟩ := plain_ptr hE hb'
  obtain ⟨o, y, rfl, _⟩ := hs
  obtain ⟨o1, y1, rfl, _⟩ := hv
  simp [-getElem?_pos, List.getElem?_cons_zero, List.getElem?_cons_succ, F___builtin_call__dn, b___builtin_call__dn, hi0, h, h2, n1, hu]
  simpa [AV.data] using hrd
end
end Ab.U
