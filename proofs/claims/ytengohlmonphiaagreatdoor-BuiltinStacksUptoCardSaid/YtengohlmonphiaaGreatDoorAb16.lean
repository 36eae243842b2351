/- The functions that are proved by hand are sound. No condition. -/
import Derived.Test.YtengohlmonphiaaGreatDoorAb14
import Derived.Test.YtengohlmonphiaaGreatDoorAb15
import Derived.JoinedCond
set_option linter.all false
namespace Ab.D
open Go Ab Go.RowKit Go.Proofs
set_option linter.all false
set_option maxRecDepth 100000
theorem var_arg {L : Lk} {g : Gh} {w : World} {a b : AV} {v : Value} (h : Rep L g w (.sl .full 2 [.agg [a, b]]) v) : ∃ vb voff x y, v = .slice (some ⟨vb, voff, none⟩) 1 1 ∧ Rep L g w a x ∧ Rep L g w b y ∧ oneCell x ∧ oneCell y ∧ g.imm vb voff ∧
    (∀ j u, [x, y][j]? = some u → w.cell? ⟨vb, voff + j, none⟩ = some u) := by
  simp only [Rep, RepL] at h
  obtain ⟨A, cap, vs, rfl, _, _, ⟨u, r, rfl, ⟨us, rfl, ⟨x, r1, rfl, hx, y, r2, rfl, hy, rfl⟩, h1⟩, rfl⟩, _, hl, ho⟩ := h
  simp only [OwnOk] at ho
  obtain ⟨hA, rfl⟩ := ho
  cases A with
  | none => cases hA
  | some p =>
    obtain ⟨pb, po, ps⟩ := p
    obtain ⟨hsp, hl⟩ := hl
    obtain rfl : ps = none := hsp (by simp)
    have hf : flat [Value.agg [x, y].toArray] = [x, y] := by simp [flat, Value.cells]
    rw [hf] at hl
    refine ⟨pb, po, x, y, rfl, hx, hy, h1 x (by simp), h1 y (by simp), (hl 0 x rfl).1, fun j u hj => (hl j u hj).2⟩
theorem heap_of_cell {w : World} {b o : Nat} {v : Value} (h : w.cell? ⟨b, o, none⟩ = some v) : ∃ c e fz, w.heap[b]? = some (.cells c e fz) ∧ c.size ≠ 0 := by
  cases hb : w.heap[b]? with
  | none => simp [World.cell?, hb] at h
  | some ob =>
    cases ob <;> simp [World.cell?, hb] at h
    rename_i c e fz
    obtain ⟨h1, _⟩ := Array.getElem?_eq_some_iff.1 h
    exact ⟨c, e, fz, rfl, by omega⟩
theorem oneCells {vs : List Value} (h : ∀ u ∈ vs, oneCell u) : ∀ u ∈ vs, u.oneCell' = true := fun u hu => oneCell'_of (h u hu)
set_option maxHeartbeats 1000000 in
theorem ins_sound {w0 : World} {args : List AV} {s s' : St} {v : AV} (hp : insP args s = some (v, s')) {g : Gh} {w : World} {cargs : List Value} (hs : StR (varLink w0).toLk (CkR Tryz.prog (varLink w0)) g s w) (ha : RepL (varLink w0).toLk g w args cargs) :
    Calls Tryz.prog 154 cargs.toArray w fun e w' => ∃ cv g', e = .returned cv ∧ StR (varLink w0).toLk (CkR Tryz.prog (varLink w0)) g' s' w' ∧ Ext g s w g' s' w' ∧ Rep (varLink w0).toLk g' w' v cv := by
  unfold insP at hp
  split at hp
  · rename_i x k a b
    split at hp
    · rename_i hk
      subst hk
      simp only [RepL] at ha
      obtain ⟨cv, _, rfl, hv, ci, _, rfl, hi, cx, _, rfl, hx, rfl⟩ := ha
      simp only [Rep] at hi
      subst hi
      obtain ⟨vb, voff, x1, y1, rfl, hx1, hy1, o1, o2, himm, hc⟩ := var_arg hx
      have h1v : ∀ u ∈ [x1, y1], u.oneCell' = true := oneCells fun u hu => by
        simp only [List.mem_cons, List.mem_nil_iff, or_false] at hu
        rcases hu with rfl | rfl <;> assumption
      split at hp
      · cases hp
        simp only [Rep] at hv
        obtain ⟨A, cap, vs, rfl, _, _, _, _, _, ho⟩ := hv
        simp only [OwnOk] at ho
        obtain ⟨rfl, _, rfl⟩ := ho
        refine Calls.mono (ins_nil none vb voff 1 [x1, y1] w rfl hc h1v) ?_
        rintro e w' ⟨rfl, rfl⟩
        obtain ⟨G, hG⟩ : ∃ G, G = grownCap w 1 0 50 := ⟨_, rfl⟩
        have hG1 : 1 ≤ G := by rw [hG]; exact grownCap_ge w _ _ _
        rw [← hG]
        have hw' : (w.drew.alloc (.cells ([x1, y1].toArray ++ Builtin.zeroCells Z2.cells (G - 1)) 50)).heap = w.heap.push (.cells ([x1, y1].toArray ++ Builtin.zeroCells Z2.cells (G - 1)) 50) := rfl
        have hq := hs.push (ab := .cells [a, b]) hw' ⟨rfl, rfl, rfl⟩ [] (by simp) (fun hge => ⟨[x1, y1], (Builtin.zeroCells Z2.cells (G - 1)).toList, 50, by
          rw [push_new hw']; congr 2; apply Array.ext'; simp, RepL.mono hge _ _ (by simp only [RepL]; exact ⟨_, _, rfl, hx1, _, _, rfl, hy1, rfl⟩), fun u hu => by
            simp only [List.mem_cons, List.mem_nil_iff, or_false] at hu
            rcases hu with rfl | rfl <;> assumption⟩)
        refine ⟨_, _, rfl, hq.1, hq.2, ?_⟩
        simp only [Rep]
        refine ⟨w.heap.size, ⟨w.heap.size, 0, none⟩, G, by simp [← hs.bl], rfl, hG1, fun _ => ⟨rfl, _, _, _, push_new hw', ?_⟩⟩
        simp [size_zeroCells, Value.cells]
        omega
      · rename_i j n
        split at hp
        · rename_i cs hj
          split at hp
          · rename_i hc4
            obtain ⟨hro, hcl, hn0, hn1⟩ := hc4
            cases hp
            simp only [Rep] at hv
            obtain ⟨bk, A, cap, hb, rfl, hcap, hroom⟩ := hv
            obtain ⟨rfl, c0, e0, fz0, q1, q2⟩ := hroom (by omega)
            obtain ⟨vs, rest, e9, h1, h2, h3⟩ := hs.blocks j bk _ hb hj
            rw [h1] at q1; cases q1
            have hvl : vs.length = n * 2 := by rw [h2.length, hcl]
            have hne : vb ≠ bk := fun e => hs.sep j bk voff hb (e ▸ himm)
            obtain ⟨ca, ea, fa, hva, hca⟩ := heap_of_cell (hc 0 x1 rfl)
            have hcs : ∀ i u, vs[i]? = some u → w.cell? ⟨bk, i, none⟩ = some u := fun i u hi => by
              rw [cell?_of h1]
              simp only [List.getElem?_toArray]
              rw [List.getElem?_append_left (List.getElem?_eq_some_iff.1 hi).1]
              exact hi
            have hnd : s.bl[j]? ≠ some .dead := by rw [hj]; intro e; cases e
            have hlp : bk ∈ g.lps → ∀ o : Obj, ∃ lp, o = .loop lp := fun hl => by
              obtain ⟨lp, hlp⟩ := hs.lps bk hl
              rw [h1] at hlp; cases hlp
            simp only [Nat.zero_add, List.size_toArray, List.length_append] at q2
            by_cases hin : n + 1 ≤ cap
            · refine Calls.mono (ins_shift bk n cap vb voff 1 vs [x1, y1] w hn0 hn1 hin hne hvl rfl hcs h1 (by simpa using q2) hc hva hca (oneCells h3) h1v) ?_
              rintro e w' ⟨rfl, rfl⟩
              obtain ⟨a1, a2, a3, a4⟩ := setCells_heap bk vs 2 w.drew (vs ++ rest).toArray e0 (0, 0) h1 (by simp only [List.size_toArray, List.length_append]; omega)
              obtain ⟨b1, b2, b3, b4⟩ := setCells_heap bk [x1, y1] 0 (w.drew.setCells bk 2 vs) _ e0 (0, 0) a1 (by simp; omega)
              have hheap : ((w.drew.setCells bk 2 vs).setCells bk 0 [x1, y1]).heap[bk]? = some (.cells (x1 :: y1 :: vs ++ (vs ++ rest).drop (2 + vs.length)).toArray e0 (0, 0)) := by
                rw [b1]
                congr 2
                apply Array.ext'
                have hl2 : ((vs ++ rest).take 2).length = 2 := by rw [List.length_take, List.length_append]; omega
                simp only [List.take_zero, List.nil_append, Nat.zero_add, List.length_cons, List.length_nil]
                rw [List.append_assoc, List.drop_append_of_le_length (by omega), List.drop_of_length_le (by omega)]
                simp
              have hg := hs.regrow (w' := (w.drew.setCells bk 2 vs).setCells bk 0 [x1, y1]) (ab := .cells (a :: b :: cs)) hb hro hnd hheap (fun c hc => (b2 c hc).trans (a2 c hc)) (b3.trans a3) ⟨b4.os.trans a4.os, b4.out.trans a4.out, b4.tape.trans a4.tape⟩
                (fun hge => ⟨x1 :: y1 :: vs, (vs ++ rest).drop (2 + vs.length), e0, hheap, by
                  have := RepL.mono hge _ _ h2
                  have hx := Rep.mono hge _ _ hx1
                  have hy := Rep.mono hge _ _ hy1
                  simp only [RepL]; exact ⟨_, _, rfl, hx, _, _, rfl, hy, this⟩, fun u hu => by
                  simp only [List.mem_cons] at hu
                  rcases hu with rfl | rfl | hu
                  · exact o1
                  · exact o2
                  · exact h3 u hu⟩) (fun hl => hlp hl _) (.at (fun d hd => (b2 d hd).trans (a2 d hd)) h1 hheap (by simp; omega))
              refine ⟨_, _, rfl, hg.1, hg.2, ?_⟩
              simp only [Rep]
              exact ⟨bk, _, cap, by simp [← hs.bl], rfl, hin, fun _ => ⟨rfl, hg.2.ge.size.room ⟨_, _, _, h1, by simpa using q2⟩⟩⟩
            · refine Calls.mono (ins_grow bk n cap vb voff 1 vs [x1, y1] w hn0 hcap (by omega) (by omega) hvl rfl hcs hc (oneCells h3) h1v) ?_
              rintro e w' ⟨rfl, rfl⟩
              obtain ⟨G, hG⟩ : ∃ G, G = grownCap w (n + 1) cap 50 := ⟨_, rfl⟩
              have hG1 : n + 1 ≤ G := by rw [hG]; exact grownCap_ge w _ _ _
              rw [← hG]
              obtain ⟨ROW, hROW⟩ : ∃ ROW : Array Value, ROW = #[] ++ Builtin.zeroCells Z2.cells (n + 1) ++ Builtin.zeroCells Z2.cells (G - (n + 1)) := ⟨_, rfl⟩
              rw [← hROW]
              have hRs : ROW.size = G * 2 := by
                rw [hROW]; simp [size_zeroCells, Value.cells]; omega
              have h0 : (w.alloc (.cells ROW 50)).drew.heap[w.heap.size]? = some (.cells ROW 50 (0, 0)) := by
                show (w.heap.push _)[w.heap.size]? = _
                simp
              obtain ⟨a1, a2, a3, a4⟩ := setCells_heap w.heap.size [x1, y1] 0 (w.alloc (.cells ROW 50)).drew ROW 50 (0, 0) h0 (by simp only [List.length_cons, List.length_nil]; omega)
              obtain ⟨b1, b2, b3, b4⟩ := setCells_heap w.heap.size vs 2 ((w.alloc (.cells ROW 50)).drew.setCells w.heap.size 0 [x1, y1]).drew _ 50 (0, 0) a1 (by simp; omega)
              obtain ⟨W, hW⟩ : ∃ W, W = (((w.alloc (.cells ROW 50)).drew.setCells w.heap.size 0 [x1, y1]).drew).setCells w.heap.size 2 vs := ⟨_, rfl⟩
              rw [← hW] at b1 b2 b3 b4 ⊢
              have hheap : W.heap[w.heap.size]? = some (.cells (x1 :: y1 :: vs ++ ROW.toList.drop (2 + vs.length)).toArray 50 (0, 0)) := by
                rw [b1]
                congr 2
                apply Array.ext'
                simp only [List.take_zero, List.nil_append, Nat.zero_add, List.length_cons, List.length_nil]
                rw [List.take_append_of_le_length (by simp), List.take_of_length_le (by simp), List.drop_append, List.drop_of_length_le (by simp)]
                simp only [List.nil_append, List.length_cons, List.length_nil, List.drop_drop]
                simp
              have hw' : W.heap = w.heap.push (.cells (x1 :: y1 :: vs ++ ROW.toList.drop (2 + vs.length)).toArray 50) := by
                apply Array.ext_getElem?
                intro i
                rw [Array.getElem?_push]
                by_cases hi : i = w.heap.size
                · subst hi; rw [if_pos rfl]; exact hheap
                · rw [if_neg hi, b2 i hi]
                  show ((w.alloc (.cells ROW 50)).drew.setCells w.heap.size 0 [x1, y1]).heap[i]? = _
                  rw [a2 i hi]
                  show (w.heap.push _)[i]? = _
                  rw [Array.getElem?_push, if_neg hi]
              have hsame : Same w W := ⟨b4.os.trans a4.os, b4.out.trans a4.out, b4.tape.trans a4.tape⟩
              have hk := hs.setb (w' := w) (ab := .dead) hb hro h1 (fun _ _ => rfl) rfl ⟨rfl, rfl, rfl⟩ (fun _ => ⟨_, _, h1⟩) (fun hl => hlp hl _) hnd (.refl _)
              have hq := hk.1.push (ab := .cells (a :: b :: cs)) hw' hsame [] (by simp) (fun hge => ⟨x1 :: y1 :: vs, ROW.toList.drop (2 + vs.length), 50, by
                rw [push_new hw'], by
                  have := RepL.mono hge _ _ h2
                  have hx := Rep.mono hge _ _ hx1
                  have hy := Rep.mono hge _ _ hy1
                  simp only [RepL]; exact ⟨_, _, rfl, hx, _, _, rfl, hy, this⟩, fun u hu => by
                  simp only [List.mem_cons] at hu
                  rcases hu with rfl | rfl | hu
                  · exact o1
                  · exact o2
                  · exact h3 u hu⟩)
              refine ⟨_, _, rfl, hq.1, hk.2.trans hq.2, ?_⟩
              simp only [Rep]
              refine ⟨w.heap.size, ⟨w.heap.size, 0, none⟩, G, by simp [← hs.bl], rfl, hG1, fun _ => ⟨rfl, _, _, _, push_new hw', ?_⟩⟩
              simp
              omega
          · cases hp
        · cases hp
      · cases hp
    · cases hp
  · cases hp
set_option maxHeartbeats 1000000 in
theorem del_sound {w0 : World} {args : List AV} {s s' : St} {v : AV} (hp : delP args s = some (v, s')) {g : Gh} {w : World} {cargs : List Value} (hs : StR (varLink w0).toLk (CkR Tryz.prog (varLink w0)) g s w) (ha : RepL (varLink w0).toLk g w args cargs) :
    Calls Tryz.prog 119 cargs.toArray w fun e w' => ∃ cv g', e = .returned cv ∧ StR (varLink w0).toLk (CkR Tryz.prog (varLink w0)) g' s' w' ∧ Ext g s w g' s' w' ∧ Rep (varLink w0).toLk g' w' v cv := by
  unfold delP at hp
  split at hp
  · rename_i j n i i'
    split at hp
    · rename_i cs hj
      split at hp
      · rename_i hc
        obtain ⟨hro, hcl, hn1, hi0, hin, rfl⟩ := hc
        cases hp
        obtain ⟨k, rfl⟩ := Int.eq_ofNat_of_zero_le hi0
        have hkn : k < n := by omega
        rw [Int.toNat_natCast]
        simp only [RepL] at ha
        obtain ⟨cv, _, rfl, hv, ci, _, rfl, hi, cx, _, rfl, hx, rfl⟩ := ha
        simp only [Rep] at hi hx hv
        subst hi
        subst hx
        obtain ⟨bk, A, cap, hb, rfl, hcap, hroom⟩ := hv
        obtain ⟨rfl, c0, e0, fz0, q1, q2⟩ := hroom (by omega)
        obtain ⟨vs, rest, e9, h1, h2, h3⟩ := hs.blocks j bk _ hb hj
        rw [h1] at q1; cases q1
        have hvl : vs.length = n * 2 := by rw [h2.length, hcl]
        have hcs : ∀ i u, vs[i]? = some u → w.cell? ⟨bk, i, none⟩ = some u := fun i u hi => by
          rw [cell?_of h1]
          simp only [List.getElem?_toArray]
          rw [List.getElem?_append_left (List.getElem?_eq_some_iff.1 hi).1]
          exact hi
        have hnd : s.bl[j]? ≠ some .dead := by rw [hj]; intro e; cases e
        have hlp : bk ∈ g.lps → ∀ o : Obj, ∃ lp, o = .loop lp := fun hl => by
          obtain ⟨lp, hlp⟩ := hs.lps bk hl
          rw [h1] at hlp; cases hlp
        simp only [Nat.zero_add, List.size_toArray, List.length_append] at q2
        refine Calls.mono (del_walk bk n cap k vs w hkn hcap hvl hcs (fun j => by simp [World.frozen?, h1]) (oneCells h3)) ?_
        rintro e w' ⟨rfl, rfl⟩
        have hzl : (Builtin.zeroCells Z2.cells 1).toList = [Value.slice none 0 0, .slice none 0 0] := by kernel_rfl
        rw [hzl]
        have hdl : (vs.drop ((k + 1) * 2)).length = (n - (k + 1)) * 2 := by rw [List.length_drop, hvl]; omega
        obtain ⟨a1, a2, a3, a4⟩ := setCells_heap bk (vs.drop ((k + 1) * 2)) (k * 2) w.drew (vs ++ rest).toArray e0 (0, 0) h1 (by simp only [List.size_toArray, List.length_append]; omega)
        obtain ⟨b1, b2, b3, b4⟩ := setCells_heap bk [.slice none 0 0, .slice none 0 0] ((n - 1) * 2) (w.drew.setCells bk (k * 2) (vs.drop ((k + 1) * 2))) _ e0 (0, 0) a1 (by simp; omega)
        obtain ⟨W, hW⟩ : ∃ W, W = (w.drew.setCells bk (k * 2) (vs.drop ((k + 1) * 2))).setCells bk ((n - 1) * 2) [.slice none 0 0, .slice none 0 0] := ⟨_, rfl⟩
        rw [← hW] at b1 b2 b3 b4 ⊢
        have hheap : W.heap[bk]? = some (.cells (vs.take (k * 2) ++ vs.drop ((k + 1) * 2) ++ [Value.slice none 0 0, .slice none 0 0] ++ rest).toArray e0 (0, 0)) := by
          rw [b1]
          congr 2
          simp only [List.length_cons, List.length_nil, Nat.zero_add]
          have h4 : (vs ++ rest).take (k * 2) = vs.take (k * 2) := List.take_append_of_le_length (by omega)
          have h5 : (vs ++ rest).drop (k * 2 + (vs.drop ((k + 1) * 2)).length) = vs.drop ((n - 1) * 2) ++ rest := by
            rw [hdl, List.drop_append_of_le_length (by omega), show k * 2 + (n - (k + 1)) * 2 = (n - 1) * 2 by omega]
          have h6 : (vs.take (k * 2) ++ vs.drop ((k + 1) * 2)).length = (n - 1) * 2 := by rw [List.length_append, List.length_take, hdl]; omega
          have h7 : (vs.drop ((n - 1) * 2)).length = 2 := by rw [List.length_drop]; omega
          rw [h4, h5, List.take_left' h6, ← List.append_assoc (vs.take (k * 2) ++ vs.drop ((k + 1) * 2)), List.drop_left' (by rw [List.length_append, h6, h7])]
        have hnil : ∀ g W, Rep (varLink w0).toLk g W (.sl .nil 3 []) (.slice none 0 0) := fun g W => by
          simp [Rep, RepL, AV.untokL, OwnOk]
          exact ⟨none, 0, ⟨rfl, rfl⟩, rfl, rfl, rfl⟩
        have hg := hs.setb (w' := W) (ab := .cells (cs.take (k * 2) ++ cs.drop ((k + 1) * 2) ++ [.sl .nil 3 [], .sl .nil 3 []])) hb hro hheap (fun c hc => (b2 c hc).trans (a2 c hc)) (b3.trans a3) ⟨b4.os.trans a4.os, b4.out.trans a4.out, b4.tape.trans a4.tape⟩
          (fun hge => ⟨_, rest, e0, hheap, (((RepL.mono hge _ _ h2).take _).append ((RepL.mono hge _ _ h2).drop _)).append (by simp only [RepL]; exact ⟨_, _, rfl, hnil _ _, _, _, rfl, hnil _ _, rfl⟩), fun u hu => by
            rcases List.mem_append.1 hu with hu | hu
            · rcases List.mem_append.1 hu with hu | hu
              · exact h3 u (List.mem_of_mem_take hu)
              · exact h3 u (List.mem_of_mem_drop hu)
            · simp only [List.mem_cons, List.mem_nil_iff, or_false, or_self] at hu
              subst hu; trivial⟩) (fun hl => hlp hl _) hnd (.at (fun d hd => (b2 d hd).trans (a2 d hd)) h1 hheap (by simp; omega))
        refine ⟨_, _, rfl, hg.1, hg.2, ?_⟩
        simp only [Rep]
        exact ⟨bk, _, cap, hb, rfl, by omega, fun _ => ⟨rfl, hg.2.ge.size.room ⟨_, _, _, h1, by simpa using q2⟩⟩⟩
      · cases hp
    · cases hp
  · cases hp
theorem enter154 (args : Array Value) (w : World) : (callFunc 154 args).run Tryz.prog w = .ok (.enter 154 args) w := enters_of Tryz.func154 (by kernel_rfl) rfl args w
theorem enter119 (args : Array Value) (w : World) : (callFunc 119 args).run Tryz.prog w = .ok (.enter 119 args) w := enters_of Tryz.func119 (by kernel_rfl) rfl args w
theorem primsD_ok (w0 : World) : PrimsOk Tryz.prog (varLink w0) EP := by
  intro f args s v s' hn heff hp0 g w cargs hs hgl ha
  have hp : primsD f args s = some (v, s') := hp0
  clear hp0
  unfold primsD at hp
  split at hp
  · rename_i hf
    subst hf
    exact ⟨enter154 _ _, ins_sound hp hs ha⟩
  · split at hp
    · rename_i hf
      subst hf
      exact ⟨enter119 _ _, del_sound hp hs ha⟩
    · cases hp
theorem envP (w : World) : EnvOk Tryz.prog (varLink w) EP where
  inj a b h := h
  fns f F h := fns_of_tab (tab_ok w) f F h
  prim f args v h1 h2 := by cases h2
  prims := primsD_ok w
end Ab.D

/- The closed facts of a row, part by part (a great seat: each part a declaration of its own). No condition. -/
namespace Ab
open Go
theorem joined_parts {P : Program} {f : FuncId} {fn : Func} {s : ChangeSpec} {c : OpenClaim}
    (a : (c.wf (OpenSpec.ofChange s) && laidOutB P && mapsRowed P && fn.params.all (P.readableRec ·) && namedTie P c.named s.vars && (c.stops == []) && (P.stops == []) && (c.knobs == []) && (P.stopKnobs == [])) = true)
    (b1 : P.inPlace f = c.inPlace) (b2 : P.unfollowed f = true) (b2' : c.unfollowed = true) (b3 : c.recurses = true) (b4 : P.varsNamed f = c.named)
    (d1 : ((c.maps == (fn.params.toList ++ s.plain.varTypes P).any (P.mapsRec ·)) && (c.ifaces == (fn.params.toList ++ s.plain.varTypes P).any (P.ifacesRec ·)) && (c.mapsOut == P.mapsAmong fn.resultTypes.toList)) = true)
    (d2 : ((c.loops == (fn.params.toList ++ s.plain.varTypes P).any (P.loopsFrom ·)) && (c.wideKeys == (fn.params.toList ++ s.plain.varTypes P ++ fn.resultTypes.toList).any (P.wideKeysFrom ·)) && s.vars.all (P.varReadable ·) && fn.resultTypes.all (fun t => P.readableRec t && decide (t < P.types.size)) && (c.ifacesOut == fn.resultTypes.toList.any (P.ifacesRec ·)) && (c.loopsOut == fn.resultTypes.toList.any (P.loopsFrom ·)) && (c.plainKeys == P.plainKeys) && c.shortTexts.isNone && P.stopsHeard && P.mayEnter && (c.lifted == P.liftsFinal) && (P.make == some c.make) && (c.kinds == (if c.domain.isEmpty then [] else fn.params.toList.map fun t => match P.underlying t with | some (.int k) => some k | _ => none)) && (c.pinned == c.pinnedBy)) = true)
    (d3 : ((c.veiled == (fn.params.toList ++ s.plain.varTypes P ++ fn.resultTypes.toList).any (P.veiledRec ·)) && c.veiledFits P fn.params.toList (fn.params.toList ++ s.plain.varTypes P ++ fn.resultTypes.toList)) = true) : joinedFacts P f fn s c = true := by
  have b1' : (c.inPlace == P.inPlace f) = true := by rw [b1]; exact beq_self_eq_true _
  have b2'' : (c.unfollowed == P.unfollowed f) = true := by rw [b2, b2']; rfl
  have b3' : (c.recurses == P.recurses f) = true := by rw [b3]; unfold Program.recurses; rw [b2]; rfl
  have b4' : (c.named == P.varsNamed f) = true := by rw [b4]; exact beq_self_eq_true _
  unfold joinedFacts
  simp only [Bool.and_eq_true, and_assoc] at a d1 d2 d3 ⊢
  obtain ⟨a1, a2, a3, a4, a5, a6, a7, a8, a9⟩ := a
  obtain ⟨c1, c2, c3⟩ := d1
  obtain ⟨e1, e2, e3, e4, e5, e6, e7, e8, e9, f1, f2, f3, f4, f5⟩ := d2
  obtain ⟨g1, g2⟩ := d3
  exact ⟨a1, a2, a3, a4, a5, a6, a7, a8, a9, b1', b2'', b3', b4', c1, c2, c3, e1, e2, e3, e4, e5, e6, e7, e8, e9, f1, f2, f3, f4, f5, g1, g2⟩
end Ab
