/- Type assertions, lengths, make in append, min and max; and all operations together. No condition. -/
import Derived.Test.YtndlggjnfabdoaaGreatDoorAb05
import Derived.Defers
set_option linter.all false
namespace Ab
open Go
section
variable {P : Program} {L : Link} {C : CodeR} {g : Gh} {s : St} {w : World} {ρ : Operand → Value} {ev : Opd → AV}

theorem pair_rep {L : Lk} {x : AV} {v : Value} {b : Bool} (h : Rep L g w x v) : Rep L g w (.tup [x, .bool b]) (.tuple #[v, .bool b]) := by
  simp only [Rep]; exact ⟨[v, .bool b], rfl, by simp only [RepL]; exact ⟨v, _, rfl, h, _, _, rfl, by simp [Rep], rfl⟩⟩

theorem tassert_sound (hinj : ∀ a b, L.tyOf a = L.tyOf b → a = b) (hs : StR L.toLk C g s w) (he : Evs L g w ρ ev) {o : Oper} {xt t u : Nat} {z : AV} {ok : Bool} {x : Operand} {x' : Opd} (ho : o.op = .typeAssert x xt t ok) (hx : odOk L x x' = true) (ht : L.tyOf u = t) {d : TypeDesc}
    (hu : P.underlying t = some d) (hd : (match d with | .interface _ => false | _ => true) = true) {i : TypeInfo} (hi : P.info? t = some i) {zv : Value} (hzv : i.zero = some zv) (hz : vOk L.toLk zv z = true)
    {r : AV × St} (h : opA ev s (.tassert u z ok x') = some r) : OpRes P L C g s w r ((execOp ρ o).run P w) := by
  have hr := he.rep _ _ hx
  have exec : (execOp ρ o).run P w = ((Instr.typeAssert (ρ x) xt t ok).run P w).andThen fun a w' => .ok (.value a) w' := by
    simp only [execOp, ho, Sem.run_bind]; rfl
  have hzr := vOk_rep hz g w
  rw [exec]
  simp only [opA] at h
  split at h
  · rename_i u' v hev
    rw [hev] at hr
    simp only [Rep] at hr
    obtain ⟨cv, hρ, hrv⟩ := hr
    split at h
    · rename_i huu
      subst huu
      cases h
      refine OpRes.val hs (cv := if ok then .tuple #[cv, .bool true] else cv) ?_ ?_
      · rw [hρ]
        cases d <;> first | (cases hd; done) | (simp only [Instr.typeAssert, Sem.run_bind, run_underlying hu, Result.andThen_ok, ht, if_true]; cases ok <;> rfl)
      · cases ok
        · exact hrv
        · exact pair_rep hrv
    · rename_i huu
      have hne : L.tyOf u' ≠ t := fun e => huu (hinj _ _ (by rw [ht, e]))
      split at h
      · rename_i hok
        cases h
        subst hok
        refine OpRes.val hs (cv := .tuple #[zv, .bool false]) ?_ (pair_rep hzr)
        rw [hρ]
        cases d <;> first | (cases hd; done) | (simp only [Instr.typeAssert, Sem.run_bind, run_underlying hu, Result.andThen_ok, hne, if_false, if_true, zeroValue, typeInfo, run_program, hi, hzv, Sem.run_pure])
      · cases h
  · rename_i hev
    rw [hev] at hr
    simp only [Rep] at hr
    split at h
    · rename_i hok
      cases h
      subst hok
      refine OpRes.val hs (cv := .tuple #[zv, .bool false]) ?_ (pair_rep hzr)
      rw [hr]
      cases d <;> first | (cases hd; done) | (simp only [Instr.typeAssert, Sem.run_bind, run_underlying hu, Result.andThen_ok, if_true, zeroValue, typeInfo, run_program, hi, hzv, Sem.run_pure])
    · cases h
  · cases h

theorem lenOk_slice {t : TypeId} (h : lenOk P t .slice = true) : ∃ e, P.underlying t = some (.slice e) := by
  unfold lenOk at h
  split at h <;> first | (rename_i hc _; cases hc; done) | (rename_i hu; exact ⟨_, hu⟩) | cases h
theorem lenOk_str {t : TypeId} (h : lenOk P t .str = true) : P.underlying t = some .string := by
  unfold lenOk at h
  split at h <;> first | (rename_i hc _; cases hc; done) | (rename_i hu; exact hu) | cases h
theorem lenOk_map {t : TypeId} (h : lenOk P t .map = true) : ∃ k e, P.underlying t = some (.map k e) := by
  unfold lenOk at h
  split at h <;> first | (rename_i hc _; cases hc; done) | (rename_i hu; exact ⟨_, _, hu⟩) | cases h

theorem len_sound (hs : StR L.toLk C g s w) (he : Evs L g w ρ ev) {o : Oper} {t ty : TypeId} {c : LC} {x : Operand} {x' : Opd} (hx : odOk L x x' = true) (ht : lenOk P t c = true) {r : AV × St} (h : opA ev s (.len c x') = some r)
    (exec : (execOp ρ o).run P w = ((Builtin.len_ #[t] ty #[ρ x]).run P w).andThen fun a w' => .ok (.value a) w') : OpRes P L C g s w r ((execOp ρ o).run P w) := by
  have hr := he.rep _ _ hx
  rw [exec]
  have fin : ∀ n : Nat, (Builtin.len_ #[t] ty #[ρ x]).run P w = .ok (.int .i64 n) w → OpRes P L C g s w (.int .i64 n, s) (((Builtin.len_ #[t] ty #[ρ x]).run P w).andThen fun a w' => .ok (.value a) w') := by
    intro n hn
    exact OpRes.val hs (cv := .int .i64 n) (by rw [hn]; rfl) (by simp [Rep])
  simp only [opA] at h
  split at h
  · rename_i own z xs hev
    cases h
    rw [hev] at hr
    simp only [Rep] at hr
    obtain ⟨a, cap, vs, hρ, _⟩ := hr
    obtain ⟨e, hu⟩ := lenOk_slice ht
    exact fin _ (by simp [Builtin.len_, run_underlying hu, hρ, goInt])
  · rename_i b off z n hev
    cases h
    rw [hev] at hr
    simp only [Rep] at hr
    obtain ⟨b', a', cap, _, hρ, _⟩ := hr
    obtain ⟨e, hu⟩ := lenOk_slice ht
    exact fin _ (by simp [Builtin.len_, run_underlying hu, hρ, goInt])
  · rename_i b hev
    cases h
    rw [hev] at hr
    simp only [Rep] at hr
    have hu := lenOk_str ht
    exact fin _ (by simp only [Builtin.len_, List.getElem?_toArray, List.getElem?_cons_zero, Sem.run_bind, run_underlying hu, Result.andThen_ok, hr, Sem.run_pure, goInt]; rfl)
  · rename_i hev
    cases h
    rw [hev] at hr
    simp only [Rep] at hr
    obtain ⟨k, e, hu⟩ := lenOk_map ht
    exact fin 0 (by simp only [Builtin.len_, List.getElem?_toArray, List.getElem?_cons_zero, Sem.run_bind, run_underlying hu, Result.andThen_ok, hr, Sem.run_pure, goInt]; rfl)
  · rename_i i hev
    rw [hev] at hr
    simp only [Rep] at hr
    obtain ⟨b, hb, hρ⟩ := hr
    split at h
    · rename_i es hes
      cases h
      obtain ⟨b', cs, cl, h1, h2, h3, h4, _⟩ := map_at hs hes
      rw [hb] at h1; cases h1
      have hl : cs.size = es.length := by have := h4.1; simpa using this.symm
      obtain ⟨k, e, hu⟩ := lenOk_map ht
      exact fin _ (by simp [Builtin.len_, run_underlying hu, hρ, goInt, run_getObj_map h3, hl])
    · cases h
  · cases h

theorem cap_sound (hs : StR L.toLk C g s w) (he : Evs L g w ρ ev) {o : Oper} {t ty e : TypeId} {x : Operand} {x' : Opd} (hx : odOk L x x' = true) (hu : P.underlying t = some (.slice e)) {r : AV × St} (h : opA ev s (.cap x') = some r)
    (exec : (execOp ρ o).run P w = ((Builtin.cap_ #[t] ty #[ρ x]).run P w).andThen fun a w' => .ok (.value a) w') : OpRes P L C g s w r ((execOp ρ o).run P w) := by
  have hr := he.rep _ _ hx
  rw [exec]
  simp only [opA] at h
  split at h
  · rename_i z xs hev
    cases h
    rw [hev] at hr
    simp only [Rep] at hr
    obtain ⟨a, cap, vs, hρ, _, _, _, _, _, ho⟩ := hr
    obtain ⟨_, _, rfl⟩ := ho
    exact OpRes.val hs (cv := .int .i64 0) (by simp [Builtin.cap_, run_underlying hu, hρ, goInt]) (by simp [Rep])
  · rename_i z xs hev
    cases h
    rw [hev] at hr
    simp only [Rep] at hr
    obtain ⟨a, cap, vs, hρ, _, _, _, _, _, ho⟩ := hr
    obtain ⟨_, rfl⟩ := ho
    exact OpRes.val hs (cv := .int .i64 xs.length) (by simp [Builtin.cap_, run_underlying hu, hρ, goInt]) (by simp [Rep])
  · cases h

theorem wrap64_in (n : Int) (h1 : -9223372036854775808 ≤ n) (h2 : n ≤ 9223372036854775807) : IntKind.i64.wrap n = n := by
  show (if (true && decide (n % 2 ^ 64 ≥ 2 ^ 63)) = true then n % 2 ^ 64 - 2 ^ 64 else n % 2 ^ 64) = n
  simp only [Bool.true_and, decide_eq_true_eq, show (2 : Int) ^ 64 = 18446744073709551616 from rfl, show (2 : Int) ^ 63 = 9223372036854775808 from rfl]
  split <;> omega

theorem run_max2 {k : IntKind} {a b : Int} : (Builtin.max2 (.int k a) (.int k b)).run P w = .ok (.int k (if b > a then b else a)) w := rfl
theorem run_min2 {k : IntKind} {a b : Int} : (Builtin.min2 (.int k a) (.int k b)).run P w = .ok (.int k (if b < a then b else a)) w := rfl

theorem mmAll_sound (m : MM) : ∀ {xs : List AV} {vs : List Value} {x y : AV} {v : Value}, RepL L.toLk g w xs vs → Rep L.toLk g w x v → mmAll m x xs = some y →
    ∃ u, (vs.foldlM (match m with | .max => Builtin.max2 | .min => Builtin.min2) v).run P w = .ok u w ∧ Rep L.toLk g w y u
  | [], vs, x, y, v, h1, h2, h3 => by
    simp only [RepL] at h1; subst h1
    simp only [mmAll, Option.some.injEq] at h3; subst h3
    exact ⟨v, by simp, h2⟩
  | z :: xs, vs, x, y, v, h1, h2, h3 => by
    simp only [RepL] at h1
    obtain ⟨c, r, rfl, h4, h5⟩ := h1
    simp only [mmAll] at h3
    split at h3
    · rename_i q hq
      unfold mmA at hq
      split at hq
      · rename_i k a l b
        split at hq
        · rename_i hkl
          subst hkl
          simp only [Rep] at h2 h4
          subst h2; subst h4
          cases m <;> simp only [Option.some.injEq] at hq <;> subst hq
          · obtain ⟨u, h6, h7⟩ := mmAll_sound .min (v := .int k (if b < a then b else a)) h5 (by simp [Rep]) h3
            exact ⟨u, by simp only [List.foldlM_cons, Sem.run_bind, run_min2, Result.andThen_ok]; exact h6, h7⟩
          · obtain ⟨u, h6, h7⟩ := mmAll_sound .max (v := .int k (if b > a then b else a)) h5 (by simp [Rep]) h3
            exact ⟨u, by simp only [List.foldlM_cons, Sem.run_bind, run_max2, Result.andThen_ok]; exact h6, h7⟩
        · cases hq
      · cases hq
    · cases h3

theorem mm_sound (hs : StR L.toLk C g s w) (he : Evs L g w ρ ev) {o : Oper} {m : MM} {ts : Array TypeId} {ty : TypeId} {args : List Operand} {xs : List Opd} (hx : odsOk L args xs = true) {r : AV × St} (h : opA ev s (.mm m xs) = some r)
    (exec : (execOp ρ o).run P w = ((match m with | .max => Builtin.max_ ts ty (args.map ρ).toArray | .min => Builtin.min_ ts ty (args.map ρ).toArray).run P w).andThen fun a w' => .ok (.value a) w') : OpRes P L C g s w r ((execOp ρ o).run P w) := by
  have hr := he.reps hx
  simp only [opA] at h
  split at h
  · cases h
  · rename_i x rest hxs
    rw [hxs] at hr
    simp only [RepL] at hr
    obtain ⟨v, vs, hv, h1, h2⟩ := hr
    simp only [valStep] at h
    split at h
    · rename_i y hy
      cases h
      obtain ⟨u, h3, h4⟩ := mmAll_sound (P := P) m h2 h1 hy
      refine OpRes.val hs (cv := u) ?_ h4
      rw [exec, hv]
      cases m <;> simp only [Builtin.max_, Builtin.min_] <;> simp only at h3 <;> rw [h3] <;> rfl
    · cases h

theorem appz_sound (hs : StR L.toLk C g s w) (he : Evs L g w ρ ev) {o : Oper} {t u ty e : TypeId} {i : TypeInfo} {z : Value} {sz : Nat} (hR : RowInfo P t e i z sz) (hu : intT P u = true) {x y : Operand} {x' y' : Opd} (hx : odOk L x x' = true) (hy : odOk L y y' = true)
    {r : AV × St} (h : opA ev s (.appz sz x' y') = some r) (exec : (execOp ρ o).run P w = ((Builtin.append_ #[t, u] ty #[ρ x, ρ y]).run P w).andThen fun a w' => .ok (.value a) w') : OpRes P L C g s w r ((execOp ρ o).run P w) := by
  have hrx := he.rep _ _ hx
  have hry := he.rep _ _ hy
  simp only [opA] at h
  split at h
  · rename_i z0 xs k n hex hey
    split at h
    · rename_i hc
      cases h
      rw [hex] at hrx
      rw [hey] at hry
      simp only [Rep] at hrx hry
      obtain ⟨a, cap, vs, hρ, hcap, hun, hrl, hsz, hl, ho⟩ := hrx
      obtain ⟨rfl, hx0, rfl⟩ := ho
      rw [hx0] at hρ
      obtain ⟨m, hm, hm0⟩ : ∃ m : Nat, n = m ∧ 0 < m := ⟨n.toNat, by omega, by omega⟩
      subst hm
      have hmost : m ≤ most := by have := hc.2; omega
      unfold intT at hu
      split at hu
      · rename_i kk hd
        have hwrap : IntKind.i64.wrap (m : Int) = m := by
          unfold most at hmost
          exact wrap64_in _ (by omega) (by omega)
        have hns := next_small m 0 (by omega) hmost
        have hb := hR.bytes
        have hle : ¬ (Builtin.nextslicecap m 0 * i.bytes > 2 ^ 48) := by
          have : Builtin.nextslicecap m 0 * i.bytes ≤ 4294967296 * 1024 := Nat.mul_le_mul hns hb
          omega
        have hle2 : ¬ ((m : Int) * (i.bytes : Int) > 2 ^ 48) := by
          have h3 : m * i.bytes ≤ 1073741824 * 1024 := Nat.mul_le_mul (by unfold most at hmost; exact hmost) hb
          have h4 : ((m * i.bytes : Nat) : Int) ≤ 1099511627776 := by omega
          rw [Int.natCast_mul] at h4
          have h5 : (2 : Int) ^ 48 = 281474976710656 := rfl
          rw [h5]; omega
        have hmax : ¬ (((m : Nat) : Int) > IntKind.i64.max ∧ (True ∨ i.bytes = 0)) := by
          have : IntKind.i64.max = 9223372036854775807 := by decide
          rw [this]; unfold most at hmost; omega
        obtain ⟨nc, hnc⟩ : ∃ nc, nc = (Question.appendCap m 0 e).cut (w.tape w.drawn (.appendCap m 0 e)) := ⟨_, rfl⟩
        have hncge : m ≤ nc := by rw [hnc]; simp [Question.cut]
        obtain ⟨cs, hcs, hcsz⟩ : ∃ cs : Array Value, cs = #[] ++ Builtin.zeroCells z.cells m ++ Builtin.zeroCells z.cells (nc - m) ∧ cs.size = nc * sz := by
          refine ⟨_, rfl, ?_⟩
          simp only [Array.size_append, size_zeroCells, hR.zs]
          simp only [List.size_toArray, List.length_nil, Nat.zero_add, ← Nat.add_mul]
          congr 1; omega
        have hrun : (Builtin.append_ #[t, u] ty #[ρ x, ρ y]).run P w = .ok (.slice (some ⟨w.heap.size, 0, none⟩) m nc) { w with drawn := w.drawn + 1, heap := w.heap.push (.cells cs e) } := by
          have hpos := hR.pos
          have hmsz : ¬ (m * sz = 0) := by
            intro h0
            rcases Nat.mul_eq_zero.1 h0 with h1 | h1 <;> omega
          simp only [Builtin.append_, List.getElem?_toArray, List.getElem?_cons_zero, List.getElem?_cons_succ, Sem.run_bind, run_underlying hR.ht, Result.andThen_ok, Go.sizeOf, typeInfo, run_program, hR.hi, Sem.run_pure, run_underlying hd, hρ, hry, hR.size,
            if_true, asInt, asIntOf, hwrap]
          rw [if_neg (by omega)]
          simp only [Sem.run_bind, run_program, hR.hi, Sem.run_pure, Result.andThen_ok, Sem.run_ite, Result.andThen_ite]
          rw [if_neg hle2]
          simp only [Int.toNat_natCast, Nat.zero_add]
          rw [if_neg (by omega)]
          rw [if_neg hmax]
          rw [if_neg hle]
          simp only [Result.andThen_ok, run_choose, Question.forced, Bool.false_eq_true, if_false, Sem.run_bind, run_program, Sem.run_pure, run_askRoom, zeroValue, typeInfo, hR.hi, hR.hz, newRow, run_newObj, Builtin.firstCells, Bool.not_true, hmsz, Sem.run_ite, Result.andThen_ite]
          rw [← hnc, hcs]
        have htk : s.tk.length = g.tk.length := by rw [← hs.tk]; simp
        have hlive : ∀ (q : Nat) (T : TokI), g.tk[q]? = some T → T.a.block < w.heap.size := by
          intro q T hT
          obtain ⟨c', e', fz', h6, _⟩ := (hs.toks q T hT).space
          exact lt_of_heap h6
        have hcase : ∀ (q : Nat) (T : TokI), (g.tk ++ [⟨⟨w.heap.size, 0, none⟩, nc, sz, 0⟩])[q]? = some T → g.tk[q]? = some T ∨ (q = g.tk.length ∧ T = ⟨⟨w.heap.size, 0, none⟩, nc, sz, 0⟩) := by
          intro q T hT
          by_cases hq : q < g.tk.length
          · rw [List.getElem?_append_left hq] at hT; exact .inl hT
          · have hq' := (List.getElem?_eq_some_iff.1 hT).1
            simp at hq'
            have : q = g.tk.length := by omega
            subst this
            simp at hT
            exact .inr ⟨rfl, hT.symm⟩
        have hnew := hs.newRow (c := cs) (e := e) (fz := (0, 0)) (w' := { w with drawn := w.drawn + 1, heap := w.heap.push (.cells cs e) }) rfl ⟨rfl, rfl, rfl⟩ 0 (g.tk ++ [⟨⟨w.heap.size, 0, none⟩, nc, sz, 0⟩])
          (fun q T hT => ⟨T, by rw [List.getElem?_append_left (List.getElem?_eq_some_iff.1 hT).1]; exact hT, Nat.le_refl _, fun _ => rfl⟩)
          (fun q T hT => by
            rcases hcase q T hT with h | ⟨_, rfl⟩
            · exact .inl h
            · exact .inr ⟨rfl, by rw [hcsz]; exact Nat.le_refl _, Nat.zero_le _, Nat.zero_le _, fun o _ hh => by simp at hh⟩)
          (fun q q' T T' hT hT' e1 e2 => by
            rcases hcase q T hT with h | ⟨rfl, _⟩
            · have := hlive q T h; omega
            · rcases hcase q' T' hT' with h | ⟨rfl, _⟩
              · have := hlive q' T' h; omega
              · rfl)
          (fun q hq => by
            have h0 := hs.rt
            rw [List.getElem?_append_left (by omega)])
        have hst : ({ s with tk := (g.tk ++ [(⟨⟨w.heap.size, 0, none⟩, nc, sz, 0⟩ : TokI)]).map (·.top) } : St) = { s with tk := s.tk ++ [0] } := by simp [hs.tk]
        rw [hst] at hnew
        refine ⟨_, _, .value (.slice (some ⟨w.heap.size, 0, none⟩) m nc), _, ?_, .inl rfl, ?_, hnew.1, hnew.2⟩
        · rw [exec, hrun]; rfl
        · simp only [Rep, Int.toNat_natCast]
          exact ⟨⟨⟨w.heap.size, 0, none⟩, nc, sz, 0⟩, by rw [htk]; simp, fun _ => ⟨rfl, hncge, rfl⟩⟩
      · cases hu
    · cases h
  · cases h
theorem repl_flat_rep {L : Lk} {g : Gh} {w : World} {z : List AV} {zc : List Value} (h : RepL L g w z zc) : ∀ m : Nat, RepL L g w (repl z m).flatten (List.replicate m zc).flatten
  | 0 => by simp [repl, RepL]
  | m + 1 => by
    simp only [repl, List.replicate_succ, List.flatten_cons]
    exact h.append (repl_flat_rep h m)

theorem mkms_sound (hs : StR L.toLk C g s w) (he : Evs L g w ρ ev) {o : Oper} {t : TypeId} {n c : Operand} {n' c' : Opd} (ho : o.op = .makeSlice t n c) {e : TypeId} {i : TypeInfo} {zv : Value} {sz : Nat} (hR : RowInfo P t e i zv sz) {z : List AV} (hz : zeroOk P L.toLk e z = true)
    (hn : odOk L n n' = true) (hc : odOk L c c' = true) {r : AV × St} (h : opA ev s (.mkms sz z n' c') = some r) : OpRes P L C g s w r ((execOp ρ o).run P w) := by
  have hrn := he.rep _ _ hn
  have hrc := he.rep _ _ hc
  simp only [opA] at h
  split at h
  · rename_i k a l b hev hev2
    split at h
    · rename_i hcond
      obtain ⟨⟨h0, h1⟩, h2⟩ := hcond
      cases h
      rw [hev] at hrn
      rw [hev2] at hrc
      simp only [Rep] at hrn hrc
      obtain ⟨m, rfl⟩ : ∃ m : Nat, b = m := ⟨b.toNat, by omega⟩
      obtain ⟨q, rfl⟩ : ∃ q : Nat, a = q := ⟨a.toNat, by omega⟩
      have hm : m ≤ most := by omega
      have hq : q ≤ m := by omega
      unfold zeroOk at hz
      rw [hR.hi] at hz
      simp only [hR.hz, Bool.and_eq_true, beq_iff_eq] at hz
      obtain ⟨hz1, hz2⟩ := hz
      have hzr := vOkL_rep hz1 g w
      have hzl : zv.cells.toList.length = sz := by simp [hR.zs]
      have hpos := hR.pos
      have hb := hR.bytes
      unfold most at hm
      have w1 : IntKind.i64.wrap (m : Int) = m := wrap64_in _ (by omega) (by omega)
      have w2 : IntKind.i64.wrap (q : Int) = q := wrap64_in _ (by omega) (by omega)
      have hbm : ((i.bytes : Int) * (m : Int)) ≤ 1099511627776 := by
        have h3 : i.bytes * m ≤ 1024 * 1073741824 := Nat.mul_le_mul hb hm
        have h4 : ((i.bytes * m : Nat) : Int) ≤ 1099511627776 := by omega
        rwa [Int.natCast_mul] at h4
      obtain ⟨cells, hcells⟩ : ∃ cells : Array Value, cells = (List.replicate m zv.cells.toList).flatten.toArray := ⟨_, rfl⟩
      have hrun : (Instr.makeSlice t (ρ n) (ρ c)).run P w = .ok (.slice (some ⟨w.heap.size, 0, none⟩) q m) { w with heap := w.heap.push (.cells cells e) } := by
        have hf : ¬ ((decide ((m : Int) < 0) || decide ((i.bytes : Int) * (m : Int) > 2 ^ 48) || decide ((q : Int) < 0) || decide ((q : Int) > (m : Int))) = true) := by
          have h5 : (2 : Int) ^ 48 = 281474976710656 := rfl
          simp only [Bool.or_eq_true, decide_eq_true_eq, h5]; omega
        have hcell : ((Array.range (m * sz)).map fun x => (if m * sz = 0 then #[] else zv.cells)[x % (if m * sz = 0 then #[] else zv.cells).size]!) = cells := by
          rw [hcells]
          apply Array.ext'
          by_cases hm0 : m = 0
          · subst hm0; simp
          · have hne : ¬ m * sz = 0 := by
              intro h6
              rcases Nat.mul_eq_zero.1 h6 with h7 | h7 <;> omega
            simp only [hne, if_false]
            have := range_mod zv.cells.toList undef m
            rw [hzl] at this
            rw [← this]
            simp only [Array.toList_map, Array.toList_range]
            apply List.map_congr_left
            intro x _
            have hlt : x % sz < zv.cells.size := by rw [hR.zs]; exact Nat.mod_lt _ hpos
            rw [hR.zs]
            simp [hlt]
        simp only [Instr.makeSlice, Sem.run_bind, run_underlying hR.ht, Result.andThen_ok, hrn, hrc, asInt, asIntOf, Sem.run_pure, typeInfo, run_program, hR.hi, w1, w2]
        rw [if_neg hf]
        simp only [Result.andThen_ok, Sem.run_bind, run_askRoom, Go.sizeOf, typeInfo, run_program, hR.hi, Sem.run_pure, hR.size, Int.toNat_natCast, newRow, run_newObj, zeroValue, hR.hz, Sem.run_ite, Result.andThen_ite]
        by_cases hm0 : m * sz = 0
        · rw [if_pos hm0] at hcell ⊢
          rw [hcell]
        · rw [if_neg hm0] at hcell ⊢
          rw [hcell]
      have hp := hs.push (o := .cells cells e) (ab := .cells (repl z m).flatten) (w' := { w with heap := w.heap.push (.cells cells e) }) rfl same_push [] (by simp)
        (fun hge => ⟨(List.replicate m zv.cells.toList).flatten, [], e, by rw [push_new rfl, hcells, List.append_nil], RepL.mono hge _ _ (repl_flat_rep hzr.1 m), fun u hu => by
          obtain ⟨l, hl, hu⟩ := List.mem_flatten.1 hu
          rw [(List.mem_replicate.1 hl).2] at hu
          exact hzr.2 u hu⟩)
      refine ⟨_, _, .value (.slice (some ⟨w.heap.size, 0, none⟩) q m), _, ?_, .inl rfl, ?_, hp.1, hp.2⟩
      · simp only [execOp, ho, Sem.run_bind, hrun]; rfl
      · simp only [Rep, Int.toNat_natCast]
        exact ⟨w.heap.size, ⟨w.heap.size, 0, none⟩, m, by simp [← hs.bl], rfl, hq, fun _ => ⟨rfl, cells, e, (0, 0), push_new (w := w) (w' := { w with heap := w.heap.push (.cells cells e) }) rfl, by rw [hcells, List.size_toArray, List.length_flatten, List.map_replicate, List.sum_replicate_nat]; simp [hzl]⟩⟩
    · cases h
  · cases h
end
end Ab

/- All operations that are no calls: what the check lets by is done as the abstract run says. Its condition: types have numbers of their own. -/
namespace Ab
open Go
section
variable {P : Program} {L : Link} {C : CodeR} {g : Gh} {s : St} {w : World} {ρ : Operand → Value} {ev : Opd → AV}

theorem arr1 {α : Type} {a : Array α} {x : α} (h : a.toList = [x]) : a = #[x] := by cases a; simp_all
theorem arr2 {α : Type} {a : Array α} {x y : α} (h : a.toList = [x, y]) : a = #[x, y] := by cases a; simp_all

theorem run_builtin {o : Oper} {b : Builtin} {args : Array Operand} {ts : Array TypeId} (ho : o.op = .call { callee := .builtin b, args, argTypes := ts }) {R : Sem Value} (hR : ∀ consts, builtin b ts o.type consts (args.map ρ) = (do pure (.value (← R)))) :
    (execOp ρ o).run P w = (R.run P w).andThen fun a w' => .ok (.value a) w' := by
  simp only [execOp, ho, resolve, Sem.run_bind, Sem.run_pure, Result.andThen_ok, invoke, hR]

theorem blt_sound (hs : StR L.toLk C g s w) (he : Evs L g w ρ ev) {o : Oper} {b : Builtin} {args : Array Operand} {ts : Array TypeId} (ho : o.op = .call { callee := .builtin b, args, argTypes := ts }) {io : IOp} (hb : bltOk P L b args.toList ts.toList io = true)
    {r : AV × St} (h : opA ev s io = some r) : OpRes P L C g s w r ((execOp ρ o).run P w) := by
  unfold bltOk at hb
  split at hb
  · split at hb
    · rename_i a t h1 h2
      simp only [Bool.and_eq_true] at hb
      refine len_sound hs he hb.1 hb.2 h (run_builtin ho fun _ => ?_) (ty := o.type)
      rw [arr1 h1, arr1 h2]; simp [builtin]
    · cases hb
  · split at hb
    · rename_i a t h1 h2
      simp only [Bool.and_eq_true] at hb
      obtain ⟨h3, h4⟩ := hb
      split at h4
      · rename_i e hu
        refine cap_sound hs he h3 hu h (run_builtin ho fun _ => ?_) (ty := o.type)
        rw [arr1 h1, arr1 h2]; simp [builtin]
      · cases h4
    · cases hb
  · split at hb
    · rename_i a c t u h1 h2
      simp only [Bool.and_eq_true, decide_eq_true_eq] at hb
      obtain ⟨⟨⟨⟨⟨h3, h4⟩, h5⟩, h6⟩, h7⟩, h8⟩ := hb
      obtain ⟨e, i, z, hR⟩ := rowInfo h5 h7 h8
      rw [run_builtin ho (R := Builtin.append_ #[t, u] o.type #[ρ a, ρ c]) (fun _ => by rw [arr2 h1, arr2 h2]; simp [builtin])]
      simp only [opA] at h
      obtain ⟨v, s'⟩ := r
      obtain ⟨g', w', cv, a1, a2, a3, a4⟩ := appA_sound (ty := o.type) hs hR h6 (he.rep _ _ h3) (he.rep _ _ h4) h
      exact ⟨g', w', _, cv, by rw [a1]; rfl, .inl rfl, a2, a3, a4⟩
    · cases hb
  · split at hb
    · rename_i a c t u h1 h2
      simp only [Bool.and_eq_true, decide_eq_true_eq] at hb
      obtain ⟨⟨⟨⟨⟨h3, h4⟩, h5⟩, h6⟩, h7⟩, h8⟩ := hb
      obtain ⟨e, i, z, hR⟩ := rowInfo h5 h7 h8
      rw [run_builtin ho (R := Builtin.append_ #[t, u] o.type #[ρ a, ρ c]) (fun _ => by rw [arr2 h1, arr2 h2]; simp [builtin])]
      simp only [opA] at h
      obtain ⟨v, s'⟩ := r
      obtain ⟨g', w', cv, a1, a2, a3, a4⟩ := appmA_sound (ty := o.type) hs hR h6 (he.rep _ _ h3) (he.rep _ _ h4) h
      exact ⟨g', w', _, cv, by rw [a1]; rfl, .inl rfl, a2, a3, a4⟩
    · cases hb
  · split at hb
    · rename_i a c t u h1 h2
      simp only [Bool.and_eq_true, decide_eq_true_eq] at hb
      obtain ⟨⟨⟨⟨⟨h3, h4⟩, h5⟩, h6⟩, h7⟩, h8⟩ := hb
      obtain ⟨e, i, z, hR⟩ := rowInfo h5 h7 h8
      refine appz_sound hs he hR h6 h3 h4 h (run_builtin ho fun _ => ?_) (ty := o.type)
      rw [arr2 h1, arr2 h2]; simp [builtin]
    · cases hb
  · refine mm_sound (m := .max) (ts := ts) (ty := o.type) hs he hb h (run_builtin ho fun _ => ?_)
    simp only [builtin]
    congr 2
    apply Array.ext'; simp
  · refine mm_sound (m := .min) (ts := ts) (ty := o.type) hs he hb h (run_builtin ho fun _ => ?_)
    simp only [builtin]
    congr 2
    apply Array.ext'; simp
  · split at hb
    · rename_i a c t tr h1 h2
      simp only [Bool.and_eq_true] at hb
      obtain ⟨⟨h3, h4⟩, h5⟩ := hb
      split at h5
      · rename_i kt e hu
        refine del_sound (ts := tr) (ty := o.type) hs he h3 h4 hu h5 h (run_builtin ho fun _ => ?_)
        have h2' : ts = (t :: tr).toArray := by rw [← h2]
        rw [arr2 h1, h2']; simp [builtin]
      · cases h5
    · cases hb
  · cases hb

theorem op_sound (hinj : ∀ a b, L.tyOf a = L.tyOf b → a = b) (hs : StR L.toLk C g s w) (he : Evs L g w ρ ev) {o : Oper} {io : IOp} (hok : opOk P L o.op io = true) {r : AV × St} (h : opA ev s io = some r) : OpRes P L C g s w r ((execOp ρ o).run P w) := by
  generalize hop : o.op = op at hok
  unfold opOk at hok
  split at hok <;> try simp only [Bool.and_eq_true, beq_iff_eq, decide_eq_true_eq] at hok
  · simp only [opA, Option.some.injEq] at h; subst h
    exact OpRes.val hs (by simp [execOp, hop]) (he.rep _ _ hok)
  · simp only [opA, Option.some.injEq] at h; subst h
    exact OpRes.val hs (by simp [execOp, hop]) (he.rep _ _ hok)
  · exact pick_sound hs he hop hok.1.1 hok.1.2 hok.2 h
  · exact alloc_sound hs hop hok h
  · exact box_sound hs he hop hok h
  · obtain ⟨h1, h2⟩ := hok
    split at h2
    · rename_i pl hpl
      exact build_sound hs he hop h1 hpl h2 h
    · cases h2
  · obtain ⟨⟨⟨⟨⟨h1, h2⟩, h3⟩, h4⟩, h5⟩, h6⟩ := hok
    subst h1
    split at h3
    · rename_i e hu
      simp only [Bool.and_eq_true, beq_iff_eq] at h3
      unfold elemIs at h2
      rw [hu] at h2
      simp only [beq_iff_eq] at h2
      exact bslice_sound hs he hop hu h2 h3.1 h4 h5 h
    · cases h3
  · obtain ⟨⟨⟨h1, h2⟩, h3⟩, h4⟩ := hok
    simp only [opA, valStep] at h
    split at h
    · rename_i v hv
      cases h
      simp only [Bool.or_eq_true, beq_iff_eq] at h4
      obtain ⟨cv, a1, a2⟩ := loadA_sound hs h1 h2 h4 (he.rep _ _ h3) hv
      exact OpRes.val hs (by simp [execOp, hop, a1]) a2
    · cases h
  · obtain ⟨⟨h1, h2⟩, h3⟩ := hok
    simp only [opA] at h
    split at h
    · rename_i s' hs'
      cases h
      obtain ⟨w', a1, a2, a3⟩ := storeA_sound hs h1 (he.rep _ _ h2) (he.rep _ _ h3) hs'
      exact ⟨g, w', .skip, undef, by simp [execOp, hop, a1], .inr ⟨rfl, rfl⟩, undef_rep _ _ _, a2, a3⟩
    · cases h
  · exact nilchk_sound hs he hop hok h
  · obtain ⟨⟨⟨rfl, h2⟩, h3⟩, h4⟩ := hok
    exact bin_sound hs he hop h2 h3 h4 h
  · obtain ⟨rfl, h2⟩ := hok
    exact un_sound hs he hop h2 h
  · exact conv_sound hs he hop hok.1 hok.2 h
  · obtain ⟨⟨h1, h2⟩, h3⟩ := hok
    cases hu : P.underlying _ with
    | none => rw [hu] at h3; cases h3
    | some d =>
      rw [hu] at h3
      exact mkif_sound hs he hop h1 h2 hu (by cases d <;> first | rfl | cases h3) h
  · obtain ⟨⟨h1, h2⟩, h3⟩ := hok
    exact mkfn_sound hs he hop h1 h2 h3 h
  · exact mkmap_sound hs hop h
  · obtain ⟨⟨⟨⟨⟨h1, h2⟩, h3⟩, h4⟩, h5⟩, h6⟩ := hok
    obtain ⟨e, i, z, hR⟩ := rowInfo h3 h4 h6
    rw [hR.ht] at h5
    exact mkms_sound hs he hop hR h5 h1 h2 h
  · obtain ⟨⟨⟨⟨h1, h2⟩, h3⟩, h4⟩, h5⟩ := hok
    exact slice_sound hs he hop h1 h2 h3 h4 h5 h
  · obtain ⟨h1, h2⟩ := hok
    split at h2
    · rename_i fd hf
      simp only [Bool.and_eq_true, beq_iff_eq] at h2
      obtain ⟨h2, h3⟩ := h2
      split at h3
      · rename_i n hn
        simp only [ne_eq, decide_eq_true_eq] at h3
        exact faddr_sound hs he hop h1 hf h2 hn h3 h
      · cases h3
    · cases h2
  · obtain ⟨h1, h2⟩ := hok
    split at h2
    · rename_i fd hf
      simp only [Bool.and_eq_true, beq_iff_eq, Bool.or_eq_true] at h2
      obtain ⟨⟨⟨h2, h3⟩, h4⟩, h5⟩ := h2
      exact field_sound hs he hop h1 hf h2 h3 h4 h5 h
    · cases h2
  · exact iaddr_sound hs he hop hok.1.1 hok.1.2 hok.2 h
  · obtain ⟨⟨h1, h2⟩, h3⟩ := hok
    split at h3
    · rename_i n e hu
      simp only [Bool.and_eq_true, beq_iff_eq] at h3
      obtain ⟨rfl, h4⟩ := h3
      exact aaddr_sound hs he hop h1 h2 hu h4 h
    · cases h3
  · obtain ⟨⟨h1, h2⟩, h3⟩ := hok
    split at h3
    · rename_i hu
      exact index_sound hs he hop h1 h2 hu h
    · cases h3
  · obtain ⟨⟨h1, h2⟩, h3⟩ := hok
    split at h3
    · rename_i n e hu
      simp only [Bool.and_eq_true, beq_iff_eq, Bool.or_eq_true] at h3
      obtain ⟨⟨⟨rfl, h4⟩, h5⟩, h6⟩ := h3
      exact aindex_sound hs he hop h1 h2 hu h5 h4 h6 h
    · cases h3
  · obtain ⟨⟨⟨rfl, h2⟩, h3⟩, h4⟩ := hok
    split at h4
    · rename_i kt e hu
      simp only [Bool.and_eq_true] at h4
      obtain ⟨h5, h6⟩ := h4
      split at h6
      · rename_i i hi
        split at h6
        · rename_i zv hzv
          exact lookup_sound hs he hop h2 h3 hu h5 hi hzv h6 h
        · cases h6
      · cases h6
    · cases h4
  · obtain ⟨⟨⟨h1, h2⟩, h3⟩, h4⟩ := hok
    split at h4
    · rename_i kt e hu
      exact mapset_sound hs he (.inl hop) h1 h2 h3 hu h4 h
    · cases h4
  · obtain ⟨⟨⟨h1, h2⟩, h3⟩, h4⟩ := hok
    split at h4
    · rename_i kt e hu
      exact mapset_sound hs he (.inr hop) h1 h2 h3 hu h4 h
    · cases h4
  · obtain ⟨h1, h2⟩ := hok
    split at h2
    · rename_i hu
      exact ranges_sound hs he hop h1 hu h
    · cases h2
  · exact nexts_sound hs he hop hok h
  · obtain ⟨⟨⟨⟨rfl, h2⟩, h3⟩, h4⟩, h5⟩ := hok
    split at h5
    · rename_i i hi
      split at h5
      · rename_i zv hzv
        cases hu : P.underlying _ with
        | none => rw [hu] at h4; cases h4
        | some d =>
          rw [hu] at h4
          exact tassert_sound hinj hs he hop h2 h3 hu (by cases d <;> first | rfl | cases h4) hi hzv h5 h
      · cases h5
    · cases h5
  · obtain ⟨rfl, h2⟩ := hok
    exact ext_sound hs he hop h2 h
  · simp [opA] at h
  · exact blt_sound hs he hop hok h
  · cases hok
end
end Ab

/- The check of a machine's code against an abstract one; the machine's steps in any frame. No condition. -/
namespace Ab
open Go

def ckOper (P : Program) (L : Link) (N : Nat) (cops : Array Oper) (o : Oper) (io : IOper) : Bool :=
  o.dst == io.dst && (match io.dst with | some d => decide (d < N) | none => true) &&
  (match o.guard, io.guard with
    | none, none => true
    | some (j, a), some (g, b) => a == b && ((cops[j]?).bind (·.dst)) == some g
    | _, _ => false) &&
  (match o.op, io.op with
    | .call { callee := .value f, args, .. }, .call f' args' => odOk L f f' && odsOk L args.toList args'
    | .call { callee := .builtin .recover, args, .. }, .recover => args.isEmpty
    | .defer { callee := .value f, args, .. }, .defer f' args' => odOk L f f' && odsOk L args.toList args'
    | .panic x, .panic y => odOk L x y
    | op, io => opOk P L op io)

def ckOpers (P : Program) (L : Link) (N : Nat) (cops : Array Oper) : List Oper → List IOper → Bool
  | [], [] => true
  | o :: os, i :: is => ckOper P L N cops o i && ckOpers P L N cops os is
  | _, _ => false

/- what an operation reads of the frame -/
def Opd.slots : Opd → List Nat
  | .t n => [n]
  | _ => []
def odsSlots : List Opd → List Nat
  | [] => []
  | x :: r => x.slots ++ odsSlots r
def optSlots : Option Opd → List Nat
  | some x => x.slots
  | none => []
def IOp.slots : IOp → List Nat
  | .mov x | .box _ x | .load _ _ x | .nilchk x | .un _ x | .conv _ x | .mkif _ x | .faddr _ x | .field _ _ _ x | .ranges x | .nexts x | .tassert _ _ _ x | .ext x _ | .len _ x | .cap x | .panic x => x.slots
  | .pick a b c => a.slots ++ b.slots ++ c.slots
  | .alloc _ | .mkmap | .recover => []
  | .build _ ps => odsSlots (ps.map fun p => p.2.2)
  | .bslice _ _ _ ps => odsSlots (ps.map fun p => p.2)
  | .store _ a b | .bin _ _ a b | .iaddr _ a b | .aaddr _ _ a b | .index a b | .aindex _ _ _ a b | .lookup _ _ a b _ | .app _ a b | .appz _ a b | .appm _ a b | .mkms _ _ a b | .del _ a b => a.slots ++ b.slots
  | .mkslice _ _ _ a b => a.slots ++ b.slots
  | .mapset _ a b c => a.slots ++ b.slots ++ c.slots
  | .mkfn _ a b => odsSlots a ++ odsSlots b
  | .slice _ a b c d => a.slots ++ optSlots b ++ optSlots c ++ optSlots d
  | .mm _ xs => odsSlots xs
  | .call f xs | .defer f xs => f.slots ++ odsSlots xs
def IOper.reads (o : IOper) : List Nat := o.op.slots ++ (match o.guard with | some (g, _) => [g] | none => []) ++ (o.chk.flatMap fun c => c.a.slots)

/- neither looks at the state nor changes it -/
def IOp.quiet : IOp → Bool
  | .mov _ | .pick _ _ _ | .build _ _ | .bslice _ _ _ _ | .nilchk _ | .bin _ _ _ _ | .un _ _ | .conv _ _ | .mkif _ _ | .mkfn _ _ _ | .faddr _ _ | .field _ _ _ _ | .iaddr _ _ _ | .aaddr _ _ _ _ | .index _ _ | .aindex _ _ _ _ _
  | .ext _ _ | .cap _ | .mm _ _ => true
  | .len c _ => c != .map
  | .tassert _ _ _ _ => true
  | _ => false
def IOp.isLoad : IOp → Bool
  | .load _ _ _ => true
  | _ => false
def IOp.isCall : IOp → Bool
  | .call _ _ => true
  | _ => false

def IOp.isStore : IOp → Bool
  | .store _ _ _ => true
  | _ => false
def IOp.isAlloc : IOp → Bool
  | .alloc _ | .box _ _ => true
  | _ => false
def IOp.isApp : IOp → Bool
  | .app _ _ _ => true
  | _ => false
/- a load of what is never written -/
def IOper.fl (o : IOper) : Bool := o.op.isLoad && o.chk.any fun c => c.a == .c .nilp
/- it looks at no state and changes none -/
def IOper.free (o : IOper) : Bool := o.op.quiet || (o.op.isCall && o.pl) || o.fl

def apartO (a b : IOper) : Bool :=
  (match a.dst with | some d => !b.reads.contains d && b.dst != some d | none => true) &&
  (match b.dst with | some d => !a.reads.contains d && a.dst != some d | none => true)

/- it leaves the state as it is -/
def IOper.still (o : IOper) : Bool :=
  o.op.quiet || o.op.isLoad || (match o.op with
    | .slice _ _ _ _ _ | .lookup _ _ _ _ _ | .len _ _ => true
    | .call _ _ => o.mp
    | _ => false)

/- a call that a load may pass: the load is looked at ahead and behind -/
def passes (c l : IOper) : Bool :=
  match l.op with
  | .load agg n a => c.chk.contains { agg, n, a } || l.chk.any fun x => c.chk.contains x
  | _ => false

/- a (earlier in the text) and b may change places -/
def swapOk (a b : IOper) : Bool :=
  apartO a b && (a.free || b.free || (a.still && b.still) || (a.op.isLoad && (b.op.isCall || b.op.isStore) && passes b a) || ((a.op.isCall || a.op.isStore) && b.op.isLoad && passes a b) || (a.op.isLoad && b.op.isAlloc) || (a.op.isLoad && b.op.isApp) || (a.op.isApp && b.op.isLoad))

/- the operations that come straight ahead of one -/
def preds (o : Oper) : List Nat := (o.after.toList.filter (Region.binds .any ·)).map (·.on)

/- which operations must come ahead of each one -/
def addN (a : Nat) (l : List Nat) : List Nat := if l.contains a then l else a :: l
def aheadOf (cops : List Oper) : List (List Nat) :=
  cops.foldl (fun acc o => acc ++ [(preds o).foldl (fun l d => (d :: acc.getD d []).foldr addN l) []]) []

def aheadOk (ah : List (List Nat)) : Nat → List Oper → Bool
  | _, [] => true
  | i, o :: r => (ah.getD i []).all (fun j => (preds o).contains j || (preds o).any fun d => (ah.getD d []).contains j) && aheadOk ah (i + 1) r

/- edges lead back -/
def edgesOk : Nat → List Oper → Bool
  | _, [] => true
  | i, o :: r => (preds o).all (fun j => decide (j < i)) && edgesOk (i + 1) r

def swapsOk (ah : List (List Nat)) (ios : List IOper) : Bool :=
  (List.range ios.length).all fun j => (List.range j).all fun i => (ah.getD j []).contains i || swapOk (ios.getD i default) (ios.getD j default)

def drawOk (cops : List Oper) (ios : List IOper) : Bool :=
  edgesOk 0 cops && aheadOk (aheadOf cops) 0 cops && swapsOk (aheadOf cops) ios

/- two orders, for p ahead of q and for q ahead of p -/
def ordOk (ah : List (List Nat)) (ios : List IOper) (p q : Nat) : List Nat → Bool
  | [] => true
  | y :: r => (r.all fun z => (ah.getD z []).contains y || swapOk (ios.getD y default) (ios.getD z default) || (y == q && z == p)) && !r.contains y && ordOk ah ios p q r
def altOk (ord : List Nat) (p q : Nat) (cops : List Oper) (ios : List IOper) : Bool :=
  edgesOk 0 cops && aheadOk (aheadOf cops) 0 cops && ordOk (aheadOf cops) ios q p (List.range ios.length) && ordOk (aheadOf cops) ios p q ord && ord.isPerm (List.range ios.length)

def ckCode (P : Program) (L : Link) (N : Nat) (vars : List Nat) (ic : ICode) (c : Code) : Bool :=
  match c with
  | .skip | .label _ => (match ic with | .skip => true | _ => false)
  | .region _ cops draw => (match ic with
    | .region ops keep draw' => draw == draw' && ckOpers P L N cops cops.toList ops && keep.all (vars.contains ·) && ops.all (fun o => match o.dst with | some d => keep.contains d || !vars.contains d | none => true) &&
        (!draw || (P.follows .mixedOrders && drawOk cops.toList ops))
    | .alt ord p q _ ops keep .skip _ => draw && ckOpers P L N cops cops.toList ops && keep.all (vars.contains ·) && ops.all (fun o => match o.dst with | some d => keep.contains d || !vars.contains d | none => true) &&
        (P.follows .mixedOrders && altOk ord p q cops.toList ops)
    | _ => false)
  | .seq a b => (match ic with
    | .seq a' b' => ckCode P L N vars a' a && ckCode P L N vars b' b
    | .alt ord p q _ ops keep rest _ => (match a with
      | .region _ cops true => ckOpers P L N cops cops.toList ops && keep.all (vars.contains ·) && ops.all (fun o => match o.dst with | some d => keep.contains d || !vars.contains d | none => true) &&
        (P.follows .mixedOrders && altOk ord p q cops.toList ops) && ckCode P L N vars rest b
      | _ => false)
    | _ => false)
  | .cond x a b => (match ic with | .cond x' a' b' => odOk L x x' && ckCode P L N vars a' a && ckCode P L N vars b' b | _ => false)
  | .block id b => (match ic with | .block id' b' => id == id' && ckCode P L N vars b' b | _ => false)
  | .loop b => (match ic with | .loop _ b' => ckCode P L N vars b' b | _ => false)
  | .rangeFunc f ps a b => (match ic with
    | .rangeFn f' ps' a' b' => odOk L f f' && ps.toList == ps' && ps'.all (fun p => decide (p < N) && vars.contains p) && ckCode P L N vars a' a && ckCode P L N vars b' b
    | _ => false)
  | .exit id => (match ic with | .exit id' => id == id' | _ => false)
  | .ret => (match ic with | .ret => true | _ => false)
  | .scope b => ckCode P L N vars ic b
  | .goto _ | .refuse _ => false

def CkR (P : Program) (L : Link) : CodeR := fun N vars ic c => ckCode P L N vars ic c = true

/- a frame at some place -/
def mkF (B : Frame) (tm : Array Value) (df : List Deferred) (todo : List Item) : Frame := { B with tmps := tm, defers := df, todo := todo, mode := .run }

section steps
variable {P : Program} {B : Frame} {tm : Array Value} {df : List Deferred} {k : List Item} {cs : List Frame} {w : World}

theorem mkF_eval (x : Operand) : (mkF B tm df k).eval x = (match x with | .tmp t => tm.getD t undef | .const v => v | .global g => .pointer (some ⟨g, 0, none⟩) | .func f => .func (.func f) #[] #[]) := by
  cases x <;> rfl

def rhoOf (tm : Array Value) : Operand → Value
  | .tmp t => tm.getD t undef
  | .const v => v
  | .global g => .pointer (some ⟨g, 0, none⟩)
  | .func f => .func (.func f) #[] #[]
theorem mkF_eval' : (mkF B tm df k).eval = rhoOf tm := by funext x; cases x <;> rfl

theorem s_skip : step P (lone (mkF B tm df (.code .skip :: k)) cs w) = .next (lone (mkF B tm df k) cs w) := step_lone_go (by simp [stepG, stepG.exec, mkF])
theorem s_label {l : Nat} : step P (lone (mkF B tm df (.code (.label l) :: k)) cs w) = .next (lone (mkF B tm df k) cs w) := step_lone_go (by simp [stepG, stepG.exec, mkF])
theorem s_inBlock {id : Nat} : step P (lone (mkF B tm df (.inBlock id :: k)) cs w) = .next (lone (mkF B tm df k) cs w) := step_lone_go (by simp [stepG, stepG.exec, mkF])
theorem s_inScope {b : Code} : step P (lone (mkF B tm df (.inScope b :: k)) cs w) = .next (lone (mkF B tm df k) cs w) := step_lone_go (by simp [stepG, stepG.exec, mkF])
theorem s_seq {x y : Code} : step P (lone (mkF B tm df (.code (.seq x y) :: k)) cs w) = .next (lone (mkF B tm df (.code x :: .code y :: k)) cs w) := step_lone_go (by simp [stepG, stepG.exec, mkF])
theorem s_cond {c : Operand} {x y : Code} {t : Bool} (h : rhoOf tm c = .bool t) :
    step P (lone (mkF B tm df (.code (.cond c x y) :: k)) cs w) = .next (lone (mkF B tm df (.code (if t then x else y) :: k)) cs w) :=
  step_lone_go (by
    have := congrFun (mkF_eval' (B := B) (tm := tm) (df := df) (k := .code (.cond c x y) :: k)) c
    simp only [mkF] at this
    simp [stepG, stepG.exec, mkF, this, h])
theorem s_block {id : Nat} {c : Code} : step P (lone (mkF B tm df (.code (.block id c) :: k)) cs w) = .next (lone (mkF B tm df (.code c :: .inBlock id :: k)) cs w) := step_lone_go (by simp [stepG, stepG.exec, mkF])
theorem s_loop {c : Code} : step P (lone (mkF B tm df (.code (.loop c) :: k)) cs w) = .next (lone (mkF B tm df (.code c :: .inLoop c :: k)) cs w) := step_lone_go (by simp [stepG, stepG.exec, mkF])
theorem s_inLoop {c : Code} : step P (lone (mkF B tm df (.inLoop c :: k)) cs w) = .next (lone (mkF B tm df (.code c :: .inLoop c :: k)) cs w) := step_lone_go (by simp [stepG, stepG.exec, mkF])
theorem s_scope {c : Code} : step P (lone (mkF B tm df (.code (.scope c) :: k)) cs w) = .next (lone (mkF B tm df (.code c :: .inScope c :: k)) cs w) := step_lone_go (by simp [stepG, stepG.exec, mkF])
theorem s_exit {id : Nat} {k' : List Item} (h : exitTo id k = some k') : step P (lone (mkF B tm df (.code (.exit id) :: k)) cs w) = .next (lone (mkF B tm df k') cs w) := step_lone_go (by simp [stepG, stepG.exec, mkF, h])
theorem s_region {id : Nat} {ops : Array Oper} : step P (lone (mkF B tm df (.code (.region id ops false) :: k)) cs w) = .next (lone (mkF B tm df (.inRegion ops (List.range ops.size) :: k)) cs w) :=
  step_lone_go (by simp [stepG, stepG.exec, mkF])
theorem s_region_draw {id : Nat} {ops : Array Oper} : step P (lone (mkF B tm df (.code (.region id ops true) :: k)) cs w) =
    .next (lone (mkF B tm df (.inRegion ops (Region.schedule (P.follows .mixedOrders) ops (w.tape w.drawn (.order B.fn id))) :: k)) cs { w with drawn := w.drawn + 1 }) :=
  step_lone_go (by simp [stepG, stepG.exec, mkF, choose, Sem.run, Question.forced, Question.cut])
theorem s_region_end {ops : Array Oper} : step P (lone (mkF B tm df (.inRegion ops [] :: k)) cs w) = .next (lone (mkF B tm df k) cs w) := step_lone_go (by simp [stepG, stepG.exec, mkF])

def putT (tm : Array Value) (d : Option Nat) (v : Value) : Array Value := match d with | some d => tm.setIfInBounds d v | none => tm

theorem finish_mkF {ops : Array Oper} {i : Nat} {rest : List Nat} {o : Oper} (ho : ops[i]? = some o) (v : Value) :
    (mkF B tm df (.inRegion ops (i :: rest) :: k)).finish v = mkF B (putT tm o.dst v) df (.inRegion ops rest :: k) := by
  simp only [Frame.finish, mkF, ho, Option.bind_some, putT]
  cases o.dst <;> rfl

theorem s_op_skip {ops : Array Oper} {i : Nat} {rest : List Nat} {o : Oper} (ho : ops[i]? = some o) (hw : Region.wanted o (yielded ops tm) = false) :
    step P (lone (mkF B tm df (.inRegion ops (i :: rest) :: k)) cs w) = .next (lone (mkF B (putT tm o.dst undef) df (.inRegion ops rest :: k)) cs w) := by
  rw [← finish_mkF ho]
  exact step_lone_go (by simp [stepG, stepG.exec, mkF, ho, hw])

theorem s_op {ops : Array Oper} {i : Nat} {rest : List Nat} {o : Oper} (ho : ops[i]? = some o) (hw : Region.wanted o (yielded ops tm) = true) (hd : B.roundOf = none ∨ ∀ c, o.op ≠ .defer c) :
    stepG P true { frame := mkF B tm df (.inRegion ops (i :: rest) :: k), callers := cs, status := .running, dying := none } w =
      stepG.apply P true (mkF B tm df (.inRegion ops (i :: rest) :: k)) cs none (execOp (rhoOf tm) o) w := by
  have he := mkF_eval' (B := B) (tm := tm) (df := df) (k := .inRegion ops (i :: rest) :: k)
  simp only [mkF] at he
  have hop : (mkF B tm df (.inRegion ops (i :: rest) :: k)).oper? = some o := by simp [Frame.oper?, mkF, ho]
  simp only [mkF] at hop
  simp only [stepG, stepG.exec, mkF, ho, Option.map_some, hw, Option.getD_some, if_true, stepG.oper, hop, he]
  rcases hd with hd | hd
  · rw [hd]
  · split
    · rename_i c h1 h2; exact absurd h2 (hd c)
    · rfl

theorem s_op_value {ops : Array Oper} {i : Nat} {rest : List Nat} {o : Oper} (ho : ops[i]? = some o) (hw : Region.wanted o (yielded ops tm) = true) (hd : B.roundOf = none ∨ ∀ c, o.op ≠ .defer c) {nx : Next} {v : Value} {w' : World}
    (hr : (execOp (rhoOf tm) o).run P w = .ok nx w') (hn : nx = .value v ∨ (nx = .skip ∧ v = undef)) :
    step P (lone (mkF B tm df (.inRegion ops (i :: rest) :: k)) cs w) = .next (lone (mkF B (putT tm o.dst v) df (.inRegion ops rest :: k)) cs w') := by
  rw [← finish_mkF ho]
  refine step_lone_go ?_
  rw [s_op ho hw hd]
  rcases hn with rfl | ⟨rfl, rfl⟩ <;> simp [stepG.apply, hr]

theorem s_op_enter {ops : Array Oper} {i : Nat} {rest : List Nat} {o : Oper} (ho : ops[i]? = some o) (hw : Region.wanted o (yielded ops tm) = true) (hd : B.roundOf = none ∨ ∀ c, o.op ≠ .defer c) {f : FuncId} {args : Array Value} {w' : World}
    (hr : (execOp (rhoOf tm) o).run P w = .ok (.enter f args) w') :
    step P (lone (mkF B tm df (.inRegion ops (i :: rest) :: k)) cs w) = .next (lone (Frame.enter P f args .normal) (mkF B tm df (.inRegion ops (i :: rest) :: k) :: cs) w') := by
  refine step_lone_go ?_
  rw [s_op ho hw hd]
  simp [stepG.apply, hr, mkF]

theorem s_op_round {ops : Array Oper} {i : Nat} {rest : List Nat} {o : Oper} (ho : ops[i]? = some o) (hw : Region.wanted o (yielded ops tm) = true) (hd : B.roundOf = none ∨ ∀ c, o.op ≠ .defer c) {l : Nat} {f : FuncId} {tms : Array Value} {a b : Code} {w' : World}
    (hr : (execOp (rhoOf tm) o).run P w = .ok (.round l f tms a b) w') :
    step P (lone (mkF B tm df (.inRegion ops (i :: rest) :: k)) cs w) = .next (lone (Frame.round l f tms a b .normal) (mkF B tm df (.inRegion ops (i :: rest) :: k) :: cs) w') := by
  refine step_lone_go ?_
  rw [s_op ho hw hd]
  simp [stepG.apply, hr]

theorem s_op_panic {ops : Array Oper} {i : Nat} {rest : List Nat} {o : Oper} (ho : ops[i]? = some o) (hw : Region.wanted o (yielded ops tm) = true) (hd : B.roundOf = none ∨ ∀ c, o.op ≠ .defer c) {v : Value} {w' : World}
    (hr : (execOp (rhoOf tm) o).run P w = .halt (.panic v) w') :
    step P (lone (mkF B tm df (.inRegion ops (i :: rest) :: k)) cs w) = .next (lone { mkF B tm df (.inRegion ops (i :: rest) :: k) with mode := .panicking [{ v, recovered := false }] } cs w') := by
  refine step_lone_go ?_
  rw [s_op ho hw hd]
  simp [stepG.apply, hr, mkF, Frame.raise]

theorem s_op_defer {ops : Array Oper} {i : Nat} {rest : List Nat} {o : Oper} (ho : ops[i]? = some o) (hw : Region.wanted o (yielded ops tm) = true) (hd : B.roundOf = none) {d : Deferred} {w' : World}
    (hr : (execOp (rhoOf tm) o).run P w = .ok (.defer d) w') :
    step P (lone (mkF B tm df (.inRegion ops (i :: rest) :: k)) cs w) = .next (lone (mkF B (putT tm o.dst undef) (d :: df) (.inRegion ops rest :: k)) cs w') := by
  rw [← finish_mkF ho]
  refine step_lone_go ?_
  rw [s_op ho hw (.inl hd)]
  simp only [stepG.apply, Sem.runT_eq, hr, if_true, GStep.bare_after, GStep.bare_go]
  rfl
end steps
end Ab

/- One operation of a region, and the operations of a region one after the other. Its condition: calls do what the abstract run says. -/
namespace Ab
open Go

/- the calls that a frame has put off; marks of loops lie at lo or behind it -/
inductive DRel (L : Lk) (g : Gh) (w : World) (lo : Nat) : List (AV × List AV) → List Deferred → Prop
  | nil : DRel L g w lo [] []
  | coll (d : Nat) (ds : List (AV × List AV)) (cs : List Deferred) (h : d ∈ g.dfr) (hlo : lo ≤ d) (hn : ∀ c ∈ cs, c.target ≠ .collected d) (r : DRel L g w lo ds cs) : DRel L g w lo ds ({ target := .collected d, args := #[] } :: cs)
  | call (tgt : AV) (args : List AV) (fv : Fn) (first cap : Array Value) (cargs : List Value) (ds : List (AV × List AV)) (cs : List Deferred) (h : Rep L g w tgt (.func fv first cap)) (ha : RepL L g w args cargs) (r : DRel L g w lo ds cs) :
      DRel L g w lo ((tgt, args) :: ds) ({ target := .fn fv cap, args := first ++ cargs.toArray } :: cs)

theorem DRel.mono' {L : Lk} {g g' : Gh} {w w' : World} {lo : Nat} (hg : GE g w g' w') {ds : List (AV × List AV)} {cs : List Deferred} (h : DRel L g w lo ds cs) : (∀ c ∈ cs, ∀ d, c.target = .collected d → d ∈ g.dfr → d ∈ g'.dfr) → DRel L g' w' lo ds cs := by
  induction h with
  | nil => intro _; exact .nil
  | coll d ds cs h hlo hn _ ih => intro hd; exact .coll d ds cs (hd _ (List.mem_cons_self ..) d rfl h) hlo hn (ih fun c hc => hd c (List.mem_cons_of_mem _ hc))
  | call tgt args fv first cap cargs ds cs h ha _ ih => intro hd; exact .call tgt args fv first cap cargs ds cs (Rep.mono hg _ _ h) (RepL.mono hg _ _ ha) (ih fun c hc => hd c (List.mem_cons_of_mem _ hc))

theorem DRel.mono {L : Lk} {g g' : Gh} {w w' : World} {lo : Nat} (hg : GE g w g' w') (hd : ∀ d, d ∈ g.dfr → d ∈ g'.dfr) {ds : List (AV × List AV)} {cs : List Deferred} (h : DRel L g w lo ds cs) : DRel L g' w' lo ds cs :=
  h.mono' hg fun _ _ d _ => hd d

theorem DRel.marks {L : Lk} {g : Gh} {w : World} {lo : Nat} {ds : List (AV × List AV)} {cs : List Deferred} (h : DRel L g w lo ds cs) : ∀ c ∈ cs, ∀ d, c.target = .collected d → d ∈ g.dfr := by
  induction h with
  | nil => intro c hc; cases hc
  | coll d ds cs h _ _ _ ih =>
    intro c hc d' hd
    rcases List.mem_cons.1 hc with rfl | hc
    · cases hd; exact h
    · exact ih c hc d' hd
  | call tgt args fv first cap cargs ds cs h ha _ ih =>
    intro c hc d' hd
    rcases List.mem_cons.1 hc with rfl | hc
    · cases hd
    · exact ih c hc d' hd

structure FrR (L : Lk) (N : Nat) (vars : List Nat) (lo : Nat) (g : Gh) (w : World) (f : Fr) (tm : Array Value) (df : List Deferred) : Prop where
  env : EnvR L g w f.env tm
  dom : EnvD vars f.env
  size : N ≤ tm.size
  dfr : DRel L g w lo f.defers df
  lo : lo ≤ w.heap.size

/- at no call of a value that the machine itself asked for -/
def NoCall : List Item → Prop
  | .call _ _ _ _ :: _ => False
  | _ => True

def csAt (recd : Bool) (cs : List Frame) : List Frame :=
  match recd, cs with
  | true, c :: r => { c with mode := (match c.mode with
    | .panicking ({ v, recovered := false, goexit := false } :: older) => .panicking ({ v, recovered := true } :: older)
    | m => m) } :: r
  | _, cs => cs

def RcvR (L : Lk) (g : Gh) (w : World) (f : Fr) (B : Frame) (cs0 : List Frame) : Prop :=
  f.rnd = B.roundOf.isSome ∧ (∀ l, B.roundOf = some l → l ∈ g.lps) ∧
  match f.rcv, f.recd with
  | none, false => f.rnd = true ∨ B.kind = .normal ∨ (B.kind = .deferred ∧ ∃ c r, cs0 = c :: r ∧ c.mode = .returning)
  | some v, false => B.kind = .deferred ∧ ∃ c r pv, cs0 = c :: r ∧ c.mode = .panicking [{ v := pv, recovered := false }] ∧ Rep L g w v pv
  | none, true => B.kind = .deferred ∧ ∃ c r pv, cs0 = c :: r ∧ c.mode = .panicking [{ v := pv, recovered := false }]
  | some _, true => False

theorem RcvR.mono {L : Lk} {g g' : Gh} {w w' : World} (hg : GE g w g' w') {f : Fr} {B : Frame} {cs0 : List Frame} (h : RcvR L g w f B cs0) : RcvR L g' w' f B cs0 := by
  obtain ⟨h1, h2, h3⟩ := h
  refine ⟨h1, fun l hl => hg.lps l (h2 l hl), ?_⟩
  cases hr : f.rcv <;> cases hd : f.recd <;> simp only [hr, hd] at h3 ⊢
  · exact h3
  · exact h3
  · obtain ⟨a, c, r, pv, h4, h5, h6⟩ := h3
    exact ⟨a, c, r, pv, h4, h5, Rep.mono hg _ _ h6⟩

def StartsBy (P : Program) (nx : Next) (F : CallKind → Frame) : Prop :=
  (∃ f a, nx = .enter f a ∧ F = fun k => Frame.enter P f a k) ∨ (∃ l f tm a b, nx = .round l f tm a b ∧ F = fun k => Frame.round l f tm a b k)

theorem _root_.Go.RowKit.Below.le {m n : Nat} {w w' : World} (h : RowKit.Below n w w') (hm : m ≤ n) : RowKit.Below m w w' := ⟨h.1, h.2, h.3, h.4, fun k hk => h.5 k (Nat.lt_of_lt_of_le hk hm)⟩
/- globals: what is known of package-level variables; the world at the start -/
structure GlR (L : Link) (E : IEnv) (g : Gh) (w : World) : Prop where
  glob : ∀ n, Rep L.toLk g w (E.glob n) (.pointer (some ⟨L.glOf n, 0, none⟩))
  plain : ∀ n, E.glob n = .junk ∨ (E.glob n).plain = true
  base : L.w0.heap.size ≤ g.base
  below : RowKit.Below L.w0.heap.size L.w0 w
theorem GlR.mono' {L : Link} {E : IEnv} {g g' : Gh} {w w' : World} (hg : GE g w g' w') (hb : g'.base = g.base) (hw : RowKit.Below g.base w w') (h : GlR L E g w) : GlR L E g' w' :=
  ⟨fun n => Rep.mono hg _ _ (h.glob n), h.plain, by rw [hb]; exact h.base, h.below.trans (hw.le h.base)⟩
theorem GlR.ext {L : Link} {E : IEnv} {g g' : Gh} {s s' : St} {w w' : World} (h : GlR L E g w) (x : Ext g s w g' s' w') : GlR L E g' w' :=
  h.mono' x.ge x.base ⟨x.os, x.tape, x.out, x.size, x.old⟩

structure Invoked (P : Program) (w : World) (ctgt : Value) (cargs : List Value) (F : CallKind → Frame) : Prop where
  out : ∃ fv first cap nx, ctgt = .func fv first cap ∧ (invoke (.fn fv cap) (first ++ cargs.toArray)).run P w = .ok nx w ∧ StartsBy P nx F

def CallSim (P : Program) (L : Link) (E : IEnv) (call : Caller) : Prop :=
  ∀ pn tgt args s r recd s', call pn tgt args s = some (r, recd, s') → ∀ g w ctgt cargs, StR L.toLk (CkR P L) g s w → GlR L E g w → Rep L.toLk g w tgt ctgt → RepL L.toLk g w args cargs →
    ∃ F, Invoked P w ctgt cargs F ∧
    (pn = none → ∀ c cs, ∃ g' w' cv, StR L.toLk (CkR P L) g' s' w' ∧ Ext g s w g' s' w' ∧ (match r with
      | .ret v => Rep L.toLk g' w' v cv ∧ Steps P (lone (F .normal) (c :: cs) w) (lone (c.finish cv) cs w')
      | .pan v => Rep L.toLk g' w' v cv ∧ Steps P (lone (F .normal) (c :: cs) w) (lone (c.raise [{ v := cv, recovered := false }]) cs w'))) ∧
    (ownFn E tgt = true → ∀ c cs, (match pn with | none => c.mode = .returning | some v => ∃ pv, c.mode = .panicking [{ v := pv, recovered := false }] ∧ Rep L.toLk g w v pv) →
      ∃ g' w', StR L.toLk (CkR P L) g' s' w' ∧ Ext g s w g' s' w' ∧ (match r with
      | .ret _ => Steps P (lone (F .deferred) (c :: cs) w) (lone { c with mode := if recd then .returning else c.mode } cs w')
      | .pan _ => True))

section
variable {P : Program} {L : Link} {E : IEnv} {call : Caller} {g : Gh} {s : St} {w : World}

theorem get_put (tm : Array Value) (d i : Nat) (v : Value) (h : d < tm.size) : (tm.setIfInBounds d v).getD i undef = if i = d then v else tm.getD i undef := by
  simp only [Array.getD_eq_getD_getElem?, Array.getElem?_setIfInBounds]
  by_cases hi : d = i
  · subst hi; simp [h]
  · simp [hi, Ne.symm hi]

theorem EnvR.push {L : Lk} {e : Env} {tm : Array Value} {N : Nat} {d : Nat} {v : AV} {cv : Value} (h : EnvR L g w e tm) (hs : N ≤ tm.size) (hd : d < N) (hv : Rep L g w v cv) : EnvR L g w ((d, v) :: e) (tm.setIfInBounds d cv) := by
  intro i
  rw [get_put _ _ _ _ (by omega)]
  simp only [Env.get]
  by_cases hi : i = d
  · rw [if_pos hi, if_pos hi]; exact hv
  · rw [if_neg hi, if_neg hi]; exact h i

theorem putT_size (tm : Array Value) (d : Option Nat) (v : Value) : (putT tm d v).size = tm.size := by cases d <;> simp [putT]

theorem evs_of {e : Env} {tm : Array Value} (h : EnvR L.toLk g w e tm) (hg : GlR L E g w) : Evs L g w (rhoOf tm) (Opd.ev E e) := by
  refine ⟨fun x y hxy => ?_⟩
  unfold odOk at hxy
  split at hxy
  · simp only [beq_iff_eq] at hxy; subst hxy; exact h _
  · exact vOk_rep hxy _ _
  · simp only [beq_iff_eq] at hxy; subst hxy
    simp only [Opd.ev, rhoOf, Rep]
    exact ⟨[], [], rfl, by simp [RepL], by simp [RepL]⟩
  · simp only [beq_iff_eq] at hxy; subst hxy; exact hg.glob _
  · cases hxy

theorem guard_sound {e : Env} {tm : Array Value} (h : EnvR L.toLk g w e tm) {cops : Array Oper} {o : Oper} {io : IOper} (hg : (match o.guard, io.guard with
    | none, none => true
    | some (j, a), some (q, b) => a == b && ((cops[j]?).bind (·.dst)) == some q
    | _, _ => false) = true) {b : Bool} (hb : guardA io.guard e = some b) : Region.wanted o (yielded cops tm) = b := by
  unfold guardA at hb
  unfold Region.wanted
  cases hog : o.guard with
  | none =>
    cases hig : io.guard with
    | none => simp only [hig, Option.some.injEq] at hb; subst hb; rfl
    | some p => simp [hog, hig] at hg
  | some p =>
    obtain ⟨j, a⟩ := p
    cases hig : io.guard with
    | none => simp [hog, hig] at hg
    | some q =>
      obtain ⟨q, a'⟩ := q
      simp only [hog, hig, Bool.and_eq_true, beq_iff_eq] at hg
      obtain ⟨rfl, hq⟩ := hg
      simp only [hig] at hb
      have hr := h q
      simp only [yielded, hq, Option.bind_some]
      split at hb
      · rename_i v hv
        rw [hv] at hr
        simp only [Rep] at hr
        have ht : tm[q]? = some (.bool v) := by
          rw [Array.getD_eq_getD_getElem?] at hr
          cases htq : tm[q]? with
          | none => rw [htq] at hr; simp [undef] at hr
          | some x => rw [htq] at hr; simp at hr; rw [hr]
        simp only [Option.some.injEq] at hb
        rw [ht]
        simp only
        rw [← hb]
        cases v <;> cases a <;> rfl
      · rename_i hv
        rw [hv] at hr
        simp only [Option.some.injEq] at hb
        subst hb
        simp only [Rep, RepL] at hr
        obtain ⟨vs, hr, rfl⟩ := hr
        cases htq : tm[q]? with
        | none => rfl
        | some x =>
          rw [Array.getD_eq_getD_getElem?, htq] at hr
          simp at hr
          subst hr
          rfl
      · cases hb
end
end Ab

/- One operation of a region; and the operations of a region one after the other, in any order that is given. Its condition: calls do what the abstract run says. -/
namespace Ab
open Go
section
variable {P : Program} {L : Link} {E : IEnv} {call : Caller} {g : Gh} {s : St} {w : World}

theorem putEnv {N : Nat} {e : Env} {tm : Array Value} {io : IOper} {v : AV} {cv : Value} (h : EnvR L.toLk g w e tm) (hs : N ≤ tm.size) (hd : (match io.dst with | some d => decide (d < N) | none => true) = true) (hv : Rep L.toLk g w v cv)
    {f : Fr} {p : Option AV} {f' : Fr} {e' : Env} {s' : St} (hf : finO io v f e s = some (p, f', e', s')) : p = none ∧ f' = f ∧ s' = s ∧ EnvR L.toLk g w e' (putT tm io.dst cv) := by
  unfold finO at hf
  cases hdst : io.dst with
  | none =>
    simp only [hdst, Option.some.injEq, Prod.mk.injEq] at hf
    obtain ⟨rfl, rfl, rfl, rfl⟩ := hf
    exact ⟨rfl, rfl, rfl, h⟩
  | some d =>
    simp only [hdst, Option.some.injEq, Prod.mk.injEq] at hf
    obtain ⟨rfl, rfl, rfl, rfl⟩ := hf
    rw [hdst] at hd
    simp only [decide_eq_true_eq] at hd
    exact ⟨rfl, rfl, rfl, h.push hs hd hv⟩

/- where a step of a region comes to -/
def Came (P : Program) (L : Link) (M : Machine) (B : Frame) (tm : Array Value) (df : List Deferred) (todo : List Item) (cs : List Frame) (g : Gh) (w : World) : Option AV → Prop
  | none => Steps P M (lone (mkF B tm df todo) cs w)
  | some v => ∃ cv td, Rep L.toLk g w v cv ∧ NoCall td ∧ Steps P M (lone { mkF B tm df td with mode := .panicking [{ v := cv, recovered := false }] } cs w)

theorem run_call_op {tm : Array Value} {o : Oper} {q : Operand} {args : Array Operand} {ts : Array TypeId} (ho : o.op = .call { callee := .value q, args, argTypes := ts }) {fv : Fn} {first cap : Array Value} (hq : rhoOf tm q = .func fv first cap) :
    (execOp (rhoOf tm) o).run P w = (invoke (.fn fv cap) (first ++ (args.toList.map (rhoOf tm)).toArray)).run P w := by
  have e1 : args.map (rhoOf tm) = (args.toList.map (rhoOf tm)).toArray := by apply Array.ext'; simp
  simp only [execOp, ho, resolve, hq, Deferred.ofValue, Sem.run_bind, Sem.run_pure, Result.andThen_ok, e1]

theorem goA_guard {E : IEnv} {o : IOper} {e : Env} {b : Bool} (h : goA E o e = some b) : guardA o.guard e = some b := by
  unfold goA at h
  split at h
  · rename_i hg
    split at h
    · cases h; exact hg
    · cases h
  · exact h

theorem step_sound (hinj : ∀ a b, L.tyOf a = L.tyOf b → a = b) (hcall : CallSim P L E call) {draw : Bool} {io : IOper} {o : Oper} {cops : Array Oper} {N : Nat} (hck : ckOper P L N cops o io = true) {f f' : Fr} {e e' : Env} {s' : St} {p : Option AV}
    (h : stepA E call draw io f e s = some (p, f', e', s')) (hs : StR L.toLk (CkR P L) g s w) (hgl : GlR L E g w) {lo : Nat} {tm : Array Value} {df : List Deferred} (he : EnvR L.toLk g w e tm) (hN : N ≤ tm.size) (hdf : DRel L.toLk g w lo f.defers df)
    {B : Frame} {cs0 : List Frame} (hrc : RcvR L.toLk g w f B cs0) {i : Nat} (hi : cops[i]? = some o) (rest : List Nat) (k : List Item) :
    ∃ g' w' tm' df', StR L.toLk (CkR P L) g' s' w' ∧ Ext g s w g' s' w' ∧ EnvR L.toLk g' w' e' tm' ∧ N ≤ tm'.size ∧ DRel L.toLk g' w' lo f'.defers df' ∧ RcvR L.toLk g' w' f' B cs0 ∧ f'.rnd = f.rnd ∧ f'.env = f.env ∧
      Came P L (lone (mkF B tm df (.inRegion cops (i :: rest) :: k)) (csAt f.recd cs0) w) B tm' df' (.inRegion cops rest :: k) (csAt f'.recd cs0) g' w' p := by
  unfold ckOper at hck
  simp only [Bool.and_eq_true, beq_iff_eq] at hck
  obtain ⟨⟨⟨hdst, hd⟩, hgd⟩, hop⟩ := hck
  unfold stepA at h
  have hev := evs_of (E := E) he hgl
  -- a value that goes into the frame, nothing else changed
  split at h
  · cases h
  · rename_i hg
    have hw := guard_sound he hgd (goA_guard hg)
    obtain ⟨rfl, rfl, rfl, h4⟩ := putEnv he hN hd (undef_rep L.toLk g w) h
    refine ⟨g, w, putT tm io.dst undef, df, hs, .refl _ _ _, h4, by rw [putT_size]; exact hN, hdf, hrc, rfl, rfl, ?_⟩
    simp only [Came]
    rw [← hdst]
    exact .one (s_op_skip hi hw)
  · rename_i hg
    have hw := guard_sound he hgd (goA_guard hg)
    have plain : ∀ (v : AV) (s2 : St), opA (Opd.ev E e) s io.op = some (v, s2) → opOk P L o.op io.op = true → (∀ c, o.op ≠ .defer c) → finO io v f e s2 = some (p, f', e', s') → ∃ g' w' tm' df', StR L.toLk (CkR P L) g' s' w' ∧ Ext g s w g' s' w' ∧ EnvR L.toLk g' w' e' tm' ∧ N ≤ tm'.size ∧ DRel L.toLk g' w' lo f'.defers df' ∧ RcvR L.toLk g' w' f' B cs0 ∧ f'.rnd = f.rnd ∧ f'.env = f.env ∧
        Came P L (lone (mkF B tm df (.inRegion cops (i :: rest) :: k)) (csAt f.recd cs0) w) B tm' df' (.inRegion cops rest :: k) (csAt f'.recd cs0) g' w' p := by
      intro v s2 hv hok hnd hfin
      obtain ⟨g', w', nx, cv, h1, h2, h3, h4, h5⟩ := op_sound (C := CkR P L) hinj hs hev hok hv
      obtain ⟨rfl, rfl, rfl, h6⟩ := putEnv (he.mono h5.ge) hN hd h3 hfin
      refine ⟨g', w', putT tm io.dst cv, df, h4, h5, h6, by rw [putT_size]; exact hN, hdf.mono h5.ge h5.dfr, hrc.mono h5.ge, rfl, rfl, ?_⟩
      simp only [Came]
      rw [← hdst]
      exact .one (s_op_value hi hw (.inr hnd) h1 h2)
    unfold runO at h
    split at h
    · -- a call
      rename_i q args hio
      rw [hio] at hop
      cases hoo : o.op with
      | call c =>
        obtain ⟨callee, cargs, ts⟩ := c
        cases callee with
        | value cf =>
          rw [hoo] at hop
          simp only [Bool.and_eq_true] at hop
          obtain ⟨hq, hargs⟩ := hop
          split at h
          · cases h
          · split at h
            · cases h
            have hrq := hev.rep _ _ hq
            have hra := hev.reps hargs
            split at h
            · rename_i v rd s2 hc
              obtain ⟨F, ⟨fv, first, cap, nx, hfun, hinv, hst⟩, hn, _⟩ := hcall _ _ _ _ _ _ _ hc g w _ _ hs hgl hrq hra
              obtain ⟨g', w', cv, h1, h2, h3, h4⟩ := hn rfl (mkF B tm df (.inRegion cops (i :: rest) :: k)) (csAt f.recd cs0)
              split at h
              · obtain ⟨rfl, rfl, rfl, h6⟩ := putEnv (he.mono h2.ge) hN hd h3 h
                refine ⟨g', w', putT tm io.dst cv, df, h1, h2, h6, by rw [putT_size]; exact hN, hdf.mono h2.ge h2.dfr, hrc.mono h2.ge, rfl, rfl, ?_⟩
                simp only [Came]
                rw [finish_mkF hi, hdst] at h4
                refine .head ?_ h4
                have hrun := run_call_op (P := P) (w := w) hoo hfun
                rw [hinv] at hrun
                rcases hst with ⟨cf', a', rfl, rfl⟩ | ⟨l, cf', tms, a, b, rfl, rfl⟩
                · exact s_op_enter hi hw (.inr fun c hc => by rw [hoo] at hc; cases hc) hrun
                · exact s_op_round hi hw (.inr fun c hc => by rw [hoo] at hc; cases hc) hrun
              · cases h
            · rename_i v rd s2 hc
              split at h
              · cases h
              · simp only [Option.some.injEq, Prod.mk.injEq] at h
                obtain ⟨rfl, rfl, rfl, rfl⟩ := h
                obtain ⟨F, ⟨fv, first, cap, nx, hfun, hinv, hst⟩, hn, _⟩ := hcall _ _ _ _ _ _ _ hc g w _ _ hs hgl hrq hra
                obtain ⟨g', w', cv, h1, h2, h3, h4⟩ := hn rfl (mkF B tm df (.inRegion cops (i :: rest) :: k)) (csAt f.recd cs0)
                refine ⟨g', w', tm, df, h1, h2, he.mono h2.ge, hN, hdf.mono h2.ge h2.dfr, hrc.mono h2.ge, rfl, rfl, ?_⟩
                simp only [Came]
                refine ⟨cv, (.inRegion cops (i :: rest) :: k), h3, trivial, .head ?_ h4⟩
                have hrun := run_call_op (P := P) (w := w) hoo hfun
                rw [hinv] at hrun
                rcases hst with ⟨cf', a', rfl, rfl⟩ | ⟨l, cf', tms, a, b, rfl, rfl⟩
                · exact s_op_enter hi hw (.inr fun c hc => by rw [hoo] at hc; cases hc) hrun
                · exact s_op_round hi hw (.inr fun c hc => by rw [hoo] at hc; cases hc) hrun
            · cases h
        | invoke r m => rw [hoo] at hop; simp only at hop; simp [opOk] at hop
        | builtin b => rw [hoo] at hop; cases b <;> simp [opOk, bltOk] at hop
      | _ => rw [hoo] at hop; simp [opOk] at hop
    · -- a deferred call
      rename_i q args hio
      rw [hio] at hop
      split at h
      · cases h
      · rename_i hcond
        simp only [Bool.or_eq_true, not_or, Bool.not_eq_true] at hcond
        have hround : B.roundOf = none := by
          have := hrc.1
          rw [hcond.1] at this
          cases hb : B.roundOf with
          | none => rfl
          | some l => rw [hb] at this; cases this
        cases hoo : o.op with
        | defer c =>
          obtain ⟨callee, cargs, ts⟩ := c
          cases callee with
          | value cf =>
            rw [hoo] at hop
            simp only [Bool.and_eq_true] at hop
            obtain ⟨hq, hargs⟩ := hop
            have hrq := hev.rep _ _ hq
            have hra := hev.reps hargs
            split at h
            · rename_i qf qa qc hqv
              rw [hqv] at hrq
              have hrq' := hrq
              simp only [Rep] at hrq
              obtain ⟨fs, cps, hfun, _, _⟩ := hrq
              have e1 : cargs.map (rhoOf tm) = (cargs.toList.map (rhoOf tm)).toArray := by apply Array.ext'; simp
              have hrun : (execOp (rhoOf tm) o).run P w = .ok (.defer { target := .fn (.func (L.fnOf qf)) cps.toArray, args := fs.toArray ++ (cargs.toList.map (rhoOf tm)).toArray }) w := by
                simp only [execOp, hoo, resolve, hfun, Deferred.ofValue, Sem.run_bind, Sem.run_pure, Result.andThen_ok, e1]
              obtain ⟨rfl, h7, rfl, h6⟩ := putEnv he hN hd (undef_rep L.toLk g w) h
              subst h7
              refine ⟨g, w, putT tm io.dst undef, _, hs, .refl _ _ _, h6, by rw [putT_size]; exact hN, .call (.fn qf qa qc) _ _ _ _ _ _ _ (by rw [hfun] at hrq'; exact hrq') hra hdf, hrc, rfl, rfl, ?_⟩
              simp only [Came]
              rw [← hdst]
              exact .one (s_op_defer hi hw hround hrun)
            · cases h
          | invoke r m => rw [hoo] at hop; simp [opOk] at hop
          | builtin b => rw [hoo] at hop; simp [opOk] at hop
        | call c =>
          obtain ⟨callee, cargs, ts⟩ := c
          cases callee with
          | builtin b => rw [hoo] at hop; cases b <;> simp [opOk, bltOk] at hop
          | value cf => rw [hoo] at hop; simp [opOk] at hop
          | invoke r m => rw [hoo] at hop; simp [opOk] at hop
        | _ => rw [hoo] at hop; simp [opOk] at hop
    · -- a panic
      rename_i x hio
      rw [hio] at hop
      split at h
      · cases h
      · cases hoo : o.op with
        | panic y =>
          rw [hoo] at hop
          simp only at hop
          have hrx := hev.rep _ _ hop
          split at h
          · rename_i t v hv
            simp only [Option.some.injEq, Prod.mk.injEq] at h
            obtain ⟨rfl, rfl, rfl, rfl⟩ := h
            rw [hv] at hrx
            have hrx' := hrx
            simp only [Rep] at hrx
            obtain ⟨u, hρ, _⟩ := hrx
            refine ⟨g, w, tm, df, hs, .refl _ _ _, he, hN, hdf, hrc, rfl, rfl, ?_⟩
            simp only [Came]
            refine ⟨rhoOf tm y, (.inRegion cops (i :: rest) :: k), hrx', trivial, .one ?_⟩
            refine s_op_panic hi hw (.inr fun c hc => by rw [hoo] at hc; cases hc) ?_
            simp only [execOp, hoo, hρ, Instr.panic, Sem.run_bind, run_goPanic, Result.andThen_halt]
          · cases h
        | call c =>
          obtain ⟨callee, cargs, ts⟩ := c
          cases callee with
          | builtin b => rw [hoo] at hop; cases b <;> simp [opOk, bltOk] at hop
          | value cf => rw [hoo] at hop; simp [opOk] at hop
          | invoke r m => rw [hoo] at hop; simp [opOk] at hop
        | _ => rw [hoo] at hop; simp [opOk] at hop
    · -- recover
      rename_i hio
      rw [hio] at hop
      split at h
      · cases h
      · rename_i hcond
        simp only [Bool.or_eq_true, not_or, Bool.not_eq_true] at hcond
        have hround : B.roundOf = none := by
          have := hrc.1
          rw [hcond.1] at this
          cases hb : B.roundOf with
          | none => rfl
          | some l => rw [hb] at this; cases this
        cases hoo : o.op with
        | call c =>
          obtain ⟨callee, cargs, ts⟩ := c
          cases callee with
          | builtin b =>
            cases b <;> rw [hoo] at hop <;> first | (simp [opOk, bltOk] at hop; done) | skip
            have hrun : (execOp (rhoOf tm) o).run P w = .ok .recover w := by
              simp only [execOp, hoo, resolve, Sem.run_bind, Sem.run_pure, Result.andThen_ok, invoke, builtin]
            have hstep : ∀ {v : Value} {cs cs' : List Frame}, (match tryRecover (mkF B tm df (.inRegion cops (i :: rest) :: k)) cs with | some (x, q) => x = v ∧ q = cs' | none => v = .nilIface ∧ cs = cs') →
                step P (lone (mkF B tm df (.inRegion cops (i :: rest) :: k)) cs w) = .next (lone (mkF B (putT tm o.dst v) df (.inRegion cops rest :: k)) cs' w) := by
              intro v cs cs' hm
              rw [← finish_mkF hi]
              refine step_lone_go ?_
              rw [s_op hi hw (.inl hround)]
              have hro : (mkF B tm df (.inRegion cops (i :: rest) :: k)).roundOf = none := hround
              simp only [stepG.apply, Sem.runT_eq, hrun, if_true, GStep.bare_after, hro]
              cases ht : tryRecover (mkF B tm df (.inRegion cops (i :: rest) :: k)) cs with
              | none => rw [ht] at hm; obtain ⟨rfl, rfl⟩ := hm; rfl
              | some q => obtain ⟨x, q⟩ := q; rw [ht] at hm; obtain ⟨rfl, rfl⟩ := hm; rfl
            obtain ⟨hr1, hr2, hr3⟩ := hrc
            split at h
            · rename_i v hv
              cases hrd : f.recd with
              | true => rw [hv, hrd] at hr3; exact hr3.elim
              | false =>
                rw [hv, hrd] at hr3
                obtain ⟨hk, c, r, pv, rfl, hcm, hrv⟩ := hr3
                obtain ⟨rfl, h7, rfl, h6⟩ := putEnv he hN hd hrv h
                subst h7
                refine ⟨g, w, putT tm io.dst pv, df, hs, .refl _ _ _, h6, by rw [putT_size]; exact hN, hdf, ⟨hr1, hr2, hk, c, r, pv, rfl, hcm⟩, rfl, rfl, ?_⟩
                simp only [Came]
                rw [← hdst]
                refine .one (hstep ?_)
                have hk' : (mkF B tm df (.inRegion cops (i :: rest) :: k)).kind = .deferred := hk
                simp only [csAt, tryRecover, hk', hcm]
                exact ⟨trivial, trivial⟩
            · rename_i hv
              obtain ⟨rfl, rfl, rfl, h6⟩ := putEnv (cv := .nilIface) (v := .nilif) he hN hd (by simp [Rep]) h
              refine ⟨g, w, putT tm io.dst .nilIface, df, hs, .refl _ _ _, h6, by rw [putT_size]; exact hN, hdf, ⟨hr1, hr2, hr3⟩, rfl, rfl, ?_⟩
              simp only [Came]
              rw [← hdst]
              refine .one (hstep ?_)
              have hnone : tryRecover (mkF B tm df (.inRegion cops (i :: rest) :: k)) (csAt f'.recd cs0) = none := by
                cases hrd : f'.recd with
                | false =>
                  rw [hv, hrd] at hr3
                  rcases hr3 with h8 | h8 | ⟨h8, c, r, rfl, h9⟩
                  · rw [hcond.1] at h8; cases h8
                  · have h8' : (mkF B tm df (.inRegion cops (i :: rest) :: k)).kind = .normal := h8
                    simp [tryRecover, h8']
                  · have h8' : (mkF B tm df (.inRegion cops (i :: rest) :: k)).kind = .deferred := h8
                    simp [tryRecover, h8', csAt, h9]
                | true =>
                  rw [hv, hrd] at hr3
                  obtain ⟨h8, c, r, pv, rfl, h9⟩ := hr3
                  have h8' : (mkF B tm df (.inRegion cops (i :: rest) :: k)).kind = .deferred := h8
                  simp [tryRecover, h8', csAt, h9]
              rw [hnone]
              exact ⟨rfl, rfl⟩
          | value cf => rw [hoo] at hop; simp [opOk] at hop
          | invoke r m => rw [hoo] at hop; simp [opOk] at hop
        | _ => rw [hoo] at hop; simp [opOk] at hop
    · -- the others
      rename_i hn1 hn2 hn3 hn4
      split at h
      · rename_i v s2 hv
        have hv := keepSt_some hv
        have hok : opOk P L o.op io.op = true := by
          split at hop
          · exact absurd ‹_› (hn1 _ _)
          · exact absurd ‹_› hn4
          · exact absurd ‹_› (hn2 _ _)
          · exact absurd ‹_› (hn3 _)
          · exact hop
        refine plain v s2 hv hok (fun c hc => ?_) h
        rw [hc] at hok
        cases hio : io.op <;> rw [hio] at hok <;> simp [opOk, stuckOp] at hok
      · cases h
end
end Ab

/- Environments; the operations of a region in a given order. Its condition: calls do what the abstract run says. -/
namespace Ab
open Go

theorem Env.get_put (e : Env) (i j : Nat) (v : AV) : (e.put i v).get j = if j = i then v else e.get j := by
  induction e with
  | nil => simp [Env.put, Env.get]
  | cons p r ih =>
    obtain ⟨k, u⟩ := p
    simp only [Env.put]
    by_cases h1 : i = k
    · subst h1
      rw [if_pos rfl]
      simp only [Env.get]
      by_cases h2 : j = i
      · rw [if_pos h2, if_pos h2]
      · rw [if_neg h2, if_neg h2, if_neg h2]
    · rw [if_neg h1]
      by_cases h3 : i < k
      · rw [if_pos h3]; simp only [Env.get]
      · rw [if_neg h3]
        simp only [Env.get, ih]
        by_cases h2 : j = k
        · rw [if_pos h2, if_pos h2, if_neg (by omega)]
        · rw [if_neg h2, if_neg h2]

theorem Env.get_kill (e : Env) (ks : List Nat) (j : Nat) : (e.kill ks).get j = if ks.contains j then .junk else e.get j := by
  induction e with
  | nil => simp [Env.kill, Env.get]
  | cons p r ih =>
    obtain ⟨k, u⟩ := p
    simp only [Env.kill]
    by_cases h1 : ks.contains k = true
    · rw [if_pos h1, ih]
      by_cases h2 : j = k
      · subst h2; rw [if_pos h1, if_pos h1]
      · simp only [Env.get, if_neg h2]
    · rw [if_neg h1]
      simp only [Env.get, ih]
      by_cases h2 : j = k
      · subst h2; rw [if_pos rfl, if_pos rfl, if_neg h1]
      · rw [if_neg h2, if_neg h2]

theorem keepA_get (loc : Env) (j : Nat) : ∀ (ks : List Nat) (e : Env), (keepA loc ks e).get j = if ks.contains j then loc.get j else e.get j
  | [], e => by simp [keepA]
  | k :: r, e => by
    simp only [keepA, keepA_get loc j r, Env.get_put]
    by_cases h1 : r.contains j = true
    · have : (k :: r).contains j = true := by simp at h1 ⊢; exact .inr h1
      rw [if_pos h1, if_pos this]
    · rw [if_neg h1]
      by_cases h2 : j = k
      · subst h2
        have : (j :: r).contains j = true := by simp
        rw [if_pos rfl, if_pos this]
      · have : ¬ (k :: r).contains j = true := by simp at h1 ⊢; exact ⟨h2, h1⟩
        rw [if_neg h2, if_neg this]

theorem EnvD.put {vars : List Nat} {e : Env} (h : EnvD vars e) {i : Nat} (hi : vars.contains i = true) (v : AV) : EnvD vars (e.put i v) := by
  induction e with
  | nil => intro p hp; simp [Env.put] at hp; subst hp; exact hi
  | cons q r ih =>
    obtain ⟨k, u⟩ := q
    have hr : EnvD vars r := fun p hp => h p (List.mem_cons_of_mem _ hp)
    simp only [Env.put]
    split
    · intro p hp
      rcases List.mem_cons.1 hp with rfl | hp
      · exact hi
      · exact hr p hp
    · split
      · intro p hp
        rcases List.mem_cons.1 hp with rfl | hp
        · exact hi
        · exact h p hp
      · intro p hp
        rcases List.mem_cons.1 hp with rfl | hp
        · exact h _ (List.mem_cons_self ..)
        · exact ih hr p hp

theorem EnvD.kill {vars : List Nat} {e : Env} (h : EnvD vars e) (ks : List Nat) : EnvD vars (e.kill ks) := by
  induction e with
  | nil => simpa [Env.kill] using h
  | cons q r ih =>
    obtain ⟨k, u⟩ := q
    have hr : EnvD vars r := fun p hp => h p (List.mem_cons_of_mem _ hp)
    simp only [Env.kill]
    split
    · exact ih hr
    · intro p hp
      rcases List.mem_cons.1 hp with rfl | hp
      · exact h _ (List.mem_cons_self ..)
      · exact ih hr p hp

theorem EnvD.keep {vars : List Nat} {loc : Env} : ∀ {ks : List Nat} {e : Env}, EnvD vars e → ks.all (vars.contains ·) = true → EnvD vars (keepA loc ks e)
  | [], _, h, _ => h
  | k :: r, e, h, hk => by
    simp only [List.all_cons, Bool.and_eq_true] at hk
    show EnvD vars (keepA loc r (e.put k (loc.get k)))
    exact EnvD.keep (h.put hk.1 _) hk.2

theorem EnvD.get_junk {vars : List Nat} {e : Env} (h : EnvD vars e) {i : Nat} (hi : vars.contains i = false) : e.get i = .junk := by
  induction e with
  | nil => rfl
  | cons q r ih =>
    obtain ⟨k, u⟩ := q
    simp only [Env.get]
    have hk := h (k, u) (List.mem_cons_self ..)
    rw [if_neg (by rintro rfl; rw [hi] at hk; cases hk)]
    exact ih fun p hp => h p (List.mem_cons_of_mem _ hp)

theorem EnvR.kill {L : Lk} {g : Gh} {w : World} {e : Env} {tm : Array Value} (h : EnvR L g w e tm) (ks : List Nat) : EnvR L g w (e.kill ks) tm := by
  intro i
  rw [Env.get_kill]
  split
  · simp [Rep]
  · exact h i

/- slots that no operation sets -/
theorem finO_get {o : IOper} {v : AV} {f : Fr} {e : Env} {s : St} {p : Option AV} {f' : Fr} {e' : Env} {s' : St} (h : finO o v f e s = some (p, f', e', s')) {i : Nat} (hi : o.dst ≠ some i) : e'.get i = e.get i := by
  unfold finO at h
  split at h
  · rename_i d hd
    simp only [Option.some.injEq, Prod.mk.injEq] at h
    obtain ⟨_, _, rfl, _⟩ := h
    simp only [Env.get]
    rw [if_neg]
    rintro rfl; exact hi hd
  · simp only [Option.some.injEq, Prod.mk.injEq] at h
    obtain ⟨_, _, rfl, _⟩ := h
    rfl

theorem stepA_get {E : IEnv} {call : Caller} {draw : Bool} {o : IOper} {f : Fr} {e : Env} {s : St} {p : Option AV} {f' : Fr} {e' : Env} {s' : St} (h : stepA E call draw o f e s = some (p, f', e', s')) {i : Nat} (hi : o.dst ≠ some i) : e'.get i = e.get i := by
  unfold stepA at h
  split at h
  · cases h
  · exact finO_get h hi
  · unfold runO at h
    split at h
    · split at h
      · cases h
      · split at h
        · cases h
        split at h
        · split at h
          · exact finO_get h hi
          · cases h
        · split at h
          · cases h
          · simp only [Option.some.injEq, Prod.mk.injEq] at h
            obtain ⟨_, _, rfl, _⟩ := h; rfl
        · cases h
    · split at h
      · cases h
      · split at h
        · exact finO_get h hi
        · cases h
    · split at h
      · cases h
      · split at h
        · simp only [Option.some.injEq, Prod.mk.injEq] at h
          obtain ⟨_, _, rfl, _⟩ := h; rfl
        · cases h
    · split at h
      · cases h
      · split at h
        · exact finO_get h hi
        · exact finO_get h hi
    · split at h
      · exact finO_get h hi
      · cases h

theorem opsA_get {E : IEnv} {call : Caller} {draw : Bool} : ∀ {os : List IOper} {f : Fr} {e : Env} {s : St} {p : Option AV} {f' : Fr} {e' : Env} {s' : St} (_ : opsA E call draw os f e s = some (p, f', e', s')) {i : Nat} (_ : ∀ o ∈ os, o.dst ≠ some i), e'.get i = e.get i
  | [], f, e, s, p, f', e', s', h, i, hi => by
    simp only [opsA, Option.some.injEq, Prod.mk.injEq] at h
    obtain ⟨_, _, rfl, _⟩ := h; rfl
  | o :: r, f, e, s, p, f', e', s', h, i, hi => by
    simp only [opsA] at h
    split at h
    · rename_i f1 e1 s1 h1
      exact (opsA_get h fun o ho => hi o (List.mem_cons_of_mem _ ho)).trans (stepA_get h1 (hi o (List.mem_cons_self ..)))
    · exact stepA_get h (hi o (List.mem_cons_self ..))

def Paired (P : Program) (L : Link) (N : Nat) (cops : Array Oper) : List Nat → List IOper → Prop
  | [], [] => True
  | i :: is, io :: os => (∃ o, cops[i]? = some o ∧ ckOper P L N cops o io = true) ∧ Paired P L N cops is os
  | _, _ => False

section
variable {P : Program} {L : Link} {E : IEnv} {call : Caller}

theorem Came.head {M M' : Machine} {B : Frame} {tm : Array Value} {df : List Deferred} {todo : List Item} {cs : List Frame} {g : Gh} {w : World} {p : Option AV} (h : Steps P M M') (h' : Came P L M' B tm df todo cs g w p) : Came P L M B tm df todo cs g w p := by
  cases p with
  | none => exact h.trans h'
  | some v => obtain ⟨cv, td, h1, h0, h2⟩ := h'; exact ⟨cv, td, h1, h0, h.trans h2⟩

theorem ops_sound (hinj : ∀ a b, L.tyOf a = L.tyOf b → a = b) (hcall : CallSim P L E call) {draw : Bool} {cops : Array Oper} {N : Nat} {lo : Nat} : ∀ {is : List Nat} {os : List IOper} (_ : Paired P L N cops is os) {f f' : Fr} {e e' : Env} {s s' : St} {p : Option AV}
    (_ : opsA E call draw os f e s = some (p, f', e', s')) {g : Gh} {w : World} (_ : StR L.toLk (CkR P L) g s w) (_ : GlR L E g w) {tm : Array Value} {df : List Deferred} (_ : EnvR L.toLk g w e tm) (_ : N ≤ tm.size) (_ : DRel L.toLk g w lo f.defers df)
    {B : Frame} {cs0 : List Frame} (_ : RcvR L.toLk g w f B cs0) (k : List Item),
    ∃ g' w' tm' df', StR L.toLk (CkR P L) g' s' w' ∧ Ext g s w g' s' w' ∧ EnvR L.toLk g' w' e' tm' ∧ N ≤ tm'.size ∧ DRel L.toLk g' w' lo f'.defers df' ∧ RcvR L.toLk g' w' f' B cs0 ∧ f'.rnd = f.rnd ∧ f'.env = f.env ∧
      Came P L (lone (mkF B tm df (.inRegion cops is :: k)) (csAt f.recd cs0) w) B tm' df' k (csAt f'.recd cs0) g' w' p
  | [], [], _, f, f', e, e', s, s', p, h, g, w, hs, hgl, tm, df, he, hN, hdf, B, cs0, hrc, k => by
    simp only [opsA, Option.some.injEq, Prod.mk.injEq] at h
    obtain ⟨rfl, rfl, rfl, rfl⟩ := h
    exact ⟨g, w, tm, df, hs, .refl _ _ _, he, hN, hdf, hrc, rfl, rfl, .one s_region_end⟩
  | [], _ :: _, hp, _, _, _, _, _, _, _, _, _, _, _, _, _, _, _, _, _, _, _, _, _ => hp.elim
  | _ :: _, [], hp, _, _, _, _, _, _, _, _, _, _, _, _, _, _, _, _, _, _, _, _, _ => hp.elim
  | i :: is, io :: os, hp, f, f', e, e', s, s', p, h, g, w, hs, hgl, tm, df, he, hN, hdf, B, cs0, hrc, k => by
    obtain ⟨⟨o, hi, hck⟩, hp'⟩ := hp
    simp only [opsA] at h
    split at h
    · rename_i f1 e1 s1 h1
      obtain ⟨g1, w1, tm1, df1, a1, a2, a3, a4, a5, a6, a7, a8, a9⟩ := step_sound hinj hcall hck h1 hs hgl he hN hdf hrc hi is k
      obtain ⟨g2, w2, tm2, df2, b1, b2, b3, b4, b5, b6, b7, b8, b9⟩ := ops_sound hinj hcall hp' h a1 (hgl.ext a2) a3 a4 a5 a6 k
      exact ⟨g2, w2, tm2, df2, b1, a2.trans b2, b3, b4, b5, b6, b7.trans a7, b8.trans a8, Came.head a9 b9⟩
    · rename_i hne
      cases p with
      | none => exact absurd h (hne _ _ _)
      | some v =>
        obtain ⟨g1, w1, tm1, df1, a1, a2, a3, a4, a5, a6, a7, a8, a9⟩ := step_sound hinj hcall hck h hs hgl he hN hdf hrc hi is k
        refine ⟨g1, w1, tm1, df1, a1, a2, a3, a4, a5, a6, a7, a8, ?_⟩
        obtain ⟨cv, td, h1, h0, h2⟩ := a9
        exact ⟨cv, td, h1, h0, h2⟩

theorem paired_of_ck {N : Nat} {cops : Array Oper} : ∀ {os : List Oper} {ios : List IOper} (n : Nat), ckOpers P L N cops os ios = true → os = cops.toList.drop n → Paired P L N cops (List.range' n os.length) ios
  | [], [], _, _, _ => trivial
  | [], _ :: _, _, h, _ => by simp [ckOpers] at h
  | _ :: _, [], _, h, _ => by simp [ckOpers] at h
  | o :: os, io :: ios, n, h, hd => by
    simp only [ckOpers, Bool.and_eq_true] at h
    simp only [List.length_cons, List.range'_succ, Paired]
    refine ⟨⟨o, ?_, h.1⟩, paired_of_ck (n + 1) h.2 ?_⟩
    · have : (cops.toList.drop n)[0]? = some o := by rw [← hd]; rfl
      rw [List.getElem?_drop] at this
      simpa using this
    · have : (cops.toList.drop n).drop 1 = os := by rw [← hd]; rfl
      rw [List.drop_drop] at this
      exact this.symm
end
end Ab
