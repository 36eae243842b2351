/- Operations that make values: moves, literals, boxes, addresses, indexes, slices. No condition. -/
import Derived.Test.YtndlggjnfabdoaaGreatDoorAb03
import Derived.Laws.Concat
import Derived.Laws.BytesString
import Derived.ChangeKeysEq
set_option linter.all false
namespace Ab
open Go
section
variable {P : Program} {L : Link} {C : CodeR} {g : Gh} {s : St} {w : World} {ρ : Operand → Value} {ev : Opd → AV}

theorem same_push {w : World} {o : Obj} : Same w { w with heap := w.heap.push o } := ⟨rfl, rfl, rfl⟩

theorem pick_sound (hs : StR L.toLk C g s w) (he : Evs L g w ρ ev) {o : Oper} {c a b : Operand} {c' a' b' : Opd} (ho : o.op = .pick c a b) (hc : odOk L c c' = true) (ha : odOk L a a' = true) (hb : odOk L b b' = true)
    {r : AV × St} (h : opA ev s (.pick c' a' b') = some r) : OpRes P L C g s w r ((execOp ρ o).run P w) := by
  simp only [opA] at h
  split at h
  · rename_i t ht
    cases h
    have := he.rep _ _ hc
    rw [ht] at this
    simp only [Rep] at this
    refine OpRes.val hs (cv := if t then ρ a else ρ b) ?_ ?_
    · simp [execOp, ho, this, asBool]
    · cases t
      · exact he.rep _ _ hb
      · exact he.rep _ _ ha
  · cases h

theorem alloc_sound (hs : StR L.toLk C g s w) {o : Oper} {t : TypeId} {z : List AV} (ho : o.op = .alloc t) (hz : zeroOk P L.toLk t z = true)
    {r : AV × St} (h : opA ev s (.alloc z) = some r) : OpRes P L C g s w r ((execOp ρ o).run P w) := by
  simp only [opA, Option.some.injEq] at h
  subst h
  unfold zeroOk at hz
  split at hz
  · rename_i i hi
    split at hz
    · rename_i v hv
      simp only [Bool.and_eq_true, beq_iff_eq] at hz
      obtain ⟨hz, _⟩ := hz
      have hp := hs.push (o := .cells v.cells t) (ab := .cells z) (w' := { w with heap := w.heap.push (.cells v.cells t) }) rfl same_push [] (by simp)
        (fun _ => ⟨v.cells.toList, [], t, by rw [push_new rfl, List.append_nil], (vOkL_rep hz _ _).1, (vOkL_rep hz g w).2⟩)
      refine ⟨_, _, .value (.pointer (some ⟨w.heap.size, 0, none⟩)), _, ?_, .inl rfl, ?_, hp.1, hp.2⟩
      · simp [execOp, ho, Instr.alloc, zeroValue, typeInfo, hi, hv, newVar, newRow]
      · simp only [Rep]
        exact ⟨w.heap.size, by simp [← hs.bl], rfl⟩
    · cases hz
  · cases hz

theorem box_sound (hs : StR L.toLk C g s w) (he : Evs L g w ρ ev) {o : Oper} {t : TypeId} {n : Nat} {x : Operand} {x' : Opd} (ho : o.op = .box t x) (hx : odOk L x x' = true)
    {r : AV × St} (h : opA ev s (.box n x') = some r) : OpRes P L C g s w r ((execOp ρ o).run P w) := by
  simp only [opA] at h
  split at h
  · rename_i cs hcs
    split at h
    · cases h
      obtain ⟨h1, h2, h3⟩ := (he.rep _ _ hx).cells hcs
      have hp := hs.push (o := .cells (ρ x).cells t) (ab := .cells cs) (w' := { w with heap := w.heap.push (.cells (ρ x).cells t) }) rfl same_push [] (by simp)
        (fun hge => ⟨(ρ x).cells.toList, [], t, by rw [push_new rfl, List.append_nil], RepL.mono hge _ _ h1, h2⟩)
      refine ⟨_, _, .value (.pointer (some ⟨w.heap.size, 0, none⟩)), _, ?_, .inl rfl, ?_, hp.1, hp.2⟩
      · simp [execOp, ho, Instr.box, newVar, newRow]
      · simp only [Rep]
        exact ⟨w.heap.size, by simp [← hs.bl], rfl⟩
    · cases h
  · cases h

/- a literal's parts -/
theorem zip_foldl (off : Nat) : ∀ (vs : List Value) (k : Nat) (cs : Array Value), off + k + vs.length ≤ cs.size →
    ((vs.zipIdx k).foldl (fun cs (c, j) => cs.setIfInBounds (off + j) c) cs).toList = cs.toList.take (off + k) ++ vs ++ cs.toList.drop (off + k + vs.length)
  | [], k, cs, _ => by simp
  | v :: r, k, cs, h => by
    simp only [List.zipIdx_cons, List.foldl_cons]
    rw [zip_foldl off r (k + 1) _ (by simp at h ⊢; omega)]
    have := splice_list cs.toList (off + k) v r (by simp at h ⊢; omega)
    simp only [Array.toList_setIfInBounds]
    rw [← this]
    congr 2

theorem zip_foldl' (off : Nat) (vs cs : Array Value) (h : off + vs.size ≤ cs.size) :
    (vs.zipIdx.foldl (fun cs (c, j) => cs.setIfInBounds (off + j) c) cs).toList = cs.toList.take off ++ vs.toList ++ cs.toList.drop (off + vs.size) := by
  have := zip_foldl off vs.toList 0 cs (by simpa using h)
  simp only [Nat.add_zero, Array.length_toList] at this
  rw [← this, ← Array.foldl_toList]
  simp

theorem fill_sound {pl : Nat → Option (Nat × Nat)} : ∀ {ps : List (Nat × Operand)} {qs : List (Nat × Nat × Opd)} (_ : Evs L g w ρ ev) (_ : partsOk L pl ps qs = true) {cs : List AV} {us : Array Value} {out : List AV}
    (_ : RepL L.toLk g w cs us.toList) (_ : ∀ u ∈ us.toList, oneCell u) (_ : fillA cs (qs.map fun (o, n, x) => (o, n, ev x)) = some out),
    ∃ vs, Instr.fill pl us (ps.map fun (i, x) => (i, ρ x)) = some vs ∧ RepL L.toLk g w out vs.toList ∧ ∀ u ∈ vs.toList, oneCell u
  | [], [], _, _, cs, us, out, h1, h2, h3 => by
    simp only [List.map_nil, fillA, Option.some.injEq] at h3
    subst h3
    exact ⟨us, rfl, h1, h2⟩
  | [], _ :: _, _, h, _, _, _, _, _, _ => by simp [partsOk] at h
  | _ :: _, [], _, h, _, _, _, _, _, _ => by simp [partsOk] at h
  | (i, x) :: ps, (o, n, y) :: qs, he, h, cs, us, out, h1, h2, h3 => by
    simp only [partsOk, Bool.and_eq_true, beq_iff_eq] at h
    obtain ⟨⟨hpl, hxy⟩, hrest⟩ := h
    simp only [List.map_cons, fillA] at h3
    split at h3
    · rename_i vs hvs
      split at h3
      · rename_i hc
        obtain ⟨hn, hle⟩ := hc
        obtain ⟨a1, a2, a3⟩ := (he.rep _ _ hxy).cells hvs
        have hlen := h1.length
        have hsz : us.size = cs.length := by simpa using hlen
        have hz := zip_foldl' o (ρ x).cells us (by omega)
        have hcsz : (ρ x).cells.size = n := by omega
        obtain ⟨out', b1, b2, b3⟩ := fill_sound (ps := ps) (qs := qs) he hrest (us := (ρ x).cells.zipIdx.foldl (fun cs (c, j) => cs.setIfInBounds (o + j) c) us) (out := out)
          (by rw [hz, hcsz]; exact ((h1.take o).append a1).append (h1.drop (o + n)))
          (by
            rw [hz]; intro u hu
            simp only [List.mem_append] at hu
            rcases hu with (hu | hu) | hu
            · exact h2 u (List.mem_of_mem_take hu)
            · exact a2 u hu
            · exact h2 u (List.mem_of_mem_drop hu)) h3
        refine ⟨out', ?_, b2, b3⟩
        simp only [List.map_cons, Instr.fill, hpl]
        rw [if_neg (by
          simp only [hcsz, Bool.or_eq_true, decide_eq_true_eq, not_or]
          exact ⟨by simp, by omega⟩)]
        exact b1
      · cases h3
    · cases h3

theorem run_mapM_places {fs : List Field} {ps : List (Nat × Nat)} (h : fs.mapM (fun f => (szOf P f.type).map fun n => (f.offset, n)) = some ps) :
    (fs.mapM (fun f => (do pure (f.offset, ← Go.sizeOf f.type) : Sem (Nat × Nat)))).run P w = .ok ps w := by
  induction fs generalizing ps with
  | nil => simp at h; subst h; simp
  | cons f fs ih =>
    simp only [List.mapM_cons, Option.bind_eq_bind, Option.bind_eq_some_iff, Option.pure_def] at h
    obtain ⟨p, hp, qs, hq, hh⟩ := h
    simp only [Option.some.injEq] at hh
    subst hh
    simp only [Option.map_eq_some_iff] at hp
    obtain ⟨n, hn, rfl⟩ := hp
    simp only [List.mapM_cons, Sem.run_bind, run_sizeOf hn, Result.andThen_ok, Sem.run_pure, ih hq]

theorem run_mapM_array {α β : Type} (f : α → Sem β) (xs : Array α) : (xs.mapM f).run P w = ((xs.toList.mapM f).run P w).andThen fun l w => .ok l.toArray w := by
  rw [← Array.toArray_toList (xs := xs)]
  simp only [List.mapM_toArray, Sem.run_map]

theorem build_sound (hs : StR L.toLk C g s w) (he : Evs L g w ρ ev) {o : Oper} {t : TypeId} {ps : Array (Nat × Operand)} {z : List AV} {qs : List (Nat × Nat × Opd)} (ho : o.op = .build t ps)
    (hz : zeroOk P L.toLk t z = true) {pl : Nat → Option (Nat × Nat)} (hpl : placesOf P t = some pl) (hp : partsOk L pl ps.toList qs = true)
    {r : AV × St} (h : opA ev s (.build z qs) = some r) : OpRes P L C g s w r ((execOp ρ o).run P w) := by
  simp only [opA] at h
  split at h
  · rename_i cs hcs
    cases h
    unfold zeroOk at hz
    split at hz
    · rename_i i hi
      split at hz
      · rename_i v hv
        simp only [Bool.and_eq_true, beq_iff_eq] at hz
        obtain ⟨hz, _⟩ := hz
        obtain ⟨vs, hf, h1, h2⟩ := fill_sound (ps := ps.toList) (qs := qs) (us := v.cells) he hp (vOkL_rep hz g w).1 (vOkL_rep hz g w).2 hcs
        refine OpRes.val hs (cv := .agg vs) ?_ ?_
        · unfold placesOf at hpl
          simp only [execOp, ho, Instr.build, Sem.run_bind, zeroValue, typeInfo, run_program, Result.andThen_ok, hi, Sem.run_pure, hv, Array.toList_map]
          split at hpl
          · rename_i fs hu
            split at hpl
            · rename_i pls hpls
              cases hpl
              simp only [run_underlying hu, Result.andThen_ok, Sem.run_bind, run_mapM_array, run_mapM_places hpls]
              simp only [List.getElem?_toArray, hf, Sem.run_pure, Result.andThen_ok]
            · cases hpl
          · rename_i n e hu
            split at hpl
            · rename_i n hn
              cases hpl
              simp only [run_underlying hu, Result.andThen_ok, Sem.run_bind, run_sizeOf hn, hf, Sem.run_pure]
            · cases hpl
          · cases hpl
        · simp only [Rep]
          exact ⟨vs.toList, by simp, h1, h2⟩
      · cases hz
    · cases hz
  · cases h
end
end Ab

/- Operations on slices and their rows: literals, append. No condition. -/
namespace Ab
open Go
section
variable {P : Program} {L : Link} {C : CodeR} {g : Gh} {s : St} {w : World} {ρ : Operand → Value} {ev : Opd → AV}

theorem range_mod (zc : List Value) (d : Value) : ∀ n : Nat, (List.range (n * zc.length)).map (fun i => zc.getD (i % zc.length) d) = (List.replicate n zc).flatten
  | 0 => by simp
  | n + 1 => by
    rw [Nat.add_mul, Nat.one_mul, List.range_add, List.map_append, range_mod zc d n, List.replicate_succ', List.flatten_append]
    congr 1
    simp only [List.map_map, List.flatten_cons, List.flatten_nil, List.append_nil]
    apply List.ext_getElem
    · simp
    · intro i h1 h2
      simp at h1 h2
      simp [Nat.mod_eq_of_lt h2, Nat.mul_comm n, h2]

theorem flat_replicate (n : Nat) (v : Value) : flat (List.replicate n v) = (List.replicate n v.cells.toList).flatten := by
  unfold flat; rw [List.flatMap_def]; simp

theorem flat_length {sz : Nat} : ∀ {vs : List Value}, (∀ u ∈ vs, u.cells.size = sz) → (flat vs).length = vs.length * sz
  | [], _ => by simp [flat]
  | v :: vs, h => by
    have := flat_length (vs := vs) fun u hu => h u (List.mem_cons_of_mem _ hu)
    unfold flat at this ⊢
    simp only [List.flatMap_cons, List.length_append, this, Array.length_toList, h v (List.mem_cons_self ..), List.length_cons]
    rw [Nat.add_mul]; omega

theorem flat_append (xs ys : List Value) : flat (xs ++ ys) = flat xs ++ flat ys := by simp [flat]

theorem flat_take {sz : Nat} {vs : List Value} (h : ∀ u ∈ vs, u.cells.size = sz) (i : Nat) (hi : i ≤ vs.length) : (flat vs).take (i * sz) = flat (vs.take i) := by
  have h1 := flat_append (vs.take i) (vs.drop i)
  rw [List.take_append_drop] at h1
  have h2 := flat_length (vs := vs.take i) fun u hu => h u (List.mem_of_mem_take hu)
  rw [List.length_take, Nat.min_eq_left hi] at h2
  rw [h1, List.take_left' h2]

theorem flat_drop {sz : Nat} {vs : List Value} (h : ∀ u ∈ vs, u.cells.size = sz) (i : Nat) (hi : i ≤ vs.length) : (flat vs).drop (i * sz) = flat (vs.drop i) := by
  have h1 := flat_append (vs.take i) (vs.drop i)
  rw [List.take_append_drop] at h1
  have h2 := flat_length (vs := vs.take i) fun u hu => h u (List.mem_of_mem_take hu)
  rw [List.length_take, Nat.min_eq_left hi] at h2
  rw [h1, List.drop_left' h2]

theorem flat_set {sz : Nat} {vs : List Value} (h : ∀ u ∈ vs, u.cells.size = sz) (i : Nat) (hi : i < vs.length) (v : Value) :
    (flat vs).take (i * sz) ++ v.cells.toList ++ (flat vs).drop (i * sz + sz) = flat (vs.set i v) := by
  rw [List.set_eq_take_append_cons_drop, if_pos hi, flat_append, flat_take h i (Nat.le_of_lt hi)]
  have : i * sz + sz = (i + 1) * sz := by rw [Nat.add_mul, Nat.one_mul]
  rw [this, flat_drop h (i + 1) hi]
  simp [flat]

theorem flat_one {vs : List Value} (h : ∀ u ∈ vs, ∀ c ∈ u.cells.toList, oneCell c) : ∀ c ∈ flat vs, oneCell c := by
  intro c hc
  unfold flat at hc
  rw [List.mem_flatMap] at hc
  obtain ⟨u, hu, hcu⟩ := hc
  exact h u hu c hcu

/- values that stand for sized abstract ones -/
theorem hasSize_cells {sz : Nat} {x : AV} (h : hasSize sz x = true) : ∃ cs, x.cells? = some cs ∧ cs.length = sz := by
  unfold hasSize at h
  split at h
  · rename_i cs hcs; exact ⟨cs, hcs, by simpa using h⟩
  · cases h

theorem setElems_sound {sz : Nat} : ∀ {ps : List (Nat × Operand)} {qs : List (Nat × Opd)} (_ : Evs L g w ρ ev) (_ : bpartsOk L ps qs = true) {xs : List AV} {vs : List Value} {us : Array Value} {out : List AV}
    (_ : RepL L.toLk g w xs vs) (_ : AV.untokL xs = xs) (_ : ∀ u ∈ vs, u.cells.size = sz) (_ : us.toList = flat vs) (_ : ∀ u ∈ vs, ∀ c ∈ u.cells.toList, oneCell c)
    (_ : setElems sz xs (qs.map fun (i, x) => (i, (ev x).untok)) = some out),
    ∃ vs' us', Instr.fill (fun i => some (i * sz, sz)) us (ps.map fun (i, x) => (i, ρ x)) = some us' ∧ RepL L.toLk g w out vs' ∧ AV.untokL out = out ∧ (∀ u ∈ vs', u.cells.size = sz) ∧ us'.toList = flat vs' ∧
      (∀ u ∈ vs', ∀ c ∈ u.cells.toList, oneCell c) ∧ out.length = xs.length
  | [], [], _, _, xs, vs, us, out, h1, h2, h3, h4, h5, h6 => by
    simp only [List.map_nil, setElems, Option.some.injEq] at h6
    subst h6
    exact ⟨vs, us, rfl, h1, h2, h3, h4, h5, rfl⟩
  | [], _ :: _, _, h, _, _, _, _, _, _, _, _, _, _ => by simp [bpartsOk] at h
  | _ :: _, [], _, h, _, _, _, _, _, _, _, _, _, _ => by simp [bpartsOk] at h
  | (i, x) :: ps, (j, y) :: qs, he, h, xs, vs, us, out, h1, h2, h3, h4, h5, h6 => by
    simp only [bpartsOk, Bool.and_eq_true, beq_iff_eq] at h
    obtain ⟨⟨rfl, hxy⟩, hrest⟩ := h
    simp only [List.map_cons, setElems] at h6
    split at h6
    · rename_i hc
      obtain ⟨hi, hsz⟩ := hc
      obtain ⟨cs, hcs, hlen⟩ := hasSize_cells hsz
      have hr := (he.rep _ _ hxy).untok_same
      obtain ⟨a1, a2, a3⟩ := hr.cells hcs
      have hvl : vs.length = xs.length := h1.length
      have hsz' : (ρ x).cells.size = sz := by omega
      have husz : us.size = vs.length * sz := by
        have := congrArg List.length h4
        simpa [flat_length h3] using this
      have hle : i * sz + sz ≤ us.size := by
        rw [husz]
        calc i * sz + sz = (i + 1) * sz := by rw [Nat.add_mul, Nat.one_mul]
          _ ≤ vs.length * sz := Nat.mul_le_mul_right _ (by omega)
      have hz := zip_foldl' (i * sz) (ρ x).cells us (by omega)
      rw [hsz', h4, flat_set h3 i (by omega) (ρ x)] at hz
      obtain ⟨vs', us', b1, b2, b3, b4, b5, b6, b7⟩ := setElems_sound (ps := ps) (qs := qs) he hrest (xs := xs.set i (ev y).untok) (vs := vs.set i (ρ x)) (out := out)
        (us := (ρ x).cells.zipIdx.foldl (fun cs (c, j) => cs.setIfInBounds (i * sz + j) c) us) (h1.set hr)
        (by rw [AV.untokL_eq] at h2 ⊢; rw [List.map_set, h2, AV.untok_idem])
        (by intro u hu; rcases List.mem_or_eq_of_mem_set hu with hu | rfl; exact h3 u hu; exact hsz')
        hz (by intro u hu; rcases List.mem_or_eq_of_mem_set hu with hu | rfl; exact h5 u hu; exact a2) h6
      refine ⟨vs', us', ?_, b2, b3, b4, b5, b6, by simpa using b7⟩
      simp only [List.map_cons, Instr.fill]
      rw [if_neg (by
        simp only [hsz', Bool.or_eq_true, decide_eq_true_eq, not_or]
        exact ⟨by simp, by omega⟩)]
      exact b1
    · cases h6

theorem repl_eq (x : AV) (n : Nat) : repl x n = List.replicate n x := by induction n <;> simp_all [repl, List.replicate_succ]

theorem one_cells {c : Value} (h : oneCell c) : c.cells = #[c] := by cases c <;> simp_all [oneCell, Value.cells]

theorem vOkL_untok {L : Lk} : ∀ {v : List Value} {x : List AV}, vOkL L v x = true → AV.untokL x = x
  | [], [], _ => rfl
  | [], _ :: _, h => by simp [vOkL] at h
  | _ :: _, [], h => by simp [vOkL] at h
  | v :: vs, x :: xs, h => by
    simp only [vOkL, Bool.and_eq_true] at h
    have h2 := vOkL_untok h.2
    have h1 : x.untok = x := by
      have := h.1
      unfold vOk1 at this
      split at this <;> simp_all [AV.untok, AV.untokL]
    simp [AV.untokL, h1, h2]

/- a new row that nobody writes -/
theorem StR.newImm (h : StR L.toLk C g s w) {c : Array Value} {e : TypeId} {fz : Nat × Nat} {w' : World} (hw : w'.heap = w.heap.push (.cells c e fz)) (hs : Same w w') (n : Nat) :
    StR L.toLk C { g with imm := fun b o => g.imm b o ∨ (b = w.heap.size ∧ o < n) } s w' ∧ Ext g s w { g with imm := fun b o => g.imm b o ∨ (b = w.heap.size ∧ o < n) } s w' := by
  have := h.newRow hw hs n g.tk (fun t T hT => ⟨T, hT, Nat.le_refl _, fun _ => rfl⟩) (fun t T hT => .inl hT)
    (fun t u T U hT hU h1 h2 => by
      obtain ⟨c', e', fz', h3, _⟩ := (h.toks t T hT).space
      have := lt_of_heap h3; omega) (fun _ _ => rfl)
  rwa [h.tk] at this

theorem lies_new {g : Gh} {w w' : World} {c : Array Value} {e : TypeId} {fz : Nat × Nat} {n : Nat} {tk : List TokI} (hw : w'.heap = w.heap.push (.cells c e fz)) {cs : List Value} (hc : c.toList.take cs.length = cs) (hn : cs.length ≤ n) :
    Lies { g with tk := tk, imm := fun b o => g.imm b o ∨ (b = w.heap.size ∧ o < n) } w' w.heap.size 0 cs := by
  intro j u hj
  have hlt : j < cs.length := (List.getElem?_eq_some_iff.1 hj).1
  refine ⟨.inr ⟨rfl, by omega⟩, ?_⟩
  rw [cell?_of (push_new hw)]
  simp only [Nat.zero_add]
  have hj' : (c.toList.take cs.length)[j]? = some u := by rw [hc]; exact hj
  rw [List.getElem?_take, if_pos hlt] at hj'
  simpa using hj'

theorem bslice_sound (hs : StR L.toLk C g s w) (he : Evs L g w ρ ev) {o : Oper} {t e : TypeId} {n sz : Nat} {ps : Array (Nat × Operand)} {z : List AV} {qs : List (Nat × Opd)} (ho : o.op = .buildSlice t n ps)
    (hu : P.underlying t = some (.slice e)) (hsz : szOf P e = some sz) (hz : zeroOk P L.toLk e z = true) (hle : n * sz ≤ 16777216) (hp : bpartsOk L ps.toList qs = true)
    {r : AV × St} (h : opA ev s (.bslice sz z n qs) = some r) : OpRes P L C g s w r ((execOp ρ o).run P w) := by
  simp only [opA] at h
  split at h
  · rename_i xs hxs
    cases h
    unfold zeroOk at hz
    split at hz
    · rename_i i hi
      split at hz
      · rename_i v hv
        simp only [Bool.and_eq_true, beq_iff_eq] at hz
        obtain ⟨hz, hil⟩ := hz
        have hzr := vOkL_rep hz g w
        have hzl := hzr.1.length
        have hisz : i.size = sz := by simpa [szOf, hi] using hsz
        have hvs : v.cells.size = sz := by rw [← hisz, hil, ← hzl]; simp
        -- the zero elements
        obtain ⟨zv, zx1, zx2, zx3, zx4⟩ : ∃ zv : Value, Rep L.toLk g w (elemOfCells z (z.length == 1)) zv ∧ zv.cells = v.cells ∧ (elemOfCells z (z.length == 1)).untok = elemOfCells z (z.length == 1) ∧ ∀ c ∈ zv.cells.toList, oneCell c := by
          have hzu := vOkL_untok hz
          by_cases hone : z.length = 1
          · obtain ⟨z0, rfl⟩ := List.length_eq_one_iff.1 hone
            have hr1 := hzr.1
            simp only [RepL] at hr1
            obtain ⟨c, rr, hcc, hrc, rfl⟩ := hr1
            have hoc := hzr.2 c (by rw [hcc]; simp)
            refine ⟨c, by simpa [elemOfCells] using hrc, ?_, ?_, ?_⟩
            · rw [one_cells hoc]; apply Array.ext'; rw [hcc]
            · simpa [elemOfCells, AV.untokL] using hzu
            · rw [one_cells hoc]; simpa using hoc
          · have : (z.length == 1) = false := by simpa using hone
            refine ⟨.agg v.cells, ?_, rfl, ?_, by simpa [Value.cells] using hzr.2⟩
            · rw [this]; simp only [elemOfCells, Bool.false_eq_true, if_false, Rep]
              exact ⟨v.cells.toList, by simp, hzr.1, hzr.2⟩
            · rw [this]; simp [elemOfCells, AV.untok, hzu]
        have hzero : ∀ (zc : Array Value), (n * sz = 0 ∨ zc = v.cells) → ((Array.range (n * sz)).map (fun i => zc[i % zc.size]!)).toList = flat (List.replicate n zv) := by
          intro zc hzc
          rw [flat_replicate, zx2]
          rcases hzc with h0 | rfl
          · rcases Nat.mul_eq_zero.1 h0 with rfl | h1
            · simp
            · have : v.cells.toList = [] := List.eq_nil_of_length_eq_zero (by rw [Array.length_toList]; omega)
              rw [h0, this]; simp
          · have := range_mod v.cells.toList default n
            simp only [Array.length_toList, hvs] at this
            rw [← this]
            simp [hvs, Array.getElem!_eq_getD, List.getD_eq_getElem?_getD]
        have run0 : ∀ zc : Array Value, (n * sz = 0 ∨ zc = v.cells) → ∃ vs' us', Instr.fill (fun i => some (i * sz, sz)) ((Array.range (n * sz)).map (fun i => zc[i % zc.size]!)) (ps.toList.map fun (i, x) => (i, ρ x)) = some us' ∧ RepL L.toLk g w xs vs' ∧ AV.untokL xs = xs ∧
            (∀ u ∈ vs', u.cells.size = sz) ∧ us'.toList = flat vs' ∧ (∀ u ∈ vs', ∀ c ∈ u.cells.toList, oneCell c) ∧ xs.length = n := by
          intro zc hzc
          obtain ⟨vs', us', b1, b2, b3, b4, b5, b6, b7⟩ := setElems_sound (sz := sz) he hp (xs := List.replicate n (elemOfCells z (z.length == 1))) (vs := List.replicate n zv) (us := (Array.range (n * sz)).map (fun i => zc[i % zc.size]!))
            (RepL.of_get (by simp) fun i x u h1 h2 => by
              rw [List.getElem?_replicate] at h1 h2
              split at h1
              · rename_i hlt
                simp only [hlt, if_true, Option.some.injEq] at h2
                cases h1; cases h2; exact zx1
              · cases h1)
            (by rw [AV.untokL_eq, List.map_replicate, zx3])
            (by intro u hu; rw [List.mem_replicate] at hu; rw [hu.2, zx2]; exact hvs)
            (hzero zc hzc)
            (by intro u hu; rw [List.mem_replicate] at hu; rw [hu.2]; exact zx4)
            (by rw [← repl_eq]; exact hxs)
          exact ⟨vs', us', b1, b2, b3, b4, b5, b6, by simpa using b7⟩
        obtain ⟨vs', us', b1, b2, b3, b4, b5, b6, b7⟩ := run0 (if n * sz = 0 then #[] else v.cells) (by split <;> simp_all)
        have hnew := hs.newImm (c := us') (e := e) (fz := (0, 0)) (w' := { w with heap := w.heap.push (.cells us' e) }) rfl same_push us'.size
        refine ⟨_, _, .value (.slice (some ⟨w.heap.size, 0, none⟩) n n), _, ?_, .inl rfl, ?_, hnew.1, hnew.2⟩
        · by_cases h0 : n * sz = 0
          · rw [if_pos h0] at b1
            simp only [execOp, ho, Instr.buildSlice, Sem.run_bind, run_underlying hu, Result.andThen_ok, run_sizeOf hsz, h0, Array.toList_map]
            simp only [h0] at b1
            have e1 : ¬ ((0 : Nat) > 2 ^ 24) := by decide
            simp only [e1, if_false, if_true, Sem.run_bind, Sem.run_pure, Result.andThen_ok, b1, newRow, run_newObj]
          · rw [if_neg h0] at b1
            simp only [execOp, ho, Instr.buildSlice, Sem.run_bind, run_underlying hu, Result.andThen_ok, run_sizeOf hsz, Array.toList_map]
            rw [if_neg (by show ¬ n * sz > 2 ^ 24; omega), if_neg h0]
            simp only [zeroValue, typeInfo, hi, hv, Sem.run_bind, run_program, Sem.run_pure, Result.andThen_ok, b1, newRow, run_newObj]
        · simp only [Rep]
          refine ⟨some ⟨w.heap.size, 0, none⟩, n, vs', by rw [b7], by omega, b3, RepL.mono hnew.2.ge _ _ b2, fun u hu => ⟨b4 u hu, b6 u hu⟩, ⟨fun _ => rfl, ?_⟩, ⟨rfl, b7.symm⟩⟩
          have := lies_new (g := g) (w := w) (w' := { w with heap := w.heap.push (.cells us' e) }) (c := us') (e := e) (fz := (0, 0)) (n := us'.size) (tk := g.tk) rfl (cs := flat vs')
            (by rw [← b5]; exact List.take_of_length_le (Nat.le_refl _)) (by rw [← b5]; simp)
          exact this
      · cases hz
    · cases hz
  · cases h
end
end Ab

/- append. No condition. -/
namespace Ab
open Go
section
variable {P : Program} {L : Link} {C : CodeR} {g : Gh} {s : St} {w : World} {ρ : Operand → Value} {ev : Opd → AV}

theorem spot_flat {xs : List AV} {vs : List Value} {p : Addr} (h : xs ≠ [] → p.spot = none) (hl : vs.length = xs.length) : flat vs ≠ [] → p.spot = none := fun hf => h fun e => hf (by
  subst e
  rw [List.eq_nil_of_length_eq_zero hl]; rfl)

theorem lies_at {g : Gh} {w : World} {b o : Nat} {cs : List Value} (h : Lies g w b o cs) {w2 : World} (hh : w2.heap = w.heap) {p : Addr} (hp : cs ≠ [] → p.spot = none) (hb : p.block = b) (ho : p.off = o) :
    ∀ (j : Nat) (v : Value), cs[j]? = some v → w2.cell? (p.add j) = some v := by
  intro j v hj
  rw [addr_add' (hp (by rintro rfl; simp at hj)), hb, ho, cell?_congr (w := w) (by rw [hh])]
  exact (h j v hj).2

/- what is appended, on both sides -/
def AppArg (P : Program) (L : Link) (g : Gh) (w : World) (sz : Nat) (ys : List AV) (cy : Value) : Prop :=
  ∃ vs, RepL L.toLk g w ys vs ∧ AV.untokL ys = ys ∧ (∀ u ∈ vs, Sized sz u) ∧
    (∀ w2, (Builtin.lenOf cy).run P w2 = .ok ys.length w2) ∧ ∀ w2, w2.heap = w.heap → (Builtin.firstCells sz ys.length cy).run P w2 = .ok (flat vs).toArray w2

/- cells of a row that lies in memory are single ones: they were stored -/
theorem run_firstCells {sz n : Nat} {a : Option Addr} {len cap : Nat} {cs : List Value} (hl : cs.length = n * sz) (h : match a with | none => cs = [] | some p => ∀ (j : Nat) (v : Value), cs[j]? = some v → w.cell? (p.add j) = some v) :
    (Builtin.firstCells sz n (.slice a len cap)).run P w = .ok cs.toArray w := by
  cases a with
  | none => simp only at h; subst h; simp [Builtin.firstCells]
  | some p =>
    simp only [Builtin.firstCells]
    rw [← hl]
    exact run_loadCells_list w p cs h

theorem strBytes_rep {L : Lk} {g : Gh} {w : World} (b : List UInt8) : RepL L g w (bytesOf b) (b.map fun x => Value.int .u8 x.toNat) := by
  unfold bytesOf
  exact RepL.map _ _ b fun x _ => by simp [Rep]

theorem bytesOf_untok (b : List UInt8) : AV.untokL (bytesOf b) = bytesOf b := by
  rw [AV.untokL_eq]; unfold bytesOf; rw [List.map_map]; apply List.map_congr_left; intro x _; rfl

theorem flat_map_one {α : Type} (f : α → Value) (h : ∀ x, (f x).cells = #[f x]) (l : List α) : flat (l.map f) = l.map f := by
  induction l with
  | nil => rfl
  | cons x l ih =>
    unfold flat at ih ⊢
    simp only [List.map_cons, List.flatMap_cons, h, ih]; rfl

structure RowInfo (P : Program) (t e : TypeId) (i : TypeInfo) (z : Value) (sz : Nat) : Prop where
  ht : P.underlying t = some (.slice e)
  hi : P.info? e = some i
  hz : i.zero = some z
  size : i.size = sz
  bytes : i.bytes ≤ 1024
  pos : 0 < sz
  zs : z.cells.size = sz

theorem rowInfo {t : TypeId} {sz : Nat} (h1 : elemIs P t sz = true) (h2 : bytesOk P t = true) (h3 : 0 < sz) : ∃ e i z, RowInfo P t e i z sz := by
  unfold elemIs at h1
  unfold bytesOk at h2
  split at h1
  · rename_i e he
    simp only [he] at h2
    split at h2
    · rename_i i hi
      simp only [Bool.and_eq_true, decide_eq_true_eq] at h2
      obtain ⟨hb, h2⟩ := h2
      split at h2
      · rename_i z hz
        have hsz : i.size = sz := by simpa [szOf, hi] using h1
        exact ⟨e, i, z, he, hi, hz, hsz, hb, h3, by rw [← hsz]; simpa using h2⟩
      · cases h2
    · cases h2
  · cases h1

theorem next_small (need old : Nat) (h : old < need) (hn : need ≤ most) : Builtin.nextslicecap need old ≤ 4294967296 := by
  unfold Builtin.nextslicecap
  unfold most at hn
  split
  · omega
  · split
    · omega
    · have key : ∀ (r c : Nat), c ≤ 4294967296 → c < need ∨ c ≤ 4294967296 → Builtin.growBy need r c ≤ 4294967296 := by
        intro r
        induction r with
        | zero => intro c hc _; simpa [Builtin.growBy] using hc
        | succ r ih =>
          intro c hc _
          simp only [Builtin.growBy]
          split
          · exact hc
          · exact ih _ (by omega) (.inr (by omega))
      exact key 4 old (by omega) (.inr (by omega))

theorem run_append_in {t u e ty : TypeId} {i : TypeInfo} {z : Value} {sz : Nat} (hR : RowInfo P t e i z sz) (hu : notIntT P u = true) {b o sLen sCap m : Nat} {cy : Value} {news : List Value}
    (hlen : (Builtin.lenOf cy).run P w = .ok m w) (hnew : (Builtin.firstCells sz m cy).run P w = .ok news.toArray w) (hcap : sLen + m ≤ sCap)
    (hc : ∀ (j : Nat), j < news.length → (w.cell? ⟨b, o + sLen * sz + j, none⟩).isSome = true) (hf : ∀ j, j < news.length → w.frozen? ⟨b, o + sLen * sz + j, none⟩ = false) (h1 : ∀ v ∈ news, v.oneCell' = true) :
    (Builtin.append_ #[t, u] ty #[.slice (some ⟨b, o, none⟩) sLen sCap, cy]).run P w = .ok (.slice (some ⟨b, o, none⟩) (sLen + m) sCap) (w.setCells b (o + sLen * sz) news) := by
  have hst := run_storeCells_cells (P := P) b (o + sLen * sz) news 0 w (by simpa using hc) (by simpa using hf) h1
  simp only [Nat.add_zero] at hst
  unfold notIntT at hu
  cases hd : P.underlying u with
  | none => simp [hd] at hu
  | some d =>
    rw [hd] at hu
    cases d <;> first | (cases hu; done) | simp only [Builtin.append_, List.getElem?_toArray, List.getElem?_cons_zero, List.getElem?_cons_succ, Sem.run_bind, run_underlying hR.ht, Result.andThen_ok, Go.sizeOf, typeInfo, run_program, hR.hi, Sem.run_pure,
      run_underlying hd, hlen, hR.size, Bool.false_eq_true, if_false, hcap, if_true, hnew, addr_add, hst, Bool.not_false]

theorem run_append_out {t u e ty : TypeId} {i : TypeInfo} {z : Value} {sz : Nat} (hR : RowInfo P t e i z sz) (hu : notIntT P u = true) {a : Option Addr} {sLen sCap m : Nat} {cy : Value} {olds news : List Value}
    (hlen : (Builtin.lenOf cy).run P w = .ok m w) (hnew : ∀ w2, w2.heap = w.heap → (Builtin.firstCells sz m cy).run P w2 = .ok news.toArray w2) (hcap : sCap < sLen + m) (hm : sLen + m ≤ most)
    (hold : ∀ w2, w2.heap = w.heap → (Builtin.firstCells sz sLen (.slice a sLen sCap)).run P w2 = .ok olds.toArray w2) :
    ∃ newCap w', sLen + m ≤ newCap ∧ w'.heap = w.heap.push (.cells (olds.toArray ++ news.toArray ++ Builtin.zeroCells z.cells (newCap - (sLen + m))) e) ∧ Same w w' ∧
    (Builtin.append_ #[t, u] ty #[.slice a sLen sCap, cy]).run P w = .ok (.slice (some ⟨w.heap.size, 0, none⟩) (sLen + m) newCap) w' := by
  unfold notIntT at hu
  cases hd : P.underlying u with
  | none => simp [hd] at hu
  | some d =>
    rw [hd] at hu
    have hns := next_small (sLen + m) sCap hcap hm
    have hb := hR.bytes
    have hle : ¬ (Builtin.nextslicecap (sLen + m) sCap * i.bytes > 2 ^ 48) := by
      have : Builtin.nextslicecap (sLen + m) sCap * i.bytes ≤ 4294967296 * 1024 := Nat.mul_le_mul hns hb
      omega
    have hmax : ¬ (((sLen + m : Nat) : Int) > IntKind.i64.max ∧ (False ∨ i.bytes = 0)) := by
      have : IntKind.i64.max = 9223372036854775807 := by decide
      rw [this]; unfold most at hm; omega
    obtain ⟨nc, hnc⟩ : ∃ nc, nc = (Question.appendCap (sLen + m) sCap e).cut (w.tape w.drawn (.appendCap (sLen + m) sCap e)) := ⟨_, rfl⟩
    refine ⟨nc, { w with drawn := w.drawn + 1, heap := w.heap.push (.cells (olds.toArray ++ news.toArray ++ Builtin.zeroCells z.cells (nc - (sLen + m))) e) }, ?_, rfl, ⟨rfl, rfl, rfl⟩, ?_⟩
    rotate_left 1
    · cases d <;> first | (cases hu; done) | skip
      all_goals
       simp only [Builtin.append_, List.getElem?_toArray, List.getElem?_cons_zero, List.getElem?_cons_succ, Sem.run_bind, run_underlying hR.ht, Result.andThen_ok, Go.sizeOf, typeInfo, run_program, hR.hi, Sem.run_pure,
        run_underlying hd, hlen, hR.size, Bool.false_eq_true, if_false, Bool.not_false, if_true]
       rw [if_neg (by omega)]
       simp only [Sem.run_bind, Sem.run_ite, Result.andThen_ok, Sem.run_pure, run_program, hR.hi, Result.andThen_ite]
       rw [if_neg hmax]
       rw [if_neg hle]
       simp only [Result.andThen_ok, run_choose, Question.forced, Bool.false_eq_true, if_false, Sem.run_bind, run_program, Sem.run_pure, run_askRoom, zeroValue, typeInfo, hR.hi, hR.hz, newRow, run_newObj]
       rw [← hnc]
       rw [hold { w with drawn := w.drawn + 1 } rfl]
       simp only [Result.andThen_ok]
       rw [hnew { w with drawn := w.drawn + 1 } rfl]
       simp only [Result.andThen_ok]
    · rw [hnc]; simp [Question.cut]

theorem run_append_none {t u e ty : TypeId} {i : TypeInfo} {z : Value} {sz : Nat} (hR : RowInfo P t e i z sz) (hu : notIntT P u = true) {a : Option Addr} {sLen sCap : Nat} {cy : Value}
    (hlen : (Builtin.lenOf cy).run P w = .ok 0 w) (hnew : (Builtin.firstCells sz 0 cy).run P w = .ok #[] w) (hcap : sLen ≤ sCap) :
    (Builtin.append_ #[t, u] ty #[.slice a sLen sCap, cy]).run P w = .ok (.slice a sLen sCap) w := by
  unfold notIntT at hu
  cases hd : P.underlying u with
  | none => simp [hd] at hu
  | some d =>
    rw [hd] at hu
    cases d <;> first | (cases hu; done) | simp only [Builtin.append_, List.getElem?_toArray, List.getElem?_cons_zero, List.getElem?_cons_succ, Sem.run_bind, run_underlying hR.ht, Result.andThen_ok, Go.sizeOf, typeInfo, run_program, hR.hi, Sem.run_pure,
      run_underlying hd, hlen, hR.size, Bool.false_eq_true, if_false, hcap, if_true, hnew, Bool.not_false, Nat.add_zero]
    all_goals cases a <;> rfl

theorem app_arg {y : AV} {cy : Value} {sz : Nat} {ys : List AV} (hr : Rep L.toLk g w y cy)
    (hy : ysOf sz y = some ys) : AppArg P L g w sz ys cy := by
  cases y with
  | sl own z ys' =>
    simp only [ysOf] at hy
    split at hy
    · rename_i hz
      subst hz
      cases hy
      simp only [Rep] at hr
      obtain ⟨a, cap, vs, rfl, hc, hu, hrl, hsz, hl, _⟩ := hr
      rw [hu]
      have hfl := flat_length fun u hu => (hsz u hu).1
      have hvl := hrl.length
      refine ⟨vs, hrl, hu, hsz, fun w2 => by simp [Builtin.lenOf], fun w2 hw2 => ?_⟩
      · refine run_firstCells (by rw [hfl, hvl]) ?_
        cases a with
        | none =>
          have : vs = [] := List.eq_nil_of_length_eq_zero (by rw [hvl, hl.1]; rfl)
          simp [this, flat]
        | some p => exact lies_at hl.2 hw2 (spot_flat hl.1 hvl) rfl rfl
    · cases hy
  | str b =>
    simp only [ysOf] at hy
    split at hy
    · rename_i hz
      subst hz
      cases hy
      simp only [Rep] at hr
      subst hr
      refine ⟨b.map fun x => Value.int .u8 x.toNat, strBytes_rep b, bytesOf_untok b, ?_, fun w2 => by simp [Builtin.lenOf, bytesOf, ByteArray.size], fun w2 _ => ?_⟩
      · intro u hu; rw [List.mem_map] at hu; obtain ⟨x, _, rfl⟩ := hu
        exact ⟨rfl, fun c hc => by simp [Value.cells] at hc; subst hc; trivial⟩
      · rw [flat_map_one _ (fun _ => rfl)]
        simp only [Builtin.firstCells, Sem.run_pure]
        congr 1
        apply Array.ext'
        have : (bytesOf b).length = b.length := by simp [bytesOf]
        rw [this]
        have hx : (⟨b.toArray⟩ : ByteArray).extract 0 b.length = ⟨b.toArray⟩ := by
          have := ByteArray.extract_zero_size (b := ⟨b.toArray⟩)
          simpa [ByteArray.size] using this
        rw [hx]
        simp
    · cases hy
  | _ => simp [ysOf] at hy

theorem chunk_rep {L : Lk} {g : Gh} {w : World} {sz : Nat} (hz : 0 < sz) : ∀ (n : Nat) {cs : List AV} {vs : List Value}, RepL L g w cs vs → (∀ u ∈ vs, oneCell u) → n * sz ≤ cs.length →
    ∃ us, RepL L g w (AV.chunk sz n cs) us ∧ (∀ u ∈ us, Sized sz u) ∧ flat us = vs.take (n * sz)
  | 0, cs, vs, _, _, _ => ⟨[], by simp [AV.chunk, RepL], by simp, by simp [flat]⟩
  | n + 1, cs, vs, h, ho, hn => by
    have hvl := h.length
    have hn' : n * sz + sz ≤ cs.length := by rw [Nat.succ_mul] at hn; exact hn
    obtain ⟨us, h1, h2, h3⟩ := chunk_rep hz n (h.drop sz) (fun u hu => ho u (List.mem_of_mem_drop hu)) (by rw [List.length_drop]; omega)
    have htake : vs.take ((n + 1) * sz) = vs.take sz ++ (vs.drop sz).take (n * sz) := by
      rw [Nat.succ_mul, Nat.add_comm, List.take_add]
    simp only [AV.chunk]
    by_cases h1z : sz = 1
    · subst h1z
      cases cs with
      | nil => simp at hn'
      | cons c cr =>
        simp only [RepL] at h
        obtain ⟨v, r, rfl, hc, hr⟩ := h
        have hv := one_cells (ho v (by simp))
        refine ⟨v :: us, ?_, ?_, ?_⟩
        · simp only [if_true, List.headD_cons, RepL]
          exact ⟨v, us, rfl, hc, h1⟩
        · intro u hu
          rcases List.mem_cons.1 hu with rfl | hu
          · exact ⟨by rw [hv]; rfl, fun x hx => by rw [hv] at hx; simp at hx; subst hx; exact ho _ (by simp)⟩
          · exact h2 u hu
        · rw [htake]
          simp only [flat, List.flatMap_cons, hv] at h3 ⊢
          rw [h3]; rfl
    · refine ⟨.agg (vs.take sz).toArray :: us, ?_, ?_, ?_⟩
      · simp only [h1z, if_false, RepL]
        refine ⟨_, us, rfl, ?_, h1⟩
        simp only [Rep]
        exact ⟨vs.take sz, rfl, h.take sz, fun u hu => ho u (List.mem_of_mem_take hu)⟩
      · intro u hu
        rcases List.mem_cons.1 hu with rfl | hu
        · refine ⟨?_, fun x hx => ?_⟩
          · simp only [Value.cells, List.size_toArray, List.length_take]; omega
          · simp only [Value.cells] at hx
            exact ho x (List.mem_of_mem_take hx)
        · exact h2 u hu
      · rw [htake]
        simp only [flat, List.flatMap_cons, Value.cells] at h3 ⊢
        rw [h3]

theorem chunk_length (sz : Nat) : ∀ (n : Nat) (cs : List AV), (AV.chunk sz n cs).length = n
  | 0, _ => rfl
  | n + 1, cs => by simp [AV.chunk, chunk_length sz n]

/- a slice that is written into: its elements, as they lie now -/
theorem elems_rep (hs : StR L.toLk C g s w) {i off sz n : Nat} {xs : List AV} {cv : Value} (hr : Rep L.toLk g w (.msl i off sz n) cv) (h : elemsA s (.msl i off sz n) = some xs) :
    0 < sz ∧ xs.length = n ∧ ∃ (b : Nat) (a : Addr) (cap : Nat) (vs us rest : List Value) (e : TypeId), g.bl[i]? = some b ∧ cv = .slice (some a) n cap ∧ n ≤ cap ∧ (0 < cap → a = ⟨b, off, none⟩) ∧ RepL L.toLk g w xs us ∧ (∀ u ∈ us, Sized sz u) ∧
      w.heap[b]? = some (.cells (vs ++ rest).toArray e (0, 0)) ∧ off + n * sz ≤ vs.length ∧ flat us = (vs.drop off).take (n * sz) := by
  simp only [Rep] at hr
  obtain ⟨b, a, cap, hb, rfl, hcap, ha⟩ := hr
  simp only [elemsA] at h
  split at h
  · rename_i cs hcs
    split at h
    · rename_i hc
      cases h
      unfold St.cell? at hcs
      split at hcs
      · rename_i cs' hbl
        cases hcs
        obtain ⟨vs, rest, e, h1, h2, h3⟩ := hs.blocks i b _ hb hbl
        have hvl := h2.length
        obtain ⟨us, k1, k2, k3⟩ := chunk_rep hc.2 n (h2.drop off) (fun u hu => h3 u (List.mem_of_mem_drop hu)) (by rw [List.length_drop]; omega)
        exact ⟨hc.2, chunk_length _ _ _, b, a, cap, vs, us, rest, e, hb, rfl, hcap, fun hp => (ha hp).1, k1, k2, h1, by omega, k3⟩
      · cases hcs
    · cases h
  · cases h

theorem app_argS (hs : StR L.toLk C g s w) {y : AV} {cy : Value} {sz : Nat} {ys : List AV} (hr : Rep L.toLk g w y cy) (hy : ysS s sz y = some ys) : AppArg P L g w sz ys cy := by
  unfold ysS at hy
  split at hy
  · rename_i i off z n
    split at hy
    · rename_i hz
      subst hz
      cases he : elemsA s (.msl i off z n) with
      | none => rw [he] at hy; cases hy
      | some xs =>
        rw [he] at hy
        simp only [Option.map_some, Option.some.injEq] at hy
        subst hy
        obtain ⟨hz, hn, b, a, cap, vs, us, rest, e, hb, rfl, hcap, ha, k1, k2, h1, hle, k3⟩ := elems_rep hs hr he
        have hul := k1.length
        have hfl := flat_length fun u hu => (k2 u hu).1
        refine ⟨us, k1.untok_same, AV.untokL_idem _, k2, fun w2 => by simp [Builtin.lenOf, AV.untokL_length, hn], fun w2 hw2 => ?_⟩
        rw [AV.untokL_length, hn]
        refine run_firstCells (by rw [hfl, hul, hn]) ?_
        intro j v hj
        have hjl := (List.getElem?_eq_some_iff.1 hj).1
        have hpos : 0 < cap := by
          rcases Nat.eq_zero_or_pos n with h0 | h0
          · rw [hfl, hul, hn, h0] at hjl; simp at hjl
          · omega
        rw [ha hpos, addr_add, cell?_congr (w := w) (by rw [hw2]), cell?_of h1]
        rw [k3, List.getElem?_take] at hj
        split at hj
        · rw [List.getElem?_drop] at hj
          simp only [List.getElem?_toArray]
          rw [List.getElem?_append_left (List.getElem?_eq_some_iff.1 hj).1]
          exact hj
        · cases hj
    · cases hy
  · exact app_arg hr hy

theorem cellsL_rep {L : Lk} {g : Gh} {w : World} : ∀ {xs : List AV} {vs : List Value} {cs : List AV}, RepL L g w xs vs → cellsL xs = some cs → RepL L g w cs (flat vs) ∧ ∀ u ∈ flat vs, oneCell u
  | [], vs, cs, h, hc => by
    simp only [RepL] at h; subst h
    simp only [cellsL, Option.some.injEq] at hc; subst hc
    simp [flat, RepL]
  | x :: xs, vs, cs, h, hc => by
    simp only [RepL] at h
    obtain ⟨v, r, rfl, h1, h2⟩ := h
    simp only [cellsL] at hc
    split at hc
    · rename_i a b ha hb
      cases hc
      obtain ⟨k1, k2, _⟩ := h1.cells ha
      obtain ⟨k3, k4⟩ := cellsL_rep h2 hb
      have hf : flat (v :: r) = v.cells.toList ++ flat r := by simp [flat]
      rw [hf]
      refine ⟨k1.append k3, fun u hu => ?_⟩
      rcases List.mem_append.1 hu with hu | hu
      · exact k2 u hu
      · exact k4 u hu
    · cases hc

theorem appmA_sound (hs : StR L.toLk C g s w) {t u e ty : TypeId} {i : TypeInfo} {z : Value} {sz : Nat} (hR : RowInfo P t e i z sz) (hu : notIntT P u = true) {x y : AV} {cx cy : Value} (hx : Rep L.toLk g w x cx) (hy : Rep L.toLk g w y cy)
    {v : AV} {s' : St} (h : appmA s sz x y = some (v, s')) :
    ∃ g' w' cv, (Builtin.append_ #[t, u] ty #[cx, cy]).run P w = .ok cv w' ∧ Rep L.toLk g' w' v cv ∧ StR L.toLk C g' s' w' ∧ Ext g s w g' s' w' := by
  unfold appmA at h
  cases x with
  | sl own z' xs =>
    split at h
    · rename_i own1 z1 xs1 ys he hys
      cases he
      have ha := app_argS (P := P) hs hy hys
      split at h
      · rename_i hc
        obtain ⟨rfl, hmost, hown⟩ := hc
        simp only [Rep] at hx
        obtain ⟨a, cap, vs, rfl, hcap, hun, hrl, hsz, hl, ho⟩ := hx
        obtain ⟨us, b1, b2, b3, b4, b5⟩ := ha
        have hvl := hrl.length
        have hul := b1.length
        have hfx := flat_length fun u hu => (hsz u hu).1
        have hfy := flat_length fun u hu => (b3 u hu).1
        cases ys with
        | nil =>
          simp only at h
          cases h
          have hus : us = [] := List.eq_nil_of_length_eq_zero hul
          subst hus
          exact ⟨g, w, _, run_append_none hR hu (b4 w) (b5 w rfl) hcap, by
            simp only [Rep]; exact ⟨a, cap, vs, rfl, hcap, hun, hrl, hsz, hl, ho⟩, hs, .refl _ _ _⟩
        | cons y0 yr =>
          obtain ⟨ys, hysd⟩ : ∃ ys, ys = y0 :: yr := ⟨_, rfl⟩
          have hpos : 0 < ys.length := by rw [hysd]; simp
          rw [← hysd] at hmost b1 b2 b4 b5 hul h
          have h : (match cellsL (xs ++ ys) with
            | some cs => some (AV.msl s.bl.length 0 z' (xs.length + ys.length), s.push (.cells cs))
            | none => none) = some (v, s') := by subst hysd; exact h
          split at h
          · rename_i cs hcs
            cases h
            have hold : ∀ w2, w2.heap = w.heap → (Builtin.firstCells z' xs.length (.slice a xs.length cap)).run P w2 = .ok (flat vs).toArray w2 := by
              intro w2 hw2
              refine run_firstCells (by rw [hfx, hvl]) ?_
              cases a with
              | none =>
                have : vs = [] := List.eq_nil_of_length_eq_zero (by rw [hvl, hl.1]; rfl)
                simp [this, flat]
              | some p => exact lies_at hl.2 hw2 (spot_flat hl.1 hvl) rfl rfl
            have hcl : cap < xs.length + ys.length := by
              rcases hown with rfl | rfl
              · obtain ⟨_, h1, h2⟩ := ho; omega
              · obtain ⟨_, h1⟩ := ho; omega
            obtain ⟨nc, w', h5, hw', hsame, hrun⟩ := run_append_out (ty := ty) hR hu (b4 w) b5 hcl hmost hold
            obtain ⟨k1, k2⟩ := cellsL_rep (hrl.append b1) hcs
            rw [flat_append] at k1 k2
            have hp := hs.push (ab := .cells cs) hw' hsame [] (by simp) (fun hge => ⟨flat vs ++ flat us, (Builtin.zeroCells z.cells (nc - (xs.length + ys.length))).toList, e, by
              rw [push_new hw']; congr 2; apply Array.ext'; simp, RepL.mono hge _ _ k1, k2⟩)
            refine ⟨_, w', _, hrun, ?_, hp.1, hp.2⟩
            simp only [Rep]
            refine ⟨w.heap.size, ⟨w.heap.size, 0, none⟩, nc, by simp [← hs.bl], rfl, h5, fun _ => ⟨rfl, _, _, _, push_new hw', ?_⟩⟩
            simp only [Array.size_append, List.size_toArray, size_zeroCells, hR.zs, hfx, hfy, hvl, hul, Nat.zero_add]
            rw [← Nat.add_mul, ← Nat.add_mul]
            exact Nat.mul_le_mul_right _ (by omega)
          · cases h
      · cases h
    · rename_i heq _; cases heq
    · cases h
  | msl i off z' n =>
    split at h
    · rename_i heq _; cases heq
    · rename_i i1 off1 z1 n1 ys he hys
      cases he
      have ha := app_argS (P := P) hs hy hys
      split at h
      · rename_i cs hcs
        split at h
        · rename_i hc
          obtain ⟨⟨⟨rfl, hz0⟩, rfl, hro⟩, hcl, hmost, hpos⟩ := hc
          split at h
          · rename_i ds hds
            cases h
            obtain ⟨us, b1, b2, b3, b4, b5⟩ := ha
            have hul := b1.length
            have hfy := flat_length fun u hu => (b3 u hu).1
            obtain ⟨k1, k2⟩ := cellsL_rep b1 hds
            simp only [Rep] at hx
            obtain ⟨b, a, cap, hb, rfl, hcap, hroom⟩ := hx
            unfold St.cell? at hcs
            split at hcs
            · rename_i cs' hbl
              cases hcs
              have hnd : s.bl[i]? ≠ some .dead := by rw [hbl]; intro e; cases e
              obtain ⟨vs, rest, e1, h1, h2, h3⟩ := hs.blocks i b _ hb hbl
              have hvl : vs.length = n * z' := by rw [h2.length, hcl]
              have hlp : b ∈ g.lps → ∀ o : Obj, ∃ lp, o = .loop lp := fun hl => by
                obtain ⟨lp, hlp⟩ := hs.lps b hl
                rw [h1] at hlp; cases hlp
              by_cases hin : n + ys.length ≤ cap
              · obtain ⟨ha, c0, e0, fz0, q1, q2⟩ := hroom (by omega)
                subst ha
                rw [h1] at q1; cases q1
                simp only [Nat.zero_add, List.size_toArray, List.length_append] at q2
                have hfit : n * z' + (flat us).length ≤ vs.length + rest.length := by
                  rw [hfy, hul, ← Nat.add_mul]
                  exact Nat.le_trans (Nat.mul_le_mul_right _ hin) q2
                have hrun := run_append_in (ty := ty) (w := w) (b := b) (o := 0) hR hu (b4 w) (b5 w rfl) hin
                  (fun j hj => by
                    rw [cell?_of h1]
                    have : 0 + n * z' + j < (vs ++ rest).length := by rw [List.length_append]; omega
                    simp only [List.getElem?_toArray, List.getElem?_eq_getElem this, Option.isSome_some])
                  (fun j hj => by simp [World.frozen?, h1]) (fun u hu => oneCell'_of (k2 u hu))
                obtain ⟨a1, a2, a3, a4⟩ := setCells_heap b (flat us) (0 + n * z') w (vs ++ rest).toArray e1 (0, 0) h1 (by simp; omega)
                have hg := hs.regrow (ab := .cells (cs ++ ds)) hb hro hnd a1 a2 a3 a4 (fun hge => ⟨vs ++ flat us, rest.drop (flat us).length, e1, by
                    rw [a1]
                    congr 2
                    simp only [Nat.zero_add]
                    rw [List.take_append_of_le_length (by omega), List.take_of_length_le (by omega), List.drop_append, List.drop_of_length_le (by omega)]
                    simp only [List.append_assoc, List.nil_append]
                    rw [show n * z' + (flat us).length - vs.length = (flat us).length by omega], (RepL.mono hge _ _ h2).append (RepL.mono hge _ _ k1), fun u hu => by
                    rcases List.mem_append.1 hu with hu | hu
                    · exact h3 u hu
                    · exact k2 u hu⟩) (fun hl => hlp hl _) (.at a2 h1 a1 (by simp; omega))
                refine ⟨_, _, _, hrun, ?_, hg.1, hg.2⟩
                simp only [Rep]
                exact ⟨b, _, cap, by simp [← hs.bl], rfl, hin, fun _ => ⟨rfl, hg.2.ge.size.room ⟨_, _, _, h1, by simpa using q2⟩⟩⟩
              · have hold : ∀ w2, w2.heap = w.heap → (Builtin.firstCells z' n (.slice (some a) n cap)).run P w2 = .ok vs.toArray w2 := by
                  intro w2 hw2
                  refine run_firstCells (by rw [hvl]) ?_
                  intro j v hj
                  have hjl := (List.getElem?_eq_some_iff.1 hj).1
                  have hp : 0 < cap := by
                    rcases Nat.eq_zero_or_pos n with h0 | h0
                    · rw [hvl, h0] at hjl; simp at hjl
                    · omega
                  rw [(hroom hp).1, addr_add, cell?_congr (w := w) (by rw [hw2]), cell?_of h1]
                  simp only [List.getElem?_toArray, Nat.zero_add]
                  rw [List.getElem?_append_left hjl]
                  exact hj
                obtain ⟨nc, w', h5, hw', hsame, hrun⟩ := run_append_out (ty := ty) hR hu (b4 w) b5 (by omega) hmost hold
                have hk := hs.setb (w' := w) (ab := .dead) hb hro h1 (fun _ _ => rfl) rfl ⟨rfl, rfl, rfl⟩ (fun _ => ⟨_, _, h1⟩) (fun hl => hlp hl _) hnd (.refl _)
                have hp := hk.1.push (ab := .cells (cs ++ ds)) hw' hsame [] (by simp) (fun hge => ⟨vs ++ flat us, (Builtin.zeroCells z.cells (nc - (n + ys.length))).toList, e, by
                  rw [push_new hw']; congr 2; apply Array.ext'; simp, (RepL.mono hge _ _ h2).append (RepL.mono hge _ _ k1), fun u hu => by
                    rcases List.mem_append.1 hu with hu | hu
                    · exact h3 u hu
                    · exact k2 u hu⟩)
                refine ⟨_, w', _, hrun, ?_, hp.1, hk.2.trans hp.2⟩
                simp only [Rep]
                refine ⟨w.heap.size, ⟨w.heap.size, 0, none⟩, nc, by simp [← hs.bl], rfl, h5, fun _ => ⟨rfl, _, _, _, push_new hw', ?_⟩⟩
                simp only [Array.size_append, List.size_toArray, size_zeroCells, hR.zs, hfy, hvl, hul, Nat.zero_add]
                rw [← Nat.add_mul, ← Nat.add_mul]
                exact Nat.mul_le_mul_right _ (by omega)
            · cases hcs
          · cases h
        · cases h
      · cases h
    · cases h
  | _ => simp at h

theorem appA_sound (hs : StR L.toLk C g s w) {t u e ty : TypeId} {i : TypeInfo} {z : Value} {sz : Nat} (hR : RowInfo P t e i z sz) (hu : notIntT P u = true) {x y : AV} {cx cy : Value} (hx : Rep L.toLk g w x cx) (hy : Rep L.toLk g w y cy)
    {v : AV} {s' : St} (h : appA s sz x y = some (v, s')) :
    ∃ g' w' cv, (Builtin.append_ #[t, u] ty #[cx, cy]).run P w = .ok cv w' ∧ Rep L.toLk g' w' v cv ∧ StR L.toLk C g' s' w' ∧ Ext g s w g' s' w' := by
  unfold appA at h
  cases x with
  | sl own z' xs =>
    split at h
    · rename_i own1 z1 xs1 ys he hys
      cases he
      have ha := app_argS (P := P) hs hy hys
      split at h
      · rename_i hc
        obtain ⟨rfl, hmost⟩ := hc
        simp only [Rep] at hx
        obtain ⟨a, cap, vs, rfl, hcap, hun, hrl, hsz, hl, ho⟩ := hx
        obtain ⟨us, b1, b2, b3, b4, b5⟩ := ha
        have hvl := hrl.length
        have hul := b1.length
        have hfx := flat_length fun u hu => (hsz u hu).1
        have hfy := flat_length fun u hu => (b3 u hu).1
        cases ys with
        | nil =>
          simp only at h
          cases h
          have hus : us = [] := List.eq_nil_of_length_eq_zero hul
          subst hus
          exact ⟨g, w, _, run_append_none hR hu (b4 w) (b5 w rfl) hcap, by
            simp only [Rep]; exact ⟨a, cap, vs, rfl, hcap, hun, hrl, hsz, hl, ho⟩, hs, .refl _ _ _⟩
        | cons y0 yr =>
          obtain ⟨ys, hysd⟩ : ∃ ys, ys = y0 :: yr := ⟨_, rfl⟩
          have hpos : 0 < ys.length := by rw [hysd]; simp
          rw [← hysd] at hmost b1 b2 b4 b5 hul
          simp only [← hysd] at h
          have hold : ∀ w2, w2.heap = w.heap → (Builtin.firstCells z' xs.length (.slice a xs.length cap)).run P w2 = .ok (flat vs).toArray w2 := by
            intro w2 hw2
            refine run_firstCells (by rw [hfx, hvl]) ?_
            cases a with
            | none =>
              have : vs = [] := List.eq_nil_of_length_eq_zero (by rw [hvl, hl.1]; rfl)
              simp [this, flat]
            | some p => exact lies_at hl.2 hw2 (spot_flat hl.1 hvl) rfl rfl
          have hun' : AV.untokL (xs ++ ys) = xs ++ ys := by rw [AV.untokL_append, hun, b2]
          have hall : ∀ q ∈ vs ++ us, Sized z' q := by
            intro q hq; rcases List.mem_append.1 hq with hq | hq
            · exact hsz q hq
            · exact b3 q hq
          have hflen : (flat (vs ++ us)).length = (xs.length + ys.length) * z' := by rw [flat_append, List.length_append, hfx, hfy, hvl, hul, Nat.add_mul]
          -- a new row
          have out : ∀ (hlt : cap < xs.length + ys.length) (tk' : List TokI) (t' : Nat) (nc : Nat),
              (∀ (q : Nat) (T : TokI), g.tk[q]? = some T → ∃ T', tk'[q]? = some T' ∧ T.top ≤ T'.top ∧ (T'.top = T.top → T' = T)) →
              (∀ (q : Nat) (T : TokI), tk'[q]? = some T → g.tk[q]? = some T ∨ (q = t' ∧ T = ⟨⟨w.heap.size, 0, none⟩, nc, z', xs.length + ys.length⟩)) →
              tk'[t']? = some ⟨⟨w.heap.size, 0, none⟩, nc, z', xs.length + ys.length⟩ →
              (∀ q, q < s.rt → tk'[q]? = g.tk[q]?) → xs.length + ys.length ≤ nc → ∀ w' : World,
              w'.heap = w.heap.push (.cells ((flat vs).toArray ++ (flat us).toArray ++ Builtin.zeroCells z.cells (nc - (xs.length + ys.length))) e) → Same w w' →
              ∃ g', Rep L.toLk g' w' (.sl (.tok t') z' (xs ++ ys)) (.slice (some ⟨w.heap.size, 0, none⟩) (xs.length + ys.length) nc) ∧ StR L.toLk C g' { s with tk := tk'.map (·.top) } w' ∧ Ext g s w g' { s with tk := tk'.map (·.top) } w' := by
            intro hlt tk' t' nc h1 h2 h3 h4 h5 w' hw' hsame
            have hcs : ((flat vs).toArray ++ (flat us).toArray ++ Builtin.zeroCells z.cells (nc - (xs.length + ys.length))).size = nc * z' := by
              simp only [Array.size_append, List.size_toArray, size_zeroCells, hR.zs, hfx, hfy, hvl, hul]
              rw [← Nat.add_mul, ← Nat.add_mul]
              congr 1; omega
            have hlive : ∀ (q : Nat) (T : TokI), g.tk[q]? = some T → T.a.block < w.heap.size := by
              intro q T hT
              obtain ⟨c', e', fz', h6, _⟩ := (hs.toks q T hT).space
              exact lt_of_heap h6
            have hnew := hs.newRow hw' hsame ((xs.length + ys.length) * z') tk' h1
              (fun q T hT => by
                rcases h2 q T hT with h | ⟨_, rfl⟩
                · exact .inl h
                · exact .inr ⟨rfl, by rw [hcs]; exact Nat.le_refl _, h5, Nat.le_refl _, fun o _ hh => by simp at hh⟩)
              (fun q q' T T' hT hT' e1 e2 => by
                rcases h2 q T hT with h | ⟨rfl, _⟩
                · have := hlive q T h; omega
                · rcases h2 q' T' hT' with h | ⟨rfl, _⟩
                  · have := hlive q' T' h; omega
                  · rfl) h4
            refine ⟨_, ?_, hnew.1, hnew.2⟩
            simp only [Rep]
            refine ⟨some ⟨w.heap.size, 0, none⟩, nc, vs ++ us, by simp, by simpa using h5, hun', (RepL.mono hnew.2.ge _ _ hrl).append (RepL.mono hnew.2.ge _ _ b1), hall, ⟨fun _ => rfl, ?_⟩, ⟨rfl, _, h3, by simp, fun _ => ⟨rfl, rfl, rfl⟩⟩⟩
            refine lies_new (g := g) hw' ?_ (by rw [hflen]; exact Nat.le_refl _)
            rw [flat_append]
            simp only [Array.toList_append, List.append_assoc]
            rw [← List.append_assoc]
            exact List.take_left
          cases own with
          | any => simp only at h; subst hysd; cases h
          | nil =>
            subst hysd
            simp only at h
            cases h
            obtain ⟨rfl, hl0, hc0⟩ := ho
            obtain ⟨nc, w', h5, hw', hsame, hrun⟩ := run_append_out (ty := ty) hR hu (b4 w) b5 (by omega) hmost hold
            obtain ⟨g', c1, c2, c3⟩ := out (by omega) (g.tk ++ [⟨⟨w.heap.size, 0, none⟩, nc, z', xs.length + (y0 :: yr).length⟩]) g.tk.length nc
              (fun q T hT => ⟨T, by rw [List.getElem?_append_left (List.getElem?_eq_some_iff.1 hT).1]; exact hT, Nat.le_refl _, fun _ => rfl⟩)
              (fun q T hT => by
                by_cases hq : q < g.tk.length
                · rw [List.getElem?_append_left hq] at hT; exact .inl hT
                · have hq' := (List.getElem?_eq_some_iff.1 hT).1
                  simp at hq'
                  have : q = g.tk.length := by omega
                  subst this
                  simp at hT
                  exact .inr ⟨rfl, hT.symm⟩)
              (by simp) (fun q hq => by
                have h0 := hs.rt; have h1 := congrArg List.length hs.tk; simp at h1
                rw [List.getElem?_append_left (by omega)]) h5 w' hw' hsame
            have htk : s.tk.length = g.tk.length := by rw [← hs.tk]; simp
            refine ⟨g', w', _, hrun, by rw [htk]; exact c1, ?_, ?_⟩
            · simpa [hs.tk] using c2
            · simpa [hs.tk] using c3
          | full =>
            subst hysd
            simp only at h
            cases h
            obtain ⟨hsome, hc0⟩ := ho
            obtain ⟨nc, w', h5, hw', hsame, hrun⟩ := run_append_out (ty := ty) hR hu (b4 w) b5 (by simp at hpos ⊢; omega) hmost hold
            obtain ⟨g', c1, c2, c3⟩ := out (by simp at hpos ⊢; omega) (g.tk ++ [⟨⟨w.heap.size, 0, none⟩, nc, z', xs.length + (y0 :: yr).length⟩]) g.tk.length nc
              (fun q T hT => ⟨T, by rw [List.getElem?_append_left (List.getElem?_eq_some_iff.1 hT).1]; exact hT, Nat.le_refl _, fun _ => rfl⟩)
              (fun q T hT => by
                by_cases hq : q < g.tk.length
                · rw [List.getElem?_append_left hq] at hT; exact .inl hT
                · have hq' := (List.getElem?_eq_some_iff.1 hT).1
                  simp at hq'
                  have : q = g.tk.length := by omega
                  subst this
                  simp at hT
                  exact .inr ⟨rfl, hT.symm⟩)
              (by simp) (fun q hq => by
                have h0 := hs.rt; have h1 := congrArg List.length hs.tk; simp at h1
                rw [List.getElem?_append_left (by omega)]) h5 w' hw' hsame
            have htk : s.tk.length = g.tk.length := by rw [← hs.tk]; simp
            refine ⟨g', w', _, hrun, by rw [htk]; exact c1, ?_, ?_⟩
            · simpa [hs.tk] using c2
            · simpa [hs.tk] using c3
          | tok t0 =>
            subst hysd
            simp only at h
            split at h
            · rename_i hcond
              obtain ⟨hrt, htop⟩ := hcond
              cases h
              obtain ⟨hsome, T, hT, hle, heq⟩ := ho
              have hTtop : T.top = xs.length := by
                have h1 : (g.tk.map (·.top))[t0]? = some xs.length := by rw [hs.tk]; exact htop
                rw [List.getElem?_map, hT] at h1
                simpa using h1
              have hself : { a := T.a, cap := T.cap, sz := T.sz, top := T.top } = T := rfl
              obtain ⟨rfl, rfl, rfl⟩ := heq hTtop
              have hT0 := hs.toks t0 T hT
              have hlt0 : t0 < g.tk.length := (List.getElem?_eq_some_iff.1 hT).1
              by_cases hroom : xs.length + (y0 :: yr).length ≤ T.cap
              · obtain ⟨c, e0, fz, hc, hsp, hfz⟩ := hT0.space
                have hTa : T.a = ⟨T.a.block, T.a.off, none⟩ := by
                  have hsp0 := hT0.spot
                  generalize T.a = ad at hsp0
                  cases ad
                  simp only at hsp0
                  subst hsp0; rfl
                have hfit : T.a.off + xs.length * T.sz + (flat us).length ≤ c.size := by
                  rw [hfy, hul, Nat.add_assoc, ← Nat.add_mul]
                  have : (xs.length + (y0 :: yr).length) * T.sz ≤ T.cap * T.sz := Nat.mul_le_mul_right _ hroom
                  omega
                have hrun := run_append_in (ty := ty) (w := w) (b := T.a.block) (o := T.a.off) hR hu (b4 w) (b5 w rfl) hroom
                  (fun j hj => by
                    rw [cell?_of hc]
                    have : T.a.off + xs.length * T.sz + j < c.size := by omega
                    simp [this])
                  (fun j hj => by
                    have := hfz (T.a.off + xs.length * T.sz + j) (by omega)
                    obtain ⟨lo, hi⟩ := fz
                    simp only [World.frozen?, hc]
                    simp only [Bool.and_eq_false_iff, decide_eq_false_iff_not]
                    by_cases h1 : lo ≤ T.a.off + xs.length * T.sz + j
                    · exact .inr fun h2 => this ⟨h1, h2⟩
                    · exact .inl h1)
                  (fun v hv => by
                    exact oneCell'_of (flat_one (fun u hu => (b3 u hu).2) v hv))
                obtain ⟨a1, a2, a3, a4⟩ := setCells_heap T.a.block (flat us) (T.a.off + xs.length * T.sz) w c e0 fz hc hfit
                have hg := hs.growRow hT hrt (y0 :: yr).length hpos (by omega) hc a1 (by simp; omega) (fun o ho => by
                    rw [hTtop] at ho
                    simp only [List.getElem?_toArray, List.append_assoc]
                    rw [List.getElem?_append_left (by simp; omega), List.getElem?_take, if_pos ho]
                    simp) a2 a3 a4
                rw [hTtop] at hg
                rw [← hTa] at hrun
                refine ⟨{ g with tk := g.tk.set t0 { T with top := xs.length + (y0 :: yr).length }, imm := fun b o => g.imm b o ∨ (b = T.a.block ∧ o < T.a.off + (xs.length + (y0 :: yr).length) * T.sz) }, _, _, hrun, ?_, hg.1, hg.2⟩
                simp only [Rep]
                have hge := hg.2.ge
                refine ⟨some T.a, T.cap, vs ++ us, by simp, by simpa using hroom, hun', ?_, hall, ⟨fun _ => hT0.spot, ?_⟩, ⟨rfl, _, List.getElem?_set_self hlt0, by simp, fun _ => ⟨rfl, rfl, rfl⟩⟩⟩
                · exact (RepL.mono hge _ _ hrl).append (RepL.mono hge _ _ b1)
                · rw [flat_append]
                  intro j v hj
                  have hfvl : (flat vs).length = xs.length * T.sz := by rw [hfx, hvl]
                  by_cases hjv : j < (flat vs).length
                  · rw [List.getElem?_append_left hjv] at hj
                    obtain ⟨h1, h2⟩ := hl.2 j v hj
                    obtain ⟨h3, h4⟩ := hge.imm _ _ h1
                    exact ⟨h3, h4.trans h2⟩
                  · rw [List.getElem?_append_right (by omega)] at hj
                    have hju : j - (flat vs).length < (flat us).length := (List.getElem?_eq_some_iff.1 hj).1
                    refine ⟨.inr ⟨rfl, ?_⟩, ?_⟩
                    · rw [Nat.add_mul, ← hul, ← hfy]; omega
                    · rw [cell?_of a1]
                      simp only [List.getElem?_toArray, List.append_assoc]
                      have hlen1 : (c.toList.take (T.a.off + xs.length * T.sz)).length = T.a.off + xs.length * T.sz := by have hcl := Array.length_toList (xs := c); rw [List.length_take]; omega
                      rw [List.getElem?_append_right (by rw [hlen1]; omega), List.getElem?_append_left (by rw [hlen1]; omega), hlen1]
                      rw [← hj]; congr 1; omega
              · obtain ⟨nc, w', h5, hw', hsame, hrun⟩ := run_append_out (ty := ty) hR hu (b4 w) b5 (by omega) hmost hold
                obtain ⟨g', c1, c2, c3⟩ := out (by omega) (g.tk.set t0 ⟨⟨w.heap.size, 0, none⟩, nc, T.sz, xs.length + (y0 :: yr).length⟩) t0 nc
                  (fun q U hU => by
                    by_cases hq : q = t0
                    · subst hq; rw [hT] at hU; cases hU
                      exact ⟨_, List.getElem?_set_self hlt0, by simp [hTtop], fun h6 => by simp [hTtop] at h6⟩
                    · exact ⟨U, by rw [List.getElem?_set_ne (Ne.symm hq)]; exact hU, Nat.le_refl _, fun _ => rfl⟩)
                  (fun q U hU => by
                    by_cases hq : q = t0
                    · subst hq; rw [List.getElem?_set_self hlt0] at hU; exact .inr ⟨rfl, by cases hU; rfl⟩
                    · rw [List.getElem?_set_ne (Ne.symm hq)] at hU; exact .inl hU)
                  (List.getElem?_set_self hlt0) (fun q hq => by rw [List.getElem?_set_ne (by omega)]) h5 w' hw' hsame
                refine ⟨g', w', _, hrun, c1, ?_, ?_⟩
                · simpa [List.map_set, hs.tk] using c2
                · simpa [List.map_set, hs.tk] using c3
            · cases h
      · cases h
    · cases h
  | _ => simp at h
end
end Ab

/- Arithmetic, comparisons, conversions. No condition. -/
namespace Ab
open Go
section
variable {P : Program} {L : Link} {C : CodeR} {g : Gh} {s : St} {w : World} {ρ : Operand → Value} {ev : Opd → AV}

theorem toList_data (s : ByteArray) : s.toList = s.data.toList := by
  have key : ∀ (n i : Nat) (r : List UInt8), s.size - i = n → ByteArray.toList.loop s i r = r.reverse ++ s.data.toList.drop i := by
    intro n
    induction n with
    | zero =>
      intro i r h
      rw [ByteArray.toList.loop, if_neg (by omega)]
      have : s.data.toList.length ≤ i := by
        have : s.size = s.data.size := rfl
        simp; omega
      rw [List.drop_eq_nil_of_le this]; simp
    | succ n ih =>
      intro i r h
      rw [ByteArray.toList.loop, if_pos (by omega), ih (i + 1) _ (by omega)]
      have hlt : i < s.data.toList.length := by
        have : s.size = s.data.size := rfl
        simp; omega
      rw [List.drop_eq_getElem_cons hlt]
      simp only [List.reverse_cons, List.append_assoc, List.singleton_append]
      congr 2
      simp only [ByteArray.get!]
      simp at hlt
      simp [hlt]
  have := key s.size 0 [] (by omega)
  simpa [ByteArray.toList] using this

theorem toList_mk (l : List UInt8) : (ByteArray.mk l.toArray).toList = l := by rw [toList_data]

theorem run_eqGuard_other {op : BinOp} {t : TypeId} {x y : Operand} {a b : Value} (h1 : ¬ (a = .nilIface ∧ b = .nilIface)) (h2 : ∀ c d, ¬ (a = .agg c ∧ b = .agg d)) : (eqGuard op t x y a b).run P w = .ok () w := by
  unfold eqGuard
  cases op <;> simp only [Bool.not_true, Bool.not_false, if_true, Bool.false_eq_true, if_false, Sem.run_pure]
  all_goals
    cases a <;> cases b <;> first | rfl | exact absurd ⟨rfl, rfl⟩ h1 | exact absurd ⟨rfl, rfl⟩ (h2 _ _)

theorem binInt_sound {op : BinOp} {t : TypeId} {k l : IntKind} {a b : Int} {c : Cls} {v : AV} (h : binA op c (.int k a) (.int l b) = some v) (g : Gh) : ∃ cv, (Go.binOp op t (.int k a) (.int l b)).run P w = .ok cv w ∧ Rep L.toLk g w v cv := by
  simp only [binA] at h
  cases op <;> simp only at h
  case shl =>
    split at h
    · cases h; exact ⟨_, by simp [Go.binOp, Op.shift, show ¬ b < 0 by omega]; rfl, by simp [Rep]⟩
    · cases h
  case shr =>
    split at h
    · cases h; exact ⟨_, by simp [Go.binOp, Op.shift, show ¬ b < 0 by omega]; rfl, by simp [Rep]⟩
    · cases h
  all_goals (split at h; · cases h)
  all_goals (rename_i hk; simp only [ne_eq, Decidable.not_not] at hk; subst hk)
  case quo =>
    split at h
    · cases h
    · rename_i hb; cases h; exact ⟨_, by simp [Go.binOp, Op.intDiv, hb]; rfl, by simp [Rep]⟩
  case rem =>
    split at h
    · cases h
    · rename_i hb; cases h; exact ⟨_, by simp [Go.binOp, Op.intDiv, hb]; rfl, by simp [Rep]⟩
  all_goals (cases h; exact ⟨_, by simp [Go.binOp, Op.intArith, Op.intBits, Op.intCmp]; rfl, by simp [Rep]⟩)

theorem binStr_sound {op : BinOp} {t : TypeId} {a b : List UInt8} {c : Cls} {v : AV} (h : binA op c (.str a) (.str b) = some v) (g : Gh) : ∃ cv, (Go.binOp op t (.string ⟨a.toArray⟩) (.string ⟨b.toArray⟩)).run P w = .ok cv w ∧ Rep L.toLk g w v cv := by
  simp only [binA] at h
  cases op <;> simp only at h
  case add =>
    split at h
    · rename_i hle
      cases h
      refine ⟨_, ?_, by simp only [Rep]; exact rfl⟩
      have := run_string_add_sum (P := P) w ⟨a.toArray⟩ ⟨b.toArray⟩ (by simp [ByteArray.size]; unfold most at hle; omega)
      rw [ByteArray.mk_append_mk] at this
      simpa [Go.binOp] using this
    · cases h
  all_goals (first | (cases h; done) | (cases h; exact ⟨_, by simp [Go.binOp, Op.stringOp, toList_mk]; rfl, by simp [Rep]⟩))

theorem unA_sound {op : UnOp} {x v : AV} {cx : Value} (hx : Rep L.toLk g w x cx) (h : unA op x = some v) : ∃ cv, (Op.unary op cx).run P w = .ok cv w ∧ Rep L.toLk g w v cv := by
  unfold unA at h
  split at h
  · cases h; simp only [Rep] at hx; subst hx; exact ⟨_, by simp [Op.unary, Op.intArith]; rfl, by simp [Rep]⟩
  · cases h; simp only [Rep] at hx; subst hx; exact ⟨_, by simp [Op.unary]; rfl, by simp [Rep]⟩
  · cases h
end
end Ab

/- '==' beyond numbers and strings; conversions; nil checks. No condition. -/
namespace Ab
open Go
section
variable {P : Program} {L : Link} {C : CodeR} {g : Gh} {s : St} {w : World} {ρ : Operand → Value} {ev : Opd → AV}

/- nothing of a block that the call made is shared with a string -/
theorem calm_block (hs : StR L.toLk C g s w) {i b : Nat} (hb : g.bl[i]? = some b) (o : Nat) :
    (frozen ⟨b, o, none⟩).run P w = .ok false w ∧ (noView ⟨b, o, none⟩).run P w = .ok () w ∧ (stringish ⟨b, o, none⟩).run P w = .ok false w := by
  obtain ⟨x, _, hx⟩ := hs.ab? hb
  cases x with
  | cells cs =>
    obtain ⟨vs, rest, e, h1, _⟩ := hx
    have hf : ∀ o, w.frozen? ⟨b, o, none⟩ = false := fun o => by simp [World.frozen?, h1]
    have hsh : w.shape? b = some (e, (vs ++ rest).toArray.size) := by simp [World.shape?, h1]
    refine ⟨by simp [hf], by simp [noView, viewAt, hsh], ?_⟩
    simp only [stringish, Sem.run_bind, run_frozen, hf, Result.andThen_ok, Sem.run_ite, Bool.false_eq_true, if_false, Sem.run_pure, run_shape, hsh]
  | dead =>
    obtain ⟨c, e, h1⟩ := hx
    have hf : ∀ o, w.frozen? ⟨b, o, none⟩ = false := fun o => by simp [World.frozen?, h1]
    have hsh : w.shape? b = some (e, c.size) := by simp [World.shape?, h1]
    refine ⟨by simp [hf], by simp [noView, viewAt, hsh], ?_⟩
    simp only [stringish, Sem.run_bind, run_frozen, hf, Result.andThen_ok, Sem.run_ite, Bool.false_eq_true, if_false, Sem.run_pure, run_shape, hsh]
  | amap es =>
    obtain ⟨cs, cl, h1, _⟩ := hx
    have hf : ∀ o, w.frozen? ⟨b, o, none⟩ = false := fun o => by simp [World.frozen?, h1]
    have hsh : w.shape? b = none := by simp [World.shape?, h1]
    exact ⟨by simp [hf], by simp [noView, viewAt, hsh, getObj, Sem.run, h1], by simp [stringish, hf, hsh]⟩
  | siter st p =>
    have h1 : w.heap[b]? = _ := hx
    have hf : ∀ o, w.frozen? ⟨b, o, none⟩ = false := fun o => by simp [World.frozen?, h1]
    have hsh : w.shape? b = none := by simp [World.shape?, h1]
    exact ⟨by simp [hf], by simp [noView, viewAt, hsh, getObj, Sem.run, h1], by simp [stringish, hf, hsh]⟩
  | loop l =>
    obtain ⟨_, lp, _, _, h1, _⟩ := hx
    have hf : ∀ o, w.frozen? ⟨b, o, none⟩ = false := fun o => by simp [World.frozen?, h1]
    have hsh : w.shape? b = none := by simp [World.shape?, h1]
    exact ⟨by simp [hf], by simp [noView, viewAt, hsh, getObj, Sem.run, h1], by simp [stringish, hf, hsh]⟩

theorem run_sameAddr_ne (hs : StR L.toLk C g s w) {i j b c : Nat} (hb : g.bl[i]? = some b) (hc : g.bl[j]? = some c) (hne : b ≠ c) (o p : Nat) : (sameAddr ⟨b, o, none⟩ ⟨c, p, none⟩).run P w = .ok false w := by
  obtain ⟨f1, f2, f3⟩ := calm_block (P := P) hs hb o
  obtain ⟨g1, g2, g3⟩ := calm_block (P := P) hs hc p
  have hbc : (b == c) = false := by simpa using hne
  simp only [sameAddr, hbc, Bool.false_eq_true, if_false, Sem.run_bind, f1, g1, Result.andThen_ok, Bool.false_and, f2, g2, mayBeOne, f3, g3, run_shape, Sem.run_pure, Sem.run_ite, Bool.or_self]

theorem aeq_sound (hs : StR L.toLk C g s w) {t : TypeId} {x y : Operand} {c : Cls} (hcl : clsOk P t x y c = true) {u v : AV} {cu cv : Value} (hu : Rep L.toLk g w u cu) (hv : Rep L.toLk g w v cv) {r : Bool} (h : aeq c u v = some r) :
    (Op.equal t cu cv).run P w = .ok r w := by
  have e0 : ∀ a b, Op.equal t a b = Op.equalIn (9999 + 1) t a b := fun _ _ => rfl
  rw [e0]
  generalize 9999 = d
  clear e0
  unfold aeq at h
  unfold clsOk at hcl
  split at h <;> simp only at hcl <;> (first | cases h | skip)
  · -- bool
    split at hcl
    · rename_i ht; simp only [Rep] at hu hv; subst hu; subst hv; simp [Op.equalIn, run_underlying ht]
    · cases hcl
  · split at hcl
    · rename_i ht; simp only [Rep] at hu hv; subst hu; subst hv; simp [Op.equalIn, run_underlying ht]
    · cases hcl
  · split at hcl
    · rename_i ht; simp only [Rep] at hu hv; subst hu; obtain ⟨b, _, rfl⟩ := hv; simp [Op.equalIn, run_underlying ht]
    · cases hcl
  · split at hcl
    · rename_i ht; simp only [Rep] at hu hv; subst hv; obtain ⟨b, _, rfl⟩ := hu; simp [Op.equalIn, run_underlying ht]
    · cases hcl
  · -- two pointers
    rename_i i o j p
    split at hcl
    · rename_i e ht
      split at hcl
      · rename_i n hn
        simp only [ne_eq, decide_eq_true_eq] at hcl
        simp only [Rep] at hu hv
        obtain ⟨b, hb, rfl⟩ := hu
        obtain ⟨c, hc, rfl⟩ := hv
        simp only [Op.equalIn, Sem.run_bind, run_underlying ht, Result.andThen_ok, run_sizeOf hn]
        rw [if_pos hcl]
        split at h
        · rename_i hij
          cases h
          subst hij
          rw [hb] at hc; cases hc
          simp [sameAddr]
          rw [Bool.eq_iff_iff]; simp
        · cases h
      · cases hcl
    · cases hcl
  · -- slices
    split at hcl
    · rename_i ht
      simp only [Rep] at hu hv
      obtain ⟨a, cap, vs, rfl, _, _, _, _, _, ho⟩ := hu
      obtain ⟨a', cap', vs', rfl, _, _, _, _, _, ho'⟩ := hv
      obtain ⟨rfl, _, _⟩ := ho
      obtain ⟨rfl, _, _⟩ := ho'
      simp [Op.equalIn, run_underlying ht]
    · cases hcl
  · split at hcl
    · rename_i ht
      simp only [Rep] at hu hv
      obtain ⟨a, cap, vs, rfl, _, _, _, _, hl, hsome⟩ := hu
      simp only [OwnOk] at hsome
      obtain ⟨a', cap', vs', rfl, _, _, _, _, _, ho'⟩ := hv
      obtain ⟨rfl, _, _⟩ := ho'
      cases a with
      | none => cases hsome
      | some p => simp [Op.equalIn, run_underlying ht]
    · cases hcl
  · split at hcl
    · rename_i ht
      simp only [Rep] at hu hv
      obtain ⟨a, cap, vs, rfl, _, _, _, _, hl, ho⟩ := hu
      obtain ⟨a', cap', vs', rfl, _, _, _, _, _, ho'⟩ := hv
      obtain ⟨rfl, _, _⟩ := ho'
      obtain ⟨hsome, _⟩ := ho
      cases a with
      | none => cases hsome
      | some p => simp [Op.equalIn, run_underlying ht]
    · cases hcl
  · split at hcl
    · rename_i ht
      simp only [Rep] at hu hv
      obtain ⟨a, cap, vs, rfl, _, _, _, _, hl, ho⟩ := hu
      obtain ⟨a', cap', vs', rfl, _, _, _, _, _, ho'⟩ := hv
      obtain ⟨rfl, _, _⟩ := ho'
      obtain ⟨hsome, _⟩ := ho
      cases a with
      | none => cases hsome
      | some p => simp [Op.equalIn, run_underlying ht]
    · cases hcl
  · split at hcl
    · rename_i ht
      simp only [Rep] at hu hv
      obtain ⟨b, a0, cap, _, rfl, _⟩ := hu
      obtain ⟨a', cap', vs', rfl, _, _, _, _, _, ho'⟩ := hv
      obtain ⟨rfl, _, _⟩ := ho'
      simp [Op.equalIn, run_underlying ht]
    · cases hcl
  · -- maps
    split at hcl
    · rename_i ht; simp only [Rep] at hu hv; subst hu; subst hv; simp [Op.equalIn, run_underlying ht]
    · cases hcl
  · split at hcl
    · rename_i ht; simp only [Rep] at hu hv; subst hv; obtain ⟨b, _, rfl⟩ := hu; simp [Op.equalIn, run_underlying ht]
    · cases hcl
  · -- functions
    split at hcl
    · rename_i ht; simp only [Rep] at hu hv; subst hu; subst hv; simp [Op.equalIn, run_underlying ht]
    · cases hcl
  · split at hcl
    · rename_i ht; simp only [Rep] at hu hv; subst hv; obtain ⟨a, b, rfl, _⟩ := hu; simp [Op.equalIn, run_underlying ht]
    · cases hcl
  · split at hcl
    · rename_i ht; simp only [Rep] at hu hv; subst hv; obtain ⟨b, _, rfl⟩ := hu; simp [Op.equalIn, run_underlying ht]
    · cases hcl
  · -- interfaces
    split at hcl
    · rename_i ht; simp only [Rep] at hu hv; subst hu; subst hv; simp [Op.equalIn, run_underlying ht]
    · cases hcl
  · split at hcl
    · rename_i ht; simp only [Rep] at hu hv; subst hv; obtain ⟨b, rfl, _⟩ := hu; simp [Op.equalIn, run_underlying ht]
    · cases hcl
  · split at hcl
    · rename_i ht; simp only [Rep] at hu hv; subst hu; obtain ⟨b, rfl, _⟩ := hv; simp [Op.equalIn, run_underlying ht]
    · cases hcl
end
end Ab

/- The other operations: conversions, addresses, indexes, slices, tuples, maps. No condition. -/
namespace Ab
open Go
section
variable {P : Program} {L : Link} {C : CodeR} {g : Gh} {s : St} {w : World} {ρ : Operand → Value} {ev : Opd → AV}

theorem nilchk_sound (hs : StR L.toLk C g s w) (he : Evs L g w ρ ev) {o : Oper} {x : Operand} {x' : Opd} (ho : o.op = .nilCheck x) (hx : odOk L x x' = true)
    {r : AV × St} (h : opA ev s (.nilchk x') = some r) : OpRes P L C g s w r ((execOp ρ o).run P w) := by
  have hr := he.rep _ _ hx
  simp only [opA] at h
  generalize ev x' = v at h hr
  have key : (∀ u, ρ x = u → (execOp ρ o).run P w = .ok (.value u) w) → OpRes P L C g s w (v, s) ((execOp ρ o).run P w) := fun hk => OpRes.val hs (hk _ rfl) hr
  cases v with
  | nilp => cases h
  | nilif => cases h
  | nilf => cases h
  | junk => cases h
  | map m => cases m <;> (cases h; refine key fun u hu => ?_; simp only [Rep] at hr; first | (subst hr; simp [execOp, ho, hr, ← hu]) | (obtain ⟨_, _, hr⟩ := hr; simp [execOp, ho, hr, ← hu]) | simp [execOp, ho, hr, ← hu])
  | raw t z n => cases h
  | _ =>
    cases h; refine key fun u hu => ?_; simp only [Rep] at hr
    first
      | (obtain ⟨_, _, _, _, hr, _⟩ := hr; simp [execOp, ho, hr, ← hu]; done)
      | (obtain ⟨_, _, _, hr, _⟩ := hr; simp [execOp, ho, hr, ← hu]; done)
      | (obtain ⟨_, _, hr, _⟩ := hr; simp [execOp, ho, hr, ← hu]; done)
      | (obtain ⟨_, _, _, hr, _⟩ := hr; simp [execOp, ho, hr, ← hu]; done)
      | (obtain ⟨_, hr, _⟩ := hr; simp [execOp, ho, hr, ← hu]; done)
      | (obtain ⟨_, _, hr⟩ := hr; simp [execOp, ho, hr, ← hu]; done)
      | (simp [execOp, ho, hr, ← hu]; done)

theorem aeq_shape {c : Cls} {u q : AV} {b : Bool} {cu : Value} (h : aeq c u q = some b) (hu : Rep L.toLk g w u cu) :
    (∀ k n, cu ≠ .int k n) ∧ (∀ a, cu ≠ .string a) ∧ (∀ a b, cu ≠ .float a b) ∧ (∀ a b d, cu ≠ .complex a b d) ∧ (∀ cs, cu ≠ .agg cs) ∧ (cu = .nilIface → c = .iface) := by
  unfold aeq at h
  split at h <;> first | (cases h; done) | skip
  all_goals simp only [Rep] at hu
  all_goals first
    | (subst hu; simp; done)
    | (obtain ⟨_, _, _, _, rfl, _⟩ := hu; simp; done)
    | (obtain ⟨_, _, _, rfl, _⟩ := hu; simp; done)
    | (obtain ⟨_, _, rfl, _⟩ := hu; simp; done)
    | (obtain ⟨_, rfl, _⟩ := hu; simp; done)
    | (obtain ⟨_, _, rfl⟩ := hu; simp; done)

theorem run_aggEq {e : TypeId} {kd : IntKind} (he : P.underlying e = some (.int kd)) (hc : P.cellsOf e = 1) (d : Nat) {vs us : List Value} :
    ∀ (m i : Nat) (xs ys : List AV) (r : Bool), aggEq m xs ys = some r → RepL L.toLk g w xs (vs.drop i) → RepL L.toLk g w ys (us.drop i) → (Op.eqItems (d + 1) e (P.cellsOf e) vs.toArray us.toArray (List.range' i m)).run P w = .ok r w
  | 0, i, xs, ys, r, h, _, _ => by
    cases xs <;> cases ys <;> simp [aggEq] at h
    subst h; simp [Op.eqItems]
  | m + 1, i, xs, ys, r, h, h1, h2 => by
    have hia : (isAgg e).run P w = .ok false w := run_isAgg (by simp [isAggP, he, aggOf])
    cases xs with
    | nil => simp [aggEq] at h
    | cons x xs =>
      cases ys with
      | nil => cases x <;> simp [aggEq] at h
      | cons y ys =>
        simp only [RepL] at h1 h2
        obtain ⟨v, vr, e1, hx, hxs⟩ := h1
        obtain ⟨u, ur, e2, hy, hys⟩ := h2
        have g1 : vs[i]? = some v := by have := congrArg (·[0]?) e1; simpa using this
        have g2 : us[i]? = some u := by have := congrArg (·[0]?) e2; simpa using this
        have d1 : vs.drop (i + 1) = vr := by rw [← List.drop_drop, e1]; rfl
        have d2 : us.drop (i + 1) = ur := by rw [← List.drop_drop, e2]; rfl
        rw [← d1] at hxs
        rw [← d2] at hys
        have p1 : (part e vs.toArray (i * P.cellsOf e)).run P w = .ok v w := by
          simp [part, hia, hc, g1]
        have p2 : (part e us.toArray (i * P.cellsOf e)).run P w = .ok u w := by
          simp [part, hia, hc, g2]
        cases x <;> cases y <;> simp only [aggEq] at h <;> first | (cases h; done) | skip
        rename_i k a l b
        split at h
        · rename_i hkl
          subst hkl
          simp only [Rep] at hx hy
          subst hx hy
          have h3 : (Op.equalIn (d + 1) e (.int k a) (.int k b)).run P w = .ok (a == b) w := by simp [Op.equalIn, run_underlying he]
          simp only [List.range'_succ, Op.eqItems, Sem.run_bind, p1, p2, h3, Result.andThen_ok]
          by_cases hab : a = b
          · rw [if_pos hab] at h
            simpa [hab] using run_aggEq he hc d m (i + 1) xs ys r h hxs hys
          · rw [if_neg hab] at h
            cases h
            have : (a == b) = false := by simpa using hab
            simp [this]
        · cases h

theorem bin_sound (hs : StR L.toLk C g s w) (he : Evs L g w ρ ev) {o : Oper} {op : BinOp} {t yt : TypeId} {x y : Operand} {c : Cls} {x' y' : Opd} (ho : o.op = .binOp op t x y yt) (hx : odOk L x x' = true) (hy : odOk L y y' = true)
    (hcl : clsOk P t x y c = true) {r : AV × St} (h : opA ev s (.bin op c x' y') = some r) : OpRes P L C g s w r ((execOp ρ o).run P w) := by
  have hrx := he.rep _ _ hx
  have hry := he.rep _ _ hy
  simp only [opA, valStep] at h
  split at h
  · rename_i v hv
    cases h
    generalize ev x' = u at hv hrx
    generalize ev y' = q at hv hry
    have other : ∀ b, aeq c u q = some b → ((op = .eql ∧ v = .bool b) ∨ (op = .neq ∧ v = .bool (!b))) → OpRes P L C g s w (v, s) ((execOp ρ o).run P w) := by
      intro b hb hop
      obtain ⟨e1, e2, e3, e4, e5, e6⟩ := aeq_shape hb hrx
      have hgd : (eqGuard op t x y (ρ x) (ρ y)).run P w = .ok () w := by
        by_cases hn : ρ x = .nilIface ∧ ρ y = .nilIface
        · have hc := e6 hn.1
          subst hc
          simp only [clsOk] at hcl
          split at hcl
          · unfold eqGuard
            rw [hn.1, hn.2]
            rcases hop with ⟨rfl, _⟩ | ⟨rfl, _⟩ <;> cases x <;> cases y <;> first | (cases hcl; done) | simp
          · cases hcl
        · exact run_eqGuard_other hn fun cs ds hh => e5 cs hh.1
      have heq := aeq_sound hs hcl hrx hry hb
      have hbo : ∀ op', (op' = .eql ∨ op' = .neq) → (Go.binOp op' t (ρ x) (ρ y)).run P w = .ok (.bool (if op' = .eql then b else !b)) w := by
        intro op' hop'
        generalize ρ x = a at e1 e2 e3 e4 heq
        generalize ρ y = a' at heq
        rcases hop' with rfl | rfl <;> cases a <;> first
          | (exact absurd rfl (e1 _ _))
          | (exact absurd rfl (e2 _))
          | (exact absurd rfl (e3 _ _))
          | (exact absurd rfl (e4 _ _ _))
          | (simp only [Go.binOp, Sem.run_bind, heq, Result.andThen_ok, Sem.run_pure]; rfl)
      rcases hop with ⟨rfl, rfl⟩ | ⟨rfl, rfl⟩
      · exact OpRes.val hs (cv := .bool b) (by simp [execOp, ho, hgd, hbo .eql (.inl rfl)]) (by simp [Rep])
      · exact OpRes.val hs (cv := .bool (!b)) (by simp [execOp, ho, hgd, hbo .neq (.inr rfl)]) (by simp [Rep])
    by_cases hi : (∃ k a l b, u = .int k a ∧ q = .int l b)
    · obtain ⟨k, a, l, b, rfl, rfl⟩ := hi
      obtain ⟨cv, h1, h2⟩ := binInt_sound (P := P) (L := L) (w := w) (t := t) hv g
      simp only [Rep] at hrx hry
      refine OpRes.val hs (cv := cv) ?_ h2
      have hgd : (eqGuard op t x y (ρ x) (ρ y)).run P w = .ok () w := run_eqGuard_other (by rw [hrx]; simp) (by rw [hrx]; simp)
      simp [execOp, ho, hgd]
      simp [hrx, hry, h1]
    · by_cases hst : (∃ a b, u = .str a ∧ q = .str b)
      · obtain ⟨a, b, rfl, rfl⟩ := hst
        obtain ⟨cv, h1, h2⟩ := binStr_sound (P := P) (L := L) (w := w) (t := t) hv g
        simp only [Rep] at hrx hry
        refine OpRes.val hs (cv := cv) ?_ h2
        have hgd : (eqGuard op t x y (ρ x) (ρ y)).run P w = .ok () w := run_eqGuard_other (by rw [hrx]; simp) (by rw [hrx]; simp)
        simp [execOp, ho, hgd]
        simp [hrx, hry, h1]
      · unfold binA at hv
        split at hv
        · exact absurd ⟨_, _, _, _, rfl, rfl⟩ hi
        · exact absurd ⟨_, _, rfl, rfl⟩ hst
        · rename_i xs ys
          simp only [Rep] at hrx hry
          obtain ⟨vs, evs, rvs, _⟩ := hrx
          obtain ⟨us, eus, rus, _⟩ := hry
          have agg : ∀ n b, c = .agg n → aggEq n xs ys = some b → ((op = .eql ∧ v = .bool b) ∨ (op = .neq ∧ v = .bool (!b))) → OpRes P L C g s w (v, s) ((execOp ρ o).run P w) := by
            intro n b hc hb hop
            subst hc
            simp only [clsOk] at hcl
            split at hcl
            · rename_i len e ht
              simp only [Bool.and_eq_true, beq_iff_eq, Bool.not_eq_true'] at hcl
              obtain ⟨⟨⟨⟨rfl, hk⟩, hc1⟩, hi1⟩, hg⟩ := hcl
              split at hk
              · rename_i kd he
                obtain ⟨inf, hinf⟩ := Option.isSome_iff_exists.1 hi1
                have heq : (Op.equal t (ρ x) (ρ y)).run P w = .ok b w := by
                  rw [evs, eus]
                  show (Op.equalIn (9998 + 1 + 1) t _ _).run P w = _
                  rw [run_equalIn_array w (9998 + 1) _ _ ht hinf, List.range_eq_range']
                  exact run_aggEq he hc1 9998 len 0 xs ys b hb (by simpa using rvs) (by simpa using rus)
                have hgd : (eqGuard op t x y (ρ x) (ρ y)).run P w = .ok () w := by
                  rw [evs, eus]
                  rcases hop with ⟨rfl, _⟩ | ⟨rfl, _⟩ <;> simp [eqGuard, hg]
                rcases hop with ⟨rfl, rfl⟩ | ⟨rfl, rfl⟩
                · refine OpRes.val hs (cv := .bool b) ?_ (by simp [Rep])
                  rw [evs, eus] at heq hgd
                  simp [execOp, ho, evs, eus, hgd, Go.binOp, heq]
                · refine OpRes.val hs (cv := .bool (!b)) ?_ (by simp [Rep])
                  rw [evs, eus] at heq hgd
                  simp [execOp, ho, evs, eus, hgd, Go.binOp, heq]
              · cases hk
            · cases hcl
          split at hv
          · rename_i n
            cases hb : aggEq n xs ys with
            | none => rw [hb] at hv; cases hv
            | some b => rw [hb] at hv; cases hv; exact agg n b rfl hb (.inl ⟨rfl, rfl⟩)
          · rename_i n
            cases hb : aggEq n xs ys with
            | none => rw [hb] at hv; cases hv
            | some b => rw [hb] at hv; cases hv; exact agg n b rfl hb (.inr ⟨rfl, rfl⟩)
          · cases hv
        · split at hv
          · split at hv
            · rename_i b hb
              cases hv
              exact other b hb (.inl ⟨rfl, rfl⟩)
            · cases hv
          · split at hv
            · rename_i b hb
              cases hv
              exact other b hb (.inr ⟨rfl, rfl⟩)
            · cases hv
          · cases hv
  · cases h
end
end Ab
