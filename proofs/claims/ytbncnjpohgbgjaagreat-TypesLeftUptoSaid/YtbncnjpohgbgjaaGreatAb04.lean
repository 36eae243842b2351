/- Parts of the proof, made small by program. No condition but what is told. -/
import Derived.Test.YtbncnjpohgbgjaaGreatAb03
import Derived.Laws.Concat
import Derived.Laws.BytesString
import Derived.ChangeKeysEq
set_option linter.all false
set_option maxHeartbeats 8000000
namespace Ab
open Go
section
variable {P : Program} {L : eB} {C : eR} {g : Gh} {s : St} {w : World} {ρ : Operand -> Value} {ev : bN -> AV}
theorem D1 (zc : List Value) (d : Value) : ∀ n : Nat, (List.range (n * zc.length)).map (fun i => zc.getD (i % zc.length) d) = (List.replicate n zc).flatten
 | 0 => by simp
 | n + 1 => by
  rw [Nat.add_mul, Nat.one_mul, List.range_add, List.map_append, D1 zc d n, List.replicate_succ', List.flatten_append]
  congr 1
  simp only [List.map_map, List.flatten_cons, List.flatten_nil, List.append_nil]
  apply List.ext_getElem
  ·simp
  ·intro i h1 h2
   simp at h1 h2
   simp [Nat.mod_eq_of_lt h2, Nat.mul_comm n, h2]
theorem Gg (n : Nat) (v : Value) : cM (List.replicate n v) = (List.replicate n v.cells.toList).flatten := by
 unfold cM; rw [List.flatMap_def]; simp
theorem fw {sz : Nat} : ∀ {vs : List Value}, (∀ u ∈ vs, u.cells.size = sz) -> (cM vs).length = vs.length * sz
 | [], _ => by simp [cM]
 | v :: vs, h => by
  have := fw (vs := vs) fun u hu => h u (List.mem_cons_of_mem _ hu)
  unfold cM at this ⊢
  simp only [List.flatMap_cons, List.length_append, this, Array.length_toList, h v (List.mem_cons_self ..), List.length_cons]
  rw [Nat.add_mul]; omega
theorem nd (xs ys : List Value) : cM (xs ++ ys) = cM xs ++ cM ys := by simp [cM]
theorem IP {sz : Nat} {vs : List Value} (h : ∀ u ∈ vs, u.cells.size = sz) (i : Nat) (hi : i <= vs.length) : (cM vs).take (i * sz) = cM (vs.take i) := by
 have h1 := nd (vs.take i) (vs.drop i)
 rw [List.take_append_drop] at h1
 have h2 := fw (vs := vs.take i) fun u hu => h u (List.mem_of_mem_take hu)
 rw [List.length_take, Nat.min_eq_left hi] at h2
 rw [h1, List.take_left' h2]
theorem DL {sz : Nat} {vs : List Value} (h : ∀ u ∈ vs, u.cells.size = sz) (i : Nat) (hi : i <= vs.length) : (cM vs).drop (i * sz) = cM (vs.drop i) := by
 have h1 := nd (vs.take i) (vs.drop i)
 rw [List.take_append_drop] at h1
 have h2 := fw (vs := vs.take i) fun u hu => h u (List.mem_of_mem_take hu)
 rw [List.length_take, Nat.min_eq_left hi] at h2
 rw [h1, List.drop_left' h2]
theorem QJ {sz : Nat} {vs : List Value} (h : ∀ u ∈ vs, u.cells.size = sz) (i : Nat) (hi : i < vs.length) (v : Value) :
  (cM vs).take (i * sz) ++ v.cells.toList ++ (cM vs).drop (i * sz + sz) = cM (vs.set i v) := by
 rw [List.set_eq_take_append_cons_drop, if_pos hi, nd, IP h i (Nat.le_of_lt hi)]
 have : i * sz + sz = (i + 1) * sz := by rw [Nat.add_mul, Nat.one_mul]
 rw [this, DL h (i + 1) hi]
 simp [cM]
theorem QI {vs : List Value} (h : ∀ u ∈ vs, ∀ c ∈ u.cells.toList, bs c) : ∀ c ∈ cM vs, bs c := by
 intro c hc
 unfold cM at hc
 rw [List.mem_flatMap] at hc
 obtain ⟨u, hu, hcu⟩ := hc
 exact h u hu c hcu
theorem Ic {sz : Nat} {x : AV} (h : az sz x = true) : ∃ cs, x.cells? = some cs /\ cs.length = sz := by
 unfold az at h
 split at h
 ·rename_i cs hcs; exact ⟨cs, hcs, by simpa using h⟩
 ·cases h
theorem Aj {sz : Nat} : ∀ {ps : List (Nat × Operand)} {qs : List (Nat × bN)} (_ : wI L g w ρ ev) (_ : uc L ps qs = true) {xs : List AV} {vs : List Value} {us : Array Value} {out : List AV}
  (_ : aw L.toLk g w xs vs) (_ : AV.untokL xs = xs) (_ : ∀ u ∈ vs, u.cells.size = sz) (_ : us.toList = cM vs) (_ : ∀ u ∈ vs, ∀ c ∈ u.cells.toList, bs c)
  (_ : aq sz xs (qs.map fun (i, x) => (i, (ev x).untok)) = some out),
  ∃ vs' us', Instr.fill (fun i => some (i * sz, sz)) us (ps.map fun (i, x) => (i, ρ x)) = some us' /\ aw L.toLk g w out vs' /\ AV.untokL out = out /\ (∀ u ∈ vs', u.cells.size = sz) /\ us'.toList = cM vs' /\
   (∀ u ∈ vs', ∀ c ∈ u.cells.toList, bs c) /\ out.length = xs.length
 | [], [], _, _, xs, vs, us, out, h1, h2, h3, h4, h5, h6 => by
  simp only [List.map_nil, aq, Option.some.injEq] at h6
  subst h6
  exact ⟨vs, us, rfl, h1, h2, h3, h4, h5, rfl⟩
 | [], _ :: _, _, h, _, _, _, _, _, _, _, _, _, _ => by simp [uc] at h
 | _ :: _, [], _, h, _, _, _, _, _, _, _, _, _, _ => by simp [uc] at h
 | (i, x) :: ps, (j, y) :: qs, he, h, xs, vs, us, out, h1, h2, h3, h4, h5, h6 => by
  simp only [uc, Bool.and_eq_true, beq_iff_eq] at h
  obtain ⟨⟨rfl, hxy⟩, hrest⟩ := h
  simp only [List.map_cons, aq] at h6
  split at h6
  ·rename_i hc
   obtain ⟨hi, hsz⟩ := hc
   obtain ⟨cs, hcs, hlen⟩ := Ic hsz
   have hr := (he.rep _ _ hxy).untok_same
   obtain ⟨a1, a2, a3⟩ := hr.cells hcs
   have hvl : vs.length = xs.length := h1.length
   have hsz' : (ρ x).cells.size = sz := by omega
   have husz : us.size = vs.length * sz := by
    have := congrArg List.length h4
    simpa [fw h3] using this
   have hle : i * sz + sz <= us.size := by
    rw [husz]
    calc i * sz + sz = (i + 1) * sz := by rw [Nat.add_mul, Nat.one_mul]
     _ <= vs.length * sz := Nat.mul_le_mul_right _ (by omega)
   have hz := HM (i * sz) (ρ x).cells us (by omega)
   rw [hsz', h4, QJ h3 i (by omega) (ρ x)] at hz
   obtain ⟨vs', us', b1, b2, b3, b4, b5, b6, b7⟩ := Aj (ps := ps) (qs := qs) he hrest (xs := xs.set i (ev y).untok) (vs := vs.set i (ρ x)) (out := out)
    (us := (ρ x).cells.zipIdx.foldl (fun cs (c, j) => cs.setIfInBounds (i * sz + j) c) us) (h1.set hr)
    (by rw [AV.untokL_eq] at h2 ⊢; rw [List.map_set, h2, AV.untok_idem])
    (by intro u hu; rcases List.mem_or_eq_of_mem_set hu with hu | rfl; exact h3 u hu; exact hsz')
    hz (by intro u hu; rcases List.mem_or_eq_of_mem_set hu with hu | rfl; exact h5 u hu; exact a2) h6
   refine ⟨vs', us', ?_, b2, b3, b4, b5, b6, by simpa using b7⟩
   simp only [List.map_cons, Instr.fill]
   rw [if_neg (by
    simp only [hsz', Bool.or_eq_true, decide_eq_true_eq, not_or]
    exact ⟨by simp, by omega⟩)]
   exact b1
  ·cases h6
theorem Dj (x : AV) (n : Nat) : bE x n = List.replicate n x := by induction n <;> simp_all [bE, List.replicate_succ]
theorem AY {c : Value} (h : bs c) : c.cells = #[c] := by cases c <;> simp_all [bs, Value.cells]
theorem Ht {L : Lk} : ∀ {v : List Value} {x : List AV}, Hs L v x = true -> AV.untokL x = x
 | [], [], _ => rfl
 | [], _ :: _, h => by simp [Hs] at h
 | _ :: _, [], h => by simp [Hs] at h
 | v :: vs, x :: xs, h => by
  simp only [Hs, Bool.and_eq_true] at h
  have h2 := Ht h.2
  have h1 : x.untok = x := by
   have := h.1
   unfold RA at this
   split at this <;> simp_all [AV.untok, AV.untokL]
  simp [AV.untokL, h1, h2]
theorem cp.newImm (h : cp L.toLk C g s w) {c : Array Value} {e : TypeId} {fz : Nat × Nat} {w' : World} (hw : w'.heap = w.heap.push (.cells c e fz)) (hs : EY w w') (n : Nat) :
  cp L.toLk C { g with imm := fun b o => g.imm b o \/ (b = w.heap.size /\ o < n) } s w' /\ nv g s w { g with imm := fun b o => g.imm b o \/ (b = w.heap.size /\ o < n) } s w' := by
 have := h.newRow hw hs n g.tk (fun t T hT => ⟨T, hT, Nat.le_refl _, fun _ => rfl⟩) (fun t T hT => .inl hT)
  (fun t u T U hT hU h1 h2 => by
   obtain ⟨c', e', fz', h3, _⟩ := (h.toks t T hT).space
   have := aT h3; omega) (fun _ _ => rfl)
 rwa [h.tk] at this
theorem GS {g : Gh} {w w' : World} {c : Array Value} {e : TypeId} {fz : Nat × Nat} {n : Nat} {tk : List su} (hw : w'.heap = w.heap.push (.cells c e fz)) {cs : List Value} (hc : c.toList.take cs.length = cs) (hn : cs.length <= n) :
  Ct { g with tk := tk, imm := fun b o => g.imm b o \/ (b = w.heap.size /\ o < n) } w' w.heap.size 0 cs := by
 intro j u hj
 have hlt : j < cs.length := (List.getElem?_eq_some_iff.1 hj).1
 refine ⟨.inr ⟨rfl, by omega⟩, ?_⟩
 rw [lR (jj hw)]
 simp only [Nat.zero_add]
 have hj' : (c.toList.take cs.length)[j]? = some u := by rw [hc]; exact hj
 rw [List.getElem?_take, if_pos hlt] at hj'
 simpa using hj'
theorem JG (hs : cp L.toLk C g s w) (he : wI L g w ρ ev) {o : Oper} {t e : TypeId} {n sz : Nat} {ps : Array (Nat × Operand)} {z : List AV} {qs : List (Nat × bN)} (ho : o.op = .buildSlice t n ps)
  (hu : P.underlying t = some (.slice e)) (hsz : rA P e = some sz) (hz : sQ P L.toLk e z = true) (hle : n * sz <= 16777216) (hp : uc L ps.toList qs = true)
  {r : AV × St} (h : iS ev s (.bslice sz z n qs) = some r) : aP P L C g s w r ((execOp ρ o).run P w) := by
 simp only [iS] at h
 split at h
 ·rename_i xs hxs
  cases h
  unfold sQ at hz
  split at hz
  ·rename_i i hi
   split at hz
   ·rename_i v hv
    simp only [Bool.and_eq_true, beq_iff_eq] at hz
    obtain ⟨hz, hil⟩ := hz
    have hzr := sd hz g w
    have hzl := hzr.1.length
    have hisz : i.size = sz := by simpa [rA, hi] using hsz
    have hvs : v.cells.size = sz := by rw [<- hisz, hil, <- hzl]; simp
    -- the zero elements
    obtain ⟨zv, zx1, zx2, zx3, zx4⟩ : ∃ zv : Value, ay L.toLk g w (ai z (z.length == 1)) zv /\ zv.cells = v.cells /\ (ai z (z.length == 1)).untok = ai z (z.length == 1) /\ ∀ c ∈ zv.cells.toList, bs c := by
     have hzu := Ht hz
     by_cases hone : z.length = 1
     ·obtain ⟨z0, rfl⟩ := List.length_eq_one_iff.1 hone
      have hr1 := hzr.1
      simp only [aw] at hr1
      obtain ⟨c, rr, hcc, hrc, rfl⟩ := hr1
      have hoc := hzr.2 c (by rw [hcc]; simp)
      refine ⟨c, by simpa [ai] using hrc, ?_, ?_, ?_⟩
      ·rw [AY hoc]; apply Array.ext'; rw [hcc]
      ·simpa [ai, AV.untokL] using hzu
      ·rw [AY hoc]; simpa using hoc
     ·have : (z.length == 1) = false := by simpa using hone
      refine ⟨.agg v.cells, ?_, rfl, ?_, by simpa [Value.cells] using hzr.2⟩
      ·rw [this]; simp only [ai, Bool.false_eq_true, if_false, ay]
       exact ⟨v.cells.toList, by simp, hzr.1, hzr.2⟩
      ·rw [this]; simp [ai, AV.untok, hzu]
    have hzero : ∀ (zc : Array Value), (n * sz = 0 \/ zc = v.cells) -> ((Array.range (n * sz)).map (fun i => zc[i % zc.size]!)).toList = cM (List.replicate n zv) := by
     intro zc hzc
     rw [Gg, zx2]
     rcases hzc with h0 | rfl
     ·rcases Nat.mul_eq_zero.1 h0 with rfl | h1
      ·simp
      ·have : v.cells.toList = [] := List.eq_nil_of_length_eq_zero (by rw [Array.length_toList]; omega)
       rw [h0, this]; simp
     ·have := D1 v.cells.toList default n
      simp only [Array.length_toList, hvs] at this
      rw [<- this]
      simp [hvs, Array.getElem!_eq_getD, List.getD_eq_getElem?_getD]
    have run0 : ∀ zc : Array Value, (n * sz = 0 \/ zc = v.cells) -> ∃ vs' us', Instr.fill (fun i => some (i * sz, sz)) ((Array.range (n * sz)).map (fun i => zc[i % zc.size]!)) (ps.toList.map fun (i, x) => (i, ρ x)) = some us' /\ aw L.toLk g w xs vs' /\ AV.untokL xs = xs /\
      (∀ u ∈ vs', u.cells.size = sz) /\ us'.toList = cM vs' /\ (∀ u ∈ vs', ∀ c ∈ u.cells.toList, bs c) /\ xs.length = n := by
     intro zc hzc
     obtain ⟨vs', us', b1, b2, b3, b4, b5, b6, b7⟩ := Aj (sz := sz) he hp (xs := List.replicate n (ai z (z.length == 1))) (vs := List.replicate n zv) (us := (Array.range (n * sz)).map (fun i => zc[i % zc.size]!))
      (aw.of_get (by simp) fun i x u h1 h2 => by
       rw [List.getElem?_replicate] at h1 h2
       split at h1
       ·rename_i hlt
        simp only [hlt, if_true, Option.some.injEq] at h2
        cases h1; cases h2; exact zx1
       ·cases h1)
      (by rw [AV.untokL_eq, List.map_replicate, zx3])
      (by intro u hu; rw [List.mem_replicate] at hu; rw [hu.2, zx2]; exact hvs)
      (hzero zc hzc)
      (by intro u hu; rw [List.mem_replicate] at hu; rw [hu.2]; exact zx4)
      (by rw [<- Dj]; exact hxs)
     exact ⟨vs', us', b1, b2, b3, b4, b5, b6, by simpa using b7⟩
    obtain ⟨vs', us', b1, b2, b3, b4, b5, b6, b7⟩ := run0 (if n * sz = 0 then #[] else v.cells) (by split <;> simp_all)
    have hnew := hs.newImm (c := us') (e := e) (fz := (0, 0)) (w' := { w with heap := w.heap.push (.cells us' e) }) rfl tJ us'.size
    refine ⟨_, _, .value (.slice (some ⟨w.heap.size, 0, none⟩) n n), _, ?_, .inl rfl, ?_, hnew.1, hnew.2⟩
    ·by_cases h0 : n * sz = 0
     ·rw [if_pos h0] at b1
      simp only [execOp, ho, Instr.buildSlice, Sem.run_bind, run_underlying hu, Result.andThen_ok, ey hsz, h0, Array.toList_map]
      simp only [h0] at b1
      have e1 : ¬ ((0 : Nat) > 2 ^ 24) := by decide
      simp only [e1, if_false, if_true, Sem.run_bind, Sem.run_pure, Result.andThen_ok, b1, newRow, run_newObj]
     ·rw [if_neg h0] at b1
      simp only [execOp, ho, Instr.buildSlice, Sem.run_bind, run_underlying hu, Result.andThen_ok, ey hsz, Array.toList_map]
      rw [if_neg (by show ¬ n * sz > 2 ^ 24; omega), if_neg h0]
      simp only [zeroValue, typeInfo, hi, hv, Sem.run_bind, run_program, Sem.run_pure, Result.andThen_ok, b1, newRow, run_newObj]
    ·simp only [ay]
     refine ⟨some ⟨w.heap.size, 0, none⟩, n, vs', by rw [b7], by omega, b3, aw.mono hnew.2.ge _ _ b2, fun u hu => ⟨b4 u hu, b6 u hu⟩, ⟨fun _ => rfl, ?_⟩, ⟨rfl, b7.symm⟩⟩
     have := GS (g := g) (w := w) (w' := { w with heap := w.heap.push (.cells us' e) }) (c := us') (e := e) (fz := (0, 0)) (n := us'.size) (tk := g.tk) rfl (cs := cM vs')
      (by rw [<- b5]; exact List.take_of_length_le (Nat.le_refl _)) (by rw [<- b5]; simp)
     exact this
   ·cases hz
  ·cases hz
 ·cases h
end
open Go
section
variable {P : Program} {L : eB} {C : eR} {g : Gh} {s : St} {w : World} {ρ : Operand -> Value} {ev : bN -> AV}
theorem A4 {xs : List AV} {vs : List Value} {p : Addr} (h : xs ≠ [] -> p.spot = none) (hl : vs.length = xs.length) : cM vs ≠ [] -> p.spot = none := fun hf => h fun e => hf (by
 subst e
 rw [List.eq_nil_of_length_eq_zero hl]; rfl)
theorem FA {g : Gh} {w : World} {b o : Nat} {cs : List Value} (h : Ct g w b o cs) {w2 : World} (hh : w2.heap = w.heap) {p : Addr} (hp : cs ≠ [] -> p.spot = none) (hb : p.block = b) (ho : p.off = o) :
  ∀ (j : Nat) (v : Value), cs[j]? = some v -> w2.cell? (p.add j) = some v := by
 intro j v hj
 rw [OY (hp (by rintro rfl; simp at hj)), hb, ho, iV (w := w) (by rw [hh])]
 exact (h j v hj).2
def Qd (P : Program) (L : eB) (g : Gh) (w : World) (sz : Nat) (ys : List AV) (cy : Value) : Prop :=
 ∃ vs, aw L.toLk g w ys vs /\ AV.untokL ys = ys /\ (∀ u ∈ vs, KR sz u) /\
  (∀ w2, (Builtin.lenOf cy).run P w2 = .ok ys.length w2) /\ ∀ w2, w2.heap = w.heap -> (Builtin.firstCells sz ys.length cy).run P w2 = .ok (cM vs).toArray w2
theorem nr {sz n : Nat} {a : Option Addr} {len cap : Nat} {cs : List Value} (hl : cs.length = n * sz) (h : match a with | none => cs = [] | some p => ∀ (j : Nat) (v : Value), cs[j]? = some v -> w.cell? (p.add j) = some v) :
  (Builtin.firstCells sz n (.slice a len cap)).run P w = .ok cs.toArray w := by
 cases a with
 | none => simp only at h; subst h; simp [Builtin.firstCells]
 | some p =>
  simp only [Builtin.firstCells]
  rw [<- hl]
  exact run_loadCells_list w p cs h
theorem Dn {L : Lk} {g : Gh} {w : World} (b : List UInt8) : aw L g w (oD b) (b.map fun x => Value.int .u8 x.toNat) := by
 unfold oD
 exact aw.map _ _ b fun x _ => by simp [ay]
theorem BC (b : List UInt8) : AV.untokL (oD b) = oD b := by
 rw [AV.untokL_eq]; unfold oD; rw [List.map_map]; apply List.map_congr_left; intro x _; rfl
theorem p9 {α : Type} (f : α -> Value) (h : ∀ x, (f x).cells = #[f x]) (l : List α) : cM (l.map f) = l.map f := by
 induction l with
 | nil => rfl
 | cons x l ih =>
  unfold cM at ih ⊢
  simp only [List.map_cons, List.flatMap_cons, h, ih]; rfl
structure u6 (P : Program) (t e : TypeId) (i : TypeInfo) (z : Value) (sz : Nat) : Prop where
 ht : P.underlying t = some (.slice e)
 hi : P.info? e = some i
 hz : i.zero = some z
 size : i.size = sz
 bytes : i.bytes <= 1024
 pos : 0 < sz
 zs : z.cells.size = sz
theorem FC {t : TypeId} {sz : Nat} (h1 : uf P t sz = true) (h2 : AN P t = true) (h3 : 0 < sz) : ∃ e i z, u6 P t e i z sz := by
 unfold uf at h1
 unfold AN at h2
 split at h1
 ·rename_i e he
  simp only [he] at h2
  split at h2
  ·rename_i i hi
   simp only [Bool.and_eq_true, decide_eq_true_eq] at h2
   obtain ⟨hb, h2⟩ := h2
   split at h2
   ·rename_i z hz
    have hsz : i.size = sz := by simpa [rA, hi] using h1
    exact ⟨e, i, z, he, hi, hz, hsz, hb, h3, by rw [<- hsz]; simpa using h2⟩
   ·cases h2
  ·cases h2
 ·cases h1
theorem GV (need old : Nat) (h : old < need) (hn : need <= aO) : Builtin.nextslicecap need old <= 4294967296 := by
 unfold Builtin.nextslicecap
 unfold aO at hn
 split
 ·omega
 ·split
  ·omega
  ·have key : ∀ (r c : Nat), c <= 4294967296 -> c < need \/ c <= 4294967296 -> Builtin.growBy need r c <= 4294967296 := by
    intro r
    induction r with
    | zero => intro c hc _; simpa [Builtin.growBy] using hc
    | succ r ih =>
     intro c hc _
     simp only [Builtin.growBy]
     split
     ·exact hc
     ·exact ih _ (by omega) (.inr (by omega))
   exact key 4 old (by omega) (.inr (by omega))
theorem BP {t u e ty : TypeId} {i : TypeInfo} {z : Value} {sz : Nat} (hR : u6 P t e i z sz) (hu : rF P u = true) {b o sLen sCap m : Nat} {cy : Value} {news : List Value}
  (hlen : (Builtin.lenOf cy).run P w = .ok m w) (hnew : (Builtin.firstCells sz m cy).run P w = .ok news.toArray w) (hcap : sLen + m <= sCap)
  (hc : ∀ (j : Nat), j < news.length -> (w.cell? ⟨b, o + sLen * sz + j, none⟩).isSome = true) (hf : ∀ j, j < news.length -> w.frozen? ⟨b, o + sLen * sz + j, none⟩ = false) (h1 : ∀ v ∈ news, v.oneCell' = true) :
  (Builtin.append_ #[t, u] ty #[.slice (some ⟨b, o, none⟩) sLen sCap, cy]).run P w = .ok (.slice (some ⟨b, o, none⟩) (sLen + m) sCap) (w.setCells b (o + sLen * sz) news) := by
 have hst := run_storeCells_cells (P := P) b (o + sLen * sz) news 0 w (by simpa using hc) (by simpa using hf) h1
 simp only [Nat.add_zero] at hst
 unfold rF at hu
 cases hd : P.underlying u with
 | none => simp [hd] at hu
 | some d =>
  rw [hd] at hu
  cases d <;> first | (cases hu; done) | simp only [Builtin.append_, List.getElem?_toArray, List.getElem?_cons_zero, List.getElem?_cons_succ, Sem.run_bind, run_underlying hR.ht, Result.andThen_ok, Go.sizeOf, typeInfo, run_program, hR.hi, Sem.run_pure,
   run_underlying hd, hlen, hR.size, Bool.false_eq_true, if_false, hcap, if_true, hnew, pP, hst, Bool.not_false]
theorem nq {t u e ty : TypeId} {i : TypeInfo} {z : Value} {sz : Nat} (hR : u6 P t e i z sz) (hu : rF P u = true) {a : Option Addr} {sLen sCap m : Nat} {cy : Value} {olds news : List Value}
  (hlen : (Builtin.lenOf cy).run P w = .ok m w) (hnew : ∀ w2, w2.heap = w.heap -> (Builtin.firstCells sz m cy).run P w2 = .ok news.toArray w2) (hcap : sCap < sLen + m) (hm : sLen + m <= aO)
  (hold : ∀ w2, w2.heap = w.heap -> (Builtin.firstCells sz sLen (.slice a sLen sCap)).run P w2 = .ok olds.toArray w2) :
  ∃ newCap w', sLen + m <= newCap /\ w'.heap = w.heap.push (.cells (olds.toArray ++ news.toArray ++ Builtin.zeroCells z.cells (newCap - (sLen + m))) e) /\ EY w w' /\
  (Builtin.append_ #[t, u] ty #[.slice a sLen sCap, cy]).run P w = .ok (.slice (some ⟨w.heap.size, 0, none⟩) (sLen + m) newCap) w' := by
 unfold rF at hu
 cases hd : P.underlying u with
 | none => simp [hd] at hu
 | some d =>
  rw [hd] at hu
  have hns := GV (sLen + m) sCap hcap hm
  have hb := hR.bytes
  have hle : ¬ (Builtin.nextslicecap (sLen + m) sCap * i.bytes > 2 ^ 48) := by
   have : Builtin.nextslicecap (sLen + m) sCap * i.bytes <= 4294967296 * 1024 := Nat.mul_le_mul hns hb
   omega
  have hmax : ¬ (((sLen + m : Nat) : Int) > IntKind.i64.max /\ (False \/ i.bytes = 0)) := by
   have : IntKind.i64.max = 9223372036854775807 := by decide
   rw [this]; unfold aO at hm; omega
  obtain ⟨nc, hnc⟩ : ∃ nc, nc = (Question.appendCap (sLen + m) sCap e).cut (w.tape w.drawn (.appendCap (sLen + m) sCap e)) := ⟨_, rfl⟩
  refine ⟨nc, { w with drawn := w.drawn + 1, heap := w.heap.push (.cells (olds.toArray ++ news.toArray ++ Builtin.zeroCells z.cells (nc - (sLen + m))) e) }, ?_, rfl, ⟨rfl, rfl, rfl⟩, ?_⟩
  rotate_left 1
  ·cases d <;> first | (cases hu; done) | skip
   all_goals
    simp only [Builtin.append_, List.getElem?_toArray, List.getElem?_cons_zero, List.getElem?_cons_succ, Sem.run_bind, run_underlying hR.ht, Result.andThen_ok, Go.sizeOf, typeInfo, run_program, hR.hi, Sem.run_pure,
     run_underlying hd, hlen, hR.size, Bool.false_eq_true, if_false, Bool.not_false, if_true]
    rw [if_neg (by omega)]
    simp only [Sem.run_bind, Sem.run_ite, Result.andThen_ok, Sem.run_pure, run_program, hR.hi, Result.andThen_ite]
    rw [if_neg hmax]
    rw [if_neg hle]
    simp only [Result.andThen_ok, run_choose, Question.forced, Bool.false_eq_true, if_false, Sem.run_bind, run_program, Sem.run_pure, run_askRoom, zeroValue, typeInfo, hR.hi, hR.hz, newRow, run_newObj]
    rw [<- hnc]
    rw [hold { w with drawn := w.drawn + 1 } rfl]
    simp only [Result.andThen_ok]
    rw [hnew { w with drawn := w.drawn + 1 } rfl]
    simp only [Result.andThen_ok]
  ·rw [hnc]; simp [Question.cut]
theorem yh {t u e ty : TypeId} {i : TypeInfo} {z : Value} {sz : Nat} (hR : u6 P t e i z sz) (hu : rF P u = true) {a : Option Addr} {sLen sCap : Nat} {cy : Value}
  (hlen : (Builtin.lenOf cy).run P w = .ok 0 w) (hnew : (Builtin.firstCells sz 0 cy).run P w = .ok #[] w) (hcap : sLen <= sCap) :
  (Builtin.append_ #[t, u] ty #[.slice a sLen sCap, cy]).run P w = .ok (.slice a sLen sCap) w := by
 unfold rF at hu
 cases hd : P.underlying u with
 | none => simp [hd] at hu
 | some d =>
  rw [hd] at hu
  cases d <;> first | (cases hu; done) | simp only [Builtin.append_, List.getElem?_toArray, List.getElem?_cons_zero, List.getElem?_cons_succ, Sem.run_bind, run_underlying hR.ht, Result.andThen_ok, Go.sizeOf, typeInfo, run_program, hR.hi, Sem.run_pure,
   run_underlying hd, hlen, hR.size, Bool.false_eq_true, if_false, hcap, if_true, hnew, Bool.not_false, Nat.add_zero]
  all_goals cases a <;> rfl
theorem RW {y : AV} {cy : Value} {sz : Nat} {ys : List AV} (hr : ay L.toLk g w y cy)
  (hy : oZ sz y = some ys) : Qd P L g w sz ys cy := by
 cases y with
 | sl own z ys' =>
  simp only [oZ] at hy
  split at hy
  ·rename_i hz
   subst hz
   cases hy
   simp only [ay] at hr
   obtain ⟨a, cap, vs, rfl, hc, hu, hrl, hsz, hl, _⟩ := hr
   rw [hu]
   have hfl := fw fun u hu => (hsz u hu).1
   have hvl := hrl.length
   refine ⟨vs, hrl, hu, hsz, fun w2 => by simp [Builtin.lenOf], fun w2 hw2 => ?_⟩
   ·refine nr (by rw [hfl, hvl]) ?_
    cases a with
    | none =>
     have : vs = [] := List.eq_nil_of_length_eq_zero (by rw [hvl, hl.1]; rfl)
     simp [this, cM]
    | some p => exact FA hl.2 hw2 (A4 hl.1 hvl) rfl rfl
  ·cases hy
 | str b =>
  simp only [oZ] at hy
  split at hy
  ·rename_i hz
   subst hz
   cases hy
   simp only [ay] at hr
   subst hr
   refine ⟨b.map fun x => Value.int .u8 x.toNat, Dn b, BC b, ?_, fun w2 => by simp [Builtin.lenOf, oD, ByteArray.size], fun w2 _ => ?_⟩
   ·intro u hu; rw [List.mem_map] at hu; obtain ⟨x, _, rfl⟩ := hu
    exact ⟨rfl, fun c hc => by simp [Value.cells] at hc; subst hc; trivial⟩
   ·rw [p9 _ (fun _ => rfl)]
    simp only [Builtin.firstCells, Sem.run_pure]
    congr 1
    apply Array.ext'
    have : (oD b).length = b.length := by simp [oD]
    rw [this]
    have hx : (⟨b.toArray⟩ : ByteArray).extract 0 b.length = ⟨b.toArray⟩ := by
     have := ByteArray.extract_zero_size (b := ⟨b.toArray⟩)
     simpa [ByteArray.size] using this
    rw [hx]
    simp
  ·cases hy
 | _ => simp [oZ] at hy
theorem IH {L : Lk} {g : Gh} {w : World} {sz : Nat} (hz : 0 < sz) : ∀ (n : Nat) {cs : List AV} {vs : List Value}, aw L g w cs vs -> (∀ u ∈ vs, bs u) -> n * sz <= cs.length ->
  ∃ us, aw L g w (AV.chunk sz n cs) us /\ (∀ u ∈ us, KR sz u) /\ cM us = vs.take (n * sz)
 | 0, cs, vs, _, _, _ => ⟨[], by simp [AV.chunk, aw], by simp, by simp [cM]⟩
 | n + 1, cs, vs, h, ho, hn => by
  have hvl := h.length
  have hn' : n * sz + sz <= cs.length := by rw [Nat.succ_mul] at hn; exact hn
  obtain ⟨us, h1, h2, h3⟩ := IH hz n (h.drop sz) (fun u hu => ho u (List.mem_of_mem_drop hu)) (by rw [List.length_drop]; omega)
  have htake : vs.take ((n + 1) * sz) = vs.take sz ++ (vs.drop sz).take (n * sz) := by
   rw [Nat.succ_mul, Nat.add_comm, List.take_add]
  simp only [AV.chunk]
  by_cases h1z : sz = 1
  ·subst h1z
   cases cs with
   | nil => simp at hn'
   | cons c cr =>
    simp only [aw] at h
    obtain ⟨v, r, rfl, hc, hr⟩ := h
    have hv := AY (ho v (by simp))
    refine ⟨v :: us, ?_, ?_, ?_⟩
    ·simp only [if_true, List.headD_cons, aw]
     exact ⟨v, us, rfl, hc, h1⟩
    ·intro u hu
     rcases List.mem_cons.1 hu with rfl | hu
     ·exact ⟨by rw [hv]; rfl, fun x hx => by rw [hv] at hx; simp at hx; subst hx; exact ho _ (by simp)⟩
     ·exact h2 u hu
    ·rw [htake]
     simp only [cM, List.flatMap_cons, hv] at h3 ⊢
     rw [h3]; rfl
  ·refine ⟨.agg (vs.take sz).toArray :: us, ?_, ?_, ?_⟩
   ·simp only [h1z, if_false, aw]
    refine ⟨_, us, rfl, ?_, h1⟩
    simp only [ay]
    exact ⟨vs.take sz, rfl, h.take sz, fun u hu => ho u (List.mem_of_mem_take hu)⟩
   ·intro u hu
    rcases List.mem_cons.1 hu with rfl | hu
    ·refine ⟨?_, fun x hx => ?_⟩
     ·simp only [Value.cells, List.size_toArray, List.length_take]; omega
     ·simp only [Value.cells] at hx
      exact ho x (List.mem_of_mem_take hx)
    ·exact h2 u hu
   ·rw [htake]
    simp only [cM, List.flatMap_cons, Value.cells] at h3 ⊢
    rw [h3]
theorem CL (sz : Nat) : ∀ (n : Nat) (cs : List AV), (AV.chunk sz n cs).length = n
 | 0, _ => rfl
 | n + 1, cs => by simp [AV.chunk, CL sz n]
theorem IK (hs : cp L.toLk C g s w) {i off sz n : Nat} {xs : List AV} {cv : Value} (hr : ay L.toLk g w (.msl i off sz n) cv) (h : ug s (.msl i off sz n) = some xs) :
  0 < sz /\ xs.length = n /\ ∃ (b : Nat) (a : Addr) (cap : Nat) (vs us rest : List Value) (e : TypeId), g.bl[i]? = some b /\ cv = .slice (some a) n cap /\ n <= cap /\ (0 < cap -> a = ⟨b, off, none⟩) /\ aw L.toLk g w xs us /\ (∀ u ∈ us, KR sz u) /\
   w.heap[b]? = some (.cells (vs ++ rest).toArray e (0, 0)) /\ off + n * sz <= vs.length /\ cM us = (vs.drop off).take (n * sz) := by
 simp only [ay] at hr
 obtain ⟨b, a, cap, hb, rfl, hcap, ha⟩ := hr
 simp only [ug] at h
 split at h
 ·rename_i cs hcs
  split at h
  ·rename_i hc
   cases h
   unfold St.cell? at hcs
   split at hcs
   ·rename_i cs' hbl
    cases hcs
    obtain ⟨vs, rest, e, h1, h2, h3⟩ := hs.blocks i b _ hb hbl
    have hvl := h2.length
    obtain ⟨us, k1, k2, k3⟩ := IH hc.2 n (h2.drop off) (fun u hu => h3 u (List.mem_of_mem_drop hu)) (by rw [List.length_drop]; omega)
    exact ⟨hc.2, CL _ _ _, b, a, cap, vs, us, rest, e, hb, rfl, hcap, fun hp => (ha hp).1, k1, k2, h1, by omega, k3⟩
   ·cases hcs
  ·cases h
 ·cases h
theorem FN (hs : cp L.toLk C g s w) {y : AV} {cy : Value} {sz : Nat} {ys : List AV} (hr : ay L.toLk g w y cy) (hy : Te s sz y = some ys) : Qd P L g w sz ys cy := by
 unfold Te at hy
 split at hy
 ·rename_i i off z n
  split at hy
  ·rename_i hz
   subst hz
   cases he : ug s (.msl i off z n) with
   | none => rw [he] at hy; cases hy
   | some xs =>
    rw [he] at hy
    simp only [Option.map_some, Option.some.injEq] at hy
    subst hy
    obtain ⟨hz, hn, b, a, cap, vs, us, rest, e, hb, rfl, hcap, ha, k1, k2, h1, hle, k3⟩ := IK hs hr he
    have hul := k1.length
    have hfl := fw fun u hu => (k2 u hu).1
    refine ⟨us, k1.untok_same, AV.untokL_idem _, k2, fun w2 => by simp [Builtin.lenOf, AV.untokL_length, hn], fun w2 hw2 => ?_⟩
    rw [AV.untokL_length, hn]
    refine nr (by rw [hfl, hul, hn]) ?_
    intro j v hj
    have hjl := (List.getElem?_eq_some_iff.1 hj).1
    have hpos : 0 < cap := by
     rcases Nat.eq_zero_or_pos n with h0 | h0
     ·rw [hfl, hul, hn, h0] at hjl; simp at hjl
     ·omega
    rw [ha hpos, pP, iV (w := w) (by rw [hw2]), lR h1]
    rw [k3, List.getElem?_take] at hj
    split at hj
    ·rw [List.getElem?_drop] at hj
     simp only [List.getElem?_toArray]
     rw [List.getElem?_append_left (List.getElem?_eq_some_iff.1 hj).1]
     exact hj
    ·cases hj
  ·cases hy
 ·exact RW hr hy
theorem B3 {L : Lk} {g : Gh} {w : World} : ∀ {xs : List AV} {vs : List Value} {cs : List AV}, aw L g w xs vs -> oT xs = some cs -> aw L g w cs (cM vs) /\ ∀ u ∈ cM vs, bs u
 | [], vs, cs, h, hc => by
  simp only [aw] at h; subst h
  simp only [oT, Option.some.injEq] at hc; subst hc
  simp [cM, aw]
 | x :: xs, vs, cs, h, hc => by
  simp only [aw] at h
  obtain ⟨v, r, rfl, h1, h2⟩ := h
  simp only [oT] at hc
  split at hc
  ·rename_i a b ha hb
   cases hc
   obtain ⟨k1, k2, _⟩ := h1.cells ha
   obtain ⟨k3, k4⟩ := B3 h2 hb
   have hf : cM (v :: r) = v.cells.toList ++ cM r := by simp [cM]
   rw [hf]
   refine ⟨k1.append k3, fun u hu => ?_⟩
   rcases List.mem_append.1 hu with hu | hu
   ·exact k2 u hu
   ·exact k4 u hu
  ·cases hc
theorem KX (hs : cp L.toLk C g s w) {t u e ty : TypeId} {i : TypeInfo} {z : Value} {sz : Nat} (hR : u6 P t e i z sz) (hu : rF P u = true) {x y : AV} {cx cy : Value} (hx : ay L.toLk g w x cx) (hy : ay L.toLk g w y cy)
  {v : AV} {s' : St} (h : xZ s sz x y = some (v, s')) :
  ∃ g' w' cv, (Builtin.append_ #[t, u] ty #[cx, cy]).run P w = .ok cv w' /\ ay L.toLk g' w' v cv /\ cp L.toLk C g' s' w' /\ nv g s w g' s' w' := by
 unfold xZ at h
 cases x with
 | sl own z' xs =>
  split at h
  ·rename_i own1 z1 xs1 ys he hys
   cases he
   have ha := FN (P := P) hs hy hys
   split at h
   ·rename_i hc
    obtain ⟨rfl, hmost, hown⟩ := hc
    simp only [ay] at hx
    obtain ⟨a, cap, vs, rfl, hcap, hun, hrl, hsz, hl, ho⟩ := hx
    obtain ⟨us, b1, b2, b3, b4, b5⟩ := ha
    have hvl := hrl.length
    have hul := b1.length
    have hfx := fw fun u hu => (hsz u hu).1
    have hfy := fw fun u hu => (b3 u hu).1
    cases ys with
    | nil =>
     simp only at h
     cases h
     have hus : us = [] := List.eq_nil_of_length_eq_zero hul
     subst hus
     exact ⟨g, w, _, yh hR hu (b4 w) (b5 w rfl) hcap, by
      simp only [ay]; exact ⟨a, cap, vs, rfl, hcap, hun, hrl, hsz, hl, ho⟩, hs, .refl _ _ _⟩
    | cons y0 yr =>
     obtain ⟨ys, hysd⟩ : ∃ ys, ys = y0 :: yr := ⟨_, rfl⟩
     have hpos : 0 < ys.length := by rw [hysd]; simp
     rw [<- hysd] at hmost b1 b2 b4 b5 hul h
     have h : (match oT (xs ++ ys) with
      | some cs => some (AV.msl s.bl.length 0 z' (xs.length + ys.length), s.push (.cells cs))
      | none => none) = some (v, s') := by subst hysd; exact h
     split at h
     ·rename_i cs hcs
      cases h
      have hold : ∀ w2, w2.heap = w.heap -> (Builtin.firstCells z' xs.length (.slice a xs.length cap)).run P w2 = .ok (cM vs).toArray w2 := by
       intro w2 hw2
       refine nr (by rw [hfx, hvl]) ?_
       cases a with
       | none =>
        have : vs = [] := List.eq_nil_of_length_eq_zero (by rw [hvl, hl.1]; rfl)
        simp [this, cM]
       | some p => exact FA hl.2 hw2 (A4 hl.1 hvl) rfl rfl
      have hcl : cap < xs.length + ys.length := by
       rcases hown with rfl | rfl
       ·obtain ⟨_, h1, h2⟩ := ho; omega
       ·obtain ⟨_, h1⟩ := ho; omega
      obtain ⟨nc, w', h5, hw', hsame, hrun⟩ := nq (ty := ty) hR hu (b4 w) b5 hcl hmost hold
      obtain ⟨k1, k2⟩ := B3 (hrl.append b1) hcs
      rw [nd] at k1 k2
      have hp := hs.push (ab := .cells cs) hw' hsame [] (by simp) (fun hge => ⟨cM vs ++ cM us, (Builtin.zeroCells z.cells (nc - (xs.length + ys.length))).toList, e, by
       rw [jj hw']; congr 2; apply Array.ext'; simp, aw.mono hge _ _ k1, k2⟩)
      refine ⟨_, w', _, hrun, ?_, hp.1, hp.2⟩
      simp only [ay]
      refine ⟨w.heap.size, ⟨w.heap.size, 0, none⟩, nc, by simp [<- hs.bl], rfl, h5, fun _ => ⟨rfl, _, _, _, jj hw', ?_⟩⟩
      simp only [Array.size_append, List.size_toArray, size_zeroCells, hR.zs, hfx, hfy, hvl, hul, Nat.zero_add]
      rw [<- Nat.add_mul, <- Nat.add_mul]
      exact Nat.mul_le_mul_right _ (by omega)
     ·cases h
   ·cases h
  ·rename_i heq _; cases heq
  ·cases h
 | msl i off z' n =>
  split at h
  ·rename_i heq _; cases heq
  ·rename_i i1 off1 z1 n1 ys he hys
   cases he
   have ha := FN (P := P) hs hy hys
   split at h
   ·rename_i cs hcs
    split at h
    ·rename_i hc
     obtain ⟨⟨⟨rfl, hz0⟩, rfl, hro⟩, hcl, hmost, hpos⟩ := hc
     split at h
     ·rename_i ds hds
      cases h
      obtain ⟨us, b1, b2, b3, b4, b5⟩ := ha
      have hul := b1.length
      have hfy := fw fun u hu => (b3 u hu).1
      obtain ⟨k1, k2⟩ := B3 b1 hds
      simp only [ay] at hx
      obtain ⟨b, a, cap, hb, rfl, hcap, hroom⟩ := hx
      unfold St.cell? at hcs
      split at hcs
      ·rename_i cs' hbl
       cases hcs
       have hnd : s.bl[i]? ≠ some .dead := by rw [hbl]; intro e; cases e
       obtain ⟨vs, rest, e1, h1, h2, h3⟩ := hs.blocks i b _ hb hbl
       have hvl : vs.length = n * z' := by rw [h2.length, hcl]
       have hlp : b ∈ g.lps -> ∀ o : Obj, ∃ lp, o = .loop lp := fun hl => by
        obtain ⟨lp, hlp⟩ := hs.lps b hl
        rw [h1] at hlp; cases hlp
       by_cases hin : n + ys.length <= cap
       ·obtain ⟨ha, c0, e0, fz0, q1, q2⟩ := hroom (by omega)
        subst ha
        rw [h1] at q1; cases q1
        simp only [Nat.zero_add, List.size_toArray, List.length_append] at q2
        have hfit : n * z' + (cM us).length <= vs.length + rest.length := by
         rw [hfy, hul, <- Nat.add_mul]
         exact Nat.le_trans (Nat.mul_le_mul_right _ hin) q2
        have hrun := BP (ty := ty) (w := w) (b := b) (o := 0) hR hu (b4 w) (b5 w rfl) hin
         (fun j hj => by
          rw [lR h1]
          have : 0 + n * z' + j < (vs ++ rest).length := by rw [List.length_append]; omega
          simp only [List.getElem?_toArray, List.getElem?_eq_getElem this, Option.isSome_some])
         (fun j hj => by simp [World.frozen?, h1]) (fun u hu => Ae (k2 u hu))
        obtain ⟨a1, a2, a3, a4⟩ := rG b (cM us) (0 + n * z') w (vs ++ rest).toArray e1 (0, 0) h1 (by simp; omega)
        have hg := hs.regrow (ab := .cells (cs ++ ds)) hb hro hnd a1 a2 a3 a4 (fun hge => ⟨vs ++ cM us, rest.drop (cM us).length, e1, by
          rw [a1]
          congr 2
          simp only [Nat.zero_add]
          rw [List.take_append_of_le_length (by omega), List.take_of_length_le (by omega), List.drop_append, List.drop_of_length_le (by omega)]
          simp only [List.append_assoc, List.nil_append]
          rw [show n * z' + (cM us).length - vs.length = (cM us).length by omega], (aw.mono hge _ _ h2).append (aw.mono hge _ _ k1), fun u hu => by
          rcases List.mem_append.1 hu with hu | hu
          ·exact h3 u hu
          ·exact k2 u hu⟩) (fun hl => hlp hl _) (.at a2 h1 a1 (by simp; omega))
        refine ⟨_, _, _, hrun, ?_, hg.1, hg.2⟩
        simp only [ay]
        exact ⟨b, _, cap, by simp [<- hs.bl], rfl, hin, fun _ => ⟨rfl, hg.2.ge.size.room ⟨_, _, _, h1, by simpa using q2⟩⟩⟩
       ·have hold : ∀ w2, w2.heap = w.heap -> (Builtin.firstCells z' n (.slice (some a) n cap)).run P w2 = .ok vs.toArray w2 := by
         intro w2 hw2
         refine nr (by rw [hvl]) ?_
         intro j v hj
         have hjl := (List.getElem?_eq_some_iff.1 hj).1
         have hp : 0 < cap := by
          rcases Nat.eq_zero_or_pos n with h0 | h0
          ·rw [hvl, h0] at hjl; simp at hjl
          ·omega
         rw [(hroom hp).1, pP, iV (w := w) (by rw [hw2]), lR h1]
         simp only [List.getElem?_toArray, Nat.zero_add]
         rw [List.getElem?_append_left hjl]
         exact hj
        obtain ⟨nc, w', h5, hw', hsame, hrun⟩ := nq (ty := ty) hR hu (b4 w) b5 (by omega) hmost hold
        have hk := hs.setb (w' := w) (ab := .dead) hb hro h1 (fun _ _ => rfl) rfl ⟨rfl, rfl, rfl⟩ (fun _ => ⟨_, _, h1⟩) (fun hl => hlp hl _) hnd (.refl _)
        have hp := hk.1.push (ab := .cells (cs ++ ds)) hw' hsame [] (by simp) (fun hge => ⟨vs ++ cM us, (Builtin.zeroCells z.cells (nc - (n + ys.length))).toList, e, by
         rw [jj hw']; congr 2; apply Array.ext'; simp, (aw.mono hge _ _ h2).append (aw.mono hge _ _ k1), fun u hu => by
          rcases List.mem_append.1 hu with hu | hu
          ·exact h3 u hu
          ·exact k2 u hu⟩)
        refine ⟨_, w', _, hrun, ?_, hp.1, hk.2.trans hp.2⟩
        simp only [ay]
        refine ⟨w.heap.size, ⟨w.heap.size, 0, none⟩, nc, by simp [<- hs.bl], rfl, h5, fun _ => ⟨rfl, _, _, _, jj hw', ?_⟩⟩
        simp only [Array.size_append, List.size_toArray, size_zeroCells, hR.zs, hfy, hvl, hul, Nat.zero_add]
        rw [<- Nat.add_mul, <- Nat.add_mul]
        exact Nat.mul_le_mul_right _ (by omega)
      ·cases hcs
     ·cases h
    ·cases h
   ·cases h
  ·cases h
 | _ => simp at h
theorem MN (hs : cp L.toLk C g s w) {t u e ty : TypeId} {i : TypeInfo} {z : Value} {sz : Nat} (hR : u6 P t e i z sz) (hu : rF P u = true) {x y : AV} {cx cy : Value} (hx : ay L.toLk g w x cx) (hy : ay L.toLk g w y cy)
  {v : AV} {s' : St} (h : oc s sz x y = some (v, s')) :
  ∃ g' w' cv, (Builtin.append_ #[t, u] ty #[cx, cy]).run P w = .ok cv w' /\ ay L.toLk g' w' v cv /\ cp L.toLk C g' s' w' /\ nv g s w g' s' w' := by
 unfold oc at h
 cases x with
 | sl own z' xs =>
  split at h
  ·rename_i own1 z1 xs1 ys he hys
   cases he
   have ha := FN (P := P) hs hy hys
   split at h
   ·rename_i hc
    obtain ⟨rfl, hmost⟩ := hc
    simp only [ay] at hx
    obtain ⟨a, cap, vs, rfl, hcap, hun, hrl, hsz, hl, ho⟩ := hx
    obtain ⟨us, b1, b2, b3, b4, b5⟩ := ha
    have hvl := hrl.length
    have hul := b1.length
    have hfx := fw fun u hu => (hsz u hu).1
    have hfy := fw fun u hu => (b3 u hu).1
    cases ys with
    | nil =>
     simp only at h
     cases h
     have hus : us = [] := List.eq_nil_of_length_eq_zero hul
     subst hus
     exact ⟨g, w, _, yh hR hu (b4 w) (b5 w rfl) hcap, by
      simp only [ay]; exact ⟨a, cap, vs, rfl, hcap, hun, hrl, hsz, hl, ho⟩, hs, .refl _ _ _⟩
    | cons y0 yr =>
     obtain ⟨ys, hysd⟩ : ∃ ys, ys = y0 :: yr := ⟨_, rfl⟩
     have hpos : 0 < ys.length := by rw [hysd]; simp
     rw [<- hysd] at hmost b1 b2 b4 b5 hul
     simp only [<- hysd] at h
     have hold : ∀ w2, w2.heap = w.heap -> (Builtin.firstCells z' xs.length (.slice a xs.length cap)).run P w2 = .ok (cM vs).toArray w2 := by
      intro w2 hw2
      refine nr (by rw [hfx, hvl]) ?_
      cases a with
      | none =>
       have : vs = [] := List.eq_nil_of_length_eq_zero (by rw [hvl, hl.1]; rfl)
       simp [this, cM]
      | some p => exact FA hl.2 hw2 (A4 hl.1 hvl) rfl rfl
     have hun' : AV.untokL (xs ++ ys) = xs ++ ys := by rw [AV.untokL_append, hun, b2]
     have hall : ∀ q ∈ vs ++ us, KR z' q := by
      intro q hq; rcases List.mem_append.1 hq with hq | hq
      ·exact hsz q hq
      ·exact b3 q hq
     have hflen : (cM (vs ++ us)).length = (xs.length + ys.length) * z' := by rw [nd, List.length_append, hfx, hfy, hvl, hul, Nat.add_mul]
     -- a new row
     have out : ∀ (hlt : cap < xs.length + ys.length) (tk' : List su) (t' : Nat) (nc : Nat),
       (∀ (q : Nat) (T : su), g.tk[q]? = some T -> ∃ T', tk'[q]? = some T' /\ T.top <= T'.top /\ (T'.top = T.top -> T' = T)) ->
       (∀ (q : Nat) (T : su), tk'[q]? = some T -> g.tk[q]? = some T \/ (q = t' /\ T = ⟨⟨w.heap.size, 0, none⟩, nc, z', xs.length + ys.length⟩)) ->
       tk'[t']? = some ⟨⟨w.heap.size, 0, none⟩, nc, z', xs.length + ys.length⟩ ->
       (∀ q, q < s.rt -> tk'[q]? = g.tk[q]?) -> xs.length + ys.length <= nc -> ∀ w' : World,
       w'.heap = w.heap.push (.cells ((cM vs).toArray ++ (cM us).toArray ++ Builtin.zeroCells z.cells (nc - (xs.length + ys.length))) e) -> EY w w' ->
       ∃ g', ay L.toLk g' w' (.sl (.tok t') z' (xs ++ ys)) (.slice (some ⟨w.heap.size, 0, none⟩) (xs.length + ys.length) nc) /\ cp L.toLk C g' { s with tk := tk'.map (·.top) } w' /\ nv g s w g' { s with tk := tk'.map (·.top) } w' := by
      intro hlt tk' t' nc h1 h2 h3 h4 h5 w' hw' hsame
      have hcs : ((cM vs).toArray ++ (cM us).toArray ++ Builtin.zeroCells z.cells (nc - (xs.length + ys.length))).size = nc * z' := by
       simp only [Array.size_append, List.size_toArray, size_zeroCells, hR.zs, hfx, hfy, hvl, hul]
       rw [<- Nat.add_mul, <- Nat.add_mul]
       congr 1; omega
      have hlive : ∀ (q : Nat) (T : su), g.tk[q]? = some T -> T.a.block < w.heap.size := by
       intro q T hT
       obtain ⟨c', e', fz', h6, _⟩ := (hs.toks q T hT).space
       exact aT h6
      have hnew := hs.newRow hw' hsame ((xs.length + ys.length) * z') tk' h1
       (fun q T hT => by
        rcases h2 q T hT with h | ⟨_, rfl⟩
        ·exact .inl h
        ·exact .inr ⟨rfl, by rw [hcs]; exact Nat.le_refl _, h5, Nat.le_refl _, fun o _ hh => by simp at hh⟩)
       (fun q q' T T' hT hT' e1 e2 => by
        rcases h2 q T hT with h | ⟨rfl, _⟩
        ·have := hlive q T h; omega
        ·rcases h2 q' T' hT' with h | ⟨rfl, _⟩
         ·have := hlive q' T' h; omega
         ·rfl) h4
      refine ⟨_, ?_, hnew.1, hnew.2⟩
      simp only [ay]
      refine ⟨some ⟨w.heap.size, 0, none⟩, nc, vs ++ us, by simp, by simpa using h5, hun', (aw.mono hnew.2.ge _ _ hrl).append (aw.mono hnew.2.ge _ _ b1), hall, ⟨fun _ => rfl, ?_⟩, ⟨rfl, _, h3, by simp, fun _ => ⟨rfl, rfl, rfl⟩⟩⟩
      refine GS (g := g) hw' ?_ (by rw [hflen]; exact Nat.le_refl _)
      rw [nd]
      simp only [Array.toList_append, List.append_assoc]
      rw [<- List.append_assoc]
      exact List.take_left
     cases own with
     | any => simp only at h; subst hysd; cases h
     | nil =>
      subst hysd
      simp only at h
      cases h
      obtain ⟨rfl, hl0, hc0⟩ := ho
      obtain ⟨nc, w', h5, hw', hsame, hrun⟩ := nq (ty := ty) hR hu (b4 w) b5 (by omega) hmost hold
      obtain ⟨g', c1, c2, c3⟩ := out (by omega) (g.tk ++ [⟨⟨w.heap.size, 0, none⟩, nc, z', xs.length + (y0 :: yr).length⟩]) g.tk.length nc
       (fun q T hT => ⟨T, by rw [List.getElem?_append_left (List.getElem?_eq_some_iff.1 hT).1]; exact hT, Nat.le_refl _, fun _ => rfl⟩)
       (fun q T hT => by
        by_cases hq : q < g.tk.length
        ·rw [List.getElem?_append_left hq] at hT; exact .inl hT
        ·have hq' := (List.getElem?_eq_some_iff.1 hT).1
         simp at hq'
         have : q = g.tk.length := by omega
         subst this
         simp at hT
         exact .inr ⟨rfl, hT.symm⟩)
       (by simp) (fun q hq => by
        have h0 := hs.rt; have h1 := congrArg List.length hs.tk; simp at h1
        rw [List.getElem?_append_left (by omega)]) h5 w' hw' hsame
      have htk : s.tk.length = g.tk.length := by rw [<- hs.tk]; simp
      refine ⟨g', w', _, hrun, by rw [htk]; exact c1, ?_, ?_⟩
      ·simpa [hs.tk] using c2
      ·simpa [hs.tk] using c3
     | full =>
      subst hysd
      simp only at h
      cases h
      obtain ⟨hsome, hc0⟩ := ho
      obtain ⟨nc, w', h5, hw', hsame, hrun⟩ := nq (ty := ty) hR hu (b4 w) b5 (by simp at hpos ⊢; omega) hmost hold
      obtain ⟨g', c1, c2, c3⟩ := out (by simp at hpos ⊢; omega) (g.tk ++ [⟨⟨w.heap.size, 0, none⟩, nc, z', xs.length + (y0 :: yr).length⟩]) g.tk.length nc
       (fun q T hT => ⟨T, by rw [List.getElem?_append_left (List.getElem?_eq_some_iff.1 hT).1]; exact hT, Nat.le_refl _, fun _ => rfl⟩)
       (fun q T hT => by
        by_cases hq : q < g.tk.length
        ·rw [List.getElem?_append_left hq] at hT; exact .inl hT
        ·have hq' := (List.getElem?_eq_some_iff.1 hT).1
         simp at hq'
         have : q = g.tk.length := by omega
         subst this
         simp at hT
         exact .inr ⟨rfl, hT.symm⟩)
       (by simp) (fun q hq => by
        have h0 := hs.rt; have h1 := congrArg List.length hs.tk; simp at h1
        rw [List.getElem?_append_left (by omega)]) h5 w' hw' hsame
      have htk : s.tk.length = g.tk.length := by rw [<- hs.tk]; simp
      refine ⟨g', w', _, hrun, by rw [htk]; exact c1, ?_, ?_⟩
      ·simpa [hs.tk] using c2
      ·simpa [hs.tk] using c3
     | tok t0 =>
      subst hysd
      simp only at h
      split at h
      ·rename_i hcond
       obtain ⟨hrt, htop⟩ := hcond
       cases h
       obtain ⟨hsome, T, hT, hle, heq⟩ := ho
       have hTtop : T.top = xs.length := by
        have h1 : (g.tk.map (·.top))[t0]? = some xs.length := by rw [hs.tk]; exact htop
        rw [List.getElem?_map, hT] at h1
        simpa using h1
       have hself : { a := T.a, cap := T.cap, sz := T.sz, top := T.top } = T := rfl
       obtain ⟨rfl, rfl, rfl⟩ := heq hTtop
       have hT0 := hs.toks t0 T hT
       have hlt0 : t0 < g.tk.length := (List.getElem?_eq_some_iff.1 hT).1
       by_cases hroom : xs.length + (y0 :: yr).length <= T.cap
       ·obtain ⟨c, e0, fz, hc, hsp, hfz⟩ := hT0.space
        have hTa : T.a = ⟨T.a.block, T.a.off, none⟩ := by
         have hsp0 := hT0.spot
         generalize T.a = ad at hsp0
         cases ad
         simp only at hsp0
         subst hsp0; rfl
        have hfit : T.a.off + xs.length * T.sz + (cM us).length <= c.size := by
         rw [hfy, hul, Nat.add_assoc, <- Nat.add_mul]
         have : (xs.length + (y0 :: yr).length) * T.sz <= T.cap * T.sz := Nat.mul_le_mul_right _ hroom
         omega
        have hrun := BP (ty := ty) (w := w) (b := T.a.block) (o := T.a.off) hR hu (b4 w) (b5 w rfl) hroom
         (fun j hj => by
          rw [lR hc]
          have : T.a.off + xs.length * T.sz + j < c.size := by omega
          simp [this])
         (fun j hj => by
          have := hfz (T.a.off + xs.length * T.sz + j) (by omega)
          obtain ⟨lo, hi⟩ := fz
          simp only [World.frozen?, hc]
          simp only [Bool.and_eq_false_iff, decide_eq_false_iff_not]
          by_cases h1 : lo <= T.a.off + xs.length * T.sz + j
          ·exact .inr fun h2 => this ⟨h1, h2⟩
          ·exact .inl h1)
         (fun v hv => by
          exact Ae (QI (fun u hu => (b3 u hu).2) v hv))
        obtain ⟨a1, a2, a3, a4⟩ := rG T.a.block (cM us) (T.a.off + xs.length * T.sz) w c e0 fz hc hfit
        have hg := hs.growRow hT hrt (y0 :: yr).length hpos (by omega) hc a1 (by simp; omega) (fun o ho => by
          rw [hTtop] at ho
          simp only [List.getElem?_toArray, List.append_assoc]
          rw [List.getElem?_append_left (by simp; omega), List.getElem?_take, if_pos ho]
          simp) a2 a3 a4
        rw [hTtop] at hg
        rw [<- hTa] at hrun
        refine ⟨{ g with tk := g.tk.set t0 { T with top := xs.length + (y0 :: yr).length }, imm := fun b o => g.imm b o \/ (b = T.a.block /\ o < T.a.off + (xs.length + (y0 :: yr).length) * T.sz) }, _, _, hrun, ?_, hg.1, hg.2⟩
        simp only [ay]
        have hge := hg.2.ge
        refine ⟨some T.a, T.cap, vs ++ us, by simp, by simpa using hroom, hun', ?_, hall, ⟨fun _ => hT0.spot, ?_⟩, ⟨rfl, _, List.getElem?_set_self hlt0, by simp, fun _ => ⟨rfl, rfl, rfl⟩⟩⟩
        ·exact (aw.mono hge _ _ hrl).append (aw.mono hge _ _ b1)
        ·rw [nd]
         intro j v hj
         have hfvl : (cM vs).length = xs.length * T.sz := by rw [hfx, hvl]
         by_cases hjv : j < (cM vs).length
         ·rw [List.getElem?_append_left hjv] at hj
          obtain ⟨h1, h2⟩ := hl.2 j v hj
          obtain ⟨h3, h4⟩ := hge.imm _ _ h1
          exact ⟨h3, h4.trans h2⟩
         ·rw [List.getElem?_append_right (by omega)] at hj
          have hju : j - (cM vs).length < (cM us).length := (List.getElem?_eq_some_iff.1 hj).1
          refine ⟨.inr ⟨rfl, ?_⟩, ?_⟩
          ·rw [Nat.add_mul, <- hul, <- hfy]; omega
          ·rw [lR a1]
           simp only [List.getElem?_toArray, List.append_assoc]
           have hlen1 : (c.toList.take (T.a.off + xs.length * T.sz)).length = T.a.off + xs.length * T.sz := by have hcl := Array.length_toList (xs := c); rw [List.length_take]; omega
           rw [List.getElem?_append_right (by rw [hlen1]; omega), List.getElem?_append_left (by rw [hlen1]; omega), hlen1]
           rw [<- hj]; congr 1; omega
       ·obtain ⟨nc, w', h5, hw', hsame, hrun⟩ := nq (ty := ty) hR hu (b4 w) b5 (by omega) hmost hold
        obtain ⟨g', c1, c2, c3⟩ := out (by omega) (g.tk.set t0 ⟨⟨w.heap.size, 0, none⟩, nc, T.sz, xs.length + (y0 :: yr).length⟩) t0 nc
         (fun q U hU => by
          by_cases hq : q = t0
          ·subst hq; rw [hT] at hU; cases hU
           exact ⟨_, List.getElem?_set_self hlt0, by simp [hTtop], fun h6 => by simp [hTtop] at h6⟩
          ·exact ⟨U, by rw [List.getElem?_set_ne (Ne.symm hq)]; exact hU, Nat.le_refl _, fun _ => rfl⟩)
         (fun q U hU => by
          by_cases hq : q = t0
          ·subst hq; rw [List.getElem?_set_self hlt0] at hU; exact .inr ⟨rfl, by cases hU; rfl⟩
          ·rw [List.getElem?_set_ne (Ne.symm hq)] at hU; exact .inl hU)
         (List.getElem?_set_self hlt0) (fun q hq => by rw [List.getElem?_set_ne (by omega)]) h5 w' hw' hsame
        refine ⟨g', w', _, hrun, c1, ?_, ?_⟩
        ·simpa [List.map_set, hs.tk] using c2
        ·simpa [List.map_set, hs.tk] using c3
      ·cases h
   ·cases h
  ·cases h
 | _ => simp at h
end
open Go
section
variable {P : Program} {L : eB} {C : eR} {g : Gh} {s : St} {w : World} {ρ : Operand -> Value} {ev : bN -> AV}
theorem MA (s : ByteArray) : s.toList = s.data.toList := by
 have key : ∀ (n i : Nat) (r : List UInt8), s.size - i = n -> ByteArray.toList.loop s i r = r.reverse ++ s.data.toList.drop i := by
  intro n
  induction n with
  | zero =>
   intro i r h
   rw [ByteArray.toList.loop, if_neg (by omega)]
   have : s.data.toList.length <= i := by
    have : s.size = s.data.size := rfl
    simp; omega
   rw [List.drop_eq_nil_of_le this]; simp
  | succ n ih =>
   intro i r h
   rw [ByteArray.toList.loop, if_pos (by omega), ih (i + 1) _ (by omega)]
   have hlt : i < s.data.toList.length := by
    have : s.size = s.data.size := rfl
    simp; omega
   rw [List.drop_eq_getElem_cons hlt]
   simp only [List.reverse_cons, List.append_assoc, List.singleton_append]
   congr 2
   simp only [ByteArray.get!]
   simp at hlt
   simp [hlt]
 have := key s.size 0 [] (by omega)
 simpa [ByteArray.toList] using this
theorem P3 (l : List UInt8) : (ByteArray.mk l.toArray).toList = l := by rw [MA]
theorem qH {op : BinOp} {t : TypeId} {x y : Operand} {a b : Value} (h1 : ¬ (a = .nilIface /\ b = .nilIface)) (h2 : ∀ c d, ¬ (a = .agg c /\ b = .agg d)) : (eqGuard op t x y a b).run P w = .ok () w := by
 unfold eqGuard
 cases op <;> simp only [Bool.not_true, Bool.not_false, if_true, Bool.false_eq_true, if_false, Sem.run_pure]
 all_goals
  cases a <;> cases b <;> first | rfl | exact absurd ⟨rfl, rfl⟩ h1 | exact absurd ⟨rfl, rfl⟩ (h2 _ _)
theorem JD {op : BinOp} {t : TypeId} {k l : IntKind} {a b : Int} {c : RQ} {v : AV} (h : MR op c (.int k a) (.int l b) = some v) (g : Gh) : ∃ cv, (Go.binOp op t (.int k a) (.int l b)).run P w = .ok cv w /\ ay L.toLk g w v cv := by
 simp only [MR] at h
 cases op <;> simp only at h
 case shl =>
  split at h
  ·cases h; exact ⟨_, by simp [Go.binOp, Op.shift, show ¬ b < 0 by omega]; rfl, by simp [ay]⟩
  ·cases h
 case shr =>
  split at h
  ·cases h; exact ⟨_, by simp [Go.binOp, Op.shift, show ¬ b < 0 by omega]; rfl, by simp [ay]⟩
  ·cases h
 all_goals (split at h; · cases h)
 all_goals (rename_i hk; simp only [ne_eq, Decidable.not_not] at hk; subst hk)
 case quo =>
  split at h
  ·cases h
  ·rename_i hb; cases h; exact ⟨_, by simp [Go.binOp, Op.intDiv, hb]; rfl, by simp [ay]⟩
 case rem =>
  split at h
  ·cases h
  ·rename_i hb; cases h; exact ⟨_, by simp [Go.binOp, Op.intDiv, hb]; rfl, by simp [ay]⟩
 all_goals (cases h; exact ⟨_, by simp [Go.binOp, Op.intArith, Op.intBits, Op.intCmp]; rfl, by simp [ay]⟩)
theorem JE {op : BinOp} {t : TypeId} {a b : List UInt8} {c : RQ} {v : AV} (h : MR op c (.str a) (.str b) = some v) (g : Gh) : ∃ cv, (Go.binOp op t (.string ⟨a.toArray⟩) (.string ⟨b.toArray⟩)).run P w = .ok cv w /\ ay L.toLk g w v cv := by
 simp only [MR] at h
 cases op <;> simp only at h
 case add =>
  split at h
  ·rename_i hle
   cases h
   refine ⟨_, ?_, by simp only [ay]; exact rfl⟩
   have := run_string_add_sum (P := P) w ⟨a.toArray⟩ ⟨b.toArray⟩ (by simp [ByteArray.size]; unfold aO at hle; omega)
   rw [ByteArray.mk_append_mk] at this
   simpa [Go.binOp] using this
  ·cases h
 all_goals (first | (cases h; done) | (cases h; exact ⟨_, by simp [Go.binOp, Op.stringOp, P3]; rfl, by simp [ay]⟩))
theorem P5 {op : UnOp} {x v : AV} {cx : Value} (hx : ay L.toLk g w x cx) (h : U3 op x = some v) : ∃ cv, (Op.unary op cx).run P w = .ok cv w /\ ay L.toLk g w v cv := by
 unfold U3 at h
 split at h
 ·cases h; simp only [ay] at hx; subst hx; exact ⟨_, by simp [Op.unary, Op.intArith]; rfl, by simp [ay]⟩
 ·cases h; simp only [ay] at hx; subst hx; exact ⟨_, by simp [Op.unary]; rfl, by simp [ay]⟩
 ·cases h
end
open Go
section
variable {P : Program} {L : eB} {C : eR} {g : Gh} {s : St} {w : World} {ρ : Operand -> Value} {ev : bN -> AV}
theorem O0 (hs : cp L.toLk C g s w) {t : TypeId} {x y : Operand} {c : RQ} (hcl : II P t x y c = true) {u v : AV} {cu cv : Value} (hu : ay L.toLk g w u cu) (hv : ay L.toLk g w v cv) {r : Bool} (h : HN c u v = some r) :
  (Op.equal t cu cv).run P w = .ok r w := by
 have e0 : ∀ a b, Op.equal t a b = Op.equalIn (9999 + 1) t a b := fun _ _ => rfl
 rw [e0]
 generalize 9999 = d
 clear e0
 unfold HN at h
 unfold II at hcl
 split at h <;> simp only at hcl <;> (first | cases h | skip)
 ·-- bool
  split at hcl
  ·rename_i ht; simp only [ay] at hu hv; subst hu; subst hv; simp [Op.equalIn, run_underlying ht]
  ·cases hcl
 ·split at hcl
  ·rename_i ht; simp only [ay] at hu hv; subst hu; subst hv; simp [Op.equalIn, run_underlying ht]
  ·cases hcl
 ·split at hcl
  ·rename_i ht; simp only [ay] at hu hv; subst hu; obtain ⟨b, _, rfl⟩ := hv; simp [Op.equalIn, run_underlying ht]
  ·cases hcl
 ·split at hcl
  ·rename_i ht; simp only [ay] at hu hv; subst hv; obtain ⟨b, _, rfl⟩ := hu; simp [Op.equalIn, run_underlying ht]
  ·cases hcl
 ·-- two pointers
  rename_i i o j p
  split at hcl
  ·rename_i e ht
   split at hcl
   ·rename_i n hn
    simp only [ne_eq, decide_eq_true_eq] at hcl
    simp only [ay] at hu hv
    obtain ⟨b, hb, rfl⟩ := hu
    obtain ⟨c, hc, rfl⟩ := hv
    simp only [Op.equalIn, Sem.run_bind, run_underlying ht, Result.andThen_ok, ey hn]
    rw [if_pos hcl]
    split at h
    ·rename_i hij
     cases h
     subst hij
     rw [hb] at hc; cases hc
     simp [sameAddr]
     rw [Bool.eq_iff_iff]; simp
    ·cases h
   ·cases hcl
  ·cases hcl
 ·-- slices
  split at hcl
  ·rename_i ht
   simp only [ay] at hu hv
   obtain ⟨a, cap, vs, rfl, _, _, _, _, _, ho⟩ := hu
   obtain ⟨a', cap', vs', rfl, _, _, _, _, _, ho'⟩ := hv
   obtain ⟨rfl, _, _⟩ := ho
   obtain ⟨rfl, _, _⟩ := ho'
   simp [Op.equalIn, run_underlying ht]
  ·cases hcl
 ·split at hcl
  ·rename_i ht
   simp only [ay] at hu hv
   obtain ⟨a, cap, vs, rfl, _, _, _, _, hl, hsome⟩ := hu
   simp only [tT] at hsome
   obtain ⟨a', cap', vs', rfl, _, _, _, _, _, ho'⟩ := hv
   obtain ⟨rfl, _, _⟩ := ho'
   cases a with
   | none => cases hsome
   | some p => simp [Op.equalIn, run_underlying ht]
  ·cases hcl
 ·split at hcl
  ·rename_i ht
   simp only [ay] at hu hv
   obtain ⟨a, cap, vs, rfl, _, _, _, _, hl, ho⟩ := hu
   obtain ⟨a', cap', vs', rfl, _, _, _, _, _, ho'⟩ := hv
   obtain ⟨rfl, _, _⟩ := ho'
   obtain ⟨hsome, _⟩ := ho
   cases a with
   | none => cases hsome
   | some p => simp [Op.equalIn, run_underlying ht]
  ·cases hcl
 ·split at hcl
  ·rename_i ht
   simp only [ay] at hu hv
   obtain ⟨a, cap, vs, rfl, _, _, _, _, hl, ho⟩ := hu
   obtain ⟨a', cap', vs', rfl, _, _, _, _, _, ho'⟩ := hv
   obtain ⟨rfl, _, _⟩ := ho'
   obtain ⟨hsome, _⟩ := ho
   cases a with
   | none => cases hsome
   | some p => simp [Op.equalIn, run_underlying ht]
  ·cases hcl
 ·split at hcl
  ·rename_i ht
   simp only [ay] at hu hv
   obtain ⟨b, a0, cap, _, rfl, _⟩ := hu
   obtain ⟨a', cap', vs', rfl, _, _, _, _, _, ho'⟩ := hv
   obtain ⟨rfl, _, _⟩ := ho'
   simp [Op.equalIn, run_underlying ht]
  ·cases hcl
 ·-- maps
  split at hcl
  ·rename_i ht; simp only [ay] at hu hv; subst hu; subst hv; simp [Op.equalIn, run_underlying ht]
  ·cases hcl
 ·split at hcl
  ·rename_i ht; simp only [ay] at hu hv; subst hv; obtain ⟨b, _, rfl⟩ := hu; simp [Op.equalIn, run_underlying ht]
  ·cases hcl
 ·-- functions
  split at hcl
  ·rename_i ht; simp only [ay] at hu hv; subst hu; subst hv; simp [Op.equalIn, run_underlying ht]
  ·cases hcl
 ·split at hcl
  ·rename_i ht; simp only [ay] at hu hv; subst hv; obtain ⟨a, b, rfl, _⟩ := hu; simp [Op.equalIn, run_underlying ht]
  ·cases hcl
 ·split at hcl
  ·rename_i ht; simp only [ay] at hu hv; subst hv; obtain ⟨b, _, rfl⟩ := hu; simp [Op.equalIn, run_underlying ht]
  ·cases hcl
 ·-- interfaces
  split at hcl
  ·rename_i ht; simp only [ay] at hu hv; subst hu; subst hv; simp [Op.equalIn, run_underlying ht]
  ·cases hcl
 ·split at hcl
  ·rename_i ht; simp only [ay] at hu hv; subst hv; obtain ⟨b, rfl, _⟩ := hu; simp [Op.equalIn, run_underlying ht]
  ·cases hcl
 ·split at hcl
  ·rename_i ht; simp only [ay] at hu hv; subst hu; obtain ⟨b, rfl, _⟩ := hv; simp [Op.equalIn, run_underlying ht]
  ·cases hcl
end
open Go
section
variable {P : Program} {L : eB} {C : eR} {g : Gh} {s : St} {w : World} {ρ : Operand -> Value} {ev : bN -> AV}
theorem Km (hs : cp L.toLk C g s w) (he : wI L g w ρ ev) {o : Oper} {x : Operand} {x' : bN} (ho : o.op = .nilCheck x) (hx : bL L x x' = true)
  {r : AV × St} (h : iS ev s (.nilchk x') = some r) : aP P L C g s w r ((execOp ρ o).run P w) := by
 have hr := he.rep _ _ hx
 simp only [iS] at h
 generalize ev x' = v at h hr
 have key : (∀ u, ρ x = u -> (execOp ρ o).run P w = .ok (.value u) w) -> aP P L C g s w (v, s) ((execOp ρ o).run P w) := fun hk => aP.val hs (hk _ rfl) hr
 cases v with
 | nilp => cases h
 | nilif => cases h
 | nilf => cases h
 | junk => cases h
 | map m => cases m <;> (cases h; refine key fun u hu => ?_; simp only [ay] at hr; first | (subst hr; simp [execOp, ho, hr, <- hu]) | (obtain ⟨_, _, hr⟩ := hr; simp [execOp, ho, hr, <- hu]) | simp [execOp, ho, hr, <- hu])
 | raw t z n => cases h
 | _ =>
  cases h; refine key fun u hu => ?_; simp only [ay] at hr
  first
   | (obtain ⟨_, _, _, _, hr, _⟩ := hr; simp [execOp, ho, hr, <- hu]; done)
   | (obtain ⟨_, _, _, hr, _⟩ := hr; simp [execOp, ho, hr, <- hu]; done)
   | (obtain ⟨_, _, hr, _⟩ := hr; simp [execOp, ho, hr, <- hu]; done)
   | (obtain ⟨_, _, _, hr, _⟩ := hr; simp [execOp, ho, hr, <- hu]; done)
   | (obtain ⟨_, hr, _⟩ := hr; simp [execOp, ho, hr, <- hu]; done)
   | (obtain ⟨_, _, hr⟩ := hr; simp [execOp, ho, hr, <- hu]; done)
   | (simp [execOp, ho, hr, <- hu]; done)
theorem OZ {c : RQ} {u q : AV} {b : Bool} {cu : Value} (h : HN c u q = some b) (hu : ay L.toLk g w u cu) :
  (∀ k n, cu ≠ .int k n) /\ (∀ a, cu ≠ .string a) /\ (∀ a b, cu ≠ .float a b) /\ (∀ a b d, cu ≠ .complex a b d) /\ (∀ cs, cu ≠ .agg cs) /\ (cu = .nilIface -> c = .iface) := by
 unfold HN at h
 split at h <;> first | (cases h; done) | skip
 all_goals simp only [ay] at hu
 all_goals first
  | (subst hu; simp; done)
  | (obtain ⟨_, _, _, _, rfl, _⟩ := hu; simp; done)
  | (obtain ⟨_, _, _, rfl, _⟩ := hu; simp; done)
  | (obtain ⟨_, _, rfl, _⟩ := hu; simp; done)
  | (obtain ⟨_, rfl, _⟩ := hu; simp; done)
  | (obtain ⟨_, _, rfl⟩ := hu; simp; done)
theorem Jn {e : TypeId} {kd : IntKind} (he : P.underlying e = some (.int kd)) (hc : P.cellsOf e = 1) (d : Nat) {vs us : List Value} :
  ∀ (m i : Nat) (xs ys : List AV) (r : Bool), vO m xs ys = some r -> aw L.toLk g w xs (vs.drop i) -> aw L.toLk g w ys (us.drop i) -> (Op.eqItems (d + 1) e (P.cellsOf e) vs.toArray us.toArray (List.range' i m)).run P w = .ok r w
 | 0, i, xs, ys, r, h, _, _ => by
  cases xs <;> cases ys <;> simp [vO] at h
  subst h; simp [Op.eqItems]
 | m + 1, i, xs, ys, r, h, h1, h2 => by
  have hia : (isAgg e).run P w = .ok false w := D4 (by simp [fy, he, lL])
  cases xs with
  | nil => simp [vO] at h
  | cons x xs =>
   cases ys with
   | nil => cases x <;> simp [vO] at h
   | cons y ys =>
    simp only [aw] at h1 h2
    obtain ⟨v, vr, e1, hx, hxs⟩ := h1
    obtain ⟨u, ur, e2, hy, hys⟩ := h2
    have g1 : vs[i]? = some v := by have := congrArg (·[0]?) e1; simpa using this
    have g2 : us[i]? = some u := by have := congrArg (·[0]?) e2; simpa using this
    have d1 : vs.drop (i + 1) = vr := by rw [<- List.drop_drop, e1]; rfl
    have d2 : us.drop (i + 1) = ur := by rw [<- List.drop_drop, e2]; rfl
    rw [<- d1] at hxs
    rw [<- d2] at hys
    have p1 : (part e vs.toArray (i * P.cellsOf e)).run P w = .ok v w := by
     simp [part, hia, hc, g1]
    have p2 : (part e us.toArray (i * P.cellsOf e)).run P w = .ok u w := by
     simp [part, hia, hc, g2]
    cases x <;> cases y <;> simp only [vO] at h <;> first | (cases h; done) | skip
    rename_i k a l b
    split at h
    ·rename_i hkl
     subst hkl
     simp only [ay] at hx hy
     subst hx hy
     have h3 : (Op.equalIn (d + 1) e (.int k a) (.int k b)).run P w = .ok (a == b) w := by simp [Op.equalIn, run_underlying he]
     simp only [List.range'_succ, Op.eqItems, Sem.run_bind, p1, p2, h3, Result.andThen_ok]
     by_cases hab : a = b
     ·rw [if_pos hab] at h
      simpa [hab] using Jn he hc d m (i + 1) xs ys r h hxs hys
     ·rw [if_neg hab] at h
      cases h
      have : (a == b) = false := by simpa using hab
      simp [this]
    ·cases h
theorem O6 (hs : cp L.toLk C g s w) (he : wI L g w ρ ev) {o : Oper} {op : BinOp} {t yt : TypeId} {x y : Operand} {c : RQ} {x' y' : bN} (ho : o.op = .binOp op t x y yt) (hx : bL L x x' = true) (hy : bL L y y' = true)
  (hcl : II P t x y c = true) {r : AV × St} (h : iS ev s (.bin op c x' y') = some r) : aP P L C g s w r ((execOp ρ o).run P w) := by
 have hrx := he.rep _ _ hx
 have hry := he.rep _ _ hy
 simp only [iS, ew] at h
 split at h
 ·rename_i v hv
  cases h
  generalize ev x' = u at hv hrx
  generalize ev y' = q at hv hry
  have other : ∀ b, HN c u q = some b -> ((op = .eql /\ v = .bool b) \/ (op = .neq /\ v = .bool (!b))) -> aP P L C g s w (v, s) ((execOp ρ o).run P w) := by
   intro b hb hop
   obtain ⟨e1, e2, e3, e4, e5, e6⟩ := OZ hb hrx
   have hgd : (eqGuard op t x y (ρ x) (ρ y)).run P w = .ok () w := by
    by_cases hn : ρ x = .nilIface /\ ρ y = .nilIface
    ·have hc := e6 hn.1
     subst hc
     simp only [II] at hcl
     split at hcl
     ·unfold eqGuard
      rw [hn.1, hn.2]
      rcases hop with ⟨rfl, _⟩ | ⟨rfl, _⟩ <;> cases x <;> cases y <;> first | (cases hcl; done) | simp
     ·cases hcl
    ·exact qH hn fun cs ds hh => e5 cs hh.1
   have heq := O0 hs hcl hrx hry hb
   have hbo : ∀ op', (op' = .eql \/ op' = .neq) -> (Go.binOp op' t (ρ x) (ρ y)).run P w = .ok (.bool (if op' = .eql then b else !b)) w := by
    intro op' hop'
    generalize ρ x = a at e1 e2 e3 e4 heq
    generalize ρ y = a' at heq
    rcases hop' with rfl | rfl <;> cases a <;> first
     | (exact absurd rfl (e1 _ _))
     | (exact absurd rfl (e2 _))
     | (exact absurd rfl (e3 _ _))
     | (exact absurd rfl (e4 _ _ _))
     | (simp only [Go.binOp, Sem.run_bind, heq, Result.andThen_ok, Sem.run_pure]; rfl)
   rcases hop with ⟨rfl, rfl⟩ | ⟨rfl, rfl⟩
   ·exact aP.val hs (cv := .bool b) (by simp [execOp, ho, hgd, hbo .eql (.inl rfl)]) (by simp [ay])
   ·exact aP.val hs (cv := .bool (!b)) (by simp [execOp, ho, hgd, hbo .neq (.inr rfl)]) (by simp [ay])
  by_cases hi : (∃ k a l b, u = .int k a /\ q = .int l b)
  ·obtain ⟨k, a, l, b, rfl, rfl⟩ := hi
   obtain ⟨cv, h1, h2⟩ := JD (P := P) (L := L) (w := w) (t := t) hv g
   simp only [ay] at hrx hry
   refine aP.val hs (cv := cv) ?_ h2
   have hgd : (eqGuard op t x y (ρ x) (ρ y)).run P w = .ok () w := qH (by rw [hrx]; simp) (by rw [hrx]; simp)
   simp [execOp, ho, hgd]
   simp [hrx, hry, h1]
  ·by_cases hst : (∃ a b, u = .str a /\ q = .str b)
   ·obtain ⟨a, b, rfl, rfl⟩ := hst
    obtain ⟨cv, h1, h2⟩ := JE (P := P) (L := L) (w := w) (t := t) hv g
    simp only [ay] at hrx hry
    refine aP.val hs (cv := cv) ?_ h2
    have hgd : (eqGuard op t x y (ρ x) (ρ y)).run P w = .ok () w := qH (by rw [hrx]; simp) (by rw [hrx]; simp)
    simp [execOp, ho, hgd]
    simp [hrx, hry, h1]
   ·unfold MR at hv
    split at hv
    ·exact absurd ⟨_, _, _, _, rfl, rfl⟩ hi
    ·exact absurd ⟨_, _, rfl, rfl⟩ hst
    ·rename_i xs ys
     simp only [ay] at hrx hry
     obtain ⟨vs, evs, rvs, _⟩ := hrx
     obtain ⟨us, eus, rus, _⟩ := hry
     have agg : ∀ n b, c = .agg n -> vO n xs ys = some b -> ((op = .eql /\ v = .bool b) \/ (op = .neq /\ v = .bool (!b))) -> aP P L C g s w (v, s) ((execOp ρ o).run P w) := by
      intro n b hc hb hop
      subst hc
      simp only [II] at hcl
      split at hcl
      ·rename_i len e ht
       simp only [Bool.and_eq_true, beq_iff_eq, Bool.not_eq_true'] at hcl
       obtain ⟨⟨⟨⟨rfl, hk⟩, hc1⟩, hi1⟩, hg⟩ := hcl
       split at hk
       ·rename_i kd he
        obtain ⟨inf, hinf⟩ := Option.isSome_iff_exists.1 hi1
        have heq : (Op.equal t (ρ x) (ρ y)).run P w = .ok b w := by
         rw [evs, eus]
         show (Op.equalIn (9998 + 1 + 1) t _ _).run P w = _
         rw [run_equalIn_array w (9998 + 1) _ _ ht hinf, List.range_eq_range']
         exact Jn he hc1 9998 len 0 xs ys b hb (by simpa using rvs) (by simpa using rus)
        have hgd : (eqGuard op t x y (ρ x) (ρ y)).run P w = .ok () w := by
         rw [evs, eus]
         rcases hop with ⟨rfl, _⟩ | ⟨rfl, _⟩ <;> simp [eqGuard, hg]
        rcases hop with ⟨rfl, rfl⟩ | ⟨rfl, rfl⟩
        ·refine aP.val hs (cv := .bool b) ?_ (by simp [ay])
         rw [evs, eus] at heq hgd
         simp [execOp, ho, evs, eus, hgd, Go.binOp, heq]
        ·refine aP.val hs (cv := .bool (!b)) ?_ (by simp [ay])
         rw [evs, eus] at heq hgd
         simp [execOp, ho, evs, eus, hgd, Go.binOp, heq]
       ·cases hk
      ·cases hcl
     split at hv
     ·rename_i n
      cases hb : vO n xs ys with
      | none => rw [hb] at hv; cases hv
      | some b => rw [hb] at hv; cases hv; exact agg n b rfl hb (.inl ⟨rfl, rfl⟩)
     ·rename_i n
      cases hb : vO n xs ys with
      | none => rw [hb] at hv; cases hv
      | some b => rw [hb] at hv; cases hv; exact agg n b rfl hb (.inr ⟨rfl, rfl⟩)
     ·cases hv
    ·split at hv
     ·split at hv
      ·rename_i b hb
       cases hv
       exact other b hb (.inl ⟨rfl, rfl⟩)
      ·cases hv
     ·split at hv
      ·rename_i b hb
       cases hv
       exact other b hb (.inr ⟨rfl, rfl⟩)
      ·cases hv
     ·cases hv
 ·cases h
end
open Go
section
variable {P : Program} {L : eB} {C : eR} {g : Gh} {s : St} {w : World} {ρ : Operand -> Value} {ev : bN -> AV}
theorem Rz (hs : cp L.toLk C g s w) (he : wI L g w ρ ev) {o : Oper} {op : UnOp} {t : TypeId} {x : Operand} {x' : bN} (ho : o.op = .unOp op t x) (hx : bL L x x' = true)
  {r : AV × St} (h : iS ev s (.un op x') = some r) : aP P L C g s w r ((execOp ρ o).run P w) := by
 simp only [iS, ew] at h
 split at h
 ·rename_i v hv
  cases h
  obtain ⟨cv, h1, h2⟩ := P5 (P := P) (he.rep _ _ hx) hv
  exact aP.val hs (cv := cv) (by simp [execOp, ho, h1]) h2
 ·cases h
theorem Hn : ∀ {xs : List AV} {b : List UInt8}, Ju xs = some b -> ∃ ns : List Int, xs = ns.map (AV.int .u8) /\ b = ns.map fun n => UInt8.ofNat n.toNat
 | [], b, h => by simp [Ju] at h; exact ⟨[], rfl, by simp [h]⟩
 | x :: xs, b, h => by
  cases x with
  | int k n =>
   cases k <;> simp only [Ju] at h <;> first | (cases h; done) | skip
   split at h
   ·rename_i r hr
    cases h
    obtain ⟨ns, rfl, rfl⟩ := Hn hr
    exact ⟨n :: ns, rfl, rfl⟩
   ·cases h
  | _ => simp [Ju] at h
theorem Jm {L : Lk} {g : Gh} {w : World} {k : IntKind} : ∀ {ns : List Int} {vs : List Value}, aw L g w (ns.map (AV.int k)) vs -> vs = ns.map (Value.int k)
 | [], vs, h => by simpa [aw] using h
 | n :: ns, vs, h => by
  simp only [List.map_cons, aw] at h
  obtain ⟨v, r, rfl, h1, h2⟩ := h
  simp only [ay] at h1
  subst h1
  rw [Jm h2]; rfl
theorem Nn (ns : List Int) : ∀ r : List UInt8, ns.foldl (fun (r : ByteArray) n => r.push (UInt8.ofNat n.toNat)) ⟨r.toArray⟩ = ⟨(r ++ ns.map fun n => UInt8.ofNat n.toNat).toArray⟩ := by
 induction ns with
 | nil => intro r; simp
 | cons n ns ih =>
  intro r
  simp only [List.foldl_cons, List.map_cons]
  have : (ByteArray.push ⟨r.toArray⟩ (UInt8.ofNat n.toNat)) = ⟨(r ++ [UInt8.ofNat n.toNat]).toArray⟩ := by
   apply ByteArray.ext; simp [ByteArray.push]
  rw [this, ih]; simp
theorem M0 (hs : cp L.toLk C g s w) (he : wI L g w ρ ev) {o : Oper} {a b : TypeId} {c : CV} {x : Operand} {x' : bN} (ho : o.op = .convert a b x) (hx : bL L x x' = true) (hc : MZ P a b c = true)
  {r : AV × St} (h : iS ev s (.conv c x') = some r) : aP P L C g s w r ((execOp ρ o).run P w) := by
 have hr := he.rep _ _ hx
 simp only [iS, ew] at h
 split at h
 ·rename_i v hv
  cases h
  unfold Lj at hv
  unfold MZ at hc
  split at hv
  ·rename_i k k' n hev
   cases hv
   rw [hev] at hr
   simp only [ay] at hr
   simp only at hc
   split at hc
   ·rename_i d k2 h1 h2
    simp only [beq_iff_eq] at hc
    subst hc
    refine aP.val hs (cv := .int k (k.wrap n)) ?_ (by simp [ay])
    simp [execOp, ho, convert, run_underlying h1, run_underlying h2, hr, Conv.intToInt]
   ·cases hc
  ·rename_i l hev
   cases hv
   rw [hev] at hr
   have hr' := hr
   simp only [ay] at hr
   simp only at hc
   split at hc
   ·rename_i h1 h2
    refine aP.val hs (cv := ρ x) ?_ hr'
    simp [execOp, ho, convert, run_underlying h1, run_underlying h2, hr]
   ·cases hc
  ·rename_i l hev
   cases hv
   rw [hev] at hr
   simp only [ay] at hr
   simp only at hc
   split at hc
   ·rename_i e h1 h2
    split at hc
    ·rename_i h3
     obtain ⟨cap, hcap⟩ : ∃ cap, cap = (Question.appendCap l.length 0 e).cut (w.tape w.drawn (.appendCap l.length 0 e)) := ⟨_, rfl⟩
     have hge : l.length <= cap := by rw [hcap]; simp [Question.cut]
     obtain ⟨cs, hcs⟩ : ∃ cs : Array Value, cs = (l.map fun q => Value.int .u8 q.toNat).toArray ++ Array.replicate (cap - l.length) (.int .u8 0) := ⟨_, rfl⟩
     have hsz : cs.size = cap := by rw [hcs]; simp; omega
     have hnew := hs.newImm (c := cs) (e := e) (fz := (cap, cap + 1)) (w' := { w with drawn := w.drawn + 1, heap := w.heap.push (.cells cs e (cap, cap + 1)) }) rfl ⟨rfl, rfl, rfl⟩ l.length
     refine ⟨_, _, .value (.slice (some ⟨w.heap.size, 0, none⟩) l.length cap), _, ?_, .inl rfl, ?_, hnew.1, hnew.2⟩
     ·simp only [execOp, ho, convert, Sem.run_bind, run_underlying h1, run_underlying h2, hr, Result.andThen_ok, run_underlying h3, Conv.stringToBytes, run_choose, Question.forced, Bool.false_eq_true, if_false, newRow, run_newObj, Sem.run_pure]
      have e1 : (⟨l.toArray⟩ : ByteArray).size = l.length := by simp [ByteArray.size]
      have e2 : ((⟨l.toArray⟩ : ByteArray).data.map fun b => Value.int .u8 b.toNat) ++ Array.replicate (cap - l.length) (.int .u8 0) = cs := by rw [hcs]; simp
      simp only [e1, <- hcap, e2, markStringish, Sem.run_bind, run_shape, Result.andThen_ok]
      have e3 : World.shape? { w with drawn := w.drawn + 1, heap := w.heap.push (.cells cs e) } w.heap.size = some (e, cs.size) := by
       simp [World.shape?]
      have e4 : ({ w with drawn := w.drawn + 1, heap := w.heap.push (.cells cs e) } : World).freeze ⟨w.heap.size, cs.size, none⟩ 1 = { w with drawn := w.drawn + 1, heap := w.heap.push (.cells cs e (cap, cap + 1)) } := by
       simp only [World.freeze]
       rw [if_neg (by decide)]
       congr 1
       apply Array.ext_getElem?
       intro i
       rw [Array.getElem?_modify]
       by_cases hi : w.heap.size = i
       ·subst hi; simp [hsz]
       ·simp [hi, Array.getElem?_push, Ne.symm hi]
      rw [e3]
      simp only [run_freeze, Result.andThen_ok, e4]
     ·simp only [ay]
      have hfl : cM (l.map fun q => Value.int .u8 q.toNat) = l.map fun q => Value.int .u8 q.toNat := p9 _ (fun _ => rfl) l
      refine ⟨some ⟨w.heap.size, 0, none⟩, cap, l.map fun q => Value.int .u8 q.toNat, by simp [oD], by simpa [oD] using hge, BC l, Dn l, ?_, ⟨fun _ => rfl, ?_⟩, rfl⟩
      ·intro u hu; rw [List.mem_map] at hu; obtain ⟨q, _, rfl⟩ := hu
       exact ⟨rfl, fun c hc => by simp [Value.cells] at hc; subst hc; trivial⟩
      ·rw [hfl]
       refine GS (g := g) (tk := g.tk) (w' := { w with drawn := w.drawn + 1, heap := w.heap.push (.cells cs e (cap, cap + 1)) }) (c := cs) (e := e) (fz := (cap, cap + 1)) rfl ?_ (by simp)
       rw [hcs]; simp
    ·cases hc
   ·cases hc
  ·rename_i own xs hev
   rw [hev] at hr
   simp only [ay] at hr
   obtain ⟨a', cap, vs, hρ, hcap, hun, hrl, hsz, hl, ho'⟩ := hr
   simp only [Option.map_eq_some_iff] at hv
   obtain ⟨b', hb', rfl⟩ := hv
   obtain ⟨ns, rfl, rfl⟩ := Hn hb'
   have hvs := Jm hrl
   subst hvs
   simp only at hc
   split at hc
   ·rename_i e h1 h2
    split at hc
    ·rename_i h3
     refine aP.val hs (cv := .string ⟨(ns.map fun n => UInt8.ofNat n.toNat).toArray⟩) ?_ (by simp [ay])
     simp only [execOp, ho, convert, Sem.run_bind, run_underlying h1, run_underlying h2, hρ, Result.andThen_ok]
     have hgo : (Conv.bytesToString (.slice a' (ns.map (AV.int .u8)).length cap)).run P w = .ok (.string ⟨(ns.map fun n => UInt8.ofNat n.toNat).toArray⟩) w := by
      cases a' with
      | none =>
       have : ns = [] := by simpa using hl.1
       subst this
       simp only [Conv.bytesToString, Sem.run_pure]; rfl
      | some p =>
       have hld := run_loadCells_list (P := P) w p (cM (ns.map (Value.int .u8))) (FA hl.2 rfl (A4 hl.1 (by simp)) rfl rfl)
       have hfl : cM (ns.map (Value.int .u8)) = ns.map (Value.int .u8) := p9 _ (fun _ => rfl) ns
       rw [hfl] at hld
       simp only [List.length_map] at hld
       have := run_bytesToString w p ns.length cap ns hld
       simp only [List.length_map]
       rw [this]
       have h0 := Nn ns []
       simp only [List.nil_append] at h0
       exact congrArg (fun q => Result.ok (Value.string q) w) h0
     rw [run_underlying h3]
     simp only [Result.andThen_ok, hgo, Sem.run_pure]
    ·cases hc
   ·cases hc
  ·rename_i k n hev
   split at hv
   ·rename_i hn
    cases hv
    rw [hev] at hr
    simp only [ay] at hr
    simp only at hc
    split at hc
    ·rename_i k' h1 h2
     refine aP.val hs (cv := .string ⟨[UInt8.ofNat n.toNat].toArray⟩) ?_ (by simp [ay])
     have hva : Go.Utf8.valid n = true := by unfold Go.Utf8.valid; simp only [Bool.or_eq_true, Bool.and_eq_true, decide_eq_true_eq]; left; omega
     have he : Go.Utf8.encode n = ⟨[UInt8.ofNat n.toNat].toArray⟩ := by
      unfold Go.Utf8.encode
      simp only [hva, if_true]
      rw [if_pos (by omega)]
     simp [execOp, ho, convert, run_underlying h1, run_underlying h2, hr, Conv.intToString, he]
    ·cases hc
   ·cases hv
  ·cases hv
 ·cases h
theorem Nz (hs : cp L.toLk C g s w) (he : wI L g w ρ ev) {o : Oper} {t : TypeId} {u : Nat} {x : Operand} {x' : bN} (ho : o.op = .makeInterface t x) (hx : bL L x x' = true) (ht : L.tyOf u = t) {d : TypeDesc}
  (hu : P.underlying t = some d) (hd : (match d with | .interface _ => false | _ => true) = true) {r : AV × St} (h : iS ev s (.mkif u x') = some r) : aP P L C g s w r ((execOp ρ o).run P w) := by
 simp only [iS, Option.some.injEq] at h
 subst h
 refine aP.val hs (cv := .iface t (ρ x)) ?_ (by simp only [ay]; exact ⟨_, by rw [ht], he.rep _ _ hx⟩)
 cases d <;> first | (cases hd; done) | simp [execOp, ho, Instr.makeInterface, run_underlying hu]
theorem Ny (hs : cp L.toLk C g s w) (he : wI L g w ρ ev) {o : Oper} {f g' : Nat} {a c : Array Operand} {a' c' : List bN} (ho : o.op = .makeFunc (.func f) a c) (hf : L.fnOf g' = f) (ha : vp L a.toList a' = true) (hc : vp L c.toList c' = true)
  {r : AV × St} (h : iS ev s (.mkfn g' a' c') = some r) : aP P L C g s w r ((execOp ρ o).run P w) := by
 simp only [iS, Option.some.injEq] at h
 subst h
 refine aP.val hs (cv := .func (.func f) (a.map ρ) (c.map ρ)) (by simp only [execOp, ho, Instr.makeFunc, Sem.run_bind, Sem.run_pure, Result.andThen_ok]) ?_
 simp only [ay]
 refine ⟨a.toList.map ρ, c.toList.map ρ, ?_, he.reps ha, he.reps hc⟩
 rw [hf]
 congr 1
 ·apply Array.ext'; simp
 ·apply Array.ext'; simp
theorem Ma (hs : cp L.toLk C g s w) {o : Oper} {t : TypeId} (ho : o.op = .makeMap t none) {r : AV × St} (h : iS ev s .mkmap = some r) : aP P L C g s w r ((execOp ρ o).run P w) := by
 simp only [iS, Option.some.injEq] at h
 subst h
 have hp := hs.push (o := .map #[] 0) (ab := .amap []) (w' := { w with heap := w.heap.push (.map #[] 0) }) rfl tJ [] (by simp)
  (fun _ => ⟨#[], 0, by rw [jj rfl], ⟨rfl, fun i k v e h => by simp at h⟩, ⟨fun x h => by simp at h, by simp⟩⟩)
 refine ⟨_, _, .value (.map (some w.heap.size)), _, by simp [execOp, ho, Instr.makeMap], .inl rfl, ?_, hp.1, hp.2⟩
 simp only [ay]
 exact ⟨w.heap.size, by simp [<- hs.bl], rfl⟩
theorem Ll (hs : cp L.toLk C g s w) (he : wI L g w ρ ev) {o : Oper} {t : TypeId} {f off n : Nat} {x : Operand} {x' : bN} {fd : Field} (ho : o.op = .fieldAddr t x f) (hx : bL L x x' = true)
  (hf : AQ P t f = some fd) (hoff : fd.offset = off) (hn : rA P fd.type = some n) (hn0 : n ≠ 0) {r : AV × St} (h : iS ev s (.faddr off x') = some r) : aP P L C g s w r ((execOp ρ o).run P w) := by
 have hr := he.rep _ _ hx
 have hrun : ∀ (b q : Nat), ρ x = .pointer (some ⟨b, q, none⟩) -> (execOp ρ o).run P w = .ok (.value (.pointer (some ⟨b, q + off, none⟩))) w := by
  intro b q hq
  unfold AQ at hf
  split at hf
  ·rename_i fs hu
   simp only [execOp, ho, Instr.fieldAt, Sem.run_bind, run_underlying hu, Result.andThen_ok, hf, hq, Instr.sureAddr, Sem.run_pure, fieldPlace, ey hn, Sem.run_ite]
   rw [if_neg hn0]
   simp [hoff, pP]
  ·cases hf
 simp only [iS] at h
 split at h
 ·rename_i i q hev
  cases h
  rw [hev] at hr
  simp only [ay] at hr
  obtain ⟨b, hb, hq⟩ := hr
  exact aP.val hs (hrun b q hq) (by simp only [ay]; exact ⟨b, hb, rfl⟩)
 ·rename_i y q hev
  cases h
  rw [hev] at hr
  simp only [ay] at hr
  obtain ⟨b, o2, xv, hq, h1, h2, h3⟩ := hr
  exact aP.val hs (hrun b (o2 + q) hq) (by simp only [ay]; exact ⟨b, o2, xv, by rw [Nat.add_assoc], h1, h2, h3⟩)
 ·cases h
theorem Mn {t : TypeId} {agg : Bool} {n off : Nat} (ha : fy P t = some agg) (hn : rA P t = some n) (h1 : agg = true \/ n = 1) {cs : List AV} {vs : Array Value} (hr : aw L.toLk g w cs vs.toList)
  (ho : ∀ u ∈ vs.toList, bs u) {x : AV} (hx : xC agg n off cs = some x) : ∃ cv, (part t vs off).run P w = .ok cv w /\ ay L.toLk g w x cv := by
 unfold xC at hx
 unfold part
 simp only [Sem.run_bind, D4 ha, Result.andThen_ok]
 cases agg with
 | true =>
  simp only [if_true] at hx ⊢
  split at hx
  ·cases hx
   refine ⟨.agg (vs.extract off (off + n)), by simp [ey hn], ?_⟩
   simp only [ay]
   refine ⟨(vs.toList.drop off).take n, ?_, (hr.drop off).take n, fun u hu => ho u (List.mem_of_mem_drop (List.mem_of_mem_take hu))⟩
   congr 1
   apply Array.ext'
   simp [List.extract_eq_take_drop]
  ·cases hx
 | false =>
  simp only [Bool.false_eq_true, if_false] at hx ⊢
  obtain ⟨v, hv, hrv⟩ := hr.get hx
  have : vs[off]? = some v := by simpa using hv
  exact ⟨v, by simp [this], hrv⟩
theorem Lm (hs : cp L.toLk C g s w) (he : wI L g w ρ ev) {o : Oper} {t : TypeId} {f off n : Nat} {agg : Bool} {x : Operand} {x' : bN} {fd : Field} (ho : o.op = .field t x f) (hx : bL L x x' = true)
  (hf : AQ P t f = some fd) (hoff : fd.offset = off) (ha : fy P fd.type = some agg) (hn : rA P fd.type = some n) (h1 : agg = true \/ n = 1) {r : AV × St} (h : iS ev s (.field off agg n x') = some r) :
  aP P L C g s w r ((execOp ρ o).run P w) := by
 have hr := he.rep _ _ hx
 simp only [iS] at h
 split at h
 ·rename_i cs hev
  simp only [ew] at h
  split at h
  ·rename_i v hv
   cases h
   rw [hev] at hr
   simp only [ay] at hr
   obtain ⟨vs, hρ, hrl, hone⟩ := hr
   obtain ⟨cv, h2, h3⟩ := Mn (P := P) (vs := vs.toArray) ha hn h1 (by simpa using hrl) (by simpa using hone) hv
   refine aP.val hs (cv := cv) ?_ h3
   unfold AQ at hf
   split at hf
   ·rename_i fs hu
    simp only [execOp, ho, Instr.field, Sem.run_bind, run_underlying hu, Result.andThen_ok, hf, hρ, asAgg, Sem.run_pure, hoff, h2]
   ·cases hf
  ·cases h
 ·cases h
theorem wm {i : AV} {n k : Nat} (h : et i n = some k) : ∃ q m, i = .int q m /\ 0 <= m /\ m < n /\ k = m.toNat /\ k < n := by
 unfold et at h
 split at h
 ·rename_i q m
  split at h
  ·rename_i hc; cases h; exact ⟨q, m, rfl, hc.1, hc.2, rfl, by omega⟩
  ·cases h
 ·cases h
theorem I6 {g : Gh} {w : World} {b o : Nat} {cs : List Value} (h : Ct g w b o cs) (k n : Nat) : Ct g w b (o + k) ((cs.drop k).take n) := by
 intro j c hj
 rw [List.getElem?_take] at hj
 split at hj
 ·rw [List.getElem?_drop] at hj
  have := h _ _ hj
  rwa [<- Nat.add_assoc] at this
 ·cases hj
theorem Pm {sz : Nat} {vs : List Value} (h : ∀ u ∈ vs, u.cells.size = sz) {k : Nat} {v : Value} (hk : vs[k]? = some v) : ((cM vs).drop (k * sz)).take sz = v.cells.toList := by
 have hlt := (List.getElem?_eq_some_iff.1 hk).1
 rw [DL h k (Nat.le_of_lt hlt)]
 have hd : vs.drop k = v :: vs.drop (k + 1) := by
  rw [List.drop_eq_getElem_cons hlt]
  congr 1
  have := (List.getElem?_eq_some_iff.1 hk).2
  exact this
 rw [hd]
 have : cM (v :: vs.drop (k + 1)) = v.cells.toList ++ cM (vs.drop (k + 1)) := by simp [cM]
 rw [this]
 have hv := h v (List.mem_of_getElem? hk)
 exact List.take_left' (by simpa using hv)
theorem LS (hs : cp L.toLk C g s w) (he : wI L g w ρ ev) {o : Oper} {t : TypeId} {sz : Nat} {x i : Operand} {x' i' : bN} (ho : o.op = .indexAddr t x i) (hx : bL L x x' = true) (hi : bL L i i' = true)
  (ht : uf P t sz = true) {r : AV × St} (h : iS ev s (.iaddr sz x' i') = some r) : aP P L C g s w r ((execOp ρ o).run P w) := by
 have hrx := he.rep _ _ hx
 have hri := he.rep _ _ hi
 unfold uf at ht
 split at ht
 ·rename_i e hu
  simp only [beq_iff_eq] at ht
  have hrun : ∀ (b q len cap k : Nat) (kk : IntKind) (m : Int), ρ x = .slice (some ⟨b, q, none⟩) len cap -> ρ i = .int kk m -> 0 <= m -> m < len -> k = m.toNat ->
    (execOp ρ o).run P w = .ok (.value (.pointer (some ⟨b, q + k * sz, none⟩))) w := by
   intro b q len cap k kk m h1 h2 h3 h4 h5
   simp only [execOp, ho, Instr.indexAt, h1, h2, asIntOf, Sem.run_bind, Sem.run_pure, Result.andThen_ok, run_underlying hu]
   rw [if_pos ⟨h3, h4⟩]
   simp [ey ht, pP, h5]
  simp only [iS] at h
  split at h
  ·rename_i own z xs hev
   split at h
   ·cases h
   ·rename_i hz
    simp only [ne_eq, Decidable.not_not] at hz
    subst hz
    split at h
    ·rename_i k hk
     cases h
     obtain ⟨kk, m, him, h0, hm, hkm, hlt⟩ := wm hk
     rw [hev] at hrx
     rw [him] at hri
     simp only [ay] at hrx hri
     obtain ⟨a, cap, vs, hρ, hcap, hun, hrl, hsz, hl, hown⟩ := hrx
     obtain ⟨y, hy⟩ : ∃ y, xs[k]? = some y := ⟨xs[k], List.getElem?_eq_getElem hlt⟩
     obtain ⟨v, hv, hrv⟩ := hrl.get hy
     cases a with
     | none => rw [hl.1] at hlt; simp at hlt
     | some p =>
      obtain ⟨pb, po, ps⟩ := p
      obtain ⟨hsp, hl⟩ := hl
      have hsp := hsp (by rintro rfl; simp at hlt)
      simp only at hsp
      subst hsp
      refine aP.val hs (hrun pb po _ cap k kk m hρ hri h0 hm hkm) ?_
      simp only [ay, List.getD_eq_getElem?_getD, hy, Option.getD_some]
      refine ⟨pb, po + k * z, v, rfl, ?_, hrv, ?_⟩
      ·have := congrArg (fun l => l[k]?) hun
       simp only [AV.untokL_eq, List.getElem?_map, hy, Option.map_some, Option.some.injEq] at this
       exact this
      ·have := I6 hl (k * z) z
       rwa [Pm (fun u hu => (hsz u hu).1) hv] at this
    ·cases h
  ·rename_i b off z n hev
   split at h
   ·cases h
   split at h
   ·rename_i k hk
    cases h
    obtain ⟨kk, m, him, h0, hm, hkm, hlt⟩ := wm hk
    rw [hev] at hrx
    rw [him] at hri
    simp only [ay] at hrx hri
    obtain ⟨b', a, cap, hb', hρ, hcap, ha⟩ := hrx
    rw [(ha (by omega)).1] at hρ
    exact aP.val hs (hrun b' off _ cap k kk m hρ hri h0 hm hkm) (by simp only [ay]; exact ⟨b', hb', rfl⟩)
   ·cases h
  ·cases h
 ·cases ht
theorem KS (hs : cp L.toLk C g s w) (he : wI L g w ρ ev) {o : Oper} {t e : TypeId} {sz len : Nat} {x i : Operand} {x' i' : bN} (ho : o.op = .indexAddr t x i) (hx : bL L x x' = true) (hi : bL L i i' = true)
  (hu : P.underlying t = some (.array len e)) (ht : rA P e = some sz) {r : AV × St} (h : iS ev s (.aaddr sz len x' i') = some r) : aP P L C g s w r ((execOp ρ o).run P w) := by
 have hrx := he.rep _ _ hx
 have hri := he.rep _ _ hi
 have hrun : ∀ (b q k : Nat) (kk : IntKind) (m : Int), ρ x = .pointer (some ⟨b, q, none⟩) -> ρ i = .int kk m -> 0 <= m -> m < len -> k = m.toNat ->
   (execOp ρ o).run P w = .ok (.value (.pointer (some ⟨b, q + k * sz, none⟩))) w := by
  intro b q k kk m h1 h2 h3 h4 h5
  simp only [execOp, ho, Instr.indexAt, h1, h2, asIntOf, Sem.run_bind, Sem.run_pure, Result.andThen_ok, run_underlying hu, Instr.sureAddr]
  rw [if_pos ⟨h3, h4⟩]
  simp [ey ht, pP, h5]
 simp only [iS] at h
 split at h
 ·rename_i b off hev
  split at h
  ·rename_i k hk
   cases h
   obtain ⟨kk, m, him, h0, hm, hkm, hlt⟩ := wm hk
   rw [hev] at hrx
   rw [him] at hri
   simp only [ay] at hrx hri
   obtain ⟨b', hb', hρ⟩ := hrx
   exact aP.val hs (hrun b' off k kk m hρ hri h0 hm hkm) (by simp only [ay]; exact ⟨b', hb', rfl⟩)
  ·cases h
 ·rename_i y off hev
  split at h
  ·rename_i k hk
   cases h
   obtain ⟨kk, m, him, h0, hm, hkm, hlt⟩ := wm hk
   rw [hev] at hrx
   rw [him] at hri
   simp only [ay] at hrx hri
   obtain ⟨b', o2, xv, hρ, h1, h2, h3⟩ := hrx
   exact aP.val hs (hrun b' (o2 + off) k kk m hρ hri h0 hm hkm) (by simp only [ay]; exact ⟨b', o2, xv, by rw [Nat.add_assoc], h1, h2, h3⟩)
  ·cases h
 ·cases h
theorem LU (hs : cp L.toLk C g s w) (he : wI L g w ρ ev) {o : Oper} {t : TypeId} {x i : Operand} {x' i' : bN} (ho : o.op = .index t x i) (hx : bL L x x' = true) (hi : bL L i i' = true)
  (hu : P.underlying t = some .string) {r : AV × St} (h : iS ev s (.index x' i') = some r) : aP P L C g s w r ((execOp ρ o).run P w) := by
 have hrx := he.rep _ _ hx
 have hri := he.rep _ _ hi
 simp only [iS] at h
 split at h
 ·rename_i b hev
  split at h
  ·rename_i k hk
   cases h
   obtain ⟨kk, m, him, h0, hm, hkm, hlt⟩ := wm hk
   rw [hev] at hrx
   rw [him] at hri
   simp only [ay] at hrx hri
   have hget : (⟨b.toArray⟩ : ByteArray)[m.toNat]? = some (b.getD k 0) := by
    rw [<- hkm]
    have hlt' : k < (⟨b.toArray⟩ : ByteArray).size := by simpa [ByteArray.size] using hlt
    rw [getElem?_pos (⟨b.toArray⟩ : ByteArray) k hlt']
    simp [List.getD_eq_getElem?_getD, hlt, ByteArray.getElem_eq_getElem_data]
   refine aP.val hs (cv := .int .u8 (b.getD k 0).toNat) ?_ (by simp [ay])
   simp only [execOp, ho, Instr.index, hri, asIntOf, Sem.run_bind, Sem.run_pure, Result.andThen_ok, run_underlying hu, hrx]
   rw [if_pos h0, hget]
   rfl
  ·cases h
 ·cases h
theorem Jz (hs : cp L.toLk C g s w) (he : wI L g w ρ ev) {o : Oper} {t e : TypeId} {sz len : Nat} {agg : Bool} {x i : Operand} {x' i' : bN} (ho : o.op = .index t x i) (hx : bL L x x' = true) (hi : bL L i i' = true)
  (hu : P.underlying t = some (.array len e)) (ha : fy P e = some agg) (ht : rA P e = some sz) (h1 : agg = true \/ sz = 1) {r : AV × St} (h : iS ev s (.aindex sz len agg x' i') = some r) : aP P L C g s w r ((execOp ρ o).run P w) := by
 have hrx := he.rep _ _ hx
 have hri := he.rep _ _ hi
 simp only [iS] at h
 split at h
 ·rename_i cs hev
  split at h
  ·rename_i k hk
   simp only [ew] at h
   split at h
   ·rename_i v hv
    cases h
    obtain ⟨kk, m, him, h0, hm, hkm, hlt⟩ := wm hk
    rw [hev] at hrx
    rw [him] at hri
    simp only [ay] at hrx hri
    obtain ⟨vs, hρ, hrl, hone⟩ := hrx
    obtain ⟨cv, h2, h3⟩ := Mn (P := P) (vs := vs.toArray) ha ht h1 (by simpa using hrl) (by simpa using hone) hv
    refine aP.val hs (cv := cv) ?_ h3
    simp only [execOp, ho, Instr.index, hri, asIntOf, Sem.run_bind, Sem.run_pure, Result.andThen_ok, run_underlying hu, hρ]
    rw [if_pos ⟨h0, hm⟩]
    simp only [Sem.run_bind, ey ht, Result.andThen_ok, <- hkm, h2]
   ·cases h
  ·cases h
 ·cases h
theorem Pk (hs : cp L.toLk C g s w) (he : wI L g w ρ ev) {o : Oper} {i : Nat} {x : Operand} {x' : bN} (ho : o.op = .extract x i) (hx : bL L x x' = true) {r : AV × St} (h : iS ev s (.ext x' i) = some r) : aP P L C g s w r ((execOp ρ o).run P w) := by
 have hr := he.rep _ _ hx
 simp only [iS] at h
 split at h
 ·rename_i vs hev
  split at h
  ·rename_i v hv
   cases h
   rw [hev] at hr
   simp only [ay] at hr
   obtain ⟨us, hρ, hrl⟩ := hr
   obtain ⟨cv, h1, h2⟩ := hrl.get hv
   exact aP.val hs (cv := cv) (by simp [execOp, ho, hρ, Instr.extract, h1]) h2
  ·cases h
 ·cases h
end
end Ab
