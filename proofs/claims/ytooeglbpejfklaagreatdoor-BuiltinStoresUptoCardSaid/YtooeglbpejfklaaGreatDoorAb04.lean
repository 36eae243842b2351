/- append. No condition. -/
import Derived.Test.YtooeglbpejfklaaGreatDoorAb03
import Derived.Laws.Concat
import Derived.Laws.BytesString
set_option linter.all false
namespace Ab
open Go
section
variable {P : Program} {L : Link} {C : CodeR} {g : Gh} {s : St} {w : World} {ρ : Operand → Value} {ev : Opd → AV}

theorem spot_flat {xs : List AV} {vs : List Value} {p : Addr} (h : xs ≠ [] → p.spot = none) (hl : vs.length = xs.length) : flat vs ≠ [] → p.spot = none := fun hf => h fun e => hf (by
  subst e
  rw [List.eq_nil_of_length_eq_zero hl]; rfl)

theorem lies_at {g : Gh} {w : World} {b o : Nat} {cs : List Value} (h : Lies g w b o cs) {w2 : World} (hh : w2.heap = w.heap) {p : Addr} (hp : cs ≠ [] → p.spot = none) (hb : p.block = b) (ho : p.off = o) :
    ∀ (j : Nat) (v : Value), cs[j]? = some v → w2.cell? (p.add j) = some v := by
  intro j v hj
  rw [addr_add' (hp (by rintro rfl; simp at hj)), hb, ho, cell?_congr (w := w) (by rw [hh])]
  exact (h j v hj).2

/- what is appended, on both sides -/
def AppArg (P : Program) (L : Link) (g : Gh) (w : World) (sz : Nat) (ys : List AV) (cy : Value) : Prop :=
  ∃ vs, RepL L.toLk g w ys vs ∧ AV.untokL ys = ys ∧ (∀ u ∈ vs, Sized sz u) ∧
    (∀ w2, (Builtin.lenOf cy).run P w2 = .ok ys.length w2) ∧ ∀ w2, w2.heap = w.heap → (Builtin.firstCells sz ys.length cy).run P w2 = .ok (flat vs).toArray w2

/- cells of a row that lies in memory are single ones: they were stored -/
theorem run_firstCells {sz n : Nat} {a : Option Addr} {len cap : Nat} {cs : List Value} (hl : cs.length = n * sz) (h : match a with | none => cs = [] | some p => ∀ (j : Nat) (v : Value), cs[j]? = some v → w.cell? (p.add j) = some v) :
    (Builtin.firstCells sz n (.slice a len cap)).run P w = .ok cs.toArray w := by
  cases a with
  | none => simp only at h; subst h; simp [Builtin.firstCells]
  | some p =>
    simp only [Builtin.firstCells]
    rw [← hl]
    exact run_loadCells_list w p cs h

theorem strBytes_rep {L : Lk} {g : Gh} {w : World} (b : List UInt8) : RepL L g w (bytesOf b) (b.map fun x => Value.int .u8 x.toNat) := by
  unfold bytesOf
  exact RepL.map _ _ b fun x _ => by simp [Rep]

theorem bytesOf_untok (b : List UInt8) : AV.untokL (bytesOf b) = bytesOf b := by
  rw [AV.untokL_eq]; unfold bytesOf; rw [List.map_map]; apply List.map_congr_left; intro x _; rfl

theorem flat_map_one {α : Type} (f : α → Value) (h : ∀ x, (f x).cells = #[f x]) (l : List α) : flat (l.map f) = l.map f := by
  induction l with
  | nil => rfl
  | cons x l ih =>
    unfold flat at ih ⊢
    simp only [List.map_cons, List.flatMap_cons, h, ih]; rfl

structure RowInfo (P : Program) (t e : TypeId) (i : TypeInfo) (z : Value) (sz : Nat) : Prop where
  ht : P.underlying t = some (.slice e)
  hi : P.info? e = some i
  hz : i.zero = some z
  size : i.size = sz
  bytes : i.bytes ≤ 1024
  pos : 0 < sz
  zs : z.cells.size = sz

theorem rowInfo {t : TypeId} {sz : Nat} (h1 : elemIs P t sz = true) (h2 : bytesOk P t = true) (h3 : 0 < sz) : ∃ e i z, RowInfo P t e i z sz := by
  unfold elemIs at h1
  unfold bytesOk at h2
  split at h1
  · rename_i e he
    simp only [he] at h2
    split at h2
    · rename_i i hi
      simp only [Bool.and_eq_true, decide_eq_true_eq] at h2
      obtain ⟨hb, h2⟩ := h2
      split at h2
      · rename_i z hz
        have hsz : i.size = sz := by simpa [szOf, hi] using h1
        exact ⟨e, i, z, he, hi, hz, hsz, hb, h3, by rw [← hsz]; simpa using h2⟩
      · cases h2
    · cases h2
  · cases h1

theorem next_small (need old : Nat) (h : old < need) (hn : need ≤ most) : Builtin.nextslicecap need old ≤ 4294967296 := by
  unfold Builtin.nextslicecap
  unfold most at hn
  split
  · omega
  · split
    · omega
    · have key : ∀ (r c : Nat), c ≤ 4294967296 → c < need ∨ c ≤ 4294967296 → Builtin.growBy need r c ≤ 4294967296 := by
        intro r
        induction r with
        | zero => intro c hc _; simpa [Builtin.growBy] using hc
        | succ r ih =>
          intro c hc _
          simp only [Builtin.growBy]
          split
          · exact hc
          · exact ih _ (by omega) (.inr (by omega))
      exact key 4 old (by omega) (.inr (by omega))

theorem run_append_in {t u e ty : TypeId} {i : TypeInfo} {z : Value} {sz : Nat} (hR : RowInfo P t e i z sz) (hu : notIntT P u = true) {b o sLen sCap m : Nat} {cy : Value} {news : List Value}
    (hlen : (Builtin.lenOf cy).run P w = .ok m w) (hnew : (Builtin.firstCells sz m cy).run P w = .ok news.toArray w) (hcap : sLen + m ≤ sCap)
    (hc : ∀ (j : Nat), j < news.length → (w.cell? ⟨b, o + sLen * sz + j, none⟩).isSome = true) (hf : ∀ j, j < news.length → w.frozen? ⟨b, o + sLen * sz + j, none⟩ = false) (h1 : ∀ v ∈ news, v.oneCell' = true) :
    (Builtin.append_ #[t, u] ty #[.slice (some ⟨b, o, none⟩) sLen sCap, cy]).run P w = .ok (.slice (some ⟨b, o, none⟩) (sLen + m) sCap) (w.setCells b (o + sLen * sz) news) := by
  have hst := run_storeCells_cells (P := P) b (o + sLen * sz) news 0 w (by simpa using hc) (by simpa using hf) h1
  simp only [Nat.add_zero] at hst
  unfold notIntT at hu
  cases hd : P.underlying u with
  | none => simp [hd] at hu
  | some d =>
    rw [hd] at hu
    cases d <;> first | (cases hu; done) | simp only [Builtin.append_, List.getElem?_toArray, List.getElem?_cons_zero, List.getElem?_cons_succ, Sem.run_bind, run_underlying hR.ht, Result.andThen_ok, Go.sizeOf, typeInfo, run_program, hR.hi, Sem.run_pure,
      run_underlying hd, hlen, hR.size, Bool.false_eq_true, if_false, hcap, if_true, hnew, addr_add, hst, Bool.not_false]

theorem run_append_out {t u e ty : TypeId} {i : TypeInfo} {z : Value} {sz : Nat} (hR : RowInfo P t e i z sz) (hu : notIntT P u = true) {a : Option Addr} {sLen sCap m : Nat} {cy : Value} {olds news : List Value}
    (hlen : (Builtin.lenOf cy).run P w = .ok m w) (hnew : ∀ w2, w2.heap = w.heap → (Builtin.firstCells sz m cy).run P w2 = .ok news.toArray w2) (hcap : sCap < sLen + m) (hm : sLen + m ≤ most)
    (hold : ∀ w2, w2.heap = w.heap → (Builtin.firstCells sz sLen (.slice a sLen sCap)).run P w2 = .ok olds.toArray w2) :
    ∃ newCap w', sLen + m ≤ newCap ∧ w'.heap = w.heap.push (.cells (olds.toArray ++ news.toArray ++ Builtin.zeroCells z.cells (newCap - (sLen + m))) e) ∧ Same w w' ∧
    (Builtin.append_ #[t, u] ty #[.slice a sLen sCap, cy]).run P w = .ok (.slice (some ⟨w.heap.size, 0, none⟩) (sLen + m) newCap) w' := by
  unfold notIntT at hu
  cases hd : P.underlying u with
  | none => simp [hd] at hu
  | some d =>
    rw [hd] at hu
    have hns := next_small (sLen + m) sCap hcap hm
    have hb := hR.bytes
    have hle : ¬ (Builtin.nextslicecap (sLen + m) sCap * i.bytes > 2 ^ 48) := by
      have : Builtin.nextslicecap (sLen + m) sCap * i.bytes ≤ 4294967296 * 1024 := Nat.mul_le_mul hns hb
      omega
    have hmax : ¬ (((sLen + m : Nat) : Int) > IntKind.i64.max ∧ (False ∨ i.bytes = 0)) := by
      have : IntKind.i64.max = 9223372036854775807 := by decide
      rw [this]; unfold most at hm; omega
    obtain ⟨nc, hnc⟩ : ∃ nc, nc = (Question.appendCap (sLen + m) sCap e).cut (w.tape w.drawn (.appendCap (sLen + m) sCap e)) := ⟨_, rfl⟩
    refine ⟨nc, { w with drawn := w.drawn + 1, heap := w.heap.push (.cells (olds.toArray ++ news.toArray ++ Builtin.zeroCells z.cells (nc - (sLen + m))) e) }, ?_, rfl, ⟨rfl, rfl, rfl⟩, ?_⟩
    rotate_left 1
    · cases d <;> first | (cases hu; done) | skip
      all_goals
       simp only [Builtin.append_, List.getElem?_toArray, List.getElem?_cons_zero, List.getElem?_cons_succ, Sem.run_bind, run_underlying hR.ht, Result.andThen_ok, Go.sizeOf, typeInfo, run_program, hR.hi, Sem.run_pure,
        run_underlying hd, hlen, hR.size, Bool.false_eq_true, if_false, Bool.not_false, if_true]
       rw [if_neg (by omega)]
       simp only [Sem.run_bind, Sem.run_ite, Result.andThen_ok, Sem.run_pure, run_program, hR.hi, Result.andThen_ite]
       rw [if_neg hmax]
       rw [if_neg hle]
       simp only [Result.andThen_ok, run_choose, Question.forced, Bool.false_eq_true, if_false, Sem.run_bind, run_program, Sem.run_pure, run_askRoom, zeroValue, typeInfo, hR.hi, hR.hz, newRow, run_newObj]
       rw [← hnc]
       rw [hold { w with drawn := w.drawn + 1 } rfl]
       simp only [Result.andThen_ok]
       rw [hnew { w with drawn := w.drawn + 1 } rfl]
       simp only [Result.andThen_ok]
    · rw [hnc]; simp [Question.cut]

theorem run_append_none {t u e ty : TypeId} {i : TypeInfo} {z : Value} {sz : Nat} (hR : RowInfo P t e i z sz) (hu : notIntT P u = true) {a : Option Addr} {sLen sCap : Nat} {cy : Value}
    (hlen : (Builtin.lenOf cy).run P w = .ok 0 w) (hnew : (Builtin.firstCells sz 0 cy).run P w = .ok #[] w) (hcap : sLen ≤ sCap) :
    (Builtin.append_ #[t, u] ty #[.slice a sLen sCap, cy]).run P w = .ok (.slice a sLen sCap) w := by
  unfold notIntT at hu
  cases hd : P.underlying u with
  | none => simp [hd] at hu
  | some d =>
    rw [hd] at hu
    cases d <;> first | (cases hu; done) | simp only [Builtin.append_, List.getElem?_toArray, List.getElem?_cons_zero, List.getElem?_cons_succ, Sem.run_bind, run_underlying hR.ht, Result.andThen_ok, Go.sizeOf, typeInfo, run_program, hR.hi, Sem.run_pure,
      run_underlying hd, hlen, hR.size, Bool.false_eq_true, if_false, hcap, if_true, hnew, Bool.not_false, Nat.add_zero]
    all_goals cases a <;> rfl

theorem app_arg {y : AV} {cy : Value} {sz : Nat} {ys : List AV} (hr : Rep L.toLk g w y cy)
    (hy : ysOf sz y = some ys) : AppArg P L g w sz ys cy := by
  cases y with
  | sl own z ys' =>
    simp only [ysOf] at hy
    split at hy
    · rename_i hz
      subst hz
      cases hy
      simp only [Rep] at hr
      obtain ⟨a, cap, vs, rfl, hc, hu, hrl, hsz, hl, _⟩ := hr
      rw [hu]
      have hfl := flat_length fun u hu => (hsz u hu).1
      have hvl := hrl.length
      refine ⟨vs, hrl, hu, hsz, fun w2 => by simp [Builtin.lenOf], fun w2 hw2 => ?_⟩
      · refine run_firstCells (by rw [hfl, hvl]) ?_
        cases a with
        | none =>
          have : vs = [] := List.eq_nil_of_length_eq_zero (by rw [hvl, hl.1]; rfl)
          simp [this, flat]
        | some p => exact lies_at hl.2 hw2 (spot_flat hl.1 hvl) rfl rfl
    · cases hy
  | str b =>
    simp only [ysOf] at hy
    split at hy
    · rename_i hz
      subst hz
      cases hy
      simp only [Rep] at hr
      subst hr
      refine ⟨b.map fun x => Value.int .u8 x.toNat, strBytes_rep b, bytesOf_untok b, ?_, fun w2 => by simp [Builtin.lenOf, bytesOf, ByteArray.size], fun w2 _ => ?_⟩
      · intro u hu; rw [List.mem_map] at hu; obtain ⟨x, _, rfl⟩ := hu
        exact ⟨rfl, fun c hc => by simp [Value.cells] at hc; subst hc; trivial⟩
      · rw [flat_map_one _ (fun _ => rfl)]
        simp only [Builtin.firstCells, Sem.run_pure]
        congr 1
        apply Array.ext'
        have : (bytesOf b).length = b.length := by simp [bytesOf]
        rw [this]
        have hx : (⟨b.toArray⟩ : ByteArray).extract 0 b.length = ⟨b.toArray⟩ := by
          have := ByteArray.extract_zero_size (b := ⟨b.toArray⟩)
          simpa [ByteArray.size] using this
        rw [hx]
        simp
    · cases hy
  | _ => simp [ysOf] at hy

theorem chunk_rep {L : Lk} {g : Gh} {w : World} {sz : Nat} (hz : 0 < sz) : ∀ (n : Nat) {cs : List AV} {vs : List Value}, RepL L g w cs vs → (∀ u ∈ vs, oneCell u) → n * sz ≤ cs.length →
    ∃ us, RepL L g w (AV.chunk sz n cs) us ∧ (∀ u ∈ us, Sized sz u) ∧ flat us = vs.take (n * sz)
  | 0, cs, vs, _, _, _ => ⟨[], by simp [AV.chunk, RepL], by simp, by simp [flat]⟩
  | n + 1, cs, vs, h, ho, hn => by
    have hvl := h.length
    have hn' : n * sz + sz ≤ cs.length := by rw [Nat.succ_mul] at hn; exact hn
    obtain ⟨us, h1, h2, h3⟩ := chunk_rep hz n (h.drop sz) (fun u hu => ho u (List.mem_of_mem_drop hu)) (by rw [List.length_drop]; omega)
    have htake : vs.take ((n + 1) * sz) = vs.take sz ++ (vs.drop sz).take (n * sz) := by
      rw [Nat.succ_mul, Nat.add_comm, List.take_add]
    simp only [AV.chunk]
    by_cases h1z : sz = 1
    · subst h1z
      cases cs with
      | nil => simp at hn'
      | cons c cr =>
        simp only [RepL] at h
        obtain ⟨v, r, rfl, hc, hr⟩ := h
        have hv := one_cells (ho v (by simp))
        refine ⟨v :: us, ?_, ?_, ?_⟩
        · simp only [if_true, List.headD_cons, RepL]
          exact ⟨v, us, rfl, hc, h1⟩
        · intro u hu
          rcases List.mem_cons.1 hu with rfl | hu
          · exact ⟨by rw [hv]; rfl, fun x hx => by rw [hv] at hx; simp at hx; subst hx; exact ho _ (by simp)⟩
          · exact h2 u hu
        · rw [htake]
          simp only [flat, List.flatMap_cons, hv] at h3 ⊢
          rw [h3]; rfl
    · refine ⟨.agg (vs.take sz).toArray :: us, ?_, ?_, ?_⟩
      · simp only [h1z, if_false, RepL]
        refine ⟨_, us, rfl, ?_, h1⟩
        simp only [Rep]
        exact ⟨vs.take sz, rfl, h.take sz, fun u hu => ho u (List.mem_of_mem_take hu)⟩
      · intro u hu
        rcases List.mem_cons.1 hu with rfl | hu
        · refine ⟨?_, fun x hx => ?_⟩
          · simp only [Value.cells, List.size_toArray, List.length_take]; omega
          · simp only [Value.cells] at hx
            exact ho x (List.mem_of_mem_take hx)
        · exact h2 u hu
      · rw [htake]
        simp only [flat, List.flatMap_cons, Value.cells] at h3 ⊢
        rw [h3]

theorem chunk_length (sz : Nat) : ∀ (n : Nat) (cs : List AV), (AV.chunk sz n cs).length = n
  | 0, _ => rfl
  | n + 1, cs => by simp [AV.chunk, chunk_length sz n]

/- a slice that is written into: its elements, as they lie now -/
theorem elems_rep (hs : StR L.toLk C g s w) {i off sz n : Nat} {xs : List AV} {cv : Value} (hr : Rep L.toLk g w (.msl i off sz n) cv) (h : elemsA s (.msl i off sz n) = some xs) :
    0 < sz ∧ xs.length = n ∧ ∃ (b : Nat) (a : Addr) (cap : Nat) (vs us rest : List Value) (e : TypeId), g.bl[i]? = some b ∧ cv = .slice (some a) n cap ∧ n ≤ cap ∧ (0 < cap → a = ⟨b, off, none⟩) ∧ RepL L.toLk g w xs us ∧ (∀ u ∈ us, Sized sz u) ∧
      w.heap[b]? = some (.cells (vs ++ rest).toArray e (0, 0)) ∧ off + n * sz ≤ vs.length ∧ flat us = (vs.drop off).take (n * sz) := by
  simp only [Rep] at hr
  obtain ⟨b, a, cap, hb, rfl, hcap, ha⟩ := hr
  simp only [elemsA] at h
  split at h
  · rename_i cs hcs
    split at h
    · rename_i hc
      cases h
      unfold St.cell? at hcs
      split at hcs
      · rename_i cs' hbl
        cases hcs
        obtain ⟨vs, rest, e, h1, h2, h3⟩ := hs.blocks i b _ hb hbl
        have hvl := h2.length
        obtain ⟨us, k1, k2, k3⟩ := chunk_rep hc.2 n (h2.drop off) (fun u hu => h3 u (List.mem_of_mem_drop hu)) (by rw [List.length_drop]; omega)
        exact ⟨hc.2, chunk_length _ _ _, b, a, cap, vs, us, rest, e, hb, rfl, hcap, ha, k1, k2, h1, by omega, k3⟩
      · cases hcs
    · cases h
  · cases h

theorem app_argS (hs : StR L.toLk C g s w) {y : AV} {cy : Value} {sz : Nat} {ys : List AV} (hr : Rep L.toLk g w y cy) (hy : ysS s sz y = some ys) : AppArg P L g w sz ys cy := by
  unfold ysS at hy
  split at hy
  · rename_i i off z n
    split at hy
    · rename_i hz
      subst hz
      cases he : elemsA s (.msl i off z n) with
      | none => rw [he] at hy; cases hy
      | some xs =>
        rw [he] at hy
        simp only [Option.map_some, Option.some.injEq] at hy
        subst hy
        obtain ⟨hz, hn, b, a, cap, vs, us, rest, e, hb, rfl, hcap, ha, k1, k2, h1, hle, k3⟩ := elems_rep hs hr he
        have hul := k1.length
        have hfl := flat_length fun u hu => (k2 u hu).1
        refine ⟨us, k1.untok_same, AV.untokL_idem _, k2, fun w2 => by simp [Builtin.lenOf, AV.untokL_length, hn], fun w2 hw2 => ?_⟩
        rw [AV.untokL_length, hn]
        refine run_firstCells (by rw [hfl, hul, hn]) ?_
        intro j v hj
        have hjl := (List.getElem?_eq_some_iff.1 hj).1
        have hpos : 0 < cap := by
          rcases Nat.eq_zero_or_pos n with h0 | h0
          · rw [hfl, hul, hn, h0] at hjl; simp at hjl
          · omega
        rw [ha hpos, addr_add, cell?_congr (w := w) (by rw [hw2]), cell?_of h1]
        rw [k3, List.getElem?_take] at hj
        split at hj
        · rw [List.getElem?_drop] at hj
          simp only [List.getElem?_toArray]
          rw [List.getElem?_append_left (List.getElem?_eq_some_iff.1 hj).1]
          exact hj
        · cases hj
    · cases hy
  · exact app_arg hr hy

theorem cellsL_rep {L : Lk} {g : Gh} {w : World} : ∀ {xs : List AV} {vs : List Value} {cs : List AV}, RepL L g w xs vs → cellsL xs = some cs → RepL L g w cs (flat vs) ∧ ∀ u ∈ flat vs, oneCell u
  | [], vs, cs, h, hc => by
    simp only [RepL] at h; subst h
    simp only [cellsL, Option.some.injEq] at hc; subst hc
    simp [flat, RepL]
  | x :: xs, vs, cs, h, hc => by
    simp only [RepL] at h
    obtain ⟨v, r, rfl, h1, h2⟩ := h
    simp only [cellsL] at hc
    split at hc
    · rename_i a b ha hb
      cases hc
      obtain ⟨k1, k2, _⟩ := h1.cells ha
      obtain ⟨k3, k4⟩ := cellsL_rep h2 hb
      have hf : flat (v :: r) = v.cells.toList ++ flat r := by simp [flat]
      rw [hf]
      refine ⟨k1.append k3, fun u hu => ?_⟩
      rcases List.mem_append.1 hu with hu | hu
      · exact k2 u hu
      · exact k4 u hu
    · cases hc

theorem appmA_sound (hs : StR L.toLk C g s w) {t u e ty : TypeId} {i : TypeInfo} {z : Value} {sz : Nat} (hR : RowInfo P t e i z sz) (hu : notIntT P u = true) {x y : AV} {cx cy : Value} (hx : Rep L.toLk g w x cx) (hy : Rep L.toLk g w y cy)
    {v : AV} {s' : St} (h : appmA s sz x y = some (v, s')) :
    ∃ g' w' cv, (Builtin.append_ #[t, u] ty #[cx, cy]).run P w = .ok cv w' ∧ Rep L.toLk g' w' v cv ∧ StR L.toLk C g' s' w' ∧ Ext g s w g' s' w' := by
  unfold appmA at h
  cases x with
  | sl own z' xs =>
    split at h
    · rename_i own1 z1 xs1 ys he hys
      cases he
      have ha := app_argS (P := P) hs hy hys
      split at h
      · rename_i hc
        obtain ⟨rfl, hmost, hown⟩ := hc
        simp only [Rep] at hx
        obtain ⟨a, cap, vs, rfl, hcap, hun, hrl, hsz, hl, ho⟩ := hx
        obtain ⟨us, b1, b2, b3, b4, b5⟩ := ha
        have hvl := hrl.length
        have hul := b1.length
        have hfx := flat_length fun u hu => (hsz u hu).1
        have hfy := flat_length fun u hu => (b3 u hu).1
        cases ys with
        | nil =>
          simp only at h
          cases h
          have hus : us = [] := List.eq_nil_of_length_eq_zero hul
          subst hus
          exact ⟨g, w, _, run_append_none hR hu (b4 w) (b5 w rfl) hcap, by
            simp only [Rep]; exact ⟨a, cap, vs, rfl, hcap, hun, hrl, hsz, hl, ho⟩, hs, .refl _ _ _⟩
        | cons y0 yr =>
          obtain ⟨ys, hysd⟩ : ∃ ys, ys = y0 :: yr := ⟨_, rfl⟩
          have hpos : 0 < ys.length := by rw [hysd]; simp
          rw [← hysd] at hmost b1 b2 b4 b5 hul h
          have h : (match cellsL (xs ++ ys) with
            | some cs => some (AV.msl s.bl.length 0 z' (xs.length + ys.length), s.push (.cells cs))
            | none => none) = some (v, s') := by subst hysd; exact h
          split at h
          · rename_i cs hcs
            cases h
            have hold : ∀ w2, w2.heap = w.heap → (Builtin.firstCells z' xs.length (.slice a xs.length cap)).run P w2 = .ok (flat vs).toArray w2 := by
              intro w2 hw2
              refine run_firstCells (by rw [hfx, hvl]) ?_
              cases a with
              | none =>
                have : vs = [] := List.eq_nil_of_length_eq_zero (by rw [hvl, hl.1]; rfl)
                simp [this, flat]
              | some p => exact lies_at hl.2 hw2 (spot_flat hl.1 hvl) rfl rfl
            have hcl : cap < xs.length + ys.length := by
              rcases hown with rfl | rfl
              · obtain ⟨_, h1, h2⟩ := ho; omega
              · obtain ⟨_, h1⟩ := ho; omega
            obtain ⟨nc, w', h5, hw', hsame, hrun⟩ := run_append_out (ty := ty) hR hu (b4 w) b5 hcl hmost hold
            obtain ⟨k1, k2⟩ := cellsL_rep (hrl.append b1) hcs
            rw [flat_append] at k1 k2
            have hp := hs.push (ab := .cells cs) hw' hsame [] (by simp) (fun hge => ⟨flat vs ++ flat us, (Builtin.zeroCells z.cells (nc - (xs.length + ys.length))).toList, e, by
              rw [push_new hw']; congr 2; apply Array.ext'; simp, RepL.mono hge _ _ k1, k2⟩)
            refine ⟨_, w', _, hrun, ?_, hp.1, hp.2⟩
            simp only [Rep]
            exact ⟨w.heap.size, ⟨w.heap.size, 0, none⟩, nc, by simp [← hs.bl], rfl, h5, fun _ => rfl⟩
          · cases h
      · cases h
    · cases h
  | _ => simp at h

theorem appA_sound (hs : StR L.toLk C g s w) {t u e ty : TypeId} {i : TypeInfo} {z : Value} {sz : Nat} (hR : RowInfo P t e i z sz) (hu : notIntT P u = true) {x y : AV} {cx cy : Value} (hx : Rep L.toLk g w x cx) (hy : Rep L.toLk g w y cy)
    {v : AV} {s' : St} (h : appA s sz x y = some (v, s')) :
    ∃ g' w' cv, (Builtin.append_ #[t, u] ty #[cx, cy]).run P w = .ok cv w' ∧ Rep L.toLk g' w' v cv ∧ StR L.toLk C g' s' w' ∧ Ext g s w g' s' w' := by
  unfold appA at h
  cases x with
  | sl own z' xs =>
    split at h
    · rename_i own1 z1 xs1 ys he hys
      cases he
      have ha := app_argS (P := P) hs hy hys
      split at h
      · rename_i hc
        obtain ⟨rfl, hmost⟩ := hc
        simp only [Rep] at hx
        obtain ⟨a, cap, vs, rfl, hcap, hun, hrl, hsz, hl, ho⟩ := hx
        obtain ⟨us, b1, b2, b3, b4, b5⟩ := ha
        have hvl := hrl.length
        have hul := b1.length
        have hfx := flat_length fun u hu => (hsz u hu).1
        have hfy := flat_length fun u hu => (b3 u hu).1
        cases ys with
        | nil =>
          simp only at h
          cases h
          have hus : us = [] := List.eq_nil_of_length_eq_zero hul
          subst hus
          exact ⟨g, w, _, run_append_none hR hu (b4 w) (b5 w rfl) hcap, by
            simp only [Rep]; exact ⟨a, cap, vs, rfl, hcap, hun, hrl, hsz, hl, ho⟩, hs, .refl _ _ _⟩
        | cons y0 yr =>
          obtain ⟨ys, hysd⟩ : ∃ ys, ys = y0 :: yr := ⟨_, rfl⟩
          have hpos : 0 < ys.length := by rw [hysd]; simp
          rw [← hysd] at hmost b1 b2 b4 b5 hul
          simp only [← hysd] at h
          have hold : ∀ w2, w2.heap = w.heap → (Builtin.firstCells z' xs.length (.slice a xs.length cap)).run P w2 = .ok (flat vs).toArray w2 := by
            intro w2 hw2
            refine run_firstCells (by rw [hfx, hvl]) ?_
            cases a with
            | none =>
              have : vs = [] := List.eq_nil_of_length_eq_zero (by rw [hvl, hl.1]; rfl)
              simp [this, flat]
            | some p => exact lies_at hl.2 hw2 (spot_flat hl.1 hvl) rfl rfl
          have hun' : AV.untokL (xs ++ ys) = xs ++ ys := by rw [AV.untokL_append, hun, b2]
          have hall : ∀ q ∈ vs ++ us, Sized z' q := by
            intro q hq; rcases List.mem_append.1 hq with hq | hq
            · exact hsz q hq
            · exact b3 q hq
          have hflen : (flat (vs ++ us)).length = (xs.length + ys.length) * z' := by rw [flat_append, List.length_append, hfx, hfy, hvl, hul, Nat.add_mul]
          -- a new row
          have out : ∀ (hlt : cap < xs.length + ys.length) (tk' : List TokI) (t' : Nat) (nc : Nat),
              (∀ (q : Nat) (T : TokI), g.tk[q]? = some T → ∃ T', tk'[q]? = some T' ∧ T.top ≤ T'.top ∧ (T'.top = T.top → T' = T)) →
              (∀ (q : Nat) (T : TokI), tk'[q]? = some T → g.tk[q]? = some T ∨ (q = t' ∧ T = ⟨⟨w.heap.size, 0, none⟩, nc, z', xs.length + ys.length⟩)) →
              tk'[t']? = some ⟨⟨w.heap.size, 0, none⟩, nc, z', xs.length + ys.length⟩ →
              (∀ q, q < s.rt → tk'[q]? = g.tk[q]?) → xs.length + ys.length ≤ nc → ∀ w' : World,
              w'.heap = w.heap.push (.cells ((flat vs).toArray ++ (flat us).toArray ++ Builtin.zeroCells z.cells (nc - (xs.length + ys.length))) e) → Same w w' →
              ∃ g', Rep L.toLk g' w' (.sl (.tok t') z' (xs ++ ys)) (.slice (some ⟨w.heap.size, 0, none⟩) (xs.length + ys.length) nc) ∧ StR L.toLk C g' { s with tk := tk'.map (·.top) } w' ∧ Ext g s w g' { s with tk := tk'.map (·.top) } w' := by
            intro hlt tk' t' nc h1 h2 h3 h4 h5 w' hw' hsame
            have hcs : ((flat vs).toArray ++ (flat us).toArray ++ Builtin.zeroCells z.cells (nc - (xs.length + ys.length))).size = nc * z' := by
              simp only [Array.size_append, List.size_toArray, size_zeroCells, hR.zs, hfx, hfy, hvl, hul]
              rw [← Nat.add_mul, ← Nat.add_mul]
              congr 1; omega
            have hlive : ∀ (q : Nat) (T : TokI), g.tk[q]? = some T → T.a.block < w.heap.size := by
              intro q T hT
              obtain ⟨c', e', fz', h6, _⟩ := (hs.toks q T hT).space
              exact lt_of_heap h6
            have hnew := hs.newRow hw' hsame ((xs.length + ys.length) * z') tk' h1
              (fun q T hT => by
                rcases h2 q T hT with h | ⟨_, rfl⟩
                · exact .inl h
                · exact .inr ⟨rfl, by rw [hcs]; exact Nat.le_refl _, h5, Nat.le_refl _, fun o _ hh => by simp at hh⟩)
              (fun q q' T T' hT hT' e1 e2 => by
                rcases h2 q T hT with h | ⟨rfl, _⟩
                · have := hlive q T h; omega
                · rcases h2 q' T' hT' with h | ⟨rfl, _⟩
                  · have := hlive q' T' h; omega
                  · rfl) h4
            refine ⟨_, ?_, hnew.1, hnew.2⟩
            simp only [Rep]
            refine ⟨some ⟨w.heap.size, 0, none⟩, nc, vs ++ us, by simp, by simpa using h5, hun', (RepL.mono hnew.2.ge _ _ hrl).append (RepL.mono hnew.2.ge _ _ b1), hall, ⟨fun _ => rfl, ?_⟩, ⟨rfl, _, h3, by simp, fun _ => ⟨rfl, rfl, rfl⟩⟩⟩
            refine lies_new (g := g) hw' ?_ (by rw [hflen]; exact Nat.le_refl _)
            rw [flat_append]
            simp only [Array.toList_append, List.append_assoc]
            rw [← List.append_assoc]
            exact List.take_left
          cases own with
          | any => simp only at h; subst hysd; cases h
          | nil =>
            subst hysd
            simp only at h
            cases h
            obtain ⟨rfl, hl0, hc0⟩ := ho
            obtain ⟨nc, w', h5, hw', hsame, hrun⟩ := run_append_out (ty := ty) hR hu (b4 w) b5 (by omega) hmost hold
            obtain ⟨g', c1, c2, c3⟩ := out (by omega) (g.tk ++ [⟨⟨w.heap.size, 0, none⟩, nc, z', xs.length + (y0 :: yr).length⟩]) g.tk.length nc
              (fun q T hT => ⟨T, by rw [List.getElem?_append_left (List.getElem?_eq_some_iff.1 hT).1]; exact hT, Nat.le_refl _, fun _ => rfl⟩)
              (fun q T hT => by
                by_cases hq : q < g.tk.length
                · rw [List.getElem?_append_left hq] at hT; exact .inl hT
                · have hq' := (List.getElem?_eq_some_iff.1 hT).1
                  simp at hq'
                  have : q = g.tk.length := by omega
                  subst this
                  simp at hT
                  exact .inr ⟨rfl, hT.symm⟩)
              (by simp) (fun q hq => by
                have h0 := hs.rt; have h1 := congrArg List.length hs.tk; simp at h1
                rw [List.getElem?_append_left (by omega)]) h5 w' hw' hsame
            have htk : s.tk.length = g.tk.length := by rw [← hs.tk]; simp
            refine ⟨g', w', _, hrun, by rw [htk]; exact c1, ?_, ?_⟩
            · simpa [hs.tk] using c2
            · simpa [hs.tk] using c3
          | full =>
            subst hysd
            simp only at h
            cases h
            obtain ⟨hsome, hc0⟩ := ho
            obtain ⟨nc, w', h5, hw', hsame, hrun⟩ := run_append_out (ty := ty) hR hu (b4 w) b5 (by simp at hpos ⊢; omega) hmost hold
            obtain ⟨g', c1, c2, c3⟩ := out (by simp at hpos ⊢; omega) (g.tk ++ [⟨⟨w.heap.size, 0, none⟩, nc, z', xs.length + (y0 :: yr).length⟩]) g.tk.length nc
              (fun q T hT => ⟨T, by rw [List.getElem?_append_left (List.getElem?_eq_some_iff.1 hT).1]; exact hT, Nat.le_refl _, fun _ => rfl⟩)
              (fun q T hT => by
                by_cases hq : q < g.tk.length
                · rw [List.getElem?_append_left hq] at hT; exact .inl hT
                · have hq' := (List.getElem?_eq_some_iff.1 hT).1
                  simp at hq'
                  have : q = g.tk.length := by omega
                  subst this
                  simp at hT
                  exact .inr ⟨rfl, hT.symm⟩)
              (by simp) (fun q hq => by
                have h0 := hs.rt; have h1 := congrArg List.length hs.tk; simp at h1
                rw [List.getElem?_append_left (by omega)]) h5 w' hw' hsame
            have htk : s.tk.length = g.tk.length := by rw [← hs.tk]; simp
            refine ⟨g', w', _, hrun, by rw [htk]; exact c1, ?_, ?_⟩
            · simpa [hs.tk] using c2
            · simpa [hs.tk] using c3
          | tok t0 =>
            subst hysd
            simp only at h
            split at h
            · rename_i hcond
              obtain ⟨hrt, htop⟩ := hcond
              cases h
              obtain ⟨hsome, T, hT, hle, heq⟩ := ho
              have hTtop : T.top = xs.length := by
                have h1 : (g.tk.map (·.top))[t0]? = some xs.length := by rw [hs.tk]; exact htop
                rw [List.getElem?_map, hT] at h1
                simpa using h1
              have hself : { a := T.a, cap := T.cap, sz := T.sz, top := T.top } = T := rfl
              obtain ⟨rfl, rfl, rfl⟩ := heq hTtop
              have hT0 := hs.toks t0 T hT
              have hlt0 : t0 < g.tk.length := (List.getElem?_eq_some_iff.1 hT).1
              by_cases hroom : xs.length + (y0 :: yr).length ≤ T.cap
              · obtain ⟨c, e0, fz, hc, hsp, hfz⟩ := hT0.space
                have hTa : T.a = ⟨T.a.block, T.a.off, none⟩ := by
                  have hsp0 := hT0.spot
                  generalize T.a = ad at hsp0
                  cases ad
                  simp only at hsp0
                  subst hsp0; rfl
                have hfit : T.a.off + xs.length * T.sz + (flat us).length ≤ c.size := by
                  rw [hfy, hul, Nat.add_assoc, ← Nat.add_mul]
                  have : (xs.length + (y0 :: yr).length) * T.sz ≤ T.cap * T.sz := Nat.mul_le_mul_right _ hroom
                  omega
                have hrun := run_append_in (ty := ty) (w := w) (b := T.a.block) (o := T.a.off) hR hu (b4 w) (b5 w rfl) hroom
                  (fun j hj => by
                    rw [cell?_of hc]
                    have : T.a.off + xs.length * T.sz + j < c.size := by omega
                    simp [this])
                  (fun j hj => by
                    have := hfz (T.a.off + xs.length * T.sz + j) (by omega)
                    obtain ⟨lo, hi⟩ := fz
                    simp only [World.frozen?, hc]
                    simp only [Bool.and_eq_false_iff, decide_eq_false_iff_not]
                    by_cases h1 : lo ≤ T.a.off + xs.length * T.sz + j
                    · exact .inr fun h2 => this ⟨h1, h2⟩
                    · exact .inl h1)
                  (fun v hv => by
                    exact oneCell'_of (flat_one (fun u hu => (b3 u hu).2) v hv))
                obtain ⟨a1, a2, a3, a4⟩ := setCells_heap T.a.block (flat us) (T.a.off + xs.length * T.sz) w c e0 fz hc hfit
                have hg := hs.growRow hT hrt (y0 :: yr).length hpos (by omega) hc a1 (by simp; omega) (fun o ho => by
                    rw [hTtop] at ho
                    simp only [List.getElem?_toArray, List.append_assoc]
                    rw [List.getElem?_append_left (by simp; omega), List.getElem?_take, if_pos ho]
                    simp) a2 a3 a4
                rw [hTtop] at hg
                rw [← hTa] at hrun
                refine ⟨{ g with tk := g.tk.set t0 { T with top := xs.length + (y0 :: yr).length }, imm := fun b o => g.imm b o ∨ (b = T.a.block ∧ o < T.a.off + (xs.length + (y0 :: yr).length) * T.sz) }, _, _, hrun, ?_, hg.1, hg.2⟩
                simp only [Rep]
                have hge := hg.2.ge
                refine ⟨some T.a, T.cap, vs ++ us, by simp, by simpa using hroom, hun', ?_, hall, ⟨fun _ => hT0.spot, ?_⟩, ⟨rfl, _, List.getElem?_set_self hlt0, by simp, fun _ => ⟨rfl, rfl, rfl⟩⟩⟩
                · exact (RepL.mono hge _ _ hrl).append (RepL.mono hge _ _ b1)
                · rw [flat_append]
                  intro j v hj
                  have hfvl : (flat vs).length = xs.length * T.sz := by rw [hfx, hvl]
                  by_cases hjv : j < (flat vs).length
                  · rw [List.getElem?_append_left hjv] at hj
                    obtain ⟨h1, h2⟩ := hl.2 j v hj
                    obtain ⟨h3, h4⟩ := hge.imm _ _ h1
                    exact ⟨h3, h4.trans h2⟩
                  · rw [List.getElem?_append_right (by omega)] at hj
                    have hju : j - (flat vs).length < (flat us).length := (List.getElem?_eq_some_iff.1 hj).1
                    refine ⟨.inr ⟨rfl, ?_⟩, ?_⟩
                    · rw [Nat.add_mul, ← hul, ← hfy]; omega
                    · rw [cell?_of a1]
                      simp only [List.getElem?_toArray, List.append_assoc]
                      have hlen1 : (c.toList.take (T.a.off + xs.length * T.sz)).length = T.a.off + xs.length * T.sz := by have hcl := Array.length_toList (xs := c); rw [List.length_take]; omega
                      rw [List.getElem?_append_right (by rw [hlen1]; omega), List.getElem?_append_left (by rw [hlen1]; omega), hlen1]
                      rw [← hj]; congr 1; omega
              · obtain ⟨nc, w', h5, hw', hsame, hrun⟩ := run_append_out (ty := ty) hR hu (b4 w) b5 (by omega) hmost hold
                obtain ⟨g', c1, c2, c3⟩ := out (by omega) (g.tk.set t0 ⟨⟨w.heap.size, 0, none⟩, nc, T.sz, xs.length + (y0 :: yr).length⟩) t0 nc
                  (fun q U hU => by
                    by_cases hq : q = t0
                    · subst hq; rw [hT] at hU; cases hU
                      exact ⟨_, List.getElem?_set_self hlt0, by simp [hTtop], fun h6 => by simp [hTtop] at h6⟩
                    · exact ⟨U, by rw [List.getElem?_set_ne (Ne.symm hq)]; exact hU, Nat.le_refl _, fun _ => rfl⟩)
                  (fun q U hU => by
                    by_cases hq : q = t0
                    · subst hq; rw [List.getElem?_set_self hlt0] at hU; exact .inr ⟨rfl, by cases hU; rfl⟩
                    · rw [List.getElem?_set_ne (Ne.symm hq)] at hU; exact .inl hU)
                  (List.getElem?_set_self hlt0) (fun q hq => by rw [List.getElem?_set_ne (by omega)]) h5 w' hw' hsame
                refine ⟨g', w', _, hrun, c1, ?_, ?_⟩
                · simpa [List.map_set, hs.tk] using c2
                · simpa [List.map_set, hs.tk] using c3
            · cases h
      · cases h
    · cases h
  | _ => simp at h
end
end Ab

/- Arithmetic, comparisons, conversions. No condition. -/
namespace Ab
open Go
section
variable {P : Program} {L : Link} {C : CodeR} {g : Gh} {s : St} {w : World} {ρ : Operand → Value} {ev : Opd → AV}

theorem toList_data (s : ByteArray) : s.toList = s.data.toList := by
  have key : ∀ (n i : Nat) (r : List UInt8), s.size - i = n → ByteArray.toList.loop s i r = r.reverse ++ s.data.toList.drop i := by
    intro n
    induction n with
    | zero =>
      intro i r h
      rw [ByteArray.toList.loop, if_neg (by omega)]
      have : s.data.toList.length ≤ i := by
        have : s.size = s.data.size := rfl
        simp; omega
      rw [List.drop_eq_nil_of_le this]; simp
    | succ n ih =>
      intro i r h
      rw [ByteArray.toList.loop, if_pos (by omega), ih (i + 1) _ (by omega)]
      have hlt : i < s.data.toList.length := by
        have : s.size = s.data.size := rfl
        simp; omega
      rw [List.drop_eq_getElem_cons hlt]
      simp only [List.reverse_cons, List.append_assoc, List.singleton_append]
      congr 2
      simp only [ByteArray.get!]
      simp at hlt
      simp [hlt]
  have := key s.size 0 [] (by omega)
  simpa [ByteArray.toList] using this

theorem toList_mk (l : List UInt8) : (ByteArray.mk l.toArray).toList = l := by rw [toList_data]

theorem run_eqGuard_other {op : BinOp} {t : TypeId} {x y : Operand} {a b : Value} (h1 : ¬ (a = .nilIface ∧ b = .nilIface)) (h2 : ∀ c d, ¬ (a = .agg c ∧ b = .agg d)) : (eqGuard op t x y a b).run P w = .ok () w := by
  unfold eqGuard
  cases op <;> simp only [Bool.not_true, Bool.not_false, if_true, Bool.false_eq_true, if_false, Sem.run_pure]
  all_goals
    cases a <;> cases b <;> first | rfl | exact absurd ⟨rfl, rfl⟩ h1 | exact absurd ⟨rfl, rfl⟩ (h2 _ _)

theorem binInt_sound {op : BinOp} {t : TypeId} {k l : IntKind} {a b : Int} {c : Cls} {v : AV} (h : binA op c (.int k a) (.int l b) = some v) (g : Gh) : ∃ cv, (Go.binOp op t (.int k a) (.int l b)).run P w = .ok cv w ∧ Rep L.toLk g w v cv := by
  simp only [binA] at h
  cases op <;> simp only at h
  case shl =>
    split at h
    · cases h; exact ⟨_, by simp [Go.binOp, Op.shift, show ¬ b < 0 by omega]; rfl, by simp [Rep]⟩
    · cases h
  case shr =>
    split at h
    · cases h; exact ⟨_, by simp [Go.binOp, Op.shift, show ¬ b < 0 by omega]; rfl, by simp [Rep]⟩
    · cases h
  all_goals (split at h; · cases h)
  all_goals (rename_i hk; simp only [ne_eq, Decidable.not_not] at hk; subst hk)
  case quo =>
    split at h
    · cases h
    · rename_i hb; cases h; exact ⟨_, by simp [Go.binOp, Op.intDiv, hb]; rfl, by simp [Rep]⟩
  case rem =>
    split at h
    · cases h
    · rename_i hb; cases h; exact ⟨_, by simp [Go.binOp, Op.intDiv, hb]; rfl, by simp [Rep]⟩
  all_goals (cases h; exact ⟨_, by simp [Go.binOp, Op.intArith, Op.intBits, Op.intCmp]; rfl, by simp [Rep]⟩)

theorem binStr_sound {op : BinOp} {t : TypeId} {a b : List UInt8} {c : Cls} {v : AV} (h : binA op c (.str a) (.str b) = some v) (g : Gh) : ∃ cv, (Go.binOp op t (.string ⟨a.toArray⟩) (.string ⟨b.toArray⟩)).run P w = .ok cv w ∧ Rep L.toLk g w v cv := by
  simp only [binA] at h
  cases op <;> simp only at h
  case add =>
    split at h
    · rename_i hle
      cases h
      refine ⟨_, ?_, by simp only [Rep]; exact rfl⟩
      have := run_string_add_sum (P := P) w ⟨a.toArray⟩ ⟨b.toArray⟩ (by simp [ByteArray.size]; unfold most at hle; omega)
      rw [ByteArray.mk_append_mk] at this
      simpa [Go.binOp] using this
    · cases h
  all_goals (first | (cases h; done) | (cases h; exact ⟨_, by simp [Go.binOp, Op.stringOp, toList_mk]; rfl, by simp [Rep]⟩))

theorem unA_sound {op : UnOp} {x v : AV} {cx : Value} (hx : Rep L.toLk g w x cx) (h : unA op x = some v) : ∃ cv, (Op.unary op cx).run P w = .ok cv w ∧ Rep L.toLk g w v cv := by
  unfold unA at h
  split at h
  · cases h; simp only [Rep] at hx; subst hx; exact ⟨_, by simp [Op.unary, Op.intArith]; rfl, by simp [Rep]⟩
  · cases h; simp only [Rep] at hx; subst hx; exact ⟨_, by simp [Op.unary]; rfl, by simp [Rep]⟩
  · cases h
end
end Ab

/- '==' beyond numbers and strings; conversions; nil checks. No condition. -/
namespace Ab
open Go
section
variable {P : Program} {L : Link} {C : CodeR} {g : Gh} {s : St} {w : World} {ρ : Operand → Value} {ev : Opd → AV}

/- nothing of a block that the call made is shared with a string -/
theorem calm_block (hs : StR L.toLk C g s w) {i b : Nat} (hb : g.bl[i]? = some b) (o : Nat) :
    (frozen ⟨b, o, none⟩).run P w = .ok false w ∧ (noView ⟨b, o, none⟩).run P w = .ok () w ∧ (stringish ⟨b, o, none⟩).run P w = .ok false w := by
  obtain ⟨x, _, hx⟩ := hs.ab? hb
  cases x with
  | cells cs =>
    obtain ⟨vs, rest, e, h1, _⟩ := hx
    have hf : ∀ o, w.frozen? ⟨b, o, none⟩ = false := fun o => by simp [World.frozen?, h1]
    have hsh : w.shape? b = some (e, (vs ++ rest).toArray.size) := by simp [World.shape?, h1]
    refine ⟨by simp [hf], by simp [noView, viewAt, hsh], ?_⟩
    simp only [stringish, Sem.run_bind, run_frozen, hf, Result.andThen_ok, Sem.run_ite, Bool.false_eq_true, if_false, Sem.run_pure, run_shape, hsh]
  | amap es =>
    obtain ⟨cs, cl, h1, _⟩ := hx
    have hf : ∀ o, w.frozen? ⟨b, o, none⟩ = false := fun o => by simp [World.frozen?, h1]
    have hsh : w.shape? b = none := by simp [World.shape?, h1]
    exact ⟨by simp [hf], by simp [noView, viewAt, hsh, getObj, Sem.run, h1], by simp [stringish, hf, hsh]⟩
  | siter st p =>
    have h1 : w.heap[b]? = _ := hx
    have hf : ∀ o, w.frozen? ⟨b, o, none⟩ = false := fun o => by simp [World.frozen?, h1]
    have hsh : w.shape? b = none := by simp [World.shape?, h1]
    exact ⟨by simp [hf], by simp [noView, viewAt, hsh, getObj, Sem.run, h1], by simp [stringish, hf, hsh]⟩
  | loop l =>
    obtain ⟨_, lp, _, _, h1, _⟩ := hx
    have hf : ∀ o, w.frozen? ⟨b, o, none⟩ = false := fun o => by simp [World.frozen?, h1]
    have hsh : w.shape? b = none := by simp [World.shape?, h1]
    exact ⟨by simp [hf], by simp [noView, viewAt, hsh, getObj, Sem.run, h1], by simp [stringish, hf, hsh]⟩

theorem run_sameAddr_ne (hs : StR L.toLk C g s w) {i j b c : Nat} (hb : g.bl[i]? = some b) (hc : g.bl[j]? = some c) (hne : b ≠ c) (o p : Nat) : (sameAddr ⟨b, o, none⟩ ⟨c, p, none⟩).run P w = .ok false w := by
  obtain ⟨f1, f2, f3⟩ := calm_block (P := P) hs hb o
  obtain ⟨g1, g2, g3⟩ := calm_block (P := P) hs hc p
  have hbc : (b == c) = false := by simpa using hne
  simp only [sameAddr, hbc, Bool.false_eq_true, if_false, Sem.run_bind, f1, g1, Result.andThen_ok, Bool.false_and, f2, g2, mayBeOne, f3, g3, run_shape, Sem.run_pure, Sem.run_ite, Bool.or_self]

theorem aeq_sound (hs : StR L.toLk C g s w) {t : TypeId} {x y : Operand} {c : Cls} (hcl : clsOk P t x y c = true) {u v : AV} {cu cv : Value} (hu : Rep L.toLk g w u cu) (hv : Rep L.toLk g w v cv) {r : Bool} (h : aeq c u v = some r) :
    (Op.equal t cu cv).run P w = .ok r w := by
  have e0 : ∀ a b, Op.equal t a b = Op.equalIn (9999 + 1) t a b := fun _ _ => rfl
  rw [e0]
  generalize 9999 = d
  clear e0
  unfold aeq at h
  unfold clsOk at hcl
  split at h <;> simp only at hcl <;> (first | cases h | skip)
  · -- bool
    split at hcl
    · rename_i ht; simp only [Rep] at hu hv; subst hu; subst hv; simp [Op.equalIn, run_underlying ht]
    · cases hcl
  · split at hcl
    · rename_i ht; simp only [Rep] at hu hv; subst hu; subst hv; simp [Op.equalIn, run_underlying ht]
    · cases hcl
  · split at hcl
    · rename_i ht; simp only [Rep] at hu hv; subst hu; obtain ⟨b, _, rfl⟩ := hv; simp [Op.equalIn, run_underlying ht]
    · cases hcl
  · split at hcl
    · rename_i ht; simp only [Rep] at hu hv; subst hv; obtain ⟨b, _, rfl⟩ := hu; simp [Op.equalIn, run_underlying ht]
    · cases hcl
  · -- two pointers
    rename_i i o j p
    split at hcl
    · rename_i e ht
      split at hcl
      · rename_i n hn
        simp only [ne_eq, decide_eq_true_eq] at hcl
        simp only [Rep] at hu hv
        obtain ⟨b, hb, rfl⟩ := hu
        obtain ⟨c, hc, rfl⟩ := hv
        simp only [Op.equalIn, Sem.run_bind, run_underlying ht, Result.andThen_ok, run_sizeOf hn]
        rw [if_pos hcl]
        by_cases hij : i = j
        · subst hij
          rw [hb] at hc; cases hc
          simp [sameAddr]
          rw [Bool.eq_iff_iff]; simp
        · have hne : b ≠ c := fun e => hij (hs.inj i j b hb (by rw [e]; exact hc))
          rw [run_sameAddr_ne hs hb hc hne]
          simp [hij]
      · cases hcl
    · cases hcl
  · -- slices
    split at hcl
    · rename_i ht
      simp only [Rep] at hu hv
      obtain ⟨a, cap, vs, rfl, _, _, _, _, _, ho⟩ := hu
      obtain ⟨a', cap', vs', rfl, _, _, _, _, _, ho'⟩ := hv
      obtain ⟨rfl, _, _⟩ := ho
      obtain ⟨rfl, _, _⟩ := ho'
      simp [Op.equalIn, run_underlying ht]
    · cases hcl
  · split at hcl
    · rename_i ht
      simp only [Rep] at hu hv
      obtain ⟨a, cap, vs, rfl, _, _, _, _, hl, hsome⟩ := hu
      simp only [OwnOk] at hsome
      obtain ⟨a', cap', vs', rfl, _, _, _, _, _, ho'⟩ := hv
      obtain ⟨rfl, _, _⟩ := ho'
      cases a with
      | none => cases hsome
      | some p => simp [Op.equalIn, run_underlying ht]
    · cases hcl
  · split at hcl
    · rename_i ht
      simp only [Rep] at hu hv
      obtain ⟨a, cap, vs, rfl, _, _, _, _, hl, ho⟩ := hu
      obtain ⟨a', cap', vs', rfl, _, _, _, _, _, ho'⟩ := hv
      obtain ⟨rfl, _, _⟩ := ho'
      obtain ⟨hsome, _⟩ := ho
      cases a with
      | none => cases hsome
      | some p => simp [Op.equalIn, run_underlying ht]
    · cases hcl
  · split at hcl
    · rename_i ht
      simp only [Rep] at hu hv
      obtain ⟨a, cap, vs, rfl, _, _, _, _, hl, ho⟩ := hu
      obtain ⟨a', cap', vs', rfl, _, _, _, _, _, ho'⟩ := hv
      obtain ⟨rfl, _, _⟩ := ho'
      obtain ⟨hsome, _⟩ := ho
      cases a with
      | none => cases hsome
      | some p => simp [Op.equalIn, run_underlying ht]
    · cases hcl
  · split at hcl
    · rename_i ht
      simp only [Rep] at hu hv
      obtain ⟨b, a0, cap, _, rfl, _⟩ := hu
      obtain ⟨a', cap', vs', rfl, _, _, _, _, _, ho'⟩ := hv
      obtain ⟨rfl, _, _⟩ := ho'
      simp [Op.equalIn, run_underlying ht]
    · cases hcl
  · -- maps
    split at hcl
    · rename_i ht; simp only [Rep] at hu hv; subst hu; subst hv; simp [Op.equalIn, run_underlying ht]
    · cases hcl
  · split at hcl
    · rename_i ht; simp only [Rep] at hu hv; subst hv; obtain ⟨b, _, rfl⟩ := hu; simp [Op.equalIn, run_underlying ht]
    · cases hcl
  · -- functions
    split at hcl
    · rename_i ht; simp only [Rep] at hu hv; subst hu; subst hv; simp [Op.equalIn, run_underlying ht]
    · cases hcl
  · split at hcl
    · rename_i ht; simp only [Rep] at hu hv; subst hv; obtain ⟨a, b, rfl, _⟩ := hu; simp [Op.equalIn, run_underlying ht]
    · cases hcl
  · split at hcl
    · rename_i ht; simp only [Rep] at hu hv; subst hv; obtain ⟨b, _, rfl⟩ := hu; simp [Op.equalIn, run_underlying ht]
    · cases hcl
  · -- interfaces
    split at hcl
    · rename_i ht; simp only [Rep] at hu hv; subst hu; subst hv; simp [Op.equalIn, run_underlying ht]
    · cases hcl
  · split at hcl
    · rename_i ht; simp only [Rep] at hu hv; subst hv; obtain ⟨b, rfl, _⟩ := hu; simp [Op.equalIn, run_underlying ht]
    · cases hcl
  · split at hcl
    · rename_i ht; simp only [Rep] at hu hv; subst hu; obtain ⟨b, rfl, _⟩ := hv; simp [Op.equalIn, run_underlying ht]
    · cases hcl
end
end Ab

/- The other operations: conversions, addresses, indexes, slices, tuples, maps. No condition. -/
namespace Ab
open Go
section
variable {P : Program} {L : Link} {C : CodeR} {g : Gh} {s : St} {w : World} {ρ : Operand → Value} {ev : Opd → AV}

theorem nilchk_sound (hs : StR L.toLk C g s w) (he : Evs L g w ρ ev) {o : Oper} {x : Operand} {x' : Opd} (ho : o.op = .nilCheck x) (hx : odOk L x x' = true)
    {r : AV × St} (h : opA ev s (.nilchk x') = some r) : OpRes P L C g s w r ((execOp ρ o).run P w) := by
  have hr := he.rep _ _ hx
  simp only [opA] at h
  generalize ev x' = v at h hr
  have key : (∀ u, ρ x = u → (execOp ρ o).run P w = .ok (.value u) w) → OpRes P L C g s w (v, s) ((execOp ρ o).run P w) := fun hk => OpRes.val hs (hk _ rfl) hr
  cases v with
  | nilp => cases h
  | nilif => cases h
  | nilf => cases h
  | junk => cases h
  | map m => cases m <;> (cases h; refine key fun u hu => ?_; simp only [Rep] at hr; first | (subst hr; simp [execOp, ho, hr, ← hu]) | (obtain ⟨_, _, hr⟩ := hr; simp [execOp, ho, hr, ← hu]) | simp [execOp, ho, hr, ← hu])
  | raw t z n => cases h
  | _ =>
    cases h; refine key fun u hu => ?_; simp only [Rep] at hr
    first
      | (obtain ⟨_, _, _, _, hr, _⟩ := hr; simp [execOp, ho, hr, ← hu]; done)
      | (obtain ⟨_, _, _, hr, _⟩ := hr; simp [execOp, ho, hr, ← hu]; done)
      | (obtain ⟨_, _, hr, _⟩ := hr; simp [execOp, ho, hr, ← hu]; done)
      | (obtain ⟨_, _, _, hr, _⟩ := hr; simp [execOp, ho, hr, ← hu]; done)
      | (obtain ⟨_, hr, _⟩ := hr; simp [execOp, ho, hr, ← hu]; done)
      | (obtain ⟨_, _, hr⟩ := hr; simp [execOp, ho, hr, ← hu]; done)
      | (simp [execOp, ho, hr, ← hu]; done)

theorem aeq_shape {c : Cls} {u q : AV} {b : Bool} {cu : Value} (h : aeq c u q = some b) (hu : Rep L.toLk g w u cu) :
    (∀ k n, cu ≠ .int k n) ∧ (∀ a, cu ≠ .string a) ∧ (∀ a b, cu ≠ .float a b) ∧ (∀ a b d, cu ≠ .complex a b d) ∧ (∀ cs, cu ≠ .agg cs) ∧ (cu = .nilIface → c = .iface) := by
  unfold aeq at h
  split at h <;> first | (cases h; done) | skip
  all_goals simp only [Rep] at hu
  all_goals first
    | (subst hu; simp; done)
    | (obtain ⟨_, _, _, _, rfl, _⟩ := hu; simp; done)
    | (obtain ⟨_, _, _, rfl, _⟩ := hu; simp; done)
    | (obtain ⟨_, _, rfl, _⟩ := hu; simp; done)
    | (obtain ⟨_, rfl, _⟩ := hu; simp; done)
    | (obtain ⟨_, _, rfl⟩ := hu; simp; done)

theorem bin_sound (hs : StR L.toLk C g s w) (he : Evs L g w ρ ev) {o : Oper} {op : BinOp} {t yt : TypeId} {x y : Operand} {c : Cls} {x' y' : Opd} (ho : o.op = .binOp op t x y yt) (hx : odOk L x x' = true) (hy : odOk L y y' = true)
    (hcl : clsOk P t x y c = true) {r : AV × St} (h : opA ev s (.bin op c x' y') = some r) : OpRes P L C g s w r ((execOp ρ o).run P w) := by
  have hrx := he.rep _ _ hx
  have hry := he.rep _ _ hy
  simp only [opA, valStep] at h
  split at h
  · rename_i v hv
    cases h
    generalize ev x' = u at hv hrx
    generalize ev y' = q at hv hry
    have other : ∀ b, aeq c u q = some b → ((op = .eql ∧ v = .bool b) ∨ (op = .neq ∧ v = .bool (!b))) → OpRes P L C g s w (v, s) ((execOp ρ o).run P w) := by
      intro b hb hop
      obtain ⟨e1, e2, e3, e4, e5, e6⟩ := aeq_shape hb hrx
      have hgd : (eqGuard op t x y (ρ x) (ρ y)).run P w = .ok () w := by
        by_cases hn : ρ x = .nilIface ∧ ρ y = .nilIface
        · have hc := e6 hn.1
          subst hc
          simp only [clsOk] at hcl
          split at hcl
          · unfold eqGuard
            rw [hn.1, hn.2]
            rcases hop with ⟨rfl, _⟩ | ⟨rfl, _⟩ <;> cases x <;> cases y <;> first | (cases hcl; done) | simp
          · cases hcl
        · exact run_eqGuard_other hn fun cs ds hh => e5 cs hh.1
      have heq := aeq_sound hs hcl hrx hry hb
      have hbo : ∀ op', (op' = .eql ∨ op' = .neq) → (Go.binOp op' t (ρ x) (ρ y)).run P w = .ok (.bool (if op' = .eql then b else !b)) w := by
        intro op' hop'
        generalize ρ x = a at e1 e2 e3 e4 heq
        generalize ρ y = a' at heq
        rcases hop' with rfl | rfl <;> cases a <;> first
          | (exact absurd rfl (e1 _ _))
          | (exact absurd rfl (e2 _))
          | (exact absurd rfl (e3 _ _))
          | (exact absurd rfl (e4 _ _ _))
          | (simp only [Go.binOp, Sem.run_bind, heq, Result.andThen_ok, Sem.run_pure]; rfl)
      rcases hop with ⟨rfl, rfl⟩ | ⟨rfl, rfl⟩
      · exact OpRes.val hs (cv := .bool b) (by simp [execOp, ho, hgd, hbo .eql (.inl rfl)]) (by simp [Rep])
      · exact OpRes.val hs (cv := .bool (!b)) (by simp [execOp, ho, hgd, hbo .neq (.inr rfl)]) (by simp [Rep])
    by_cases hi : (∃ k a l b, u = .int k a ∧ q = .int l b)
    · obtain ⟨k, a, l, b, rfl, rfl⟩ := hi
      obtain ⟨cv, h1, h2⟩ := binInt_sound (P := P) (L := L) (w := w) (t := t) hv g
      simp only [Rep] at hrx hry
      refine OpRes.val hs (cv := cv) ?_ h2
      have hgd : (eqGuard op t x y (ρ x) (ρ y)).run P w = .ok () w := run_eqGuard_other (by rw [hrx]; simp) (by rw [hrx]; simp)
      simp [execOp, ho, hgd]
      simp [hrx, hry, h1]
    · by_cases hst : (∃ a b, u = .str a ∧ q = .str b)
      · obtain ⟨a, b, rfl, rfl⟩ := hst
        obtain ⟨cv, h1, h2⟩ := binStr_sound (P := P) (L := L) (w := w) (t := t) hv g
        simp only [Rep] at hrx hry
        refine OpRes.val hs (cv := cv) ?_ h2
        have hgd : (eqGuard op t x y (ρ x) (ρ y)).run P w = .ok () w := run_eqGuard_other (by rw [hrx]; simp) (by rw [hrx]; simp)
        simp [execOp, ho, hgd]
        simp [hrx, hry, h1]
      · unfold binA at hv
        split at hv
        · exact absurd ⟨_, _, _, _, rfl, rfl⟩ hi
        · exact absurd ⟨_, _, rfl, rfl⟩ hst
        · split at hv
          · split at hv
            · rename_i b hb
              cases hv
              exact other b hb (.inl ⟨rfl, rfl⟩)
            · cases hv
          · split at hv
            · rename_i b hb
              cases hv
              exact other b hb (.inr ⟨rfl, rfl⟩)
            · cases hv
          · cases hv
  · cases h
end
end Ab

/- Addresses, indexes, slices, tuples, conversions. No condition. -/
namespace Ab
open Go
section
variable {P : Program} {L : Link} {C : CodeR} {g : Gh} {s : St} {w : World} {ρ : Operand → Value} {ev : Opd → AV}

theorem un_sound (hs : StR L.toLk C g s w) (he : Evs L g w ρ ev) {o : Oper} {op : UnOp} {t : TypeId} {x : Operand} {x' : Opd} (ho : o.op = .unOp op t x) (hx : odOk L x x' = true)
    {r : AV × St} (h : opA ev s (.un op x') = some r) : OpRes P L C g s w r ((execOp ρ o).run P w) := by
  simp only [opA, valStep] at h
  split at h
  · rename_i v hv
    cases h
    obtain ⟨cv, h1, h2⟩ := unA_sound (P := P) (he.rep _ _ hx) hv
    exact OpRes.val hs (cv := cv) (by simp [execOp, ho, h1]) h2
  · cases h

theorem strOf_spec : ∀ {xs : List AV} {b : List UInt8}, strOf xs = some b → ∃ ns : List Int, xs = ns.map (AV.int .u8) ∧ b = ns.map fun n => UInt8.ofNat n.toNat
  | [], b, h => by simp [strOf] at h; exact ⟨[], rfl, by simp [h]⟩
  | x :: xs, b, h => by
    cases x with
    | int k n =>
      cases k <;> simp only [strOf] at h <;> first | (cases h; done) | skip
      split at h
      · rename_i r hr
        cases h
        obtain ⟨ns, rfl, rfl⟩ := strOf_spec hr
        exact ⟨n :: ns, rfl, rfl⟩
      · cases h
    | _ => simp [strOf] at h

theorem repL_ints {L : Lk} {g : Gh} {w : World} {k : IntKind} : ∀ {ns : List Int} {vs : List Value}, RepL L g w (ns.map (AV.int k)) vs → vs = ns.map (Value.int k)
  | [], vs, h => by simpa [RepL] using h
  | n :: ns, vs, h => by
    simp only [List.map_cons, RepL] at h
    obtain ⟨v, r, rfl, h1, h2⟩ := h
    simp only [Rep] at h1
    subst h1
    rw [repL_ints h2]; rfl

theorem foldl_push (ns : List Int) : ∀ r : List UInt8, ns.foldl (fun (r : ByteArray) n => r.push (UInt8.ofNat n.toNat)) ⟨r.toArray⟩ = ⟨(r ++ ns.map fun n => UInt8.ofNat n.toNat).toArray⟩ := by
  induction ns with
  | nil => intro r; simp
  | cons n ns ih =>
    intro r
    simp only [List.foldl_cons, List.map_cons]
    have : (ByteArray.push ⟨r.toArray⟩ (UInt8.ofNat n.toNat)) = ⟨(r ++ [UInt8.ofNat n.toNat]).toArray⟩ := by
      apply ByteArray.ext; simp [ByteArray.push]
    rw [this, ih]; simp

theorem conv_sound (hs : StR L.toLk C g s w) (he : Evs L g w ρ ev) {o : Oper} {a b : TypeId} {c : CV} {x : Operand} {x' : Opd} (ho : o.op = .convert a b x) (hx : odOk L x x' = true) (hc : convOk P a b c = true)
    {r : AV × St} (h : opA ev s (.conv c x') = some r) : OpRes P L C g s w r ((execOp ρ o).run P w) := by
  have hr := he.rep _ _ hx
  simp only [opA, valStep] at h
  split at h
  · rename_i v hv
    cases h
    unfold convA at hv
    unfold convOk at hc
    split at hv
    · rename_i k k' n hev
      cases hv
      rw [hev] at hr
      simp only [Rep] at hr
      simp only at hc
      split at hc
      · rename_i d k2 h1 h2
        simp only [beq_iff_eq] at hc
        subst hc
        refine OpRes.val hs (cv := .int k (k.wrap n)) ?_ (by simp [Rep])
        simp [execOp, ho, convert, run_underlying h1, run_underlying h2, hr, Conv.intToInt]
      · cases hc
    · rename_i l hev
      cases hv
      rw [hev] at hr
      have hr' := hr
      simp only [Rep] at hr
      simp only at hc
      split at hc
      · rename_i h1 h2
        refine OpRes.val hs (cv := ρ x) ?_ hr'
        simp [execOp, ho, convert, run_underlying h1, run_underlying h2, hr]
      · cases hc
    · rename_i l hev
      cases hv
      rw [hev] at hr
      simp only [Rep] at hr
      simp only at hc
      split at hc
      · rename_i e h1 h2
        split at hc
        · rename_i h3
          obtain ⟨cap, hcap⟩ : ∃ cap, cap = (Question.appendCap l.length 0 e).cut (w.tape w.drawn (.appendCap l.length 0 e)) := ⟨_, rfl⟩
          have hge : l.length ≤ cap := by rw [hcap]; simp [Question.cut]
          obtain ⟨cs, hcs⟩ : ∃ cs : Array Value, cs = (l.map fun q => Value.int .u8 q.toNat).toArray ++ Array.replicate (cap - l.length) (.int .u8 0) := ⟨_, rfl⟩
          have hsz : cs.size = cap := by rw [hcs]; simp; omega
          have hnew := hs.newImm (c := cs) (e := e) (fz := (cap, cap + 1)) (w' := { w with drawn := w.drawn + 1, heap := w.heap.push (.cells cs e (cap, cap + 1)) }) rfl ⟨rfl, rfl, rfl⟩ l.length
          refine ⟨_, _, .value (.slice (some ⟨w.heap.size, 0, none⟩) l.length cap), _, ?_, .inl rfl, ?_, hnew.1, hnew.2⟩
          · simp only [execOp, ho, convert, Sem.run_bind, run_underlying h1, run_underlying h2, hr, Result.andThen_ok, run_underlying h3, Conv.stringToBytes, run_choose, Question.forced, Bool.false_eq_true, if_false, newRow, run_newObj, Sem.run_pure]
            have e1 : (⟨l.toArray⟩ : ByteArray).size = l.length := by simp [ByteArray.size]
            have e2 : ((⟨l.toArray⟩ : ByteArray).data.map fun b => Value.int .u8 b.toNat) ++ Array.replicate (cap - l.length) (.int .u8 0) = cs := by rw [hcs]; simp
            simp only [e1, ← hcap, e2, markStringish, Sem.run_bind, run_shape, Result.andThen_ok]
            have e3 : World.shape? { w with drawn := w.drawn + 1, heap := w.heap.push (.cells cs e) } w.heap.size = some (e, cs.size) := by
              simp [World.shape?]
            have e4 : ({ w with drawn := w.drawn + 1, heap := w.heap.push (.cells cs e) } : World).freeze ⟨w.heap.size, cs.size, none⟩ 1 = { w with drawn := w.drawn + 1, heap := w.heap.push (.cells cs e (cap, cap + 1)) } := by
              simp only [World.freeze]
              rw [if_neg (by decide)]
              congr 1
              apply Array.ext_getElem?
              intro i
              rw [Array.getElem?_modify]
              by_cases hi : w.heap.size = i
              · subst hi; simp [hsz]
              · simp [hi, Array.getElem?_push, Ne.symm hi]
            rw [e3]
            simp only [run_freeze, Result.andThen_ok, e4]
          · simp only [Rep]
            have hfl : flat (l.map fun q => Value.int .u8 q.toNat) = l.map fun q => Value.int .u8 q.toNat := flat_map_one _ (fun _ => rfl) l
            refine ⟨some ⟨w.heap.size, 0, none⟩, cap, l.map fun q => Value.int .u8 q.toNat, by simp [bytesOf], by simpa [bytesOf] using hge, bytesOf_untok l, strBytes_rep l, ?_, ⟨fun _ => rfl, ?_⟩, rfl⟩
            · intro u hu; rw [List.mem_map] at hu; obtain ⟨q, _, rfl⟩ := hu
              exact ⟨rfl, fun c hc => by simp [Value.cells] at hc; subst hc; trivial⟩
            · rw [hfl]
              refine lies_new (g := g) (tk := g.tk) (w' := { w with drawn := w.drawn + 1, heap := w.heap.push (.cells cs e (cap, cap + 1)) }) (c := cs) (e := e) (fz := (cap, cap + 1)) rfl ?_ (by simp)
              rw [hcs]; simp
        · cases hc
      · cases hc
    · rename_i own xs hev
      rw [hev] at hr
      simp only [Rep] at hr
      obtain ⟨a', cap, vs, hρ, hcap, hun, hrl, hsz, hl, ho'⟩ := hr
      simp only [Option.map_eq_some_iff] at hv
      obtain ⟨b', hb', rfl⟩ := hv
      obtain ⟨ns, rfl, rfl⟩ := strOf_spec hb'
      have hvs := repL_ints hrl
      subst hvs
      simp only at hc
      split at hc
      · rename_i e h1 h2
        split at hc
        · rename_i h3
          refine OpRes.val hs (cv := .string ⟨(ns.map fun n => UInt8.ofNat n.toNat).toArray⟩) ?_ (by simp [Rep])
          simp only [execOp, ho, convert, Sem.run_bind, run_underlying h1, run_underlying h2, hρ, Result.andThen_ok]
          have hgo : (Conv.bytesToString (.slice a' (ns.map (AV.int .u8)).length cap)).run P w = .ok (.string ⟨(ns.map fun n => UInt8.ofNat n.toNat).toArray⟩) w := by
            cases a' with
            | none =>
              have : ns = [] := by simpa using hl.1
              subst this
              simp only [Conv.bytesToString, Sem.run_pure]; rfl
            | some p =>
              have hld := run_loadCells_list (P := P) w p (flat (ns.map (Value.int .u8))) (lies_at hl.2 rfl (spot_flat hl.1 (by simp)) rfl rfl)
              have hfl : flat (ns.map (Value.int .u8)) = ns.map (Value.int .u8) := flat_map_one _ (fun _ => rfl) ns
              rw [hfl] at hld
              simp only [List.length_map] at hld
              have := run_bytesToString w p ns.length cap ns hld
              simp only [List.length_map]
              rw [this]
              have h0 := foldl_push ns []
              simp only [List.nil_append] at h0
              exact congrArg (fun q => Result.ok (Value.string q) w) h0
          rw [run_underlying h3]
          simp only [Result.andThen_ok, hgo, Sem.run_pure]
        · cases hc
      · cases hc
    · cases hv
  · cases h

theorem mkif_sound (hs : StR L.toLk C g s w) (he : Evs L g w ρ ev) {o : Oper} {t : TypeId} {u : Nat} {x : Operand} {x' : Opd} (ho : o.op = .makeInterface t x) (hx : odOk L x x' = true) (ht : L.tyOf u = t) {d : TypeDesc}
    (hu : P.underlying t = some d) (hd : (match d with | .interface _ => false | _ => true) = true) {r : AV × St} (h : opA ev s (.mkif u x') = some r) : OpRes P L C g s w r ((execOp ρ o).run P w) := by
  simp only [opA, Option.some.injEq] at h
  subst h
  refine OpRes.val hs (cv := .iface t (ρ x)) ?_ (by simp only [Rep]; exact ⟨_, by rw [ht], he.rep _ _ hx⟩)
  cases d <;> first | (cases hd; done) | simp [execOp, ho, Instr.makeInterface, run_underlying hu]

theorem mkfn_sound (hs : StR L.toLk C g s w) (he : Evs L g w ρ ev) {o : Oper} {f g' : Nat} {a c : Array Operand} {a' c' : List Opd} (ho : o.op = .makeFunc (.func f) a c) (hf : L.fnOf g' = f) (ha : odsOk L a.toList a' = true) (hc : odsOk L c.toList c' = true)
    {r : AV × St} (h : opA ev s (.mkfn g' a' c') = some r) : OpRes P L C g s w r ((execOp ρ o).run P w) := by
  simp only [opA, Option.some.injEq] at h
  subst h
  refine OpRes.val hs (cv := .func (.func f) (a.map ρ) (c.map ρ)) (by simp only [execOp, ho, Instr.makeFunc, Sem.run_bind, Sem.run_pure, Result.andThen_ok]) ?_
  simp only [Rep]
  refine ⟨a.toList.map ρ, c.toList.map ρ, ?_, he.reps ha, he.reps hc⟩
  rw [hf]
  congr 1
  · apply Array.ext'; simp
  · apply Array.ext'; simp

theorem mkmap_sound (hs : StR L.toLk C g s w) {o : Oper} {t : TypeId} (ho : o.op = .makeMap t none) {r : AV × St} (h : opA ev s .mkmap = some r) : OpRes P L C g s w r ((execOp ρ o).run P w) := by
  simp only [opA, Option.some.injEq] at h
  subst h
  have hp := hs.push (o := .map #[] 0) (ab := .amap []) (w' := { w with heap := w.heap.push (.map #[] 0) }) rfl same_push [] (by simp)
    (fun _ => ⟨#[], 0, by rw [push_new rfl], rfl, fun i k v e h => by simp at h⟩)
  refine ⟨_, _, .value (.map (some w.heap.size)), _, by simp [execOp, ho, Instr.makeMap], .inl rfl, ?_, hp.1, hp.2⟩
  simp only [Rep]
  exact ⟨w.heap.size, by simp [← hs.bl], rfl⟩

theorem faddr_sound (hs : StR L.toLk C g s w) (he : Evs L g w ρ ev) {o : Oper} {t : TypeId} {f off n : Nat} {x : Operand} {x' : Opd} {fd : Field} (ho : o.op = .fieldAddr t x f) (hx : odOk L x x' = true)
    (hf : fieldOf P t f = some fd) (hoff : fd.offset = off) (hn : szOf P fd.type = some n) (hn0 : n ≠ 0) {r : AV × St} (h : opA ev s (.faddr off x') = some r) : OpRes P L C g s w r ((execOp ρ o).run P w) := by
  have hr := he.rep _ _ hx
  have hrun : ∀ (b q : Nat), ρ x = .pointer (some ⟨b, q, none⟩) → (execOp ρ o).run P w = .ok (.value (.pointer (some ⟨b, q + off, none⟩))) w := by
    intro b q hq
    unfold fieldOf at hf
    split at hf
    · rename_i fs hu
      simp only [execOp, ho, Instr.fieldAt, Sem.run_bind, run_underlying hu, Result.andThen_ok, hf, hq, Instr.sureAddr, Sem.run_pure, fieldPlace, run_sizeOf hn, Sem.run_ite]
      rw [if_neg hn0]
      simp [hoff, addr_add]
    · cases hf
  simp only [opA] at h
  split at h
  · rename_i i q hev
    cases h
    rw [hev] at hr
    simp only [Rep] at hr
    obtain ⟨b, hb, hq⟩ := hr
    exact OpRes.val hs (hrun b q hq) (by simp only [Rep]; exact ⟨b, hb, rfl⟩)
  · rename_i y q hev
    cases h
    rw [hev] at hr
    simp only [Rep] at hr
    obtain ⟨b, o2, xv, hq, h1, h2, h3⟩ := hr
    exact OpRes.val hs (hrun b (o2 + q) hq) (by simp only [Rep]; exact ⟨b, o2, xv, by rw [Nat.add_assoc], h1, h2, h3⟩)
  · cases h

theorem run_part {t : TypeId} {agg : Bool} {n off : Nat} (ha : isAggP P t = some agg) (hn : szOf P t = some n) (h1 : agg = true ∨ n = 1) {cs : List AV} {vs : Array Value} (hr : RepL L.toLk g w cs vs.toList)
    (ho : ∀ u ∈ vs.toList, oneCell u) {x : AV} (hx : partOf agg n off cs = some x) : ∃ cv, (part t vs off).run P w = .ok cv w ∧ Rep L.toLk g w x cv := by
  unfold partOf at hx
  unfold part
  simp only [Sem.run_bind, run_isAgg ha, Result.andThen_ok]
  cases agg with
  | true =>
    simp only [if_true] at hx ⊢
    split at hx
    · cases hx
      refine ⟨.agg (vs.extract off (off + n)), by simp [run_sizeOf hn], ?_⟩
      simp only [Rep]
      refine ⟨(vs.toList.drop off).take n, ?_, (hr.drop off).take n, fun u hu => ho u (List.mem_of_mem_drop (List.mem_of_mem_take hu))⟩
      congr 1
      apply Array.ext'
      simp [List.extract_eq_take_drop]
    · cases hx
  | false =>
    simp only [Bool.false_eq_true, if_false] at hx ⊢
    obtain ⟨v, hv, hrv⟩ := hr.get hx
    have : vs[off]? = some v := by simpa using hv
    exact ⟨v, by simp [this], hrv⟩

theorem field_sound (hs : StR L.toLk C g s w) (he : Evs L g w ρ ev) {o : Oper} {t : TypeId} {f off n : Nat} {agg : Bool} {x : Operand} {x' : Opd} {fd : Field} (ho : o.op = .field t x f) (hx : odOk L x x' = true)
    (hf : fieldOf P t f = some fd) (hoff : fd.offset = off) (ha : isAggP P fd.type = some agg) (hn : szOf P fd.type = some n) (h1 : agg = true ∨ n = 1) {r : AV × St} (h : opA ev s (.field off agg n x') = some r) :
    OpRes P L C g s w r ((execOp ρ o).run P w) := by
  have hr := he.rep _ _ hx
  simp only [opA] at h
  split at h
  · rename_i cs hev
    simp only [valStep] at h
    split at h
    · rename_i v hv
      cases h
      rw [hev] at hr
      simp only [Rep] at hr
      obtain ⟨vs, hρ, hrl, hone⟩ := hr
      obtain ⟨cv, h2, h3⟩ := run_part (P := P) (vs := vs.toArray) ha hn h1 (by simpa using hrl) (by simpa using hone) hv
      refine OpRes.val hs (cv := cv) ?_ h3
      unfold fieldOf at hf
      split at hf
      · rename_i fs hu
        simp only [execOp, ho, Instr.field, Sem.run_bind, run_underlying hu, Result.andThen_ok, hf, hρ, asAgg, Sem.run_pure, hoff, h2]
      · cases hf
    · cases h
  · cases h

theorem idx_spec {i : AV} {n k : Nat} (h : idx i n = some k) : ∃ q m, i = .int q m ∧ 0 ≤ m ∧ m < n ∧ k = m.toNat ∧ k < n := by
  unfold idx at h
  split at h
  · rename_i q m
    split at h
    · rename_i hc; cases h; exact ⟨q, m, rfl, hc.1, hc.2, rfl, by omega⟩
    · cases h
  · cases h

theorem lies_part {g : Gh} {w : World} {b o : Nat} {cs : List Value} (h : Lies g w b o cs) (k n : Nat) : Lies g w b (o + k) ((cs.drop k).take n) := by
  intro j c hj
  rw [List.getElem?_take] at hj
  split at hj
  · rw [List.getElem?_drop] at hj
    have := h _ _ hj
    rwa [← Nat.add_assoc] at this
  · cases hj

theorem flat_elem {sz : Nat} {vs : List Value} (h : ∀ u ∈ vs, u.cells.size = sz) {k : Nat} {v : Value} (hk : vs[k]? = some v) : ((flat vs).drop (k * sz)).take sz = v.cells.toList := by
  have hlt := (List.getElem?_eq_some_iff.1 hk).1
  rw [flat_drop h k (Nat.le_of_lt hlt)]
  have hd : vs.drop k = v :: vs.drop (k + 1) := by
    rw [List.drop_eq_getElem_cons hlt]
    congr 1
    have := (List.getElem?_eq_some_iff.1 hk).2
    exact this
  rw [hd]
  have : flat (v :: vs.drop (k + 1)) = v.cells.toList ++ flat (vs.drop (k + 1)) := by simp [flat]
  rw [this]
  have hv := h v (List.mem_of_getElem? hk)
  exact List.take_left' (by simpa using hv)

theorem iaddr_sound (hs : StR L.toLk C g s w) (he : Evs L g w ρ ev) {o : Oper} {t : TypeId} {sz : Nat} {x i : Operand} {x' i' : Opd} (ho : o.op = .indexAddr t x i) (hx : odOk L x x' = true) (hi : odOk L i i' = true)
    (ht : elemIs P t sz = true) {r : AV × St} (h : opA ev s (.iaddr sz x' i') = some r) : OpRes P L C g s w r ((execOp ρ o).run P w) := by
  have hrx := he.rep _ _ hx
  have hri := he.rep _ _ hi
  unfold elemIs at ht
  split at ht
  · rename_i e hu
    simp only [beq_iff_eq] at ht
    have hrun : ∀ (b q len cap k : Nat) (kk : IntKind) (m : Int), ρ x = .slice (some ⟨b, q, none⟩) len cap → ρ i = .int kk m → 0 ≤ m → m < len → k = m.toNat →
        (execOp ρ o).run P w = .ok (.value (.pointer (some ⟨b, q + k * sz, none⟩))) w := by
      intro b q len cap k kk m h1 h2 h3 h4 h5
      simp only [execOp, ho, Instr.indexAt, h1, h2, asIntOf, Sem.run_bind, Sem.run_pure, Result.andThen_ok, run_underlying hu]
      rw [if_pos ⟨h3, h4⟩]
      simp [run_sizeOf ht, addr_add, h5]
    simp only [opA] at h
    split at h
    · rename_i own z xs hev
      split at h
      · cases h
      · rename_i hz
        simp only [ne_eq, Decidable.not_not] at hz
        subst hz
        split at h
        · rename_i k hk
          cases h
          obtain ⟨kk, m, him, h0, hm, hkm, hlt⟩ := idx_spec hk
          rw [hev] at hrx
          rw [him] at hri
          simp only [Rep] at hrx hri
          obtain ⟨a, cap, vs, hρ, hcap, hun, hrl, hsz, hl, hown⟩ := hrx
          obtain ⟨y, hy⟩ : ∃ y, xs[k]? = some y := ⟨xs[k], List.getElem?_eq_getElem hlt⟩
          obtain ⟨v, hv, hrv⟩ := hrl.get hy
          cases a with
          | none => rw [hl.1] at hlt; simp at hlt
          | some p =>
            obtain ⟨pb, po, ps⟩ := p
            obtain ⟨hsp, hl⟩ := hl
            have hsp := hsp (by rintro rfl; simp at hlt)
            simp only at hsp
            subst hsp
            refine OpRes.val hs (hrun pb po _ cap k kk m hρ hri h0 hm hkm) ?_
            simp only [Rep, List.getD_eq_getElem?_getD, hy, Option.getD_some]
            refine ⟨pb, po + k * z, v, rfl, ?_, hrv, ?_⟩
            · have := congrArg (fun l => l[k]?) hun
              simp only [AV.untokL_eq, List.getElem?_map, hy, Option.map_some, Option.some.injEq] at this
              exact this
            · have := lies_part hl (k * z) z
              rwa [flat_elem (fun u hu => (hsz u hu).1) hv] at this
        · cases h
    · rename_i b off z n hev
      split at h
      · cases h
      split at h
      · rename_i k hk
        cases h
        obtain ⟨kk, m, him, h0, hm, hkm, hlt⟩ := idx_spec hk
        rw [hev] at hrx
        rw [him] at hri
        simp only [Rep] at hrx hri
        obtain ⟨b', a, cap, hb', hρ, hcap, ha⟩ := hrx
        rw [ha (by omega)] at hρ
        exact OpRes.val hs (hrun b' off _ cap k kk m hρ hri h0 hm hkm) (by simp only [Rep]; exact ⟨b', hb', rfl⟩)
      · cases h
    · cases h
  · cases ht

theorem aaddr_sound (hs : StR L.toLk C g s w) (he : Evs L g w ρ ev) {o : Oper} {t e : TypeId} {sz len : Nat} {x i : Operand} {x' i' : Opd} (ho : o.op = .indexAddr t x i) (hx : odOk L x x' = true) (hi : odOk L i i' = true)
    (hu : P.underlying t = some (.array len e)) (ht : szOf P e = some sz) {r : AV × St} (h : opA ev s (.aaddr sz len x' i') = some r) : OpRes P L C g s w r ((execOp ρ o).run P w) := by
  have hrx := he.rep _ _ hx
  have hri := he.rep _ _ hi
  have hrun : ∀ (b q k : Nat) (kk : IntKind) (m : Int), ρ x = .pointer (some ⟨b, q, none⟩) → ρ i = .int kk m → 0 ≤ m → m < len → k = m.toNat →
      (execOp ρ o).run P w = .ok (.value (.pointer (some ⟨b, q + k * sz, none⟩))) w := by
    intro b q k kk m h1 h2 h3 h4 h5
    simp only [execOp, ho, Instr.indexAt, h1, h2, asIntOf, Sem.run_bind, Sem.run_pure, Result.andThen_ok, run_underlying hu, Instr.sureAddr]
    rw [if_pos ⟨h3, h4⟩]
    simp [run_sizeOf ht, addr_add, h5]
  simp only [opA] at h
  split at h
  · rename_i b off hev
    split at h
    · rename_i k hk
      cases h
      obtain ⟨kk, m, him, h0, hm, hkm, hlt⟩ := idx_spec hk
      rw [hev] at hrx
      rw [him] at hri
      simp only [Rep] at hrx hri
      obtain ⟨b', hb', hρ⟩ := hrx
      exact OpRes.val hs (hrun b' off k kk m hρ hri h0 hm hkm) (by simp only [Rep]; exact ⟨b', hb', rfl⟩)
    · cases h
  · rename_i y off hev
    split at h
    · rename_i k hk
      cases h
      obtain ⟨kk, m, him, h0, hm, hkm, hlt⟩ := idx_spec hk
      rw [hev] at hrx
      rw [him] at hri
      simp only [Rep] at hrx hri
      obtain ⟨b', o2, xv, hρ, h1, h2, h3⟩ := hrx
      exact OpRes.val hs (hrun b' (o2 + off) k kk m hρ hri h0 hm hkm) (by simp only [Rep]; exact ⟨b', o2, xv, by rw [Nat.add_assoc], h1, h2, h3⟩)
    · cases h
  · cases h

theorem index_sound (hs : StR L.toLk C g s w) (he : Evs L g w ρ ev) {o : Oper} {t : TypeId} {x i : Operand} {x' i' : Opd} (ho : o.op = .index t x i) (hx : odOk L x x' = true) (hi : odOk L i i' = true)
    (hu : P.underlying t = some .string) {r : AV × St} (h : opA ev s (.index x' i') = some r) : OpRes P L C g s w r ((execOp ρ o).run P w) := by
  have hrx := he.rep _ _ hx
  have hri := he.rep _ _ hi
  simp only [opA] at h
  split at h
  · rename_i b hev
    split at h
    · rename_i k hk
      cases h
      obtain ⟨kk, m, him, h0, hm, hkm, hlt⟩ := idx_spec hk
      rw [hev] at hrx
      rw [him] at hri
      simp only [Rep] at hrx hri
      have hget : (⟨b.toArray⟩ : ByteArray)[m.toNat]? = some (b.getD k 0) := by
        rw [← hkm]
        have hlt' : k < (⟨b.toArray⟩ : ByteArray).size := by simpa [ByteArray.size] using hlt
        rw [getElem?_pos (⟨b.toArray⟩ : ByteArray) k hlt']
        simp [List.getD_eq_getElem?_getD, hlt, ByteArray.getElem_eq_getElem_data]
      refine OpRes.val hs (cv := .int .u8 (b.getD k 0).toNat) ?_ (by simp [Rep])
      simp only [execOp, ho, Instr.index, hri, asIntOf, Sem.run_bind, Sem.run_pure, Result.andThen_ok, run_underlying hu, hrx]
      rw [if_pos h0, hget]
      rfl
    · cases h
  · cases h

theorem aindex_sound (hs : StR L.toLk C g s w) (he : Evs L g w ρ ev) {o : Oper} {t e : TypeId} {sz len : Nat} {agg : Bool} {x i : Operand} {x' i' : Opd} (ho : o.op = .index t x i) (hx : odOk L x x' = true) (hi : odOk L i i' = true)
    (hu : P.underlying t = some (.array len e)) (ha : isAggP P e = some agg) (ht : szOf P e = some sz) (h1 : agg = true ∨ sz = 1) {r : AV × St} (h : opA ev s (.aindex sz len agg x' i') = some r) : OpRes P L C g s w r ((execOp ρ o).run P w) := by
  have hrx := he.rep _ _ hx
  have hri := he.rep _ _ hi
  simp only [opA] at h
  split at h
  · rename_i cs hev
    split at h
    · rename_i k hk
      simp only [valStep] at h
      split at h
      · rename_i v hv
        cases h
        obtain ⟨kk, m, him, h0, hm, hkm, hlt⟩ := idx_spec hk
        rw [hev] at hrx
        rw [him] at hri
        simp only [Rep] at hrx hri
        obtain ⟨vs, hρ, hrl, hone⟩ := hrx
        obtain ⟨cv, h2, h3⟩ := run_part (P := P) (vs := vs.toArray) ha ht h1 (by simpa using hrl) (by simpa using hone) hv
        refine OpRes.val hs (cv := cv) ?_ h3
        simp only [execOp, ho, Instr.index, hri, asIntOf, Sem.run_bind, Sem.run_pure, Result.andThen_ok, run_underlying hu, hρ]
        rw [if_pos ⟨h0, hm⟩]
        simp only [Sem.run_bind, run_sizeOf ht, Result.andThen_ok, ← hkm, h2]
      · cases h
    · cases h
  · cases h

theorem ext_sound (hs : StR L.toLk C g s w) (he : Evs L g w ρ ev) {o : Oper} {i : Nat} {x : Operand} {x' : Opd} (ho : o.op = .extract x i) (hx : odOk L x x' = true) {r : AV × St} (h : opA ev s (.ext x' i) = some r) : OpRes P L C g s w r ((execOp ρ o).run P w) := by
  have hr := he.rep _ _ hx
  simp only [opA] at h
  split at h
  · rename_i vs hev
    split at h
    · rename_i v hv
      cases h
      rw [hev] at hr
      simp only [Rep] at hr
      obtain ⟨us, hρ, hrl⟩ := hr
      obtain ⟨cv, h1, h2⟩ := hrl.get hv
      exact OpRes.val hs (cv := cv) (by simp [execOp, ho, hρ, Instr.extract, h1]) h2
    · cases h
  · cases h
end
end Ab

/- Slicing, maps, iterators over strings, type assertions, lengths. No condition. -/
namespace Ab
open Go
section
variable {P : Program} {L : Link} {C : CodeR} {g : Gh} {s : St} {w : World} {ρ : Operand → Value} {ev : Opd → AV}

theorem bound_spec {x : Option AV} {cx : Option Value} (hr : match x, cx with | none, none => True | some a, some c => Rep L.toLk g w a c | _, _ => False) {d m m' k : Nat} (h : bound x d m = some k) (hm : m ≤ m') (code : BoundsCode) :
    (match cx with | none => k = d | some c => (Instr.sliceBound c m' code).run P w = .ok k w ∧ k ≤ m) := by
  unfold bound at h
  cases x with
  | none => cases cx with
    | none => simpa using h.symm
    | some c => cases hr
  | some a =>
    cases cx with
    | none => cases hr
    | some c =>
      simp only at h hr ⊢
      cases a with
      | int q i =>
        simp only at h
        split at h
        · rename_i hc
          cases h
          simp only [Rep] at hr
          subst hr
          refine ⟨?_, by omega⟩
          simp only [Instr.sliceBound, asIntOf, Sem.run_bind, Sem.run_pure, Result.andThen_ok]
          rw [if_pos ⟨hc.1, by omega⟩]; rfl
        · cases h
      | _ => simp at h

theorem odo_rep (he : Evs L g w ρ ev) {x : Option Operand} {y : Option Opd} (h : odoOk L x y = true) : match (y.map ev), (x.map ρ) with | none, none => True | some a, some c => Rep L.toLk g w a c | _, _ => False := by
  cases x <;> cases y <;> simp [odoOk] at h ⊢
  exact he.rep _ _ h

theorem run_bounds {isSlice : Bool} {len cap l h m : Nat} {lo hi mx : Option Value}
    (h1 : match mx with | none => m = cap | some c => (Instr.sliceBound c cap (if isSlice then .slice3Acap else .slice3Alen)).run P w = .ok m w)
    (h2 : match hi, mx with | some c, some _ => (Instr.sliceBound c m .slice3B).run P w = .ok h w | some c, none => (Instr.sliceBound c m (if isSlice then .sliceAcap else .sliceAlen)).run P w = .ok h w | none, none => h = len | none, some _ => False)
    (h3 : match lo with | none => l = 0 | some c => (Instr.sliceBound c h (if mx.isSome then .slice3C else .sliceB)).run P w = .ok l w) :
    (Instr.sliceBounds isSlice len cap lo hi mx).run P w = .ok (l, h, m) w := by
  unfold Instr.sliceBounds
  cases mx with
  | none =>
    simp only at h1 h2; subst h1
    cases hi with
    | none =>
      simp only at h2; subst h2
      cases lo with
      | none => simp only at h3; subst h3; simp
      | some c => simp at h3; simp [h3]
    | some c' =>
      cases lo with
      | none => simp only at h3; subst h3; simp [h2]
      | some c => simp at h3; simp [h2, h3]
  | some c'' =>
    cases hi with
    | none => exact h2.elim
    | some c' =>
      cases lo with
      | none => simp only at h3; subst h3; simp [h1, h2]
      | some c => simp at h3; simp [h1, h2, h3]

theorem extract_mk (b : List UInt8) (l h : Nat) : (⟨b.toArray⟩ : ByteArray).extract l h = ⟨((b.take h).drop l).toArray⟩ := by
  apply ByteArray.ext
  apply Array.ext'
  simp [ByteArray.data_extract, List.extract_eq_take_drop, List.drop_take]

theorem untokL_drop_take {xs : List AV} (h : AV.untokL xs = xs) (a b : Nat) : AV.untokL ((xs.take a).drop b) = (xs.take a).drop b := by
  rw [AV.untokL_eq] at h ⊢
  rw [List.map_drop, List.map_take, h]

theorem slice_sound (hs : StR L.toLk C g s w) (he : Evs L g w ρ ev) {o : Oper} {t : TypeId} {sz : Nat} {x : Operand} {x' : Opd} {lo hi mx : Option Operand} {lo' hi' mx' : Option Opd} (ho : o.op = .slice t x lo hi mx) (hx : odOk L x x' = true)
    (hlo : odoOk L lo lo' = true) (hhi : odoOk L hi hi' = true) (hmx : odoOk L mx mx' = true) (ht : sliceTOk P t sz = true)
    {r : AV × St} (h : opA ev s (.slice sz x' lo' hi' mx') = some r) : OpRes P L C g s w r ((execOp ρ o).run P w) := by
  have hrx := he.rep _ _ hx
  have rlo := odo_rep he hlo
  have rhi := odo_rep he hhi
  have rmx := odo_rep he hmx
  simp only [opA, valStep] at h
  split at h
  · rename_i v hv
    cases h
    generalize ev x' = u at hv hrx
    generalize lo'.map ev = alo at hv rlo
    generalize hi'.map ev = ahi at hv rhi
    generalize mx'.map ev = amx at hv rmx
    have exec : (execOp ρ o).run P w = ((Instr.sliceAt t (ρ x) (lo.map ρ) (hi.map ρ) (mx.map ρ)).run P w).andThen fun a w' => .ok (.value a) w' := by
      simp only [execOp, ho, Sem.run_bind]; rfl
    rw [exec]
    generalize ρ x = cx at hrx
    generalize lo.map ρ = clo at rlo
    generalize hi.map ρ = chi at rhi
    generalize mx.map ρ = cmx at rmx
    unfold sliceA at hv
    have loMatch : ∀ {code m k}, bound alo 0 m = some k → (match clo with | none => k = 0 | some c => (Instr.sliceBound c m code).run P w = .ok k w) ∧ k ≤ m := by
      intro code m k hb
      have := bound_spec (P := P) (w := w) rlo hb (Nat.le_refl _) code
      cases clo with
      | none => simp only at this; subst this; exact ⟨rfl, Nat.zero_le _⟩
      | some c => exact ⟨this.1, this.2⟩
    have mxNone : amx.isSome = false → cmx = none ∧ amx = none := by
      intro hm
      cases amx with
      | some a => cases hm
      | none => cases cmx with
        | none => exact ⟨rfl, rfl⟩
        | some c => exact rmx.elim
    unfold sliceTOk at ht
    cases u with
    | str b =>
      simp only at hv
      simp only [Rep] at hrx
      subst hrx
      split at hv
      · cases hv
      · rename_i hcond
        simp only [not_or, Bool.not_eq_true, ne_eq, Decidable.not_not] at hcond
        obtain ⟨rfl, rfl⟩ := mxNone hcond.1
        split at ht
        · rename_i hu
          split at hv
          · cases hv
          · rename_i hh hhb
            split at hv
            · cases hv
            · rename_i l hlb
              cases hv
              have hH := bound_spec (P := P) (w := w) rhi hhb (Nat.le_refl _) .sliceAlen
              have hL := (loMatch (code := .sliceB) hlb).1
              have hrunb : (Instr.sliceBounds false b.length b.length clo chi none).run P w = .ok (l, hh, b.length) w := by
                refine run_bounds rfl ?_ ?_
                · cases chi with
                  | none => exact hH
                  | some c => exact hH.1
                · cases clo with
                  | none => exact hL
                  | some c => exact hL
              refine OpRes.val hs (cv := .string ⟨((b.take hh).drop l).toArray⟩) ?_ (by simp [Rep])
              have hsz : (⟨b.toArray⟩ : ByteArray).size = b.length := by simp [ByteArray.size]
              simp only [Instr.sliceAt, Sem.run_bind, run_underlying hu, Result.andThen_ok, Instr.slice, Option.isSome_none, Bool.false_eq_true, if_false, hsz, hrunb, Sem.run_pure, extract_mk]
        · simp [hcond.2] at ht
        · cases ht
    | sl own z xs =>
      simp only at hv
      split at hv
      · cases hv
      · rename_i hz
        simp only [ne_eq, not_or, Decidable.not_not] at hz
        obtain ⟨rfl, hznz⟩ := hz
        simp only [Rep] at hrx
        obtain ⟨a, cap, vs, rfl, hcap, hun, hrl, hsz, hl, hown⟩ := hrx
        have hsz1 : ∀ u ∈ vs, u.cells.size = z := fun u hu => (hsz u hu).1
        have hvl := hrl.length
        split at ht
        · simp only [beq_iff_eq] at ht; exact absurd ht hznz
        · rename_i e hu
          simp only [Bool.and_eq_true, beq_iff_eq, bne_iff_ne, ne_eq] at ht
          obtain ⟨hse, hz0⟩ := ht
          -- the result, for any bounds
          have fin : ∀ (l hh m : Nat) (own' : Own), l ≤ hh → hh ≤ xs.length → hh ≤ m → m ≤ cap → (Instr.sliceBounds true xs.length cap clo chi cmx).run P w = .ok (l, hh, m) w →
              (∀ a', (a' = if m = l then a else a.map (·.add (l * z))) → OwnOk g own' z a' (hh - l) (m - l)) →
              OpRes P L C g s w (.sl own' z ((xs.take hh).drop l), s) (((Instr.sliceAt t (.slice a xs.length cap) clo chi cmx).run P w).andThen fun a w' => .ok (.value a) w') := by
            intro l hh m own' h1 h2 h3 h4 hb ho'
            refine OpRes.val hs (cv := .slice (if m = l then a else a.map (·.add (l * z))) (hh - l) (m - l)) ?_ ?_
            · simp only [Instr.sliceAt, Sem.run_bind, run_underlying hu, Result.andThen_ok, Instr.slice, hb, run_sizeOf hse, Sem.run_pure]
            · simp only [Rep]
              have hlen : ((xs.take hh).drop l).length = hh - l := by rw [List.length_drop, List.length_take]; omega
              refine ⟨if m = l then a else a.map (·.add (l * z)), m - l, (vs.take hh).drop l, by rw [hlen], by rw [hlen]; omega, untokL_drop_take hun _ _, (hrl.take hh).drop l,
                fun u hu' => hsz u (List.mem_of_mem_take (List.mem_of_mem_drop hu')), ?_, by rw [hlen]; exact ho' _ rfl⟩
              cases a with
              | none =>
                have hx0 := hl.1
                subst hx0
                have hm0 : cap = 0 := hl.2
                simp only [List.length_nil] at h2
                have : m = l := by omega
                rw [if_pos this]
                exact ⟨by simp, by omega⟩
              | some p =>
                obtain ⟨hsp, hl⟩ := hl
                have hne : (xs.take hh).drop l ≠ [] → xs ≠ [] := by rintro h rfl; simp at h
                by_cases hml : m = l
                · rw [if_pos hml]
                  have hd : (vs.take hh).drop l = [] := List.drop_eq_nil_of_le (by rw [List.length_take]; omega)
                  rw [hd]
                  exact ⟨fun h => hsp (hne h), fun j c hj => by simp [flat] at hj⟩
                · rw [if_neg hml]
                  simp only [Option.map_some]
                  have hadd : ∀ n, (p.add n).block = p.block ∧ (p.add n).off = p.off + n ∧ (p.spot = none → (p.add n).spot = none) := by
                    intro n
                    unfold Addr.add
                    split
                    · rename_i h0; subst h0; exact ⟨rfl, rfl, fun h => h⟩
                    · exact ⟨rfl, rfl, fun _ => rfl⟩
                  obtain ⟨k1, k2, k3⟩ := hadd (l * z)
                  refine ⟨fun h => k3 (hsp (hne h)), ?_⟩
                  rw [k1, k2]
                  have e1 : flat ((vs.take hh).drop l) = ((flat vs).drop (l * z)).take ((hh - l) * z) := by
                    rw [List.drop_take, flat_drop hsz1 l (by omega), flat_take (fun u hu' => hsz1 u (List.mem_of_mem_drop hu')) (hh - l) (by rw [List.length_drop]; omega)]
                  rw [e1]
                  exact lies_part hl _ _
          split at hv
          · cases hv
          · rename_i m hmb
            split at hv
            · cases hv
            · rename_i hh hhb
              split at hv
              · cases hv
              · rename_i l hlb
                have hL := loMatch (code := if cmx.isSome then .slice3C else .sliceB) hlb
                split at hv
                · rename_i hmx1
                  -- three indexes
                  split at hv
                  · rename_i hc
                    obtain ⟨rfl, hsol, hhs⟩ := hc
                    cases hv
                    cases amx with
                    | none => cases hmx1
                    | some am =>
                      cases cmx with
                      | none => exact rmx.elim
                      | some cm =>
                        have hM := bound_spec (P := P) (w := w) (cx := some cm) rmx hmb hcap .slice3Acap
                        have hH := bound_spec (P := P) (w := w) rhi hhb (Nat.le_refl _) .slice3B
                        cases chi with
                        | none =>
                          cases ahi with
                          | some q => exact rhi.elim
                          | none => simp at hhs
                        | some ch =>
                          refine fin l m m .full hL.2 hM.2 (Nat.le_refl _) (by have := hM.2; omega) (run_bounds hM.1 hH.1 ?_) ?_
                          · cases clo with
                            | none => exact hL.1
                            | some c => exact hL.1
                          · intro a' ha'
                            refine ⟨?_, rfl⟩
                            have hsome : a.isSome = true := by
                              cases own with
                              | full => exact hown.1
                              | tok _ => exact hown.1
                              | any => cases hsol
                              | nil => cases hsol
                            rw [ha']
                            split
                            · exact hsome
                            · simpa using hsome
                  · cases hv
                · rename_i hmx1
                  obtain ⟨rfl, rfl⟩ := mxNone (by simpa using hmx1)
                  cases hv
                  simp only [bound, Option.some.injEq] at hmb
                  subst hmb
                  have hH := bound_spec (P := P) (w := w) rhi hhb hcap .sliceAcap
                  have hhl : hh ≤ xs.length := by
                    cases chi with
                    | none => simp only at hH; omega
                    | some c => exact hH.2
                  refine fin l hh cap _ hL.2 hhl (by omega) (Nat.le_refl _) (run_bounds rfl ?_ ?_) ?_
                  · cases chi with
                    | none => exact hH
                    | some c => exact hH.1
                  · cases clo with
                    | none => exact hL.1
                    | some c => exact hL.1
                  · intro a' ha'
                    by_cases hc1 : l = 0 ∧ hh = xs.length
                    · rw [if_pos hc1]
                      obtain ⟨rfl, rfl⟩ := hc1
                      have : a' = a := by
                        rw [ha']
                        split
                        · rfl
                        · cases a with
                          | none => rfl
                          | some p => simp [Addr.add]
                      subst this
                      simpa using hown
                    · rw [if_neg hc1]
                      by_cases hc2 : own = .full ∧ hh = xs.length
                      · rw [if_pos hc2]
                        obtain ⟨rfl, rfl⟩ := hc2
                        obtain ⟨h5, h6⟩ := hown
                        refine ⟨?_, by omega⟩
                        rw [ha']
                        split
                        · exact h5
                        · simpa using h5
                      · rw [if_neg hc2]
                        by_cases hc3 : own = .nil
                        · subst hc3
                          obtain ⟨h5, h6, h7⟩ := hown
                          exact absurd ⟨by have := hL.2; omega, by omega⟩ hc1
                        · rw [if_neg hc3]
                          have hsome : a.isSome = true := by
                            cases own with
                            | any => exact hown
                            | nil => exact absurd rfl hc3
                            | full => exact hown.1
                            | tok _ => exact hown.1
                          show a'.isSome = true
                          rw [ha']
                          split
                          · exact hsome
                          · simpa using hsome
        · cases ht
    | raw t0 z n =>
      simp only at hv
      split at hv
      · cases hv
      · rename_i hcond
        simp only [not_or, Bool.not_eq_true, ne_eq, Decidable.not_not] at hcond
        obtain ⟨hm, ⟨rfl, hznz⟩, htk⟩ := hcond
        obtain ⟨rfl, rfl⟩ := mxNone hm
        simp only [Rep] at hrx
        obtain ⟨T, hT, hval⟩ := hrx
        have htop : T.top = 0 := by
          have h1 : (g.tk.map (·.top))[t0]? = some 0 := by rw [hs.tk]; exact htk
          rw [List.getElem?_map, hT] at h1
          simpa using h1
        obtain ⟨rfl, hcap, hTs⟩ := hval htop
        split at hv
        · rename_i hhb hlb
          cases hv
          split at ht
          · simp only [beq_iff_eq] at ht; exact absurd ht hznz
          · rename_i e hu
            simp only [Bool.and_eq_true, beq_iff_eq, bne_iff_ne, ne_eq] at ht
            have hH := bound_spec (P := P) (w := w) rhi hhb (Nat.zero_le T.cap) .sliceAcap
            have hL := loMatch (code := .sliceB) hlb
            have hb : (Instr.sliceBounds true n T.cap clo chi none).run P w = .ok (0, 0, T.cap) w := by
              refine run_bounds rfl ?_ ?_
              · cases chi with
                | none => exact hH
                | some c => exact hH.1
              · cases clo with
                | none => rfl
                | some c => exact hL.1
            have hT0 := hs.toks t0 T hT
            refine OpRes.val hs (cv := .slice (some T.a) 0 T.cap) ?_ ?_
            · simp only [Instr.sliceAt, Sem.run_bind, run_underlying hu, Result.andThen_ok, Instr.slice, hb, run_sizeOf ht.1, Sem.run_pure, Nat.zero_mul, Option.map_some, Nat.sub_zero]
              congr 3
              split <;> simp [Addr.add]
            · simp only [Rep]
              exact ⟨some T.a, T.cap, [], rfl, Nat.zero_le _, rfl, by simp [RepL], by simp, ⟨fun _ => hT0.spot, fun j c hj => by simp [flat] at hj⟩, ⟨rfl, T, hT, Nat.zero_le _, fun _ => ⟨rfl, rfl, hTs.symm⟩⟩⟩
          · cases ht
        · cases hv
    | msl i off z n =>
      simp only at hv
      split at hv
      · cases hv
      · rename_i hcond
        simp only [not_or, Bool.not_eq_true, ne_eq, Decidable.not_not] at hcond
        obtain ⟨hm, rfl, hznz⟩ := hcond
        obtain ⟨rfl, rfl⟩ := mxNone hm
        simp only [Rep] at hrx
        obtain ⟨b, a, cap, hbl, rfl, hcap, ha⟩ := hrx
        split at hv
        · cases hv
        · rename_i hh hhb
          split at hv
          · cases hv
          · rename_i l hlb
            cases hv
            split at ht
            · simp only [beq_iff_eq] at ht; exact absurd ht hznz
            · rename_i e hu
              simp only [Bool.and_eq_true, beq_iff_eq, bne_iff_ne, ne_eq] at ht
              have hH := bound_spec (P := P) (w := w) rhi hhb hcap .sliceAcap
              have hL := loMatch (code := .sliceB) hlb
              have hle : hh ≤ n := by
                cases chi with
                | none => simp only at hH; omega
                | some c => exact hH.2
              have hrb : (Instr.sliceBounds true n cap clo chi none).run P w = .ok (l, hh, cap) w := by
                refine run_bounds rfl ?_ ?_
                · cases chi with
                  | none => exact hH
                  | some c => exact hH.1
                · cases clo with
                  | none => exact hL.1
                  | some c => exact hL.1
              have hll := hL.2
              refine OpRes.val hs (cv := .slice (if cap = l then some a else (some a).map (·.add (l * z))) (hh - l) (cap - l)) ?_ ?_
              · simp only [Instr.sliceAt, Sem.run_bind, run_underlying hu, Result.andThen_ok, Instr.slice, hrb, run_sizeOf ht.1, Sem.run_pure]
              · simp only [Rep]
                by_cases hc : cap = l
                · rw [if_pos hc]
                  exact ⟨b, a, cap - l, hbl, rfl, by omega, fun h0 => by omega⟩
                · rw [if_neg hc]
                  refine ⟨b, a.add (l * z), cap - l, hbl, rfl, by omega, fun _ => ?_⟩
                  rw [ha (by omega), addr_add]
            · cases ht
    | _ => simp at hv
  · cases h
end
end Ab
