/- Addresses, indexes, slices, tuples, conversions. No condition. -/
import Derived.Test.YtndlggjnfabdoaaGreatDoorAb04
set_option linter.all false
namespace Ab
open Go
section
variable {P : Program} {L : Link} {C : CodeR} {g : Gh} {s : St} {w : World} {ρ : Operand → Value} {ev : Opd → AV}

theorem un_sound (hs : StR L.toLk C g s w) (he : Evs L g w ρ ev) {o : Oper} {op : UnOp} {t : TypeId} {x : Operand} {x' : Opd} (ho : o.op = .unOp op t x) (hx : odOk L x x' = true)
    {r : AV × St} (h : opA ev s (.un op x') = some r) : OpRes P L C g s w r ((execOp ρ o).run P w) := by
  simp only [opA, valStep] at h
  split at h
  · rename_i v hv
    cases h
    obtain ⟨cv, h1, h2⟩ := unA_sound (P := P) (he.rep _ _ hx) hv
    exact OpRes.val hs (cv := cv) (by simp [execOp, ho, h1]) h2
  · cases h

theorem strOf_spec : ∀ {xs : List AV} {b : List UInt8}, strOf xs = some b → ∃ ns : List Int, xs = ns.map (AV.int .u8) ∧ b = ns.map fun n => UInt8.ofNat n.toNat
  | [], b, h => by simp [strOf] at h; exact ⟨[], rfl, by simp [h]⟩
  | x :: xs, b, h => by
    cases x with
    | int k n =>
      cases k <;> simp only [strOf] at h <;> first | (cases h; done) | skip
      split at h
      · rename_i r hr
        cases h
        obtain ⟨ns, rfl, rfl⟩ := strOf_spec hr
        exact ⟨n :: ns, rfl, rfl⟩
      · cases h
    | _ => simp [strOf] at h

theorem repL_ints {L : Lk} {g : Gh} {w : World} {k : IntKind} : ∀ {ns : List Int} {vs : List Value}, RepL L g w (ns.map (AV.int k)) vs → vs = ns.map (Value.int k)
  | [], vs, h => by simpa [RepL] using h
  | n :: ns, vs, h => by
    simp only [List.map_cons, RepL] at h
    obtain ⟨v, r, rfl, h1, h2⟩ := h
    simp only [Rep] at h1
    subst h1
    rw [repL_ints h2]; rfl

theorem foldl_push (ns : List Int) : ∀ r : List UInt8, ns.foldl (fun (r : ByteArray) n => r.push (UInt8.ofNat n.toNat)) ⟨r.toArray⟩ = ⟨(r ++ ns.map fun n => UInt8.ofNat n.toNat).toArray⟩ := by
  induction ns with
  | nil => intro r; simp
  | cons n ns ih =>
    intro r
    simp only [List.foldl_cons, List.map_cons]
    have : (ByteArray.push ⟨r.toArray⟩ (UInt8.ofNat n.toNat)) = ⟨(r ++ [UInt8.ofNat n.toNat]).toArray⟩ := by
      apply ByteArray.ext; simp [ByteArray.push]
    rw [this, ih]; simp

theorem conv_sound (hs : StR L.toLk C g s w) (he : Evs L g w ρ ev) {o : Oper} {a b : TypeId} {c : CV} {x : Operand} {x' : Opd} (ho : o.op = .convert a b x) (hx : odOk L x x' = true) (hc : convOk P a b c = true)
    {r : AV × St} (h : opA ev s (.conv c x') = some r) : OpRes P L C g s w r ((execOp ρ o).run P w) := by
  have hr := he.rep _ _ hx
  simp only [opA, valStep] at h
  split at h
  · rename_i v hv
    cases h
    unfold convA at hv
    unfold convOk at hc
    split at hv
    · rename_i k k' n hev
      cases hv
      rw [hev] at hr
      simp only [Rep] at hr
      simp only at hc
      split at hc
      · rename_i d k2 h1 h2
        simp only [beq_iff_eq] at hc
        subst hc
        refine OpRes.val hs (cv := .int k (k.wrap n)) ?_ (by simp [Rep])
        simp [execOp, ho, convert, run_underlying h1, run_underlying h2, hr, Conv.intToInt]
      · cases hc
    · rename_i l hev
      cases hv
      rw [hev] at hr
      have hr' := hr
      simp only [Rep] at hr
      simp only at hc
      split at hc
      · rename_i h1 h2
        refine OpRes.val hs (cv := ρ x) ?_ hr'
        simp [execOp, ho, convert, run_underlying h1, run_underlying h2, hr]
      · cases hc
    · rename_i l hev
      cases hv
      rw [hev] at hr
      simp only [Rep] at hr
      simp only at hc
      split at hc
      · rename_i e h1 h2
        split at hc
        · rename_i h3
          obtain ⟨cap, hcap⟩ : ∃ cap, cap = (Question.appendCap l.length 0 e).cut (w.tape w.drawn (.appendCap l.length 0 e)) := ⟨_, rfl⟩
          have hge : l.length ≤ cap := by rw [hcap]; simp [Question.cut]
          obtain ⟨cs, hcs⟩ : ∃ cs : Array Value, cs = (l.map fun q => Value.int .u8 q.toNat).toArray ++ Array.replicate (cap - l.length) (.int .u8 0) := ⟨_, rfl⟩
          have hsz : cs.size = cap := by rw [hcs]; simp; omega
          have hnew := hs.newImm (c := cs) (e := e) (fz := (cap, cap + 1)) (w' := { w with drawn := w.drawn + 1, heap := w.heap.push (.cells cs e (cap, cap + 1)) }) rfl ⟨rfl, rfl, rfl⟩ l.length
          refine ⟨_, _, .value (.slice (some ⟨w.heap.size, 0, none⟩) l.length cap), _, ?_, .inl rfl, ?_, hnew.1, hnew.2⟩
          · simp only [execOp, ho, convert, Sem.run_bind, run_underlying h1, run_underlying h2, hr, Result.andThen_ok, run_underlying h3, Conv.stringToBytes, run_choose, Question.forced, Bool.false_eq_true, if_false, newRow, run_newObj, Sem.run_pure]
            have e1 : (⟨l.toArray⟩ : ByteArray).size = l.length := by simp [ByteArray.size]
            have e2 : ((⟨l.toArray⟩ : ByteArray).data.map fun b => Value.int .u8 b.toNat) ++ Array.replicate (cap - l.length) (.int .u8 0) = cs := by rw [hcs]; simp
            simp only [e1, ← hcap, e2, markStringish, Sem.run_bind, run_shape, Result.andThen_ok]
            have e3 : World.shape? { w with drawn := w.drawn + 1, heap := w.heap.push (.cells cs e) } w.heap.size = some (e, cs.size) := by
              simp [World.shape?]
            have e4 : ({ w with drawn := w.drawn + 1, heap := w.heap.push (.cells cs e) } : World).freeze ⟨w.heap.size, cs.size, none⟩ 1 = { w with drawn := w.drawn + 1, heap := w.heap.push (.cells cs e (cap, cap + 1)) } := by
              simp only [World.freeze]
              rw [if_neg (by decide)]
              congr 1
              apply Array.ext_getElem?
              intro i
              rw [Array.getElem?_modify]
              by_cases hi : w.heap.size = i
              · subst hi; simp [hsz]
              · simp [hi, Array.getElem?_push, Ne.symm hi]
            rw [e3]
            simp only [run_freeze, Result.andThen_ok, e4]
          · simp only [Rep]
            have hfl : flat (l.map fun q => Value.int .u8 q.toNat) = l.map fun q => Value.int .u8 q.toNat := flat_map_one _ (fun _ => rfl) l
            refine ⟨some ⟨w.heap.size, 0, none⟩, cap, l.map fun q => Value.int .u8 q.toNat, by simp [bytesOf], by simpa [bytesOf] using hge, bytesOf_untok l, strBytes_rep l, ?_, ⟨fun _ => rfl, ?_⟩, rfl⟩
            · intro u hu; rw [List.mem_map] at hu; obtain ⟨q, _, rfl⟩ := hu
              exact ⟨rfl, fun c hc => by simp [Value.cells] at hc; subst hc; trivial⟩
            · rw [hfl]
              refine lies_new (g := g) (tk := g.tk) (w' := { w with drawn := w.drawn + 1, heap := w.heap.push (.cells cs e (cap, cap + 1)) }) (c := cs) (e := e) (fz := (cap, cap + 1)) rfl ?_ (by simp)
              rw [hcs]; simp
        · cases hc
      · cases hc
    · rename_i own xs hev
      rw [hev] at hr
      simp only [Rep] at hr
      obtain ⟨a', cap, vs, hρ, hcap, hun, hrl, hsz, hl, ho'⟩ := hr
      simp only [Option.map_eq_some_iff] at hv
      obtain ⟨b', hb', rfl⟩ := hv
      obtain ⟨ns, rfl, rfl⟩ := strOf_spec hb'
      have hvs := repL_ints hrl
      subst hvs
      simp only at hc
      split at hc
      · rename_i e h1 h2
        split at hc
        · rename_i h3
          refine OpRes.val hs (cv := .string ⟨(ns.map fun n => UInt8.ofNat n.toNat).toArray⟩) ?_ (by simp [Rep])
          simp only [execOp, ho, convert, Sem.run_bind, run_underlying h1, run_underlying h2, hρ, Result.andThen_ok]
          have hgo : (Conv.bytesToString (.slice a' (ns.map (AV.int .u8)).length cap)).run P w = .ok (.string ⟨(ns.map fun n => UInt8.ofNat n.toNat).toArray⟩) w := by
            cases a' with
            | none =>
              have : ns = [] := by simpa using hl.1
              subst this
              simp only [Conv.bytesToString, Sem.run_pure]; rfl
            | some p =>
              have hld := run_loadCells_list (P := P) w p (flat (ns.map (Value.int .u8))) (lies_at hl.2 rfl (spot_flat hl.1 (by simp)) rfl rfl)
              have hfl : flat (ns.map (Value.int .u8)) = ns.map (Value.int .u8) := flat_map_one _ (fun _ => rfl) ns
              rw [hfl] at hld
              simp only [List.length_map] at hld
              have := run_bytesToString w p ns.length cap ns hld
              simp only [List.length_map]
              rw [this]
              have h0 := foldl_push ns []
              simp only [List.nil_append] at h0
              exact congrArg (fun q => Result.ok (Value.string q) w) h0
          rw [run_underlying h3]
          simp only [Result.andThen_ok, hgo, Sem.run_pure]
        · cases hc
      · cases hc
    · rename_i k n hev
      split at hv
      · rename_i hn
        cases hv
        rw [hev] at hr
        simp only [Rep] at hr
        simp only at hc
        split at hc
        · rename_i k' h1 h2
          refine OpRes.val hs (cv := .string ⟨[UInt8.ofNat n.toNat].toArray⟩) ?_ (by simp [Rep])
          have hva : Go.Utf8.valid n = true := by unfold Go.Utf8.valid; simp only [Bool.or_eq_true, Bool.and_eq_true, decide_eq_true_eq]; left; omega
          have he : Go.Utf8.encode n = ⟨[UInt8.ofNat n.toNat].toArray⟩ := by
            unfold Go.Utf8.encode
            simp only [hva, if_true]
            rw [if_pos (by omega)]
          simp [execOp, ho, convert, run_underlying h1, run_underlying h2, hr, Conv.intToString, he]
        · cases hc
      · cases hv
    · cases hv
  · cases h

theorem mkif_sound (hs : StR L.toLk C g s w) (he : Evs L g w ρ ev) {o : Oper} {t : TypeId} {u : Nat} {x : Operand} {x' : Opd} (ho : o.op = .makeInterface t x) (hx : odOk L x x' = true) (ht : L.tyOf u = t) {d : TypeDesc}
    (hu : P.underlying t = some d) (hd : (match d with | .interface _ => false | _ => true) = true) {r : AV × St} (h : opA ev s (.mkif u x') = some r) : OpRes P L C g s w r ((execOp ρ o).run P w) := by
  simp only [opA, Option.some.injEq] at h
  subst h
  refine OpRes.val hs (cv := .iface t (ρ x)) ?_ (by simp only [Rep]; exact ⟨_, by rw [ht], he.rep _ _ hx⟩)
  cases d <;> first | (cases hd; done) | simp [execOp, ho, Instr.makeInterface, run_underlying hu]

theorem mkfn_sound (hs : StR L.toLk C g s w) (he : Evs L g w ρ ev) {o : Oper} {f g' : Nat} {a c : Array Operand} {a' c' : List Opd} (ho : o.op = .makeFunc (.func f) a c) (hf : L.fnOf g' = f) (ha : odsOk L a.toList a' = true) (hc : odsOk L c.toList c' = true)
    {r : AV × St} (h : opA ev s (.mkfn g' a' c') = some r) : OpRes P L C g s w r ((execOp ρ o).run P w) := by
  simp only [opA, Option.some.injEq] at h
  subst h
  refine OpRes.val hs (cv := .func (.func f) (a.map ρ) (c.map ρ)) (by simp only [execOp, ho, Instr.makeFunc, Sem.run_bind, Sem.run_pure, Result.andThen_ok]) ?_
  simp only [Rep]
  refine ⟨a.toList.map ρ, c.toList.map ρ, ?_, he.reps ha, he.reps hc⟩
  rw [hf]
  congr 1
  · apply Array.ext'; simp
  · apply Array.ext'; simp

theorem mkmap_sound (hs : StR L.toLk C g s w) {o : Oper} {t : TypeId} (ho : o.op = .makeMap t none) {r : AV × St} (h : opA ev s .mkmap = some r) : OpRes P L C g s w r ((execOp ρ o).run P w) := by
  simp only [opA, Option.some.injEq] at h
  subst h
  have hp := hs.push (o := .map #[] 0) (ab := .amap []) (w' := { w with heap := w.heap.push (.map #[] 0) }) rfl same_push [] (by simp)
    (fun _ => ⟨#[], 0, by rw [push_new rfl], ⟨rfl, fun i k v e h => by simp at h⟩, ⟨fun x h => by simp at h, by simp⟩⟩)
  refine ⟨_, _, .value (.map (some w.heap.size)), _, by simp [execOp, ho, Instr.makeMap], .inl rfl, ?_, hp.1, hp.2⟩
  simp only [Rep]
  exact ⟨w.heap.size, by simp [← hs.bl], rfl⟩

theorem faddr_sound (hs : StR L.toLk C g s w) (he : Evs L g w ρ ev) {o : Oper} {t : TypeId} {f off n : Nat} {x : Operand} {x' : Opd} {fd : Field} (ho : o.op = .fieldAddr t x f) (hx : odOk L x x' = true)
    (hf : fieldOf P t f = some fd) (hoff : fd.offset = off) (hn : szOf P fd.type = some n) (hn0 : n ≠ 0) {r : AV × St} (h : opA ev s (.faddr off x') = some r) : OpRes P L C g s w r ((execOp ρ o).run P w) := by
  have hr := he.rep _ _ hx
  have hrun : ∀ (b q : Nat), ρ x = .pointer (some ⟨b, q, none⟩) → (execOp ρ o).run P w = .ok (.value (.pointer (some ⟨b, q + off, none⟩))) w := by
    intro b q hq
    unfold fieldOf at hf
    split at hf
    · rename_i fs hu
      simp only [execOp, ho, Instr.fieldAt, Sem.run_bind, run_underlying hu, Result.andThen_ok, hf, hq, Instr.sureAddr, Sem.run_pure, fieldPlace, run_sizeOf hn, Sem.run_ite]
      rw [if_neg hn0]
      simp [hoff, addr_add]
    · cases hf
  simp only [opA] at h
  split at h
  · rename_i i q hev
    cases h
    rw [hev] at hr
    simp only [Rep] at hr
    obtain ⟨b, hb, hq⟩ := hr
    exact OpRes.val hs (hrun b q hq) (by simp only [Rep]; exact ⟨b, hb, rfl⟩)
  · rename_i y q hev
    cases h
    rw [hev] at hr
    simp only [Rep] at hr
    obtain ⟨b, o2, xv, hq, h1, h2, h3⟩ := hr
    exact OpRes.val hs (hrun b (o2 + q) hq) (by simp only [Rep]; exact ⟨b, o2, xv, by rw [Nat.add_assoc], h1, h2, h3⟩)
  · cases h

theorem run_part {t : TypeId} {agg : Bool} {n off : Nat} (ha : isAggP P t = some agg) (hn : szOf P t = some n) (h1 : agg = true ∨ n = 1) {cs : List AV} {vs : Array Value} (hr : RepL L.toLk g w cs vs.toList)
    (ho : ∀ u ∈ vs.toList, oneCell u) {x : AV} (hx : partOf agg n off cs = some x) : ∃ cv, (part t vs off).run P w = .ok cv w ∧ Rep L.toLk g w x cv := by
  unfold partOf at hx
  unfold part
  simp only [Sem.run_bind, run_isAgg ha, Result.andThen_ok]
  cases agg with
  | true =>
    simp only [if_true] at hx ⊢
    split at hx
    · cases hx
      refine ⟨.agg (vs.extract off (off + n)), by simp [run_sizeOf hn], ?_⟩
      simp only [Rep]
      refine ⟨(vs.toList.drop off).take n, ?_, (hr.drop off).take n, fun u hu => ho u (List.mem_of_mem_drop (List.mem_of_mem_take hu))⟩
      congr 1
      apply Array.ext'
      simp [List.extract_eq_take_drop]
    · cases hx
  | false =>
    simp only [Bool.false_eq_true, if_false] at hx ⊢
    obtain ⟨v, hv, hrv⟩ := hr.get hx
    have : vs[off]? = some v := by simpa using hv
    exact ⟨v, by simp [this], hrv⟩

theorem field_sound (hs : StR L.toLk C g s w) (he : Evs L g w ρ ev) {o : Oper} {t : TypeId} {f off n : Nat} {agg : Bool} {x : Operand} {x' : Opd} {fd : Field} (ho : o.op = .field t x f) (hx : odOk L x x' = true)
    (hf : fieldOf P t f = some fd) (hoff : fd.offset = off) (ha : isAggP P fd.type = some agg) (hn : szOf P fd.type = some n) (h1 : agg = true ∨ n = 1) {r : AV × St} (h : opA ev s (.field off agg n x') = some r) :
    OpRes P L C g s w r ((execOp ρ o).run P w) := by
  have hr := he.rep _ _ hx
  simp only [opA] at h
  split at h
  · rename_i cs hev
    simp only [valStep] at h
    split at h
    · rename_i v hv
      cases h
      rw [hev] at hr
      simp only [Rep] at hr
      obtain ⟨vs, hρ, hrl, hone⟩ := hr
      obtain ⟨cv, h2, h3⟩ := run_part (P := P) (vs := vs.toArray) ha hn h1 (by simpa using hrl) (by simpa using hone) hv
      refine OpRes.val hs (cv := cv) ?_ h3
      unfold fieldOf at hf
      split at hf
      · rename_i fs hu
        simp only [execOp, ho, Instr.field, Sem.run_bind, run_underlying hu, Result.andThen_ok, hf, hρ, asAgg, Sem.run_pure, hoff, h2]
      · cases hf
    · cases h
  · cases h

theorem idx_spec {i : AV} {n k : Nat} (h : idx i n = some k) : ∃ q m, i = .int q m ∧ 0 ≤ m ∧ m < n ∧ k = m.toNat ∧ k < n := by
  unfold idx at h
  split at h
  · rename_i q m
    split at h
    · rename_i hc; cases h; exact ⟨q, m, rfl, hc.1, hc.2, rfl, by omega⟩
    · cases h
  · cases h

theorem lies_part {g : Gh} {w : World} {b o : Nat} {cs : List Value} (h : Lies g w b o cs) (k n : Nat) : Lies g w b (o + k) ((cs.drop k).take n) := by
  intro j c hj
  rw [List.getElem?_take] at hj
  split at hj
  · rw [List.getElem?_drop] at hj
    have := h _ _ hj
    rwa [← Nat.add_assoc] at this
  · cases hj

theorem flat_elem {sz : Nat} {vs : List Value} (h : ∀ u ∈ vs, u.cells.size = sz) {k : Nat} {v : Value} (hk : vs[k]? = some v) : ((flat vs).drop (k * sz)).take sz = v.cells.toList := by
  have hlt := (List.getElem?_eq_some_iff.1 hk).1
  rw [flat_drop h k (Nat.le_of_lt hlt)]
  have hd : vs.drop k = v :: vs.drop (k + 1) := by
    rw [List.drop_eq_getElem_cons hlt]
    congr 1
    have := (List.getElem?_eq_some_iff.1 hk).2
    exact this
  rw [hd]
  have : flat (v :: vs.drop (k + 1)) = v.cells.toList ++ flat (vs.drop (k + 1)) := by simp [flat]
  rw [this]
  have hv := h v (List.mem_of_getElem? hk)
  exact List.take_left' (by simpa using hv)

theorem iaddr_sound (hs : StR L.toLk C g s w) (he : Evs L g w ρ ev) {o : Oper} {t : TypeId} {sz : Nat} {x i : Operand} {x' i' : Opd} (ho : o.op = .indexAddr t x i) (hx : odOk L x x' = true) (hi : odOk L i i' = true)
    (ht : elemIs P t sz = true) {r : AV × St} (h : opA ev s (.iaddr sz x' i') = some r) : OpRes P L C g s w r ((execOp ρ o).run P w) := by
  have hrx := he.rep _ _ hx
  have hri := he.rep _ _ hi
  unfold elemIs at ht
  split at ht
  · rename_i e hu
    simp only [beq_iff_eq] at ht
    have hrun : ∀ (b q len cap k : Nat) (kk : IntKind) (m : Int), ρ x = .slice (some ⟨b, q, none⟩) len cap → ρ i = .int kk m → 0 ≤ m → m < len → k = m.toNat →
        (execOp ρ o).run P w = .ok (.value (.pointer (some ⟨b, q + k * sz, none⟩))) w := by
      intro b q len cap k kk m h1 h2 h3 h4 h5
      simp only [execOp, ho, Instr.indexAt, h1, h2, asIntOf, Sem.run_bind, Sem.run_pure, Result.andThen_ok, run_underlying hu]
      rw [if_pos ⟨h3, h4⟩]
      simp [run_sizeOf ht, addr_add, h5]
    simp only [opA] at h
    split at h
    · rename_i own z xs hev
      split at h
      · cases h
      · rename_i hz
        simp only [ne_eq, Decidable.not_not] at hz
        subst hz
        split at h
        · rename_i k hk
          cases h
          obtain ⟨kk, m, him, h0, hm, hkm, hlt⟩ := idx_spec hk
          rw [hev] at hrx
          rw [him] at hri
          simp only [Rep] at hrx hri
          obtain ⟨a, cap, vs, hρ, hcap, hun, hrl, hsz, hl, hown⟩ := hrx
          obtain ⟨y, hy⟩ : ∃ y, xs[k]? = some y := ⟨xs[k], List.getElem?_eq_getElem hlt⟩
          obtain ⟨v, hv, hrv⟩ := hrl.get hy
          cases a with
          | none => rw [hl.1] at hlt; simp at hlt
          | some p =>
            obtain ⟨pb, po, ps⟩ := p
            obtain ⟨hsp, hl⟩ := hl
            have hsp := hsp (by rintro rfl; simp at hlt)
            simp only at hsp
            subst hsp
            refine OpRes.val hs (hrun pb po _ cap k kk m hρ hri h0 hm hkm) ?_
            simp only [Rep, List.getD_eq_getElem?_getD, hy, Option.getD_some]
            refine ⟨pb, po + k * z, v, rfl, ?_, hrv, ?_⟩
            · have := congrArg (fun l => l[k]?) hun
              simp only [AV.untokL_eq, List.getElem?_map, hy, Option.map_some, Option.some.injEq] at this
              exact this
            · have := lies_part hl (k * z) z
              rwa [flat_elem (fun u hu => (hsz u hu).1) hv] at this
        · cases h
    · rename_i b off z n hev
      split at h
      · cases h
      split at h
      · rename_i k hk
        cases h
        obtain ⟨kk, m, him, h0, hm, hkm, hlt⟩ := idx_spec hk
        rw [hev] at hrx
        rw [him] at hri
        simp only [Rep] at hrx hri
        obtain ⟨b', a, cap, hb', hρ, hcap, ha⟩ := hrx
        rw [(ha (by omega)).1] at hρ
        exact OpRes.val hs (hrun b' off _ cap k kk m hρ hri h0 hm hkm) (by simp only [Rep]; exact ⟨b', hb', rfl⟩)
      · cases h
    · cases h
  · cases ht

theorem aaddr_sound (hs : StR L.toLk C g s w) (he : Evs L g w ρ ev) {o : Oper} {t e : TypeId} {sz len : Nat} {x i : Operand} {x' i' : Opd} (ho : o.op = .indexAddr t x i) (hx : odOk L x x' = true) (hi : odOk L i i' = true)
    (hu : P.underlying t = some (.array len e)) (ht : szOf P e = some sz) {r : AV × St} (h : opA ev s (.aaddr sz len x' i') = some r) : OpRes P L C g s w r ((execOp ρ o).run P w) := by
  have hrx := he.rep _ _ hx
  have hri := he.rep _ _ hi
  have hrun : ∀ (b q k : Nat) (kk : IntKind) (m : Int), ρ x = .pointer (some ⟨b, q, none⟩) → ρ i = .int kk m → 0 ≤ m → m < len → k = m.toNat →
      (execOp ρ o).run P w = .ok (.value (.pointer (some ⟨b, q + k * sz, none⟩))) w := by
    intro b q k kk m h1 h2 h3 h4 h5
    simp only [execOp, ho, Instr.indexAt, h1, h2, asIntOf, Sem.run_bind, Sem.run_pure, Result.andThen_ok, run_underlying hu, Instr.sureAddr]
    rw [if_pos ⟨h3, h4⟩]
    simp [run_sizeOf ht, addr_add, h5]
  simp only [opA] at h
  split at h
  · rename_i b off hev
    split at h
    · rename_i k hk
      cases h
      obtain ⟨kk, m, him, h0, hm, hkm, hlt⟩ := idx_spec hk
      rw [hev] at hrx
      rw [him] at hri
      simp only [Rep] at hrx hri
      obtain ⟨b', hb', hρ⟩ := hrx
      exact OpRes.val hs (hrun b' off k kk m hρ hri h0 hm hkm) (by simp only [Rep]; exact ⟨b', hb', rfl⟩)
    · cases h
  · rename_i y off hev
    split at h
    · rename_i k hk
      cases h
      obtain ⟨kk, m, him, h0, hm, hkm, hlt⟩ := idx_spec hk
      rw [hev] at hrx
      rw [him] at hri
      simp only [Rep] at hrx hri
      obtain ⟨b', o2, xv, hρ, h1, h2, h3⟩ := hrx
      exact OpRes.val hs (hrun b' (o2 + off) k kk m hρ hri h0 hm hkm) (by simp only [Rep]; exact ⟨b', o2, xv, by rw [Nat.add_assoc], h1, h2, h3⟩)
    · cases h
  · cases h

theorem index_sound (hs : StR L.toLk C g s w) (he : Evs L g w ρ ev) {o : Oper} {t : TypeId} {x i : Operand} {x' i' : Opd} (ho : o.op = .index t x i) (hx : odOk L x x' = true) (hi : odOk L i i' = true)
    (hu : P.underlying t = some .string) {r : AV × St} (h : opA ev s (.index x' i') = some r) : OpRes P L C g s w r ((execOp ρ o).run P w) := by
  have hrx := he.rep _ _ hx
  have hri := he.rep _ _ hi
  simp only [opA] at h
  split at h
  · rename_i b hev
    split at h
    · rename_i k hk
      cases h
      obtain ⟨kk, m, him, h0, hm, hkm, hlt⟩ := idx_spec hk
      rw [hev] at hrx
      rw [him] at hri
      simp only [Rep] at hrx hri
      have hget : (⟨b.toArray⟩ : ByteArray)[m.toNat]? = some (b.getD k 0) := by
        rw [← hkm]
        have hlt' : k < (⟨b.toArray⟩ : ByteArray).size := by simpa [ByteArray.size] using hlt
        rw [getElem?_pos (⟨b.toArray⟩ : ByteArray) k hlt']
        simp [List.getD_eq_getElem?_getD, hlt, ByteArray.getElem_eq_getElem_data]
      refine OpRes.val hs (cv := .int .u8 (b.getD k 0).toNat) ?_ (by simp [Rep])
      simp only [execOp, ho, Instr.index, hri, asIntOf, Sem.run_bind, Sem.run_pure, Result.andThen_ok, run_underlying hu, hrx]
      rw [if_pos h0, hget]
      rfl
    · cases h
  · cases h

theorem aindex_sound (hs : StR L.toLk C g s w) (he : Evs L g w ρ ev) {o : Oper} {t e : TypeId} {sz len : Nat} {agg : Bool} {x i : Operand} {x' i' : Opd} (ho : o.op = .index t x i) (hx : odOk L x x' = true) (hi : odOk L i i' = true)
    (hu : P.underlying t = some (.array len e)) (ha : isAggP P e = some agg) (ht : szOf P e = some sz) (h1 : agg = true ∨ sz = 1) {r : AV × St} (h : opA ev s (.aindex sz len agg x' i') = some r) : OpRes P L C g s w r ((execOp ρ o).run P w) := by
  have hrx := he.rep _ _ hx
  have hri := he.rep _ _ hi
  simp only [opA] at h
  split at h
  · rename_i cs hev
    split at h
    · rename_i k hk
      simp only [valStep] at h
      split at h
      · rename_i v hv
        cases h
        obtain ⟨kk, m, him, h0, hm, hkm, hlt⟩ := idx_spec hk
        rw [hev] at hrx
        rw [him] at hri
        simp only [Rep] at hrx hri
        obtain ⟨vs, hρ, hrl, hone⟩ := hrx
        obtain ⟨cv, h2, h3⟩ := run_part (P := P) (vs := vs.toArray) ha ht h1 (by simpa using hrl) (by simpa using hone) hv
        refine OpRes.val hs (cv := cv) ?_ h3
        simp only [execOp, ho, Instr.index, hri, asIntOf, Sem.run_bind, Sem.run_pure, Result.andThen_ok, run_underlying hu, hρ]
        rw [if_pos ⟨h0, hm⟩]
        simp only [Sem.run_bind, run_sizeOf ht, Result.andThen_ok, ← hkm, h2]
      · cases h
    · cases h
  · cases h

theorem ext_sound (hs : StR L.toLk C g s w) (he : Evs L g w ρ ev) {o : Oper} {i : Nat} {x : Operand} {x' : Opd} (ho : o.op = .extract x i) (hx : odOk L x x' = true) {r : AV × St} (h : opA ev s (.ext x' i) = some r) : OpRes P L C g s w r ((execOp ρ o).run P w) := by
  have hr := he.rep _ _ hx
  simp only [opA] at h
  split at h
  · rename_i vs hev
    split at h
    · rename_i v hv
      cases h
      rw [hev] at hr
      simp only [Rep] at hr
      obtain ⟨us, hρ, hrl⟩ := hr
      obtain ⟨cv, h1, h2⟩ := hrl.get hv
      exact OpRes.val hs (cv := cv) (by simp [execOp, ho, hρ, Instr.extract, h1]) h2
    · cases h
  · cases h
end
end Ab

/- Slicing, maps, iterators over strings, type assertions, lengths. No condition. -/
namespace Ab
open Go
section
variable {P : Program} {L : Link} {C : CodeR} {g : Gh} {s : St} {w : World} {ρ : Operand → Value} {ev : Opd → AV}

theorem bound_spec {x : Option AV} {cx : Option Value} (hr : match x, cx with | none, none => True | some a, some c => Rep L.toLk g w a c | _, _ => False) {d m m' k : Nat} (h : bound x d m = some k) (hm : m ≤ m') (code : BoundsCode) :
    (match cx with | none => k = d | some c => (Instr.sliceBound c m' code).run P w = .ok k w ∧ k ≤ m) := by
  unfold bound at h
  cases x with
  | none => cases cx with
    | none => simpa using h.symm
    | some c => cases hr
  | some a =>
    cases cx with
    | none => cases hr
    | some c =>
      simp only at h hr ⊢
      cases a with
      | int q i =>
        simp only at h
        split at h
        · rename_i hc
          cases h
          simp only [Rep] at hr
          subst hr
          refine ⟨?_, by omega⟩
          simp only [Instr.sliceBound, asIntOf, Sem.run_bind, Sem.run_pure, Result.andThen_ok]
          rw [if_pos ⟨hc.1, by omega⟩]; rfl
        · cases h
      | _ => simp at h

theorem odo_rep (he : Evs L g w ρ ev) {x : Option Operand} {y : Option Opd} (h : odoOk L x y = true) : match (y.map ev), (x.map ρ) with | none, none => True | some a, some c => Rep L.toLk g w a c | _, _ => False := by
  cases x <;> cases y <;> simp [odoOk] at h ⊢
  exact he.rep _ _ h

theorem run_bounds {isSlice : Bool} {len cap l h m : Nat} {lo hi mx : Option Value}
    (h1 : match mx with | none => m = cap | some c => (Instr.sliceBound c cap (if isSlice then .slice3Acap else .slice3Alen)).run P w = .ok m w)
    (h2 : match hi, mx with | some c, some _ => (Instr.sliceBound c m .slice3B).run P w = .ok h w | some c, none => (Instr.sliceBound c m (if isSlice then .sliceAcap else .sliceAlen)).run P w = .ok h w | none, none => h = len | none, some _ => False)
    (h3 : match lo with | none => l = 0 | some c => (Instr.sliceBound c h (if mx.isSome then .slice3C else .sliceB)).run P w = .ok l w) :
    (Instr.sliceBounds isSlice len cap lo hi mx).run P w = .ok (l, h, m) w := by
  unfold Instr.sliceBounds
  cases mx with
  | none =>
    simp only at h1 h2; subst h1
    cases hi with
    | none =>
      simp only at h2; subst h2
      cases lo with
      | none => simp only at h3; subst h3; simp
      | some c => simp at h3; simp [h3]
    | some c' =>
      cases lo with
      | none => simp only at h3; subst h3; simp [h2]
      | some c => simp at h3; simp [h2, h3]
  | some c'' =>
    cases hi with
    | none => exact h2.elim
    | some c' =>
      cases lo with
      | none => simp only at h3; subst h3; simp [h1, h2]
      | some c => simp at h3; simp [h1, h2, h3]

theorem extract_mk (b : List UInt8) (l h : Nat) : (⟨b.toArray⟩ : ByteArray).extract l h = ⟨((b.take h).drop l).toArray⟩ := by
  apply ByteArray.ext
  apply Array.ext'
  simp [ByteArray.data_extract, List.extract_eq_take_drop, List.drop_take]

theorem untokL_drop_take {xs : List AV} (h : AV.untokL xs = xs) (a b : Nat) : AV.untokL ((xs.take a).drop b) = (xs.take a).drop b := by
  rw [AV.untokL_eq] at h ⊢
  rw [List.map_drop, List.map_take, h]

theorem slice_sound (hs : StR L.toLk C g s w) (he : Evs L g w ρ ev) {o : Oper} {t : TypeId} {sz : Nat} {x : Operand} {x' : Opd} {lo hi mx : Option Operand} {lo' hi' mx' : Option Opd} (ho : o.op = .slice t x lo hi mx) (hx : odOk L x x' = true)
    (hlo : odoOk L lo lo' = true) (hhi : odoOk L hi hi' = true) (hmx : odoOk L mx mx' = true) (ht : sliceTOk P t sz = true)
    {r : AV × St} (h : opA ev s (.slice sz x' lo' hi' mx') = some r) : OpRes P L C g s w r ((execOp ρ o).run P w) := by
  have hrx := he.rep _ _ hx
  have rlo := odo_rep he hlo
  have rhi := odo_rep he hhi
  have rmx := odo_rep he hmx
  simp only [opA, valStep] at h
  split at h
  · rename_i v hv
    cases h
    generalize ev x' = u at hv hrx
    generalize lo'.map ev = alo at hv rlo
    generalize hi'.map ev = ahi at hv rhi
    generalize mx'.map ev = amx at hv rmx
    have exec : (execOp ρ o).run P w = ((Instr.sliceAt t (ρ x) (lo.map ρ) (hi.map ρ) (mx.map ρ)).run P w).andThen fun a w' => .ok (.value a) w' := by
      simp only [execOp, ho, Sem.run_bind]; rfl
    rw [exec]
    generalize ρ x = cx at hrx
    generalize lo.map ρ = clo at rlo
    generalize hi.map ρ = chi at rhi
    generalize mx.map ρ = cmx at rmx
    unfold sliceA at hv
    have loMatch : ∀ {code m k}, bound alo 0 m = some k → (match clo with | none => k = 0 | some c => (Instr.sliceBound c m code).run P w = .ok k w) ∧ k ≤ m := by
      intro code m k hb
      have := bound_spec (P := P) (w := w) rlo hb (Nat.le_refl _) code
      cases clo with
      | none => simp only at this; subst this; exact ⟨rfl, Nat.zero_le _⟩
      | some c => exact ⟨this.1, this.2⟩
    have mxNone : amx.isSome = false → cmx = none ∧ amx = none := by
      intro hm
      cases amx with
      | some a => cases hm
      | none => cases cmx with
        | none => exact ⟨rfl, rfl⟩
        | some c => exact rmx.elim
    unfold sliceTOk at ht
    cases u with
    | str b =>
      simp only at hv
      simp only [Rep] at hrx
      subst hrx
      split at hv
      · cases hv
      · rename_i hcond
        simp only [not_or, Bool.not_eq_true, ne_eq, Decidable.not_not] at hcond
        obtain ⟨rfl, rfl⟩ := mxNone hcond.1
        split at ht
        · rename_i hu
          split at hv
          · cases hv
          · rename_i hh hhb
            split at hv
            · cases hv
            · rename_i l hlb
              cases hv
              have hH := bound_spec (P := P) (w := w) rhi hhb (Nat.le_refl _) .sliceAlen
              have hL := (loMatch (code := .sliceB) hlb).1
              have hrunb : (Instr.sliceBounds false b.length b.length clo chi none).run P w = .ok (l, hh, b.length) w := by
                refine run_bounds rfl ?_ ?_
                · cases chi with
                  | none => exact hH
                  | some c => exact hH.1
                · cases clo with
                  | none => exact hL
                  | some c => exact hL
              refine OpRes.val hs (cv := .string ⟨((b.take hh).drop l).toArray⟩) ?_ (by simp [Rep])
              have hsz : (⟨b.toArray⟩ : ByteArray).size = b.length := by simp [ByteArray.size]
              simp only [Instr.sliceAt, Sem.run_bind, run_underlying hu, Result.andThen_ok, Instr.slice, Option.isSome_none, Bool.false_eq_true, if_false, hsz, hrunb, Sem.run_pure, extract_mk]
        · simp [hcond.2] at ht
        · cases ht
    | sl own z xs =>
      simp only at hv
      split at hv
      · cases hv
      · rename_i hz
        simp only [ne_eq, not_or, Decidable.not_not] at hz
        obtain ⟨rfl, hznz⟩ := hz
        simp only [Rep] at hrx
        obtain ⟨a, cap, vs, rfl, hcap, hun, hrl, hsz, hl, hown⟩ := hrx
        have hsz1 : ∀ u ∈ vs, u.cells.size = z := fun u hu => (hsz u hu).1
        have hvl := hrl.length
        split at ht
        · simp only [beq_iff_eq] at ht; exact absurd ht hznz
        · rename_i e hu
          simp only [Bool.and_eq_true, beq_iff_eq, bne_iff_ne, ne_eq] at ht
          obtain ⟨hse, hz0⟩ := ht
          -- the result, for any bounds
          have fin : ∀ (l hh m : Nat) (own' : Own), l ≤ hh → hh ≤ xs.length → hh ≤ m → m ≤ cap → (Instr.sliceBounds true xs.length cap clo chi cmx).run P w = .ok (l, hh, m) w →
              (∀ a', (a' = if m = l then a else a.map (·.add (l * z))) → OwnOk g own' z a' (hh - l) (m - l)) →
              OpRes P L C g s w (.sl own' z ((xs.take hh).drop l), s) (((Instr.sliceAt t (.slice a xs.length cap) clo chi cmx).run P w).andThen fun a w' => .ok (.value a) w') := by
            intro l hh m own' h1 h2 h3 h4 hb ho'
            refine OpRes.val hs (cv := .slice (if m = l then a else a.map (·.add (l * z))) (hh - l) (m - l)) ?_ ?_
            · simp only [Instr.sliceAt, Sem.run_bind, run_underlying hu, Result.andThen_ok, Instr.slice, hb, run_sizeOf hse, Sem.run_pure]
            · simp only [Rep]
              have hlen : ((xs.take hh).drop l).length = hh - l := by rw [List.length_drop, List.length_take]; omega
              refine ⟨if m = l then a else a.map (·.add (l * z)), m - l, (vs.take hh).drop l, by rw [hlen], by rw [hlen]; omega, untokL_drop_take hun _ _, (hrl.take hh).drop l,
                fun u hu' => hsz u (List.mem_of_mem_take (List.mem_of_mem_drop hu')), ?_, by rw [hlen]; exact ho' _ rfl⟩
              cases a with
              | none =>
                have hx0 := hl.1
                subst hx0
                have hm0 : cap = 0 := hl.2
                simp only [List.length_nil] at h2
                have : m = l := by omega
                rw [if_pos this]
                exact ⟨by simp, by omega⟩
              | some p =>
                obtain ⟨hsp, hl⟩ := hl
                have hne : (xs.take hh).drop l ≠ [] → xs ≠ [] := by rintro h rfl; simp at h
                by_cases hml : m = l
                · rw [if_pos hml]
                  have hd : (vs.take hh).drop l = [] := List.drop_eq_nil_of_le (by rw [List.length_take]; omega)
                  rw [hd]
                  exact ⟨fun h => hsp (hne h), fun j c hj => by simp [flat] at hj⟩
                · rw [if_neg hml]
                  simp only [Option.map_some]
                  have hadd : ∀ n, (p.add n).block = p.block ∧ (p.add n).off = p.off + n ∧ (p.spot = none → (p.add n).spot = none) := by
                    intro n
                    unfold Addr.add
                    split
                    · rename_i h0; subst h0; exact ⟨rfl, rfl, fun h => h⟩
                    · exact ⟨rfl, rfl, fun _ => rfl⟩
                  obtain ⟨k1, k2, k3⟩ := hadd (l * z)
                  refine ⟨fun h => k3 (hsp (hne h)), ?_⟩
                  rw [k1, k2]
                  have e1 : flat ((vs.take hh).drop l) = ((flat vs).drop (l * z)).take ((hh - l) * z) := by
                    rw [List.drop_take, flat_drop hsz1 l (by omega), flat_take (fun u hu' => hsz1 u (List.mem_of_mem_drop hu')) (hh - l) (by rw [List.length_drop]; omega)]
                  rw [e1]
                  exact lies_part hl _ _
          split at hv
          · cases hv
          · rename_i m hmb
            split at hv
            · cases hv
            · rename_i hh hhb
              split at hv
              · cases hv
              · rename_i l hlb
                have hL := loMatch (code := if cmx.isSome then .slice3C else .sliceB) hlb
                split at hv
                · rename_i hmx1
                  -- three indexes
                  split at hv
                  · rename_i hc
                    obtain ⟨rfl, hsol, hhs⟩ := hc
                    cases hv
                    cases amx with
                    | none => cases hmx1
                    | some am =>
                      cases cmx with
                      | none => exact rmx.elim
                      | some cm =>
                        have hM := bound_spec (P := P) (w := w) (cx := some cm) rmx hmb hcap .slice3Acap
                        have hH := bound_spec (P := P) (w := w) rhi hhb (Nat.le_refl _) .slice3B
                        cases chi with
                        | none =>
                          cases ahi with
                          | some q => exact rhi.elim
                          | none => simp at hhs
                        | some ch =>
                          refine fin l m m .full hL.2 hM.2 (Nat.le_refl _) (by have := hM.2; omega) (run_bounds hM.1 hH.1 ?_) ?_
                          · cases clo with
                            | none => exact hL.1
                            | some c => exact hL.1
                          · intro a' ha'
                            refine ⟨?_, rfl⟩
                            have hsome : a.isSome = true := by
                              cases own with
                              | full => exact hown.1
                              | tok _ => exact hown.1
                              | any => cases hsol
                              | nil => cases hsol
                            rw [ha']
                            split
                            · exact hsome
                            · simpa using hsome
                  · cases hv
                · rename_i hmx1
                  obtain ⟨rfl, rfl⟩ := mxNone (by simpa using hmx1)
                  cases hv
                  simp only [bound, Option.some.injEq] at hmb
                  subst hmb
                  have hH := bound_spec (P := P) (w := w) rhi hhb hcap .sliceAcap
                  have hhl : hh ≤ xs.length := by
                    cases chi with
                    | none => simp only at hH; omega
                    | some c => exact hH.2
                  refine fin l hh cap _ hL.2 hhl (by omega) (Nat.le_refl _) (run_bounds rfl ?_ ?_) ?_
                  · cases chi with
                    | none => exact hH
                    | some c => exact hH.1
                  · cases clo with
                    | none => exact hL.1
                    | some c => exact hL.1
                  · intro a' ha'
                    by_cases hc1 : l = 0 ∧ hh = xs.length
                    · rw [if_pos hc1]
                      obtain ⟨rfl, rfl⟩ := hc1
                      have : a' = a := by
                        rw [ha']
                        split
                        · rfl
                        · cases a with
                          | none => rfl
                          | some p => simp [Addr.add]
                      subst this
                      simpa using hown
                    · rw [if_neg hc1]
                      by_cases hc2 : own = .full ∧ hh = xs.length
                      · rw [if_pos hc2]
                        obtain ⟨rfl, rfl⟩ := hc2
                        obtain ⟨h5, h6⟩ := hown
                        refine ⟨?_, by omega⟩
                        rw [ha']
                        split
                        · exact h5
                        · simpa using h5
                      · rw [if_neg hc2]
                        by_cases hc3 : own = .nil
                        · subst hc3
                          obtain ⟨h5, h6, h7⟩ := hown
                          exact absurd ⟨by have := hL.2; omega, by omega⟩ hc1
                        · rw [if_neg hc3]
                          have hsome : a.isSome = true := by
                            cases own with
                            | any => exact hown
                            | nil => exact absurd rfl hc3
                            | full => exact hown.1
                            | tok _ => exact hown.1
                          show a'.isSome = true
                          rw [ha']
                          split
                          · exact hsome
                          · simpa using hsome
        · cases ht
    | raw t0 z n =>
      simp only at hv
      split at hv
      · cases hv
      · rename_i hcond
        simp only [not_or, Bool.not_eq_true, ne_eq, Decidable.not_not] at hcond
        obtain ⟨hm, ⟨rfl, hznz⟩, htk⟩ := hcond
        obtain ⟨rfl, rfl⟩ := mxNone hm
        simp only [Rep] at hrx
        obtain ⟨T, hT, hval⟩ := hrx
        have htop : T.top = 0 := by
          have h1 : (g.tk.map (·.top))[t0]? = some 0 := by rw [hs.tk]; exact htk
          rw [List.getElem?_map, hT] at h1
          simpa using h1
        obtain ⟨rfl, hcap, hTs⟩ := hval htop
        split at hv
        · rename_i hhb hlb
          cases hv
          split at ht
          · simp only [beq_iff_eq] at ht; exact absurd ht hznz
          · rename_i e hu
            simp only [Bool.and_eq_true, beq_iff_eq, bne_iff_ne, ne_eq] at ht
            have hH := bound_spec (P := P) (w := w) rhi hhb (Nat.zero_le T.cap) .sliceAcap
            have hL := loMatch (code := .sliceB) hlb
            have hb : (Instr.sliceBounds true n T.cap clo chi none).run P w = .ok (0, 0, T.cap) w := by
              refine run_bounds rfl ?_ ?_
              · cases chi with
                | none => exact hH
                | some c => exact hH.1
              · cases clo with
                | none => rfl
                | some c => exact hL.1
            have hT0 := hs.toks t0 T hT
            refine OpRes.val hs (cv := .slice (some T.a) 0 T.cap) ?_ ?_
            · simp only [Instr.sliceAt, Sem.run_bind, run_underlying hu, Result.andThen_ok, Instr.slice, hb, run_sizeOf ht.1, Sem.run_pure, Nat.zero_mul, Option.map_some, Nat.sub_zero]
              congr 3
              split <;> simp [Addr.add]
            · simp only [Rep]
              exact ⟨some T.a, T.cap, [], rfl, Nat.zero_le _, rfl, by simp [RepL], by simp, ⟨fun _ => hT0.spot, fun j c hj => by simp [flat] at hj⟩, ⟨rfl, T, hT, Nat.zero_le _, fun _ => ⟨rfl, rfl, hTs.symm⟩⟩⟩
          · cases ht
        · cases hv
    | msl i off z n =>
      simp only at hv
      split at hv
      · cases hv
      · rename_i hcond
        simp only [not_or, Bool.not_eq_true, ne_eq, Decidable.not_not] at hcond
        obtain ⟨hm, rfl, hznz⟩ := hcond
        obtain ⟨rfl, rfl⟩ := mxNone hm
        simp only [Rep] at hrx
        obtain ⟨b, a, cap, hbl, rfl, hcap, ha⟩ := hrx
        split at hv
        · cases hv
        · rename_i hh hhb
          split at hv
          · cases hv
          · rename_i l hlb
            cases hv
            split at ht
            · simp only [beq_iff_eq] at ht; exact absurd ht hznz
            · rename_i e hu
              simp only [Bool.and_eq_true, beq_iff_eq, bne_iff_ne, ne_eq] at ht
              have hH := bound_spec (P := P) (w := w) rhi hhb hcap .sliceAcap
              have hL := loMatch (code := .sliceB) hlb
              have hle : hh ≤ n := by
                cases chi with
                | none => simp only at hH; omega
                | some c => exact hH.2
              have hrb : (Instr.sliceBounds true n cap clo chi none).run P w = .ok (l, hh, cap) w := by
                refine run_bounds rfl ?_ ?_
                · cases chi with
                  | none => exact hH
                  | some c => exact hH.1
                · cases clo with
                  | none => exact hL.1
                  | some c => exact hL.1
              have hll := hL.2
              refine OpRes.val hs (cv := .slice (if cap = l then some a else (some a).map (·.add (l * z))) (hh - l) (cap - l)) ?_ ?_
              · simp only [Instr.sliceAt, Sem.run_bind, run_underlying hu, Result.andThen_ok, Instr.slice, hrb, run_sizeOf ht.1, Sem.run_pure]
              · simp only [Rep]
                by_cases hc : cap = l
                · rw [if_pos hc]
                  exact ⟨b, a, cap - l, hbl, rfl, by omega, fun h0 => by omega⟩
                · rw [if_neg hc]
                  refine ⟨b, a.add (l * z), cap - l, hbl, rfl, by omega, fun _ => ?_⟩
                  obtain ⟨ha1, c0, e0, f0, q1, q2⟩ := ha (by omega)
                  refine ⟨by rw [ha1, addr_add], c0, e0, f0, q1, ?_⟩
                  rw [Nat.add_assoc, ← Nat.add_mul, show l + (cap - l) = cap by omega]
                  exact q2
            · cases ht
    | _ => simp at hv
  · cases h
end
end Ab

/- Maps, iterators over strings, type assertions, lengths, make in append, min and max; and all operations together. No condition. -/
namespace Ab
open Go
section
variable {P : Program} {L : Link} {C : CodeR} {g : Gh} {s : St} {w : World} {ρ : Operand → Value} {ev : Opd → AV}

/- keys -/
def KDesc (c : KC) (d : TypeDesc) : Prop :=
  match c, d with
  | .int, .int _ => True
  | .str, .string => True
  | .bool, .bool => True
  | _, _ => False

theorem keyOk_desc {c : KC} {k : TypeId} (h : keyOkT P c k = true) : ∃ d, P.underlying k = some d ∧ KDesc c d := by
  unfold keyOkT at h
  split at h <;> first | (rename_i hu; exact ⟨_, hu, trivial⟩) | cases h

theorem beq_mk (a b : List UInt8) : ((⟨a.toArray⟩ : ByteArray) == ⟨b.toArray⟩) = (a == b) := by
  show (a.toArray == b.toArray) = (a == b)
  simp

theorem sameNow_sound {c : KC} {d : TypeDesc} (hd : KDesc c d) {k j : AV} {ck cj : Value} (hk : isKey c k = true) (hrk : Rep L.toLk g w k ck) (hrj : Rep L.toLk g w j cj) {b : Bool} (h : keyEq k j = some b) :
    Instr.sameNow d ck cj = some b := by
  unfold keyEq at h
  split at h
  · simp only [Option.some.injEq] at h
    subst h
    simp only [Rep] at hrk hrj
    subst hrk; subst hrj
    cases c <;> simp [isKey] at hk
    cases d <;> simp only [KDesc] at hd
    simp only [Instr.sameNow, Option.some.injEq]
    exact beq_mk _ _
  · split at h
    · rename_i hkl
      simp only [Option.some.injEq] at h
      subst h; subst hkl
      simp only [Rep] at hrk hrj
      subst hrk; subst hrj
      cases c <;> simp [isKey] at hk
      cases d <;> simp only [KDesc] at hd
      simp [Instr.sameNow]
    · cases h
  · simp only [Option.some.injEq] at h
    subst h
    simp only [Rep] at hrk hrj
    subst hrk; subst hrj
    cases c <;> simp [isKey] at hk
    cases d <;> simp only [KDesc] at hd
    simp [Instr.sameNow]
  · cases h

theorem RepM.tail {L : Lk} {e : AV × AV} {es : List (AV × AV)} {c : MapEntry} {cs : List MapEntry} (h : RepM L g w (e :: es) (c :: cs)) : RepM L g w es cs :=
  ⟨by simpa using h.1, fun i k v x h1 h2 => h.2 (i + 1) k v x (by simpa using h1) (by simpa using h2)⟩

theorem findNow_sound {c : KC} {d : TypeDesc} (hd : KDesc c d) {k : AV} {ck : Value} (hk : isKey c k = true) (hrk : Rep L.toLk g w k ck) : ∀ {es : List (AV × AV)} {cs : List MapEntry} (n : Nat), RepM L.toLk g w es cs → ∀ {r}, findA k es = some r →
    match r with
    | none => Instr.findNow d ck cs n = some none
    | some v => ∃ i cv kv, es[i]? = some (kv, v) ∧ keyEq k kv = some true ∧ Instr.findNow d ck cs n = some (some (n + i, cv)) ∧ Rep L.toLk g w v cv ∧ (∀ e, cs[i]? = some e → e.val = cv)
  | [], [], n, _, r, h => by simp [findA] at h; subst h; rfl
  | [], _ :: _, n, h, _, _ => by simp [RepM] at h
  | _ :: _, [], n, h, _, _ => by simp [RepM] at h
  | (j, u) :: es, e :: cs, n, hm, r, h => by
    obtain ⟨h1, h2⟩ := hm.2 0 j u e rfl rfl
    simp only [findA] at h
    split at h
    · rename_i hke
      cases h
      have := sameNow_sound hd hk hrk h1 hke
      exact ⟨0, e.val, j, rfl, hke, by simp [Instr.findNow, this], h2, fun x hx => by simp at hx; rw [hx]⟩
    · rename_i hke
      have hsn := sameNow_sound hd hk hrk h1 hke
      have ih := findNow_sound hd hk hrk (n + 1) hm.tail h
      cases r with
      | none => simp only at ih ⊢; simp [Instr.findNow, hsn, ih]
      | some v =>
        simp only at ih ⊢
        obtain ⟨i, cv, kv, a1, a2, a3, a4, a5⟩ := ih
        refine ⟨i + 1, cv, kv, by simpa using a1, a2, ?_, a4, fun x hx => a5 x (by simpa using hx)⟩
        simp only [Instr.findNow, hsn]
        rw [a3]; congr 3; omega
    · cases h

theorem run_checkKey {c : KC} {kt : TypeId} {d : TypeDesc} (hu : P.underlying kt = some d) (hd : KDesc c d) (b : Bool) (v : Value) : (Instr.checkKey b 10000 kt v).run P w = .ok () w := by
  have e0 : Instr.checkKey b 10000 kt v = Instr.checkKey b (9999 + 1) kt v := rfl
  rw [e0]
  generalize 9999 = n
  cases c <;> cases d <;> simp only [KDesc] at hd <;> simp [Instr.checkKey, run_underlying hu]

theorem run_getObj_map {b : Nat} {es : Array MapEntry} {cl : Nat} (h : w.heap[b]? = some (.map es cl)) : (getObj b).run P w = .ok (.map es cl) w := by simp [getObj, Sem.run, h]

theorem map_at (hs : StR L.toLk C g s w) {i : Nat} {es : List (AV × AV)} (h : s.map? i = some es) : ∃ b cs cl, g.bl[i]? = some b ∧ s.bl[i]? = some (.amap es) ∧ w.heap[b]? = some (.map cs cl) ∧ RepM L.toLk g w es cs.toList ∧ Born cs.toList cl := by
  unfold St.map? at h
  split at h
  · rename_i es' hb
    cases h
    obtain ⟨b, h1, cs, cl, h2, h3, h4⟩ := hs.bl? hb
    exact ⟨b, cs, cl, h1, hb, h2, h3, h4⟩
  · cases h

theorem lookup_sound (hs : StR L.toLk C g s w) (he : Evs L g w ρ ev) {o : Oper} {t kt e : TypeId} {c : KC} {z : AV} {m k : Operand} {m' k' : Opd} {ok : Bool} (ho : o.op = .lookup t m k ok) (hm : odOk L m m' = true) (hk : odOk L k k' = true)
    (hu : P.underlying t = some (.map kt e)) (hkt : keyOkT P c kt = true) {i : TypeInfo} (hi : P.info? e = some i) {zv : Value} (hzv : i.zero = some zv) (hz : vOk L.toLk zv z = true)
    {r : AV × St} (h : opA ev s (.lookup c z m' k' ok) = some r) : OpRes P L C g s w r ((execOp ρ o).run P w) := by
  have hrm := he.rep _ _ hm
  have hrk := he.rep _ _ hk
  obtain ⟨d, hud, hd⟩ := keyOk_desc hkt
  simp only [opA] at h
  split at h
  · rename_i hik
    split at h
    · cases h
    · rename_i es hes
      have exec : (execOp ρ o).run P w = ((Instr.lookup t (ρ m) (ρ k) ok).run P w).andThen fun a w' => .ok (.value a) w' := by
        simp only [execOp, ho, Sem.run_bind]; rfl
      -- once the entries are read
      have rest : ∀ (cs : Array MapEntry), RepM L.toLk g w es cs.toList → (∀ (v : Value) (b : Bool), (match (Instr.findNow d (ρ k) cs.toList 0) with | some (some (_, v')) => v = v' ∧ b = true | some none => v = zv ∧ b = false | none => False) →
          (Instr.lookup t (ρ m) (ρ k) ok).run P w = .ok (if ok then .tuple #[v, .bool b] else v) w) → OpRes P L C g s w r ((execOp ρ o).run P w) := by
        intro cs hrep hrun
        rw [exec]
        have fk := @findNow_sound L g w c d hd (ev k') (ρ k) hik hrk es cs.toList 0 hrep
        split at h
        · cases h
        · rename_i v hf
          cases h
          obtain ⟨q, cv, kv, h1, h2, h3, h4, h5⟩ := fk hf
          rw [hrun cv true (by rw [h3]; exact ⟨rfl, rfl⟩)]
          refine OpRes.val hs (cv := if ok then .tuple #[cv, .bool true] else cv) rfl ?_
          cases ok
          · exact h4
          · simp only [if_true, Rep]; exact ⟨[cv, .bool true], rfl, by simp only [RepL]; exact ⟨cv, _, rfl, h4, _, _, rfl, by simp [Rep], rfl⟩⟩
        · rename_i hf
          cases h
          have h3 := fk hf
          simp only at h3
          rw [hrun zv false (by rw [h3]; exact ⟨rfl, rfl⟩)]
          have hzr := vOk_rep hz g w
          refine OpRes.val hs (cv := if ok then .tuple #[zv, .bool false] else zv) rfl ?_
          cases ok
          · exact hzr
          · simp only [if_true, Rep]; exact ⟨[zv, .bool false], rfl, by simp only [RepL]; exact ⟨zv, _, rfl, hzr, _, _, rfl, by simp [Rep], rfl⟩⟩
      have tail : ∀ (cs : Array MapEntry) (v : Value) (b : Bool), (match (Instr.findNow d (ρ k) cs.toList 0) with | some (some (_, v')) => v = v' ∧ b = true | some none => v = zv ∧ b = false | none => False) →
          ∀ x, ((Instr.findKey kt (ρ k) cs.toList).run P w = .ok x w → ∃ q, x = if b then some (q, v) else none) ∧ ∃ x, (Instr.findKey kt (ρ k) cs.toList).run P w = .ok x w := by
        intro cs v b hv x
        split at hv
        · rename_i q v' hfn
          obtain ⟨rfl, rfl⟩ := hv
          have : (Instr.findKey kt (ρ k) cs.toList).run P w = .ok (some (q, v)) w := by simp [Instr.findKey, run_underlying hud, hfn]
          exact ⟨fun hx => ⟨q, by rw [this] at hx; cases hx; rfl⟩, _, this⟩
        · rename_i hfn
          obtain ⟨rfl, rfl⟩ := hv
          have : (Instr.findKey kt (ρ k) cs.toList).run P w = .ok none w := by simp [Instr.findKey, run_underlying hud, hfn]
          exact ⟨fun hx => ⟨0, by rw [this] at hx; cases hx; rfl⟩, _, this⟩
        · cases hv
      split at hes
      · rename_i hev
        cases hes
        rw [hev] at hrm
        simp only [Rep] at hrm
        refine rest #[] ⟨rfl, fun i k v e h => by simp at h⟩ fun v b hv => ?_
        obtain ⟨x, hx⟩ := (tail #[] v b hv none).2
        obtain ⟨q, hq⟩ := (tail #[] v b hv x).1 hx
        simp only [Instr.lookup, Sem.run_bind, run_underlying hu, Result.andThen_ok, hrm, Sem.run_pure, run_checkKey hud hd, hx]
        subst hq
        cases b
        · have hvz : v = zv := by
            have := hv; simp [Instr.findNow] at this; exact this
          subst hvz
          simp [zeroValue, typeInfo, hi, hzv]
        · simp
      · rename_i j hev
        rw [hev] at hrm
        simp only [Rep] at hrm
        obtain ⟨b, hb, hρ⟩ := hrm
        obtain ⟨b', cs, cl, h1, h2, h3, h4, _⟩ := map_at hs hes
        rw [hb] at h1; cases h1
        refine rest cs h4 fun v bb hv => ?_
        obtain ⟨x, hx⟩ := (tail cs v bb hv none).2
        obtain ⟨q, hq⟩ := (tail cs v bb hv x).1 hx
        simp only [Instr.lookup, Sem.run_bind, run_underlying hu, Result.andThen_ok, hρ, run_getObj_map h3, Sem.run_pure, run_checkKey hud hd, hx]
        subst hq
        cases bb
        · have hvz : v = zv := by
            split at hv
            · cases hv.2
            · exact hv.1
            · cases hv
          subst hvz
          simp [zeroValue, typeInfo, hi, hzv]
        · simp
      · cases hes
  · cases h
end
end Ab

/- Writing maps, iterators, type assertions, lengths, make in append, min and max; and all operations together. No condition. -/
namespace Ab
open Go
section
variable {P : Program} {L : Link} {C : CodeR} {g : Gh} {s : St} {w : World} {ρ : Operand → Value} {ev : Opd → AV}

theorem run_findKey {d : TypeDesc} {kt : TypeId} (hud : P.underlying kt = some d) {k : Value} {es : List MapEntry} {r : Option (Nat × Value)} (h : Instr.findNow d k es 0 = some r) : (Instr.findKey kt k es).run P w = .ok r w := by
  simp [Instr.findKey, run_underlying hud, h]

theorem run_setObj {b : Nat} {o o' : Obj} (h : w.heap[b]? = some o) (hc : ∀ c e f, o ≠ .cells c e f) : (setObj b o').run P w = .ok () { w with heap := w.heap.setIfInBounds b o' } := by
  simp only [setObj, Sem.run]
  rw [h]
  cases o <;> first | rfl | exact absurd rfl (hc _ _ _)

theorem heap_set {b : Nat} {o o' : Obj} (h : w.heap[b]? = some o) : (w.heap.setIfInBounds b o')[b]? = some o' ∧ (∀ c, c ≠ b → (w.heap.setIfInBounds b o')[c]? = w.heap[c]?) ∧ (w.heap.setIfInBounds b o').size = w.heap.size := by
  have hlt := lt_of_heap h
  refine ⟨by simp [hlt], fun c hc => by rw [Array.getElem?_setIfInBounds]; simp [Ne.symm hc], by simp⟩

/- where the key stands -/
theorem findPos {c : KC} {d : TypeDesc} (hd : KDesc c d) {k : AV} {ck : Value} (hk : isKey c k = true) (hrk : Rep L.toLk g w k ck) : ∀ {es : List (AV × AV)} {cs : List MapEntry} (n : Nat), RepM L.toLk g w es cs → ∀ {v : AV} {es'}, setA k v es = some es' →
    (Instr.findNow d ck cs n = some none ∧ es' = es ++ [(k, v)]) ∨
    (∃ i kv u cv e, es[i]? = some (kv, u) ∧ cs[i]? = some e ∧ keyEq k kv = some true ∧ Instr.findNow d ck cs n = some (some (n + i, cv)) ∧ es' = es.set i (k, v))
  | [], [], n, _, v, es', h => by simp [setA] at h; subst h; exact .inl ⟨rfl, rfl⟩
  | [], _ :: _, n, h, _, _, _ => by simp [RepM] at h
  | _ :: _, [], n, h, _, _, _ => by simp [RepM] at h
  | (j, u) :: es, e :: cs, n, hm, v, es', h => by
    obtain ⟨h1, h2⟩ := hm.2 0 j u e rfl rfl
    simp only [setA] at h
    split at h
    · rename_i hke
      cases h
      have := sameNow_sound hd hk hrk h1 hke
      exact .inr ⟨0, j, u, e.val, e, rfl, rfl, hke, by simp [Instr.findNow, this], rfl⟩
    · rename_i hke
      have hsn := sameNow_sound hd hk hrk h1 hke
      split at h
      · rename_i r' hr'
        cases h
        rcases findPos hd hk hrk (n + 1) hm.tail hr' with ⟨a1, rfl⟩ | ⟨i, kv, u', cv, e', a1, a2, a3, a4, rfl⟩
        · exact .inl ⟨by simp [Instr.findNow, hsn, a1], rfl⟩
        · refine .inr ⟨i + 1, kv, u', cv, e', by simpa using a1, by simpa using a2, a3, ?_, rfl⟩
          simp only [Instr.findNow, hsn]
          rw [a4]; congr 3; omega
      · cases h
    · cases h

theorem keyEq_rep {k j : AV} {ck cj : Value} (hrk : Rep L.toLk g w k ck) (hrj : Rep L.toLk g w j cj) (h : keyEq k j = some true) : Instr.sameBits 10000 cj ck = true := by
  have e0 : Instr.sameBits 10000 cj ck = Instr.sameBits (9999 + 1) cj ck := rfl
  rw [e0]
  generalize 9999 = n
  unfold keyEq at h
  split at h
  · simp only [Option.some.injEq, beq_iff_eq] at h
    subst h
    simp only [Rep] at hrk hrj
    subst hrk; subst hrj
    simp only [Instr.sameBits]
    rw [beq_mk]; simp
  · split at h
    · rename_i hkl
      simp only [Option.some.injEq, beq_iff_eq] at h
      subst h; subst hkl
      simp only [Rep] at hrk hrj
      subst hrk; subst hrj
      simp [Instr.sameBits]
    · cases h
  · simp only [Option.some.injEq, beq_iff_eq] at h
    subst h
    simp only [Rep] at hrk hrj
    subst hrk; subst hrj
    simp [Instr.sameBits]
  · cases h

theorem born_push {cs : Array MapEntry} {cl : Nat} (h : Born cs.toList cl) {k v : Value} : Born (cs.push { key := k, val := v, born := cl }).toList (cl + 1) := by
  rw [Array.toList_push]
  refine ⟨fun x hx => ?_, ?_⟩
  · rcases List.mem_append.1 hx with hx | hx
    · have := h.1 x hx; omega
    · simp at hx; subst hx; simp
  · rw [List.map_append]
    refine List.nodup_append.2 ⟨h.2, by simp, fun a ha b hb => ?_⟩
    obtain ⟨x, hx, rfl⟩ := List.mem_map.1 ha
    simp at hb
    subst hb
    have := h.1 x hx; omega
theorem born_modify {cs : Array MapEntry} {cl q : Nat} (h : Born cs.toList cl) {k v : Value} : Born (cs.modify q fun x => { x with key := k, val := v }).toList cl := by
  have e : (cs.modify q fun x => { x with key := k, val := v }).toList.map (·.born) = cs.toList.map (·.born) := by
    refine List.ext_getElem? fun i => ?_
    rw [List.getElem?_map, List.getElem?_map, Array.getElem?_toList, Array.getElem?_toList, Array.getElem?_modify]
    split <;> cases cs[i]? <;> rfl
  refine ⟨fun x hx => ?_, by rw [e]; exact h.2⟩
  have := List.mem_map_of_mem (f := (·.born)) hx
  rw [e] at this
  obtain ⟨y, hy, hxy⟩ := List.mem_map.1 this
  have h1 := h.1 y hy
  omega
theorem born_erase {cs : Array MapEntry} {cl : Nat} (h : Born cs.toList cl) (q : Nat) : Born (cs.eraseIdxIfInBounds q).toList cl := by
  have hs : List.Sublist (cs.eraseIdxIfInBounds q).toList cs.toList := by
    unfold Array.eraseIdxIfInBounds
    split
    · rw [Array.toList_eraseIdx]; exact List.eraseIdx_sublist ..
    · exact List.Sublist.refl _
  exact ⟨fun x hx => h.1 x (hs.subset hx), h.2.sublist (hs.map _)⟩

theorem mapset_sound (hs : StR L.toLk C g s w) (he : Evs L g w ρ ev) {o : Oper} {t kt e : TypeId} {c : KC} {m k v : Operand} {m' k' v' : Opd} (ho : o.op = .mapUpdate t m k v ∨ o.op = .insert t m k v) (hm : odOk L m m' = true) (hk : odOk L k k' = true) (hv : odOk L v v' = true)
    (hu : P.underlying t = some (.map kt e)) (hkt : keyOkT P c kt = true) {r : AV × St} (h : opA ev s (.mapset c m' k' v') = some r) : OpRes P L C g s w r ((execOp ρ o).run P w) := by
  have hrm := he.rep _ _ hm
  have hrk := he.rep _ _ hk
  have hrv := he.rep _ _ hv
  obtain ⟨d, hud, hd⟩ := keyOk_desc hkt
  simp only [opA] at h
  split at h
  · rename_i hik
    split at h
    · rename_i i hev
      split at h
      · rename_i es hes
        split at h
        · rename_i es' hset
          split at h
          · rename_i hro
            cases h
            rw [hev] at hrm
            simp only [Rep] at hrm
            obtain ⟨b, hb, hρ⟩ := hrm
            obtain ⟨b', cs, cl, h1, h2, h3, h4, h5⟩ := map_at hs hes
            rw [hb] at h1; cases h1
            have exec : (execOp ρ o).run P w = ((Instr.mapUpdate t (ρ m) (ρ k) (ρ v)).run P w).andThen fun _ w' => .ok .skip w' := by
              rcases ho with ho | ho <;> simp only [execOp, ho, Sem.run_bind] <;> rfl
            rw [exec]
            -- the new object
            have fin : ∀ (cs' : Array MapEntry) (cl' : Nat), (Instr.mapUpdate t (ρ m) (ρ k) (ρ v)).run P w = .ok () { w with heap := w.heap.setIfInBounds b (.map cs' cl') } → (∀ g' w', GE g w g' w' → RepM L.toLk g' w' es' cs'.toList) → Born cs'.toList cl' →
                OpRes P L C g s w (.tup [], s.setb i (.amap es')) (((Instr.mapUpdate t (ρ m) (ρ k) (ρ v)).run P w).andThen fun _ w' => .ok .skip w') := by
              intro cs' cl' hrun hrep hborn
              obtain ⟨a1, a2, a3⟩ := heap_set (o' := .map cs' cl') h3
              have hst := hs.setb (w' := { w with heap := w.heap.setIfInBounds b (.map cs' cl') }) (ab := .amap es') hb hro a1 a2 a3 ⟨rfl, rfl, rfl⟩ (fun hge => ⟨cs', cl', a1, hrep _ _ hge, hborn⟩) (fun hl => by
                obtain ⟨lp, hlp⟩ := hs.lps b hl
                rw [h3] at hlp; cases hlp) (nd_map hes) (.no a2 h3 fun _ _ _ h => by cases h)
              exact ⟨g, _, .skip, undef, by rw [hrun]; rfl, .inr ⟨rfl, rfl⟩, undef_rep _ _ _, hst.1, hst.2⟩
            have hcs : ∀ q e f, (Obj.map cs cl : Obj) ≠ .cells q e f := fun _ _ _ h => by cases h
            rcases findPos hd hik hrk 0 h4 hset with ⟨a1, rfl⟩ | ⟨q, kv, u, cv, e0, a1, a2, a3, a4, rfl⟩
            · refine fin (cs.push { key := ρ k, val := ρ v, born := cl }) (cl + 1) ?_ (fun g' w' hge => ?_) (born_push h5)
              · simp only [Instr.mapUpdate, Sem.run_bind, run_underlying hu, Result.andThen_ok, hρ, run_getObj_map h3, run_checkKey hud hd, run_findKey hud a1, run_setObj h3 hcs]
              · refine ⟨by simpa using h4.1, fun j x y z hx hz => ?_⟩
                simp only [Array.toList_push] at hz
                by_cases hj : j < es.length
                · rw [List.getElem?_append_left hj] at hx
                  rw [List.getElem?_append_left (by rw [← h4.1]; exact hj)] at hz
                  have := h4.2 j x y z hx hz
                  exact ⟨Rep.mono hge _ _ this.1, Rep.mono hge _ _ this.2⟩
                · rw [List.getElem?_append_right (by omega)] at hx
                  rw [List.getElem?_append_right (by rw [← h4.1]; omega)] at hz
                  rw [← h4.1] at hz
                  have hj0 : j - es.length = 0 := by
                    have := (List.getElem?_eq_some_iff.1 hx).1
                    simp at this; omega
                  rw [hj0] at hx hz
                  simp at hx hz
                  obtain ⟨rfl, rfl⟩ := hx
                  subst hz
                  exact ⟨Rep.mono hge _ _ hrk, Rep.mono hge _ _ hrv⟩
            · have hsb := keyEq_rep hrk (h4.2 q kv u e0 a1 a2).1 a3
              have ha2 : cs[q]? = some e0 := by simpa using a2
              refine fin (cs.modify q fun x => { x with key := ρ k, val := ρ v }) cl ?_ (fun g' w' hge => ?_) (born_modify h5)
              · simp only [Nat.zero_add] at a4
                simp only [Instr.mapUpdate, Sem.run_bind, run_underlying hu, Result.andThen_ok, hρ, run_getObj_map h3, run_checkKey hud hd, run_findKey hud a4, ha2, Option.map_some, Option.getD_some, Instr.keyThatStays, hsb, if_true, Sem.run_pure, run_setObj h3 hcs]
              · refine ⟨by simpa using h4.1, fun j x y z hx hz => ?_⟩
                have hz' : (cs.modify q fun x => { x with key := ρ k, val := ρ v })[j]? = some z := by rw [← Array.getElem?_toList]; exact hz
                rw [Array.getElem?_modify] at hz'
                rw [List.getElem?_set] at hx
                by_cases hqj : q = j
                · subst hqj
                  simp only [if_true] at hx hz'
                  split at hx
                  · cases hx
                    rw [ha2] at hz'
                    simp at hz'
                    subst hz'
                    exact ⟨Rep.mono hge _ _ hrk, Rep.mono hge _ _ hrv⟩
                  · cases hx
                · simp only [hqj, if_false] at hx hz'
                  have := h4.2 j x y z hx (by simpa using hz')
                  exact ⟨Rep.mono hge _ _ this.1, Rep.mono hge _ _ this.2⟩
          · cases h
        · cases h
      · cases h
    · cases h
  · cases h

theorem delPos {c : KC} {d : TypeDesc} (hd : KDesc c d) {k : AV} {ck : Value} (hk : isKey c k = true) (hrk : Rep L.toLk g w k ck) : ∀ {es : List (AV × AV)} {cs : List MapEntry} (n : Nat), RepM L.toLk g w es cs → ∀ {es'}, delA k es = some es' →
    (Instr.findNow d ck cs n = some none ∧ es' = es) ∨ (∃ i cv, i < es.length ∧ Instr.findNow d ck cs n = some (some (n + i, cv)) ∧ es' = es.eraseIdx i)
  | [], [], n, _, es', h => by simp [delA] at h; subst h; exact .inl ⟨rfl, rfl⟩
  | [], _ :: _, n, h, _, _ => by simp [RepM] at h
  | _ :: _, [], n, h, _, _ => by simp [RepM] at h
  | (j, u) :: es, e :: cs, n, hm, es', h => by
    obtain ⟨h1, h2⟩ := hm.2 0 j u e rfl rfl
    simp only [delA] at h
    split at h
    · rename_i hke
      cases h
      have := sameNow_sound hd hk hrk h1 hke
      exact .inr ⟨0, e.val, by simp, by simp [Instr.findNow, this], rfl⟩
    · rename_i hke
      have hsn := sameNow_sound hd hk hrk h1 hke
      split at h
      · rename_i r' hr'
        cases h
        rcases delPos hd hk hrk (n + 1) hm.tail hr' with ⟨a1, rfl⟩ | ⟨i, cv, a0, a1, rfl⟩
        · exact .inl ⟨by simp [Instr.findNow, hsn, a1], rfl⟩
        · refine .inr ⟨i + 1, cv, by simpa using a0, ?_, rfl⟩
          simp only [Instr.findNow, hsn]
          rw [a1]; congr 3; omega
      · cases h
    · cases h

theorem RepM.mono' {g' : Gh} {w' : World} {es : List (AV × AV)} {cs : List MapEntry} (h : RepM L.toLk g w es cs) (hge : GE g w g' w') : RepM L.toLk g' w' es cs := h.mono hge

theorem del_sound (hs : StR L.toLk C g s w) (he : Evs L g w ρ ev) {o : Oper} {t kt e ty : TypeId} {ts : List TypeId} {c : KC} {m k : Operand} {m' k' : Opd} (hm : odOk L m m' = true) (hk : odOk L k k' = true)
    (hu : P.underlying t = some (.map kt e)) (hkt : keyOkT P c kt = true) {r : AV × St} (h : opA ev s (.del c m' k') = some r)
    (exec : (execOp ρ o).run P w = ((Builtin.delete_ (t :: ts).toArray ty #[ρ m, ρ k]).run P w).andThen fun a w' => .ok (.value a) w') : OpRes P L C g s w r ((execOp ρ o).run P w) := by
  have hrm := he.rep _ _ hm
  have hrk := he.rep _ _ hk
  obtain ⟨d, hud, hd⟩ := keyOk_desc hkt
  simp only [opA] at h
  split at h
  · rename_i hik
    split at h
    · rename_i i hev
      split at h
      · rename_i es hes
        split at h
        · rename_i es' hset
          split at h
          · rename_i hro
            cases h
            rw [hev] at hrm
            simp only [Rep] at hrm
            obtain ⟨b, hb, hρ⟩ := hrm
            obtain ⟨b', cs, cl, h1, h2, h3, h4, h5⟩ := map_at hs hes
            rw [hb] at h1; cases h1
            rw [exec]
            have hcs : ∀ q e f, (Obj.map cs cl : Obj) ≠ .cells q e f := fun _ _ _ h => by cases h
            have fin : ∀ (cs' : Array MapEntry), (Builtin.delete_ (t :: ts).toArray ty #[ρ m, ρ k]).run P w = .ok (.tuple #[]) { w with heap := w.heap.setIfInBounds b (.map cs' cl) } → RepM L.toLk g w es' cs'.toList → Born cs'.toList cl →
                OpRes P L C g s w (.tup [], s.setb i (.amap es')) (((Builtin.delete_ (t :: ts).toArray ty #[ρ m, ρ k]).run P w).andThen fun a w' => .ok (.value a) w') := by
              intro cs' hrun hrep hborn
              obtain ⟨a1, a2, a3⟩ := heap_set (o' := .map cs' cl) h3
              have hst := hs.setb (w' := { w with heap := w.heap.setIfInBounds b (.map cs' cl) }) (ab := .amap es') hb hro a1 a2 a3 ⟨rfl, rfl, rfl⟩ (fun hge => ⟨cs', cl, a1, hrep.mono' hge, hborn⟩) (fun hl => by
                obtain ⟨lp, hlp⟩ := hs.lps b hl
                rw [h3] at hlp; cases hlp) (nd_map hes) (.no a2 h3 fun _ _ _ h => by cases h)
              exact ⟨g, _, .value (.tuple #[]), _, by rw [hrun]; rfl, .inl rfl, undef_rep _ _ _, hst.1, hst.2⟩
            rcases delPos hd hik hrk 0 h4 hset with ⟨a1, rfl⟩ | ⟨q, cv, a0, a1, rfl⟩
            · refine fin cs ?_ h4 h5
              simp only [Builtin.delete_, List.getElem?_toArray, List.getElem?_cons_zero, List.getElem?_cons_succ, Sem.run_bind, run_underlying hu, Result.andThen_ok, hρ, run_getObj_map h3, run_checkKey hud hd, run_findKey hud a1, run_setObj h3 hcs, Sem.run_pure]
            · simp only [Nat.zero_add] at a1
              refine fin (cs.eraseIdxIfInBounds q) ?_ ?_ (born_erase h5 q)
              · simp only [Builtin.delete_, List.getElem?_toArray, List.getElem?_cons_zero, List.getElem?_cons_succ, Sem.run_bind, run_underlying hu, Result.andThen_ok, hρ, run_getObj_map h3, run_checkKey hud hd, run_findKey hud a1, run_setObj h3 hcs, Sem.run_pure]
              · have hl := h4.1
                have hq : q < cs.size := by simp at hl; omega
                have e1 : (cs.eraseIdxIfInBounds q).toList = cs.toList.eraseIdx q := by simp [Array.eraseIdxIfInBounds, hq]
                rw [e1]
                refine ⟨by rw [List.length_eraseIdx, List.length_eraseIdx, hl], fun j x y z hx hz => ?_⟩
                rw [List.getElem?_eraseIdx] at hx hz
                split at hx
                · rename_i hj; rw [if_pos hj] at hz; exact h4.2 j x y z hx hz
                · rename_i hj; rw [if_neg hj] at hz; exact h4.2 (j + 1) x y z hx hz
          · cases h
        · cases h
      · cases h
    · cases h
  · cases h

theorem ranges_sound (hs : StR L.toLk C g s w) (he : Evs L g w ρ ev) {o : Oper} {t : TypeId} {x : Operand} {x' : Opd} (ho : o.op = .range t x) (hx : odOk L x x' = true) (hu : P.underlying t = some .string)
    {r : AV × St} (h : opA ev s (.ranges x') = some r) : OpRes P L C g s w r ((execOp ρ o).run P w) := by
  have hr := he.rep _ _ hx
  simp only [opA] at h
  split at h
  · rename_i b hev
    cases h
    rw [hev] at hr
    simp only [Rep] at hr
    have hp := hs.push (o := .stringIter ⟨b.toArray⟩ 0) (ab := .siter b 0) (w' := { w with heap := w.heap.push (.stringIter ⟨b.toArray⟩ 0) }) rfl same_push [] (by simp) (fun _ => push_new rfl)
    refine ⟨_, _, .value (.pointer (some ⟨w.heap.size, 0, none⟩)), _, ?_, .inl rfl, ?_, hp.1, hp.2⟩
    · simp [execOp, ho, Instr.range, run_underlying hu, hr]
    · simp only [Rep]; exact ⟨w.heap.size, by simp [← hs.bl], rfl⟩
  · cases h

theorem nexts_sound (hs : StR L.toLk C g s w) (he : Evs L g w ρ ev) {o : Oper} {x : Operand} {x' : Opd} (ho : o.op = .next x true) (hx : odOk L x x' = true)
    {r : AV × St} (h : opA ev s (.nexts x') = some r) : OpRes P L C g s w r ((execOp ρ o).run P w) := by
  have hr := he.rep _ _ hx
  simp only [opA] at h
  split at h
  · rename_i i hev
    rw [hev] at hr
    simp only [Rep] at hr
    obtain ⟨b, hb, hρ⟩ := hr
    split at h
    · rename_i l pos hbl
      have h1 : w.heap[b]? = some (.stringIter ⟨l.toArray⟩ pos) := hs.blocks i b _ hb hbl
      have hg : (getObj b).run P w = .ok (.stringIter ⟨l.toArray⟩ pos) w := by simp [getObj, Sem.run, h1]
      have hsz : (⟨l.toArray⟩ : ByteArray).size = l.length := by simp [ByteArray.size]
      split at h
      · rename_i hlt
        split at h
        · rename_i hro
          cases h
          obtain ⟨a1, a2, a3⟩ := heap_set (o' := .stringIter ⟨l.toArray⟩ (pos + (Utf8.decode ⟨l.toArray⟩ pos).2)) h1
          have hst := hs.setb (w' := { w with heap := w.heap.setIfInBounds b (.stringIter ⟨l.toArray⟩ (pos + (Utf8.decode ⟨l.toArray⟩ pos).2)) }) (ab := .siter l (pos + (Utf8.decode ⟨l.toArray⟩ pos).2)) hb hro a1 a2 a3 ⟨rfl, rfl, rfl⟩ (fun _ => a1) (fun hl => by
            obtain ⟨lp, hlp⟩ := hs.lps b hl
            rw [h1] at hlp; cases hlp) (by rw [hbl]; intro e; cases e) (.no a2 h1 fun _ _ _ h => by cases h)
          refine ⟨g, _, .value (.tuple #[.bool true, .int .i64 pos, .int .i32 (Utf8.decode ⟨l.toArray⟩ pos).1]), _, ?_, .inl rfl, ?_, hst.1, hst.2⟩
          · simp only [execOp, ho, Instr.next, hρ, Sem.run_bind, hg, Result.andThen_ok, hsz]
            rw [if_pos hlt]
            simp only [Sem.run_bind, run_setObj h1 (fun _ _ _ h => by cases h), Result.andThen_ok, Sem.run_pure, goInt]
          · simp only [Rep]
            exact ⟨_, rfl, by simp only [RepL]; exact ⟨_, _, rfl, by simp [Rep], _, _, rfl, by simp [Rep], _, _, rfl, by simp [Rep], rfl⟩⟩
        · cases h
      · rename_i hlt
        cases h
        refine OpRes.val hs (cv := .tuple #[.bool false]) ?_ ?_
        · simp only [execOp, ho, Instr.next, hρ, Sem.run_bind, hg, Result.andThen_ok, hsz]
          rw [if_neg hlt]; rfl
        · simp only [Rep]
          exact ⟨_, rfl, by simp only [RepL]; exact ⟨_, _, rfl, by simp [Rep], rfl⟩⟩
    · cases h
  · cases h
end
end Ab
