/- What it means that a machine's value, block and world stand for abstract ones; and that this stays as the world grows. No condition. -/
import Derived.Test.YtndlggjnfabdoaaGreatDoorAb01
import Derived.Calls
import Derived.Below
import Derived.Laws.IdiomCopy
import Derived.Laws.Append
import Derived.Laws.AppendOwn
import Derived.Laws.Entries
set_option linter.all false
namespace Ab
open Go

structure Lk where
  fnOf : Nat → Nat
  tyOf : Nat → Nat

structure TokI where
  a : Addr
  cap : Nat
  sz : Nat
  top : Nat

structure Gh where
  bl : List Nat
  tk : List TokI
  imm : Nat → Nat → Prop
  base : Nat
  dfr : List Nat
  lps : List Nat

def oneCell : Value → Prop
  | .agg _ | .tuple _ => False
  | _ => True

/- cells that lie in memory that is never written again -/
def Lies (g : Gh) (w : World) (b o : Nat) (cs : List Value) : Prop :=
  ∀ j c, cs[j]? = some c → g.imm b (o + j) ∧ w.cell? ⟨b, o + j, none⟩ = some c

def Sized (sz : Nat) (u : Value) : Prop := u.cells.size = sz ∧ ∀ c ∈ u.cells.toList, oneCell c

def flat (vs : List Value) : List Value := vs.flatMap fun v => v.cells.toList

def OwnOk (g : Gh) (own : Own) (sz : Nat) (a : Option Addr) (len cap : Nat) : Prop :=
  match own with
  | .any => a.isSome = true
  | .nil => a = none ∧ len = 0 ∧ cap = 0
  | .full => a.isSome = true ∧ cap = len
  | .tok t => a.isSome = true ∧ ∃ T, g.tk[t]? = some T ∧ len ≤ T.top ∧ (T.top = len → a = some T.a ∧ cap = T.cap ∧ sz = T.sz)

mutual
def Rep (L : Lk) (g : Gh) (w : World) : AV → Value → Prop
  | .bool b, v => v = .bool b
  | .int k n, v => v = .int k n
  | .str s, v => v = .string ⟨s.toArray⟩
  | .nilp, v => v = .pointer none
  | .ptr i off, v => ∃ b, g.bl[i]? = some b ∧ v = .pointer (some ⟨b, off, none⟩)
  | .rptr x off, v => ∃ b o xv, v = .pointer (some ⟨b, o + off, none⟩) ∧ x.untok = x ∧ Rep L g w x xv ∧ Lies g w b o xv.cells.toList
  | .sl own sz xs, v => ∃ a cap vs, v = .slice a xs.length cap ∧ xs.length ≤ cap ∧ AV.untokL xs = xs ∧ RepL L g w xs vs ∧
      (∀ u ∈ vs, Sized sz u) ∧ (match (a : Option Addr) with | none => xs = [] ∧ cap = 0 | some p => (xs ≠ [] → p.spot = none) ∧ Lies g w p.block p.off (flat vs)) ∧ OwnOk g own sz a xs.length cap
  | .raw t sz n, v => ∃ T, g.tk[t]? = some T ∧ (T.top = 0 → v = .slice (some T.a) n T.cap ∧ n ≤ T.cap ∧ T.sz = sz)
  | .msl i off z n, v => ∃ b a cap, g.bl[i]? = some b ∧ v = .slice (some a) n cap ∧ n ≤ cap ∧ (0 < cap → a = ⟨b, off, none⟩ ∧ ∃ c e fz, w.heap[b]? = some (.cells c e fz) ∧ off + cap * z ≤ c.size)
  | .map none, v => v = .map none
  | .map (some i), v => ∃ b, g.bl[i]? = some b ∧ v = .map (some b)
  | .fn f first caps, v => ∃ fs cs, v = .func (.func (L.fnOf f)) fs.toArray cs.toArray ∧ RepL L g w first fs ∧ RepL L g w caps cs
  | .yield i, v => ∃ b, g.bl[i]? = some b ∧ v = .func (.yield b) #[] #[]
  | .nilf, v => v = .nilFunc
  | .iface t x, v => ∃ u, v = .iface (L.tyOf t) u ∧ Rep L g w x u
  | .nilif, v => v = .nilIface
  | .agg cs, v => ∃ vs, v = .agg vs.toArray ∧ RepL L g w cs vs ∧ ∀ u ∈ vs, oneCell u
  | .tup xs, v => ∃ vs, v = .tuple vs.toArray ∧ RepL L g w xs vs
  | .junk, _ => True
def RepL (L : Lk) (g : Gh) (w : World) : List AV → List Value → Prop
  | [], vs => vs = []
  | x :: xs, vs => ∃ v r, vs = v :: r ∧ Rep L g w x v ∧ RepL L g w xs r
end

/- rows never get shorter -/
def Wide (w w' : World) : Prop := ∀ (b : Nat) (c : Array Value) (e : TypeId) (fz : Nat × Nat), w.heap[b]? = some (.cells c e fz) → ∃ c' e', w'.heap[b]? = some (.cells c' e' fz) ∧ c.size ≤ c'.size
theorem Wide.refl (w : World) : Wide w w := fun _ c e _ h => ⟨c, e, h, Nat.le_refl _⟩
theorem Wide.trans {w w1 w2 : World} (h : Wide w w1) (h' : Wide w1 w2) : Wide w w2 := fun b c e fz hb => by
  obtain ⟨c1, e1, h1, l1⟩ := h b c e fz hb
  obtain ⟨c2, e2, h2, l2⟩ := h' b c1 e1 fz h1
  exact ⟨c2, e2, h2, Nat.le_trans l1 l2⟩
theorem Wide.of {w w' : World} (h : ∀ b, b < w.heap.size → w'.heap[b]? = w.heap[b]?) : Wide w w' := fun b c e fz hb =>
  ⟨c, e, by rw [h b (Array.getElem?_eq_some_iff.1 hb).1]; exact hb, Nat.le_refl _⟩
theorem Wide.at {w w' : World} {b : Nat} {c c' : Array Value} {e e' : TypeId} {fz : Nat × Nat} (h : ∀ d, d ≠ b → w'.heap[d]? = w.heap[d]?) (hb : w.heap[b]? = some (.cells c e fz)) (hb' : w'.heap[b]? = some (.cells c' e' fz)) (hs : c.size ≤ c'.size) : Wide w w' := fun d c1 e1 f1 hd => by
  by_cases hdb : d = b
  · subst hdb; rw [hb] at hd; cases hd; exact ⟨_, _, hb', hs⟩
  · exact ⟨_, _, by rw [h d hdb]; exact hd, Nat.le_refl _⟩
/-- An object that is no row gets another one. -/
theorem Wide.no {w w' : World} {b : Nat} {o : Obj} (h : ∀ d, d ≠ b → w'.heap[d]? = w.heap[d]?) (hb : w.heap[b]? = some o) (ho : ∀ c e fz, o ≠ .cells c e fz) : Wide w w' := fun d c1 e1 f1 hd => by
  by_cases hdb : d = b
  · subst hdb; rw [hb] at hd; cases hd; exact absurd rfl (ho _ _ _)
  · exact ⟨_, _, by rw [h d hdb]; exact hd, Nat.le_refl _⟩
theorem Wide.room {w w' : World} (h : Wide w w') {b n : Nat} (hb : ∃ c e fz, w.heap[b]? = some (.cells c e fz) ∧ n ≤ c.size) : ∃ c e fz, w'.heap[b]? = some (.cells c e fz) ∧ n ≤ c.size := by
  obtain ⟨c, e, fz, h1, h2⟩ := hb
  obtain ⟨c', e', h3, h4⟩ := h b c e fz h1
  exact ⟨c', e', fz, h3, Nat.le_trans h2 h4⟩

/- the world grows; what was told stays told -/
structure GE (g : Gh) (w : World) (g' : Gh) (w' : World) : Prop where
  bl : ∀ (i b : Nat), g.bl[i]? = some b → g'.bl[i]? = some b
  tk : ∀ (t : Nat) (T : TokI), g.tk[t]? = some T → ∃ T', g'.tk[t]? = some T' ∧ T.top ≤ T'.top ∧ (T'.top = T.top → T' = T)
  imm : ∀ b o, g.imm b o → g'.imm b o ∧ w'.cell? ⟨b, o, none⟩ = w.cell? ⟨b, o, none⟩
  lps : ∀ d, d ∈ g.lps → d ∈ g'.lps
  size : Wide w w'

theorem GE.refl (g : Gh) (w : World) : GE g w g w := ⟨fun _ _ h => h, fun _ T h => ⟨T, h, Nat.le_refl _, fun _ => rfl⟩, fun _ _ h => ⟨h, rfl⟩, fun _ h => h, .refl _⟩

theorem GE.trans {g g1 g2 : Gh} {w w1 w2 : World} (h : GE g w g1 w1) (h' : GE g1 w1 g2 w2) : GE g w g2 w2 where
  bl i b hb := h'.bl i b (h.bl i b hb)
  tk t T hT := by
    obtain ⟨T1, h1, l1, e1⟩ := h.tk t T hT
    obtain ⟨T2, h2, l2, e2⟩ := h'.tk t T1 h1
    exact ⟨T2, h2, Nat.le_trans l1 l2, fun e => by
      have : T1.top = T.top := by omega
      have a := e1 this
      rw [e2 (by omega), a]⟩
  imm b o hb := by
    obtain ⟨a1, a2⟩ := h.imm b o hb
    obtain ⟨b1, b2⟩ := h'.imm b o a1
    exact ⟨b1, b2.trans a2⟩
  lps d hd := h'.lps d (h.lps d hd)
  size := h.size.trans h'.size

theorem Lies.mono {g g' : Gh} {w w' : World} (h : GE g w g' w') {b o : Nat} {cs : List Value} (hl : Lies g w b o cs) : Lies g' w' b o cs :=
  fun j c hj => by
    obtain ⟨h1, h2⟩ := hl j c hj
    obtain ⟨h3, h4⟩ := h.imm b (o + j) h1
    exact ⟨h3, h4.trans h2⟩

theorem OwnOk.mono {g g' : Gh} {w w' : World} (h : GE g w g' w') {own : Own} {sz : Nat} {a : Option Addr} {len cap : Nat} (hl : OwnOk g own sz a len cap) : OwnOk g' own sz a len cap := by
  cases own with
  | any => exact hl
  | nil => exact hl
  | full => exact hl
  | tok t =>
    obtain ⟨hs, T, hT, hle, he⟩ := hl
    obtain ⟨T', hT', hle', he'⟩ := h.tk t T hT
    refine ⟨hs, T', hT', by omega, fun e => ?_⟩
    have : T' = T := he' (by omega)
    subst this
    exact he e

mutual
theorem Rep.mono {L : Lk} {g g' : Gh} {w w' : World} (h : GE g w g' w') : ∀ (x : AV) (v : Value), Rep L g w x v → Rep L g' w' x v
  | .bool _, _, r | .int _ _, _, r | .str _, _, r | .nilp, _, r | .nilf, _, r | .nilif, _, r | .map none, _, r => by simpa [Rep] using r
  | .junk, _, _ => by simp [Rep]
  | .ptr i off, v, r => by
    simp only [Rep] at r ⊢
    obtain ⟨b, hb, hv⟩ := r
    exact ⟨b, h.bl _ _ hb, hv⟩
  | .map (some i), v, r => by
    simp only [Rep] at r ⊢
    obtain ⟨b, hb, hv⟩ := r
    exact ⟨b, h.bl _ _ hb, hv⟩
  | .yield i, v, r => by
    simp only [Rep] at r ⊢
    obtain ⟨b, hb, hv⟩ := r
    exact ⟨b, h.bl _ _ hb, hv⟩
  | .msl i off _ n, v, r => by
    simp only [Rep] at r ⊢
    obtain ⟨b, a, c, hb, hv, hn, hc⟩ := r
    exact ⟨b, a, c, h.bl _ _ hb, hv, hn, fun hp => ⟨(hc hp).1, h.size.room (hc hp).2⟩⟩
  | .rptr x off, v, r => by
    simp only [Rep] at r ⊢
    obtain ⟨b, o, xv, hv, hu, hr, hl⟩ := r
    exact ⟨b, o, xv, hv, hu, Rep.mono h x xv hr, hl.mono h⟩
  | .sl own sz xs, v, r => by
    simp only [Rep] at r ⊢
    obtain ⟨a, cap, vs, hv, hc, hu, hr, hs, hl, ho⟩ := r
    cases a with
    | none => exact ⟨none, cap, vs, hv, hc, hu, RepL.mono h xs vs hr, hs, hl, ho.mono h⟩
    | some p => exact ⟨some p, cap, vs, hv, hc, hu, RepL.mono h xs vs hr, hs, ⟨hl.1, hl.2.mono h⟩, ho.mono h⟩
  | .raw t sz n, v, r => by
    simp only [Rep] at r ⊢
    obtain ⟨T, hT, hv⟩ := r
    obtain ⟨T', hT', hle, he⟩ := h.tk t T hT
    refine ⟨T', hT', fun e => ?_⟩
    have : T' = T := he (by omega)
    subst this
    exact hv e
  | .fn f first caps, v, r => by
    simp only [Rep] at r ⊢
    obtain ⟨fs, cs, hv, h1, h2⟩ := r
    exact ⟨fs, cs, hv, RepL.mono h first fs h1, RepL.mono h caps cs h2⟩
  | .iface t x, v, r => by
    simp only [Rep] at r ⊢
    obtain ⟨u, hv, h1⟩ := r
    exact ⟨u, hv, Rep.mono h x u h1⟩
  | .agg cs, v, r => by
    simp only [Rep] at r ⊢
    obtain ⟨vs, hv, h1, h2⟩ := r
    exact ⟨vs, hv, RepL.mono h cs vs h1, h2⟩
  | .tup cs, v, r => by
    simp only [Rep] at r ⊢
    obtain ⟨vs, hv, h1⟩ := r
    exact ⟨vs, hv, RepL.mono h cs vs h1⟩
theorem RepL.mono {L : Lk} {g g' : Gh} {w w' : World} (h : GE g w g' w') : ∀ (x : List AV) (v : List Value), RepL L g w x v → RepL L g' w' x v
  | [], _, r => by simpa [RepL] using r
  | x :: xs, vs, r => by
    simp only [RepL] at r ⊢
    obtain ⟨v, t, hv, h1, h2⟩ := r
    exact ⟨v, t, hv, Rep.mono h x v h1, RepL.mono h xs t h2⟩
end

/- lists -/
theorem RepL.length {L : Lk} {g : Gh} {w : World} : ∀ {xs : List AV} {vs : List Value}, RepL L g w xs vs → vs.length = xs.length
  | [], _, h => by simp only [RepL] at h; simp [h]
  | x :: xs, _, h => by
    simp only [RepL] at h
    obtain ⟨v, r, rfl, _, h2⟩ := h
    simp [RepL.length h2]

theorem RepL.get {L : Lk} {g : Gh} {w : World} : ∀ {xs : List AV} {vs : List Value} {i : Nat} {x : AV}, RepL L g w xs vs → xs[i]? = some x → ∃ v, vs[i]? = some v ∧ Rep L g w x v
  | [], _, _, _, _, h => by simp at h
  | y :: ys, _, i, x, h, hi => by
    simp only [RepL] at h
    obtain ⟨v, r, rfl, h1, h2⟩ := h
    cases i with
    | zero => simp at hi; subst hi; exact ⟨v, rfl, h1⟩
    | succ i => simp at hi; simpa using RepL.get h2 hi

theorem RepL.get' {L : Lk} {g : Gh} {w : World} : ∀ {xs : List AV} {vs : List Value} {i : Nat} {v : Value}, RepL L g w xs vs → vs[i]? = some v → ∃ x, xs[i]? = some x ∧ Rep L g w x v
  | [], _, _, _, h, hi => by simp only [RepL] at h; subst h; simp at hi
  | y :: ys, _, i, x, h, hi => by
    simp only [RepL] at h
    obtain ⟨v, r, rfl, h1, h2⟩ := h
    cases i with
    | zero => simp at hi; subst hi; exact ⟨y, rfl, h1⟩
    | succ i => simp at hi; simpa using RepL.get' h2 hi

theorem RepL.append {L : Lk} {g : Gh} {w : World} : ∀ {xs : List AV} {vs : List Value} {ys : List AV} {us : List Value}, RepL L g w xs vs → RepL L g w ys us → RepL L g w (xs ++ ys) (vs ++ us)
  | [], _, _, _, h, h' => by simp only [RepL] at h; subst h; simpa using h'
  | x :: xs, _, _, _, h, h' => by
    simp only [RepL] at h
    obtain ⟨v, r, rfl, h1, h2⟩ := h
    simp only [List.cons_append, RepL]
    exact ⟨v, _, rfl, h1, RepL.append h2 h'⟩

theorem RepL.of_get {L : Lk} {g : Gh} {w : World} : ∀ {xs : List AV} {vs : List Value}, xs.length = vs.length → (∀ (i : Nat) (x : AV) (v : Value), xs[i]? = some x → vs[i]? = some v → Rep L g w x v) → RepL L g w xs vs
  | [], [], _, _ => by simp [RepL]
  | [], _ :: _, h, _ => by simp at h
  | _ :: _, [], h, _ => by simp at h
  | x :: xs, v :: vs, h, hg => by
    simp only [RepL]
    refine ⟨v, vs, rfl, hg 0 x v rfl rfl, RepL.of_get (by simpa using h) fun i y u h1 h2 => hg (i + 1) y u (by simpa using h1) (by simpa using h2)⟩

theorem RepL.take {L : Lk} {g : Gh} {w : World} {xs : List AV} {vs : List Value} (n : Nat) (h : RepL L g w xs vs) : RepL L g w (xs.take n) (vs.take n) :=
  RepL.of_get (by simp [h.length]) fun i x v h1 h2 => by
    rw [List.getElem?_take] at h1 h2
    split at h1
    · rename_i hi
      simp only [hi, if_true] at h2
      obtain ⟨u, hu, hr⟩ := h.get h1
      rw [hu] at h2; cases h2; exact hr
    · cases h1

theorem RepL.drop {L : Lk} {g : Gh} {w : World} {xs : List AV} {vs : List Value} (n : Nat) (h : RepL L g w xs vs) : RepL L g w (xs.drop n) (vs.drop n) :=
  RepL.of_get (by simp [h.length]) fun i x v h1 h2 => by
    rw [List.getElem?_drop] at h1 h2
    obtain ⟨u, hu, hr⟩ := h.get h1
    rw [hu] at h2; cases h2; exact hr

theorem RepL.set {L : Lk} {g : Gh} {w : World} {xs : List AV} {vs : List Value} {i : Nat} {x : AV} {v : Value} (h : RepL L g w xs vs) (hx : Rep L g w x v) : RepL L g w (xs.set i x) (vs.set i v) :=
  RepL.of_get (by simp [h.length]) fun j y u h1 h2 => by
    rw [List.getElem?_set] at h1 h2
    by_cases e : i = j
    · subst e
      simp only [if_true] at h1 h2
      split at h1
      · split at h2
        · cases h1; cases h2; exact hx
        · cases h2
      · cases h1
    · simp only [e, if_false] at h1 h2
      obtain ⟨u', hu, hr⟩ := h.get h1
      rw [hu] at h2; cases h2; exact hr

theorem RepL.singleton {L : Lk} {g : Gh} {w : World} {x : AV} {v : Value} (h : Rep L g w x v) : RepL L g w [x] [v] := by
  simp only [RepL]; exact ⟨v, [], rfl, h, rfl⟩

theorem RepL.map {L : Lk} {g : Gh} {w : World} {α : Type} (f : α → AV) (h : α → Value) : ∀ (l : List α), (∀ x ∈ l, Rep L g w (f x) (h x)) → RepL L g w (l.map f) (l.map h)
  | [], _ => by simp [RepL]
  | x :: l, hx => by
    simp only [List.map_cons, RepL]
    exact ⟨_, _, rfl, hx x (by simp), RepL.map f h l fun y hy => hx y (by simp [hy])⟩

/- a value's cells -/
theorem Rep.cells {L : Lk} {g : Gh} {w : World} {x : AV} {v : Value} {cs : List AV} (h : Rep L g w x v) (hc : x.cells? = some cs) :
    RepL L g w cs v.cells.toList ∧ (∀ u ∈ v.cells.toList, oneCell u) ∧ v.cells.size = cs.length := by
  have one : ∀ {u : Value}, u = v → oneCell u → v.cells = #[v] → cs = [x] → RepL L g w cs v.cells.toList ∧ (∀ u ∈ v.cells.toList, oneCell u) ∧ v.cells.size = cs.length := by
    intro u hu ho he hcs
    subst hcs; subst hu; rw [he]
    exact ⟨by simpa using RepL.singleton h, by simpa using ho, rfl⟩
  cases x with
  | agg l =>
    simp only [AV.cells?, Option.some.injEq] at hc
    subst hc
    simp only [Rep] at h
    obtain ⟨vs, rfl, hr, ho⟩ := h
    exact ⟨by simpa [Value.cells] using hr, by simpa [Value.cells] using ho, by simp [Value.cells, hr.length]⟩
  | junk => simp [AV.cells?] at hc
  | tup _ => simp [AV.cells?] at hc
  | map i =>
    simp only [AV.cells?, Option.some.injEq] at hc
    cases i <;> simp only [Rep] at h
    · subst h; exact one rfl trivial rfl hc.symm
    · obtain ⟨b, _, rfl⟩ := h; exact one rfl trivial rfl hc.symm
  | bool _ => simp only [AV.cells?, Option.some.injEq, Rep] at hc h; subst h; exact one rfl trivial rfl hc.symm
  | int _ _ => simp only [AV.cells?, Option.some.injEq, Rep] at hc h; subst h; exact one rfl trivial rfl hc.symm
  | str _ => simp only [AV.cells?, Option.some.injEq, Rep] at hc h; subst h; exact one rfl trivial rfl hc.symm
  | nilp => simp only [AV.cells?, Option.some.injEq, Rep] at hc h; subst h; exact one rfl trivial rfl hc.symm
  | nilf => simp only [AV.cells?, Option.some.injEq, Rep] at hc h; subst h; exact one rfl trivial rfl hc.symm
  | nilif => simp only [AV.cells?, Option.some.injEq, Rep] at hc h; subst h; exact one rfl trivial rfl hc.symm
  | ptr _ _ => simp only [AV.cells?, Option.some.injEq, Rep] at hc h; obtain ⟨_, _, rfl⟩ := h; exact one rfl trivial rfl hc.symm
  | rptr _ _ => simp only [AV.cells?, Option.some.injEq, Rep] at hc h; obtain ⟨_, _, _, rfl, _⟩ := h; exact one rfl trivial rfl hc.symm
  | sl _ _ _ => simp only [AV.cells?, Option.some.injEq, Rep] at hc h; obtain ⟨_, _, _, rfl, _⟩ := h; exact one rfl trivial rfl hc.symm
  | raw _ _ _ => simp [AV.cells?] at hc
  | msl _ _ _ _ => simp only [AV.cells?, Option.some.injEq, Rep] at hc h; obtain ⟨_, _, _, _, rfl, _⟩ := h; exact one rfl trivial rfl hc.symm
  | fn _ _ _ => simp only [AV.cells?, Option.some.injEq, Rep] at hc h; obtain ⟨_, _, rfl, _⟩ := h; exact one rfl trivial rfl hc.symm
  | yield _ => simp only [AV.cells?, Option.some.injEq, Rep] at hc h; obtain ⟨_, _, rfl⟩ := h; exact one rfl trivial rfl hc.symm
  | iface _ _ => simp only [AV.cells?, Option.some.injEq, Rep] at hc h; obtain ⟨_, rfl, _⟩ := h; exact one rfl trivial rfl hc.symm
end Ab

/- Tokens taken away; the relation of states; what stays from state to state. No condition. -/
namespace Ab
open Go

mutual
theorem AV.untok_idem : ∀ x : AV, x.untok.untok = x.untok
  | .bool _ | .int _ _ | .str _ | .nilp | .ptr _ _ | .raw _ _ _ | .msl _ _ _ _ | .map _ | .yield _ | .nilf | .nilif | .junk | .rptr _ _ => by simp [AV.untok]
  | .sl o z xs => by cases o <;> simp [AV.untok]
  | .fn _ a c => by simp [AV.untok, AV.untokL_idem a, AV.untokL_idem c]
  | .iface _ v => by simp [AV.untok, AV.untok_idem v]
  | .agg xs => by simp [AV.untok, AV.untokL_idem xs]
  | .tup xs => by simp [AV.untok, AV.untokL_idem xs]
theorem AV.untokL_idem : ∀ x : List AV, AV.untokL (AV.untokL x) = AV.untokL x
  | [] => rfl
  | x :: xs => by simp [AV.untokL, AV.untok_idem x, AV.untokL_idem xs]
end

theorem AV.untokL_eq (xs : List AV) : AV.untokL xs = xs.map AV.untok := by
  induction xs with
  | nil => rfl
  | cons x xs ih => simp [AV.untokL, ih]
theorem AV.untokL_append (xs ys : List AV) : AV.untokL (xs ++ ys) = AV.untokL xs ++ AV.untokL ys := by simp [AV.untokL_eq]
theorem AV.untokL_length (xs : List AV) : (AV.untokL xs).length = xs.length := by simp [AV.untokL_eq]

mutual
theorem Rep.untok {L : Lk} {g g' : Gh} {w w' : World} (d : Bool) (hb : d = false → (∀ (i b : Nat), g.bl[i]? = some b → g'.bl[i]? = some b) ∧ Wide w w')
    (hi : ∀ b o, g.imm b o → g'.imm b o ∧ w'.cell? ⟨b, o, none⟩ = w.cell? ⟨b, o, none⟩) : ∀ (x : AV) (v : Value), (d = true → x.data = true) → Rep L g w x v → Rep L g' w' x.untok v
  | .bool _, _, _, r | .int _ _, _, _, r | .str _, _, _, r | .nilp, _, _, r | .nilf, _, _, r | .nilif, _, _, r | .map none, _, _, r => by simpa [Rep, AV.untok] using r
  | .junk, _, _, _ => by simp [Rep, AV.untok]
  | .raw _ _ _, _, _, _ => by simp [Rep, AV.untok]
  | .ptr i off, v, hd, r => by
    cases d
    · simp only [Rep, AV.untok] at r ⊢
      obtain ⟨b, hb', hv⟩ := r
      exact ⟨b, (hb rfl).1 _ _ hb', hv⟩
    · exact absurd (hd rfl) (by simp [AV.data])
  | .map (some i), v, hd, r => by
    cases d
    · simp only [Rep, AV.untok] at r ⊢
      obtain ⟨b, hb', hv⟩ := r
      exact ⟨b, (hb rfl).1 _ _ hb', hv⟩
    · exact absurd (hd rfl) (by simp [AV.data])
  | .yield i, v, hd, r => by
    cases d
    · simp only [Rep, AV.untok] at r ⊢
      obtain ⟨b, hb', hv⟩ := r
      exact ⟨b, (hb rfl).1 _ _ hb', hv⟩
    · exact absurd (hd rfl) (by simp [AV.data])
  | .msl i off _ n, v, hd, r => by
    cases d
    · simp only [Rep, AV.untok] at r ⊢
      obtain ⟨b, a, c, hb', hv, hn, hc⟩ := r
      exact ⟨b, a, c, (hb rfl).1 _ _ hb', hv, hn, fun hp => ⟨(hc hp).1, (hb rfl).2.room (hc hp).2⟩⟩
    · exact absurd (hd rfl) (by simp [AV.data])
  | .rptr x off, v, hd, r => by
    simp only [Rep, AV.untok] at r ⊢
    obtain ⟨b, o, xv, hv, hu, hr, hl⟩ := r
    refine ⟨b, o, xv, hv, hu, ?_, fun j c hj => ?_⟩
    · have := Rep.untok d hb hi x xv (fun e => by simpa [AV.data] using hd e) hr
      rwa [hu] at this
    · obtain ⟨h1, h2⟩ := hl j c hj
      obtain ⟨h3, h4⟩ := hi _ _ h1
      exact ⟨h3, h4.trans h2⟩
  | .sl own sz xs, v, hd, r => by
    have key : ∀ own' : Own, (∀ a len cap, OwnOk g own sz a len cap → OwnOk g' own' sz a len cap) → Rep L g w (.sl own sz xs) v → Rep L g' w' (.sl own' sz xs) v := by
      intro own' ho' r
      simp only [Rep] at r ⊢
      obtain ⟨a, cap, vs, hv, hc, hu, hr, hs, hl, ho⟩ := r
      have hr' := RepL.untok d hb hi xs vs (fun e => by simpa [AV.data] using hd e) hr
      rw [hu] at hr'
      cases a with
      | none => exact ⟨none, cap, vs, hv, hc, hu, hr', hs, hl, ho' _ _ _ ho⟩
      | some p =>
        refine ⟨some p, cap, vs, hv, hc, hu, hr', hs, ⟨hl.1, fun j c hj => ?_⟩, ho' _ _ _ ho⟩
        obtain ⟨h1, h2⟩ := hl.2 j c hj
        obtain ⟨h3, h4⟩ := hi _ _ h1
        exact ⟨h3, h4.trans h2⟩
    cases own with
    | tok t => simp only [AV.untok]; exact key .any (fun _ _ _ h => h.1) r
    | any => simp only [AV.untok]; exact key .any (fun _ _ _ h => h) r
    | nil => simp only [AV.untok]; exact key .nil (fun _ _ _ h => h) r
    | full => simp only [AV.untok]; exact key .full (fun _ _ _ h => h) r
  | .fn f first caps, v, hd, r => by
    simp only [Rep, AV.untok] at r ⊢
    obtain ⟨fs, cs, hv, h1, h2⟩ := r
    exact ⟨fs, cs, hv, RepL.untok d hb hi first fs (fun e => by have := hd e; simp [AV.data] at this; exact this.1) h1,
      RepL.untok d hb hi caps cs (fun e => by have := hd e; simp [AV.data] at this; exact this.2) h2⟩
  | .iface t x, v, hd, r => by
    simp only [Rep, AV.untok] at r ⊢
    obtain ⟨u, hv, h1⟩ := r
    exact ⟨u, hv, Rep.untok d hb hi x u (fun e => by simpa [AV.data] using hd e) h1⟩
  | .agg cs, v, hd, r => by
    simp only [Rep, AV.untok] at r ⊢
    obtain ⟨vs, hv, h1, h2⟩ := r
    exact ⟨vs, hv, RepL.untok d hb hi cs vs (fun e => by simpa [AV.data] using hd e) h1, h2⟩
  | .tup cs, v, hd, r => by
    simp only [Rep, AV.untok] at r ⊢
    obtain ⟨vs, hv, h1⟩ := r
    exact ⟨vs, hv, RepL.untok d hb hi cs vs (fun e => by simpa [AV.data] using hd e) h1⟩
theorem RepL.untok {L : Lk} {g g' : Gh} {w w' : World} (d : Bool) (hb : d = false → (∀ (i b : Nat), g.bl[i]? = some b → g'.bl[i]? = some b) ∧ Wide w w')
    (hi : ∀ b o, g.imm b o → g'.imm b o ∧ w'.cell? ⟨b, o, none⟩ = w.cell? ⟨b, o, none⟩) : ∀ (x : List AV) (v : List Value), (d = true → AV.dataL x = true) → RepL L g w x v → RepL L g' w' (AV.untokL x) v
  | [], _, _, r => by simpa [RepL, AV.untokL] using r
  | x :: xs, vs, hd, r => by
    simp only [RepL, AV.untokL] at r ⊢
    obtain ⟨v, t, hv, h1, h2⟩ := r
    exact ⟨v, t, hv, Rep.untok d hb hi x v (fun e => by have := hd e; simp [AV.dataL] at this; exact this.1) h1,
      RepL.untok d hb hi xs t (fun e => by have := hd e; simp [AV.dataL] at this; exact this.2) h2⟩
end

theorem Rep.untok_same {L : Lk} {g : Gh} {w : World} {x : AV} {v : Value} (h : Rep L g w x v) : Rep L g w x.untok v :=
  Rep.untok false (fun _ => ⟨fun _ _ h => h, .refl _⟩) (fun _ _ h => ⟨h, rfl⟩) x v (fun e => by cases e) h
theorem RepL.untok_same {L : Lk} {g : Gh} {w : World} {x : List AV} {v : List Value} (h : RepL L g w x v) : RepL L g w (AV.untokL x) v :=
  RepL.untok false (fun _ => ⟨fun _ _ h => h, .refl _⟩) (fun _ _ h => ⟨h, rfl⟩) x v (fun e => by cases e) h

/- entries of a map, as they lie -/
def RepM (L : Lk) (g : Gh) (w : World) (es : List (AV × AV)) (cs : List MapEntry) : Prop :=
  es.length = cs.length ∧ ∀ (i : Nat) (k v : AV) (e : MapEntry), es[i]? = some (k, v) → cs[i]? = some e → Rep L g w k e.key ∧ Rep L g w v e.val

/- when the entries of a map were laid -/
def Born (cs : List MapEntry) (cl : Nat) : Prop := (∀ x ∈ cs, x.born < cl) ∧ (cs.map (·.born)).Nodup

def PendRep : Option Pend → Option Code → Prop
  | none, c => c = none
  | some (.exit id), c => c = some (.exit id)
  | some .ret, c => c = some .ret
def LStRep : LSt → LoopState → Prop
  | .ready, s => s = .ready
  | .busy, s => s = .busy
  | .done, s => s = .done
  | .exhausted, s => s = .exhausted

/- the slots of a frame -/
def EnvR (L : Lk) (g : Gh) (w : World) (e : Env) (tm : Array Value) : Prop := ∀ i, Rep L g w (e.get i) (tm.getD i undef)

/- how a code of the machine is checked against an abstract one: given with the frame's number of slots -/
abbrev CodeR := Nat → List Nat → ICode → Code → Prop

/- the slots that an environment names -/
def EnvD (vars : List Nat) (e : Env) : Prop := ∀ p, p ∈ e → vars.contains p.1 = true

def BRel (L : Lk) (C : CodeR) (g : Gh) (w : World) : AB → Nat → Prop
  | .cells cs, b => ∃ vs rest e, w.heap[b]? = some (.cells (vs ++ rest).toArray e (0, 0)) ∧ RepL L g w cs vs ∧ ∀ u ∈ vs, oneCell u
  | .amap es, b => ∃ cs clock, w.heap[b]? = some (.map cs clock) ∧ RepM L g w es cs.toList ∧ Born cs.toList clock
  | .dead, b => ∃ c e, w.heap[b]? = some (.cells c e (0, 0))
  | .siter s p, b => w.heap[b]? = some (.stringIter ⟨s.toArray⟩ p)
  | .loop l, b => b ∈ g.lps ∧ ∃ lp N vars, w.heap[b]? = some (.loop lp) ∧ LStRep l.st lp.state ∧ PendRep l.pend lp.pending ∧ lp.params = l.ps.toArray ∧ N ≤ lp.tmps.size ∧
      C N vars l.assign lp.assign ∧ C N vars l.body lp.body ∧ EnvR L g w l.env lp.tmps ∧ EnvD vars l.env ∧ (∀ p ∈ l.ps, p < N ∧ vars.contains p = true)

structure TokOk (g : Gh) (w : World) (T : TokI) : Prop where
  spot : T.a.spot = none
  space : ∃ c e fz, w.heap[T.a.block]? = some (.cells c e fz) ∧ T.a.off + T.cap * T.sz ≤ c.size ∧ (∀ o, o < c.size → ¬ (fz.1 ≤ o ∧ o < fz.2))
  top : T.top ≤ T.cap
  free : ∀ o, T.a.off + T.top * T.sz ≤ o → ¬ g.imm T.a.block o
  own : T.a.block ∉ g.bl
  base : g.base ≤ T.a.block

structure StR (L : Lk) (C : CodeR) (g : Gh) (s : St) (w : World) : Prop where
  bl : g.bl.length = s.bl.length
  tk : g.tk.map (·.top) = s.tk
  blocks : ∀ (i b : Nat) (x : AB), g.bl[i]? = some b → s.bl[i]? = some x → BRel L C g w x b
  inj : ∀ (i j b : Nat), g.bl[i]? = some b → g.bl[j]? = some b → i = j ∨ ((s.bl[i]? = some .dead ∨ s.bl[j]? = some .dead) ∧ (s.ro ≤ i ↔ s.ro ≤ j))
  sep : ∀ (i b o : Nat), g.bl[i]? = some b → ¬ g.imm b o
  blBase : ∀ (i b : Nat), g.bl[i]? = some b → g.base ≤ b
  toks : ∀ (t : Nat) (T : TokI), g.tk[t]? = some T → TokOk g w T
  tokInj : ∀ (t u : Nat) (T U : TokI), g.tk[t]? = some T → g.tk[u]? = some U → T.a.block = U.a.block → t = u
  immIn : ∀ b o, g.imm b o → b < w.heap.size
  baseIn : g.base ≤ w.heap.size
  dfr : ∀ d, d ∈ g.dfr → w.heap[d]? = some (.deferred (some [])) ∧ g.base ≤ d
  lps : ∀ d, d ∈ g.lps → ∃ lp, w.heap[d]? = some (.loop lp)
  ro : s.ro ≤ s.bl.length
  rt : s.rt ≤ s.tk.length

structure Ext (g : Gh) (s : St) (w : World) (g' : Gh) (s' : St) (w' : World) : Prop where
  ge : GE g w g' w'
  dfr : ∀ d, d ∈ g.dfr → d ∈ g'.dfr
  base : g'.base = g.base
  old : ∀ b, b < g.base → w'.heap[b]? = w.heap[b]?
  size : w.heap.size ≤ w'.heap.size
  os : w'.os = w.os
  out : w'.output = w.output
  tape : w'.tape = w.tape
  ro : s'.ro = s.ro
  rt : s'.rt = s.rt
  bls : ∀ i, i < s.ro → s'.bl[i]? = s.bl[i]?
  tks : ∀ i, i < s.rt → s'.tk[i]? = s.tk[i]?
  hp : ∀ (i b : Nat), i < s.ro → g.bl[i]? = some b → w'.heap[b]? = w.heap[b]?
  immOld : ∀ b o, b < g.base → g'.imm b o → g.imm b o

theorem Ext.refl (g : Gh) (s : St) (w : World) : Ext g s w g s w := ⟨.refl _ _, fun _ h => h, rfl, fun _ _ => rfl, Nat.le_refl _, rfl, rfl, rfl, rfl, rfl, fun _ _ => rfl, fun _ _ => rfl, fun _ _ _ _ => rfl, fun _ _ _ h => h⟩

theorem Ext.trans {g g1 g2 : Gh} {s s1 s2 : St} {w w1 w2 : World} (h : Ext g s w g1 s1 w1) (h' : Ext g1 s1 w1 g2 s2 w2) : Ext g s w g2 s2 w2 where
  ge := h.ge.trans h'.ge
  dfr d hd := h'.dfr d (h.dfr d hd)
  base := h'.base.trans h.base
  old b hb := (h'.old b (by rw [h.base]; exact hb)).trans (h.old b hb)
  size := Nat.le_trans h.size h'.size
  os := h'.os.trans h.os
  out := h'.out.trans h.out
  tape := h'.tape.trans h.tape
  ro := h'.ro.trans h.ro
  rt := h'.rt.trans h.rt
  bls i hi := (h'.bls i (by rw [h.ro]; exact hi)).trans (h.bls i hi)
  tks i hi := (h'.tks i (by rw [h.rt]; exact hi)).trans (h.tks i hi)
  hp i b hi hb := (h'.hp i b (by rw [h.ro]; exact hi) (h.ge.bl i b hb)).trans (h.hp i b hi hb)
  immOld b o hb hi := h.immOld b o hb (h'.immOld b o (by rw [h.base]; exact hb) hi)

theorem EnvR.mono {L : Lk} {g g' : Gh} {w w' : World} (h : GE g w g' w') {e : Env} {tm : Array Value} (r : EnvR L g w e tm) : EnvR L g' w' e tm := fun i => Rep.mono h _ _ (r i)

theorem RepM.mono {L : Lk} {g g' : Gh} {w w' : World} (h : GE g w g' w') {es : List (AV × AV)} {cs : List MapEntry} (r : RepM L g w es cs) : RepM L g' w' es cs :=
  ⟨r.1, fun i k v e h1 h2 => ⟨Rep.mono h _ _ (r.2 i k v e h1 h2).1, Rep.mono h _ _ (r.2 i k v e h1 h2).2⟩⟩

theorem BRel.mono {L : Lk} {C : CodeR} {g g' : Gh} {w w' : World} (h : GE g w g' w') {x : AB} {b : Nat} (hb : w'.heap[b]? = w.heap[b]?) (r : BRel L C g w x b) : BRel L C g' w' x b := by
  cases x with
  | cells cs =>
    obtain ⟨vs, rest, e, h1, h2, h3⟩ := r
    exact ⟨vs, rest, e, hb.trans h1, RepL.mono h _ _ h2, h3⟩
  | amap es =>
    obtain ⟨cs, cl, h1, h2, h3⟩ := r
    exact ⟨cs, cl, hb.trans h1, h2.mono h, h3⟩
  | siter s p => exact hb.trans r
  | dead => obtain ⟨c, e, h1⟩ := r; exact ⟨c, e, hb.trans h1⟩
  | loop l =>
    obtain ⟨h0, lp, N, vars, h1, h2, h3, h4, h5, h6, h7, h8, h9, h10⟩ := r
    exact ⟨h.lps _ h0, lp, N, vars, hb.trans h1, h2, h3, h4, h5, h6, h7, h8.mono h, h9, h10⟩
end Ab

/- The steps of a state: nothing, a new block, a new row that is never written, a row that grows, a store. No condition. -/
namespace Ab
open Go

structure Same (w w' : World) : Prop where
  os : w'.os = w.os
  out : w'.output = w.output
  tape : w'.tape = w.tape

theorem cell?_congr {w w' : World} {b : Nat} (h : w'.heap[b]? = w.heap[b]?) (o : Nat) : w'.cell? ⟨b, o, none⟩ = w.cell? ⟨b, o, none⟩ := by
  simp only [World.cell?, h]

theorem cell?_of {w : World} {b o : Nat} {c : Array Value} {e : TypeId} {fz : Nat × Nat} (h : w.heap[b]? = some (.cells c e fz)) : w.cell? ⟨b, o, none⟩ = c[o]? := by
  simp [World.cell?, h]

theorem lt_of_heap {w : World} {b : Nat} {o : Obj} (h : w.heap[b]? = some o) : b < w.heap.size := (Array.getElem?_eq_some_iff.1 h).1

theorem TokOk.same {g : Gh} {w w' : World} {T : TokI} (h : TokOk g w T) (hh : w'.heap[T.a.block]? = w.heap[T.a.block]?) : TokOk g w' T :=
  ⟨h.spot, by obtain ⟨c, e, fz, h1, h2⟩ := h.space; exact ⟨c, e, fz, hh.trans h1, h2⟩, h.top, h.free, h.own, h.base⟩

theorem BRel.lt {L : Lk} {C : CodeR} {g : Gh} {w : World} {x : AB} {b : Nat} (h : BRel L C g w x b) : ∃ o, w.heap[b]? = some o ∧ b < w.heap.size := by
  cases x with
  | cells cs => obtain ⟨vs, rest, e, h1, _⟩ := h; exact ⟨_, h1, lt_of_heap h1⟩
  | amap es => obtain ⟨cs, cl, h1, _⟩ := h; exact ⟨_, h1, lt_of_heap h1⟩
  | siter s p => exact ⟨_, h, lt_of_heap h⟩
  | dead => obtain ⟨c, e, h1⟩ := h; exact ⟨_, h1, lt_of_heap h1⟩
  | loop l => obtain ⟨_, lp, _, _, h1, _⟩ := h; exact ⟨_, h1, lt_of_heap h1⟩

theorem BRel.notDeferred {L : Lk} {C : CodeR} {g : Gh} {w : World} {x : AB} {b : Nat} (h : BRel L C g w x b) {r} (hd : w.heap[b]? = some (.deferred r)) : False := by
  cases x with
  | cells cs => obtain ⟨vs, rest, e, h1, _⟩ := h; rw [h1] at hd; cases hd
  | amap es => obtain ⟨cs, cl, h1, _⟩ := h; rw [h1] at hd; cases hd
  | siter s p => rw [show w.heap[b]? = _ from h] at hd; cases hd
  | dead => obtain ⟨c, e, h1⟩ := h; rw [h1] at hd; cases hd
  | loop l => obtain ⟨_, lp, _, _, h1, _⟩ := h; rw [h1] at hd; cases hd

section
variable {L : Lk} {C : CodeR} {g : Gh} {s : St} {w w' : World}

theorem StR.bl? (h : StR L C g s w) {i : Nat} {x : AB} (hx : s.bl[i]? = some x) : ∃ b, g.bl[i]? = some b ∧ BRel L C g w x b := by
  have hi : i < g.bl.length := by rw [h.bl]; exact (List.getElem?_eq_some_iff.1 hx).1
  exact ⟨g.bl[i], List.getElem?_eq_getElem hi, h.blocks i _ x (List.getElem?_eq_getElem hi) hx⟩

theorem StR.ab? (h : StR L C g s w) {i b : Nat} (hb : g.bl[i]? = some b) : ∃ x, s.bl[i]? = some x ∧ BRel L C g w x b := by
  have hi : i < s.bl.length := by rw [← h.bl]; exact (List.getElem?_eq_some_iff.1 hb).1
  exact ⟨s.bl[i], List.getElem?_eq_getElem hi, h.blocks i b _ hb (List.getElem?_eq_getElem hi)⟩

theorem StR.lt (h : StR L C g s w) {i b : Nat} (hb : g.bl[i]? = some b) : b < w.heap.size := by
  obtain ⟨x, _, hx⟩ := h.ab? hb
  exact hx.lt.elim fun _ hx => hx.2

/- nothing in memory changes -/
theorem StR.same (h : StR L C g s w) (hh : w'.heap = w.heap) (hs : Same w w') : StR L C g s w' ∧ Ext g s w g s w' := by
  have hge : GE g w g w' := ⟨fun _ _ h => h, fun _ T h => ⟨T, h, Nat.le_refl _, fun _ => rfl⟩, fun _ _ hb => ⟨hb, cell?_congr (by rw [hh]) _⟩, fun _ h => h, .of fun b _ => by rw [hh]⟩
  refine ⟨⟨h.bl, h.tk, fun i b x hb hx => (h.blocks i b x hb hx).mono hge (by rw [hh]), h.inj, h.sep, h.blBase, fun t T hT => (h.toks t T hT).same (by rw [hh]), h.tokInj,
    by rw [hh]; exact h.immIn, by rw [hh]; exact h.baseIn, by rw [hh]; exact h.dfr, by rw [hh]; exact h.lps, h.ro, h.rt⟩,
    ⟨hge, fun _ h => h, rfl, fun b _ => by rw [hh], by rw [hh]; exact Nat.le_refl _, hs.os, hs.out, hs.tape, rfl, rfl, fun _ _ => rfl, fun _ _ => rfl, fun _ _ _ _ => by rw [hh], fun _ _ _ h => h⟩⟩

theorem push_old {w w' : World} {o : Obj} (hw : w'.heap = w.heap.push o) {b : Nat} (hb : b < w.heap.size) : w'.heap[b]? = w.heap[b]? := by
  rw [hw, Array.getElem?_push]; simp [Nat.ne_of_lt hb]
theorem push_new {w w' : World} {o : Obj} (hw : w'.heap = w.heap.push o) : w'.heap[w.heap.size]? = some o := by
  rw [hw, Array.getElem?_push]; simp

/- what all steps with a new block share: g' agrees with g on blocks, tokens keep, what is never written grows by cells of the new block alone -/
theorem GE.fresh (h : StR L C g s w) {o : Obj} (hw : w'.heap = w.heap.push o) {g' : Gh} (hbl : ∀ (i b : Nat), g.bl[i]? = some b → g'.bl[i]? = some b)
    (htk : ∀ (t : Nat) (T : TokI), g.tk[t]? = some T → ∃ T', g'.tk[t]? = some T' ∧ T.top ≤ T'.top ∧ (T'.top = T.top → T' = T)) (himm : ∀ b o, g.imm b o → g'.imm b o)
    (hl : ∀ d, d ∈ g.lps → d ∈ g'.lps) : GE g w g' w' :=
  ⟨hbl, htk, fun b o hb => ⟨himm b o hb, cell?_congr (push_old hw (h.immIn b o hb)) _⟩, hl, .of fun b hb => push_old hw hb⟩

theorem StR.push (h : StR L C g s w) {o : Obj} {ab : AB} (hw : w'.heap = w.heap.push o) (hs : Same w w') (ls : List Nat)
    (hls : ∀ d ∈ ls, d = w.heap.size ∧ ∃ lp, o = .loop lp)
    (hb : GE g w { g with bl := g.bl ++ [w.heap.size], lps := ls ++ g.lps } w' → BRel L C { g with bl := g.bl ++ [w.heap.size], lps := ls ++ g.lps } w' ab w.heap.size) :
    StR L C { g with bl := g.bl ++ [w.heap.size], lps := ls ++ g.lps } (s.push ab) w' ∧ Ext g s w { g with bl := g.bl ++ [w.heap.size], lps := ls ++ g.lps } (s.push ab) w' := by
  have hge : GE g w { g with bl := g.bl ++ [w.heap.size], lps := ls ++ g.lps } w' :=
    GE.fresh h hw (fun i b hi => by rw [List.getElem?_append_left (List.getElem?_eq_some_iff.1 hi).1]; exact hi) (fun _ T hT => ⟨T, hT, Nat.le_refl _, fun _ => rfl⟩) (fun _ _ h => h)
      (fun _ h => List.mem_append_right _ h)
  have hsz : w'.heap.size = w.heap.size + 1 := by rw [hw]; simp
  have hcase : ∀ (i b : Nat), (g.bl ++ [w.heap.size])[i]? = some b → (g.bl[i]? = some b ∧ i < g.bl.length) ∨ (i = g.bl.length ∧ b = w.heap.size) := by
    intro i b hi
    by_cases hlt : i < g.bl.length
    · rw [List.getElem?_append_left hlt] at hi; exact .inl ⟨hi, hlt⟩
    · rw [List.getElem?_append_right (by omega)] at hi
      have : i - g.bl.length = 0 := by
        rcases Nat.eq_zero_or_pos (i - g.bl.length) with h0 | h0
        · exact h0
        · rw [List.getElem?_eq_none (by simp; omega)] at hi; cases hi
      rw [this] at hi; simp at hi
      exact .inr ⟨by omega, hi.symm⟩
  refine ⟨⟨by simp [St.push, h.bl], h.tk, ?_, ?_, ?_, ?_, ?_, h.tokInj, ?_, by have := h.baseIn; simp only [hsz]; omega, ?_, ?_, ?_, h.rt⟩, ?_⟩
  · intro i b x hi hx
    rcases hcase i b hi with ⟨hi', hlt⟩ | ⟨rfl, rfl⟩
    · have hx' : s.bl[i]? = some x := by simpa [St.push, List.getElem?_append_left (show i < s.bl.length by rw [← h.bl]; exact hlt)] using hx
      exact (h.blocks i b x hi' hx').mono hge (push_old hw (h.lt hi'))
    · simp only [St.push, h.bl, List.getElem?_concat_length, Option.some.injEq] at hx
      subst hx; exact hb hge
  · intro i j b hi hj
    rcases hcase i b hi with ⟨hi', hlt⟩ | ⟨hi1, hi2⟩ <;> rcases hcase j b hj with ⟨hj', hlt'⟩ | ⟨hj1, hj2⟩
    · have hi2 : i < s.bl.length := by rw [← h.bl]; exact hlt
      have hj2 : j < s.bl.length := by rw [← h.bl]; exact hlt'
      rcases h.inj i j b hi' hj' with he | ⟨hd, hr⟩
      · exact .inl he
      · exact .inr ⟨by simp only [St.push, List.getElem?_append_left hi2, List.getElem?_append_left hj2]; exact hd, hr⟩
    · have := h.lt hi'; omega
    · have := h.lt hj'; omega
    · exact .inl (by omega)
  · intro i b o hi himm
    rcases hcase i b hi with ⟨hi', hlt⟩ | ⟨hi1, hi2⟩
    · exact h.sep i b o hi' himm
    · have := h.immIn b o himm; omega
  · intro i b hi
    rcases hcase i b hi with ⟨hi', hlt⟩ | ⟨hi1, hi2⟩
    · exact h.blBase i b hi'
    · have := h.baseIn; show g.base ≤ b; omega
  · intro t T hT
    have hT' := h.toks t T hT
    obtain ⟨c, e, fz, h1, _⟩ := hT'.space
    have hlt := lt_of_heap h1
    have := hT'.same (push_old hw hlt)
    exact ⟨this.spot, this.space, this.top, this.free, by
      intro hm
      rcases List.mem_append.1 hm with hm | hm
      · exact hT'.own hm
      · simp at hm; omega, this.base⟩
  · intro b o hb'; have := h.immIn b o hb'; simp only [hsz]; omega
  · intro d hd
    obtain ⟨h1, h2⟩ := h.dfr d hd
    exact ⟨by rw [push_old hw (lt_of_heap h1)]; exact h1, h2⟩
  · intro d hd
    rcases List.mem_append.1 hd with hd | hd
    · obtain ⟨rfl, lp, rfl⟩ := hls d hd
      exact ⟨lp, push_new hw⟩
    · obtain ⟨lp, h1⟩ := h.lps d hd
      exact ⟨lp, by rw [push_old hw (lt_of_heap h1)]; exact h1⟩
  · have := h.ro; simp only [St.push, List.length_append, List.length_singleton]; omega
  · refine ⟨hge, fun _ h => h, rfl, fun b hb' => push_old hw (by have := h.baseIn; omega), by omega, hs.os, hs.out, hs.tape, rfl, rfl, ?_, fun _ _ => rfl, fun i b hi hb' => push_old hw (h.lt hb'), fun _ _ _ h => h⟩
    intro i hi
    have := h.ro
    show (s.bl ++ [ab])[i]? = _
    rw [List.getElem?_append_left (by omega)]

/- a new object among the deferred ones -/
theorem StR.pushDfr (h : StR L C g s w) (hw : w'.heap = w.heap.push (.deferred (some []))) (hs : Same w w') :
    StR L C { g with dfr := w.heap.size :: g.dfr } s w' ∧ Ext g s w { g with dfr := w.heap.size :: g.dfr } s w' := by
  have hge : GE g w { g with dfr := w.heap.size :: g.dfr } w' :=
    GE.fresh h hw (fun _ _ h => h) (fun _ T hT => ⟨T, hT, Nat.le_refl _, fun _ => rfl⟩) (fun _ _ h => h) (fun _ h => h)
  have hsz : w'.heap.size = w.heap.size + 1 := by rw [hw]; simp
  refine ⟨⟨h.bl, h.tk, fun i b x hi hx => (h.blocks i b x hi hx).mono hge (push_old hw (h.lt hi)), h.inj, h.sep, h.blBase, ?_, h.tokInj, ?_, by have := h.baseIn; simp only [hsz]; omega, ?_, ?_, h.ro, h.rt⟩, ?_⟩
  · intro t T hT
    have hT' := h.toks t T hT
    obtain ⟨c, e, fz, h1, _⟩ := hT'.space
    have := hT'.same (push_old hw (lt_of_heap h1))
    exact ⟨this.spot, this.space, this.top, this.free, this.own, this.base⟩
  · intro b o hb'; have := h.immIn b o hb'; simp only [hsz]; omega
  · intro d hd
    rcases List.mem_cons.1 hd with rfl | hd
    · exact ⟨push_new hw, h.baseIn⟩
    · obtain ⟨h1, h2⟩ := h.dfr d hd
      exact ⟨by rw [push_old hw (lt_of_heap h1)]; exact h1, h2⟩
  · intro d hd
    obtain ⟨lp, h1⟩ := h.lps d hd
    exact ⟨lp, by rw [push_old hw (lt_of_heap h1)]; exact h1⟩
  · exact ⟨hge, fun _ h => List.mem_cons_of_mem _ h, rfl, fun b hb' => push_old hw (by have := h.baseIn; omega), by omega, hs.os, hs.out, hs.tape, rfl, rfl, fun _ _ => rfl, fun _ _ => rfl, fun i b hi hb' => push_old hw (h.lt hb'), fun _ _ _ h => h⟩

/- a new row, all of it or its first cells never written again; with or without a token -/
theorem StR.newRow (h : StR L C g s w) {c : Array Value} {e : TypeId} {fz : Nat × Nat} (hw : w'.heap = w.heap.push (.cells c e fz)) (hs : Same w w') (n : Nat)
    (tk' : List TokI) (hlen : ∀ (t : Nat) (T : TokI), g.tk[t]? = some T → ∃ T', tk'[t]? = some T' ∧ T.top ≤ T'.top ∧ (T'.top = T.top → T' = T))
    (hnew : ∀ (t : Nat) (T : TokI), tk'[t]? = some T → g.tk[t]? = some T ∨ (T.a = ⟨w.heap.size, 0, none⟩ ∧ T.cap * T.sz ≤ c.size ∧ T.top ≤ T.cap ∧ n ≤ T.top * T.sz ∧ (∀ o, o < c.size → ¬ (fz.1 ≤ o ∧ o < fz.2))))
    (hone : ∀ (t u : Nat) (T U : TokI), tk'[t]? = some T → tk'[u]? = some U → T.a.block = w.heap.size → U.a.block = w.heap.size → t = u)
    (hrt : ∀ t, t < s.rt → tk'[t]? = g.tk[t]?) :
    StR L C { g with tk := tk', imm := fun b o => g.imm b o ∨ (b = w.heap.size ∧ o < n) } { s with tk := tk'.map (·.top) } w' ∧
    Ext g s w { g with tk := tk', imm := fun b o => g.imm b o ∨ (b = w.heap.size ∧ o < n) } { s with tk := tk'.map (·.top) } w' := by
  have hge : GE g w { g with tk := tk', imm := fun b o => g.imm b o ∨ (b = w.heap.size ∧ o < n) } w' :=
    GE.fresh h hw (fun _ _ h => h) hlen (fun _ _ h => .inl h) (fun _ h => h)
  have hsz : w'.heap.size = w.heap.size + 1 := by rw [hw]; simp
  have hlt : ∀ (t : Nat) (T : TokI), g.tk[t]? = some T → T.a.block < w.heap.size := by
    intro t T hT
    obtain ⟨c', e', fz', h1, _⟩ := (h.toks t T hT).space
    exact lt_of_heap h1
  have hlen' : s.tk.length ≤ tk'.length := by
    rw [← h.tk, List.length_map]
    rcases Nat.lt_or_ge tk'.length g.tk.length with hlt' | hge'
    · obtain ⟨T', hT', _⟩ := hlen tk'.length g.tk[tk'.length] (List.getElem?_eq_getElem hlt')
      simp at hT'
    · exact hge'
  refine ⟨⟨h.bl, rfl, fun i b x hi hx => (h.blocks i b x hi hx).mono hge (push_old hw (h.lt hi)), h.inj, ?_, h.blBase, ?_, ?_, ?_, by have := h.baseIn; simp only [hsz]; omega, ?_, ?_, h.ro, ?_⟩, ?_⟩
  · rintro i b o hi (hb | ⟨rfl, _⟩)
    · exact h.sep i b o hi hb
    · have := h.lt hi; omega
  · intro t T hT
    rcases hnew t T hT with hT' | ⟨ha, hc, ht, hn, hf⟩
    · have h0 := h.toks t T hT'
      have h1 := h0.same (push_old hw (hlt t T hT'))
      refine ⟨h1.spot, h1.space, h1.top, ?_, h1.own, h1.base⟩
      rintro o ho (hb | ⟨hb, _⟩)
      · exact h1.free o ho hb
      · have := hlt t T hT'; omega
    · refine ⟨by rw [ha], ⟨c, e, fz, by rw [ha]; exact push_new hw, by rw [ha]; simpa using hc, hf⟩, ht, ?_, ?_, by rw [ha]; exact h.baseIn⟩
      · rintro o ho (hb | ⟨_, hb⟩)
        · rw [ha] at hb; have := h.immIn _ _ hb; simp at this
        · rw [ha] at ho; simp at ho; omega
      · rw [ha]; intro hm
        obtain ⟨i, hi⟩ := List.mem_iff_getElem?.1 hm
        have := h.lt hi; simp at this
  · intro t u T U hT hU he
    rcases hnew t T hT with hT' | ⟨ha, _⟩ <;> rcases hnew u U hU with hU' | ⟨ha', _⟩
    · exact h.tokInj t u T U hT' hU' he
    · have := hlt t T hT'; rw [ha'] at he; simp at he; omega
    · have := hlt u U hU'; rw [ha] at he; simp at he; omega
    · exact hone t u T U hT hU (by rw [ha]) (by rw [ha'])
  · rintro b o (hb | ⟨rfl, _⟩)
    · have := h.immIn b o hb; simp only [hsz]; omega
    · simp only [hsz]; omega
  · intro d hd
    obtain ⟨h1, h2⟩ := h.dfr d hd
    exact ⟨by rw [push_old hw (lt_of_heap h1)]; exact h1, h2⟩
  · intro d hd
    obtain ⟨lp, h1⟩ := h.lps d hd
    exact ⟨lp, by rw [push_old hw (lt_of_heap h1)]; exact h1⟩
  · have := h.rt; simp only [List.length_map]; omega
  · refine ⟨hge, fun _ h => h, rfl, fun b hb' => push_old hw (by have := h.baseIn; omega), by omega, hs.os, hs.out, hs.tape, rfl, rfl, fun _ _ => rfl, ?_, fun i b hi hb' => push_old hw (h.lt hb'), fun b o hb h' => h'.elim id fun h2 => absurd hb (by have := h.baseIn; rw [h2.1]; exact Nat.not_lt.2 this)⟩
    intro t ht
    simp only [List.getElem?_map, hrt t ht, ← h.tk]

/- a block of the call's own gets another content -/
theorem StR.setb (h : StR L C g s w) {i b : Nat} (hb : g.bl[i]? = some b) (hro : s.ro ≤ i) {o : Obj} {ab : AB} (hb' : w'.heap[b]? = some o) (hoth : ∀ c, c ≠ b → w'.heap[c]? = w.heap[c]?)
    (hsz : w'.heap.size = w.heap.size) (hs : Same w w') (hnew : GE g w g w' → BRel L C g w' ab b) (hlp : b ∈ g.lps → ∃ lp, o = .loop lp) (hnd : s.bl[i]? ≠ some .dead) (hwd : Wide w w') :
    StR L C g (s.setb i ab) w' ∧ Ext g s w g (s.setb i ab) w' := by
  have hne : ∀ b' o', g.imm b' o' → b' ≠ b := fun b' o' hi e => by subst e; exact h.sep i b' o' hb hi
  have hge : GE g w g w' := ⟨fun _ _ h => h, fun _ T h => ⟨T, h, Nat.le_refl _, fun _ => rfl⟩, fun b' o' hi => ⟨hi, cell?_congr (hoth b' (hne b' o' hi)) _⟩, fun _ h => h, hwd⟩
  refine ⟨⟨by simp [St.setb, h.bl], h.tk, ?_, ?_, h.sep, h.blBase, ?_, h.tokInj, by rw [hsz]; exact h.immIn, by rw [hsz]; exact h.baseIn, ?_, ?_, by simpa [St.setb] using h.ro, h.rt⟩, ?_⟩
  · intro j c x hj hx
    by_cases e : j = i
    · subst e
      rw [hb] at hj; cases hj
      have hx2 : (s.bl.set j ab)[j]? = some x := hx
      rw [List.getElem?_set] at hx2
      simp only [if_true] at hx2
      split at hx2
      · cases hx2; exact hnew hge
      · cases hx2
    · simp only [St.setb, List.getElem?_set_ne (Ne.symm e)] at hx
      by_cases ec : c = b
      · subst ec
        rcases h.inj j i c hj hb with he | ⟨hd, _⟩
        · exact absurd he e
        · have hxd : x = .dead := by
            rcases hd with hd | hd
            · rw [hx] at hd; cases hd; rfl
            · exact absurd hd hnd
          subst hxd
          obtain ⟨c1, e1, h1⟩ := h.blocks j _ _ hj hx
          obtain ⟨c2, e2, h2, _⟩ := hwd _ _ _ _ h1
          exact ⟨c2, e2, h2⟩
      · exact (h.blocks j c x hj hx).mono hge (hoth c ec)
  · intro j1 j2 c h1 h2
    rcases h.inj j1 j2 c h1 h2 with he | ⟨hd, hr⟩
    · exact .inl he
    · refine .inr ⟨?_, hr⟩
      rcases hd with hd | hd
      · have hne' : i ≠ j1 := by rintro rfl; exact hnd hd
        exact .inl (by simp only [St.setb, List.getElem?_set_ne hne']; exact hd)
      · have hne' : i ≠ j2 := by rintro rfl; exact hnd hd
        exact .inr (by simp only [St.setb, List.getElem?_set_ne hne']; exact hd)
  · intro t T hT
    have hT' := h.toks t T hT
    exact hT'.same (hoth _ fun e => hT'.own (by rw [e]; exact List.mem_of_getElem? hb))
  · intro d hd
    obtain ⟨h1, h2⟩ := h.dfr d hd
    refine ⟨?_, h2⟩
    rw [hoth d]
    · exact h1
    · intro e; subst e
      obtain ⟨x, _, hx⟩ := h.ab? hb
      exact hx.notDeferred h1
  · intro d hd
    by_cases e : d = b
    · subst e
      obtain ⟨lp, rfl⟩ := hlp hd
      exact ⟨lp, hb'⟩
    · obtain ⟨lp, h1⟩ := h.lps d hd
      exact ⟨lp, by rw [hoth d e]; exact h1⟩
  · refine ⟨hge, fun _ h => h, rfl, ?_, by rw [hsz]; exact Nat.le_refl _, hs.os, hs.out, hs.tape, rfl, rfl, ?_, fun _ _ => rfl, ?_, fun _ _ _ h => h⟩
    · intro c hc; exact hoth c (by have := h.blBase i b hb; omega)
    · intro j hj; simp only [St.setb]; rw [List.getElem?_set_ne (by omega)]
    · intro j c hj hc
      exact hoth c fun e => by
        rcases h.inj j i c hc (by rw [e]; exact hb) with he | ⟨_, hr⟩
        · omega
        · have := hr.2 hro; omega

/- a row of the call's own gets cells behind its end -/
theorem StR.growRow (h : StR L C g s w) {t : Nat} {T : TokI} (hT : g.tk[t]? = some T) (hrt : s.rt ≤ t) (m : Nat) (hm : 0 < m) (hcap : T.top + m ≤ T.cap) {c c' : Array Value} {e : TypeId} {fz : Nat × Nat}
    (hc : w.heap[T.a.block]? = some (.cells c e fz)) (hc' : w'.heap[T.a.block]? = some (.cells c' e fz)) (hsize : c'.size = c.size)
    (hkeep : ∀ o, o < T.a.off + T.top * T.sz → c'[o]? = c[o]?) (hoth : ∀ b, b ≠ T.a.block → w'.heap[b]? = w.heap[b]?) (hsz : w'.heap.size = w.heap.size) (hs : Same w w') :
    StR L C { g with tk := g.tk.set t { T with top := T.top + m }, imm := fun b o => g.imm b o ∨ (b = T.a.block ∧ o < T.a.off + (T.top + m) * T.sz) } { s with tk := s.tk.set t (T.top + m) } w' ∧
    Ext g s w { g with tk := g.tk.set t { T with top := T.top + m }, imm := fun b o => g.imm b o ∨ (b = T.a.block ∧ o < T.a.off + (T.top + m) * T.sz) } { s with tk := s.tk.set t (T.top + m) } w' := by
  have hT0 := h.toks t T hT
  have hlt : t < g.tk.length := (List.getElem?_eq_some_iff.1 hT).1
  have hcase : ∀ (u : Nat) (U : TokI), (g.tk.set t { T with top := T.top + m })[u]? = some U → (u = t ∧ U = { T with top := T.top + m }) ∨ (u ≠ t ∧ g.tk[u]? = some U) := by
    intro u U hU
    by_cases e : u = t
    · subst e; rw [List.getElem?_set_self hlt] at hU; cases hU; exact .inl ⟨rfl, rfl⟩
    · rw [List.getElem?_set_ne (Ne.symm e)] at hU; exact .inr ⟨e, hU⟩
  have hge : GE g w { g with tk := g.tk.set t { T with top := T.top + m }, imm := fun b o => g.imm b o ∨ (b = T.a.block ∧ o < T.a.off + (T.top + m) * T.sz) } w' := by
    refine ⟨fun _ _ h => h, ?_, ?_, fun _ h => h, .at hoth hc hc' (by omega)⟩
    · intro u U hU
      by_cases e : u = t
      · subst e; rw [hT] at hU; cases hU
        exact ⟨_, List.getElem?_set_self hlt, by simp, fun e => by simp at e; omega⟩
      · exact ⟨U, by show (g.tk.set t _)[u]? = _; rw [List.getElem?_set_ne (Ne.symm e)]; exact hU, Nat.le_refl _, fun _ => rfl⟩
    · intro b o hb
      refine ⟨.inl hb, ?_⟩
      by_cases e : b = T.a.block
      · subst e
        have ho : o < T.a.off + T.top * T.sz := by
          rcases Nat.lt_or_ge o (T.a.off + T.top * T.sz) with h1 | h1
          · exact h1
          · exact absurd hb (hT0.free o h1)
        rw [cell?_of hc', cell?_of hc, hkeep o ho]
      · exact cell?_congr (hoth b e) _
  have hnb : ∀ (i b : Nat), g.bl[i]? = some b → b ≠ T.a.block := fun i b hb e => hT0.own (by rw [← e]; exact List.mem_of_getElem? hb)
  refine ⟨⟨h.bl, ?_, fun i b x hi hx => (h.blocks i b x hi hx).mono hge (hoth b (hnb i b hi)), h.inj, ?_, h.blBase, ?_, ?_, ?_, by rw [hsz]; exact h.baseIn, ?_, ?_, h.ro, by simpa using h.rt⟩, ?_⟩
  · simp only [List.map_set, h.tk]
  · rintro i b o hi (hb | ⟨rfl, _⟩)
    · exact h.sep i b o hi hb
    · exact hnb i _ hi rfl
  · intro u U hU
    rcases hcase u U hU with ⟨rfl, rfl⟩ | ⟨hne, hU'⟩
    · refine ⟨hT0.spot, ?_, hcap, ?_, hT0.own, hT0.base⟩
      · obtain ⟨c1, e1, fz1, h1, h2, h3⟩ := hT0.space
        rw [hc] at h1; cases h1
        exact ⟨c', e, fz, hc', by rw [hsize]; exact h2, by rw [hsize]; exact h3⟩
      · rintro o ho (hb | ⟨_, hb⟩)
        · refine hT0.free o ?_ hb
          have : T.top * T.sz ≤ (T.top + m) * T.sz := Nat.mul_le_mul_right _ (by omega)
          have ho' : T.a.off + (T.top + m) * T.sz ≤ o := ho
          omega
        · have ho' : T.a.off + (T.top + m) * T.sz ≤ o := ho
          omega
    · have h0 := h.toks u U hU'
      have hbne : U.a.block ≠ T.a.block := fun e => hne (h.tokInj u t U T hU' hT e)
      have h1 := h0.same (hoth _ hbne)
      exact ⟨h1.spot, h1.space, h1.top, by
        rintro o ho (hb | ⟨hb, _⟩)
        · exact h1.free o ho hb
        · exact hbne hb, h1.own, h1.base⟩
  · intro u v U V hU hV he
    rcases hcase u U hU with ⟨rfl, rfl⟩ | ⟨hne, hU'⟩ <;> rcases hcase v V hV with ⟨rfl, rfl⟩ | ⟨hne', hV'⟩
    · rfl
    · exact h.tokInj u v T V hT hV' he
    · exact h.tokInj u v U T hU' hT he
    · exact h.tokInj u v U V hU' hV' he
  · rintro b o (hb | ⟨rfl, _⟩)
    · rw [hsz]; exact h.immIn b o hb
    · exact lt_of_heap hc'
  · intro d hd
    obtain ⟨h1, h2⟩ := h.dfr d hd
    refine ⟨?_, h2⟩
    rw [hoth d fun e => by subst e; rw [hc] at h1; cases h1]; exact h1
  · intro d hd
    obtain ⟨lp, h1⟩ := h.lps d hd
    refine ⟨lp, ?_⟩
    rw [hoth d fun e => by subst e; rw [hc] at h1; cases h1]; exact h1
  · refine ⟨hge, fun _ h => h, rfl, ?_, by rw [hsz]; exact Nat.le_refl _, hs.os, hs.out, hs.tape, rfl, rfl, fun _ _ => rfl, ?_, ?_, fun b o hb h' => h'.elim id fun h2 => absurd hb (by have := hT0.base; rw [h2.1]; exact Nat.not_lt.2 this)⟩
    · intro b hb; exact hoth b (by have := hT0.base; omega)
    · intro u hu; show (s.tk.set t _)[u]? = _; rw [List.getElem?_set_ne (by omega)]
    · intro i b _ hb; exact hoth b (hnb i b hb)
theorem nd_map {s : St} {i : Nat} {es : List (AV × AV)} (h : s.map? i = some es) : s.bl[i]? ≠ some .dead := by
  intro e; unfold St.map? at h; rw [e] at h; cases h

/- another name for a block whose names are dead -/
theorem StR.alias (h : StR L C g s w) {i b : Nat} (hb : g.bl[i]? = some b) (had : ∀ j, g.bl[j]? = some b → s.bl[j]? = some .dead ∧ s.ro ≤ j) {ab : AB} (hrel : BRel L C g w ab b) :
    StR L C { g with bl := g.bl ++ [b] } (s.push ab) w ∧ Ext g s w { g with bl := g.bl ++ [b] } (s.push ab) w := by
  have hge : GE g w { g with bl := g.bl ++ [b] } w :=
    ⟨fun i b hi => by show (g.bl ++ _)[i]? = _; rw [List.getElem?_append_left (List.getElem?_eq_some_iff.1 hi).1]; exact hi, fun _ T hT => ⟨T, hT, Nat.le_refl _, fun _ => rfl⟩, fun _ _ h => ⟨h, rfl⟩, fun _ h => h, .refl _⟩
  have hcase : ∀ (k c : Nat), (g.bl ++ [b])[k]? = some c → (g.bl[k]? = some c ∧ k < g.bl.length) ∨ (k = g.bl.length ∧ c = b) := by
    intro k c hi
    by_cases hlt : k < g.bl.length
    · rw [List.getElem?_append_left hlt] at hi; exact .inl ⟨hi, hlt⟩
    · rw [List.getElem?_append_right (by omega)] at hi
      have : k - g.bl.length = 0 := by
        rcases Nat.eq_zero_or_pos (k - g.bl.length) with h0 | h0
        · exact h0
        · rw [List.getElem?_eq_none (by simp; omega)] at hi; cases hi
      rw [this] at hi; simp at hi
      exact .inr ⟨by omega, hi.symm⟩
  have hro := h.ro
  have hbl := h.bl
  refine ⟨⟨by simp [St.push, h.bl], h.tk, ?_, ?_, ?_, ?_, ?_, h.tokInj, h.immIn, h.baseIn, h.dfr, h.lps, by simp only [St.push, List.length_append]; omega, h.rt⟩, ?_⟩
  · intro k c x hk hx
    rcases hcase k c hk with ⟨hk', hlt⟩ | ⟨rfl, rfl⟩
    · have hx' : s.bl[k]? = some x := by simpa [St.push, List.getElem?_append_left (show k < s.bl.length by rw [← h.bl]; exact hlt)] using hx
      exact (h.blocks k c x hk' hx').mono hge rfl
    · simp only [St.push, h.bl, List.getElem?_concat_length, Option.some.injEq] at hx
      subst hx; exact hrel.mono hge rfl
  · intro j k c hj hk
    have up : ∀ q, q < g.bl.length → (s.push ab).bl[q]? = s.bl[q]? := fun q hq => by
      simp only [St.push]; exact List.getElem?_append_left (by rw [← h.bl]; exact hq)
    rcases hcase j c hj with ⟨hj', hlt⟩ | ⟨hj1, hj2⟩ <;> rcases hcase k c hk with ⟨hk', hlt'⟩ | ⟨hk1, hk2⟩
    · rcases h.inj j k c hj' hk' with he | ⟨hd, hr⟩
      · exact .inl he
      · exact .inr ⟨by rw [up j hlt, up k hlt']; exact hd, hr⟩
    · subst hk2
      obtain ⟨h1, h2⟩ := had j hj'
      have h3 : s.ro ≤ k := by omega
      exact .inr ⟨.inl (by rw [up j hlt]; exact h1), ⟨fun _ => h3, fun _ => h2⟩⟩
    · subst hj2
      obtain ⟨h1, h2⟩ := had k hk'
      have h3 : s.ro ≤ j := by omega
      exact .inr ⟨.inr (by rw [up k hlt']; exact h1), ⟨fun _ => h2, fun _ => h3⟩⟩
    · exact .inl (by omega)
  · intro k c o hk himm
    rcases hcase k c hk with ⟨hk', hlt⟩ | ⟨_, hk2⟩
    · exact h.sep k c o hk' himm
    · subst hk2; exact h.sep i _ o hb himm
  · intro k c hk
    rcases hcase k c hk with ⟨hk', hlt⟩ | ⟨_, hk2⟩
    · exact h.blBase k c hk'
    · subst hk2; exact h.blBase i _ hb
  · intro t T hT
    have hT' := h.toks t T hT
    refine ⟨hT'.spot, hT'.space, hT'.top, hT'.free, ?_, hT'.base⟩
    intro hm
    rcases List.mem_append.1 hm with hm | hm
    · exact hT'.own hm
    · simp at hm; exact hT'.own (by rw [hm]; exact List.mem_of_getElem? hb)
  · refine ⟨hge, fun _ h => h, rfl, fun _ _ => rfl, Nat.le_refl _, rfl, rfl, rfl, rfl, rfl, ?_, fun _ _ => rfl, fun _ _ _ _ => rfl, fun _ _ _ h => h⟩
    intro q hq
    show (s.bl ++ [ab])[q]? = _
    rw [List.getElem?_append_left (by omega)]

/- a block gets a new name and a new content; the old name is dead -/
theorem StR.regrow (h : StR L C g s w) {i b : Nat} (hb : g.bl[i]? = some b) (hro : s.ro ≤ i) (hnd : s.bl[i]? ≠ some .dead) {c0 : Array Value} {e0 : TypeId} {ab : AB} (hb' : w'.heap[b]? = some (.cells c0 e0 (0, 0))) (hoth : ∀ c, c ≠ b → w'.heap[c]? = w.heap[c]?)
    (hsz : w'.heap.size = w.heap.size) (hs : Same w w') (hnew : GE g w g w' → BRel L C g w' ab b) (hlp : b ∈ g.lps → ∃ lp, Obj.cells c0 e0 (0, 0) = .loop lp) (hwd : Wide w w') :
    StR L C { g with bl := g.bl ++ [b] } ((s.setb i .dead).push ab) w' ∧ Ext g s w { g with bl := g.bl ++ [b] } ((s.setb i .dead).push ab) w' := by
  have h1 := h.setb (ab := .dead) hb hro hb' hoth hsz hs (fun _ => ⟨_, _, hb'⟩) hlp hnd hwd
  have hilt : i < s.bl.length := by rw [← h.bl]; exact (List.getElem?_eq_some_iff.1 hb).1
  have h2 := h1.1.alias (ab := ab) hb (fun j hj => by
    by_cases e : j = i
    · subst e; exact ⟨by simp only [St.setb]; exact List.getElem?_set_self hilt, hro⟩
    · rcases h.inj j i b hj hb with he | ⟨hd, hr⟩
      · exact absurd he e
      · refine ⟨?_, hr.2 hro⟩
        rcases hd with hd | hd
        · simp only [St.setb, List.getElem?_set_ne (Ne.symm e)]; exact hd
        · exact absurd hd hnd) (hnew h1.2.ge)
  exact ⟨h2.1, h1.2.trans h2.2⟩
end
end Ab

/- The check of a machine's operation against an abstract one. No condition. -/
namespace Ab
open Go

structure Link extends Lk where
  glOf : Nat → Nat
  w0 : World

def szOf (P : Program) (t : TypeId) : Option Nat := (P.info? t).map (·.size)
def aggOf (d : TypeDesc) : Bool := match d with | .struct _ | .array _ _ => true | _ => false
def isAggP (P : Program) (t : TypeId) : Option Bool := (P.underlying t).map aggOf

def vOk1 (L : Lk) (v : Value) (x : AV) : Bool :=
  match v, x with
  | .bool a, .bool b => a == b
  | .int k a, .int l b => k == l && a == b
  | .string s, .str l => s.data.toList == l
  | .pointer none, .nilp => true
  | .slice none n c, .sl .nil _ [] => n == 0 && c == 0
  | .map none, .map none => true
  | .nilFunc, .nilf => true
  | .nilIface, .nilif => true
  | .func (.func f) a c, .fn g [] [] => L.fnOf g == f && a.isEmpty && c.isEmpty
  | _, _ => false

def vOkL (L : Lk) : List Value → List AV → Bool
  | [], [] => true
  | v :: vs, x :: xs => vOk1 L v x && vOkL L vs xs
  | _, _ => false

def vOk (L : Lk) (v : Value) (x : AV) : Bool :=
  match v, x with
  | .agg cs, .agg xs => vOkL L cs.toList xs
  | .tuple vs, .tup [] => vs.isEmpty
  | _, _ => vOk1 L v x

theorem vOk1_rep {L : Lk} {v : Value} {x : AV} (h : vOk1 L v x = true) (g : Gh) (w : World) : Rep L g w x v ∧ oneCell v := by
  unfold vOk1 at h
  split at h <;> simp at h
  · subst h; simp [Rep, oneCell]
  · obtain ⟨rfl, rfl⟩ := h; simp [Rep, oneCell]
  · subst h; simp [Rep, oneCell]
  · simp [Rep, oneCell]
  · obtain ⟨rfl, rfl⟩ := h
    exact ⟨by simp only [Rep]; refine ⟨none, 0, [], rfl, Nat.le_refl _, rfl, ?_, ?_, ?_, ?_⟩ <;> simp [RepL, OwnOk], trivial⟩
  · simp [Rep, oneCell]
  · simp [Rep, oneCell]
  · simp [Rep, oneCell]
  · obtain ⟨⟨rfl, rfl⟩, rfl⟩ := h
    exact ⟨by simp only [Rep]; exact ⟨[], [], rfl, by simp [RepL], by simp [RepL]⟩, trivial⟩

theorem vOkL_rep {L : Lk} : ∀ {v : List Value} {x : List AV}, vOkL L v x = true → ∀ (g : Gh) (w : World), RepL L g w x v ∧ ∀ u ∈ v, oneCell u
  | [], [], _, _, _ => by simp [RepL]
  | [], _ :: _, h, _, _ => by simp [vOkL] at h
  | _ :: _, [], h, _, _ => by simp [vOkL] at h
  | v :: vs, x :: xs, h, g, w => by
    simp only [vOkL, Bool.and_eq_true] at h
    obtain ⟨h1, h2⟩ := h
    have a := vOk1_rep h1 g w
    have b := vOkL_rep h2 g w
    exact ⟨by simp only [RepL]; exact ⟨v, vs, rfl, a.1, b.1⟩, by simp; exact ⟨a.2, b.2⟩⟩

theorem vOk_rep {L : Lk} {v : Value} {x : AV} (h : vOk L v x = true) (g : Gh) (w : World) : Rep L g w x v := by
  unfold vOk at h
  split at h
  · rename_i cs xs
    have a := vOkL_rep h g w
    simp only [Rep]
    exact ⟨cs.toList, by simp, a.1, a.2⟩
  · simp at h; subst h; simp [Rep, RepL]
  · exact (vOk1_rep h g w).1

def odOk (L : Link) (x : Operand) (y : Opd) : Bool :=
  match x, y with
  | .tmp a, .t b => a == b
  | .const v, .c u => vOk L.toLk v u
  | .func f, .c (.fn g [] []) => L.fnOf g == f
  | .global a, .g b => L.glOf b == a
  | _, _ => false

def odsOk (L : Link) : List Operand → List Opd → Bool
  | [], [] => true
  | x :: xs, y :: ys => odOk L x y && odsOk L xs ys
  | _, _ => false

def odoOk (L : Link) : Option Operand → Option Opd → Bool
  | none, none => true
  | some x, some y => odOk L x y
  | _, _ => false

/- what operands come to, on both sides -/
structure Evs (L : Link) (g : Gh) (w : World) (ρ : Operand → Value) (ev : Opd → AV) : Prop where
  rep : ∀ x y, odOk L x y = true → Rep L.toLk g w (ev y) (ρ x)

theorem Evs.mono {L : Link} {g g' : Gh} {w w' : World} {ρ : Operand → Value} {ev : Opd → AV} (h : Evs L g w ρ ev) (hg : GE g w g' w') : Evs L g' w' ρ ev := ⟨fun x y hx => Rep.mono hg _ _ (h.rep x y hx)⟩

theorem Evs.reps {L : Link} {g : Gh} {w : World} {ρ : Operand → Value} {ev : Opd → AV} (h : Evs L g w ρ ev) : ∀ {xs : List Operand} {ys : List Opd}, odsOk L xs ys = true → RepL L.toLk g w (ys.map ev) (xs.map ρ)
  | [], [], _ => by simp [RepL]
  | [], _ :: _, hx => by simp [odsOk] at hx
  | _ :: _, [], hx => by simp [odsOk] at hx
  | x :: xs, y :: ys, hx => by
    simp only [odsOk, Bool.and_eq_true] at hx
    simp only [List.map_cons, RepL]
    exact ⟨_, _, rfl, h.rep x y hx.1, h.reps hx.2⟩

/- the parts of a literal struct or array: places off the type -/
def placesOf (P : Program) (t : TypeId) : Option (Nat → Option (Nat × Nat)) :=
  match P.underlying t with
  | some (.struct fs) => match fs.toList.mapM (fun f => (szOf P f.type).map fun n => (f.offset, n)) with
    | some ps => some fun i => ps[i]?
    | none => none
  | some (.array _ e) => match szOf P e with
    | some n => some fun i => some (i * n, n)
    | none => none
  | _ => none

def partsOk (L : Link) (pl : Nat → Option (Nat × Nat)) : List (Nat × Operand) → List (Nat × Nat × Opd) → Bool
  | [], [] => true
  | (i, x) :: r, (o, n, y) :: s => pl i == some (o, n) && odOk L x y && partsOk L pl r s
  | _, _ => false

def bpartsOk (L : Link) : List (Nat × Operand) → List (Nat × Opd) → Bool
  | [], [] => true
  | (i, x) :: r, (j, y) :: s => i == j && odOk L x y && bpartsOk L r s
  | _, _ => false

def zeroOk (P : Program) (L : Lk) (t : TypeId) (z : List AV) : Bool :=
  match P.info? t with
  | some i => (match i.zero with | some v => vOkL L v.cells.toList z && i.size == z.length | none => false)
  | none => false

def elemIs (P : Program) (t : TypeId) (sz : Nat) : Bool :=
  match P.underlying t with
  | some (.slice e) => szOf P e == some sz
  | _ => false

def keyOkT (P : Program) (c : KC) (k : TypeId) : Bool :=
  match c, P.underlying k with
  | .int, some (.int _) => true
  | .str, some .string => true
  | .bool, some .bool => true
  | _, _ => false

def clsOk (P : Program) (t : TypeId) (x y : Operand) (c : Cls) : Bool :=
  match c with
  | .val => true
  | .bool => (match P.underlying t with | some .bool => true | _ => false)
  | .ptr => (match P.underlying t with | some (.pointer e) => (match szOf P e with | some n => decide (n ≠ 0) | none => false) | _ => false)
  | .slice => (match P.underlying t with | some (.slice _) => true | _ => false)
  | .map => (match P.underlying t with | some (.map _ _) => true | _ => false)
  | .func => (match P.underlying t with | some (.func _ _ _) => true | _ => false)
  | .iface => (match P.underlying t with | some (.interface _) => (match x, y with | .const _, _ => true | _, .const _ => true | _, _ => false) | _ => false)
  | .agg n => (match P.underlying t with | some (.array len e) => len == n && (match P.underlying e with | some (.int _) => true | _ => false) && P.cellsOf e == 1 && (P.info? e).isSome && !P.eqGuardType P.depth t | _ => false)

def convOk (P : Program) (s d : TypeId) (c : CV) : Bool :=
  match c with
  | .int k => (match P.underlying s, P.underlying d with | some _, some (.int k') => k == k' | _, _ => false)
  | .same => (match P.underlying s, P.underlying d with | some .string, some .string => true | _, _ => false)
  | .strBytes => (match P.underlying s, P.underlying d with | some .string, some (.slice e) => (match P.underlying e with | some (.int .u8) => true | _ => false) | _, _ => false)
  | .bytesStr => (match P.underlying s, P.underlying d with | some (.slice e), some .string => (match P.underlying e with | some (.int .u8) => true | _ => false) | _, _ => false)
  | .intStr => (match P.underlying s, P.underlying d with | some (.int _), some .string => true | _, _ => false)

def sliceTOk (P : Program) (t : TypeId) (sz : Nat) : Bool :=
  match P.underlying t with
  | some .string => sz == 0
  | some (.slice e) => szOf P e == some sz && sz != 0
  | _ => false

def fieldOf (P : Program) (t : TypeId) (f : Nat) : Option Field :=
  match P.underlying t with
  | some (.struct fs) => fs[f]?
  | _ => none

def lenOk (P : Program) (t : TypeId) (c : LC) : Bool :=
  match c, P.underlying t with
  | .str, some .string | .slice, some (.slice _) | .map, some (.map _ _) => true
  | _, _ => false

def notIntT (P : Program) (t : TypeId) : Bool :=
  match P.underlying t with
  | some (.int _) => false
  | some _ => true
  | none => false
def intT (P : Program) (t : TypeId) : Bool :=
  match P.underlying t with
  | some (.int _) => true
  | _ => false

def bytesOk (P : Program) (t : TypeId) : Bool :=
  match P.underlying t with
  | some (.slice e) => (match P.info? e with | some i => decide (i.bytes ≤ 1024) && (match i.zero with | some z => z.cells.size == i.size | none => false) | none => false)
  | _ => false

/- a builtin's check -/
def bltOk (P : Program) (L : Link) (b : Builtin) (args : List Operand) (ts : List TypeId) (io : IOp) : Bool :=
  match b, io with
  | .len, .len c x => (match args, ts with | [a], [t] => odOk L a x && lenOk P t c | _, _ => false)
  | .cap, .cap x => (match args, ts with | [a], [t] => odOk L a x && (match P.underlying t with | some (.slice _) => true | _ => false) | _, _ => false)
  | .append, .app sz x y => (match args, ts with | [a, b], [t, u] => odOk L a x && odOk L b y && elemIs P t sz && notIntT P u && bytesOk P t && decide (0 < sz) | _, _ => false)
  | .append, .appm sz x y => (match args, ts with | [a, b], [t, u] => odOk L a x && odOk L b y && elemIs P t sz && notIntT P u && bytesOk P t && decide (0 < sz) | _, _ => false)
  | .append, .appz sz x y => (match args, ts with | [a, b], [t, u] => odOk L a x && odOk L b y && elemIs P t sz && intT P u && bytesOk P t && decide (0 < sz) | _, _ => false)
  | .max, .mm .max xs => odsOk L args xs
  | .min, .mm .min xs => odsOk L args xs
  | .delete, .del c m k => (match args, ts with | [a, b], t :: _ => odOk L a m && odOk L b k && (match P.underlying t with | some (.map kt _) => keyOkT P c kt | _ => false) | _, _ => false)
  | _, _ => false

/- what an abstract run may be stuck at -/
def stuckOp : Op → Bool
  | .slice _ _ _ _ _ | .makeSlice _ _ _ | .convert _ _ _ | .range _ _ | .next _ _ | .entry _ | .mapEntry _ _ _ | .entryStore _ _ _ _ | .sliceToArrayPointer _ _ | .lookup _ _ _ _ | .mapUpdate _ _ _ _ | .binOp _ _ _ _ _ => true
  | .call { callee := .builtin _, .. } => true
  | _ => false

def opOk (P : Program) (L : Link) (op : Op) (io : IOp) : Bool :=
  match op, io with
  | .move x, .mov y | .assign x, .mov y => odOk L x y
  | .pick c a b, .pick c' a' b' => odOk L c c' && odOk L a a' && odOk L b b'
  | .alloc t, .alloc z => zeroOk P L.toLk t z
  | .box _ x, .box _ y => odOk L x y
  | .build t ps, .build z qs => zeroOk P L.toLk t z && (match placesOf P t with | some pl => partsOk L pl ps.toList qs | none => false)
  | .buildSlice t n ps, .bslice sz z m qs => n == m && elemIs P t sz && (match P.underlying t with | some (.slice e) => zeroOk P L.toLk e z && isAggP P e == some (z.length != 1 || sz != 1) | _ => false) && decide (n * sz ≤ 16777216) && bpartsOk L ps.toList qs && decide (0 < sz)
  | .load t a, .load agg n b => isAggP P t == some agg && szOf P t == some n && odOk L a b && (agg || n == 1)
  | .store t a v, .store n b u => szOf P t == some n && odOk L a b && odOk L v u
  | .nilCheck x, .nilchk y => odOk L x y
  | .binOp o t x y _, .bin p c u v => o == p && odOk L x u && odOk L y v && clsOk P t x y c
  | .unOp o _ x, .un p y => o == p && odOk L x y
  | .convert s d x, .conv c y => odOk L x y && convOk P s d c
  | .makeInterface t x, .mkif u y => odOk L x y && L.tyOf u == t && (match P.underlying t with | some (.interface _) => false | some _ => true | none => false)
  | .makeFunc (.func f) a c, .mkfn g b d => L.fnOf g == f && odsOk L a.toList b && odsOk L c.toList d
  | .makeMap _ none, .mkmap => true
  | .makeSlice t n c, .mkms sz z l m => odOk L n l && odOk L c m && elemIs P t sz && bytesOk P t && (match P.underlying t with | some (.slice e) => zeroOk P L.toLk e z | _ => false) && decide (0 < sz)
  | .slice t x lo hi mx, .slice sz y l h m => odOk L x y && odoOk L lo l && odoOk L hi h && odoOk L mx m && sliceTOk P t sz
  | .fieldAddr t x f, .faddr off y => odOk L x y && (match fieldOf P t f with | some fd => fd.offset == off && (match szOf P fd.type with | some n => decide (n ≠ 0) | none => false) | none => false)
  | .field t x f, .field off agg n y => odOk L x y && (match fieldOf P t f with | some fd => fd.offset == off && isAggP P fd.type == some agg && szOf P fd.type == some n && (agg || n == 1) | none => false)
  | .indexAddr t x i, .iaddr sz y j => odOk L x y && odOk L i j && elemIs P t sz
  | .indexAddr t x i, .aaddr sz len y j => odOk L x y && odOk L i j && (match P.underlying t with | some (.array n e) => n == len && szOf P e == some sz | _ => false)
  | .index t x i, .index y j => odOk L x y && odOk L i j && (match P.underlying t with | some .string => true | _ => false)
  | .index t x i, .aindex sz len agg y j => odOk L x y && odOk L i j && (match P.underlying t with | some (.array n e) => n == len && szOf P e == some sz && isAggP P e == some agg && (agg || sz == 1) | _ => false)
  | .lookup t m k ok, .lookup c z m' k' ok' => ok == ok' && odOk L m m' && odOk L k k' && (match P.underlying t with
      | some (.map kt e) => keyOkT P c kt && (match P.info? e with | some i => (match i.zero with | some v => vOk L.toLk v z | none => false) | none => false)
      | _ => false)
  | .mapUpdate t m k v, .mapset c m' k' v' | .insert t m k v, .mapset c m' k' v' => odOk L m m' && odOk L k k' && odOk L v v' && (match P.underlying t with | some (.map kt _) => keyOkT P c kt | _ => false)
  | .range t x, .ranges y => odOk L x y && (match P.underlying t with | some .string => true | _ => false)
  | .next x true, .nexts y => odOk L x y
  | .typeAssert x _ t ok, .tassert u z ok' y => ok == ok' && odOk L x y && L.tyOf u == t && (match P.underlying t with | some (.interface _) => false | some _ => true | none => false) &&
      (match P.info? t with | some i => (match i.zero with | some v => vOk L.toLk v z | none => false) | none => false)
  | .extract x i, .ext y j => i == j && odOk L x y
  | op, .mkslice _ _ _ _ _ => stuckOp op
  | .call { callee := .builtin b, args, argTypes }, io => bltOk P L b args.toList argTypes.toList io
  | _, _ => false
end Ab

/- Each operation of the machine does what the abstract one says. No condition. -/
namespace Ab
open Go

def OpRes (P : Program) (L : Link) (C : CodeR) (g : Gh) (s : St) (w : World) (r : AV × St) (run : Result Next) : Prop :=
  ∃ g' w' nx cv, run = .ok nx w' ∧ (nx = .value cv ∨ (nx = .skip ∧ cv = undef)) ∧ Rep L.toLk g' w' r.1 cv ∧ StR L.toLk C g' r.2 w' ∧ Ext g s w g' r.2 w'

section
variable {P : Program} {L : Link} {C : CodeR} {g : Gh} {s : St} {w : World} {ρ : Operand → Value} {ev : Opd → AV}

theorem OpRes.val (hs : StR L.toLk C g s w) {v : AV} {cv : Value} {run : Result Next} (hrun : run = .ok (.value cv) w) (hr : Rep L.toLk g w v cv) : OpRes P L C g s w (v, s) run :=
  ⟨g, w, _, cv, hrun, .inl rfl, hr, hs, .refl _ _ _⟩

theorem oneCell'_of {v : Value} (h : oneCell v) : v.oneCell' = true := by cases v <;> first | rfl | exact h.elim

theorem undef_rep (L : Lk) (g : Gh) (w : World) : Rep L g w (.tup []) undef := by
  simp only [Rep]; exact ⟨[], rfl, by simp [RepL]⟩

/- loads -/
theorem addr_add (b o n : Nat) : (⟨b, o, none⟩ : Addr).add n = ⟨b, o + n, none⟩ := by unfold Addr.add; split <;> simp_all
theorem addr_add' {a : Addr} (h : a.spot = none) (n : Nat) : a.add n = ⟨a.block, a.off + n, none⟩ := by
  obtain ⟨b, o, sp⟩ := a
  simp only at h; subst h
  exact addr_add b o n

theorem run_isAgg {t : TypeId} {agg : Bool} (h : isAggP P t = some agg) : (isAgg t).run P w = .ok agg w := by
  unfold isAggP at h
  cases hu : P.underlying t with
  | none => simp [hu] at h
  | some d =>
    simp [hu] at h
    unfold isAgg
    simp only [Sem.run_bind, run_underlying hu, Result.andThen_ok]
    subst h
    cases d <;> simp [aggOf]

theorem run_sizeOf {t : TypeId} {n : Nat} (h : szOf P t = some n) : (Go.sizeOf t).run P w = .ok n w := by
  unfold szOf at h
  cases hu : P.info? t with
  | none => simp [hu] at h
  | some d =>
    simp [hu] at h
    simp [Go.sizeOf, typeInfo, hu, h]

/- reading cells: what stands for the parts of a value -/
theorem run_loadVar {t : TypeId} {agg : Bool} {n b o : Nat} (ha : isAggP P t = some agg) (hn : szOf P t = some n) (h1 : agg = true ∨ n = 1) {cs : List AV} {vs : List Value} (hr : RepL L.toLk g w cs vs)
    (ho : ∀ u ∈ vs, oneCell u) {off : Nat} (hc : ∀ (j : Nat) (c : Value), vs[j]? = some c → w.cell? ⟨b, o + j, none⟩ = some c) {x : AV} (hx : partOf agg n off cs = some x) :
    ∃ cv, (loadVar t ⟨b, o + off, none⟩).run P w = .ok cv w ∧ Rep L.toLk g w x cv := by
  unfold partOf at hx
  unfold loadVar
  simp only [Sem.run_bind, run_isAgg ha, Result.andThen_ok]
  cases agg with
  | true =>
    simp only [if_true] at hx ⊢
    split at hx
    · rename_i hle
      cases hx
      have hlen : ((vs.drop off).take n).length = n := by rw [List.length_take, List.length_drop, hr.length]; omega
      refine ⟨.agg ((vs.drop off).take n).toArray, ?_, ?_⟩
      · have hld := run_loadCells_list (P := P) w ⟨b, o + off, none⟩ ((vs.drop off).take n) (fun j v hj => by
          rw [addr_add]
          rw [List.getElem?_take] at hj
          split at hj
          · rw [List.getElem?_drop] at hj
            have := hc _ _ hj
            rwa [← Nat.add_assoc] at this
          · cases hj)
        rw [hlen] at hld
        simp [run_sizeOf hn, hld]
      · simp only [Rep]
        exact ⟨_, rfl, (hr.drop off).take n, fun u hu => ho u (List.mem_of_mem_drop (List.mem_of_mem_take hu))⟩
    · cases hx
  | false =>
    simp only [Bool.false_eq_true, if_false] at hx ⊢
    obtain ⟨v, hv, hrv⟩ := hr.get hx
    exact ⟨v, by simp [hc _ _ hv], hrv⟩

theorem loadA_sound (hs : StR L.toLk C g s w) {t : TypeId} {agg : Bool} {n : Nat} (ha : isAggP P t = some agg) (hn : szOf P t = some n) (h1 : agg = true ∨ n = 1) {a x : AV} {ca : Value}
    (hra : Rep L.toLk g w a ca) (h : loadA s agg n a = some x) : ∃ cv, (Instr.loadAt t ca).run P w = .ok cv w ∧ Rep L.toLk g w x cv := by
  unfold loadA at h
  split at h
  · rename_i i off
    simp only [Rep] at hra
    obtain ⟨b, hb, rfl⟩ := hra
    split at h
    · rename_i cs hcs
      unfold St.cell? at hcs
      split at hcs
      · rename_i cs' hbl
        cases hcs
        obtain ⟨vs, rest, e, h1', h2, h3⟩ := hs.blocks i b _ hb hbl
        obtain ⟨cv, hcv, hr⟩ := run_loadVar (P := P) (b := b) (o := 0) (off := off) ha hn h1 h2 h3 (fun j c hj => by
          rw [cell?_of h1']
          have hlt := (List.getElem?_eq_some_iff.1 hj).1
          simp only [Nat.zero_add, List.getElem?_toArray]
          rw [List.getElem?_append_left hlt]; exact hj) h
        exact ⟨cv, by simpa [Instr.loadAt, Instr.sureAddr] using hcv, hr⟩
      · cases hcs
    · cases h
  · rename_i y off
    simp only [Rep] at hra
    obtain ⟨b, o, xv, rfl, hu, hry, hl⟩ := hra
    split at h
    · rename_i cs hcs
      obtain ⟨h2, h3, _⟩ := hry.cells hcs
      obtain ⟨cv, hcv, hr⟩ := run_loadVar (P := P) (b := b) (o := o) (off := off) ha hn h1 h2 h3 (fun j c hj => (hl j c hj).2) h
      exact ⟨cv, by simpa [Instr.loadAt, Instr.sureAddr] using hcv, hr⟩
    · cases h
  · cases h

/- stores -/
theorem splice_list (l : List Value) (o : Nat) (v : Value) (r : List Value) (h : o + (v :: r).length ≤ l.length) :
    (l.set o v).take (o + 1) ++ r ++ (l.set o v).drop (o + 1 + r.length) = l.take o ++ (v :: r) ++ l.drop (o + (v :: r).length) := by
  simp only [List.length_cons] at h
  have hlt : o < l.length := by omega
  have ht : (l.take o).length = o := by rw [List.length_take]; omega
  have hset : l.set o v = l.take o ++ v :: l.drop (o + 1) := by rw [List.set_eq_take_append_cons_drop, if_pos hlt]
  have e1 : (l.set o v).take (o + 1) = l.take o ++ [v] := by
    rw [hset, List.take_append, ht, List.take_of_length_le (by omega)]
    have : o + 1 - o = 1 := by omega
    rw [this]; rfl
  have e2 : (l.set o v).drop (o + 1 + r.length) = l.drop (o + (r.length + 1)) := by
    rw [List.drop_set_of_lt (by omega)]; congr 1; omega
  rw [e1, e2]
  simp

theorem setCells_heap (b : Nat) : ∀ (vs : List Value) (o : Nat) (w : World) (c : Array Value) (e : TypeId) (fz : Nat × Nat), w.heap[b]? = some (.cells c e fz) → o + vs.length ≤ c.size →
    (w.setCells b o vs).heap[b]? = some (.cells (c.toList.take o ++ vs ++ c.toList.drop (o + vs.length)).toArray e fz) ∧ (∀ k, k ≠ b → (w.setCells b o vs).heap[k]? = w.heap[k]?) ∧
    (w.setCells b o vs).heap.size = w.heap.size ∧ Same w (w.setCells b o vs)
  | [], o, w, c, e, fz, h, _ => by
    refine ⟨by simpa [World.setCells] using h, fun _ _ => by simp [World.setCells], by simp [World.setCells], ?_⟩
    simp only [World.setCells]; exact ⟨rfl, rfl, rfl⟩
  | v :: r, o, w, c, e, fz, h, hle => by
    have hlt : b < w.heap.size := lt_of_heap h
    have h1 : (w.setCell ⟨b, o, none⟩ v).heap[b]? = some (.cells (c.setIfInBounds o v) e fz) := by
      simp [World.setCell, Array.getElem?_modify, h]
    obtain ⟨a1, a2, a3, a4⟩ := setCells_heap b r (o + 1) (w.setCell ⟨b, o, none⟩ v) _ e fz h1 (by simp at hle ⊢; omega)
    refine ⟨?_, ?_, ?_, ?_⟩
    · rw [World.setCells, a1]
      congr 2
      simp only [Array.toList_setIfInBounds]
      exact congrArg List.toArray (splice_list c.toList o v r (by simpa using hle))
    · intro k hk
      rw [World.setCells, a2 k hk]
      simp [World.setCell, Array.getElem?_modify, Ne.symm hk]
    · rw [World.setCells, a3]; simp [World.setCell]
    · rw [World.setCells]; exact ⟨a4.os, a4.out, a4.tape⟩

theorem storeA_sound (hs : StR L.toLk C g s w) {t : TypeId} {n : Nat} (hn : szOf P t = some n) {a v : AV} {ca cv : Value} (hra : Rep L.toLk g w a ca) (hrv : Rep L.toLk g w v cv) {s' : St} (h : storeA s n a v = some s') :
    ∃ w', (Instr.storeAt t ca cv).run P w = .ok () w' ∧ StR L.toLk C g s' w' ∧ Ext g s w g s' w' := by
  unfold storeA at h
  split at h
  · rename_i i off
    simp only [Rep] at hra
    obtain ⟨b, hb, rfl⟩ := hra
    split at h
    · rename_i cs vs hcs hvs
      split at h
      · rename_i hc
        obtain ⟨hro, hvn, hle⟩ := hc
        cases h
        unfold St.cell? at hcs
        split at hcs
        · rename_i cs' hbl
          cases hcs
          obtain ⟨us, rest, e, h1, h2, h3⟩ := hs.blocks i b _ hb hbl
          obtain ⟨h4, h5, h6⟩ := hrv.cells hvs
          have hul : us.length = cs.length := h2.length
          have hst := run_storeCells_cells (P := P) b off cv.cells.toList 0 w (fun j hj => by
              simp only [Nat.add_zero]; rw [cell?_of h1]
              simp at hj
              have : off + j < (us ++ rest).length := by rw [List.length_append]; omega
              simp only [List.getElem?_toArray, List.getElem?_eq_getElem this, Option.isSome_some]) (fun j hj => by simp [World.frozen?, h1]) (fun u hu => by
              exact oneCell'_of (h5 u hu))
          simp only [Nat.add_zero] at hst
          obtain ⟨a1, a2, a3, a4⟩ := setCells_heap b cv.cells.toList off w (us ++ rest).toArray e (0, 0) h1 (by simp; omega)
          refine ⟨_, by simp [Instr.storeAt, Instr.sureAddr, storeVar, run_sizeOf hn, h6, hvn]; exact hst, ?_⟩
          refine hs.setb hb hro a1 a2 a3 a4 (fun hge => ?_) (fun hl => ?_) (by rw [hbl]; intro e; cases e) (.at a2 h1 a1 (by simp; omega))
          · have hlen : cv.cells.toList.length = n := by simp [h6, hvn]
            refine ⟨us.take off ++ cv.cells.toList ++ us.drop (off + cv.cells.toList.length), rest, e, ?_, ?_, ?_⟩
            · rw [a1]
              congr 2
              simp only [List.append_assoc]
              rw [List.take_append_of_le_length (by omega), List.drop_append_of_le_length (by omega)]
            · rw [hlen]
              exact ((RepL.mono hge _ _ (h2.take off)).append (RepL.mono hge _ _ h4)).append (RepL.mono hge _ _ (h2.drop _))
            · intro u hu
              simp only [List.mem_append] at hu
              rcases hu with (hu | hu) | hu
              · exact h3 u (List.mem_of_mem_take hu)
              · exact h5 u hu
              · exact h3 u (List.mem_of_mem_drop hu)
          · obtain ⟨lp, hlp⟩ := hs.lps b hl
            rw [h1] at hlp; cases hlp
        · cases hcs
      · cases h
    · cases h
  · cases h
end
end Ab
