/- Terms of the language as plain data; when an abstract value is one. No condition. -/
import Derived.Test.YtengohlmonphiaaGreatDoorAb09
import Derived.Test.YtengohlmonphiaaGreatDoorAb06
import Derived.IntWalk
set_option linter.all false
namespace Ab
open Go Go.RowKit

inductive Tm where
  | mk (k : Int) (s : List UInt8) (kids : List Tm)

def Tm.kind : Tm → Int | .mk k _ _ => k
def Tm.text : Tm → List UInt8 | .mk _ s _ => s
def Tm.kids : Tm → List Tm | .mk _ _ l => l

mutual
def Rt : Tm → AV → Prop
  | .mk k s kids, x => ∃ o ys, x = .agg [.int .i64 k, .str s, .sl o 3 ys] ∧ (ys.length ≤ maxLen ∧ (o = .nil → ys = [])) ∧ Rts kids ys
def Rts : List Tm → List AV → Prop
  | [], ys => ys = []
  | t :: ts, ys => ∃ y r, ys = y :: r ∧ Rt t y ∧ Rts ts r
end

theorem Rts.length : ∀ {ts : List Tm} {ys : List AV}, Rts ts ys → ys.length = ts.length
  | [], _, h => by simp only [Rts] at h; subst h; rfl
  | t :: ts, _, h => by
    simp only [Rts] at h
    obtain ⟨y, r, rfl, _, h2⟩ := h
    simp [Rts.length h2]

theorem Rts.get : ∀ {ts : List Tm} {ys : List AV} {i : Nat} {t : Tm}, Rts ts ys → ts[i]? = some t → ∃ y, ys[i]? = some y ∧ Rt t y
  | [], _, _, _, _, h => by simp at h
  | t :: ts, _, i, u, h, hi => by
    simp only [Rts] at h
    obtain ⟨y, r, rfl, h1, h2⟩ := h
    cases i with
    | zero => simp at hi; subst hi; exact ⟨y, rfl, h1⟩
    | succ i => simp at hi; simpa using Rts.get h2 hi

theorem Rts.append : ∀ {ts : List Tm} {ys : List AV} {us : List Tm} {zs : List AV}, Rts ts ys → Rts us zs → Rts (ts ++ us) (ys ++ zs)
  | [], _, _, _, h, h' => by simp only [Rts] at h; subst h; simpa using h'
  | t :: ts, _, _, _, h, h' => by
    simp only [Rts] at h
    obtain ⟨y, r, rfl, h1, h2⟩ := h
    simp only [List.cons_append, Rts]
    exact ⟨y, _, rfl, h1, Rts.append h2 h'⟩

theorem Rts.take : ∀ {ts : List Tm} {ys : List AV} (n : Nat), Rts ts ys → Rts (ts.take n) (ys.take n)
  | _, _, 0, _ => by simp [Rts]
  | [], _, n + 1, h => by simp only [Rts] at h; subst h; simp [Rts]
  | t :: ts, _, n + 1, h => by
    simp only [Rts] at h
    obtain ⟨y, r, rfl, h1, h2⟩ := h
    simp only [List.take_succ_cons, Rts]
    exact ⟨y, _, rfl, h1, Rts.take n h2⟩

theorem Rts.drop : ∀ {ts : List Tm} {ys : List AV} (n : Nat), Rts ts ys → Rts (ts.drop n) (ys.drop n)
  | _, _, 0, h => by simpa using h
  | [], _, n + 1, h => by simp only [Rts] at h; subst h; simp [Rts]
  | t :: ts, _, n + 1, h => by
    simp only [Rts] at h
    obtain ⟨y, r, rfl, h1, h2⟩ := h
    simpa using Rts.drop n h2

mutual
theorem Rt.data : ∀ {t : Tm} {x : AV}, Rt t x → x.data = true
  | .mk k s kids, x, h => by
    simp only [Rt] at h
    obtain ⟨o, ys, rfl, _, h2⟩ := h
    simp only [AV.data, AV.dataL, Rts.data h2, Bool.and_self]
theorem Rts.data : ∀ {ts : List Tm} {ys : List AV}, Rts ts ys → AV.dataL ys = true
  | [], _, h => by simp only [Rts] at h; subst h; rfl
  | t :: ts, _, h => by
    simp only [Rts] at h
    obtain ⟨y, r, rfl, h1, h2⟩ := h
    simp only [AV.dataL, Rt.data h1, Rts.data h2, Bool.and_self]
end

theorem Rt.untok {t : Tm} {x : AV} (h : Rt t x) : Rt t x.untok := by
  cases t with
  | mk k s kids =>
    simp only [Rt] at h ⊢
    obtain ⟨o, ys, rfl, hl, h2⟩ := h
    obtain ⟨h1, h3⟩ := hl
    cases o <;> simp only [AV.untok, AV.untokL] <;> exact ⟨_, ys, rfl, ⟨h1, fun e => h3 (by first | exact e | cases e)⟩, h2⟩

theorem Rt.shape {t : Tm} {x : AV} (h : Rt t x) : ∃ o ys, x = .agg [.int .i64 t.kind, .str t.text, .sl o 3 ys] ∧ (ys.length ≤ maxLen ∧ (o = .nil → ys = [])) ∧ Rts t.kids ys := by
  cases t with
  | mk k s kids => simpa only [Rt, Tm.kind, Tm.text, Tm.kids] using h

/- a slice that stands for a list of terms -/
def Sl (ts : List Tm) (v : AV) : Prop := ∃ o ys, v = .sl o 3 ys ∧ (ys.length ≤ maxLen ∧ (o = .nil → ys = [])) ∧ Rts ts ys
theorem Sl.nil : Sl [] (.sl .nil 3 []) := ⟨_, _, rfl, ⟨Nat.zero_le _, fun _ => rfl⟩, by simp [Rts]⟩
theorem Sl.untok {ts : List Tm} {v : AV} (h : Sl ts v) : Sl ts v.untok := by
  obtain ⟨o, ys, rfl, ⟨h1, h2⟩, h3⟩ := h
  cases o <;> exact ⟨_, ys, rfl, ⟨h1, fun e => h2 (by first | exact e | cases e)⟩, h3⟩
theorem Sl.data {ts : List Tm} {v : AV} (h : Sl ts v) : v.data = true := by
  obtain ⟨o, ys, rfl, _, h3⟩ := h
  simpa only [AV.data] using h3.data
theorem Rt.open {t : Tm} {x : AV} (h : Rt t x) : ∃ v, x = .agg [.int .i64 t.kind, .str t.text, v] ∧ Sl t.kids v := by
  obtain ⟨o, ys, rfl, h1, h2⟩ := h.shape
  exact ⟨_, rfl, o, ys, rfl, h1, h2⟩
theorem Rt.mk {k : Int} {s : List UInt8} {kids : List Tm} {v : AV} (h : Sl kids v) : Rt (.mk k s kids) (.agg [.int .i64 k, .str s, v]) := by
  obtain ⟨o, ys, rfl, h1, h2⟩ := h
  simp only [Rt]
  exact ⟨o, ys, rfl, h1, h2⟩

/- lists of terms, of the types that a row reads -/
theorem terms_of {P : Program} {tl te tk ts : TypeId} {fs : Array Field} (hl : P.underlying tl = some (.slice te)) (he : P.underlying te = some (.struct fs)) (hf : fs.toList.map (·.type) = [tk, ts, tl]) (hk : P.underlying tk = some (.int .i64)) (hs : P.underlying ts = some .string) (hc : P.cellsOf te = 3) :
    ∀ {t : TypeId} {xs : List AV}, Of P t xs → (t = tl → ∃ us o ys, xs = [.sl o 3 ys] ∧ (ys.length ≤ maxLen ∧ (o = .nil → ys = [])) ∧ Rts us ys) ∧ (t = te → ∃ u, Rt u (.agg xs)) ∧ (t = tk → ∃ n, xs = [.int .i64 n]) ∧ (t = ts → ∃ s, xs = [.str s]) := by
  intro t xs h
  induction h with
  | bool h b => refine ⟨?_, ?_, ?_, ?_⟩ <;> rintro rfl <;> simp_all
  | int h n hw =>
    refine ⟨?_, ?_, ?_, ?_⟩ <;> rintro rfl <;> first | (simp_all; done) | skip
    all_goals (rw [hk] at h; cases h; exact ⟨n, rfl⟩)
  | str h s hl' =>
    refine ⟨?_, ?_, ?_, ?_⟩ <;> rintro rfl <;> first | (simp_all; done) | skip
    all_goals exact ⟨s, rfl⟩
  | nil h =>
    refine ⟨?_, ?_, ?_, ?_⟩ <;> rintro rfl <;> first | (simp_all; done) | skip
    rw [hl] at h; cases h
    exact ⟨[], .nil, [], by rw [hc], ⟨Nat.zero_le _, fun _ => rfl⟩, by simp [Rts]⟩
  | slice h yss hy hlen ih =>
    refine ⟨?_, ?_, ?_, ?_⟩ <;> rintro rfl <;> first | (simp_all; done) | skip
    rw [hl] at h; cases h
    have hagg : (isAggP P te).getD false = true := by simp [isAggP, he, aggOf]
    have key : ∀ (l : List (List AV)), (∀ ys ∈ l, ∃ u, Rt u (.agg ys)) → ∃ us, Rts us (l.map (elemAV true)) := by
      intro l
      induction l with
      | nil => intro _; exact ⟨[], by simp [Rts]⟩
      | cons y l ihl =>
        intro hh
        obtain ⟨u, hu⟩ := hh y (List.mem_cons_self ..)
        obtain ⟨us, hus⟩ := ihl fun z hz => hh z (List.mem_cons_of_mem _ hz)
        refine ⟨u :: us, ?_⟩
        simp only [List.map_cons, Rts]
        exact ⟨_, _, rfl, by simpa [elemAV] using hu, hus⟩
    obtain ⟨us, hus⟩ := key yss fun ys hys => (ih ys hys).2.1 rfl
    exact ⟨us, .any, _, by rw [hc], ⟨by simpa using hlen, fun e => by cases e⟩, by rw [hagg]; exact hus⟩
  | struct h xss hlen hx ih =>
    refine ⟨?_, ?_, ?_, ?_⟩ <;> rintro rfl <;> first | (simp_all; done) | skip
    rw [he] at h; cases h
    obtain ⟨l⟩ := fs
    simp only at hf
    match l, hf with
    | [f0, f1, f2], hf =>
      simp only [List.map_cons, List.map_nil, List.cons.injEq, and_true] at hf
      match xss, hlen with
      | [x0, x1, x2], _ =>
        obtain ⟨n, rfl⟩ := (ih 0 f0 x0 rfl rfl).2.2.1 hf.1
        obtain ⟨s, rfl⟩ := (ih 1 f1 x1 rfl rfl).2.2.2 hf.2.1
        obtain ⟨us, o, ys, rfl, h1, h2⟩ := (ih 2 f2 x2 rfl rfl).1 hf.2.2
        refine ⟨.mk n s us, ?_⟩
        simp only [Rt]
        exact ⟨o, ys, rfl, h1, h2⟩
end Ab

/- How many terms: sizes of terms. No condition. -/
namespace Ab
mutual
def nT : Tm → Nat
  | .mk _ _ kids => 1 + nTs kids
def nTs : List Tm → Nat
  | [] => 0
  | t :: ts => nT t + nTs ts
end
theorem nT_eq (t : Tm) : nT t = 1 + nTs t.kids := by cases t; simp only [nT, Tm.kids]
theorem nT_pos (t : Tm) : 0 < nT t := by rw [nT_eq]; omega
theorem nT_mem : ∀ {ts : List Tm} {t : Tm}, t ∈ ts → nT t ≤ nTs ts
  | _ :: ts, t, h => by
    rcases List.mem_cons.1 h with rfl | h
    · simp only [nTs]; omega
    · have := nT_mem h; simp only [nTs]; omega
theorem nTs_append : ∀ a b : List Tm, nTs (a ++ b) = nTs a + nTs b
  | [], b => by simp [nTs]
  | t :: a, b => by simp only [List.cons_append, nTs, nTs_append a b]; omega
theorem length_le_nTs : ∀ ts : List Tm, ts.length ≤ nTs ts
  | [] => by simp
  | t :: ts => by have := length_le_nTs ts; have := nT_pos t; simp only [nTs, List.length_cons]; omega
theorem Sl.len {ts : List Tm} {v : AV} (h : Sl ts v) : ∃ o xs, v = .sl o 3 xs ∧ xs.length = ts.length := by
  obtain ⟨o, xs, rfl, _, h3⟩ := h
  exact ⟨o, xs, rfl, h3.length⟩

end Ab

/- Runs with enough fuel. No condition. -/
namespace Ab
@[simp] theorem ysS_sl (s : St) (sz : Nat) (o : Own) (z : Nat) (xs : List AV) : ysS s sz (.sl o z xs) = ysOf sz (.sl o z xs) := rfl
@[simp] theorem ysS_str (s : St) (sz : Nat) (b : List UInt8) : ysS s sz (.str b) = ysOf sz (.str b) := rfl
open Go

/- a function value that leaves the state as it is, and what it answers -/
def Fn (E : IEnv) (tgt : AV) (args : List AV) (v : AV) : Prop := ∃ K, ∀ k, K ≤ k → ∀ s, callA E k none tgt args s = some (.ret v, false, s)

def FnK (K : Nat) (E : IEnv) (tgt : AV) (args : List AV) (v : AV) : Prop := ∀ k, K ≤ k → ∀ s, callA E k none tgt args s = some (.ret v, false, s)

theorem append_get {α : Type} (l r : List α) (i : Nat) : (l ++ r)[l.length + i]? = r[i]? := by
  rw [List.getElem?_append_right (by omega), Nat.add_sub_cancel_left]
theorem append_get0 {α : Type} (l r : List α) : (l ++ r)[l.length]? = r[0]? := by simp [List.getElem?_append_right]
theorem append_set {α : Type} (l r : List α) (i : Nat) (x : α) : (l ++ r).set (l.length + i) x = l ++ r.set i x := by
  rw [List.set_append_right _ _ (by omega)]; simp
theorem append_set0 {α : Type} (l r : List α) (x : α) : (l ++ r).set l.length x = l ++ r.set 0 x := by
  rw [List.set_append_right _ _ (by omega)]; simp

section
variable {E : IEnv} {call : Caller} {n : Nat} {f : Fr} {s : St}
@[simp] theorem codeA_skip : codeA E call n .skip f s = some (.normal, f, s) := by simp only [codeA]
@[simp] theorem codeA_region (ops : List IOper) (keep : List Nat) (draw : Bool) : codeA E call n (.region ops keep draw) f s = (match opsA E call draw ops f f.env s with
    | some (none, f', loc, s') => some (.normal, { f' with env := keepA loc keep f.env }, s')
    | some (some v, f', loc, s') => some (.pan v, { f' with env := keepA loc keep f.env }, s')
    | none => none) := by simp only [codeA]; rfl
@[simp] theorem codeA_seq (a b : ICode) : codeA E call n (.seq a b) f s = (match codeA E call n a f s with
    | some (.normal, f', s') => codeA E call n b f' s'
    | r => r) := by simp only [codeA]; rfl
@[simp] theorem codeA_cond (c : Opd) (a b : ICode) : codeA E call n (.cond c a b) f s = (match c.ev E f.env with
    | .bool true => codeA E call n a f s
    | .bool false => codeA E call n b f s
    | _ => none) := by simp only [codeA]; rfl
@[simp] theorem codeA_block (id : Nat) (b : ICode) : codeA E call n (.block id b) f s = (match codeA E call n b f s with
    | some (.exit j, f', s') => if j = id then some (.normal, f', s') else some (.exit j, f', s')
    | r => r) := by simp only [codeA]; rfl
@[simp] theorem codeA_exit (id : Nat) : codeA E call n (.exit id) f s = some (.exit id, f, s) := by simp only [codeA]
@[simp] theorem codeA_ret : codeA E call n .ret f s = some (.ret, f, s) := by simp only [codeA]
theorem codeA_loop (ks : List Nat) (b : ICode) : codeA E call n (.loop ks b) f s = iterA (codeA E call n b) ks n f s := by simp only [codeA]
end
attribute [simp] chkOk loadC pinC chkSt keepSt IOper.pl IChk.addr pinOk goA fillA elemOfCells opsA stepA guardA runO finO opA Opd.ev envOf Env.get Env.put Env.kill keepA AV.cells? St.push St.setb St.cell? loadA storeA partOf valStep binA unA resA resOne AV.data AV.dataL AV.untok AV.untokL outPan

/- what a body comes to -/
def finR (r : R) (res : List IRes) : Option AV :=
  match r with
  | some (o, fr, s) => match outPan o with
    | some none => if fr.defers.isEmpty && !fr.recd then (match resA fr.env s res with
      | some vs => if (resOne vs).data then some (resOne vs).untok else none
      | none => none) else none
    | _ => none
  | none => none

def fr0 (args : List AV) : Fr := { env := envOf 0 args, defers := [], rcv := none, recd := false, rnd := false }

theorem FnK.of {E : IEnv} {f : Nat} {first caps : List AV} {F : IFn} (hF : E.fns f = some F) (hm : F.mode = .pure) {args : List AV} (hn : (first ++ args ++ caps).length = F.np) {v : AV}
    {K : Nat}
    (h : ∀ k, K ≤ k → ∀ bl tk, finR (codeA E (callA E k) k F.body (fr0 (first ++ args ++ caps)) { bl, tk, ro := bl.length, rt := tk.length }) F.res = some v) : FnK (K + 1) E (.fn f first caps) args v := by
  refine fun k hk s => ?_
  obtain ⟨j, rfl⟩ : ∃ j, k = j + 1 := ⟨k - 1, by omega⟩
  obtain ⟨bl, tk, hst, hlo⟩ : ∃ bl tk, startA F.mode none (first ++ args ++ caps) s = { bl, tk, ro := bl.length, rt := tk.length } ∧ True := by
    unfold startA
    split
    · exact ⟨[], [], rfl, trivial⟩
    · exact ⟨s.bl, s.tk, by rw [hm]; rfl, trivial⟩
  have h1 := h j (by omega) bl tk
  unfold finR at h1
  split at h1
  · rename_i o fr s1 hc
    split at h1
    · rename_i ho
      split at h1
      · rename_i hd
        simp only [Bool.and_eq_true, List.isEmpty_iff, Bool.not_eq_true'] at hd
        split at h1
        · rename_i vs hvs
          split at h1
          · rename_i hdata
            simp only [Option.some.injEq] at h1
            unfold fr0 at hc
            simp only [callA, hF, runA, hn, ne_eq, not_true_eq_false, if_false, hst]
            simp only [hm, hc, ho, hd.1, unwindA, hvs, finA, hdata, if_true, h1, hd.2]
          · cases h1
        · cases h1
      · cases h1
    · cases h1
  · cases h1
theorem Fn.of {E : IEnv} {f : Nat} {first caps : List AV} {F : IFn} (hF : E.fns f = some F) (hm : F.mode = .pure) {args : List AV} (hn : (first ++ args ++ caps).length = F.np) {v : AV}
    (h : ∃ K, ∀ k, K ≤ k → ∀ bl tk, finR (codeA E (callA E k) k F.body (fr0 (first ++ args ++ caps)) { bl, tk, ro := bl.length, rt := tk.length }) F.res = some v) : Fn E (.fn f first caps) args v := by
  obtain ⟨K, h⟩ := h
  exact ⟨K + 1, FnK.of hF hm hn h⟩
theorem Fn.all {E : IEnv} {α : Type} {tgt : AV} {args : α → List AV} {v : α → AV} : ∀ {xs : List α}, (∀ x ∈ xs, Fn E tgt (args x) (v x)) → ∃ K, ∀ k, K ≤ k → ∀ x ∈ xs, ∀ s, callA E k none tgt (args x) s = some (.ret (v x), false, s)
  | [], _ => ⟨0, fun _ _ x hx => by cases hx⟩
  | x :: xs, h => by
    obtain ⟨K1, h1⟩ := h x (List.mem_cons_self ..)
    obtain ⟨K2, h2⟩ := Fn.all fun y hy => h y (List.mem_cons_of_mem _ hy)
    refine ⟨K1 + K2, fun k hk y hy s => ?_⟩
    rcases List.mem_cons.1 hy with rfl | hy
    · exact h1 k (by omega) s
    · exact h2 k (by omega) y hy s

theorem wrapIn {n : Int} (h0 : -9223372036854775808 ≤ n) (h1 : n ≤ 9223372036854775807) : IntKind.wrap .i64 n = n := IntWalk.i64_in n ⟨h0, h1⟩

theorem slice_ok (o : Own) (z : Nat) (hz : z ≠ 0) (xs : List AV) (lo hi : Option AV) {l h : Nat} (hb : bound hi xs.length xs.length = some h) (hl : bound lo 0 h = some l) : ∃ o', (o' = .nil → o = .nil) ∧ ∀ tk, sliceA tk z (.sl o z xs) lo hi none = some (.sl o' z ((xs.take h).drop l)) := by
  refine ⟨if l = 0 ∧ h = xs.length then o else if o = .full ∧ h = xs.length then .full else if o = .nil then .nil else .any, ?_, fun tk => ?_⟩
  · split
    · exact id
    · split
      · exact fun h => by cases h
      · split
        · exact fun _ => by assumption
        · exact fun h => by cases h
  · simp only [sliceA]
    rw [show bound none xs.length xs.length = some xs.length from rfl]
    simp only [ne_eq, not_true_eq_false, hz, or_self, if_false, hb, hl, Option.isSome_none, Bool.false_eq_true]
theorem untok_sl (o : Own) (z : Nat) (xs : List AV) : ∃ o', (o' = .nil → o = .nil) ∧ (AV.sl o z xs).untok = .sl o' z xs := by cases o <;> exact ⟨_, fun h => (by first | exact h | cases h), rfl⟩

theorem idx_nat {n : Nat} {i : Nat} (h : i < n) : idx (.int .i64 i) n = some i := by simp [idx, h]
end Ab

/- What a code leads to: stepping through a body, goal by goal. No condition. -/
namespace Ab
open Go

abbrev frW (r : Bool) (e : Env) : Fr := { env := e, defers := [], rcv := none, recd := false, rnd := r }
abbrev Pst := Out → Env → St → Prop

def thenW (N : Env → St → Prop) (Q : Pst) : Pst
  | .normal, e, s => N e s
  | o, e, s => Q o e s
def blockW (id : Nat) (Q : Pst) : Pst
  | .exit j, e, s => if j = id then Q .normal e s else Q (.exit j) e s
  | o, e, s => Q o e s
def outsW (r : Bool) (keep : List Nat) (Q : Pst) (e : Env) : Option (Option AV × Fr × Env × St) → Prop
  | some (none, f, loc, s) => f = frW r e ∧ Q .normal (keepA loc keep e) s
  | some (some v, f, loc, s) => f = frW r e ∧ Q (.pan v) (keepA loc keep e) s
  | none => False

def wp (E : IEnv) (call : Caller) (n : Nat) (r : Bool) : ICode → Pst → Env → St → Prop
  | .skip, Q, e, s => Q .normal e s
  | .region ops keep draw, Q, e, s => outsW r keep Q e (opsA E call draw ops (frW r e) e s)
  | .seq a b, Q, e, s => wp E call n r a (thenW (wp E call n r b Q) Q) e s
  | .cond c a b, Q, e, s => ∃ t, c.ev E e = .bool t ∧ (if t then wp E call n r a Q e s else wp E call n r b Q e s)
  | .block id b, Q, e, s => wp E call n r b (blockW id Q) e s
  | .loop ks b, Q, e, s => ∃ o e' s', iterA (codeA E call n b) ks n (frW r e) s = some (o, frW r e', s') ∧ Q o e' s'
  | .rangeFn g ps a b, Q, e, s => ∃ o s', codeA E call n (.rangeFn g ps a b) (frW r e) s = some (o, frW r e, s') ∧ Q o e s'
  | .exit id, Q, e, s => Q (.exit id) e s
  | .ret, Q, e, s => Q .ret e s
  | .alt ord p q bu ops keep rest ks, Q, e, s => ∃ o e' s', codeA E call n (.alt ord p q bu ops keep rest ks) (frW r e) s = some (o, frW r e', s') ∧ Q o e' s'

section
variable {E : IEnv} {call : Caller} {n : Nat} {r : Bool} {Q : Pst} {e : Env} {s : St} {N : Env → St → Prop}
@[simp] theorem thenW_normal : thenW N Q .normal e s = N e s := rfl
@[simp] theorem thenW_exit (i : Nat) : thenW N Q (.exit i) e s = Q (.exit i) e s := rfl
@[simp] theorem thenW_ret : thenW N Q .ret e s = Q .ret e s := rfl
@[simp] theorem thenW_pan (v : AV) : thenW N Q (.pan v) e s = Q (.pan v) e s := rfl
@[simp] theorem blockW_normal (id : Nat) : blockW id Q .normal e s = Q .normal e s := rfl
@[simp] theorem blockW_ret (id : Nat) : blockW id Q .ret e s = Q .ret e s := rfl
@[simp] theorem blockW_pan (id : Nat) (v : AV) : blockW id Q (.pan v) e s = Q (.pan v) e s := rfl
@[simp] theorem blockW_exit (id j : Nat) : blockW id Q (.exit j) e s = if j = id then Q .normal e s else Q (.exit j) e s := rfl
@[simp] theorem outsW_some (keep : List Nat) (f : Fr) (loc : Env) : outsW r keep Q e (some (none, f, loc, s)) = (f = frW r e ∧ Q .normal (keepA loc keep e) s) := rfl
@[simp] theorem outsW_pan (keep : List Nat) (f : Fr) (loc : Env) (v : AV) : outsW r keep Q e (some (some v, f, loc, s)) = (f = frW r e ∧ Q (.pan v) (keepA loc keep e) s) := rfl
@[simp] theorem wp_skip : wp E call n r .skip Q e s = Q .normal e s := rfl
@[simp] theorem wp_region (ops : List IOper) (keep : List Nat) (draw : Bool) : wp E call n r (.region ops keep draw) Q e s = outsW r keep Q e (opsA E call draw ops (frW r e) e s) := rfl
@[simp] theorem wp_seq (a b : ICode) : wp E call n r (.seq a b) Q e s = wp E call n r a (thenW (wp E call n r b Q) Q) e s := rfl
@[simp] theorem wp_cond (c : Opd) (a b : ICode) : wp E call n r (.cond c a b) Q e s = ∃ t, c.ev E e = .bool t ∧ (if t then wp E call n r a Q e s else wp E call n r b Q e s) := rfl
@[simp] theorem wp_block (id : Nat) (b : ICode) : wp E call n r (.block id b) Q e s = wp E call n r b (blockW id Q) e s := rfl
@[simp] theorem wp_exit (id : Nat) : wp E call n r (.exit id) Q e s = Q (.exit id) e s := rfl
@[simp] theorem wp_ret : wp E call n r .ret Q e s = Q .ret e s := rfl

theorem wp_run : ∀ {c : ICode} {Q : Pst} {e : Env} {s : St}, wp E call n r c Q e s → ∃ o e' s', codeA E call n c (frW r e) s = some (o, frW r e', s') ∧ Q o e' s'
  | .skip, Q, e, s, h => ⟨_, e, s, by simp only [codeA], h⟩
  | .exit _, Q, e, s, h => ⟨_, e, s, by simp only [codeA], h⟩
  | .ret, Q, e, s, h => ⟨_, e, s, by simp only [codeA], h⟩
  | .region ops keep draw, Q, e, s, h => by
    simp only [wp] at h
    simp only [codeA]
    cases hq : opsA E call draw ops (frW r e) e s with
    | none => rw [hq] at h; exact h.elim
    | some x =>
      obtain ⟨p, f', loc, s'⟩ := x
      rw [hq] at h
      cases p with
      | none =>
        simp only [outsW] at h
        obtain ⟨rfl, q⟩ := h
        exact ⟨_, _, _, rfl, q⟩
      | some v =>
        simp only [outsW] at h
        obtain ⟨rfl, q⟩ := h
        exact ⟨_, _, _, rfl, q⟩
  | .seq a b, Q, e, s, h => by
    obtain ⟨o, e1, s1, h1, q⟩ := wp_run (c := a) h
    simp only [codeA, h1]
    cases o with
    | normal => exact wp_run (c := b) q
    | _ => exact ⟨_, _, _, rfl, q⟩
  | .cond c a b, Q, e, s, h => by
    obtain ⟨t, h1, q⟩ := h
    simp only [codeA, h1]
    cases t
    · exact wp_run (c := b) q
    · exact wp_run (c := a) q
  | .block id b, Q, e, s, h => by
    obtain ⟨o, e1, s1, h1, q⟩ := wp_run (c := b) h
    simp only [codeA, h1]
    cases o with
    | exit j =>
      simp only [blockW] at q
      by_cases hj : j = id
      · simp only [hj, if_true] at q ⊢; exact ⟨_, _, _, rfl, q⟩
      · simp only [hj, if_false] at q ⊢; exact ⟨_, _, _, rfl, q⟩
    | _ => exact ⟨_, _, _, rfl, q⟩
  | .loop ks b, Q, e, s, h => by
    obtain ⟨o, e1, s1, h1, q⟩ := h
    exact ⟨o, e1, s1, by simp only [codeA]; exact h1, q⟩
  | .rangeFn g ps a b, Q, e, s, h => by
    obtain ⟨o, s1, h1, q⟩ := h
    exact ⟨o, e, s1, h1, q⟩
  | .alt _ _ _ _ _ _ _ _, Q, e, s, h => h

theorem iter_wp {ks : List Nat} {b : ICode} (m : Nat) (Inv : Nat → Env → St → Prop)
    (step : ∀ i e s, i < m → Inv i e s → wp E call n r b (thenW (fun e s => Inv (i + 1) (e.kill ks) s) Q) e s)
    (last : ∀ e s, Inv m e s → wp E call n r b (thenW (fun _ _ => False) Q) e s) :
    ∀ (j i : Nat) (e : Env) (s : St) (k : Nat), i + j = m → j < k → Inv i (e.kill ks) s → ∃ o e' s', iterA (codeA E call n b) ks k (frW r e) s = some (o, frW r e', s') ∧ Q o e' s'
  | 0, i, e, s, k + 1, hi, hk, h => by
    obtain ⟨o, e1, s1, h1, q⟩ := wp_run (last _ _ (by rw [show m = i by omega]; exact h))
    cases o with
    | normal => exact q.elim
    | _ => exact ⟨_, e1, s1, by simp only [iterA, h1], q⟩
  | j + 1, i, e, s, k + 1, hi, hk, h => by
    obtain ⟨o, e1, s1, h1, q⟩ := wp_run (step i _ _ (by omega) h)
    cases o with
    | normal =>
      obtain ⟨o2, e2, s2, h2, q2⟩ := iter_wp m Inv step last j (i + 1) e1 s1 k (by omega) (by omega) q
      exact ⟨o2, e2, s2, by simp only [iterA, h1]; exact h2, q2⟩
    | _ => exact ⟨_, e1, s1, by simp only [iterA, h1], q⟩

/- a loop that goes round at most m times -/
theorem wp_loop {ks : List Nat} {b : ICode} (m : Nat) (Inv : Nat → Env → St → Prop) (hm : m < n) (h0 : Inv 0 (e.kill ks) s)
    (step : ∀ i e s, i < m → Inv i e s → wp E call n r b (thenW (fun e s => Inv (i + 1) (e.kill ks) s) Q) e s)
    (last : ∀ e s, Inv m e s → wp E call n r b (thenW (fun _ _ => False) Q) e s) : wp E call n r (.loop ks b) Q e s :=
  iter_wp m Inv step last m 0 e s n (by omega) hm h0
end

section
variable {E : IEnv} {call : Caller} {n : Nat} {r : Bool} {Q : Pst} {e : Env} {s : St}
theorem thenR_eq (a b : ICode) (f : Fr) : codeA E call n (.seq a b) f s = thenR (codeA E call n b) (codeA E call n a f s) := by
  simp only [codeA]; unfold thenR; split <;> rfl
theorem regR_eq (ops : List IOper) (keep : List Nat) (draw : Bool) (f : Fr) : codeA E call n (.region ops keep draw) f s = regR keep f.env (opsA E call draw ops f f.env s) := by
  simp only [codeA]; unfold regR; split <;> rfl
theorem sameL_self : ∀ {l : List AB}, l.all AB.isCells = true → AB.sameL l l = true
  | [], _ => rfl
  | x :: l, h => by
    simp only [List.all_cons, Bool.and_eq_true] at h
    simp only [AB.sameL, sameL_self h.2, Bool.and_true]
    have := h.1
    cases x <;> simp [AB.isCells, AB.same] at this ⊢
/- a region in two orders: what both come to -/
def altP (ks : List Nat) (s : St) (o0 : Out) (e0 : Env) (tk0 : List Nat) (C : List AB → Prop) : Pst := fun o e s' => o = o0 ∧ e.kill ks = e0 ∧ s'.tk = tk0 ∧ ∃ cs, s'.bl = s.bl ++ cs ∧ C cs
@[simp] theorem altP_eq (ks : List Nat) (s : St) (o0 : Out) (e0 : Env) (tk0 : List Nat) (C : List AB → Prop) (o : Out) (e : Env) (s' : St) : altP ks s o0 e0 tk0 C o e s' = (o = o0 ∧ e.kill ks = e0 ∧ s'.tk = tk0 ∧ ∃ cs, s'.bl = s.bl ++ cs ∧ C cs) := rfl
theorem wp_alt {ord : List Nat} {p q : Nat} {bu : Bool} {ops : List IOper} {keep : List Nat} {rest : ICode} {ks : List Nat} (o0 : Out) (e0 : Env) (tk0 : List Nat) (news : List AB) (C : List AB → Prop)
    (hC : ∀ c d, C c → C d → c.length = d.length ∧ (if bu then c.all AB.isCells && d.all AB.isCells else AB.sameL c d) = true ∧ (if bu then c.map (fun _ => AB.dead) else c) = news)
    (hA : wp E call n r (.seq (.region ops keep true) rest) (altP ks s o0 e0 tk0 C) e { s with ro := s.bl.length })
    (hB : wp E call n r (.seq (.region (inOrd ord ops) keep true) rest) (altP ks s o0 e0 tk0 C) e { s with ro := s.bl.length })
    (hQ : Q o0 e0 { s with bl := s.bl ++ news, tk := tk0 }) : wp E call n r (.alt ord p q bu ops keep rest ks) Q e s := by
  obtain ⟨o1, e1, s1, h1, rfl, q1, r1, c, b1, hc⟩ := wp_run hA
  obtain ⟨o2, e2, s2, h2, rfl, q2, r2, d, b2, hd⟩ := wp_run hB
  refine ⟨_, e0, _, ?_, hQ⟩
  rw [thenR_eq, regR_eq] at h1 h2
  obtain ⟨k1, k2, k3⟩ := hC c d hc hd
  simp only [codeA]
  simp only at h1 h2
  rw [h1, h2]
  have d1 : s1.bl.drop s.bl.length = c := by rw [b1]; simp
  have d2 : s2.bl.drop s.bl.length = d := by rw [b2]; simp
  simp only [joinR, d1, d2, q1, q2, r1, r2]
  rw [if_pos ⟨by simp, ⟨by rw [b1, b2]; simp [k1], trivial⟩, k2⟩, k3]
theorem wp_altS {ord : List Nat} {p q : Nat} {ops : List IOper} {keep : List Nat} {rest : ICode} {ks : List Nat} (o0 : Out) (e0 : Env) (tk0 : List Nat) (news : List AB) (hn : news.all AB.isCells = true)
    (hA : wp E call n r (.seq (.region ops keep true) rest) (altP ks s o0 e0 tk0 (· = news)) e { s with ro := s.bl.length })
    (hB : wp E call n r (.seq (.region (inOrd ord ops) keep true) rest) (altP ks s o0 e0 tk0 (· = news)) e { s with ro := s.bl.length })
    (hQ : Q o0 e0 { s with bl := s.bl ++ news, tk := tk0 }) : wp E call n r (.alt ord p q false ops keep rest ks) Q e s :=
  wp_alt o0 e0 tk0 news (· = news) (fun c d h1 h2 => by subst h1; subst h2; exact ⟨rfl, by simpa using sameL_self hn, rfl⟩) hA hB hQ
theorem wp_altB {ord : List Nat} {p q : Nat} {ops : List IOper} {keep : List Nat} {rest : ICode} {ks : List Nat} (o0 : Out) (e0 : Env) (tk0 : List Nat) (m : Nat)
    (hA : wp E call n r (.seq (.region ops keep true) rest) (altP ks s o0 e0 tk0 fun c => c.all AB.isCells = true ∧ c.length = m) e { s with ro := s.bl.length })
    (hB : wp E call n r (.seq (.region (inOrd ord ops) keep true) rest) (altP ks s o0 e0 tk0 fun c => c.all AB.isCells = true ∧ c.length = m) e { s with ro := s.bl.length })
    (hQ : Q o0 e0 { s with bl := s.bl ++ List.replicate m .dead, tk := tk0 }) : wp E call n r (.alt ord p q true ops keep rest ks) Q e s :=
  wp_alt o0 e0 tk0 (List.replicate m .dead) (fun c => c.all AB.isCells = true ∧ c.length = m) (fun c d h1 h2 => ⟨by rw [h1.2, h2.2], by simp [h1.1, h2.1], by rw [if_pos rfl, ← h1.2]; exact List.map_const' ..⟩) hA hB hQ
end

/- at the end of a body: the results -/
def finW (res : List IRes) (v : AV) : Pst := fun o e s => (o = .normal ∨ o = .ret) ∧ ∃ vs, resA e s res = some vs ∧ (resOne vs).data = true ∧ (resOne vs).untok = v
@[simp] theorem finW_normal (res : List IRes) (v : AV) (e : Env) (s : St) : finW res v .normal e s = ∃ vs, resA e s res = some vs ∧ (resOne vs).data = true ∧ (resOne vs).untok = v := by simp [finW]
@[simp] theorem finW_ret (res : List IRes) (v : AV) (e : Env) (s : St) : finW res v .ret e s = ∃ vs, resA e s res = some vs ∧ (resOne vs).data = true ∧ (resOne vs).untok = v := by simp [finW]

theorem FnK.byW {E : IEnv} {f : Nat} {first caps : List AV} {F : IFn} (hF : E.fns f = some F) (hm : F.mode = .pure) {args : List AV} (hn : (first ++ args ++ caps).length = F.np) {v : AV} {K : Nat}
    (h : ∀ k, K ≤ k → ∀ bl tk, wp E (callA E k) k false F.body (finW F.res v) (envOf 0 (first ++ args ++ caps)) { bl, tk, ro := bl.length, rt := tk.length }) : FnK (K + 1) E (.fn f first caps) args v := by
  refine FnK.of hF hm hn fun k hk bl tk => ?_
  obtain ⟨o, e', s', h1, ho, vs, h2, h3, h4⟩ := wp_run (h k hk bl tk)
  simp only [fr0, finR]
  rw [h1]
  rcases ho with rfl | rfl <;> simp [-resOne, outPan, h2, h3, h4]
theorem Fn.byW {E : IEnv} {f : Nat} {first caps : List AV} {F : IFn} (hF : E.fns f = some F) (hm : F.mode = .pure) {args : List AV} (hn : (first ++ args ++ caps).length = F.np) {v : AV}
    (h : ∃ K, ∀ k, K ≤ k → ∀ bl tk, wp E (callA E k) k false F.body (finW F.res v) (envOf 0 (first ++ args ++ caps)) { bl, tk, ro := bl.length, rt := tk.length }) : Fn E (.fn f first caps) args v := by
  obtain ⟨K, h⟩ := h
  exact ⟨K + 1, FnK.byW hF hm hn h⟩

/- at the end of a body of any mode -/
def finP (s0 : St) (Post : AV → St → Prop) : Option (AV × St) → Prop
  | some (v, s) => Post v { s with ro := s0.ro, rt := s0.rt }
  | none => False
@[simp] theorem finP_some (s0 : St) (Post : AV → St → Prop) (v : AV) (s : St) : finP s0 Post (some (v, s)) = Post v { s with ro := s0.ro, rt := s0.rt } := rfl
def endW (res : List IRes) (m : Mode) (s0 : St) (Post : AV → St → Prop) : Pst := fun o e s' => (o = .normal ∨ o = .ret) ∧ ∃ vs, resA e s' res = some vs ∧ finP s0 Post (finA m s0.bl.length s0 s' (resOne vs))
@[simp] theorem endW_normal (res : List IRes) (m : Mode) (s0 : St) (Post : AV → St → Prop) (e : Env) (s : St) : endW res m s0 Post .normal e s = ∃ vs, resA e s res = some vs ∧ finP s0 Post (finA m s0.bl.length s0 s (resOne vs)) := by simp [endW]
@[simp] theorem endW_ret (res : List IRes) (m : Mode) (s0 : St) (Post : AV → St → Prop) (e : Env) (s : St) : endW res m s0 Post .ret e s = ∃ vs, resA e s res = some vs ∧ finP s0 Post (finA m s0.bl.length s0 s (resOne vs)) := by simp [endW]
theorem call_byW {E : IEnv} {f : Nat} {first caps : List AV} {F : IFn} (hF : E.fns f = some F) {args : List AV} (hn : (first ++ args ++ caps).length = F.np) {k : Nat} {s : St} {Post : AV → St → Prop}
    (h : wp E (callA E k) k false F.body (endW F.res F.mode s Post) (envOf 0 (first ++ args ++ caps)) (s0Of F.mode s)) (hm : isPure F.mode = false := by rfl) : ∃ v s', callA E (k + 1) none (.fn f first caps) args s = some (.ret v, false, s') ∧ Post v s' := by
  obtain ⟨o, e', s1, h1, ho, vs, h2, h3⟩ := wp_run h
  have hst : startA F.mode none (first ++ args ++ caps) s = s0Of F.mode s := by unfold startA; rw [hm]; rfl
  have hlo : (s0Of F.mode s).bl.length = s.bl.length := by cases F.mode <;> rfl
  cases hf : finA F.mode s.bl.length s s1 (resOne vs) with
  | none => rw [hf] at h3; exact h3.elim
  | some x =>
    obtain ⟨v', s2⟩ := x
    rw [hf] at h3
    refine ⟨v', { s2 with ro := s.ro, rt := s.rt }, ?_, h3⟩
    rcases ho with rfl | rfl <;> simp only [callA, hF, runA, hn, ne_eq, not_true_eq_false, if_false, hst, hlo, h1, outPan, unwindA, h2, hf]

/- a pure function whose result was written into -/
def finV (lo : Nat) (s : St) (v : AV) (r : AV) : Prop := if v.data then v.untok = r else (frz s lo 8 v).data = true ∧ (frz s lo 8 v).untok = r
def endP (res : List IRes) (lo : Nat) (r : AV) : Pst := fun o e s => (o = .normal ∨ o = .ret) ∧ ∃ vs, resA e s res = some vs ∧ finV lo s (resOne vs) r
@[simp] theorem endP_normal (res : List IRes) (lo : Nat) (r : AV) (e : Env) (s : St) : endP res lo r .normal e s = ∃ vs, resA e s res = some vs ∧ finV lo s (resOne vs) r := by simp [endP]
@[simp] theorem endP_ret (res : List IRes) (lo : Nat) (r : AV) (e : Env) (s : St) : endP res lo r .ret e s = ∃ vs, resA e s res = some vs ∧ finV lo s (resOne vs) r := by simp [endP]
theorem call_byP {E : IEnv} {f : Nat} {first caps : List AV} {F : IFn} (hF : E.fns f = some F) {args : List AV} (hn : (first ++ args ++ caps).length = F.np) {k : Nat} {r : AV}
    (h : ∀ bl tk, wp E (callA E k) k false F.body (endP F.res bl.length r) (envOf 0 (first ++ args ++ caps)) { bl, tk, ro := bl.length, rt := tk.length }) (s : St) (hm : F.mode = .pure := by rfl) : callA E (k + 1) none (.fn f first caps) args s = some (.ret r, false, s) := by
  obtain ⟨bl, tk, hst⟩ : ∃ bl tk, startA F.mode none (first ++ args ++ caps) s = { bl, tk, ro := bl.length, rt := tk.length } := by
    unfold startA
    split
    · exact ⟨[], [], rfl⟩
    · exact ⟨s.bl, s.tk, by rw [hm]; rfl⟩
  obtain ⟨o, e', s1, h1, ho, vs, h2, h3⟩ := wp_run (h bl tk)
  have hfin : finA .pure bl.length s s1 (resOne vs) = some (r, s) := by
    unfold finV at h3
    simp only [finA]
    split at h3
    · rename_i hd; rw [if_pos hd, h3]
    · rename_i hd; rw [if_neg hd, if_pos h3.1, h3.2]
  rw [hm] at hst
  rcases ho with rfl | rfl <;> simp only [callA, hF, runA, hn, ne_eq, not_true_eq_false, if_false, hm, hst, h1, outPan, unwindA, h2, hfin]

/- the same, where what is answered is told by a relation -/
def endE (res : List IRes) (lo : Nat) (Q : AV → Prop) : Pst := fun o e s => (o = .normal ∨ o = .ret) ∧ ∃ vs, resA e s res = some vs ∧ ∃ r, finV lo s (resOne vs) r ∧ Q r
@[simp] theorem endE_normal (res : List IRes) (lo : Nat) (Q : AV → Prop) (e : Env) (s : St) : endE res lo Q .normal e s = ∃ vs, resA e s res = some vs ∧ ∃ r, finV lo s (resOne vs) r ∧ Q r := by simp [endE]
@[simp] theorem endE_ret (res : List IRes) (lo : Nat) (Q : AV → Prop) (e : Env) (s : St) : endE res lo Q .ret e s = ∃ vs, resA e s res = some vs ∧ ∃ r, finV lo s (resOne vs) r ∧ Q r := by simp [endE]
theorem finV_data {lo : Nat} {s : St} {v : AV} (h : v.data = true) : finV lo s v v.untok := by simp [finV, h]
theorem call_byE {E : IEnv} {f : Nat} {first caps : List AV} {F : IFn} (hF : E.fns f = some F) {args : List AV} (hn : (first ++ args ++ caps).length = F.np) {k : Nat} {Q : AV → Prop}
    (h : ∀ bl tk, wp E (callA E k) k false F.body (endE F.res bl.length Q) (envOf 0 (first ++ args ++ caps)) { bl, tk, ro := bl.length, rt := tk.length }) (s : St) (hm : F.mode = .pure := by rfl) : ∃ r, Q r ∧ callA E (k + 1) none (.fn f first caps) args s = some (.ret r, false, s) := by
  obtain ⟨bl, tk, hst⟩ : ∃ bl tk, startA F.mode none (first ++ args ++ caps) s = { bl, tk, ro := bl.length, rt := tk.length } := by
    unfold startA
    split
    · exact ⟨[], [], rfl⟩
    · exact ⟨s.bl, s.tk, by rw [hm]; rfl⟩
  obtain ⟨o, e', s1, h1, ho, vs, h2, r, h3, hq⟩ := wp_run (h bl tk)
  have hfin : finA .pure bl.length s s1 (resOne vs) = some (r, s) := by
    unfold finV at h3
    simp only [finA]
    split at h3
    · rename_i hd; rw [if_pos hd, h3]
    · rename_i hd; rw [if_neg hd, if_pos h3.1, h3.2]
  rw [hm] at hst
  refine ⟨r, hq, ?_⟩
  rcases ho with rfl | rfl <;> simp only [callA, hF, runA, hn, ne_eq, not_true_eq_false, if_false, hm, hst, h1, outPan, unwindA, h2, hfin]
/- what a function answers, for all arguments of a kind -/
def Rl (K : Nat) (E : IEnv) (f : AV) (A : List AV → Prop) (Q : AV → Prop) : Prop := ∀ k, K ≤ k → ∀ args, A args → ∀ s, ∃ v, Q v ∧ callA E k none f args s = some (.ret v, false, s)

mutual
@[simp] theorem AV.untok_untok : ∀ x : AV, x.untok.untok = x.untok
  | .sl (.tok _) _ _ | .sl .any _ _ | .sl .nil _ _ | .sl .full _ _ | .raw _ _ _ | .bool _ | .int _ _ | .str _ | .nilp | .ptr _ _ | .rptr _ _ | .msl _ _ _ _ | .map _ | .yield _ | .nilf | .nilif | .junk => by simp [AV.untok]
  | .agg cs | .tup cs => by simp [AV.untok, AV.untokL_untokL cs]
  | .iface _ v => by simp [AV.untok, AV.untok_untok v]
  | .fn _ a c => by simp [AV.untok, AV.untokL_untokL a, AV.untokL_untokL c]
@[simp] theorem AV.untokL_untokL : ∀ xs : List AV, AV.untokL (AV.untokL xs) = AV.untokL xs
  | [] => rfl
  | x :: xs => by simp [AV.untokL, AV.untok_untok x, AV.untokL_untokL xs]
end
@[simp] theorem untokL_length : ∀ l : List AV, (AV.untokL l).length = l.length
  | [] => rfl
  | _ :: l => by simp [AV.untokL, untokL_length l]

/- a slice that is made by append, from nil on -/
def outV (z T : Nat) (ys : List AV) : AV := if ys = [] then .sl .nil z [] else .sl (.tok T) z ys
def outT (tk : List Nat) (ys : List AV) : List Nat := if ys = [] then tk else tk ++ [ys.length]
def endV (z : Nat) (ys : List AV) : AV := if ys = [] then .sl .nil z [] else .sl .any z ys
@[simp] theorem outV_nil (z T : Nat) : outV z T [] = .sl .nil z [] := rfl
@[simp] theorem outT_nil (tk : List Nat) : outT tk [] = tk := rfl
theorem outV_untok (z T : Nat) (ys : List AV) : (outV z T ys).untok = endV z ys := by
  unfold outV endV; split <;> rfl
theorem outV_data (z T : Nat) (ys : List AV) : (outV z T ys).data = AV.dataL ys := by
  unfold outV; split
  · rename_i h; subst h; rfl
  · rfl
theorem endV_sl (z : Nat) (ys : List AV) : ∃ o, endV z ys = .sl o z ys ∧ (o = .nil → ys = []) := by
  unfold endV; split
  · rename_i h; subst h; exact ⟨_, rfl, fun _ => rfl⟩
  · exact ⟨_, rfl, fun h => by cases h⟩
theorem outV_sl (z T : Nat) (ys : List AV) : ∃ o, outV z T ys = .sl o z ys ∧ (o = .nil → ys = []) ∧ (AV.sl o z ys).untok = endV z ys := by
  unfold outV endV; split
  · rename_i h; subst h; exact ⟨_, rfl, (fun _ => rfl), rfl⟩
  · exact ⟨_, rfl, (fun h => by cases h), rfl⟩
theorem app_outs {bl : List AB} {tk : List Nat} {ro rt z : Nat} {ys zs : List AV} {o : Own} (hl : ys.length + zs.length ≤ most) (hr : rt ≤ tk.length) :
    appA { bl, tk := outT tk ys, ro, rt } z (outV z tk.length ys) (.sl o z zs) = some (outV z tk.length (ys ++ AV.untokL zs), { bl, tk := outT tk (ys ++ AV.untokL zs), ro, rt }) := by
  cases zs with
  | nil => by_cases hy : ys = [] <;> simp [outV, outT, appA, ysOf, AV.untokL, hy] <;> simpa using hl
  | cons a zs =>
    simp only [List.length_cons] at hl
    by_cases hy : ys = []
    · subst hy
      simp only [List.length_nil, Nat.zero_add] at hl
      simp [outV, outT, appA, ysOf, AV.untokL, hl]
    · simp [outV, outT, appA, ysOf, AV.untokL, hy, hl, hr]
theorem app_one {bl : List AB} {tk : List Nat} {ro rt z : Nat} {ys : List AV} {y : AV} {o : Own} (hl : ys.length < most) (hr : rt ≤ tk.length) :
    appA { bl, tk := outT tk ys, ro, rt } z (outV z tk.length ys) (.sl o z [y]) = some (outV z tk.length (ys ++ [y.untok]), { bl, tk := outT tk (ys ++ [y.untok]), ro, rt }) :=
  app_outs (zs := [y]) hl hr
theorem Rts.untokL : ∀ {ts : List Tm} {ys : List AV}, Rts ts ys → Rts ts (AV.untokL ys)
  | [], _, h => by simp only [Rts] at h; subst h; simp [Rts, AV.untokL]
  | t :: ts, _, h => by
    simp only [Rts] at h
    obtain ⟨y, r, rfl, h1, h2⟩ := h
    simp only [AV.untokL, Rts]
    exact ⟨_, _, rfl, h1.untok, Rts.untokL h2⟩
theorem Sl.end {ts : List Tm} {ys : List AV} (h : Rts ts ys) (hm : ys.length ≤ maxLen) : Sl ts (endV 3 ys) := by
  obtain ⟨o, h1, h2⟩ := endV_sl 3 ys
  exact ⟨o, ys, h1, ⟨hm, h2⟩, h⟩
end Ab

/- Rows that are written into: elements and cells. No condition. -/
namespace Ab
open Go

def Aggs (z : Nat) (ys : List AV) : Prop := ∀ y ∈ ys, ∃ cs : List AV, y = .agg cs ∧ cs.length = z
def rowC : List AV → List AV
  | [] => []
  | y :: ys => (match y with | .agg cs => cs | y => [y]) ++ rowC ys
theorem rowC_append : ∀ a b : List AV, rowC (a ++ b) = rowC a ++ rowC b
  | [], b => rfl
  | y :: a, b => by simp only [List.cons_append, rowC, rowC_append a b, List.append_assoc]
theorem Aggs.tail {z : Nat} {y : AV} {ys : List AV} (h : Aggs z (y :: ys)) : Aggs z ys := fun x hx => h x (List.mem_cons_of_mem _ hx)
theorem Aggs.append {z : Nat} {a b : List AV} (h : Aggs z a) (h' : Aggs z b) : Aggs z (a ++ b) := fun x hx => by
  rcases List.mem_append.1 hx with hx | hx
  · exact h x hx
  · exact h' x hx
theorem rowC_length {z : Nat} : ∀ {ys : List AV}, Aggs z ys → (rowC ys).length = ys.length * z
  | [], _ => by simp [rowC]
  | y :: ys, h => by
    obtain ⟨cs, rfl, hc⟩ := h y (List.mem_cons_self ..)
    simp only [rowC, List.length_append, rowC_length h.tail, hc, List.length_cons, Nat.succ_mul]; omega
theorem cellsL_rowC {z : Nat} : ∀ {ys : List AV}, Aggs z ys → cellsL ys = some (rowC ys)
  | [], _ => rfl
  | y :: ys, h => by
    obtain ⟨cs, rfl, hc⟩ := h y (List.mem_cons_self ..)
    simp only [cellsL, AV.cells?, cellsL_rowC h.tail, rowC]
theorem chunk_rowC {z : Nat} (hz : z ≠ 1) : ∀ {ys : List AV} (rest : List AV), Aggs z ys → AV.chunk z ys.length (rowC ys ++ rest) = ys
  | [], _, _ => rfl
  | y :: ys, rest, h => by
    obtain ⟨cs, rfl, hc⟩ := h y (List.mem_cons_self ..)
    simp only [List.length_cons, AV.chunk, if_neg hz, rowC, List.append_assoc]
    rw [List.take_left' hc, List.drop_left' hc, chunk_rowC hz rest h.tail]
/- one element of a row: what lies there, and a cell of it set -/
theorem rowC_get {z : Nat} {l r : List AV} {cs : List AV} (h : Aggs z l) (o : Nat) (ho : o < cs.length) : (rowC (l ++ .agg cs :: r))[l.length * z + o]? = cs[o]? := by
  rw [rowC_append, ← rowC_length h, append_get]
  simp only [rowC]
  rw [List.getElem?_append_left ho]
theorem rowC_set {z : Nat} {l r : List AV} {cs : List AV} (h : Aggs z l) (o : Nat) (ho : o < cs.length) (v : AV) :
    (rowC (l ++ .agg cs :: r)).take (l.length * z + o) ++ v :: (rowC (l ++ .agg cs :: r)).drop (l.length * z + o + 1) = rowC (l ++ .agg (cs.set o v) :: r) := by
  rw [rowC_append, rowC_append, ← rowC_length h, List.take_length_add_append, Nat.add_assoc, List.drop_length_add_append]
  simp only [rowC, List.append_assoc]
  congr 1
  rw [List.take_append_of_le_length (by omega), List.drop_append_of_le_length (by omega), List.set_eq_take_append_cons_drop, if_pos ho]
  simp
theorem Rts.aggs : ∀ {ts : List Tm} {ys : List AV}, Rts ts ys → Aggs 3 ys
  | [], _, h => by simp only [Rts] at h; subst h; intro y hy; cases hy
  | t :: ts, _, h => by
    simp only [Rts] at h
    obtain ⟨y, r, rfl, h1, h2⟩ := h
    obtain ⟨v, rfl, _⟩ := h1.open
    intro x hx
    rcases List.mem_cons.1 hx with rfl | hx
    · exact ⟨_, rfl, rfl⟩
    · exact h2.aggs x hx
theorem frz_sl (s : St) (lo k : Nat) (o : Own) (z : Nat) (xs : List AV) : frz s lo k (.sl o z xs) = .sl o z xs := by cases k <;> rfl
theorem Rt.frz {t : Tm} {y : AV} (h : Rt t y) (s : St) (lo k : Nat) : frz s lo k y = y := by
  obtain ⟨v, rfl, hv⟩ := h.open
  obtain ⟨o, xs, rfl, _⟩ := hv
  cases k with
  | zero => rfl
  | succ k =>
    simp only [Ab.frz, List.map_cons, List.map_nil]
    cases k <;> rfl
theorem Rts.frz (s : St) (lo k : Nat) : ∀ {ts : List Tm} {ys : List AV}, Rts ts ys → ys.map (Ab.frz s lo k) = ys
  | [], _, h => by simp only [Rts] at h; subst h; rfl
  | t :: ts, _, h => by
    simp only [Rts] at h
    obtain ⟨y, r, rfl, h1, h2⟩ := h
    simp only [List.map_cons, h1.frz, Rts.frz s lo k h2]
theorem frz_row {s : St} {lo i z : Nat} {ys : List AV} (hlo : lo ≤ i) (hc : s.cell? i = some (rowC ys)) (ha : Aggs z ys) (hz : 1 < z) (hfr : ∀ k, ys.map (Ab.frz s lo k) = ys) : Ab.frz s lo 8 (.msl i 0 z ys.length) = .sl .any z (AV.untokL ys) := by
  have h1 : elemsA s (.msl i 0 z ys.length) = some ys := by
    simp only [elemsA, hc]
    rw [if_pos ⟨by rw [rowC_length ha]; omega, by omega⟩, List.drop_zero]
    have := chunk_rowC (by omega) [] ha
    rw [List.append_nil] at this
    rw [this]
  have h2 : Ab.frz s lo 8 (.msl i 0 z ys.length) = (if lo ≤ i then (match elemsA s (.msl i 0 z ys.length) with | some xs => .sl .any z (AV.untokL (xs.map (Ab.frz s lo 7))) | none => .msl i 0 z ys.length) else .msl i 0 z ys.length) := rfl
  rw [h2, if_pos hlo, h1]
  simp only [hfr]
/- what a function makes of the Kids of all terms of a list, as terms -/
theorem kid_mk {E : IEnv} {f : AV} {ts : List Tm} {xs : List AV} (h1 : Rts ts xs) (hf : ∀ t v, t ∈ ts → Sl t.kids v → ∃ r, Fn E f [v] r ∧ Sl t.kids r ∧ r.untok = r) :
    ∃ zs K, Rts ts zs ∧ AV.untokL zs = zs ∧ ∀ k, K ≤ k → ∀ (i : Nat) t, ts[i]? = some t → ∃ v r, xs[i]? = some (.agg [.int .i64 t.kind, .str t.text, v]) ∧ zs[i]? = some (.agg [.int .i64 t.kind, .str t.text, r]) ∧ ∀ s, callA E k none f [v] s = some (.ret r, false, s) := by
  induction ts generalizing xs with
  | nil => exact ⟨[], 0, by simp [Rts], rfl, fun _ _ i t h => by simp at h⟩
  | cons t ts ih =>
    simp only [Rts] at h1
    obtain ⟨y, ys, rfl, hy, hys⟩ := h1
    obtain ⟨zs, K, k1, k2, k3⟩ := ih hys fun t v ht => hf t v (List.mem_cons_of_mem _ ht)
    obtain ⟨v, rfl, hv⟩ := hy.open
    obtain ⟨r, ⟨K1, hr⟩, hr2, hr3⟩ := hf t v (List.mem_cons_self ..) hv
    refine ⟨.agg [.int .i64 t.kind, .str t.text, r] :: zs, K + K1, ?_, ?_, fun k hk i u hu => ?_⟩
    · simp only [Rts]
      refine ⟨_, _, rfl, ?_, k1⟩
      have := Rt.mk (k := t.kind) (s := t.text) hr2
      cases t; exact this
    · simp only [AV.untokL, AV.untok, hr3, k2]
    · cases i with
      | zero =>
        simp only [List.getElem?_cons_zero, Option.some.injEq] at hu
        subst hu
        exact ⟨v, r, rfl, rfl, hr k (by omega)⟩
      | succ i => exact k3 k (by omega) i u (by simpa using hu)
end Ab

/- Depths of terms; a function of the Kids of all terms of a list. No condition. -/
namespace Ab
open Go Go.RowKit
mutual
def dpE : Tm → Nat
  | .mk k _ kids => if k = 4 ∨ k = 8 ∨ 0 < kids.length then 1 + dpS kids else 0
def dpS : List Tm → Nat
  | [] => 0
  | t :: ts => max (dpE t) (dpS ts)
end
theorem dpE_eq (t : Tm) : dpE t = if t.kind = 4 ∨ t.kind = 8 ∨ 0 < t.kids.length then 1 + dpS t.kids else 0 := by cases t; simp only [dpE, Tm.kind, Tm.kids]; congr
theorem dpS_append : ∀ a b : List Tm, dpS (a ++ b) = max (dpS a) (dpS b)
  | [], b => by simp [dpS]
  | t :: a, b => by simp only [List.cons_append, dpS, dpS_append a b]; omega
mutual
theorem dpE_le : ∀ t : Tm, dpE t ≤ nT t
  | .mk k s kids => by have := dpS_le kids; simp only [dpE, nT]; split <;> omega
theorem dpS_le : ∀ ts : List Tm, dpS ts ≤ nTs ts
  | [] => by simp [dpS]
  | t :: ts => by have := dpE_le t; have := dpS_le ts; simp only [dpS, nTs]; omega
end

/- a function of one slice, at the Kids of all terms of a list -/
theorem kid_all {E : IEnv} {f : AV} {more : List AV} {c : Tm → AV} {ts : List Tm} {xs : List AV} (h1 : Rts ts xs)
    (hf : ∀ t v, t ∈ ts → Sl t.kids v → Fn E f (v :: more) (c t)) :
    ∃ K, ∀ k, K ≤ k → ∀ (i : Nat) t, ts[i]? = some t → ∃ v, xs[i]? = some (.agg [.int .i64 t.kind, .str t.text, v]) ∧ Sl t.kids v ∧ ∀ s, callA E k none f (v :: more) s = some (.ret (c t), false, s) := by
  let kid : AV → AV := fun x => match x with | .agg [_, _, v] => v | _ => .junk
  obtain ⟨K, hK⟩ := Fn.all (E := E) (tgt := f) (α := Tm × AV) (args := fun q => kid q.2 :: more) (v := fun q => c q.1) (xs := ts.zip xs) (by
    intro q hq
    obtain ⟨i, hi⟩ := List.mem_iff_getElem?.1 hq
    obtain ⟨a1, a2⟩ := List.getElem?_zip_eq_some.1 hi
    obtain ⟨x, a3, a4⟩ := h1.get a1
    rw [a3] at a2; cases a2
    obtain ⟨v, e1, hv⟩ := a4.open
    have k1 : kid q.2 = v := by rw [e1]
    rw [k1]
    exact hf _ _ (List.mem_of_getElem? a1) hv)
  refine ⟨K, fun k hk i t ht => ?_⟩
  obtain ⟨x, a3, a4⟩ := h1.get ht
  obtain ⟨v, e1, hv⟩ := a4.open
  subst e1
  exact ⟨v, a3, hv, hK k hk (t, _) (List.mem_iff_getElem?.2 ⟨i, List.getElem?_zip_eq_some.2 ⟨ht, a3⟩⟩)⟩
end Ab

/- Loops over functions: rounds of a body, goal by goal. No condition. -/
namespace Ab
open Go

/- at the end of a round: what becomes of the loop -/
def roundW (i : Nat) (L : ALoop) (Post : Bool → St → Prop) : Pst := fun o _ s => s.bl[i]? = some (.loop { L with st := .busy }) ∧ (match o with
  | .normal => Post true (s.setb i (.loop { L with st := .ready, pend := none }))
  | .exit id => Post false (s.setb i (.loop { L with st := .done, pend := some (.exit id) }))
  | .ret => Post false (s.setb i (.loop { L with st := .done, pend := some .ret }))
  | .pan _ => False)
section
variable {i : Nat} {L : ALoop} {Post : Bool → St → Prop} {e : Env} {s : St}
@[simp] theorem roundW_normal : roundW i L Post .normal e s = (s.bl[i]? = some (.loop { L with st := .busy }) ∧ Post true (s.setb i (.loop { L with st := .ready, pend := none }))) := rfl
@[simp] theorem roundW_exit (id : Nat) : roundW i L Post (.exit id) e s = (s.bl[i]? = some (.loop { L with st := .busy }) ∧ Post false (s.setb i (.loop { L with st := .done, pend := some (.exit id) }))) := rfl
@[simp] theorem roundW_ret : roundW i L Post .ret e s = (s.bl[i]? = some (.loop { L with st := .busy }) ∧ Post false (s.setb i (.loop { L with st := .done, pend := some .ret }))) := rfl
end
/- ahead of a round: what the variables of the loop get -/
def startW (E : IEnv) (call : Caller) (n : Nat) (i : Nat) (L : ALoop) (Post : Bool → St → Prop) : Pst := fun o e s => o = .normal ∧ s.bl[i]? = some (.loop L) ∧ wp E call n true L.body (roundW i L Post) e (s.setb i (.loop { L with st := .busy }))
@[simp] theorem startW_normal (E : IEnv) (call : Caller) (n : Nat) (i : Nat) (L : ALoop) (Post : Bool → St → Prop) (e : Env) (s : St) : startW E call n i L Post .normal e s = (s.bl[i]? = some (.loop L) ∧ wp E call n true L.body (roundW i L Post) e (s.setb i (.loop { L with st := .busy }))) := by simp [startW]

theorem call_round {E : IEnv} {k i : Nat} {args : List AV} {s : St} {L : ALoop} {Post : Bool → St → Prop} (hL : s.bl[i]? = some (.loop L)) (hst : L.st = .ready) (hn : args.length = L.ps.length) (hro : s.ro ≤ i)
    (h : wp E (callA E k) k true L.assign (startW E (callA E k) k i L Post) (putAll L.ps args L.env) s) : ∃ b s', callA E (k + 1) none (.yield i) args s = some (.ret (.bool b), false, s') ∧ Post b s' := by
  obtain ⟨o, e1, s1, h1, rfl, h2, h3⟩ := wp_run h
  obtain ⟨o2, e2, s2, h4, h5, h6⟩ := wp_run h3
  have hc : codeA E (callA E k) k L.assign { env := putAll L.ps args L.env, defers := [], rcv := none, recd := false, rnd := true } s = some (.normal, frW true e1, s1) := h1
  have hb : codeA E (callA E k) k L.body (frW true e1) (s1.setb i (.loop { L with st := .busy })) = some (o2, frW true e2, s2) := h4
  cases o2 with
  | normal => exact ⟨true, _, by simp only [callA, Option.isSome_none, Bool.false_eq_true, if_false, roundA, hL, hn, hro, and_self, if_true, hc, h2, hst, hb, h5], h6⟩
  | exit id => exact ⟨false, _, by simp only [callA, Option.isSome_none, Bool.false_eq_true, if_false, roundA, hL, hn, hro, and_self, if_true, hc, h2, hst, hb, h5], h6⟩
  | ret => exact ⟨false, _, by simp only [callA, Option.isSome_none, Bool.false_eq_true, if_false, roundA, hL, hn, hro, and_self, if_true, hc, h2, hst, hb, h5], h6⟩
  | pan v => exact h6.elim

/- behind the call of the iterator -/
def overW (i : Nat) (e : Env) (Q : Pst) (s : St) : Prop := ∃ L, s.bl[i]? = some (.loop L) ∧ ((L.st = .ready ∧ L.pend = none ∧ Q .normal e (s.setb i (.loop { L with st := .exhausted }))) ∨ (∃ id, L.st = .done ∧ L.pend = some (.exit id) ∧ Q (.exit id) e (s.setb i (.loop { L with st := .exhausted }))) ∨ (L.st = .done ∧ L.pend = some .ret ∧ Q .ret e (s.setb i (.loop { L with st := .exhausted }))))
theorem wp_range {E : IEnv} {call : Caller} {n : Nat} {r : Bool} {g : Opd} {ps : List Nat} {a b : ICode} {Q : Pst} {e : Env} {s : St}
    (h : ∃ v rd s', call none (g.ev E e) [.yield s.bl.length] (s.push (.loop { st := .ready, pend := none, env := e, ps, assign := a, body := b })) = some (.ret v, rd, s') ∧ overW s.bl.length e Q s') : wp E call n r (.rangeFn g ps a b) Q e s := by
  obtain ⟨v, rd, s', h1, L, h2, h3⟩ := h
  simp only [wp, codeA, h1, h2]
  rcases h3 with ⟨h4, h5, q⟩ | ⟨id, h4, h5, q⟩ | ⟨h4, h5, q⟩
  · rw [if_neg (by rw [h4]; exact fun h => by cases h)]; simp only [h5]; exact ⟨_, _, rfl, by simpa only [h5] using q⟩
  · rw [if_neg (by rw [h4]; exact fun h => by cases h)]; simp only [h5]; exact ⟨_, _, rfl, by simpa only [h5] using q⟩
  · rw [if_neg (by rw [h4]; exact fun h => by cases h)]; simp only [h5]; exact ⟨_, _, rfl, by simpa only [h5] using q⟩
theorem wp_range_none {E : IEnv} {call : Caller} {n : Nat} {r : Bool} {g : Opd} {ps : List Nat} {a b : ICode} {Q : Pst} {e : Env} {s : St}
    (h : ∃ v, call none (g.ev E e) [.yield s.bl.length] (s.push (.loop { st := .ready, pend := none, env := e, ps, assign := a, body := b })) = some (.ret v, false, s.push (.loop { st := .ready, pend := none, env := e, ps, assign := a, body := b })))
    (hq : ∀ L, Q .normal e (s.push (.loop L))) : wp E call n r (.rangeFn g ps a b) Q e s := by
  obtain ⟨v, h⟩ := h
  refine wp_range ⟨v, false, _, h, { st := .ready, pend := none, env := e, ps, assign := a, body := b }, by simp [St.push], .inl ⟨rfl, rfl, ?_⟩⟩
  have := hq { st := .exhausted, pend := none, env := e, ps, assign := a, body := b }
  simpa [St.push, St.setb] using this
end Ab

/- All terms of an expression, each ahead of its Kids; a step from term to term. No condition. -/
namespace Ab
open Go Go.RowKit
mutual
def preT : Tm → List Tm
  | .mk k s kids => .mk k s kids :: preS kids
def preS : List Tm → List Tm
  | [] => []
  | t :: ts => preT t ++ preS ts
end
theorem preT_eq (t : Tm) : preT t = t :: preS t.kids := by cases t; simp only [preT, Tm.kids]
theorem preS_cons (t : Tm) (ts : List Tm) : preS (t :: ts) = t :: (preS t.kids ++ preS ts) := by simp only [preS, preT_eq, List.cons_append]
theorem preS_append : ∀ a b : List Tm, preS (a ++ b) = preS a ++ preS b
  | [], b => by simp [preS]
  | t :: a, b => by simp [preS, preS_append a b]
mutual
theorem preT_length : ∀ t : Tm, (preT t).length = nT t
  | .mk k s kids => by simp only [preT, nT, List.length_cons, preS_length kids]; omega
theorem preS_length : ∀ ts : List Tm, (preS ts).length = nTs ts
  | [] => rfl
  | t :: ts => by simp only [preS, nTs, List.length_append, preT_length t, preS_length ts]
end
def foldO {α : Type} (y : α → Tm → Option α) : α → List Tm → Option α
  | a, [] => some a
  | a, t :: ts => match y a t with
    | some b => foldO y b ts
    | none => none
theorem foldO_append {α : Type} (y : α → Tm → Option α) : ∀ (a : α) (l r : List Tm), foldO y a (l ++ r) = match foldO y a l with | some b => foldO y b r | none => none
  | a, [], r => rfl
  | a, t :: l, r => by
    simp only [List.cons_append, foldO]
    cases y a t with
    | none => rfl
    | some b => exact foldO_append y b l r
end Ab

/- Small expressions as plain data. No condition. -/
namespace Ab
open Go Go.RowKit
mutual
def nodesL (d : Nat) (left n : Int) : List Tm → Int
  | [] => n
  | t :: ts => if n ≤ left then (if 150 < d then left + 1 else nodesL d left (n + (1 + nodesK (d + 1) (left - n - 1) t)) ts) else n
def nodesK (d : Nat) (left : Int) : Tm → Int
  | .mk _ _ kids => nodesL d left 0 kids
end
theorem nodesK_eq (d : Nat) (left : Int) (t : Tm) : nodesK d left t = nodesL d left 0 t.kids := by cases t; simp only [nodesK, Tm.kids]
mutual
theorem nodesL_bound (d : Nat) (left n : Int) : ∀ ts : List Tm, 0 ≤ n → n ≤ nodesL d left n ts ∧ nodesL d left n ts ≤ max n (left + 1)
  | [], h => by simp only [nodesL]; omega
  | t :: ts, h => by
    simp only [nodesL]
    split
    · split
      · omega
      · have h1 := nodesK_bound (d + 1) (left - n - 1) t
        have h2 := nodesL_bound d left (n + (1 + nodesK (d + 1) (left - n - 1) t)) ts (by omega)
        omega
    · omega
theorem nodesK_bound (d : Nat) (left : Int) : ∀ t : Tm, 0 ≤ nodesK d left t ∧ nodesK d left t ≤ max 0 (left + 1)
  | .mk _ _ kids => by
    have := nodesL_bound d left 0 kids (by omega)
    simp only [nodesK]; omega
end
mutual
theorem nodesL_exact (d : Nat) (left n : Int) : ∀ ts : List Tm, 0 ≤ n → nodesL d left n ts ≤ left → nodesL d left n ts = n + nTs ts
  | [], h, h' => by simp only [nodesL, nTs]; omega
  | t :: ts, h, h' => by
    simp only [nodesL] at h' ⊢
    split at h'
    · rename_i h1
      rw [if_pos h1]
      split at h'
      · omega
      · rename_i h2
        rw [if_neg h2]
        have h3 := nodesK_bound (d + 1) (left - n - 1) t
        have h4 := nodesL_bound d left (n + (1 + nodesK (d + 1) (left - n - 1) t)) ts (by omega)
        have h5 := nodesL_exact d left (n + (1 + nodesK (d + 1) (left - n - 1) t)) ts (by omega) h'
        have h6 := nodesK_exact (d + 1) (left - n - 1) t (by omega)
        simp only [nTs]
        omega
    · omega
theorem nodesK_exact (d : Nat) (left : Int) : ∀ t : Tm, nodesK d left t ≤ left → 1 + nodesK d left t = nT t
  | .mk _ _ kids, h => by
    simp only [nodesK] at h ⊢
    have := nodesL_exact d left 0 kids (by omega) h
    simp only [nT]; omega
end
mutual
def shortL : List Tm → Bool
  | [] => true
  | t :: ts => shortE t && shortL ts
def shortE : Tm → Bool
  | .mk _ s kids => decide (s.length ≤ 600) && shortL kids
end
theorem shortE_eq (t : Tm) : shortE t = (decide (t.text.length ≤ 600) && shortL t.kids) := by cases t; rw [shortE]; rfl
mutual
theorem shortL_pre : ∀ ts : List Tm, shortL ts = true → ∀ t ∈ preS ts, t.text.length ≤ 600
  | [], _, t, h => by simp [preS] at h
  | u :: ts, hs, t, h => by
    simp only [shortL, Bool.and_eq_true] at hs
    simp only [preS, List.mem_append] at h
    rcases h with h | h
    · exact shortE_pre u hs.1 t h
    · exact shortL_pre ts hs.2 t h
theorem shortE_pre : ∀ u : Tm, shortE u = true → ∀ t ∈ preT u, t.text.length ≤ 600
  | .mk k s kids, hs, t, h => by
    simp only [shortE, Bool.and_eq_true, decide_eq_true_eq] at hs
    simp only [preT, List.mem_cons] at h
    rcases h with rfl | h
    · exact hs.1
    · exact shortL_pre kids hs.2 t h
end
def smallT (ts : List Tm) (m : Int) : Bool := decide (nodesL 0 m 0 ts ≤ m) && shortL ts
theorem smallT_nodes {ts : List Tm} {m : Int} (h : smallT ts m = true) : (nTs ts : Int) ≤ m := by
  simp only [smallT, Bool.and_eq_true, decide_eq_true_eq] at h
  have := nodesL_exact 0 m 0 ts (by omega) h.1
  omega
theorem smallT_short {ts : List Tm} {m : Int} (h : smallT ts m = true) : ∀ t ∈ preS ts, t.text.length ≤ 600 := by
  simp only [smallT, Bool.and_eq_true] at h
  exact shortL_pre ts h.2
end Ab

/- Functions of the Kids of terms, with fuel that is told. No condition. -/
namespace Ab
open Go
theorem FnK.mono {K K' : Nat} {E : IEnv} {f : AV} {a : List AV} {v : AV} (h : FnK K E f a v) (hk : K ≤ K') : FnK K' E f a v := fun k hk' s => h k (by omega) s
theorem kid_allK {K : Nat} {E : IEnv} {f : AV} {more : List AV} {c : Tm → AV} {ts : List Tm} {xs : List AV} (h1 : Rts ts xs)
    (hf : ∀ t v, t ∈ ts → Sl t.kids v → FnK K E f (v :: more) (c t)) :
    ∀ k, K ≤ k → ∀ (i : Nat) t, ts[i]? = some t → ∃ v, xs[i]? = some (.agg [.int .i64 t.kind, .str t.text, v]) ∧ Sl t.kids v ∧ ∀ s, callA E k none f (v :: more) s = some (.ret (c t), false, s) := by
  intro k hk i t ht
  obtain ⟨x, a3, a4⟩ := h1.get ht
  obtain ⟨v, e1, hv⟩ := a4.open
  subst e1
  exact ⟨v, a3, hv, hf t v (List.mem_of_getElem? ht) hv k hk⟩
theorem kids_allK {K : Nat} {E : IEnv} {f : AV} {c : Tm → Tm → Int} {ts us : List Tm} {xs ys : List AV} (h1 : Rts ts xs) (h2 : Rts us ys)
    (hf : ∀ t u v w, t ∈ ts → u ∈ us → Sl t.kids v → Sl u.kids w → FnK K E f [v, w] (.int .i64 (c t u))) :
    ∀ k, K ≤ k → ∀ (i : Nat) t u, ts[i]? = some t → us[i]? = some u → ∃ v w, xs[i]? = some (.agg [.int .i64 t.kind, .str t.text, v]) ∧ ys[i]? = some (.agg [.int .i64 u.kind, .str u.text, w]) ∧ ∀ s, callA E k none f [v, w] s = some (.ret (.int .i64 (c t u)), false, s) := by
  intro k hk i t u ht hu
  obtain ⟨x, a3, a4⟩ := h1.get ht
  obtain ⟨y, b3, b4⟩ := h2.get hu
  obtain ⟨v, e1, hv⟩ := a4.open
  obtain ⟨w, e2, hw⟩ := b4.open
  subst e1 e2
  exact ⟨v, w, a3, b3, hf t u v w (List.mem_of_getElem? ht) (List.mem_of_getElem? hu) hv hw k hk⟩
end Ab

/- What 'term.Copy' answers. No condition but the table. -/
namespace Ab.D
open Go Ab Go.RowKit
set_option maxRecDepth 10000
set_option linter.unusedSimpArgs false
set_option linter.unusedVariables false
theorem kid_mkK {K : Nat} {E : IEnv} {f : AV} {ts : List Tm} {xs : List AV} (h1 : Rts ts xs) (hf : ∀ t v, t ∈ ts → Sl t.kids v → ∃ r, FnK K E f [v] r ∧ Sl t.kids r ∧ r.untok = r) :
    ∃ zs, Rts ts zs ∧ AV.untokL zs = zs ∧ ∀ k, K ≤ k → ∀ (i : Nat) t, ts[i]? = some t → ∃ v r, xs[i]? = some (.agg [.int .i64 t.kind, .str t.text, v]) ∧ zs[i]? = some (.agg [.int .i64 t.kind, .str t.text, r]) ∧ ∀ s, callA E k none f [v] s = some (.ret r, false, s) := by
  induction ts generalizing xs with
  | nil => exact ⟨[], by simp [Rts], rfl, fun _ _ i t h => by simp at h⟩
  | cons t ts ih =>
    simp only [Rts] at h1
    obtain ⟨y, ys, rfl, hy, hys⟩ := h1
    obtain ⟨zs, k1, k2, k3⟩ := ih hys fun t v ht => hf t v (List.mem_cons_of_mem _ ht)
    obtain ⟨v, rfl, hv⟩ := hy.open
    obtain ⟨r, hr, hr2, hr3⟩ := hf t v (List.mem_cons_self ..) hv
    refine ⟨.agg [.int .i64 t.kind, .str t.text, r] :: zs, ?_, ?_, fun k hk i u hu => ?_⟩
    · simp only [Rts]
      refine ⟨_, _, rfl, ?_, k1⟩
      have := Rt.mk (k := t.kind) (s := t.text) hr2
      cases t; exact this
    · simp only [AV.untokL, AV.untok, hr3, k2]
    · cases i with
      | zero =>
        simp only [List.getElem?_cons_zero, Option.some.injEq] at hu
        subst hu
        exact ⟨v, r, rfl, rfl, hr k hk⟩
      | succ i => exact k3 k hk i u (by simpa using hu)
section
variable {E : IEnv} (hE : E.fns = Table.fn table)
include hE
theorem call_CloneK {ts : List Tm} {v : AV} (h : Sl ts v) (hn : ts.length ≤ most) (k : Nat) (s : St) : ∃ r s', callA E (k + 1) none (.fn n_slices_Clone___api_Term_api_Term__m [] []) [v] s = some (.ret r, false, s') ∧
    ((ts = [] ∧ (r = .sl .nil 3 [] ∧ v = .sl .nil 3 [] ∨ r = .sl .full 3 [] ∧ (∃ o, o ≠ .nil ∧ v = .sl o 3 [])) ∧ s' = s) ∨ (ts ≠ [] ∧ r = .msl s.bl.length 0 3 ts.length ∧ ∃ o xs, v = .sl o 3 xs ∧ s' = { s with bl := s.bl ++ [.cells (rowC (AV.untokL xs))] })) := by
  obtain ⟨o, xs, rfl, ⟨_, ho⟩, hR⟩ := h
  have hR' := Rts.untokL hR
  have hl := hR'.length
  have hl0 := hR.length
  have hmm : most = 1073741824 := rfl
  refine call_byW (h_slices_Clone___api_Term_api_Term__m hE) rfl ?_
  by_cases hon : o = .nil
  · subst hon
    have := ho rfl
    subst this
    have h0 : ts = [] := List.eq_nil_of_length_eq_zero (by simpa using hl0.symm)
    subst h0
    simp [F_slices_Clone___api_Term_api_Term__m, b_slices_Clone___api_Term_api_Term__m, aeq, finA, s0Of]
  · have ha : ∀ z, aeq .slice (.sl o 3 xs) (.sl .nil z []) = some false := by
      intro z; cases o <;> first | rfl | exact absurd rfl hon
    cases hx : AV.untokL xs with
    | nil =>
      have hx0 : xs = [] := by cases xs with | nil => rfl | cons _ _ => simp [AV.untokL] at hx
      subst hx0
      have h0 : ts = [] := List.eq_nil_of_length_eq_zero (by simpa using hl0.symm)
      subst h0
      simp [F_slices_Clone___api_Term_api_Term__m, b_slices_Clone___api_Term_api_Term__m, ha, setElems, repl, appmA, ysOf, finA, s0Of, hon]
    | cons y r =>
      have hcl := cellsL_rowC hR'.aggs
      have hne : ts ≠ [] := by rintro rfl; simp only [Rts] at hR'; rw [hR'] at hx; cases hx
      rw [hx] at hcl hl
      have hlen : (y :: r).length ≤ most := by omega
      have hlen2 : r.length + 1 = ts.length := by simpa using hl
      simp only [List.length_cons] at hlen
      simp [F_slices_Clone___api_Term_api_Term__m, b_slices_Clone___api_Term_api_Term__m, ha, setElems, repl, appmA, ysOf, hx, hn, hcl, finA, s0Of, hne, hlen2]
      exact ⟨o, xs, ⟨rfl, rfl⟩, by rw [hx]⟩

theorem fn_CopyK : ∀ (n : Nat) {ts : List Tm} {v : AV}, nTs ts < n → nTs ts ≤ most → Sl ts v → ∃ r, FnK (4 * nTs ts + 7) E (.fn n_term_Copy [] []) [v] r ∧ Sl ts r ∧ r.untok = r
  | 0, _, _, h, _, _ => by omega
  | n + 1, ts, v, hn, hm, hv => by
    have hv0 := hv
    obtain ⟨o1, xs, rfl, ⟨hm1, hnil⟩, h1⟩ := hv
    have hl1 := h1.length
    have hmx : maxLen = 9223372036854775807 := rfl
    have hmm : most = 1073741824 := rfl
    have hlt := length_le_nTs ts
    obtain ⟨zs, z1, z2, z3⟩ := kid_mkK (K := 4 * nTs ts + 3) (E := E) (f := .fn n_term_Copy [] []) (Rts.untokL h1) fun t v ht hv => by
      have hc := nT_mem ht
      rw [nT_eq] at hc
      obtain ⟨r, a1, a2⟩ := fn_CopyK n (v := v) (ts := t.kids) (by omega) (by omega) hv
      exact ⟨r, a1.mono (by omega), a2⟩
    have hzl := z1.length
    by_cases hts : ts = []
    · subst hts
      have hx0 : xs = [] := by simpa using hl1
      subst hx0
      have key : ∀ k s, 2 ≤ k → callA E k none (.fn n_term_Copy [] []) [.sl o1 3 []] s = some (.ret (if o1 = .nil then .sl .nil 3 [] else .sl .full 3 []), false, s) := by
        intro k s hk
        obtain ⟨k, rfl⟩ : ∃ j, k = j + 2 := ⟨k - 2, by omega⟩
        refine call_byP (E := E) (h_term_Copy hE) (first := []) (caps := []) (args := [AV.sl o1 3 []]) rfl (k := k + 1) (fun bl tk => ?_) s
        obtain ⟨r, s', hc, hor⟩ := call_CloneK hE hv0 (by simp) k { bl, tk, ro := bl.length, rt := tk.length }
        rcases hor with ⟨_, hr, rfl⟩ | ⟨h, _⟩
        · rcases hr with ⟨rfl, he⟩ | ⟨rfl, o2, ho2, he⟩
          · cases he
            simp [F_term_Copy, b_term_Copy, s0Of, hc]
            refine wp_loop 0 (fun i e st => i = 0 ∧ e = [(3, .sl .nil 3 []), (8, .int .i64 0), (9, .int .i64 0)] ∧ st = { bl, tk, ro := bl.length, rt := tk.length }) (by omega) (by simp) (fun i e st hi _ => by omega) ?_
            rintro e st ⟨_, rfl, rfl⟩
            simp [l0_term_Copy, finV]
          · cases he
            simp [F_term_Copy, b_term_Copy, s0Of, hc]
            refine wp_loop 0 (fun i e st => i = 0 ∧ e = [(3, .sl .full 3 []), (8, .int .i64 0), (9, .int .i64 0)] ∧ st = { bl, tk, ro := bl.length, rt := tk.length }) (by omega) (by simp) (fun i e st hi _ => by omega) ?_
            rintro e st ⟨_, rfl, rfl⟩
            simp [l0_term_Copy, finV, ho2]
        · exact absurd rfl h
      refine ⟨_, fun k hk s => key k s (by omega), ?_, ?_⟩
      · split
        · exact Sl.nil
        · exact ⟨_, _, rfl, ⟨by simp, fun h => by cases h⟩, by simp [Rts]⟩
      · split <;> rfl
    · refine ⟨.sl .any 3 zs, fun k hk s => ?_, ⟨_, _, rfl, ⟨by rw [hzl]; omega, fun h => by cases h⟩, z1⟩, rfl⟩
      obtain ⟨k, rfl⟩ : ∃ j, k = j + 2 := ⟨k - 2, by omega⟩
      refine call_byP (E := E) (h_term_Copy hE) (first := []) (caps := []) (args := [AV.sl o1 3 xs]) rfl (k := k + 1) (fun bl tk => ?_) s
      obtain ⟨r, s', hc, hor⟩ := call_CloneK hE hv0 (by omega) k { bl, tk, ro := bl.length, rt := tk.length }
      rcases hor with ⟨rfl, _⟩ | ⟨_, rfl, o2, xs2, e2, rfl⟩
      · exact absurd rfl hts
      cases e2
      have hul : (AV.untokL xs).length = ts.length := by simp [hl1]
      have hag := (Rts.untokL h1).aggs
      have hagz := z1.aggs
      simp [F_term_Copy, b_term_Copy, s0Of, hc]
      refine wp_loop ts.length (fun i e st => e = [(3, .msl bl.length 0 3 ts.length), (8, .int .i64 ts.length), (9, .int .i64 i)] ∧ st = { bl := bl ++ [.cells (rowC (zs.take i ++ (AV.untokL xs).drop i))], tk, ro := bl.length, rt := tk.length }) (by omega) (by simp) ?_ ?_
      · rintro i e st hi ⟨rfl, rfl⟩
        obtain ⟨t, ht⟩ : ∃ t, ts[i]? = some t := ⟨_, List.getElem?_eq_getElem hi⟩
        obtain ⟨v, r, hx, hz, hcall⟩ := z3 (k + 1) (by omega) i t ht
        obtain ⟨or, kr, rfl⟩ : ∃ o xs, r = .sl o 3 xs := by
          obtain ⟨y, hy, hry⟩ := z1.get ht
          rw [hz] at hy; cases hy
          obtain ⟨q, hq, hsl⟩ := hry.open
          cases hq
          obtain ⟨o, xs, h, _⟩ := hsl
          exact ⟨o, xs, h⟩
        obtain ⟨hxi, hx1⟩ := List.getElem?_eq_some_iff.1 hx
        obtain ⟨hzi, hz1⟩ := List.getElem?_eq_some_iff.1 hz
        have e1 : idx (.int .i64 i) ts.length = some i := idx_nat hi
        have hwr : IntKind.wrap .i64 ((i : Int) + 1) = i + 1 := wrapIn (by omega) (by omega)
        have htl : (zs.take i).length = i := by rw [List.length_take]; omega
        have hagt : Aggs 3 (zs.take i) := fun y hy => hagz y (List.mem_of_mem_take hy)
        obtain ⟨X, hX⟩ : ∃ X, X = rowC (zs.take i ++ (AV.untokL xs).drop i) := ⟨_, rfl⟩
        have hd : (AV.untokL xs).drop i = .agg [.int .i64 t.kind, .str t.text, v] :: (AV.untokL xs).drop (i + 1) := by rw [List.drop_eq_getElem_cons hxi, hx1]
        have hzt : zs.take (i + 1) = zs.take i ++ [.agg [.int .i64 t.kind, .str t.text, .sl or 3 kr]] := by rw [List.take_add_one, hz]; rfl
        have g1 : X[i * 3 + 2]? = some v := by
          rw [hX, hd]
          have := rowC_get (l := zs.take i) (r := (AV.untokL xs).drop (i + 1)) (cs := [.int .i64 t.kind, .str t.text, v]) hagt 2 (by simp)
          rw [htl] at this; exact this
        have g2 : X.take (i * 3 + 2) ++ .sl or 3 kr :: X.drop (i * 3 + 3) = rowC (zs.take (i + 1) ++ (AV.untokL xs).drop (i + 1)) := by
          rw [hX, hd, hzt, List.append_assoc]
          have := rowC_set (l := zs.take i) (r := (AV.untokL xs).drop (i + 1)) (cs := [.int .i64 t.kind, .str t.text, v]) hagt 2 (by simp) (.sl or 3 kr)
          rw [htl] at this
          exact this
        have g3 : X.length = ts.length * 3 := by
          rw [hX, rowC_length (z := 3)]
          · simp only [List.length_append, htl, List.length_drop, hul]; congr 1; omega
          · exact hagt.append fun y hy => hag y (List.mem_of_mem_drop hy)
        have g4 : i * 3 + 3 ≤ X.length := by omega
        rw [← hX]
        simp [l0_term_Copy, hi, e1, hwr, append_get, append_get0, append_set, append_set0, g1, g4, hcall, g2]
      · rintro e st ⟨rfl, rfl⟩
        have hf := frz_row (s := { bl := bl ++ [.cells (rowC zs)], tk, ro := bl.length, rt := tk.length }) (lo := bl.length) (i := bl.length) (z := 3) (ys := zs) (Nat.le_refl _) (by simp) hagz (by omega) (fun k => z1.frz _ _ _)
        rw [hzl] at hf
        have hdz := z1.data
        rw [List.take_of_length_le (by omega), List.drop_of_length_le (by omega), List.append_nil]
        simp [l0_term_Copy, finV, hf, z2, hdz]
end
end Ab.D

/- Texts of terms as plain data. No condition. -/
namespace Ab
open Go

def classN (n : Nat) : Int := if (97 ≤ n ∧ n ≤ 122) ∨ (65 ≤ n ∧ n ≤ 90) then 5 else if 48 ≤ n ∧ n ≤ 57 then 6 else if n = 45 ∨ n = 95 then 4 else if n = 32 ∨ n = 9 ∨ n = 10 ∨ n = 13 then 8 else 0
def isC (n : Nat) (c : Int) : Bool := (IntKind.wrap .u8 ((BitVec.ofInt 8 (classN n) &&& BitVec.ofInt 8 c).toNat : Nat)) != 0
def everyC (s : List UInt8) (c : Int) : Bool := s.all fun b => isC b.toNat c
def identT (s : List UInt8) (most : Int) : Bool := s != [] && decide ((s.length : Int) ≤ most) && isC (s.getD 0 0).toNat 1 && everyC s 4
def cutMinus (s : List UInt8) : List UInt8 × Bool := match s with
  | 45 :: r => (r, true)
  | s => (s, false)
def numT (s : List UInt8) : Bool :=
  let d := (cutMinus s).1
  !(d == [] || decide (500 < d.length) || !everyC d 2) && ((d.getD 0 0).toNat != 48 || (d.length == 1 && !(cutMinus s).2))
def runeIx (s : List UInt8) (p : Int → Bool) (want : Bool) : Nat → Nat → Int
  | 0, _ => -1
  | n + 1, pos => if pos < s.length then (if p (Go.Utf8.decode ⟨s.toArray⟩ pos).1 == want then (pos : Int) else runeIx s p want n (pos + (Go.Utf8.decode ⟨s.toArray⟩ pos).2)) else -1
def oddRune (c : Int) : Bool := decide (c < 32) || decide (126 < c)
def wordT (s : List UInt8) : Bool := s != [] && decide (s.length ≤ 60) && !decide (0 ≤ runeIx s oddRune true (s.length + 1) 0)
def rightT (t : Tm) : Bool :=
  if t.kind = 4 then t.text == [] else if t.kind = 8 then identT t.text 40 else if 0 < t.kids.length then false
  else if t.kind = 1 then t.text.length == 1 else if t.kind = 2 then wordT t.text else if t.kind = 3 then numT t.text
  else if t.kind = 5 ∨ t.kind = 6 ∨ t.kind = 7 then t.text != [] && decide (t.text.length ≤ 40) && everyC t.text 3 else false
theorem decode_pos (s : ByteArray) (i : Nat) : 1 ≤ (Go.Utf8.decode s i).2 := by
  unfold Go.Utf8.decode
  dsimp only
  repeat' split
  all_goals simp
end Ab

/- What the functions of texts answer. No condition but the table. -/
namespace Ab.D
open Go Ab Go.RowKit
set_option maxRecDepth 10000
set_option linter.unusedSimpArgs false
set_option linter.unusedVariables false
section
variable {E : IEnv} (hE : E.fns = Table.fn table)
include hE
theorem fn_classOf (n : Nat) : FnK 1 E (.fn n_term_classOf [] []) [.int .u8 n] (.int .u8 (classN n)) :=
  FnK.byW (h_term_classOf hE) rfl rfl (K := 0) fun k hk bl tk => by
    unfold classN
    by_cases a1 : 97 ≤ n
    · by_cases a2 : n ≤ 122
      · have b1 : (97 : Int) ≤ n := by omega
        have b2 : (n : Int) ≤ 122 := by omega
        simp [F_term_classOf, b_term_classOf, a1, a2, b1, b2]
      · have b1 : (97 : Int) ≤ n := by omega
        have b2 : ¬ (n : Int) ≤ 122 := by omega
        have b3 : (65 : Int) ≤ n := by omega
        have b4 : ¬ (n : Int) ≤ 90 := by omega
        have b5 : (48 : Int) ≤ n := by omega
        have b6 : ¬ (n : Int) ≤ 57 := by omega
        have b7 : ((n : Int) == 45) = false := by simp; omega
        have b8 : ((n : Int) == 95) = false := by simp; omega
        have b9 : ((n : Int) == 32) = false := by simp; omega
        have b10 : ((n : Int) == 9) = false := by simp; omega
        have b11 : ((n : Int) == 10) = false := by simp; omega
        have b12 : ((n : Int) == 13) = false := by simp; omega
        rw [if_neg (by omega), if_neg (by omega), if_neg (by omega), if_neg (by omega)]
        simp [F_term_classOf, b_term_classOf, b1, b2, b3, b4, b5, b6, b7, b8, b9, b10, b11, b12]
    have b1 : ¬ (97 : Int) ≤ n := by omega
    by_cases a3 : 65 ≤ n
    · have b3 : (65 : Int) ≤ n := by omega
      by_cases a4 : n ≤ 90
      · have b4 : (n : Int) ≤ 90 := by omega
        simp [F_term_classOf, b_term_classOf, a1, a3, a4, b1, b3, b4]
      · have b4 : ¬ (n : Int) ≤ 90 := by omega
        have b5 : (48 : Int) ≤ n := by omega
        have b6 : ¬ (n : Int) ≤ 57 := by omega
        have b7 : ((n : Int) == 45) = false := by simp; omega
        have b9 : ((n : Int) == 32) = false := by simp; omega
        have b10 : ((n : Int) == 9) = false := by simp; omega
        have b11 : ((n : Int) == 10) = false := by simp; omega
        have b12 : ((n : Int) == 13) = false := by simp; omega
        rw [if_neg (by omega), if_neg (by omega)]
        by_cases a8 : n = 95
        · have b8 : ((n : Int) == 95) = true := by simp; omega
          rw [if_pos (by omega)]
          simp [F_term_classOf, b_term_classOf, b1, b3, b4, b5, b6, b7, b8]
        · have b8 : ((n : Int) == 95) = false := by simp; omega
          rw [if_neg (by omega), if_neg (by omega)]
          simp [F_term_classOf, b_term_classOf, b1, b3, b4, b5, b6, b7, b8, b9, b10, b11, b12]
    have b3 : ¬ (65 : Int) ≤ n := by omega
    rw [if_neg (by omega)]
    by_cases a5 : 48 ≤ n
    · have b5 : (48 : Int) ≤ n := by omega
      by_cases a6 : n ≤ 57
      · have b6 : (n : Int) ≤ 57 := by omega
        simp [F_term_classOf, b_term_classOf, a5, a6, b1, b3, b5, b6]
      · have b6 : ¬ (n : Int) ≤ 57 := by omega
        have b7 : ((n : Int) == 45) = false := by simp; omega
        have b8 : ((n : Int) == 95) = false := by simp; omega
        have b9 : ((n : Int) == 32) = false := by simp; omega
        have b10 : ((n : Int) == 9) = false := by simp; omega
        have b11 : ((n : Int) == 10) = false := by simp; omega
        have b12 : ((n : Int) == 13) = false := by simp; omega
        rw [if_neg (by omega), if_neg (by omega), if_neg (by omega)]
        simp [F_term_classOf, b_term_classOf, b1, b3, b5, b6, b7, b8, b9, b10, b11, b12]
    have b5 : ¬ (48 : Int) ≤ n := by omega
    have b8 : ((n : Int) == 95) = false := by simp; omega
    rw [if_neg (by omega)]
    by_cases a7 : n = 45
    · subst a7
      simp [F_term_classOf, b_term_classOf, b1, b3, b5]
    have b7 : ((n : Int) == 45) = false := by simp; omega
    rw [if_neg (by omega)]
    by_cases a9 : n = 32
    · subst a9
      simp [F_term_classOf, b_term_classOf, b1, b3, b5, b8, b7]
    have b9 : ((n : Int) == 32) = false := by simp; omega
    by_cases a10 : n = 9
    · subst a10
      simp [F_term_classOf, b_term_classOf, b1, b3, b5, b8, b7, b9]
    have b10 : ((n : Int) == 9) = false := by simp; omega
    by_cases a11 : n = 10
    · subst a11
      simp [F_term_classOf, b_term_classOf, b1, b3, b5, b8, b7, b9, b10]
    have b11 : ((n : Int) == 10) = false := by simp; omega
    by_cases a12 : n = 13
    · subst a12
      simp [F_term_classOf, b_term_classOf, b1, b3, b5, b8, b7, b9, b10, b11]
    have b12 : ((n : Int) == 13) = false := by simp; omega
    rw [if_neg (by omega)]
    simp [F_term_classOf, b_term_classOf, b1, b3, b5, b8, b7, b9, b10, b11, b12]

theorem fn_is (n : Nat) (c : Int) : FnK 2 E (.fn n_term_is [] []) [.int .u8 n, .int .u8 c] (.bool (isC n c)) :=
  FnK.byW (h_term_is hE) rfl rfl (K := 1) fun k hk bl tk => by
    simp [F_term_is, b_term_is, fn_classOf hE n k (by omega), isC]
    rfl

theorem fn_every (s : List UInt8) (hs : s.length ≤ maxLen) (c : Int) : FnK (s.length + 4) E (.fn n_term_every [] []) [.str s, .int .u8 c] (.bool (everyC s c)) :=
  FnK.byW (h_term_every hE) rfl rfl (K := s.length + 3) fun k hk bl tk => by
    have hmx : maxLen = 9223372036854775807 := rfl
    simp [F_term_every, b_term_every]
    refine wp_loop s.length (fun i e st => everyC s c = everyC (s.drop i) c ∧ e = [(0, .str s), (1, .int .u8 c), (7, .int .i64 s.length), (8, .int .i64 i)] ∧ st = { bl, tk, ro := bl.length, rt := tk.length }) (by omega) (by simp) ?_ ?_
    · rintro i e st hi ⟨hq, rfl, rfl⟩
      have e1 : idx (.int .i64 i) s.length = some i := idx_nat hi
      have hwr : IntKind.wrap .i64 ((i : Int) + 1) = i + 1 := wrapIn (by omega) (by omega)
      rw [List.drop_eq_getElem_cons hi] at hq
      have h1 := fn_is hE s[i].toNat c k (by omega)
      unfold everyC at hq ⊢
      rw [List.all_cons] at hq
      cases hp : isC s[i].toNat c with
      | true =>
        rw [hp, Bool.true_and] at hq
        rw [hp] at h1
        simp [l0_term_every, hi, e1, hwr, h1]
        simpa using hq
      | false =>
        rw [hp, Bool.false_and] at hq
        rw [hp] at h1
        simp [l0_term_every, hi, e1, hwr, h1]
        simpa using hq
    · rintro e st ⟨hq, rfl, rfl⟩
      rw [List.drop_length] at hq
      have hq' : everyC s c = true := hq
      simp [l0_term_every, hq']

theorem fn_identifier (s : List UInt8) (hs : s.length ≤ maxLen) (m : Int) : FnK (s.length + 5) E (.fn n_term_identifier [] []) [.str s, .int .i64 m] (.bool (identT s m)) :=
  FnK.byW (h_term_identifier hE) rfl rfl (K := s.length + 4) fun k hk bl tk => by
    have h1 := fn_every hE s hs 4 k (by omega)
    cases s with
    | nil => simp [F_term_identifier, b_term_identifier, identT]
    | cons b r =>
      have h2 := fn_is hE b.toNat 1 k (by omega)
      unfold identT
      by_cases c1 : (((b :: r).length : Nat) : Int) ≤ m
      · simp only [List.length_cons, Int.natCast_add, Int.cast_ofNat_Int] at c1
        cases c2 : isC b.toNat 1 with
        | true =>
          rw [c2] at h2
          simp [F_term_identifier, b_term_identifier, c1, h1, h2, c2, idx]
        | false =>
          rw [c2] at h2
          simp [F_term_identifier, b_term_identifier, c1, h1, h2, c2, idx]
      · simp only [List.length_cons, Int.natCast_add, Int.cast_ofNat_Int] at c1
        simp [F_term_identifier, b_term_identifier, c1, h1, h2, idx]

theorem fn_CutMinus (s : List UInt8) : FnK 4 E (.fn n_strings_CutPrefix [] []) [.str s, .str [45]] (.tup [.str (cutMinus s).1, .bool (cutMinus s).2]) := by
  have hh : FnK 1 E (.fn n_internal_stringslite_HasPrefix [] []) [.str s, .str [45]] (.bool (cutMinus s).2) :=
    FnK.byW (h_internal_stringslite_HasPrefix hE) rfl rfl (K := 0) fun k hk bl tk => by
      cases s with
      | nil => simp [F_internal_stringslite_HasPrefix, b_internal_stringslite_HasPrefix, cutMinus]
      | cons b r =>
        have c1 : (1 : Int) ≤ (r.length : Int) + 1 := by omega
        by_cases hb : b = 45
        · subst hb
          simp [F_internal_stringslite_HasPrefix, b_internal_stringslite_HasPrefix, cutMinus, c1, sliceA, bound]
        · have : cutMinus (b :: r) = (b :: r, false) := by unfold cutMinus; split; rename_i h; cases h; exact absurd rfl hb; rfl
          simp [F_internal_stringslite_HasPrefix, b_internal_stringslite_HasPrefix, this, c1, sliceA, bound, hb]
  have hc : FnK 3 E (.fn n_internal_stringslite_CutPrefix [] []) [.str s, .str [45]] (.tup [.str (cutMinus s).1, .bool (cutMinus s).2]) :=
    FnK.byW (h_internal_stringslite_CutPrefix hE) rfl rfl (K := 2) fun k hk bl tk => by
      have h1 := hh k (by omega)
      cases s with
      | nil => simp [F_internal_stringslite_CutPrefix, b_internal_stringslite_CutPrefix, h1, cutMinus]
      | cons b r =>
        by_cases hb : b = 45
        · subst hb
          have c1 : (1 : Int) ≤ (r.length : Int) + 1 := by omega
          simp [F_internal_stringslite_CutPrefix, b_internal_stringslite_CutPrefix, h1, cutMinus, sliceA, bound, c1]
        · have : cutMinus (b :: r) = (b :: r, false) := by unfold cutMinus; split; rename_i h; cases h; exact absurd rfl hb; rfl
          rw [this] at h1 ⊢
          simp [F_internal_stringslite_CutPrefix, b_internal_stringslite_CutPrefix, h1]
  exact FnK.byW (h_strings_CutPrefix hE) rfl rfl (K := 3) fun k hk bl tk => by simp [F_strings_CutPrefix, b_strings_CutPrefix, hc k (by omega)]

theorem fn_isNumber (s : List UInt8) (hs : s.length ≤ maxLen) : FnK (s.length + 8) E (.fn n_term_isNumber [] []) [.str s] (.bool (numT s)) :=
  FnK.byW (h_term_isNumber hE) rfl rfl (K := s.length + 7) fun k hk bl tk => by
    have h1 := fn_CutMinus hE s k (by omega)
    have hle : (cutMinus s).1.length ≤ s.length := by unfold cutMinus; split <;> simp
    have h2 := fn_every hE (cutMinus s).1 (by omega) 2 k (by omega)
    unfold numT
    generalize cutMinus s = q at *
    obtain ⟨d, neg⟩ := q
    simp only at *
    cases d with
    | nil => simp [F_term_isNumber, b_term_isNumber, h1]
    | cons b r =>
      by_cases c1 : 500 < (b :: r).length
      · have c1' : (500 : Int) < (r.length : Int) + 1 := by simp at c1; omega
        simp only [List.length_cons] at c1
        simp [F_term_isNumber, b_term_isNumber, h1, c1, c1']
      · have c1' : ¬ (500 : Int) < (r.length : Int) + 1 := by simp at c1; omega
        simp only [List.length_cons] at c1
        cases c2 : everyC (b :: r) 2 with
        | false => rw [c2] at h2; simp [F_term_isNumber, b_term_isNumber, h1, h2, c1, c1']
        | true =>
          rw [c2] at h2
          by_cases c3 : b.toNat = 48
          · by_cases c4 : r = []
            · subst c4
              simp [F_term_isNumber, b_term_isNumber, h1, h2, c3, idx]
            · have c4' : ¬ r.length = 0 := by simpa using c4
              have c5 : (((r.length : Int) + 1) == 1) = false := by simp; omega
              simp [F_term_isNumber, b_term_isNumber, h1, h2, c1, c1', c3, c4, c5, idx]
          · have c3' : (((b.toNat : Nat) : Int) != 48) = true := by simp; omega
            simp [F_term_isNumber, b_term_isNumber, h1, h2, c1, c1', c3, c3', idx]
end
end Ab.D
