/- Parts of the proof, made small by program. No condition but what is told. -/
import Derived.Test.YtbncnjpohgbgjaaGreatAb04
import Derived.Defers
set_option linter.all false
set_option maxHeartbeats 8000000
namespace Ab
open Go
section
variable {P : Program} {L : eB} {C : eR} {g : Gh} {s : St} {w : World} {ρ : Operand -> Value} {ev : bN -> AV}
theorem oS {x : Option AV} {cx : Option Value} (hr : match x, cx with | none, none => True | some a, some c => ay L.toLk g w a c | _, _ => False) {d m m' k : Nat} (h : mE x d m = some k) (hm : m <= m') (code : BoundsCode) :
  (match cx with | none => k = d | some c => (Instr.sliceBound c m' code).run P w = .ok k w /\ k <= m) := by
 unfold mE at h
 cases x with
 | none => cases cx with
  | none => simpa using h.symm
  | some c => cases hr
 | some a =>
  cases cx with
  | none => cases hr
  | some c =>
   simp only at h hr ⊢
   cases a with
   | int q i =>
    simp only at h
    split at h
    ·rename_i hc
     cases h
     simp only [ay] at hr
     subst hr
     refine ⟨?_, by omega⟩
     simp only [Instr.sliceBound, asIntOf, Sem.run_bind, Sem.run_pure, Result.andThen_ok]
     rw [if_pos ⟨hc.1, by omega⟩]; rfl
    ·cases h
   | _ => simp at h
theorem Kp (he : wI L g w ρ ev) {x : Option Operand} {y : Option bN} (h : EJ L x y = true) : match (y.map ev), (x.map ρ) with | none, none => True | some a, some c => ay L.toLk g w a c | _, _ => False := by
 cases x <;> cases y <;> simp [EJ] at h ⊢
 exact he.rep _ _ h
theorem uB {isSlice : Bool} {len cap l h m : Nat} {lo hi mx : Option Value}
  (h1 : match mx with | none => m = cap | some c => (Instr.sliceBound c cap (if isSlice then .slice3Acap else .slice3Alen)).run P w = .ok m w)
  (h2 : match hi, mx with | some c, some _ => (Instr.sliceBound c m .slice3B).run P w = .ok h w | some c, none => (Instr.sliceBound c m (if isSlice then .sliceAcap else .sliceAlen)).run P w = .ok h w | none, none => h = len | none, some _ => False)
  (h3 : match lo with | none => l = 0 | some c => (Instr.sliceBound c h (if mx.isSome then .slice3C else .sliceB)).run P w = .ok l w) :
  (Instr.sliceBounds isSlice len cap lo hi mx).run P w = .ok (l, h, m) w := by
 unfold Instr.sliceBounds
 cases mx with
 | none =>
  simp only at h1 h2; subst h1
  cases hi with
  | none =>
   simp only at h2; subst h2
   cases lo with
   | none => simp only at h3; subst h3; simp
   | some c => simp at h3; simp [h3]
  | some c' =>
   cases lo with
   | none => simp only at h3; subst h3; simp [h2]
   | some c => simp at h3; simp [h2, h3]
 | some c'' =>
  cases hi with
  | none => exact h2.elim
  | some c' =>
   cases lo with
   | none => simp only at h3; subst h3; simp [h1, h2]
   | some c => simp at h3; simp [h1, h2, h3]
theorem M9 (b : List UInt8) (l h : Nat) : (⟨b.toArray⟩ : ByteArray).extract l h = ⟨((b.take h).drop l).toArray⟩ := by
 apply ByteArray.ext
 apply Array.ext'
 simp [ByteArray.data_extract, List.extract_eq_take_drop, List.drop_take]
theorem D7 {xs : List AV} (h : AV.untokL xs = xs) (a b : Nat) : AV.untokL ((xs.take a).drop b) = (xs.take a).drop b := by
 rw [AV.untokL_eq] at h ⊢
 rw [List.map_drop, List.map_take, h]
theorem Ms (hs : cp L.toLk C g s w) (he : wI L g w ρ ev) {o : Oper} {t : TypeId} {sz : Nat} {x : Operand} {x' : bN} {lo hi mx : Option Operand} {lo' hi' mx' : Option bN} (ho : o.op = .slice t x lo hi mx) (hx : bL L x x' = true)
  (hlo : EJ L lo lo' = true) (hhi : EJ L hi hi' = true) (hmx : EJ L mx mx' = true) (ht : Hh P t sz = true)
  {r : AV × St} (h : iS ev s (.slice sz x' lo' hi' mx') = some r) : aP P L C g s w r ((execOp ρ o).run P w) := by
 have hrx := he.rep _ _ hx
 have rlo := Kp he hlo
 have rhi := Kp he hhi
 have rmx := Kp he hmx
 simp only [iS, ew] at h
 split at h
 ·rename_i v hv
  cases h
  generalize ev x' = u at hv hrx
  generalize lo'.map ev = alo at hv rlo
  generalize hi'.map ev = ahi at hv rhi
  generalize mx'.map ev = amx at hv rmx
  have exec : (execOp ρ o).run P w = ((Instr.sliceAt t (ρ x) (lo.map ρ) (hi.map ρ) (mx.map ρ)).run P w).andThen fun a w' => .ok (.value a) w' := by
   simp only [execOp, ho, Sem.run_bind]; rfl
  rw [exec]
  generalize ρ x = cx at hrx
  generalize lo.map ρ = clo at rlo
  generalize hi.map ρ = chi at rhi
  generalize mx.map ρ = cmx at rmx
  unfold sK at hv
  have loMatch : ∀ {code m k}, mE alo 0 m = some k -> (match clo with | none => k = 0 | some c => (Instr.sliceBound c m code).run P w = .ok k w) /\ k <= m := by
   intro code m k hb
   have := oS (P := P) (w := w) rlo hb (Nat.le_refl _) code
   cases clo with
   | none => simp only at this; subst this; exact ⟨rfl, Nat.zero_le _⟩
   | some c => exact ⟨this.1, this.2⟩
  have mxNone : amx.isSome = false -> cmx = none /\ amx = none := by
   intro hm
   cases amx with
   | some a => cases hm
   | none => cases cmx with
    | none => exact ⟨rfl, rfl⟩
    | some c => exact rmx.elim
  unfold Hh at ht
  cases u with
  | str b =>
   simp only at hv
   simp only [ay] at hrx
   subst hrx
   split at hv
   ·cases hv
   ·rename_i hcond
    simp only [not_or, Bool.not_eq_true, ne_eq, Decidable.not_not] at hcond
    obtain ⟨rfl, rfl⟩ := mxNone hcond.1
    split at ht
    ·rename_i hu
     split at hv
     ·cases hv
     ·rename_i hh hhb
      split at hv
      ·cases hv
      ·rename_i l hlb
       cases hv
       have hH := oS (P := P) (w := w) rhi hhb (Nat.le_refl _) .sliceAlen
       have hL := (loMatch (code := .sliceB) hlb).1
       have hrunb : (Instr.sliceBounds false b.length b.length clo chi none).run P w = .ok (l, hh, b.length) w := by
        refine uB rfl ?_ ?_
        ·cases chi with
         | none => exact hH
         | some c => exact hH.1
        ·cases clo with
         | none => exact hL
         | some c => exact hL
       refine aP.val hs (cv := .string ⟨((b.take hh).drop l).toArray⟩) ?_ (by simp [ay])
       have hsz : (⟨b.toArray⟩ : ByteArray).size = b.length := by simp [ByteArray.size]
       simp only [Instr.sliceAt, Sem.run_bind, run_underlying hu, Result.andThen_ok, Instr.slice, Option.isSome_none, Bool.false_eq_true, if_false, hsz, hrunb, Sem.run_pure, M9]
    ·simp [hcond.2] at ht
    ·cases ht
  | sl own z xs =>
   simp only at hv
   split at hv
   ·cases hv
   ·rename_i hz
    simp only [ne_eq, not_or, Decidable.not_not] at hz
    obtain ⟨rfl, hznz⟩ := hz
    simp only [ay] at hrx
    obtain ⟨a, cap, vs, rfl, hcap, hun, hrl, hsz, hl, hown⟩ := hrx
    have hsz1 : ∀ u ∈ vs, u.cells.size = z := fun u hu => (hsz u hu).1
    have hvl := hrl.length
    split at ht
    ·simp only [beq_iff_eq] at ht; exact absurd ht hznz
    ·rename_i e hu
     simp only [Bool.and_eq_true, beq_iff_eq, bne_iff_ne, ne_eq] at ht
     obtain ⟨hse, hz0⟩ := ht
     -- the result, for any bounds
     have fin : ∀ (l hh m : Nat) (own' : gu), l <= hh -> hh <= xs.length -> hh <= m -> m <= cap -> (Instr.sliceBounds true xs.length cap clo chi cmx).run P w = .ok (l, hh, m) w ->
       (∀ a', (a' = if m = l then a else a.map (·.add (l * z))) -> tT g own' z a' (hh - l) (m - l)) ->
       aP P L C g s w (.sl own' z ((xs.take hh).drop l), s) (((Instr.sliceAt t (.slice a xs.length cap) clo chi cmx).run P w).andThen fun a w' => .ok (.value a) w') := by
      intro l hh m own' h1 h2 h3 h4 hb ho'
      refine aP.val hs (cv := .slice (if m = l then a else a.map (·.add (l * z))) (hh - l) (m - l)) ?_ ?_
      ·simp only [Instr.sliceAt, Sem.run_bind, run_underlying hu, Result.andThen_ok, Instr.slice, hb, ey hse, Sem.run_pure]
      ·simp only [ay]
       have hlen : ((xs.take hh).drop l).length = hh - l := by rw [List.length_drop, List.length_take]; omega
       refine ⟨if m = l then a else a.map (·.add (l * z)), m - l, (vs.take hh).drop l, by rw [hlen], by rw [hlen]; omega, D7 hun _ _, (hrl.take hh).drop l,
        fun u hu' => hsz u (List.mem_of_mem_take (List.mem_of_mem_drop hu')), ?_, by rw [hlen]; exact ho' _ rfl⟩
       cases a with
       | none =>
        have hx0 := hl.1
        subst hx0
        have hm0 : cap = 0 := hl.2
        simp only [List.length_nil] at h2
        have : m = l := by omega
        rw [if_pos this]
        exact ⟨by simp, by omega⟩
       | some p =>
        obtain ⟨hsp, hl⟩ := hl
        have hne : (xs.take hh).drop l ≠ [] -> xs ≠ [] := by rintro h rfl; simp at h
        by_cases hml : m = l
        ·rw [if_pos hml]
         have hd : (vs.take hh).drop l = [] := List.drop_eq_nil_of_le (by rw [List.length_take]; omega)
         rw [hd]
         exact ⟨fun h => hsp (hne h), fun j c hj => by simp [cM] at hj⟩
        ·rw [if_neg hml]
         simp only [Option.map_some]
         have hadd : ∀ n, (p.add n).block = p.block /\ (p.add n).off = p.off + n /\ (p.spot = none -> (p.add n).spot = none) := by
          intro n
          unfold Addr.add
          split
          ·rename_i h0; subst h0; exact ⟨rfl, rfl, fun h => h⟩
          ·exact ⟨rfl, rfl, fun _ => rfl⟩
         obtain ⟨k1, k2, k3⟩ := hadd (l * z)
         refine ⟨fun h => k3 (hsp (hne h)), ?_⟩
         rw [k1, k2]
         have e1 : cM ((vs.take hh).drop l) = ((cM vs).drop (l * z)).take ((hh - l) * z) := by
          rw [List.drop_take, DL hsz1 l (by omega), IP (fun u hu' => hsz1 u (List.mem_of_mem_drop hu')) (hh - l) (by rw [List.length_drop]; omega)]
         rw [e1]
         exact I6 hl _ _
     split at hv
     ·cases hv
     ·rename_i m hmb
      split at hv
      ·cases hv
      ·rename_i hh hhb
       split at hv
       ·cases hv
       ·rename_i l hlb
        have hL := loMatch (code := if cmx.isSome then .slice3C else .sliceB) hlb
        split at hv
        ·rename_i hmx1
         -- three indexes
         split at hv
         ·rename_i hc
          obtain ⟨rfl, hsol, hhs⟩ := hc
          cases hv
          cases amx with
          | none => cases hmx1
          | some am =>
           cases cmx with
           | none => exact rmx.elim
           | some cm =>
            have hM := oS (P := P) (w := w) (cx := some cm) rmx hmb hcap .slice3Acap
            have hH := oS (P := P) (w := w) rhi hhb (Nat.le_refl _) .slice3B
            cases chi with
            | none =>
             cases ahi with
             | some q => exact rhi.elim
             | none => simp at hhs
            | some ch =>
             refine fin l m m .full hL.2 hM.2 (Nat.le_refl _) (by have := hM.2; omega) (uB hM.1 hH.1 ?_) ?_
             ·cases clo with
              | none => exact hL.1
              | some c => exact hL.1
             ·intro a' ha'
              refine ⟨?_, rfl⟩
              have hsome : a.isSome = true := by
               cases own with
               | full => exact hown.1
               | tok _ => exact hown.1
               | any => cases hsol
               | nil => cases hsol
              rw [ha']
              split
              ·exact hsome
              ·simpa using hsome
         ·cases hv
        ·rename_i hmx1
         obtain ⟨rfl, rfl⟩ := mxNone (by simpa using hmx1)
         cases hv
         simp only [mE, Option.some.injEq] at hmb
         subst hmb
         have hH := oS (P := P) (w := w) rhi hhb hcap .sliceAcap
         have hhl : hh <= xs.length := by
          cases chi with
          | none => simp only at hH; omega
          | some c => exact hH.2
         refine fin l hh cap _ hL.2 hhl (by omega) (Nat.le_refl _) (uB rfl ?_ ?_) ?_
         ·cases chi with
          | none => exact hH
          | some c => exact hH.1
         ·cases clo with
          | none => exact hL.1
          | some c => exact hL.1
         ·intro a' ha'
          by_cases hc1 : l = 0 /\ hh = xs.length
          ·rw [if_pos hc1]
           obtain ⟨rfl, rfl⟩ := hc1
           have : a' = a := by
            rw [ha']
            split
            ·rfl
            ·cases a with
             | none => rfl
             | some p => simp [Addr.add]
           subst this
           simpa using hown
          ·rw [if_neg hc1]
           by_cases hc2 : own = .full /\ hh = xs.length
           ·rw [if_pos hc2]
            obtain ⟨rfl, rfl⟩ := hc2
            obtain ⟨h5, h6⟩ := hown
            refine ⟨?_, by omega⟩
            rw [ha']
            split
            ·exact h5
            ·simpa using h5
           ·rw [if_neg hc2]
            by_cases hc3 : own = .nil
            ·subst hc3
             obtain ⟨h5, h6, h7⟩ := hown
             exact absurd ⟨by have := hL.2; omega, by omega⟩ hc1
            ·rw [if_neg hc3]
             have hsome : a.isSome = true := by
              cases own with
              | any => exact hown
              | nil => exact absurd rfl hc3
              | full => exact hown.1
              | tok _ => exact hown.1
             show a'.isSome = true
             rw [ha']
             split
             ·exact hsome
             ·simpa using hsome
    ·cases ht
  | raw t0 z n =>
   simp only at hv
   split at hv
   ·cases hv
   ·rename_i hcond
    simp only [not_or, Bool.not_eq_true, ne_eq, Decidable.not_not] at hcond
    obtain ⟨hm, ⟨rfl, hznz⟩, htk⟩ := hcond
    obtain ⟨rfl, rfl⟩ := mxNone hm
    simp only [ay] at hrx
    obtain ⟨T, hT, hval⟩ := hrx
    have htop : T.top = 0 := by
     have h1 : (g.tk.map (·.top))[t0]? = some 0 := by rw [hs.tk]; exact htk
     rw [List.getElem?_map, hT] at h1
     simpa using h1
    obtain ⟨rfl, hcap, hTs⟩ := hval htop
    split at hv
    ·rename_i hhb hlb
     cases hv
     split at ht
     ·simp only [beq_iff_eq] at ht; exact absurd ht hznz
     ·rename_i e hu
      simp only [Bool.and_eq_true, beq_iff_eq, bne_iff_ne, ne_eq] at ht
      have hH := oS (P := P) (w := w) rhi hhb (Nat.zero_le T.cap) .sliceAcap
      have hL := loMatch (code := .sliceB) hlb
      have hb : (Instr.sliceBounds true n T.cap clo chi none).run P w = .ok (0, 0, T.cap) w := by
       refine uB rfl ?_ ?_
       ·cases chi with
        | none => exact hH
        | some c => exact hH.1
       ·cases clo with
        | none => rfl
        | some c => exact hL.1
      have hT0 := hs.toks t0 T hT
      refine aP.val hs (cv := .slice (some T.a) 0 T.cap) ?_ ?_
      ·simp only [Instr.sliceAt, Sem.run_bind, run_underlying hu, Result.andThen_ok, Instr.slice, hb, ey ht.1, Sem.run_pure, Nat.zero_mul, Option.map_some, Nat.sub_zero]
       congr 3
       split <;> simp [Addr.add]
      ·simp only [ay]
       exact ⟨some T.a, T.cap, [], rfl, Nat.zero_le _, rfl, by simp [aw], by simp, ⟨fun _ => hT0.spot, fun j c hj => by simp [cM] at hj⟩, ⟨rfl, T, hT, Nat.zero_le _, fun _ => ⟨rfl, rfl, hTs.symm⟩⟩⟩
     ·cases ht
    ·cases hv
  | msl i off z n =>
   simp only at hv
   split at hv
   ·cases hv
   ·rename_i hcond
    simp only [not_or, Bool.not_eq_true, ne_eq, Decidable.not_not] at hcond
    obtain ⟨hm, rfl, hznz⟩ := hcond
    obtain ⟨rfl, rfl⟩ := mxNone hm
    simp only [ay] at hrx
    obtain ⟨b, a, cap, hbl, rfl, hcap, ha⟩ := hrx
    split at hv
    ·cases hv
    ·rename_i hh hhb
     split at hv
     ·cases hv
     ·rename_i l hlb
      cases hv
      split at ht
      ·simp only [beq_iff_eq] at ht; exact absurd ht hznz
      ·rename_i e hu
       simp only [Bool.and_eq_true, beq_iff_eq, bne_iff_ne, ne_eq] at ht
       have hH := oS (P := P) (w := w) rhi hhb hcap .sliceAcap
       have hL := loMatch (code := .sliceB) hlb
       have hle : hh <= n := by
        cases chi with
        | none => simp only at hH; omega
        | some c => exact hH.2
       have hrb : (Instr.sliceBounds true n cap clo chi none).run P w = .ok (l, hh, cap) w := by
        refine uB rfl ?_ ?_
        ·cases chi with
         | none => exact hH
         | some c => exact hH.1
        ·cases clo with
         | none => exact hL.1
         | some c => exact hL.1
       have hll := hL.2
       refine aP.val hs (cv := .slice (if cap = l then some a else (some a).map (·.add (l * z))) (hh - l) (cap - l)) ?_ ?_
       ·simp only [Instr.sliceAt, Sem.run_bind, run_underlying hu, Result.andThen_ok, Instr.slice, hrb, ey ht.1, Sem.run_pure]
       ·simp only [ay]
        by_cases hc : cap = l
        ·rw [if_pos hc]
         exact ⟨b, a, cap - l, hbl, rfl, by omega, fun h0 => by omega⟩
        ·rw [if_neg hc]
         refine ⟨b, a.add (l * z), cap - l, hbl, rfl, by omega, fun _ => ?_⟩
         obtain ⟨ha1, c0, e0, f0, q1, q2⟩ := ha (by omega)
         refine ⟨by rw [ha1, pP], c0, e0, f0, q1, ?_⟩
         rw [Nat.add_assoc, <- Nat.add_mul, show l + (cap - l) = cap by omega]
         exact q2
      ·cases ht
  | _ => simp at hv
 ·cases h
end
open Go
section
variable {P : Program} {L : eB} {C : eR} {g : Gh} {s : St} {w : World} {ρ : Operand -> Value} {ev : bN -> AV}
def Bw (c : KC) (d : TypeDesc) : Prop :=
 match c, d with
 | .int, .int _ => True
 | .str, .string => True
 | .bool, .bool => True
 | _, _ => False
theorem Ce {c : KC} {k : TypeId} (h : Ac P c k = true) : ∃ d, P.underlying k = some d /\ Bw c d := by
 unfold Ac at h
 split at h <;> first | (rename_i hu; exact ⟨_, hu, trivial⟩) | cases h
theorem Qo (a b : List UInt8) : ((⟨a.toArray⟩ : ByteArray) == ⟨b.toArray⟩) = (a == b) := by
 show (a.toArray == b.toArray) = (a == b)
 simp
theorem l7 {c : KC} {d : TypeDesc} (hd : Bw c d) {k j : AV} {ck cj : Value} (hk : mH c k = true) (hrk : ay L.toLk g w k ck) (hrj : ay L.toLk g w j cj) {b : Bool} (h : wq k j = some b) :
  Instr.sameNow d ck cj = some b := by
 unfold wq at h
 split at h
 ·simp only [Option.some.injEq] at h
  subst h
  simp only [ay] at hrk hrj
  subst hrk; subst hrj
  cases c <;> simp [mH] at hk
  cases d <;> simp only [Bw] at hd
  simp only [Instr.sameNow, Option.some.injEq]
  exact Qo _ _
 ·split at h
  ·rename_i hkl
   simp only [Option.some.injEq] at h
   subst h; subst hkl
   simp only [ay] at hrk hrj
   subst hrk; subst hrj
   cases c <;> simp [mH] at hk
   cases d <;> simp only [Bw] at hd
   simp [Instr.sameNow]
  ·cases h
 ·simp only [Option.some.injEq] at h
  subst h
  simp only [ay] at hrk hrj
  subst hrk; subst hrj
  cases c <;> simp [mH] at hk
  cases d <;> simp only [Bw] at hd
  simp [Instr.sameNow]
 ·cases h
theorem tg.tail {L : Lk} {e : AV × AV} {es : List (AV × AV)} {c : MapEntry} {cs : List MapEntry} (h : tg L g w (e :: es) (c :: cs)) : tg L g w es cs :=
 ⟨by simpa using h.1, fun i k v x h1 h2 => h.2 (i + 1) k v x (by simpa using h1) (by simpa using h2)⟩
theorem BD {c : KC} {d : TypeDesc} (hd : Bw c d) {k : AV} {ck : Value} (hk : mH c k = true) (hrk : ay L.toLk g w k ck) : ∀ {es : List (AV × AV)} {cs : List MapEntry} (n : Nat), tg L.toLk g w es cs -> ∀ {r}, CR k es = some r ->
  match r with
  | none => Instr.findNow d ck cs n = some none
  | some v => ∃ i cv kv, es[i]? = some (kv, v) /\ wq k kv = some true /\ Instr.findNow d ck cs n = some (some (n + i, cv)) /\ ay L.toLk g w v cv /\ (∀ e, cs[i]? = some e -> e.val = cv)
 | [], [], n, _, r, h => by simp [CR] at h; subst h; rfl
 | [], _ :: _, n, h, _, _ => by simp [tg] at h
 | _ :: _, [], n, h, _, _ => by simp [tg] at h
 | (j, u) :: es, e :: cs, n, hm, r, h => by
  obtain ⟨h1, h2⟩ := hm.2 0 j u e rfl rfl
  simp only [CR] at h
  split at h
  ·rename_i hke
   cases h
   have := l7 hd hk hrk h1 hke
   exact ⟨0, e.val, j, rfl, hke, by simp [Instr.findNow, this], h2, fun x hx => by simp at hx; rw [hx]⟩
  ·rename_i hke
   have hsn := l7 hd hk hrk h1 hke
   have ih := BD hd hk hrk (n + 1) hm.tail h
   cases r with
   | none => simp only at ih ⊢; simp [Instr.findNow, hsn, ih]
   | some v =>
    simp only at ih ⊢
    obtain ⟨i, cv, kv, a1, a2, a3, a4, a5⟩ := ih
    refine ⟨i + 1, cv, kv, by simpa using a1, a2, ?_, a4, fun x hx => a5 x (by simpa using hx)⟩
    simp only [Instr.findNow, hsn]
    rw [a3]; congr 3; omega
  ·cases h
theorem nI {c : KC} {kt : TypeId} {d : TypeDesc} (hu : P.underlying kt = some d) (hd : Bw c d) (b : Bool) (v : Value) : (Instr.checkKey b 10000 kt v).run P w = .ok () w := by
 have e0 : Instr.checkKey b 10000 kt v = Instr.checkKey b (9999 + 1) kt v := rfl
 rw [e0]
 generalize 9999 = n
 cases c <;> cases d <;> simp only [Bw] at hd <;> simp [Instr.checkKey, run_underlying hu]
theorem kY {b : Nat} {es : Array MapEntry} {cl : Nat} (h : w.heap[b]? = some (.map es cl)) : (getObj b).run P w = .ok (.map es cl) w := by simp [getObj, Sem.run, h]
theorem Kl (hs : cp L.toLk C g s w) {i : Nat} {es : List (AV × AV)} (h : s.map? i = some es) : ∃ b cs cl, g.bl[i]? = some b /\ s.bl[i]? = some (.amap es) /\ w.heap[b]? = some (.map cs cl) /\ tg L.toLk g w es cs.toList /\ HO cs.toList cl := by
 unfold St.map? at h
 split at h
 ·rename_i es' hb
  cases h
  obtain ⟨b, h1, cs, cl, h2, h3, h4⟩ := hs.bl? hb
  exact ⟨b, cs, cl, h1, hb, h2, h3, h4⟩
 ·cases h
theorem Kk (hs : cp L.toLk C g s w) (he : wI L g w ρ ev) {o : Oper} {t kt e : TypeId} {c : KC} {z : AV} {m k : Operand} {m' k' : bN} {ok : Bool} (ho : o.op = .lookup t m k ok) (hm : bL L m m' = true) (hk : bL L k k' = true)
  (hu : P.underlying t = some (.map kt e)) (hkt : Ac P c kt = true) {i : TypeInfo} (hi : P.info? e = some i) {zv : Value} (hzv : i.zero = some zv) (hz : T7 L.toLk zv z = true)
  {r : AV × St} (h : iS ev s (.lookup c z m' k' ok) = some r) : aP P L C g s w r ((execOp ρ o).run P w) := by
 have hrm := he.rep _ _ hm
 have hrk := he.rep _ _ hk
 obtain ⟨d, hud, hd⟩ := Ce hkt
 simp only [iS] at h
 split at h
 ·rename_i hik
  split at h
  ·cases h
  ·rename_i es hes
   have exec : (execOp ρ o).run P w = ((Instr.lookup t (ρ m) (ρ k) ok).run P w).andThen fun a w' => .ok (.value a) w' := by
    simp only [execOp, ho, Sem.run_bind]; rfl
   -- once the entries are read
   have rest : ∀ (cs : Array MapEntry), tg L.toLk g w es cs.toList -> (∀ (v : Value) (b : Bool), (match (Instr.findNow d (ρ k) cs.toList 0) with | some (some (_, v')) => v = v' /\ b = true | some none => v = zv /\ b = false | none => False) ->
     (Instr.lookup t (ρ m) (ρ k) ok).run P w = .ok (if ok then .tuple #[v, .bool b] else v) w) -> aP P L C g s w r ((execOp ρ o).run P w) := by
    intro cs hrep hrun
    rw [exec]
    have fk := @BD L g w c d hd (ev k') (ρ k) hik hrk es cs.toList 0 hrep
    split at h
    ·cases h
    ·rename_i v hf
     cases h
     obtain ⟨q, cv, kv, h1, h2, h3, h4, h5⟩ := fk hf
     rw [hrun cv true (by rw [h3]; exact ⟨rfl, rfl⟩)]
     refine aP.val hs (cv := if ok then .tuple #[cv, .bool true] else cv) rfl ?_
     cases ok
     ·exact h4
     ·simp only [if_true, ay]; exact ⟨[cv, .bool true], rfl, by simp only [aw]; exact ⟨cv, _, rfl, h4, _, _, rfl, by simp [ay], rfl⟩⟩
    ·rename_i hf
     cases h
     have h3 := fk hf
     simp only at h3
     rw [hrun zv false (by rw [h3]; exact ⟨rfl, rfl⟩)]
     have hzr := KH hz g w
     refine aP.val hs (cv := if ok then .tuple #[zv, .bool false] else zv) rfl ?_
     cases ok
     ·exact hzr
     ·simp only [if_true, ay]; exact ⟨[zv, .bool false], rfl, by simp only [aw]; exact ⟨zv, _, rfl, hzr, _, _, rfl, by simp [ay], rfl⟩⟩
   have tail : ∀ (cs : Array MapEntry) (v : Value) (b : Bool), (match (Instr.findNow d (ρ k) cs.toList 0) with | some (some (_, v')) => v = v' /\ b = true | some none => v = zv /\ b = false | none => False) ->
     ∀ x, ((Instr.findKey kt (ρ k) cs.toList).run P w = .ok x w -> ∃ q, x = if b then some (q, v) else none) /\ ∃ x, (Instr.findKey kt (ρ k) cs.toList).run P w = .ok x w := by
    intro cs v b hv x
    split at hv
    ·rename_i q v' hfn
     obtain ⟨rfl, rfl⟩ := hv
     have : (Instr.findKey kt (ρ k) cs.toList).run P w = .ok (some (q, v)) w := by simp [Instr.findKey, run_underlying hud, hfn]
     exact ⟨fun hx => ⟨q, by rw [this] at hx; cases hx; rfl⟩, _, this⟩
    ·rename_i hfn
     obtain ⟨rfl, rfl⟩ := hv
     have : (Instr.findKey kt (ρ k) cs.toList).run P w = .ok none w := by simp [Instr.findKey, run_underlying hud, hfn]
     exact ⟨fun hx => ⟨0, by rw [this] at hx; cases hx; rfl⟩, _, this⟩
    ·cases hv
   split at hes
   ·rename_i hev
    cases hes
    rw [hev] at hrm
    simp only [ay] at hrm
    refine rest #[] ⟨rfl, fun i k v e h => by simp at h⟩ fun v b hv => ?_
    obtain ⟨x, hx⟩ := (tail #[] v b hv none).2
    obtain ⟨q, hq⟩ := (tail #[] v b hv x).1 hx
    simp only [Instr.lookup, Sem.run_bind, run_underlying hu, Result.andThen_ok, hrm, Sem.run_pure, nI hud hd, hx]
    subst hq
    cases b
    ·have hvz : v = zv := by
      have := hv; simp [Instr.findNow] at this; exact this
     subst hvz
     simp [zeroValue, typeInfo, hi, hzv]
    ·simp
   ·rename_i j hev
    rw [hev] at hrm
    simp only [ay] at hrm
    obtain ⟨b, hb, hρ⟩ := hrm
    obtain ⟨b', cs, cl, h1, h2, h3, h4, _⟩ := Kl hs hes
    rw [hb] at h1; cases h1
    refine rest cs h4 fun v bb hv => ?_
    obtain ⟨x, hx⟩ := (tail cs v bb hv none).2
    obtain ⟨q, hq⟩ := (tail cs v bb hv x).1 hx
    simp only [Instr.lookup, Sem.run_bind, run_underlying hu, Result.andThen_ok, hρ, kY h3, Sem.run_pure, nI hud hd, hx]
    subst hq
    cases bb
    ·have hvz : v = zv := by
      split at hv
      ·cases hv.2
      ·exact hv.1
      ·cases hv
     subst hvz
     simp [zeroValue, typeInfo, hi, hzv]
    ·simp
   ·cases hes
 ·cases h
end
open Go
section
variable {P : Program} {L : eB} {C : eR} {g : Gh} {s : St} {w : World} {ρ : Operand -> Value} {ev : bN -> AV}
theorem vu {d : TypeDesc} {kt : TypeId} (hud : P.underlying kt = some d) {k : Value} {es : List MapEntry} {r : Option (Nat × Value)} (h : Instr.findNow d k es 0 = some r) : (Instr.findKey kt k es).run P w = .ok r w := by
 simp [Instr.findKey, run_underlying hud, h]
theorem uC {b : Nat} {o o' : Obj} (h : w.heap[b]? = some o) (hc : ∀ c e f, o ≠ .cells c e f) : (setObj b o').run P w = .ok () { w with heap := w.heap.setIfInBounds b o' } := by
 simp only [setObj, Sem.run]
 rw [h]
 cases o <;> first | rfl | exact absurd rfl (hc _ _ _)
theorem GL {b : Nat} {o o' : Obj} (h : w.heap[b]? = some o) : (w.heap.setIfInBounds b o')[b]? = some o' /\ (∀ c, c ≠ b -> (w.heap.setIfInBounds b o')[c]? = w.heap[c]?) /\ (w.heap.setIfInBounds b o').size = w.heap.size := by
 have hlt := aT h
 refine ⟨by simp [hlt], fun c hc => by rw [Array.getElem?_setIfInBounds]; simp [Ne.symm hc], by simp⟩
theorem Ol {c : KC} {d : TypeDesc} (hd : Bw c d) {k : AV} {ck : Value} (hk : mH c k = true) (hrk : ay L.toLk g w k ck) : ∀ {es : List (AV × AV)} {cs : List MapEntry} (n : Nat), tg L.toLk g w es cs -> ∀ {v : AV} {es'}, Hf k v es = some es' ->
  (Instr.findNow d ck cs n = some none /\ es' = es ++ [(k, v)]) \/
  (∃ i kv u cv e, es[i]? = some (kv, u) /\ cs[i]? = some e /\ wq k kv = some true /\ Instr.findNow d ck cs n = some (some (n + i, cv)) /\ es' = es.set i (k, v))
 | [], [], n, _, v, es', h => by simp [Hf] at h; subst h; exact .inl ⟨rfl, rfl⟩
 | [], _ :: _, n, h, _, _, _ => by simp [tg] at h
 | _ :: _, [], n, h, _, _, _ => by simp [tg] at h
 | (j, u) :: es, e :: cs, n, hm, v, es', h => by
  obtain ⟨h1, h2⟩ := hm.2 0 j u e rfl rfl
  simp only [Hf] at h
  split at h
  ·rename_i hke
   cases h
   have := l7 hd hk hrk h1 hke
   exact .inr ⟨0, j, u, e.val, e, rfl, rfl, hke, by simp [Instr.findNow, this], rfl⟩
  ·rename_i hke
   have hsn := l7 hd hk hrk h1 hke
   split at h
   ·rename_i r' hr'
    cases h
    rcases Ol hd hk hrk (n + 1) hm.tail hr' with ⟨a1, rfl⟩ | ⟨i, kv, u', cv, e', a1, a2, a3, a4, rfl⟩
    ·exact .inl ⟨by simp [Instr.findNow, hsn, a1], rfl⟩
    ·refine .inr ⟨i + 1, kv, u', cv, e', by simpa using a1, by simpa using a2, a3, ?_, rfl⟩
     simp only [Instr.findNow, hsn]
     rw [a4]; congr 3; omega
   ·cases h
  ·cases h
theorem PB {k j : AV} {ck cj : Value} (hrk : ay L.toLk g w k ck) (hrj : ay L.toLk g w j cj) (h : wq k j = some true) : Instr.sameBits 10000 cj ck = true := by
 have e0 : Instr.sameBits 10000 cj ck = Instr.sameBits (9999 + 1) cj ck := rfl
 rw [e0]
 generalize 9999 = n
 unfold wq at h
 split at h
 ·simp only [Option.some.injEq, beq_iff_eq] at h
  subst h
  simp only [ay] at hrk hrj
  subst hrk; subst hrj
  simp only [Instr.sameBits]
  rw [Qo]; simp
 ·split at h
  ·rename_i hkl
   simp only [Option.some.injEq, beq_iff_eq] at h
   subst h; subst hkl
   simp only [ay] at hrk hrj
   subst hrk; subst hrj
   simp [Instr.sameBits]
  ·cases h
 ·simp only [Option.some.injEq, beq_iff_eq] at h
  subst h
  simp only [ay] at hrk hrj
  subst hrk; subst hrj
  simp [Instr.sameBits]
 ·cases h
theorem Pa {cs : Array MapEntry} {cl : Nat} (h : HO cs.toList cl) {k v : Value} : HO (cs.push { key := k, val := v, born := cl }).toList (cl + 1) := by
 rw [Array.toList_push]
 refine ⟨fun x hx => ?_, ?_⟩
 ·rcases List.mem_append.1 hx with hx | hx
  ·have := h.1 x hx; omega
  ·simp at hx; subst hx; simp
 ·rw [List.map_append]
  refine List.nodup_append.2 ⟨h.2, by simp, fun a ha b hb => ?_⟩
  obtain ⟨x, hx, rfl⟩ := List.mem_map.1 ha
  simp at hb
  subst hb
  have := h.1 x hx; omega
theorem K3 {cs : Array MapEntry} {cl q : Nat} (h : HO cs.toList cl) {k v : Value} : HO (cs.modify q fun x => { x with key := k, val := v }).toList cl := by
 have e : (cs.modify q fun x => { x with key := k, val := v }).toList.map (·.born) = cs.toList.map (·.born) := by
  refine List.ext_getElem? fun i => ?_
  rw [List.getElem?_map, List.getElem?_map, Array.getElem?_toList, Array.getElem?_toList, Array.getElem?_modify]
  split <;> cases cs[i]? <;> rfl
 refine ⟨fun x hx => ?_, by rw [e]; exact h.2⟩
 have := List.mem_map_of_mem (f := (·.born)) hx
 rw [e] at this
 obtain ⟨y, hy, hxy⟩ := List.mem_map.1 this
 have h1 := h.1 y hy
 omega
theorem MT {cs : Array MapEntry} {cl : Nat} (h : HO cs.toList cl) (q : Nat) : HO (cs.eraseIdxIfInBounds q).toList cl := by
 have hs : List.Sublist (cs.eraseIdxIfInBounds q).toList cs.toList := by
  unfold Array.eraseIdxIfInBounds
  split
  ·rw [Array.toList_eraseIdx]; exact List.eraseIdx_sublist ..
  ·exact List.Sublist.refl _
 exact ⟨fun x hx => h.1 x (hs.subset hx), h.2.sublist (hs.map _)⟩
theorem Dc (hs : cp L.toLk C g s w) (he : wI L g w ρ ev) {o : Oper} {t kt e : TypeId} {c : KC} {m k v : Operand} {m' k' v' : bN} (ho : o.op = .mapUpdate t m k v \/ o.op = .insert t m k v) (hm : bL L m m' = true) (hk : bL L k k' = true) (hv : bL L v v' = true)
  (hu : P.underlying t = some (.map kt e)) (hkt : Ac P c kt = true) {r : AV × St} (h : iS ev s (.mapset c m' k' v') = some r) : aP P L C g s w r ((execOp ρ o).run P w) := by
 have hrm := he.rep _ _ hm
 have hrk := he.rep _ _ hk
 have hrv := he.rep _ _ hv
 obtain ⟨d, hud, hd⟩ := Ce hkt
 simp only [iS] at h
 split at h
 ·rename_i hik
  split at h
  ·rename_i i hev
   split at h
   ·rename_i es hes
    split at h
    ·rename_i es' hset
     split at h
     ·rename_i hro
      cases h
      rw [hev] at hrm
      simp only [ay] at hrm
      obtain ⟨b, hb, hρ⟩ := hrm
      obtain ⟨b', cs, cl, h1, h2, h3, h4, h5⟩ := Kl hs hes
      rw [hb] at h1; cases h1
      have exec : (execOp ρ o).run P w = ((Instr.mapUpdate t (ρ m) (ρ k) (ρ v)).run P w).andThen fun _ w' => .ok .skip w' := by
       rcases ho with ho | ho <;> simp only [execOp, ho, Sem.run_bind] <;> rfl
      rw [exec]
      -- the new object
      have fin : ∀ (cs' : Array MapEntry) (cl' : Nat), (Instr.mapUpdate t (ρ m) (ρ k) (ρ v)).run P w = .ok () { w with heap := w.heap.setIfInBounds b (.map cs' cl') } -> (∀ g' w', GE g w g' w' -> tg L.toLk g' w' es' cs'.toList) -> HO cs'.toList cl' ->
        aP P L C g s w (.tup [], s.setb i (.amap es')) (((Instr.mapUpdate t (ρ m) (ρ k) (ρ v)).run P w).andThen fun _ w' => .ok .skip w') := by
       intro cs' cl' hrun hrep hborn
       obtain ⟨a1, a2, a3⟩ := GL (o' := .map cs' cl') h3
       have hst := hs.setb (w' := { w with heap := w.heap.setIfInBounds b (.map cs' cl') }) (ab := .amap es') hb hro a1 a2 a3 ⟨rfl, rfl, rfl⟩ (fun hge => ⟨cs', cl', a1, hrep _ _ hge, hborn⟩) (fun hl => by
        obtain ⟨lp, hlp⟩ := hs.lps b hl
        rw [h3] at hlp; cases hlp) (Q4 hes) (.no a2 h3 fun _ _ _ h => by cases h)
       exact ⟨g, _, .skip, undef, by rw [hrun]; rfl, .inr ⟨rfl, rfl⟩, wC _ _ _, hst.1, hst.2⟩
      have hcs : ∀ q e f, (Obj.map cs cl : Obj) ≠ .cells q e f := fun _ _ _ h => by cases h
      rcases Ol hd hik hrk 0 h4 hset with ⟨a1, rfl⟩ | ⟨q, kv, u, cv, e0, a1, a2, a3, a4, rfl⟩
      ·refine fin (cs.push { key := ρ k, val := ρ v, born := cl }) (cl + 1) ?_ (fun g' w' hge => ?_) (Pa h5)
       ·simp only [Instr.mapUpdate, Sem.run_bind, run_underlying hu, Result.andThen_ok, hρ, kY h3, nI hud hd, vu hud a1, uC h3 hcs]
       ·refine ⟨by simpa using h4.1, fun j x y z hx hz => ?_⟩
        simp only [Array.toList_push] at hz
        by_cases hj : j < es.length
        ·rw [List.getElem?_append_left hj] at hx
         rw [List.getElem?_append_left (by rw [<- h4.1]; exact hj)] at hz
         have := h4.2 j x y z hx hz
         exact ⟨ay.mono hge _ _ this.1, ay.mono hge _ _ this.2⟩
        ·rw [List.getElem?_append_right (by omega)] at hx
         rw [List.getElem?_append_right (by rw [<- h4.1]; omega)] at hz
         rw [<- h4.1] at hz
         have hj0 : j - es.length = 0 := by
          have := (List.getElem?_eq_some_iff.1 hx).1
          simp at this; omega
         rw [hj0] at hx hz
         simp at hx hz
         obtain ⟨rfl, rfl⟩ := hx
         subst hz
         exact ⟨ay.mono hge _ _ hrk, ay.mono hge _ _ hrv⟩
      ·have hsb := PB hrk (h4.2 q kv u e0 a1 a2).1 a3
       have ha2 : cs[q]? = some e0 := by simpa using a2
       refine fin (cs.modify q fun x => { x with key := ρ k, val := ρ v }) cl ?_ (fun g' w' hge => ?_) (K3 h5)
       ·simp only [Nat.zero_add] at a4
        simp only [Instr.mapUpdate, Sem.run_bind, run_underlying hu, Result.andThen_ok, hρ, kY h3, nI hud hd, vu hud a4, ha2, Option.map_some, Option.getD_some, Instr.keyThatStays, hsb, if_true, Sem.run_pure, uC h3 hcs]
       ·refine ⟨by simpa using h4.1, fun j x y z hx hz => ?_⟩
        have hz' : (cs.modify q fun x => { x with key := ρ k, val := ρ v })[j]? = some z := by rw [<- Array.getElem?_toList]; exact hz
        rw [Array.getElem?_modify] at hz'
        rw [List.getElem?_set] at hx
        by_cases hqj : q = j
        ·subst hqj
         simp only [if_true] at hx hz'
         split at hx
         ·cases hx
          rw [ha2] at hz'
          simp at hz'
          subst hz'
          exact ⟨ay.mono hge _ _ hrk, ay.mono hge _ _ hrv⟩
         ·cases hx
        ·simp only [hqj, if_false] at hx hz'
         have := h4.2 j x y z hx (by simpa using hz')
         exact ⟨ay.mono hge _ _ this.1, ay.mono hge _ _ this.2⟩
     ·cases h
    ·cases h
   ·cases h
  ·cases h
 ·cases h
theorem QA {c : KC} {d : TypeDesc} (hd : Bw c d) {k : AV} {ck : Value} (hk : mH c k = true) (hrk : ay L.toLk g w k ck) : ∀ {es : List (AV × AV)} {cs : List MapEntry} (n : Nat), tg L.toLk g w es cs -> ∀ {es'}, Qz k es = some es' ->
  (Instr.findNow d ck cs n = some none /\ es' = es) \/ (∃ i cv, i < es.length /\ Instr.findNow d ck cs n = some (some (n + i, cv)) /\ es' = es.eraseIdx i)
 | [], [], n, _, es', h => by simp [Qz] at h; subst h; exact .inl ⟨rfl, rfl⟩
 | [], _ :: _, n, h, _, _ => by simp [tg] at h
 | _ :: _, [], n, h, _, _ => by simp [tg] at h
 | (j, u) :: es, e :: cs, n, hm, es', h => by
  obtain ⟨h1, h2⟩ := hm.2 0 j u e rfl rfl
  simp only [Qz] at h
  split at h
  ·rename_i hke
   cases h
   have := l7 hd hk hrk h1 hke
   exact .inr ⟨0, e.val, by simp, by simp [Instr.findNow, this], rfl⟩
  ·rename_i hke
   have hsn := l7 hd hk hrk h1 hke
   split at h
   ·rename_i r' hr'
    cases h
    rcases QA hd hk hrk (n + 1) hm.tail hr' with ⟨a1, rfl⟩ | ⟨i, cv, a0, a1, rfl⟩
    ·exact .inl ⟨by simp [Instr.findNow, hsn, a1], rfl⟩
    ·refine .inr ⟨i + 1, cv, by simpa using a0, ?_, rfl⟩
     simp only [Instr.findNow, hsn]
     rw [a1]; congr 3; omega
   ·cases h
  ·cases h
theorem tg.mono' {g' : Gh} {w' : World} {es : List (AV × AV)} {cs : List MapEntry} (h : tg L.toLk g w es cs) (hge : GE g w g' w') : tg L.toLk g' w' es cs := h.mono hge
theorem Pi (hs : cp L.toLk C g s w) (he : wI L g w ρ ev) {o : Oper} {t kt e ty : TypeId} {ts : List TypeId} {c : KC} {m k : Operand} {m' k' : bN} (hm : bL L m m' = true) (hk : bL L k k' = true)
  (hu : P.underlying t = some (.map kt e)) (hkt : Ac P c kt = true) {r : AV × St} (h : iS ev s (.del c m' k') = some r)
  (exec : (execOp ρ o).run P w = ((Builtin.delete_ (t :: ts).toArray ty #[ρ m, ρ k]).run P w).andThen fun a w' => .ok (.value a) w') : aP P L C g s w r ((execOp ρ o).run P w) := by
 have hrm := he.rep _ _ hm
 have hrk := he.rep _ _ hk
 obtain ⟨d, hud, hd⟩ := Ce hkt
 simp only [iS] at h
 split at h
 ·rename_i hik
  split at h
  ·rename_i i hev
   split at h
   ·rename_i es hes
    split at h
    ·rename_i es' hset
     split at h
     ·rename_i hro
      cases h
      rw [hev] at hrm
      simp only [ay] at hrm
      obtain ⟨b, hb, hρ⟩ := hrm
      obtain ⟨b', cs, cl, h1, h2, h3, h4, h5⟩ := Kl hs hes
      rw [hb] at h1; cases h1
      rw [exec]
      have hcs : ∀ q e f, (Obj.map cs cl : Obj) ≠ .cells q e f := fun _ _ _ h => by cases h
      have fin : ∀ (cs' : Array MapEntry), (Builtin.delete_ (t :: ts).toArray ty #[ρ m, ρ k]).run P w = .ok (.tuple #[]) { w with heap := w.heap.setIfInBounds b (.map cs' cl) } -> tg L.toLk g w es' cs'.toList -> HO cs'.toList cl ->
        aP P L C g s w (.tup [], s.setb i (.amap es')) (((Builtin.delete_ (t :: ts).toArray ty #[ρ m, ρ k]).run P w).andThen fun a w' => .ok (.value a) w') := by
       intro cs' hrun hrep hborn
       obtain ⟨a1, a2, a3⟩ := GL (o' := .map cs' cl) h3
       have hst := hs.setb (w' := { w with heap := w.heap.setIfInBounds b (.map cs' cl) }) (ab := .amap es') hb hro a1 a2 a3 ⟨rfl, rfl, rfl⟩ (fun hge => ⟨cs', cl, a1, hrep.mono' hge, hborn⟩) (fun hl => by
        obtain ⟨lp, hlp⟩ := hs.lps b hl
        rw [h3] at hlp; cases hlp) (Q4 hes) (.no a2 h3 fun _ _ _ h => by cases h)
       exact ⟨g, _, .value (.tuple #[]), _, by rw [hrun]; rfl, .inl rfl, wC _ _ _, hst.1, hst.2⟩
      rcases QA hd hik hrk 0 h4 hset with ⟨a1, rfl⟩ | ⟨q, cv, a0, a1, rfl⟩
      ·refine fin cs ?_ h4 h5
       simp only [Builtin.delete_, List.getElem?_toArray, List.getElem?_cons_zero, List.getElem?_cons_succ, Sem.run_bind, run_underlying hu, Result.andThen_ok, hρ, kY h3, nI hud hd, vu hud a1, uC h3 hcs, Sem.run_pure]
      ·simp only [Nat.zero_add] at a1
       refine fin (cs.eraseIdxIfInBounds q) ?_ ?_ (MT h5 q)
       ·simp only [Builtin.delete_, List.getElem?_toArray, List.getElem?_cons_zero, List.getElem?_cons_succ, Sem.run_bind, run_underlying hu, Result.andThen_ok, hρ, kY h3, nI hud hd, vu hud a1, uC h3 hcs, Sem.run_pure]
       ·have hl := h4.1
        have hq : q < cs.size := by simp at hl; omega
        have e1 : (cs.eraseIdxIfInBounds q).toList = cs.toList.eraseIdx q := by simp [Array.eraseIdxIfInBounds, hq]
        rw [e1]
        refine ⟨by rw [List.length_eraseIdx, List.length_eraseIdx, hl], fun j x y z hx hz => ?_⟩
        rw [List.getElem?_eraseIdx] at hx hz
        split at hx
        ·rename_i hj; rw [if_pos hj] at hz; exact h4.2 j x y z hx hz
        ·rename_i hj; rw [if_neg hj] at hz; exact h4.2 (j + 1) x y z hx hz
     ·cases h
    ·cases h
   ·cases h
  ·cases h
 ·cases h
theorem Kr (hs : cp L.toLk C g s w) (he : wI L g w ρ ev) {o : Oper} {t : TypeId} {x : Operand} {x' : bN} (ho : o.op = .range t x) (hx : bL L x x' = true) (hu : P.underlying t = some .string)
  {r : AV × St} (h : iS ev s (.ranges x') = some r) : aP P L C g s w r ((execOp ρ o).run P w) := by
 have hr := he.rep _ _ hx
 simp only [iS] at h
 split at h
 ·rename_i b hev
  cases h
  rw [hev] at hr
  simp only [ay] at hr
  have hp := hs.push (o := .stringIter ⟨b.toArray⟩ 0) (ab := .siter b 0) (w' := { w with heap := w.heap.push (.stringIter ⟨b.toArray⟩ 0) }) rfl tJ [] (by simp) (fun _ => jj rfl)
  refine ⟨_, _, .value (.pointer (some ⟨w.heap.size, 0, none⟩)), _, ?_, .inl rfl, ?_, hp.1, hp.2⟩
  ·simp [execOp, ho, Instr.range, run_underlying hu, hr]
  ·simp only [ay]; exact ⟨w.heap.size, by simp [<- hs.bl], rfl⟩
 ·cases h
theorem Md (hs : cp L.toLk C g s w) (he : wI L g w ρ ev) {o : Oper} {x : Operand} {x' : bN} (ho : o.op = .next x true) (hx : bL L x x' = true)
  {r : AV × St} (h : iS ev s (.nexts x') = some r) : aP P L C g s w r ((execOp ρ o).run P w) := by
 have hr := he.rep _ _ hx
 simp only [iS] at h
 split at h
 ·rename_i i hev
  rw [hev] at hr
  simp only [ay] at hr
  obtain ⟨b, hb, hρ⟩ := hr
  split at h
  ·rename_i l pos hbl
   have h1 : w.heap[b]? = some (.stringIter ⟨l.toArray⟩ pos) := hs.blocks i b _ hb hbl
   have hg : (getObj b).run P w = .ok (.stringIter ⟨l.toArray⟩ pos) w := by simp [getObj, Sem.run, h1]
   have hsz : (⟨l.toArray⟩ : ByteArray).size = l.length := by simp [ByteArray.size]
   split at h
   ·rename_i hlt
    split at h
    ·rename_i hro
     cases h
     obtain ⟨a1, a2, a3⟩ := GL (o' := .stringIter ⟨l.toArray⟩ (pos + (Utf8.decode ⟨l.toArray⟩ pos).2)) h1
     have hst := hs.setb (w' := { w with heap := w.heap.setIfInBounds b (.stringIter ⟨l.toArray⟩ (pos + (Utf8.decode ⟨l.toArray⟩ pos).2)) }) (ab := .siter l (pos + (Utf8.decode ⟨l.toArray⟩ pos).2)) hb hro a1 a2 a3 ⟨rfl, rfl, rfl⟩ (fun _ => a1) (fun hl => by
      obtain ⟨lp, hlp⟩ := hs.lps b hl
      rw [h1] at hlp; cases hlp) (by rw [hbl]; intro e; cases e) (.no a2 h1 fun _ _ _ h => by cases h)
     refine ⟨g, _, .value (.tuple #[.bool true, .int .i64 pos, .int .i32 (Utf8.decode ⟨l.toArray⟩ pos).1]), _, ?_, .inl rfl, ?_, hst.1, hst.2⟩
     ·simp only [execOp, ho, Instr.next, hρ, Sem.run_bind, hg, Result.andThen_ok, hsz]
      rw [if_pos hlt]
      simp only [Sem.run_bind, uC h1 (fun _ _ _ h => by cases h), Result.andThen_ok, Sem.run_pure, goInt]
     ·simp only [ay]
      exact ⟨_, rfl, by simp only [aw]; exact ⟨_, _, rfl, by simp [ay], _, _, rfl, by simp [ay], _, _, rfl, by simp [ay], rfl⟩⟩
    ·cases h
   ·rename_i hlt
    cases h
    refine aP.val hs (cv := .tuple #[.bool false]) ?_ ?_
    ·simp only [execOp, ho, Instr.next, hρ, Sem.run_bind, hg, Result.andThen_ok, hsz]
     rw [if_neg hlt]; rfl
    ·simp only [ay]
     exact ⟨_, rfl, by simp only [aw]; exact ⟨_, _, rfl, by simp [ay], rfl⟩⟩
  ·cases h
 ·cases h
end
open Go
section
variable {P : Program} {L : eB} {C : eR} {g : Gh} {s : St} {w : World} {ρ : Operand -> Value} {ev : bN -> AV}
theorem G3 {L : Lk} {x : AV} {v : Value} {b : Bool} (h : ay L g w x v) : ay L g w (.tup [x, .bool b]) (.tuple #[v, .bool b]) := by
 simp only [ay]; exact ⟨[v, .bool b], rfl, by simp only [aw]; exact ⟨v, _, rfl, h, _, _, rfl, by simp [ay], rfl⟩⟩
theorem Ik (hinj : ∀ a b, L.tyOf a = L.tyOf b -> a = b) (hs : cp L.toLk C g s w) (he : wI L g w ρ ev) {o : Oper} {xt t u : Nat} {z : AV} {ok : Bool} {x : Operand} {x' : bN} (ho : o.op = .typeAssert x xt t ok) (hx : bL L x x' = true) (ht : L.tyOf u = t) {d : TypeDesc}
  (hu : P.underlying t = some d) (hd : (match d with | .interface _ => false | _ => true) = true) {i : TypeInfo} (hi : P.info? t = some i) {zv : Value} (hzv : i.zero = some zv) (hz : T7 L.toLk zv z = true)
  {r : AV × St} (h : iS ev s (.tassert u z ok x') = some r) : aP P L C g s w r ((execOp ρ o).run P w) := by
 have hr := he.rep _ _ hx
 have exec : (execOp ρ o).run P w = ((Instr.typeAssert (ρ x) xt t ok).run P w).andThen fun a w' => .ok (.value a) w' := by
  simp only [execOp, ho, Sem.run_bind]; rfl
 have hzr := KH hz g w
 rw [exec]
 simp only [iS] at h
 split at h
 ·rename_i u' v hev
  rw [hev] at hr
  simp only [ay] at hr
  obtain ⟨cv, hρ, hrv⟩ := hr
  split at h
  ·rename_i huu
   subst huu
   cases h
   refine aP.val hs (cv := if ok then .tuple #[cv, .bool true] else cv) ?_ ?_
   ·rw [hρ]
    cases d <;> first | (cases hd; done) | (simp only [Instr.typeAssert, Sem.run_bind, run_underlying hu, Result.andThen_ok, ht, if_true]; cases ok <;> rfl)
   ·cases ok
    ·exact hrv
    ·exact G3 hrv
  ·rename_i huu
   have hne : L.tyOf u' ≠ t := fun e => huu (hinj _ _ (by rw [ht, e]))
   split at h
   ·rename_i ko
    cases h
    subst ko
    refine aP.val hs (cv := .tuple #[zv, .bool false]) ?_ (G3 hzr)
    rw [hρ]
    cases d <;> first | (cases hd; done) | (simp only [Instr.typeAssert, Sem.run_bind, run_underlying hu, Result.andThen_ok, hne, if_false, if_true, zeroValue, typeInfo, run_program, hi, hzv, Sem.run_pure])
   ·cases h
 ·rename_i hev
  rw [hev] at hr
  simp only [ay] at hr
  split at h
  ·rename_i ko
   cases h
   subst ko
   refine aP.val hs (cv := .tuple #[zv, .bool false]) ?_ (G3 hzr)
   rw [hr]
   cases d <;> first | (cases hd; done) | (simp only [Instr.typeAssert, Sem.run_bind, run_underlying hu, Result.andThen_ok, if_true, zeroValue, typeInfo, run_program, hi, hzv, Sem.run_pure])
  ·cases h
 ·cases h
theorem EF {t : TypeId} (h : ED P t .slice = true) : ∃ e, P.underlying t = some (.slice e) := by
 unfold ED at h
 split at h <;> first | (rename_i hc _; cases hc; done) | (rename_i hu; exact ⟨_, hu⟩) | cases h
theorem PD {t : TypeId} (h : ED P t .str = true) : P.underlying t = some .string := by
 unfold ED at h
 split at h <;> first | (rename_i hc _; cases hc; done) | (rename_i hu; exact hu) | cases h
theorem I4 {t : TypeId} (h : ED P t .map = true) : ∃ k e, P.underlying t = some (.map k e) := by
 unfold ED at h
 split at h <;> first | (rename_i hc _; cases hc; done) | (rename_i hu; exact ⟨_, _, hu⟩) | cases h
theorem PE (hs : cp L.toLk C g s w) (he : wI L g w ρ ev) {o : Oper} {t ty : TypeId} {c : LC} {x : Operand} {x' : bN} (hx : bL L x x' = true) (ht : ED P t c = true) {r : AV × St} (h : iS ev s (.len c x') = some r)
  (exec : (execOp ρ o).run P w = ((Builtin.len_ #[t] ty #[ρ x]).run P w).andThen fun a w' => .ok (.value a) w') : aP P L C g s w r ((execOp ρ o).run P w) := by
 have hr := he.rep _ _ hx
 rw [exec]
 have fin : ∀ n : Nat, (Builtin.len_ #[t] ty #[ρ x]).run P w = .ok (.int .i64 n) w -> aP P L C g s w (.int .i64 n, s) (((Builtin.len_ #[t] ty #[ρ x]).run P w).andThen fun a w' => .ok (.value a) w') := by
  intro n hn
  exact aP.val hs (cv := .int .i64 n) (by rw [hn]; rfl) (by simp [ay])
 simp only [iS] at h
 split at h
 ·rename_i own z xs hev
  cases h
  rw [hev] at hr
  simp only [ay] at hr
  obtain ⟨a, cap, vs, hρ, _⟩ := hr
  obtain ⟨e, hu⟩ := EF ht
  exact fin _ (by simp [Builtin.len_, run_underlying hu, hρ, goInt])
 ·rename_i b off z n hev
  cases h
  rw [hev] at hr
  simp only [ay] at hr
  obtain ⟨b', a', cap, _, hρ, _⟩ := hr
  obtain ⟨e, hu⟩ := EF ht
  exact fin _ (by simp [Builtin.len_, run_underlying hu, hρ, goInt])
 ·rename_i b hev
  cases h
  rw [hev] at hr
  simp only [ay] at hr
  have hu := PD ht
  exact fin _ (by simp only [Builtin.len_, List.getElem?_toArray, List.getElem?_cons_zero, Sem.run_bind, run_underlying hu, Result.andThen_ok, hr, Sem.run_pure, goInt]; rfl)
 ·rename_i hev
  cases h
  rw [hev] at hr
  simp only [ay] at hr
  obtain ⟨k, e, hu⟩ := I4 ht
  exact fin 0 (by simp only [Builtin.len_, List.getElem?_toArray, List.getElem?_cons_zero, Sem.run_bind, run_underlying hu, Result.andThen_ok, hr, Sem.run_pure, goInt]; rfl)
 ·rename_i i hev
  rw [hev] at hr
  simp only [ay] at hr
  obtain ⟨b, hb, hρ⟩ := hr
  split at h
  ·rename_i es hes
   cases h
   obtain ⟨b', cs, cl, h1, h2, h3, h4, _⟩ := Kl hs hes
   rw [hb] at h1; cases h1
   have hl : cs.size = es.length := by have := h4.1; simpa using this.symm
   obtain ⟨k, e, hu⟩ := I4 ht
   exact fin _ (by simp [Builtin.len_, run_underlying hu, hρ, goInt, kY h3, hl])
  ·cases h
 ·cases h
theorem Pd (hs : cp L.toLk C g s w) (he : wI L g w ρ ev) {o : Oper} {t ty e : TypeId} {x : Operand} {x' : bN} (hx : bL L x x' = true) (hu : P.underlying t = some (.slice e)) {r : AV × St} (h : iS ev s (.cap x') = some r)
  (exec : (execOp ρ o).run P w = ((Builtin.cap_ #[t] ty #[ρ x]).run P w).andThen fun a w' => .ok (.value a) w') : aP P L C g s w r ((execOp ρ o).run P w) := by
 have hr := he.rep _ _ hx
 rw [exec]
 simp only [iS] at h
 split at h
 ·rename_i z xs hev
  cases h
  rw [hev] at hr
  simp only [ay] at hr
  obtain ⟨a, cap, vs, hρ, _, _, _, _, _, ho⟩ := hr
  obtain ⟨_, _, rfl⟩ := ho
  exact aP.val hs (cv := .int .i64 0) (by simp [Builtin.cap_, run_underlying hu, hρ, goInt]) (by simp [ay])
 ·rename_i z xs hev
  cases h
  rw [hev] at hr
  simp only [ay] at hr
  obtain ⟨a, cap, vs, hρ, _, _, _, _, _, ho⟩ := hr
  obtain ⟨_, rfl⟩ := ho
  exact aP.val hs (cv := .int .i64 xs.length) (by simp [Builtin.cap_, run_underlying hu, hρ, goInt]) (by simp [ay])
 ·cases h
theorem Eg (n : Int) (h1 : -9223372036854775808 <= n) (h2 : n <= 9223372036854775807) : IntKind.i64.wrap n = n := by
 show (if (true && decide (n % 2 ^ 64 >= 2 ^ 63)) = true then n % 2 ^ 64 - 2 ^ 64 else n % 2 ^ 64) = n
 simp only [Bool.true_and, decide_eq_true_eq, show (2 : Int) ^ 64 = 18446744073709551616 from rfl, show (2 : Int) ^ 63 = 9223372036854775808 from rfl]
 split <;> omega
theorem Rf {k : IntKind} {a b : Int} : (Builtin.max2 (.int k a) (.int k b)).run P w = .ok (.int k (if b > a then b else a)) w := rfl
theorem Rh {k : IntKind} {a b : Int} : (Builtin.min2 (.int k a) (.int k b)).run P w = .ok (.int k (if b < a then b else a)) w := rfl
theorem Ad (m : MM) : ∀ {xs : List AV} {vs : List Value} {x y : AV} {v : Value}, aw L.toLk g w xs vs -> ay L.toLk g w x v -> wv m x xs = some y ->
  ∃ u, (vs.foldlM (match m with | .max => Builtin.max2 | .min => Builtin.min2) v).run P w = .ok u w /\ ay L.toLk g w y u
 | [], vs, x, y, v, h1, h2, h3 => by
  simp only [aw] at h1; subst h1
  simp only [wv, Option.some.injEq] at h3; subst h3
  exact ⟨v, by simp, h2⟩
 | z :: xs, vs, x, y, v, h1, h2, h3 => by
  simp only [aw] at h1
  obtain ⟨c, r, rfl, h4, h5⟩ := h1
  simp only [wv] at h3
  split at h3
  ·rename_i q hq
   unfold RM at hq
   split at hq
   ·rename_i k a l b
    split at hq
    ·rename_i hkl
     subst hkl
     simp only [ay] at h2 h4
     subst h2; subst h4
     cases m <;> simp only [Option.some.injEq] at hq <;> subst hq
     ·obtain ⟨u, h6, h7⟩ := Ad .min (v := .int k (if b < a then b else a)) h5 (by simp [ay]) h3
      exact ⟨u, by simp only [List.foldlM_cons, Sem.run_bind, Rh, Result.andThen_ok]; exact h6, h7⟩
     ·obtain ⟨u, h6, h7⟩ := Ad .max (v := .int k (if b > a then b else a)) h5 (by simp [ay]) h3
      exact ⟨u, by simp only [List.foldlM_cons, Sem.run_bind, Rf, Result.andThen_ok]; exact h6, h7⟩
    ·cases hq
   ·cases hq
  ·cases h3
theorem Mb (hs : cp L.toLk C g s w) (he : wI L g w ρ ev) {o : Oper} {m : MM} {ts : Array TypeId} {ty : TypeId} {args : List Operand} {xs : List bN} (hx : vp L args xs = true) {r : AV × St} (h : iS ev s (.mm m xs) = some r)
  (exec : (execOp ρ o).run P w = ((match m with | .max => Builtin.max_ ts ty (args.map ρ).toArray | .min => Builtin.min_ ts ty (args.map ρ).toArray).run P w).andThen fun a w' => .ok (.value a) w') : aP P L C g s w r ((execOp ρ o).run P w) := by
 have hr := he.reps hx
 simp only [iS] at h
 split at h
 ·cases h
 ·rename_i x rest hxs
  rw [hxs] at hr
  simp only [aw] at hr
  obtain ⟨v, vs, hv, h1, h2⟩ := hr
  simp only [ew] at h
  split at h
  ·rename_i y hy
   cases h
   obtain ⟨u, h3, h4⟩ := Ad (P := P) m h2 h1 hy
   refine aP.val hs (cv := u) ?_ h4
   rw [exec, hv]
   cases m <;> simp only [Builtin.max_, Builtin.min_] <;> simp only at h3 <;> rw [h3] <;> rfl
  ·cases h
theorem MO (hs : cp L.toLk C g s w) (he : wI L g w ρ ev) {o : Oper} {t u ty e : TypeId} {i : TypeInfo} {z : Value} {sz : Nat} (hR : u6 P t e i z sz) (hu : TF P u = true) {x y : Operand} {x' y' : bN} (hx : bL L x x' = true) (hy : bL L y y' = true)
  {r : AV × St} (h : iS ev s (.appz sz x' y') = some r) (exec : (execOp ρ o).run P w = ((Builtin.append_ #[t, u] ty #[ρ x, ρ y]).run P w).andThen fun a w' => .ok (.value a) w') : aP P L C g s w r ((execOp ρ o).run P w) := by
 have hrx := he.rep _ _ hx
 have hry := he.rep _ _ hy
 simp only [iS] at h
 split at h
 ·rename_i z0 xs k n hex hey
  split at h
  ·rename_i hc
   cases h
   rw [hex] at hrx
   rw [hey] at hry
   simp only [ay] at hrx hry
   obtain ⟨a, cap, vs, hρ, hcap, hun, hrl, hsz, hl, ho⟩ := hrx
   obtain ⟨rfl, hx0, rfl⟩ := ho
   rw [hx0] at hρ
   obtain ⟨m, hm, hm0⟩ : ∃ m : Nat, n = m /\ 0 < m := ⟨n.toNat, by omega, by omega⟩
   subst hm
   have hmost : m <= aO := by have := hc.2; omega
   unfold TF at hu
   split at hu
   ·rename_i kk hd
    have hwrap : IntKind.i64.wrap (m : Int) = m := by
     unfold aO at hmost
     exact Eg _ (by omega) (by omega)
    have hns := GV m 0 (by omega) hmost
    have hb := hR.bytes
    have hle : ¬ (Builtin.nextslicecap m 0 * i.bytes > 2 ^ 48) := by
     have : Builtin.nextslicecap m 0 * i.bytes <= 4294967296 * 1024 := Nat.mul_le_mul hns hb
     omega
    have hle2 : ¬ ((m : Int) * (i.bytes : Int) > 2 ^ 48) := by
     have h3 : m * i.bytes <= 1073741824 * 1024 := Nat.mul_le_mul (by unfold aO at hmost; exact hmost) hb
     have h4 : ((m * i.bytes : Nat) : Int) <= 1099511627776 := by omega
     rw [Int.natCast_mul] at h4
     have h5 : (2 : Int) ^ 48 = 281474976710656 := rfl
     rw [h5]; omega
    have hmax : ¬ (((m : Nat) : Int) > IntKind.i64.max /\ (True \/ i.bytes = 0)) := by
     have : IntKind.i64.max = 9223372036854775807 := by decide
     rw [this]; unfold aO at hmost; omega
    obtain ⟨nc, hnc⟩ : ∃ nc, nc = (Question.appendCap m 0 e).cut (w.tape w.drawn (.appendCap m 0 e)) := ⟨_, rfl⟩
    have hncge : m <= nc := by rw [hnc]; simp [Question.cut]
    obtain ⟨cs, hcs, hcsz⟩ : ∃ cs : Array Value, cs = #[] ++ Builtin.zeroCells z.cells m ++ Builtin.zeroCells z.cells (nc - m) /\ cs.size = nc * sz := by
     refine ⟨_, rfl, ?_⟩
     simp only [Array.size_append, size_zeroCells, hR.zs]
     simp only [List.size_toArray, List.length_nil, Nat.zero_add, <- Nat.add_mul]
     congr 1; omega
    have hrun : (Builtin.append_ #[t, u] ty #[ρ x, ρ y]).run P w = .ok (.slice (some ⟨w.heap.size, 0, none⟩) m nc) { w with drawn := w.drawn + 1, heap := w.heap.push (.cells cs e) } := by
     have hpos := hR.pos
     have hmsz : ¬ (m * sz = 0) := by
      intro h0
      rcases Nat.mul_eq_zero.1 h0 with h1 | h1 <;> omega
     simp only [Builtin.append_, List.getElem?_toArray, List.getElem?_cons_zero, List.getElem?_cons_succ, Sem.run_bind, run_underlying hR.ht, Result.andThen_ok, Go.sizeOf, typeInfo, run_program, hR.hi, Sem.run_pure, run_underlying hd, hρ, hry, hR.size,
      if_true, asInt, asIntOf, hwrap]
     rw [if_neg (by omega)]
     simp only [Sem.run_bind, run_program, hR.hi, Sem.run_pure, Result.andThen_ok, Sem.run_ite, Result.andThen_ite]
     rw [if_neg hle2]
     simp only [Int.toNat_natCast, Nat.zero_add]
     rw [if_neg (by omega)]
     rw [if_neg hmax]
     rw [if_neg hle]
     simp only [Result.andThen_ok, run_choose, Question.forced, Bool.false_eq_true, if_false, Sem.run_bind, run_program, Sem.run_pure, run_askRoom, zeroValue, typeInfo, hR.hi, hR.hz, newRow, run_newObj, Builtin.firstCells, Bool.not_true, hmsz, Sem.run_ite, Result.andThen_ite]
     rw [<- hnc, hcs]
    have htk : s.tk.length = g.tk.length := by rw [<- hs.tk]; simp
    have hlive : ∀ (q : Nat) (T : su), g.tk[q]? = some T -> T.a.block < w.heap.size := by
     intro q T hT
     obtain ⟨c', e', fz', h6, _⟩ := (hs.toks q T hT).space
     exact aT h6
    have hcase : ∀ (q : Nat) (T : su), (g.tk ++ [⟨⟨w.heap.size, 0, none⟩, nc, sz, 0⟩])[q]? = some T -> g.tk[q]? = some T \/ (q = g.tk.length /\ T = ⟨⟨w.heap.size, 0, none⟩, nc, sz, 0⟩) := by
     intro q T hT
     by_cases hq : q < g.tk.length
     ·rw [List.getElem?_append_left hq] at hT; exact .inl hT
     ·have hq' := (List.getElem?_eq_some_iff.1 hT).1
      simp at hq'
      have : q = g.tk.length := by omega
      subst this
      simp at hT
      exact .inr ⟨rfl, hT.symm⟩
    have hnew := hs.newRow (c := cs) (e := e) (fz := (0, 0)) (w' := { w with drawn := w.drawn + 1, heap := w.heap.push (.cells cs e) }) rfl ⟨rfl, rfl, rfl⟩ 0 (g.tk ++ [⟨⟨w.heap.size, 0, none⟩, nc, sz, 0⟩])
     (fun q T hT => ⟨T, by rw [List.getElem?_append_left (List.getElem?_eq_some_iff.1 hT).1]; exact hT, Nat.le_refl _, fun _ => rfl⟩)
     (fun q T hT => by
      rcases hcase q T hT with h | ⟨_, rfl⟩
      ·exact .inl h
      ·exact .inr ⟨rfl, by rw [hcsz]; exact Nat.le_refl _, Nat.zero_le _, Nat.zero_le _, fun o _ hh => by simp at hh⟩)
     (fun q q' T T' hT hT' e1 e2 => by
      rcases hcase q T hT with h | ⟨rfl, _⟩
      ·have := hlive q T h; omega
      ·rcases hcase q' T' hT' with h | ⟨rfl, _⟩
       ·have := hlive q' T' h; omega
       ·rfl)
     (fun q hq => by
      have h0 := hs.rt
      rw [List.getElem?_append_left (by omega)])
    have hst : ({ s with tk := (g.tk ++ [(⟨⟨w.heap.size, 0, none⟩, nc, sz, 0⟩ : su)]).map (·.top) } : St) = { s with tk := s.tk ++ [0] } := by simp [hs.tk]
    rw [hst] at hnew
    refine ⟨_, _, .value (.slice (some ⟨w.heap.size, 0, none⟩) m nc), _, ?_, .inl rfl, ?_, hnew.1, hnew.2⟩
    ·rw [exec, hrun]; rfl
    ·simp only [ay, Int.toNat_natCast]
     exact ⟨⟨⟨w.heap.size, 0, none⟩, nc, sz, 0⟩, by rw [htk]; simp, fun _ => ⟨rfl, hncge, rfl⟩⟩
   ·cases hu
  ·cases h
 ·cases h
theorem BO {L : Lk} {g : Gh} {w : World} {z : List AV} {zc : List Value} (h : aw L g w z zc) : ∀ m : Nat, aw L g w (bE z m).flatten (List.replicate m zc).flatten
 | 0 => by simp [bE, aw]
 | m + 1 => by
  simp only [bE, List.replicate_succ, List.flatten_cons]
  exact h.append (BO h m)
theorem NA (hs : cp L.toLk C g s w) (he : wI L g w ρ ev) {o : Oper} {t : TypeId} {n c : Operand} {n' c' : bN} (ho : o.op = .makeSlice t n c) {e : TypeId} {i : TypeInfo} {zv : Value} {sz : Nat} (hR : u6 P t e i zv sz) {z : List AV} (hz : sQ P L.toLk e z = true)
  (hn : bL L n n' = true) (hc : bL L c c' = true) {r : AV × St} (h : iS ev s (.mkms sz z n' c') = some r) : aP P L C g s w r ((execOp ρ o).run P w) := by
 have hrn := he.rep _ _ hn
 have hrc := he.rep _ _ hc
 simp only [iS] at h
 split at h
 ·rename_i k a l b hev hev2
  split at h
  ·rename_i hcond
   obtain ⟨⟨h0, h1⟩, h2⟩ := hcond
   cases h
   rw [hev] at hrn
   rw [hev2] at hrc
   simp only [ay] at hrn hrc
   obtain ⟨m, rfl⟩ : ∃ m : Nat, b = m := ⟨b.toNat, by omega⟩
   obtain ⟨q, rfl⟩ : ∃ q : Nat, a = q := ⟨a.toNat, by omega⟩
   have hm : m <= aO := by omega
   have hq : q <= m := by omega
   unfold sQ at hz
   rw [hR.hi] at hz
   simp only [hR.hz, Bool.and_eq_true, beq_iff_eq] at hz
   obtain ⟨hz1, hz2⟩ := hz
   have hzr := sd hz1 g w
   have hzl : zv.cells.toList.length = sz := by simp [hR.zs]
   have hpos := hR.pos
   have hb := hR.bytes
   unfold aO at hm
   have w1 : IntKind.i64.wrap (m : Int) = m := Eg _ (by omega) (by omega)
   have w2 : IntKind.i64.wrap (q : Int) = q := Eg _ (by omega) (by omega)
   have hbm : ((i.bytes : Int) * (m : Int)) <= 1099511627776 := by
    have h3 : i.bytes * m <= 1024 * 1073741824 := Nat.mul_le_mul hb hm
    have h4 : ((i.bytes * m : Nat) : Int) <= 1099511627776 := by omega
    rwa [Int.natCast_mul] at h4
   obtain ⟨cells, hcells⟩ : ∃ cells : Array Value, cells = (List.replicate m zv.cells.toList).flatten.toArray := ⟨_, rfl⟩
   have hrun : (Instr.makeSlice t (ρ n) (ρ c)).run P w = .ok (.slice (some ⟨w.heap.size, 0, none⟩) q m) { w with heap := w.heap.push (.cells cells e) } := by
    have hf : ¬ ((decide ((m : Int) < 0) || decide ((i.bytes : Int) * (m : Int) > 2 ^ 48) || decide ((q : Int) < 0) || decide ((q : Int) > (m : Int))) = true) := by
     have h5 : (2 : Int) ^ 48 = 281474976710656 := rfl
     simp only [Bool.or_eq_true, decide_eq_true_eq, h5]; omega
    have hcell : ((Array.range (m * sz)).map fun x => (if m * sz = 0 then #[] else zv.cells)[x % (if m * sz = 0 then #[] else zv.cells).size]!) = cells := by
     rw [hcells]
     apply Array.ext'
     by_cases hm0 : m = 0
     ·subst hm0; simp
     ·have hne : ¬ m * sz = 0 := by
       intro h6
       rcases Nat.mul_eq_zero.1 h6 with h7 | h7 <;> omega
      simp only [hne, if_false]
      have := D1 zv.cells.toList undef m
      rw [hzl] at this
      rw [<- this]
      simp only [Array.toList_map, Array.toList_range]
      apply List.map_congr_left
      intro x _
      have hlt : x % sz < zv.cells.size := by rw [hR.zs]; exact Nat.mod_lt _ hpos
      rw [hR.zs]
      simp [hlt]
    simp only [Instr.makeSlice, Sem.run_bind, run_underlying hR.ht, Result.andThen_ok, hrn, hrc, asInt, asIntOf, Sem.run_pure, typeInfo, run_program, hR.hi, w1, w2]
    rw [if_neg hf]
    simp only [Result.andThen_ok, Sem.run_bind, run_askRoom, Go.sizeOf, typeInfo, run_program, hR.hi, Sem.run_pure, hR.size, Int.toNat_natCast, newRow, run_newObj, zeroValue, hR.hz, Sem.run_ite, Result.andThen_ite]
    by_cases hm0 : m * sz = 0
    ·rw [if_pos hm0] at hcell ⊢
     rw [hcell]
    ·rw [if_neg hm0] at hcell ⊢
     rw [hcell]
   have hp := hs.push (o := .cells cells e) (ab := .cells (bE z m).flatten) (w' := { w with heap := w.heap.push (.cells cells e) }) rfl tJ [] (by simp)
    (fun hge => ⟨(List.replicate m zv.cells.toList).flatten, [], e, by rw [jj rfl, hcells, List.append_nil], aw.mono hge _ _ (BO hzr.1 m), fun u hu => by
     obtain ⟨l, hl, hu⟩ := List.mem_flatten.1 hu
     rw [(List.mem_replicate.1 hl).2] at hu
     exact hzr.2 u hu⟩)
   refine ⟨_, _, .value (.slice (some ⟨w.heap.size, 0, none⟩) q m), _, ?_, .inl rfl, ?_, hp.1, hp.2⟩
   ·simp only [execOp, ho, Sem.run_bind, hrun]; rfl
   ·simp only [ay, Int.toNat_natCast]
    exact ⟨w.heap.size, ⟨w.heap.size, 0, none⟩, m, by simp [<- hs.bl], rfl, hq, fun _ => ⟨rfl, cells, e, (0, 0), jj (w := w) (w' := { w with heap := w.heap.push (.cells cells e) }) rfl, by rw [hcells, List.size_toArray, List.length_flatten, List.map_replicate, List.sum_replicate_nat]; simp [hzl]⟩⟩
  ·cases h
 ·cases h
end
open Go
section
variable {P : Program} {L : eB} {C : eR} {g : Gh} {s : St} {w : World} {ρ : Operand -> Value} {ev : bN -> AV}
theorem RX {α : Type} {a : Array α} {x : α} (h : a.toList = [x]) : a = #[x] := by cases a; simp_all
theorem MP {α : Type} {a : Array α} {x y : α} (h : a.toList = [x, y]) : a = #[x, y] := by cases a; simp_all
theorem lm {o : Oper} {b : Builtin} {args : Array Operand} {ts : Array TypeId} (ho : o.op = .call { callee := .builtin b, args, argTypes := ts }) {R : Sem Value} (hR : ∀ consts, builtin b ts o.type consts (args.map ρ) = (do pure (.value (<- R)))) :
  (execOp ρ o).run P w = (R.run P w).andThen fun a w' => .ok (.value a) w' := by
 simp only [execOp, ho, resolve, Sem.run_bind, Sem.run_pure, Result.andThen_ok, invoke, hR]
theorem O8 (hs : cp L.toLk C g s w) (he : wI L g w ρ ev) {o : Oper} {b : Builtin} {args : Array Operand} {ts : Array TypeId} (ho : o.op = .call { callee := .builtin b, args, argTypes := ts }) {io : vL} (hb : FU P L b args.toList ts.toList io = true)
  {r : AV × St} (h : iS ev s io = some r) : aP P L C g s w r ((execOp ρ o).run P w) := by
 unfold FU at hb
 split at hb
 ·split at hb
  ·rename_i a t h1 h2
   simp only [Bool.and_eq_true] at hb
   refine PE hs he hb.1 hb.2 h (lm ho fun _ => ?_) (ty := o.type)
   rw [RX h1, RX h2]; simp [builtin]
  ·cases hb
 ·split at hb
  ·rename_i a t h1 h2
   simp only [Bool.and_eq_true] at hb
   obtain ⟨h3, h4⟩ := hb
   split at h4
   ·rename_i e hu
    refine Pd hs he h3 hu h (lm ho fun _ => ?_) (ty := o.type)
    rw [RX h1, RX h2]; simp [builtin]
   ·cases h4
  ·cases hb
 ·split at hb
  ·rename_i a c t u h1 h2
   simp only [Bool.and_eq_true, decide_eq_true_eq] at hb
   obtain ⟨⟨⟨⟨⟨h3, h4⟩, h5⟩, h6⟩, h7⟩, h8⟩ := hb
   obtain ⟨e, i, z, hR⟩ := FC h5 h7 h8
   rw [lm ho (R := Builtin.append_ #[t, u] o.type #[ρ a, ρ c]) (fun _ => by rw [MP h1, MP h2]; simp [builtin])]
   simp only [iS] at h
   obtain ⟨v, s'⟩ := r
   obtain ⟨g', w', cv, a1, a2, a3, a4⟩ := MN (ty := o.type) hs hR h6 (he.rep _ _ h3) (he.rep _ _ h4) h
   exact ⟨g', w', _, cv, by rw [a1]; rfl, .inl rfl, a2, a3, a4⟩
  ·cases hb
 ·split at hb
  ·rename_i a c t u h1 h2
   simp only [Bool.and_eq_true, decide_eq_true_eq] at hb
   obtain ⟨⟨⟨⟨⟨h3, h4⟩, h5⟩, h6⟩, h7⟩, h8⟩ := hb
   obtain ⟨e, i, z, hR⟩ := FC h5 h7 h8
   rw [lm ho (R := Builtin.append_ #[t, u] o.type #[ρ a, ρ c]) (fun _ => by rw [MP h1, MP h2]; simp [builtin])]
   simp only [iS] at h
   obtain ⟨v, s'⟩ := r
   obtain ⟨g', w', cv, a1, a2, a3, a4⟩ := KX (ty := o.type) hs hR h6 (he.rep _ _ h3) (he.rep _ _ h4) h
   exact ⟨g', w', _, cv, by rw [a1]; rfl, .inl rfl, a2, a3, a4⟩
  ·cases hb
 ·split at hb
  ·rename_i a c t u h1 h2
   simp only [Bool.and_eq_true, decide_eq_true_eq] at hb
   obtain ⟨⟨⟨⟨⟨h3, h4⟩, h5⟩, h6⟩, h7⟩, h8⟩ := hb
   obtain ⟨e, i, z, hR⟩ := FC h5 h7 h8
   refine MO hs he hR h6 h3 h4 h (lm ho fun _ => ?_) (ty := o.type)
   rw [MP h1, MP h2]; simp [builtin]
  ·cases hb
 ·refine Mb (m := .max) (ts := ts) (ty := o.type) hs he hb h (lm ho fun _ => ?_)
  simp only [builtin]
  congr 2
  apply Array.ext'; simp
 ·refine Mb (m := .min) (ts := ts) (ty := o.type) hs he hb h (lm ho fun _ => ?_)
  simp only [builtin]
  congr 2
  apply Array.ext'; simp
 ·split at hb
  ·rename_i a c t tr h1 h2
   simp only [Bool.and_eq_true] at hb
   obtain ⟨⟨h3, h4⟩, h5⟩ := hb
   split at h5
   ·rename_i kt e hu
    refine Pi (ts := tr) (ty := o.type) hs he h3 h4 hu h5 h (lm ho fun _ => ?_)
    have h2' : ts = (t :: tr).toArray := by rw [<- h2]
    rw [MP h1, h2']; simp [builtin]
   ·cases h5
  ·cases hb
 ·cases hb
theorem Q8 (hinj : ∀ a b, L.tyOf a = L.tyOf b -> a = b) (hs : cp L.toLk C g s w) (he : wI L g w ρ ev) {o : Oper} {io : vL} (ko : uz P L o.op io = true) {r : AV × St} (h : iS ev s io = some r) : aP P L C g s w r ((execOp ρ o).run P w) := by
 generalize hop : o.op = op at ko
 unfold uz at ko
 split at ko <;> try simp only [Bool.and_eq_true, beq_iff_eq, decide_eq_true_eq] at ko
 ·simp only [iS, Option.some.injEq] at h; subst h
  exact aP.val hs (by simp [execOp, hop]) (he.rep _ _ ko)
 ·simp only [iS, Option.some.injEq] at h; subst h
  exact aP.val hs (by simp [execOp, hop]) (he.rep _ _ ko)
 ·exact NG hs he hop ko.1.1 ko.1.2 ko.2 h
 ·exact KU hs hop ko h
 ·exact Pb hs he hop ko h
 ·obtain ⟨h1, h2⟩ := ko
  split at h2
  ·rename_i pl hpl
   exact K4 hs he hop h1 hpl h2 h
  ·cases h2
 ·obtain ⟨⟨⟨⟨⟨h1, h2⟩, h3⟩, h4⟩, h5⟩, h6⟩ := ko
  subst h1
  split at h3
  ·rename_i e hu
   simp only [Bool.and_eq_true, beq_iff_eq] at h3
   unfold uf at h2
   rw [hu] at h2
   simp only [beq_iff_eq] at h2
   exact JG hs he hop hu h2 h3.1 h4 h5 h
  ·cases h3
 ·obtain ⟨⟨⟨h1, h2⟩, h3⟩, h4⟩ := ko
  simp only [iS, ew] at h
  split at h
  ·rename_i v hv
   cases h
   simp only [Bool.or_eq_true, beq_iff_eq] at h4
   obtain ⟨cv, a1, a2⟩ := EI hs h1 h2 h4 (he.rep _ _ h3) hv
   exact aP.val hs (by simp [execOp, hop, a1]) a2
  ·cases h
 ·obtain ⟨⟨h1, h2⟩, h3⟩ := ko
  simp only [iS] at h
  split at h
  ·rename_i s' hs'
   cases h
   obtain ⟨w', a1, a2, a3⟩ := KD hs h1 (he.rep _ _ h2) (he.rep _ _ h3) hs'
   exact ⟨g, w', .skip, undef, by simp [execOp, hop, a1], .inr ⟨rfl, rfl⟩, wC _ _ _, a2, a3⟩
  ·cases h
 ·exact Km hs he hop ko h
 ·obtain ⟨⟨⟨rfl, h2⟩, h3⟩, h4⟩ := ko
  exact O6 hs he hop h2 h3 h4 h
 ·obtain ⟨rfl, h2⟩ := ko
  exact Rz hs he hop h2 h
 ·exact M0 hs he hop ko.1 ko.2 h
 ·obtain ⟨⟨h1, h2⟩, h3⟩ := ko
  cases hu : P.underlying _ with
  | none => rw [hu] at h3; cases h3
  | some d =>
   rw [hu] at h3
   exact Nz hs he hop h1 h2 hu (by cases d <;> first | rfl | cases h3) h
 ·obtain ⟨⟨h1, h2⟩, h3⟩ := ko
  exact Ny hs he hop h1 h2 h3 h
 ·exact Ma hs hop h
 ·obtain ⟨⟨⟨⟨⟨h1, h2⟩, h3⟩, h4⟩, h5⟩, h6⟩ := ko
  obtain ⟨e, i, z, hR⟩ := FC h3 h4 h6
  rw [hR.ht] at h5
  exact NA hs he hop hR h5 h1 h2 h
 ·obtain ⟨⟨⟨⟨h1, h2⟩, h3⟩, h4⟩, h5⟩ := ko
  exact Ms hs he hop h1 h2 h3 h4 h5 h
 ·obtain ⟨h1, h2⟩ := ko
  split at h2
  ·rename_i fd hf
   simp only [Bool.and_eq_true, beq_iff_eq] at h2
   obtain ⟨h2, h3⟩ := h2
   split at h3
   ·rename_i n hn
    simp only [ne_eq, decide_eq_true_eq] at h3
    exact Ll hs he hop h1 hf h2 hn h3 h
   ·cases h3
  ·cases h2
 ·obtain ⟨h1, h2⟩ := ko
  split at h2
  ·rename_i fd hf
   simp only [Bool.and_eq_true, beq_iff_eq, Bool.or_eq_true] at h2
   obtain ⟨⟨⟨h2, h3⟩, h4⟩, h5⟩ := h2
   exact Lm hs he hop h1 hf h2 h3 h4 h5 h
  ·cases h2
 ·exact LS hs he hop ko.1.1 ko.1.2 ko.2 h
 ·obtain ⟨⟨h1, h2⟩, h3⟩ := ko
  split at h3
  ·rename_i n e hu
   simp only [Bool.and_eq_true, beq_iff_eq] at h3
   obtain ⟨rfl, h4⟩ := h3
   exact KS hs he hop h1 h2 hu h4 h
  ·cases h3
 ·obtain ⟨⟨h1, h2⟩, h3⟩ := ko
  split at h3
  ·rename_i hu
   exact LU hs he hop h1 h2 hu h
  ·cases h3
 ·obtain ⟨⟨h1, h2⟩, h3⟩ := ko
  split at h3
  ·rename_i n e hu
   simp only [Bool.and_eq_true, beq_iff_eq, Bool.or_eq_true] at h3
   obtain ⟨⟨⟨rfl, h4⟩, h5⟩, h6⟩ := h3
   exact Jz hs he hop h1 h2 hu h5 h4 h6 h
  ·cases h3
 ·obtain ⟨⟨⟨rfl, h2⟩, h3⟩, h4⟩ := ko
  split at h4
  ·rename_i kt e hu
   simp only [Bool.and_eq_true] at h4
   obtain ⟨h5, h6⟩ := h4
   split at h6
   ·rename_i i hi
    split at h6
    ·rename_i zv hzv
     exact Kk hs he hop h2 h3 hu h5 hi hzv h6 h
    ·cases h6
   ·cases h6
  ·cases h4
 ·obtain ⟨⟨⟨h1, h2⟩, h3⟩, h4⟩ := ko
  split at h4
  ·rename_i kt e hu
   exact Dc hs he (.inl hop) h1 h2 h3 hu h4 h
  ·cases h4
 ·obtain ⟨⟨⟨h1, h2⟩, h3⟩, h4⟩ := ko
  split at h4
  ·rename_i kt e hu
   exact Dc hs he (.inr hop) h1 h2 h3 hu h4 h
  ·cases h4
 ·obtain ⟨h1, h2⟩ := ko
  split at h2
  ·rename_i hu
   exact Kr hs he hop h1 hu h
  ·cases h2
 ·exact Md hs he hop ko h
 ·obtain ⟨⟨⟨⟨rfl, h2⟩, h3⟩, h4⟩, h5⟩ := ko
  split at h5
  ·rename_i i hi
   split at h5
   ·rename_i zv hzv
    cases hu : P.underlying _ with
    | none => rw [hu] at h4; cases h4
    | some d =>
     rw [hu] at h4
     exact Ik hinj hs he hop h2 h3 hu (by cases d <;> first | rfl | cases h4) hi hzv h5 h
   ·cases h5
  ·cases h5
 ·obtain ⟨rfl, h2⟩ := ko
  exact Pk hs he hop h2 h
 ·simp [iS] at h
 ·exact O8 hs he hop ko h
 ·cases ko
end
open Go
def F6 (P : Program) (L : eB) (N : Nat) (cops : Array Oper) (o : Oper) (io : aK) : Bool :=
 o.dst == io.dst && (match io.dst with | some d => decide (d < N) | none => true) &&
 (match o.guard, io.guard with
  | none, none => true
  | some (j, a), some (g, b) => a == b && ((cops[j]?).bind (·.dst)) == some g
  | _, _ => false) &&
 (match o.op, io.op with
  | .call { callee := .value f, args, .. }, .call f' args' => bL L f f' && vp L args.toList args'
  | .call { callee := .builtin .recover, args, .. }, .recover => args.isEmpty
  | .defer { callee := .value f, args, .. }, .defer f' args' => bL L f f' && vp L args.toList args'
  | .panic x, .panic y => bL L x y
  | op, io => uz P L op io)
def nA (P : Program) (L : eB) (N : Nat) (cops : Array Oper) : List Oper -> List aK -> Bool
 | [], [] => true
 | o :: os, i :: is => F6 P L N cops o i && nA P L N cops os is
 | _, _ => false
def bN.slots : bN -> List Nat
 | .t n => [n]
 | _ => []
def gK : List bN -> List Nat
 | [] => []
 | x :: r => x.slots ++ gK r
def Ag : Option bN -> List Nat
 | some x => x.slots
 | none => []
def vL.slots : vL -> List Nat
 | .mov x | .box _ x | .load _ _ x | .nilchk x | .un _ x | .conv _ x | .mkif _ x | .faddr _ x | .field _ _ _ x | .ranges x | .nexts x | .tassert _ _ _ x | .ext x _ | .len _ x | .cap x | .panic x => x.slots
 | .pick a b c => a.slots ++ b.slots ++ c.slots
 | .alloc _ | .mkmap | .recover => []
 | .build _ ps => gK (ps.map fun p => p.2.2)
 | .bslice _ _ _ ps => gK (ps.map fun p => p.2)
 | .store _ a b | .bin _ _ a b | .iaddr _ a b | .aaddr _ _ a b | .index a b | .aindex _ _ _ a b | .lookup _ _ a b _ | .app _ a b | .appz _ a b | .appm _ a b | .mkms _ _ a b | .del _ a b => a.slots ++ b.slots
 | .mkslice _ _ _ a b => a.slots ++ b.slots
 | .mapset _ a b c => a.slots ++ b.slots ++ c.slots
 | .mkfn _ a b => gK a ++ gK b
 | .slice _ a b c d => a.slots ++ Ag b ++ Ag c ++ Ag d
 | .mm _ xs => gK xs
 | .call f xs | .defer f xs => f.slots ++ gK xs
def aK.reads (o : aK) : List Nat := o.op.slots ++ (match o.guard with | some (g, _) => [g] | none => []) ++ (o.chk.flatMap fun c => c.a.slots)
def vL.quiet : vL -> Bool
 | .mov _ | .pick _ _ _ | .build _ _ | .bslice _ _ _ _ | .nilchk _ | .bin _ _ _ _ | .un _ _ | .conv _ _ | .mkif _ _ | .mkfn _ _ _ | .faddr _ _ | .field _ _ _ _ | .iaddr _ _ _ | .aaddr _ _ _ _ | .index _ _ | .aindex _ _ _ _ _
 | .ext _ _ | .cap _ | .mm _ _ => true
 | .len c _ => c != .map
 | .tassert _ _ _ _ => true
 | _ => false
def vL.isLoad : vL -> Bool
 | .load _ _ _ => true
 | _ => false
def vL.isCall : vL -> Bool
 | .call _ _ => true
 | _ => false
def vL.isStore : vL -> Bool
 | .store _ _ _ => true
 | _ => false
def vL.isAlloc : vL -> Bool
 | .alloc _ | .box _ _ => true
 | _ => false
def vL.isApp : vL -> Bool
 | .app _ _ _ => true
 | _ => false
def aK.fl (o : aK) : Bool := o.op.isLoad && o.chk.any fun c => c.a == .c .nilp
def aK.free (o : aK) : Bool := o.op.quiet || (o.op.isCall && o.pl) || o.fl
def ML (a b : aK) : Bool :=
 (match a.dst with | some d => !b.reads.contains d && b.dst != some d | none => true) &&
 (match b.dst with | some d => !a.reads.contains d && a.dst != some d | none => true)
def aK.still (o : aK) : Bool :=
 o.op.quiet || o.op.isLoad || (match o.op with
  | .slice _ _ _ _ _ | .lookup _ _ _ _ _ | .len _ _ => true
  | .call _ _ => o.mp
  | _ => false)
def Kq (c l : aK) : Bool :=
 match l.op with
 | .load agg n a => c.chk.contains { agg, n, a } || l.chk.any fun x => c.chk.contains x
 | _ => false
def uE (a b : aK) : Bool :=
 ML a b && (a.free || b.free || (a.still && b.still) || (a.op.isLoad && (b.op.isCall || b.op.isStore) && Kq b a) || ((a.op.isCall || a.op.isStore) && b.op.isLoad && Kq a b) || (a.op.isLoad && b.op.isAlloc) || (a.op.isLoad && b.op.isApp) || (a.op.isApp && b.op.isLoad))
def BN (o : Oper) : List Nat := (o.after.toList.filter (Region.binds .any ·)).map (·.on)
def Vc (a : Nat) (l : List Nat) : List Nat := if l.contains a then l else a :: l
def rB (cops : List Oper) : List (List Nat) :=
 cops.foldl (fun acc o => acc ++ [(BN o).foldl (fun l d => (d :: acc.getD d []).foldr Vc l) []]) []
def u7 (ah : List (List Nat)) : Nat -> List Oper -> Bool
 | _, [] => true
 | i, o :: r => (ah.getD i []).all (fun j => (BN o).contains j || (BN o).any fun d => (ah.getD d []).contains j) && u7 ah (i + 1) r
def vi : Nat -> List Oper -> Bool
 | _, [] => true
 | i, o :: r => (BN o).all (fun j => decide (j < i)) && vi (i + 1) r
def OT (ah : List (List Nat)) (ios : List aK) : Bool :=
 (List.range ios.length).all fun j => (List.range j).all fun i => (ah.getD j []).contains i || uE (ios.getD i default) (ios.getD j default)
def M6 (cops : List Oper) (ios : List aK) : Bool :=
 vi 0 cops && u7 (rB cops) 0 cops && OT (rB cops) ios
def GY (ah : List (List Nat)) (ios : List aK) (p q : Nat) : List Nat -> Bool
 | [] => true
 | y :: r => (r.all fun z => (ah.getD z []).contains y || uE (ios.getD y default) (ios.getD z default) || (y == q && z == p)) && !r.contains y && GY ah ios p q r
def KV (ord : List Nat) (p q : Nat) (cops : List Oper) (ios : List aK) : Bool :=
 vi 0 cops && u7 (rB cops) 0 cops && GY (rB cops) ios q p (List.range ios.length) && GY (rB cops) ios p q ord && ord.isPerm (List.range ios.length)
def cQ (P : Program) (L : eB) (N : Nat) (vars : List Nat) (ic : ae) (c : Code) : Bool :=
 match c with
 | .skip | .label _ => (match ic with | .skip => true | _ => false)
 | .region _ cops draw => (match ic with
  | .region ops keep draw' => draw == draw' && nA P L N cops cops.toList ops && keep.all (vars.contains ·) && ops.all (fun o => match o.dst with | some d => keep.contains d || !vars.contains d | none => true) &&
    (!draw || (P.follows .mixedOrders && M6 cops.toList ops))
  | .alt ord p q _ ops keep .skip _ => draw && nA P L N cops cops.toList ops && keep.all (vars.contains ·) && ops.all (fun o => match o.dst with | some d => keep.contains d || !vars.contains d | none => true) &&
    (P.follows .mixedOrders && KV ord p q cops.toList ops)
  | _ => false)
 | .seq a b => (match ic with
  | .seq a' b' => cQ P L N vars a' a && cQ P L N vars b' b
  | .alt ord p q _ ops keep rest _ => (match a with
   | .region _ cops true => nA P L N cops cops.toList ops && keep.all (vars.contains ·) && ops.all (fun o => match o.dst with | some d => keep.contains d || !vars.contains d | none => true) &&
    (P.follows .mixedOrders && KV ord p q cops.toList ops) && cQ P L N vars rest b
   | _ => false)
  | _ => false)
 | .cond x a b => (match ic with | .cond x' a' b' => bL L x x' && cQ P L N vars a' a && cQ P L N vars b' b | _ => false)
 | .block id b => (match ic with | .block id' b' => id == id' && cQ P L N vars b' b | _ => false)
 | .loop b => (match ic with | .loop _ b' => cQ P L N vars b' b | _ => false)
 | .rangeFunc f ps a b => (match ic with
  | .rangeFn f' ps' a' b' => bL L f f' && ps.toList == ps' && ps'.all (fun p => decide (p < N) && vars.contains p) && cQ P L N vars a' a && cQ P L N vars b' b
  | _ => false)
 | .exit id => (match ic with | .exit id' => id == id' | _ => false)
 | .ret => (match ic with | .ret => true | _ => false)
 | .scope b => cQ P L N vars ic b
 | .goto _ | .refuse _ => false
def vA (P : Program) (L : eB) : eR := fun N vars ic c => cQ P L N vars ic c = true
def dP (B : Frame) (tm : Array Value) (df : List Deferred) (todo : List Item) : Frame := { B with tmps := tm, defers := df, todo := todo, mode := .run }
section steps
variable {P : Program} {B : Frame} {tm : Array Value} {df : List Deferred} {k : List Item} {cs : List Frame} {w : World}
def lX (tm : Array Value) : Operand -> Value
 | .tmp t => tm.getD t undef
 | .const v => v
 | .global g => .pointer (some ⟨g, 0, none⟩)
 | .func f => .func (.func f) #[] #[]
theorem DU : (dP B tm df k).eval = lX tm := by funext x; cases x <;> rfl
theorem TW : step P (lone (dP B tm df (.code .skip :: k)) cs w) = .next (lone (dP B tm df k) cs w) := step_lone_go (by simp [stepG, stepG.exec, dP])
theorem SD {l : Nat} : step P (lone (dP B tm df (.code (.label l) :: k)) cs w) = .next (lone (dP B tm df k) cs w) := step_lone_go (by simp [stepG, stepG.exec, dP])
theorem PU {id : Nat} : step P (lone (dP B tm df (.inBlock id :: k)) cs w) = .next (lone (dP B tm df k) cs w) := step_lone_go (by simp [stepG, stepG.exec, dP])
theorem PV {b : Code} : step P (lone (dP B tm df (.inScope b :: k)) cs w) = .next (lone (dP B tm df k) cs w) := step_lone_go (by simp [stepG, stepG.exec, dP])
theorem Rl {x y : Code} : step P (lone (dP B tm df (.code (.seq x y) :: k)) cs w) = .next (lone (dP B tm df (.code x :: .code y :: k)) cs w) := step_lone_go (by simp [stepG, stepG.exec, dP])
theorem Ri {c : Operand} {x y : Code} {t : Bool} (h : lX tm c = .bool t) :
  step P (lone (dP B tm df (.code (.cond c x y) :: k)) cs w) = .next (lone (dP B tm df (.code (if t then x else y) :: k)) cs w) :=
 step_lone_go (by
  have := congrFun (DU (B := B) (tm := tm) (df := df) (k := .code (.cond c x y) :: k)) c
  simp only [dP] at this
  simp [stepG, stepG.exec, dP, this, h])
theorem Dm {id : Nat} {c : Code} : step P (lone (dP B tm df (.code (.block id c) :: k)) cs w) = .next (lone (dP B tm df (.code c :: .inBlock id :: k)) cs w) := step_lone_go (by simp [stepG, stepG.exec, dP])
theorem TV {c : Code} : step P (lone (dP B tm df (.code (.loop c) :: k)) cs w) = .next (lone (dP B tm df (.code c :: .inLoop c :: k)) cs w) := step_lone_go (by simp [stepG, stepG.exec, dP])
theorem Rj {c : Code} : step P (lone (dP B tm df (.inLoop c :: k)) cs w) = .next (lone (dP B tm df (.code c :: .inLoop c :: k)) cs w) := step_lone_go (by simp [stepG, stepG.exec, dP])
theorem FE {c : Code} : step P (lone (dP B tm df (.code (.scope c) :: k)) cs w) = .next (lone (dP B tm df (.code c :: .inScope c :: k)) cs w) := step_lone_go (by simp [stepG, stepG.exec, dP])
theorem TU {id : Nat} {k' : List Item} (h : exitTo id k = some k') : step P (lone (dP B tm df (.code (.exit id) :: k)) cs w) = .next (lone (dP B tm df k') cs w) := step_lone_go (by simp [stepG, stepG.exec, dP, h])
theorem Rk {id : Nat} {ops : Array Oper} : step P (lone (dP B tm df (.code (.region id ops false) :: k)) cs w) = .next (lone (dP B tm df (.inRegion ops (List.range ops.size) :: k)) cs w) :=
 step_lone_go (by simp [stepG, stepG.exec, dP])
theorem BR {id : Nat} {ops : Array Oper} : step P (lone (dP B tm df (.code (.region id ops true) :: k)) cs w) =
  .next (lone (dP B tm df (.inRegion ops (Region.schedule (P.follows .mixedOrders) ops (w.tape w.drawn (.order B.fn id))) :: k)) cs { w with drawn := w.drawn + 1 }) :=
 step_lone_go (by simp [stepG, stepG.exec, dP, choose, Sem.run, Question.forced, Question.cut])
theorem Kt {ops : Array Oper} : step P (lone (dP B tm df (.inRegion ops [] :: k)) cs w) = .next (lone (dP B tm df k) cs w) := step_lone_go (by simp [stepG, stepG.exec, dP])
def Cj (tm : Array Value) (d : Option Nat) (v : Value) : Array Value := match d with | some d => tm.setIfInBounds d v | none => tm
theorem uh {ops : Array Oper} {i : Nat} {rest : List Nat} {o : Oper} (ho : ops[i]? = some o) (v : Value) :
  (dP B tm df (.inRegion ops (i :: rest) :: k)).finish v = dP B (Cj tm o.dst v) df (.inRegion ops rest :: k) := by
 simp only [Frame.finish, dP, ho, Option.bind_some, Cj]
 cases o.dst <;> rfl
theorem PX {ops : Array Oper} {i : Nat} {rest : List Nat} {o : Oper} (ho : ops[i]? = some o) (hw : Region.wanted o (yielded ops tm) = false) :
  step P (lone (dP B tm df (.inRegion ops (i :: rest) :: k)) cs w) = .next (lone (dP B (Cj tm o.dst undef) df (.inRegion ops rest :: k)) cs w) := by
 rw [<- uh ho]
 exact step_lone_go (by simp [stepG, stepG.exec, dP, ho, hw])
theorem PW {ops : Array Oper} {i : Nat} {rest : List Nat} {o : Oper} (ho : ops[i]? = some o) (hw : Region.wanted o (yielded ops tm) = true) (hd : B.roundOf = none \/ ∀ c, o.op ≠ .defer c) :
  stepG P true { frame := dP B tm df (.inRegion ops (i :: rest) :: k), callers := cs, status := .running, dying := none } w =
   stepG.apply P true (dP B tm df (.inRegion ops (i :: rest) :: k)) cs none (execOp (lX tm) o) w := by
 have he := DU (B := B) (tm := tm) (df := df) (k := .inRegion ops (i :: rest) :: k)
 simp only [dP] at he
 have hop : (dP B tm df (.inRegion ops (i :: rest) :: k)).oper? = some o := by simp [Frame.oper?, dP, ho]
 simp only [dP] at hop
 simp only [stepG, stepG.exec, dP, ho, Option.map_some, hw, Option.getD_some, if_true, stepG.oper, hop, he]
 rcases hd with hd | hd
 ·rw [hd]
 ·split
  ·rename_i c h1 h2; exact absurd h2 (hd c)
  ·rfl
theorem NO {ops : Array Oper} {i : Nat} {rest : List Nat} {o : Oper} (ho : ops[i]? = some o) (hw : Region.wanted o (yielded ops tm) = true) (hd : B.roundOf = none \/ ∀ c, o.op ≠ .defer c) {nx : Next} {v : Value} {w' : World}
  (hr : (execOp (lX tm) o).run P w = .ok nx w') (hn : nx = .value v \/ (nx = .skip /\ v = undef)) :
  step P (lone (dP B tm df (.inRegion ops (i :: rest) :: k)) cs w) = .next (lone (dP B (Cj tm o.dst v) df (.inRegion ops rest :: k)) cs w') := by
 rw [<- uh ho]
 refine step_lone_go ?_
 rw [PW ho hw hd]
 rcases hn with rfl | ⟨rfl, rfl⟩ <;> simp [stepG.apply, hr]
theorem Hb {ops : Array Oper} {i : Nat} {rest : List Nat} {o : Oper} (ho : ops[i]? = some o) (hw : Region.wanted o (yielded ops tm) = true) (hd : B.roundOf = none \/ ∀ c, o.op ≠ .defer c) {f : FuncId} {args : Array Value} {w' : World}
  (hr : (execOp (lX tm) o).run P w = .ok (.enter f args) w') :
  step P (lone (dP B tm df (.inRegion ops (i :: rest) :: k)) cs w) = .next (lone (Frame.enter P f args .normal) (dP B tm df (.inRegion ops (i :: rest) :: k) :: cs) w') := by
 refine step_lone_go ?_
 rw [PW ho hw hd]
 simp [stepG.apply, hr, dP]
theorem Hc {ops : Array Oper} {i : Nat} {rest : List Nat} {o : Oper} (ho : ops[i]? = some o) (hw : Region.wanted o (yielded ops tm) = true) (hd : B.roundOf = none \/ ∀ c, o.op ≠ .defer c) {l : Nat} {f : FuncId} {tms : Array Value} {a b : Code} {w' : World}
  (hr : (execOp (lX tm) o).run P w = .ok (.round l f tms a b) w') :
  step P (lone (dP B tm df (.inRegion ops (i :: rest) :: k)) cs w) = .next (lone (Frame.round l f tms a b .normal) (dP B tm df (.inRegion ops (i :: rest) :: k) :: cs) w') := by
 refine step_lone_go ?_
 rw [PW ho hw hd]
 simp [stepG.apply, hr]
theorem NN {ops : Array Oper} {i : Nat} {rest : List Nat} {o : Oper} (ho : ops[i]? = some o) (hw : Region.wanted o (yielded ops tm) = true) (hd : B.roundOf = none \/ ∀ c, o.op ≠ .defer c) {v : Value} {w' : World}
  (hr : (execOp (lX tm) o).run P w = .halt (.panic v) w') :
  step P (lone (dP B tm df (.inRegion ops (i :: rest) :: k)) cs w) = .next (lone { dP B tm df (.inRegion ops (i :: rest) :: k) with mode := .panicking [{ v, recovered := false }] } cs w') := by
 refine step_lone_go ?_
 rw [PW ho hw hd]
 simp [stepG.apply, hr, dP, Frame.raise]
theorem NM {ops : Array Oper} {i : Nat} {rest : List Nat} {o : Oper} (ho : ops[i]? = some o) (hw : Region.wanted o (yielded ops tm) = true) (hd : B.roundOf = none) {d : Deferred} {w' : World}
  (hr : (execOp (lX tm) o).run P w = .ok (.defer d) w') :
  step P (lone (dP B tm df (.inRegion ops (i :: rest) :: k)) cs w) = .next (lone (dP B (Cj tm o.dst undef) (d :: df) (.inRegion ops rest :: k)) cs w') := by
 rw [<- uh ho]
 refine step_lone_go ?_
 rw [PW ho hw (.inl hd)]
 simp only [stepG.apply, Sem.runT_eq, hr, if_true, GStep.bare_after, GStep.bare_go]
 rfl
end steps
end Ab
