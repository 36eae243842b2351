/- The closed facts of a row, part by part (a great seat: each part a declaration of its own). No condition. -/
import Derived.JoinedCond
set_option linter.all false
set_option maxHeartbeats 8000000
namespace Ab
open Go
theorem Kd {P : Program} {f : FuncId} {fn : Func} {s : ChangeSpec} {c : OpenClaim}
  (a : (c.wf (OpenSpec.ofChange s) && laidOutB P && mapsRowed P && fn.params.all (P.readableRec ·) && namedTie P c.named s.vars && (c.stops == []) && (P.stops == []) && (c.knobs == []) && (P.stopKnobs == [])) = true)
  (b1 : P.inPlace f = c.inPlace) (b2 : P.unfollowed f = true) (b2' : c.unfollowed = true) (b3 : c.recurses = true) (b4 : P.varsNamed f = c.named)
  (d1 : ((c.maps == (fn.params.toList ++ s.plain.varTypes P).any (P.mapsRec ·)) && (c.ifaces == (fn.params.toList ++ s.plain.varTypes P).any (P.ifacesRec ·)) && (c.mapsOut == P.mapsAmong fn.resultTypes.toList)) = true)
  (d2 : ((c.loops == (fn.params.toList ++ s.plain.varTypes P).any (P.loopsFrom ·)) && (c.wideKeys == (fn.params.toList ++ s.plain.varTypes P ++ fn.resultTypes.toList).any (P.wideKeysFrom ·)) && s.vars.all (P.varReadable ·) && fn.resultTypes.all (fun t => P.readableRec t && decide (t < P.types.size)) && (c.ifacesOut == fn.resultTypes.toList.any (P.ifacesRec ·)) && (c.loopsOut == fn.resultTypes.toList.any (P.loopsFrom ·)) && (c.plainKeys == P.plainKeys) && c.shortTexts.isNone && P.stopsHeard && P.mayEnter && (c.lifted == P.liftsFinal) && (P.make == some c.make) && (c.kinds == (if c.domain.isEmpty then [] else fn.params.toList.map fun t => match P.underlying t with | some (.int k) => some k | _ => none)) && (c.pinned == c.pinnedBy)) = true)
  (d3 : ((c.veiled == (fn.params.toList ++ s.plain.varTypes P ++ fn.resultTypes.toList).any (P.veiledRec ·)) && c.veiledFits P fn.params.toList (fn.params.toList ++ s.plain.varTypes P ++ fn.resultTypes.toList)) = true) : joinedFacts P f fn s c = true := by
 have b1' : (c.inPlace == P.inPlace f) = true := by rw [b1]; exact beq_self_eq_true _
 have b2'' : (c.unfollowed == P.unfollowed f) = true := by rw [b2, b2']; rfl
 have b3' : (c.recurses == P.recurses f) = true := by rw [b3]; unfold Program.recurses; rw [b2]; rfl
 have b4' : (c.named == P.varsNamed f) = true := by rw [b4]; exact beq_self_eq_true _
 unfold joinedFacts
 simp only [Bool.and_eq_true, and_assoc] at a d1 d2 d3 ⊢
 obtain ⟨a1, a2, a3, a4, a5, a6, a7, a8, a9⟩ := a
 obtain ⟨c1, c2, c3⟩ := d1
 obtain ⟨e1, e2, e3, e4, e5, e6, e7, e8, e9, f1, f2, f3, f4, f5⟩ := d2
 obtain ⟨g1, g2⟩ := d3
 exact ⟨a1, a2, a3, a4, a5, a6, a7, a8, a9, b1', b2'', b3', b4', c1, c2, c3, e1, e2, e3, e4, e5, e6, e7, e8, e9, f1, f2, f3, f4, f5, g1, g2⟩
end Ab
