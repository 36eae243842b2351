/- The card of FormatValues. Its condition: what the given card and row say. -/
import Derived.Test.YtcbbpkdidkbepaaDoorAb12
import Derived.Test.YtcbbpkdidkbepaaDoorAb14
import Derived.Test.YtcbbpkdidkbepaaDoorCards
import Derived.Test.YtcbbpkdidkbepaaDoorTie
import Derived.SevenTiedAt
set_option linter.all false
namespace Go.Proofs.YtcbbpkdidkbepaaDoor
open Ab
set_option linter.constructorNameAsVariable false
set_option maxRecDepth 100000
theorem look39 : (match Tryd.prog.underlying 39 with | some (.struct fs) => fs.toList.map (·.type) == [3, 9, 22] | _ => false) = true := by kernel_rfl
theorem und39 : ∃ fs, Tryd.prog.underlying 39 = some (.struct fs) ∧ fs.toList.map (·.type) = [3, 9, 22] := by
  have h := look39
  split at h
  · rename_i fs hfs
    exact ⟨fs, hfs, by simpa using h⟩
  · cases h
theorem und3 : Tryd.prog.underlying 3 = some (.int .i64) := by kernel_rfl
theorem und9 : Tryd.prog.underlying 9 = some .string := by kernel_rfl
theorem cells39 : Tryd.prog.cellsOf 39 = 3 := by kernel_rfl
theorem list22 {x : AV} (h : Of Tryd.prog 22 [x]) : ∃ us, Sl us x := by
  obtain ⟨fs, hs, hf⟩ := und39
  obtain ⟨us, o, ys, e, h1, h2⟩ := (terms_of und22 hs hf und3 und9 cells39 h).1 rfl
  cases e
  exact ⟨us, o, ys, rfl, h1, h2⟩
theorem valuesRun (x y z : AV) (hx : Of Tryd.prog 22 [x]) (hy : Of Tryd.prog 22 [y]) (hz : Of Tryd.prog 22 [z]) : ∃ n rd s', callA E0 n none (.fn 4 [] []) [x, y, z] st0 = some (.ret (.bool true), rd, s') := by
  obtain ⟨f, hf⟩ := list22 hx
  obtain ⟨g, hg⟩ := list22 hy
  obtain ⟨h, hh⟩ := list22 hz
  have hE : E0.fns = Table.fn R.table := rfl
  obtain ⟨K, hK⟩ := R.fn_FormatValues hE (R.primI hE) hf hg hh
  exact ⟨K, false, st0, hK K (Nat.le_refl _) st0⟩
theorem card (law : ∀ x y z, Of Tryd.prog 22 [x] → Of Tryd.prog 22 [y] → Of Tryd.prog 22 [z] → ∃ n rd s', callA E0 n none (.fn 4 [] []) [x, y, z] st0 = some (.ret (.bool true), rd, s')) : Rows.FormatValuesCardSaid :=
  Claim7.holds_tied_plain_at .later [] [.data, .data, .data] true (true, "cd966aee93271f6956aea510dbc8270b7c3e9d87197ccc114c3cdc8e8aebb54d") false
    (over law) (fun _ h => by cases h) (by kernel_rfl) (fun _ h => by cases h) formatValues_row_tie rfl ⟨rfl, rfl⟩ (by kernel_rfl) rfl
    (fun f fn hf hfn => by
      obtain rfl : f = 4 := Option.some.inj ((show Tryd.prog.funcNamed "chiasmus/chiasmuslaw22.FormatValues" = some 4 by kernel_rfl).symm.trans hf) |>.symm
      obtain rfl : fn = Tryd.f4 := (Option.some.inj (Tryd.func4.symm.trans hfn)).symm
      exact ⟨by kernel_rfl, fun j t ht => by
        rw [Tryd.params4] at ht
        have h3 : t = 22 := by
          rcases j with _ | _ | _ | j <;> simp at ht <;> exact ht.symm
        subst h3
        exact (show Tryd.prog.wantsStandIn 22 = false by kernel_rfl)⟩)
    (by kernel_rfl)
theorem formatValues_holds : Rows.FormatValuesCardSaid := card valuesRun
end Go.Proofs.YtcbbpkdidkbepaaDoor
