/- TopCellsOnAir: what is told of a table that is valid. -/
import Derived.Test.YtpkljgaokgfpnaaGreatDoorLoopB
set_option maxRecDepth 1000000
set_option linter.unusedVariables false
set_option linter.unusedSimpArgs false
set_option linter.unusedSectionVars false
namespace Go.Am.Cells
open Go Go.Am
theorem t5 (u g a : List (List AV)) (f1 f2 f3 : Bool) (n d : Int) (K : AV → Prop) (hu : short u = true) (hg : short g = true) (ha : short a = true) (wu : u.all (wf 4) = true) (wg : g.all (wf 5) = true) (wa : a.all (wf 3) = true)
    (hK : ∀ b, (b = true → layoutV n d = true ∧ u.all (useE n d) = true ∧ g.all (grantE n d) = true) → K (.bool b)) : ATold C 5 [.agg [.lst u f1, .lst g f2, .lst a f3], .agg [.i n, .i d]] K := by
  refine atold_val hC mixed S5ok (n := 1000) rfl ?_
  rw [vcf5 _ _ _ _ _ _ _ _ (fun u => idfree u = true ∧ K u)]
  have hF : K (.bool false) := hK false (fun h => by cases h)
  simp only [cas_iff, req_iff, hu, hg, ha, wu, wg, wa, hF, idfree, and_true, true_and, Bool.and_eq_true, decide_eq_true_eq, Bool.not_eq_true', beq_iff_eq, implies_true]
  intro hl _ _
  have hlay := hl
  simp only [layoutV, Bool.not_eq_false', Bool.and_eq_true, decide_eq_true_eq] at hl
  refine ⟨⟨by omega, by omega⟩, ⟨by omega, by omega⟩, ⟨⟨by simp, by omega⟩, okCs_repl _⟩, fun cs hcs hu' => ⟨⟨⟨by simp, by omega⟩, hcs⟩, fun cs' hcs' hg' => ⟨⟨⟨by simp, by omega⟩, hcs'⟩, fun cs2 hcs2 _ => ⟨⟨⟨by simp, Nat.ble_eq_true_of_le (by omega)⟩, hcs2⟩, hK true fun _ => ⟨by simpa using hlay, hu', hg'⟩⟩⟩⟩⟩

end Go.Am.Cells
