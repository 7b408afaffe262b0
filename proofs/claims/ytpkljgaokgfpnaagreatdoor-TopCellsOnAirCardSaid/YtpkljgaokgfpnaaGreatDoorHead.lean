/- TopCellsOnAir: the check that the law begins with. -/
import Derived.Test.YtpkljgaokgfpnaaGreatDoorHeadB0
import Derived.Test.YtpkljgaokgfpnaaGreatDoorHeadB1
import Derived.Test.YtpkljgaokgfpnaaGreatDoorHeadB2
import Derived.Test.YtpkljgaokgfpnaaGreatDoorAmP
set_option maxRecDepth 1000000
set_option linter.unusedVariables false
set_option linter.unusedSimpArgs false
set_option linter.unusedSectionVars false
namespace Go.Am.Cells
open Go Go.Am
def stepO (N M : Nat) (a : List AV) (s q : List (Nat × AObj)) (args : List AV) (h : AH) (r : Option (AEnd × AH)) : Option (AEnd × AH) :=
  match AV.sameL args a && Nat.beq h.next N && subB h s with
  | true => some (.ret (.tup []), mkH M q)
  | false => r
noncomputable def O2 : Orac := fun f args h => (match f with
  | 14 => stepO 24 3050 a0 s0 q0 args h (stepO 3057 7408 a1 s1 q1 args h (stepO 7415 13156 a2 s2 q2 args h none))
  | f => O1 f args h)
theorem stepO_ok {N M k : Nat} {a : List AV} {s q : List (Nat × AObj)} {args : List AV} {h h' : AH} {r : Option (AEnd × AH)} {x : AEnd} {R : AR} (hrun : okRun M q (evF C O1 k 14 a (mkH N s)) = true) (hr : r = some (x, h') → R x h' → ACalls C 14 args h R) (hs : stepO N M a s q args h r = some (x, h')) (hR : R x h') : ACalls C 14 args h R := by
  unfold stepO at hs
  split at hs
  · rename_i hb
    simp only [Bool.and_eq_true] at hb
    obtain ⟨⟨b1, b2⟩, b3⟩ := hb
    simp only [Option.some.injEq, Prod.mk.injEq] at hs
    obtain ⟨rfl, rfl⟩ := hs
    obtain rfl := AV.sameL_eq b1
    refine acalls_pre (h0 := mkH N s) (fun j o hg => subB_ok b3 j o hg) (Nat.eq_of_beq_eq_true b2).symm (okRun_ok O1_ok hrun hR)
  · exact hr hs hR
theorem O2_ok : ∀ f args h r h' (R : AR), O2 f args h = some (r, h') → R r h' → ACalls C f args h R := by
  intro f args h r h' R ho hr
  unfold O2 at ho
  split at ho
  · exact stepO_ok run0 (fun ho hr => stepO_ok run1 (fun ho hr => stepO_ok run2 (fun ho _ => by cases ho) ho hr) ho hr) ho hr
  · exact O1_ok _ _ _ _ _ _ ho hr
def isTrue : Option (AEnd × AH) → Bool
  | some (.ret (.bool true), _) => true
  | _ => false
theorem head_run : isTrue (evF C O2 100000 4 [] ⟨0, .nil⟩) = true := by kernel_rfl
theorem head : ACalls C 4 [] ⟨0, .nil⟩ (fun r _ => r = .ret (.bool true)) := by
  have h := head_run
  unfold isTrue at h
  split at h
  · rename_i h' he; exact (evOk hC mixed O2_ok 100000).f _ _ _ _ _ _ he rfl
  · cases h
theorem headA : APure C 4 [] (.bool true) := apure_snap rfl (head.mono fun r _ hr => ⟨.bool true, hr, .free _ rfl⟩)
end Go.Am.Cells
