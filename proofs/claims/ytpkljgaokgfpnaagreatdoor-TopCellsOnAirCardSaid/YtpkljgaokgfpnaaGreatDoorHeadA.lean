/- TopCellsOnAir: the check that the law begins with: how its run is cut. -/
import Derived.Test.YtpkljgaokgfpnaaGreatDoorBase
import Derived.Test.YtpkljgaokgfpnaaGreatDoorAmMapLoop
import Derived.Test.YtpkljgaokgfpnaaGreatDoorAmL
set_option maxRecDepth 1000000
set_option linter.unusedVariables false
set_option linter.unusedSimpArgs false
set_option linter.unusedSectionVars false
namespace Go.Am.Cells
open Go Go.Am
def O0 : Orac := fun _ _ _ => none
noncomputable def O1 : Orac := fun f args h => (match f with | 67 => evValid C O0 3000 67 args h | _ => none)
theorem O1_ok : ∀ f args h r h' (R : AR), O1 f args h = some (r, h') → R r h' → ACalls C f args h R := by
  intro f args h r h' R ho hr
  unfold O1 at ho
  split at ho
  · exact evValid_ok hC mixed (O := O0) (fun _ _ _ _ _ _ hx => by cases hx) ho hr
  · cases ho
def sameO : AObj → AObj → Bool
  | .cells a, .cells b => AV.sameL a b
  | _, _ => false
theorem sameO_eq {a b : AObj} (h : sameO a b = true) : a = b := by
  unfold sameO at h
  split at h
  · rw [AV.sameL_eq h]
  · cases h
def subB (h : AH) : List (Nat × AObj) → Bool
  | [] => true
  | (i, o) :: l => (match h.get i with | some o' => sameO o' o | none => false) && subB h l
theorem subB_ok {h : AH} : ∀ {l : List (Nat × AObj)}, subB h l = true → ∀ j o, (mkHT l).get j = some o → h.get j = some o
  | [], _, j, o, hg => by simp [mkHT, Tr.get] at hg
  | (i, o') :: l, hs, j, o, hg => by
    simp only [subB, Bool.and_eq_true] at hs
    simp only [mkHT, Tr.get_set] at hg
    split at hg
    · rename_i e
      injection hg with hg; subst hg; subst e
      have h1 := hs.1
      split at h1
      · rename_i o2 ho2; rw [ho2, sameO_eq h1]
      · cases h1
    · exact subB_ok hs.2 j o hg
def okRun (M : Nat) (q : List (Nat × AObj)) : Option (AEnd × AH) → Bool
  | some (.ret (.tup []), h) => Nat.beq h.next M && subB h q
  | _ => false
theorem acalls_pre {C : Ctx} {f : FuncId} {args : List AV} {R : AR} {h h0 : AH} (ho : ∀ j o, h0.get j = some o → h.get j = some o) (hnx : h0.next = h.next) (hs : ACalls C f args h0 R) : ACalls C f args h R := by
  intro μ w vs hr hG hv
  have hr0 : Rel μ h0 w := hr.sub (by omega) ho
  refine (hs μ w vs hr0 hG hv).mono ?_
  rintro x w' ⟨r, h', μ', g1, g2, g3⟩
  exact ⟨r, h', μ', g1, ⟨g2.rel, g2.le, g2.os, g2.tape, g2.output, g2.size, by rw [← hnx]; exact g2.next, fun id hid => g2.res id (by rw [hnx]; exact hid), fun b hb hf hno => g2.frame b hb hf fun hown => hno (hown.sub ho)⟩, g3⟩
theorem acalls_weaken {C : Ctx} {f : FuncId} {args : List AV} {R R' : AR} {h : AH} (hs : ACalls C f args h R') (hq : ∀ r h1, R' r h1 → ∃ h2, h1.next ≤ h2.next ∧ (∀ id o, h2.get id = some o → h1.get id = some o) ∧ R r h2) : ACalls C f args h R := by
  intro μ w vs hr hG hv
  refine (hs μ w vs hr hG hv).mono ?_
  rintro x w' ⟨r, h', μ', g1, g2, g3⟩
  obtain ⟨h2, k1, k2, k3⟩ := hq _ _ g3
  exact ⟨r, h2, μ', g1, g2.sub k1 k2, k3⟩
theorem okRun_ok {O : Orac} (hO : ∀ f args h r h' (R : AR), O f args h = some (r, h') → R r h' → ACalls C f args h R) {M n f : Nat} {q : List (Nat × AObj)} {args : List AV} {h : AH} (hrun : okRun M q (evF C O n f args h) = true) {R : AR} (hR : R (.ret (.tup [])) (mkH M q)) : ACalls C f args h R := by
  unfold okRun at hrun
  split at hrun
  · rename_i h1 he
    simp only [Bool.and_eq_true] at hrun
    obtain ⟨k1, k2⟩ := hrun
    have k1 := Nat.eq_of_beq_eq_true k1
    refine acalls_weaken (R' := fun r h2 => r = .ret (.tup []) ∧ h2 = h1) ((evOk hC mixed hO n).f _ _ _ _ _ _ he ⟨rfl, rfl⟩) ?_
    rintro r h2 ⟨rfl, rfl⟩
    exact ⟨mkH M q, by simp [mkH, k1], fun id o hg => subB_ok k2 id o hg, hR⟩
  · cases hrun
def a0 : List AV := [.ptr 16 0, .sl 21 0 2 2 none, .sl 22 0 2 2 none]
def s0 : List (Nat × AObj) := [(16, .cells [.i (2), .i (4), .sl 3 0 2 2 none, .sl 12 0 2 2 none, .sl 14 0 2 2 none, .i 0]), (3, .cells [.sl 1 0 2 2 none, .sl 2 0 2 2 none]), (1, .cells [.bool false, .bool true]), (2, .cells [.bool true, .bool false]), (12, .cells [.snil, .snil, .snil, .snil, .snil, .snil]), (14, .cells [.snil, .snil]), (21, .cells [.i (-1), .i 0]), (22, .cells [.i 0, .i (1)])]
def q0 : List (Nat × AObj) := [(16, .cells [.i (2), .i (4), .sl 3 0 2 2 none, .sl 12 0 2 2 none, .sl 14 0 2 2 none, .i (1)]), (3, .cells [.sl 1 0 2 2 none, .sl 2 0 2 2 none]), (1, .cells [.bool false, .bool true]), (2, .cells [.bool true, .bool false]), (12, .cells [.snil, .snil, .snil, .snil, .snil, .sl 2938 0 1 1 (some 3)]), (2938, .cells [.i (1), .i (4), .i 0]), (14, .cells [.sl 827 0 1 1 (some 31), .sl 361 0 1 1 (some 31)]), (827, .cells [.i 0, .i (1), .i 0, .i 0, .i 0, .i 0, .i 0, .i 0, .i 0, .i 0, .i 0, .i 0, .snil, .snil, .snil, .snil, .bool false, .snil, .snil, .snil, .i 0, .i 0, .int .u64 (0), .i 0, .i 0, .i 0, .i 0, .i 0, .snil, .snil, .bool false]), (361, .cells [.i 0, .i 0, .i 0, .i 0, .i 0, .i 0, .i 0, .i 0, .i 0, .i 0, .i 0, .i 0, .snil, .snil, .snil, .snil, .bool false, .snil, .snil, .snil, .i 0, .i 0, .int .u64 (0), .i 0, .i 0, .i 0, .i 0, .i 0, .snil, .snil, .bool false])]
def a1 : List AV := [.ptr 16 0, .sl 3054 0 2 2 none, .sl 3055 0 2 2 none]
def s1 : List (Nat × AObj) := [(16, .cells [.i (2), .i (4), .sl 3 0 2 2 none, .sl 12 0 2 2 none, .sl 14 0 2 2 none, .i (1)]), (3, .cells [.sl 1 0 2 2 none, .sl 2 0 2 2 none]), (1, .cells [.bool false, .bool true]), (2, .cells [.bool true, .bool false]), (12, .cells [.snil, .snil, .snil, .snil, .snil, .sl 2938 0 1 1 (some 3)]), (2938, .cells [.i (1), .i (4), .i 0]), (14, .cells [.sl 827 0 1 1 (some 31), .sl 361 0 1 1 (some 31)]), (827, .cells [.i 0, .i (1), .i 0, .i 0, .i 0, .i 0, .i 0, .i 0, .i 0, .i 0, .i 0, .i 0, .snil, .snil, .snil, .snil, .bool false, .snil, .snil, .snil, .i 0, .i 0, .int .u64 (0), .i 0, .i 0, .i 0, .i 0, .i 0, .snil, .snil, .bool false]), (361, .cells [.i 0, .i 0, .i 0, .i 0, .i 0, .i 0, .i 0, .i 0, .i 0, .i 0, .i 0, .i 0, .snil, .snil, .snil, .snil, .bool false, .snil, .snil, .snil, .i 0, .i 0, .int .u64 (0), .i 0, .i 0, .i 0, .i 0, .i 0, .snil, .snil, .bool false]), (3054, .cells [.i (-1), .i 0]), (3055, .cells [.i 0, .i (1)])]
def q1 : List (Nat × AObj) := [(16, .cells [.i (2), .i (4), .sl 3 0 2 2 none, .sl 12 0 2 2 none, .sl 14 0 2 2 none, .i (2)]), (3, .cells [.sl 1 0 2 2 none, .sl 2 0 2 2 none]), (1, .cells [.bool false, .bool true]), (2, .cells [.bool true, .bool false]), (12, .cells [.snil, .sl 5242 0 1 1 (some 5), .snil, .snil, .snil, .sl 7269 0 1 1 (some 3)]), (5242, .cells [.i (1), .i (4), .i (1), .i (1), .i (9)]), (7269, .cells [.i (1), .i (4), .i 0]), (14, .cells [.sl 4179 0 1 1 (some 31), .sl 3546 0 1 1 (some 31)]), (4179, .cells [.i (1), .i (1), .i 0, .i 0, .i 0, .i 0, .i 0, .i 0, .i 0, .i 0, .i 0, .i 0, .snil, .snil, .sl 2938 0 1 1 (some 3), .snil, .bool false, .snil, .snil, .snil, .i 0, .i 0, .int .u64 (0), .i 0, .i 0, .i 0, .i 0, .i 0, .snil, .snil, .bool false]), (2938, .cells [.i (1), .i (4), .i 0]), (3546, .cells [.i (1), .i 0, .i 0, .i 0, .i 0, .i 0, .i 0, .i 0, .i 0, .i 0, .i 0, .i 0, .snil, .snil, .snil, .snil, .bool false, .snil, .snil, .snil, .i 0, .i 0, .int .u64 (0), .i 0, .i 0, .i 0, .i 0, .i 0, .snil, .snil, .bool false])]
def a2 : List AV := [.ptr 16 0, .sl 7412 0 2 2 none, .sl 7413 0 2 2 none]
def s2 : List (Nat × AObj) := [(16, .cells [.i (2), .i (4), .sl 3 0 2 2 none, .sl 12 0 2 2 none, .sl 14 0 2 2 none, .i (2)]), (3, .cells [.sl 1 0 2 2 none, .sl 2 0 2 2 none]), (1, .cells [.bool false, .bool true]), (2, .cells [.bool true, .bool false]), (12, .cells [.snil, .sl 5242 0 1 1 (some 5), .snil, .snil, .snil, .sl 7269 0 1 1 (some 3)]), (5242, .cells [.i (1), .i (4), .i (1), .i (1), .i (9)]), (7269, .cells [.i (1), .i (4), .i 0]), (14, .cells [.sl 4179 0 1 1 (some 31), .sl 3546 0 1 1 (some 31)]), (4179, .cells [.i (1), .i (1), .i 0, .i 0, .i 0, .i 0, .i 0, .i 0, .i 0, .i 0, .i 0, .i 0, .snil, .snil, .sl 2938 0 1 1 (some 3), .snil, .bool false, .snil, .snil, .snil, .i 0, .i 0, .int .u64 (0), .i 0, .i 0, .i 0, .i 0, .i 0, .snil, .snil, .bool false]), (2938, .cells [.i (1), .i (4), .i 0]), (3546, .cells [.i (1), .i 0, .i 0, .i 0, .i 0, .i 0, .i 0, .i 0, .i 0, .i 0, .i 0, .i 0, .snil, .snil, .snil, .snil, .bool false, .snil, .snil, .snil, .i 0, .i 0, .int .u64 (0), .i 0, .i 0, .i 0, .i 0, .i 0, .snil, .snil, .bool false]), (7412, .cells [.i (-1), .i 0]), (7413, .cells [.i 0, .i (1)])]
def q2 : List (Nat × AObj) := [(16, .cells [.i (2), .i (4), .sl 3 0 2 2 none, .sl 12 0 2 2 none, .sl 14 0 2 2 none, .i (3)]), (3, .cells [.sl 1 0 2 2 none, .sl 2 0 2 2 none]), (1, .cells [.bool false, .bool true]), (2, .cells [.bool true, .bool false]), (12, .cells [.snil, .sl 10381 0 1 1 (some 5), .snil, .sl 11980 0 1 1 (some 4), .snil, .sl 13044 0 1 1 (some 3)]), (10381, .cells [.i (1), .i (4), .i (1), .i (1), .i (10)]), (11980, .cells [.i (1), .i (4), .i 0, .i (1)]), (13044, .cells [.i (3), .i (6), .i 0]), (14, .cells [.sl 9507 0 1 1 (some 31), .sl 8103 0 1 1 (some 31)]), (9507, .cells [.i (2), .i (1), .i 0, .i 0, .i 0, .i 0, .i 0, .i 0, .i 0, .i 0, .i 0, .i 0, .sl 9289 0 1 1 (some 4), .snil, .sl 9357 0 0 1 (some 3), .snil, .bool false, .snil, .snil, .snil, .i 0, .i 0, .int .u64 (0), .i 0, .i 0, .i 0, .i 0, .i 0, .snil, .snil, .bool false]), (9289, .cells [.i (1), .i (4), .i 0, .i (1)]), (9357, .cells [.i 0, .i 0, .i 0]), (8103, .cells [.i (2), .i 0, .i 0, .i 0, .i 0, .i 0, .i 0, .i 0, .i 0, .i 0, .i 0, .i 0, .snil, .sl 5242 0 1 1 (some 5), .snil, .snil, .bool false, .snil, .snil, .snil, .i 0, .i 0, .int .u64 (0), .i 0, .i 0, .i 0, .i 0, .i 0, .snil, .snil, .bool false]), (5242, .cells [.i (1), .i (4), .i (1), .i (1), .i (9)])]
end Go.Am.Cells
