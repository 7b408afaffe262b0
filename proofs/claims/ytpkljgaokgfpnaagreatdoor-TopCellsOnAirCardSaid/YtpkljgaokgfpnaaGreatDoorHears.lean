/- TopCellsOnAir: who hears whom (up to 12 nodes). -/
import Derived.Test.YtpkljgaokgfpnaaGreatDoorLoopB2
import Derived.Test.YtpkljgaokgfpnaaGreatDoorAmM
set_option maxRecDepth 1000000
set_option linter.unusedVariables false
set_option linter.unusedSimpArgs false
set_option linter.unusedSectionVars false
namespace Go.Am.Cells
open Go Go.Am
def sp21 : List AV → Option (Bool × AV)
  | [.lst es _, .func (.func g) [] []] => some (Nat.beq g 22 && short es && es.all (wf 2), .bool !(es.all placeE))
  | _ => none
def P2 (f : FuncId) : Option (List AV → (AV → Prop) → Prop) :=
  match f with
  | 21 => some (dsp sp21)
  | f => P1 f
theorem P2ok : POk P2 := by
  intro f spec h
  unfold P2 at h
  split at h
  · injection h with h; subst h
    refine dsp_ok fun args b v hs hb => ?_
    unfold sp21 at hs
    split at hs <;> simp only [Option.some.injEq, Prod.mk.injEq, reduceCtorEq] at hs
    obtain ⟨h1, rfl⟩ := hs
    subst hb
    simp only [Bool.and_eq_true] at h1
    obtain rfl := Nat.eq_of_beq_eq_true h1.1.1
    exact p21 _ _ h1.1.2 h1.2
  · exact P1ok _ _ h
def S2 : Specs := .plain P2 (fun _ => none)
theorem S2ok : SpecsOk C S2 := .of P2ok rfl rfl (fun _ _ _ h => (by cases h))
def pl : List (Int × Int) → List (List AV)
  | [] => []
  | p :: ps => [.i p.1, .i p.2] :: pl ps
def nr (ps : List (Int × Int)) (r : Int) (i k : Nat) : Bool := nearV (ps.getD i (0, 0)).1 (ps.getD i (0, 0)).2 (ps.getD k (0, 0)).1 (ps.getD k (0, 0)).2 r
def hearsE (ps : List (Int × Int)) (r : Int) (i k : Nat) : Bool := match Nat.beq i k with
  | true => false
  | false => match Nat.ble i k with
    | true => nr ps r i k
    | false => nr ps r k i
def upTo {α : Type} (f : Nat → α) : Nat → Nat → List α
  | 0, _ => []
  | n + 1, i => f i :: upTo f n (i + 1)
def hearsL (ps : List (Int × Int)) (r : Int) : List (List AV) := upTo (fun i => [.lst (upTo (fun k => [.bool (hearsE ps r i k)]) ps.length 0) true]) ps.length 0
def hearsErr : AV := .tup [.lst [] true, .int .i64 1]
def hearsOk (ps : List (Int × Int)) (r : Int) : AV := .tup [.lst (hearsL ps r) true, .int .i64 0]
def hearsQ (ps : List (Int × Int)) (r : Int) (K : Option AV → Prop) : Prop :=
  cas (decide (r ≥ 0)) (cas (!decide (r ≤ 20000)) (K (some hearsErr)) (cas (!((pl ps).all placeE)) (K (some hearsErr)) (K (some (hearsOk ps r))))) (K (some hearsErr))
theorem vch0 ( r : Int) (f : Bool) (K : Option AV → Prop) : wpF C S2 100000 8 [.lst (pl []) f, .i r] (retR fun u h => K (snapF h 100 u)) ⟨0, .nil⟩ = hearsQ [] r K := by kernel_rfl
theorem vch1 (x0 y0 r : Int) (f : Bool) (K : Option AV → Prop) : wpF C S2 100000 8 [.lst (pl [(x0, y0)]) f, .i r] (retR fun u h => K (snapF h 100 u)) ⟨0, .nil⟩ = hearsQ [(x0, y0)] r K := by kernel_rfl
theorem vch2 (x0 y0 x1 y1 r : Int) (f : Bool) (K : Option AV → Prop) : wpF C S2 100000 8 [.lst (pl [(x0, y0), (x1, y1)]) f, .i r] (retR fun u h => K (snapF h 100 u)) ⟨0, .nil⟩ = hearsQ [(x0, y0), (x1, y1)] r K := by kernel_rfl
theorem vch3 (x0 y0 x1 y1 x2 y2 r : Int) (f : Bool) (K : Option AV → Prop) : wpF C S2 100000 8 [.lst (pl [(x0, y0), (x1, y1), (x2, y2)]) f, .i r] (retR fun u h => K (snapF h 100 u)) ⟨0, .nil⟩ = hearsQ [(x0, y0), (x1, y1), (x2, y2)] r K := by kernel_rfl
theorem vch4 (x0 y0 x1 y1 x2 y2 x3 y3 r : Int) (f : Bool) (K : Option AV → Prop) : wpF C S2 100000 8 [.lst (pl [(x0, y0), (x1, y1), (x2, y2), (x3, y3)]) f, .i r] (retR fun u h => K (snapF h 100 u)) ⟨0, .nil⟩ = hearsQ [(x0, y0), (x1, y1), (x2, y2), (x3, y3)] r K := by kernel_rfl
theorem vch5 (x0 y0 x1 y1 x2 y2 x3 y3 x4 y4 r : Int) (f : Bool) (K : Option AV → Prop) : wpF C S2 100000 8 [.lst (pl [(x0, y0), (x1, y1), (x2, y2), (x3, y3), (x4, y4)]) f, .i r] (retR fun u h => K (snapF h 100 u)) ⟨0, .nil⟩ = hearsQ [(x0, y0), (x1, y1), (x2, y2), (x3, y3), (x4, y4)] r K := by kernel_rfl
theorem vch6 (x0 y0 x1 y1 x2 y2 x3 y3 x4 y4 x5 y5 r : Int) (f : Bool) (K : Option AV → Prop) : wpF C S2 100000 8 [.lst (pl [(x0, y0), (x1, y1), (x2, y2), (x3, y3), (x4, y4), (x5, y5)]) f, .i r] (retR fun u h => K (snapF h 100 u)) ⟨0, .nil⟩ = hearsQ [(x0, y0), (x1, y1), (x2, y2), (x3, y3), (x4, y4), (x5, y5)] r K := by kernel_rfl
theorem vch7 (x0 y0 x1 y1 x2 y2 x3 y3 x4 y4 x5 y5 x6 y6 r : Int) (f : Bool) (K : Option AV → Prop) : wpF C S2 100000 8 [.lst (pl [(x0, y0), (x1, y1), (x2, y2), (x3, y3), (x4, y4), (x5, y5), (x6, y6)]) f, .i r] (retR fun u h => K (snapF h 100 u)) ⟨0, .nil⟩ = hearsQ [(x0, y0), (x1, y1), (x2, y2), (x3, y3), (x4, y4), (x5, y5), (x6, y6)] r K := by kernel_rfl
theorem vch8 (x0 y0 x1 y1 x2 y2 x3 y3 x4 y4 x5 y5 x6 y6 x7 y7 r : Int) (f : Bool) (K : Option AV → Prop) : wpF C S2 100000 8 [.lst (pl [(x0, y0), (x1, y1), (x2, y2), (x3, y3), (x4, y4), (x5, y5), (x6, y6), (x7, y7)]) f, .i r] (retR fun u h => K (snapF h 100 u)) ⟨0, .nil⟩ = hearsQ [(x0, y0), (x1, y1), (x2, y2), (x3, y3), (x4, y4), (x5, y5), (x6, y6), (x7, y7)] r K := by kernel_rfl
theorem vch9 (x0 y0 x1 y1 x2 y2 x3 y3 x4 y4 x5 y5 x6 y6 x7 y7 x8 y8 r : Int) (f : Bool) (K : Option AV → Prop) : wpF C S2 100000 8 [.lst (pl [(x0, y0), (x1, y1), (x2, y2), (x3, y3), (x4, y4), (x5, y5), (x6, y6), (x7, y7), (x8, y8)]) f, .i r] (retR fun u h => K (snapF h 100 u)) ⟨0, .nil⟩ = hearsQ [(x0, y0), (x1, y1), (x2, y2), (x3, y3), (x4, y4), (x5, y5), (x6, y6), (x7, y7), (x8, y8)] r K := by kernel_rfl
theorem vch10 (x0 y0 x1 y1 x2 y2 x3 y3 x4 y4 x5 y5 x6 y6 x7 y7 x8 y8 x9 y9 r : Int) (f : Bool) (K : Option AV → Prop) : wpF C S2 100000 8 [.lst (pl [(x0, y0), (x1, y1), (x2, y2), (x3, y3), (x4, y4), (x5, y5), (x6, y6), (x7, y7), (x8, y8), (x9, y9)]) f, .i r] (retR fun u h => K (snapF h 100 u)) ⟨0, .nil⟩ = hearsQ [(x0, y0), (x1, y1), (x2, y2), (x3, y3), (x4, y4), (x5, y5), (x6, y6), (x7, y7), (x8, y8), (x9, y9)] r K := by kernel_rfl
theorem vch11 (x0 y0 x1 y1 x2 y2 x3 y3 x4 y4 x5 y5 x6 y6 x7 y7 x8 y8 x9 y9 x10 y10 r : Int) (f : Bool) (K : Option AV → Prop) : wpF C S2 100000 8 [.lst (pl [(x0, y0), (x1, y1), (x2, y2), (x3, y3), (x4, y4), (x5, y5), (x6, y6), (x7, y7), (x8, y8), (x9, y9), (x10, y10)]) f, .i r] (retR fun u h => K (snapF h 100 u)) ⟨0, .nil⟩ = hearsQ [(x0, y0), (x1, y1), (x2, y2), (x3, y3), (x4, y4), (x5, y5), (x6, y6), (x7, y7), (x8, y8), (x9, y9), (x10, y10)] r K := by kernel_rfl
theorem vch12 (x0 y0 x1 y1 x2 y2 x3 y3 x4 y4 x5 y5 x6 y6 x7 y7 x8 y8 x9 y9 x10 y10 x11 y11 r : Int) (f : Bool) (K : Option AV → Prop) : wpF C S2 100000 8 [.lst (pl [(x0, y0), (x1, y1), (x2, y2), (x3, y3), (x4, y4), (x5, y5), (x6, y6), (x7, y7), (x8, y8), (x9, y9), (x10, y10), (x11, y11)]) f, .i r] (retR fun u h => K (snapF h 100 u)) ⟨0, .nil⟩ = hearsQ [(x0, y0), (x1, y1), (x2, y2), (x3, y3), (x4, y4), (x5, y5), (x6, y6), (x7, y7), (x8, y8), (x9, y9), (x10, y10), (x11, y11)] r K := by kernel_rfl
theorem hears_wp (r : Int) (f : Bool) (K : Option AV → Prop) : ∀ ps : List (Int × Int), ps.length ≤ 12 → wpF C S2 100000 8 [.lst (pl ps) f, .i r] (retR fun u h => K (snapF h 100 u)) ⟨0, .nil⟩ = hearsQ ps r K
  | [], _ => vch0  r f K
  | [(x0, y0)], _ => vch1 x0 y0 r f K
  | [(x0, y0), (x1, y1)], _ => vch2 x0 y0 x1 y1 r f K
  | [(x0, y0), (x1, y1), (x2, y2)], _ => vch3 x0 y0 x1 y1 x2 y2 r f K
  | [(x0, y0), (x1, y1), (x2, y2), (x3, y3)], _ => vch4 x0 y0 x1 y1 x2 y2 x3 y3 r f K
  | [(x0, y0), (x1, y1), (x2, y2), (x3, y3), (x4, y4)], _ => vch5 x0 y0 x1 y1 x2 y2 x3 y3 x4 y4 r f K
  | [(x0, y0), (x1, y1), (x2, y2), (x3, y3), (x4, y4), (x5, y5)], _ => vch6 x0 y0 x1 y1 x2 y2 x3 y3 x4 y4 x5 y5 r f K
  | [(x0, y0), (x1, y1), (x2, y2), (x3, y3), (x4, y4), (x5, y5), (x6, y6)], _ => vch7 x0 y0 x1 y1 x2 y2 x3 y3 x4 y4 x5 y5 x6 y6 r f K
  | [(x0, y0), (x1, y1), (x2, y2), (x3, y3), (x4, y4), (x5, y5), (x6, y6), (x7, y7)], _ => vch8 x0 y0 x1 y1 x2 y2 x3 y3 x4 y4 x5 y5 x6 y6 x7 y7 r f K
  | [(x0, y0), (x1, y1), (x2, y2), (x3, y3), (x4, y4), (x5, y5), (x6, y6), (x7, y7), (x8, y8)], _ => vch9 x0 y0 x1 y1 x2 y2 x3 y3 x4 y4 x5 y5 x6 y6 x7 y7 x8 y8 r f K
  | [(x0, y0), (x1, y1), (x2, y2), (x3, y3), (x4, y4), (x5, y5), (x6, y6), (x7, y7), (x8, y8), (x9, y9)], _ => vch10 x0 y0 x1 y1 x2 y2 x3 y3 x4 y4 x5 y5 x6 y6 x7 y7 x8 y8 x9 y9 r f K
  | [(x0, y0), (x1, y1), (x2, y2), (x3, y3), (x4, y4), (x5, y5), (x6, y6), (x7, y7), (x8, y8), (x9, y9), (x10, y10)], _ => vch11 x0 y0 x1 y1 x2 y2 x3 y3 x4 y4 x5 y5 x6 y6 x7 y7 x8 y8 x9 y9 x10 y10 r f K
  | [(x0, y0), (x1, y1), (x2, y2), (x3, y3), (x4, y4), (x5, y5), (x6, y6), (x7, y7), (x8, y8), (x9, y9), (x10, y10), (x11, y11)], _ => vch12 x0 y0 x1 y1 x2 y2 x3 y3 x4 y4 x5 y5 x6 y6 x7 y7 x8 y8 x9 y9 x10 y10 x11 y11 r f K
  | _ :: _ :: _ :: _ :: _ :: _ :: _ :: _ :: _ :: _ :: _ :: _ :: _ :: _, h => by simp at h
theorem p8 (ps : List (Int × Int)) (f : Bool) (r : Int) (h1 : ps.length ≤ 12) (h2 : 0 ≤ r) (h3 : r ≤ 20000) (h4 : (pl ps).all placeE = true) : APure C 8 [.lst (pl ps) f, .i r] (hearsOk ps r) := by
  refine apure_snapF hC mixed S2ok (n := 100000) (d := 100) rfl ?_
  rw [hears_wp r f (· = _) ps h1]
  simp [hearsQ, cas_iff, h2, h3, h4]
end Go.Am.Cells
