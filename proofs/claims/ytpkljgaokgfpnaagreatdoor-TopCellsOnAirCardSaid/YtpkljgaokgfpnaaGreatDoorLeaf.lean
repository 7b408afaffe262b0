/- TopCellsOnAir: functions without loops. -/
import Derived.Test.YtpkljgaokgfpnaaGreatDoorBase
import Derived.IntWalk
set_option maxRecDepth 1000000
set_option linter.unusedVariables false
set_option linter.unusedSimpArgs false
set_option linter.unusedSectionVars false
namespace Go.Am.Cells
open Go Go.Am
def S0 : Specs := .plain (fun _ => none) (fun _ => none)
theorem S0ok : SpecsOk C S0 := .of (fun _ _ h => (by cases h)) rfl rfl (fun _ _ _ h => (by cases h))

theorem w64 {n : Int} (h1 : -9223372036854775808 ≤ n) (h2 : n ≤ 9223372036854775807) : IntKind.i64.wrap n = n := Go.IntWalk.i64_in n ⟨h1, h2⟩
theorem sq_bound {x m : Int} (h1 : -m ≤ x) (h2 : x ≤ m) : 0 ≤ x * x ∧ x * x ≤ m * m := by
  have hm : 0 ≤ m := by omega
  rcases Int.le_total 0 x with h | h
  · exact ⟨Int.mul_nonneg h h, Int.mul_le_mul h2 h2 h hm⟩
  · have e : x * x = (-x) * (-x) := by rw [Int.neg_mul_neg]
    rw [e]
    exact ⟨Int.mul_nonneg (by omega) (by omega), Int.mul_le_mul (by omega) (by omega) (by omega) hm⟩
def placeV (x y : Int) : Bool := decide (x ≥ 0) && decide (x ≤ 10000) && decide (y ≥ 0) && decide (y ≤ 10000)
def nearV (ax ay bx by_ r : Int) : Bool := placeV ax ay && placeV bx by_ && decide (r ≥ 0) && decide (r ≤ 20000) && ((ax == bx && ay == by_) || decide ((ax - bx) * (ax - bx) + (ay - by_) * (ay - by_) ≤ r * r))
def tabV : List Int := [0, 5, 10, 15, 4, 9, 14, 3, 8, 13, 2, 7, 12, 1, 6, 11]
def chanV (asn off : Int) : Int := tabV.getD ((asn + off) % 16).toNat 0
def radioV (d c x y : Int) : Bool := ((d == 0) || ((d == 1 || d == 2) && decide (c ≥ 0) && decide (c < 16))) && placeV x y
def layoutV (n d : Int) : Bool := decide (n ≥ 1) && decide (n ≤ 60) && decide (d ≥ 1) && decide (d ≤ 60)
def cellV (s o p n d : Int) : Bool := decide (s ≥ 0) && decide (s < d) && decide (o ≥ 0) && decide (o < 16) && decide (p ≥ 0) && decide (p < n)
def useV (s o p st n d : Int) : Bool := cellV s o p n d && decide (st ≥ 0) && decide (st ≤ 1000000000)
def grantV (s o p st un n d : Int) : Bool := cellV s o p n d && decide (st ≥ 0) && decide (st ≤ un) && decide (un ≤ 1000000000)


theorem vc15 (n d : Int) (K : AV → Prop) : (wpF C S0 1000 15 [.agg [.i n, .i d]] (retR fun u _ => K u) ⟨0, .nil⟩) = (cas (decide (n ≥ 1)) (cas (decide (n ≤ 60)) (cas (decide (d ≥ 1)) (K (AV.bool (decide (d ≤ 60)))) (K (AV.bool false))) (K (AV.bool false))) (K (AV.bool false))) := by kernel_rfl

theorem p15 (n d : Int) : APure C 15 [.agg [.i n, .i d]] (.bool (layoutV n d)) := by
  refine apure_val hC mixed S0ok (n := 1000) rfl rfl ?_
  rw [vc15 _ _ (· = _)]
  simp only [cas_iff, AV.bool.injEq, layoutV]
  grind

theorem vc18 (s o p n d : Int) (K : AV → Prop) : (wpF C S0 1000 18 [.agg [.i s, .i o], .i p, .agg [.i n, .i d]] (retR fun u _ => K u) ⟨0, .nil⟩) = (cas (decide (s ≥ 0))
  (cas (decide (s < d)) (cas (decide (o ≥ 0)) (cas (decide (o < 16)) (cas (decide (p ≥ 0)) (K (AV.bool (decide (p < n)))) (K (AV.bool false))) (K (AV.bool false))) (K (AV.bool false)))
    (K (AV.bool false)))
  (K (AV.bool false))) := by kernel_rfl

theorem p18 (s o p n d : Int) : APure C 18 [.agg [.i s, .i o], .i p, .agg [.i n, .i d]] (.bool (cellV s o p n d)) := by
  refine apure_val hC mixed S0ok (n := 1000) rfl rfl ?_
  rw [vc18 _ _ _ _ _ (· = _)]
  simp only [cas_iff, AV.bool.injEq, cellV]
  grind

theorem vc16 (s o p st n d : Int) (K : AV → Prop) : (wpF C S0 1000 16 [.agg [.i s, .i o, .i p, .i st], .agg [.i n, .i d]] (retR fun u _ => K u) ⟨0, .nil⟩) = (cas (decide (s ≥ 0))
  (cas (decide (s < d))
    (cas (decide (o ≥ 0))
      (cas (decide (o < 16)) (cas (decide (p ≥ 0)) (cas (decide (p < n)) (cas (decide (st ≥ 0)) (K (AV.bool (decide (st ≤ 1000000000)))) (K (AV.bool false))) (K (AV.bool false))) (K (AV.bool false)))
        (K (AV.bool false)))
      (K (AV.bool false)))
    (K (AV.bool false)))
  (K (AV.bool false))) := by kernel_rfl

theorem p16 (s o p st n d : Int) : APure C 16 [.agg [.i s, .i o, .i p, .i st], .agg [.i n, .i d]] (.bool (useV s o p st n d)) := by
  refine apure_val hC mixed S0ok (n := 1000) rfl rfl ?_
  rw [vc16 _ _ _ _ _ _ (· = _)]
  simp only [cas_iff, AV.bool.injEq, useV, cellV]
  grind

theorem vc17 (s o p st un n d : Int) (K : AV → Prop) : (wpF C S0 1000 17 [.agg [.i s, .i o, .i p, .i st, .i un], .agg [.i n, .i d]] (retR fun u _ => K u) ⟨0, .nil⟩) = (cas (decide (s ≥ 0))
  (cas (decide (s < d))
    (cas (decide (o ≥ 0))
      (cas (decide (o < 16))
        (cas (decide (p ≥ 0))
          (cas (decide (p < n)) (cas (decide (st ≥ 0)) (cas (decide (st ≤ un)) (K (AV.bool (decide (un ≤ 1000000000)))) (K (AV.bool false))) (K (AV.bool false))) (K (AV.bool false)))
          (K (AV.bool false)))
        (K (AV.bool false)))
      (K (AV.bool false)))
    (K (AV.bool false)))
  (K (AV.bool false))) := by kernel_rfl

theorem p17 (s o p st un n d : Int) : APure C 17 [.agg [.i s, .i o, .i p, .i st, .i un], .agg [.i n, .i d]] (.bool (grantV s o p st un n d)) := by
  refine apure_val hC mixed S0ok (n := 1000) rfl rfl ?_
  rw [vc17 _ _ _ _ _ _ _ (· = _)]
  simp only [cas_iff, AV.bool.injEq, grantV, cellV]
  grind

theorem vc19 (x y : Int) (K : AV → Prop) : (wpF C S0 1000 19 [.agg [.i x, .i y]] (retR fun u _ => K u) ⟨0, .nil⟩) = (cas (decide (x ≥ 0)) (cas (decide (x ≤ 10000)) (cas (decide (y ≥ 0)) (K (AV.bool (decide (y ≤ 10000)))) (K (AV.bool false))) (K (AV.bool false))) (K (AV.bool false))) := by kernel_rfl

theorem p19 (x y : Int) : APure C 19 [.agg [.i x, .i y]] (.bool (placeV x y)) := by
  refine apure_val hC mixed S0ok (n := 1000) rfl rfl ?_
  rw [vc19 _ _ (· = _)]
  simp only [cas_iff, AV.bool.injEq, placeV]
  grind

theorem vc22 (x y : Int) (K : AV → Prop) : (wpF C S0 1000 22 [.agg [.i x, .i y]] (retR fun u _ => K u) ⟨0, .nil⟩) = (cas (decide (x ≥ 0)) (cas (decide (x ≤ 10000)) (cas (decide (y ≥ 0)) (K (AV.bool !decide (y ≤ 10000))) (K (AV.bool true))) (K (AV.bool true))) (K (AV.bool true))) := by kernel_rfl

theorem p22 (x y : Int) : APure C 22 [.agg [.i x, .i y]] (.bool !(placeV x y)) := by
  refine apure_val hC mixed S0ok (n := 1000) rfl rfl ?_
  rw [vc22 _ _ (· = _)]
  simp only [cas_iff, AV.bool.injEq, placeV]
  grind

theorem vc7 (u g a : List (List AV)) (f1 f2 f3 : Bool) (K : AV → Prop) : (wpF C S0 1000 7 [.agg [.lst u f1, .lst g f2, .lst a f3]] (retR fun u _ => K u) ⟨0, .nil⟩) = (cas (decide ((↑u.length : Int) ≤ 40)) (cas (decide ((↑g.length : Int) ≤ 40)) (K (AV.bool (decide ((↑a.length : Int) ≤ 40)))) (K (AV.bool false))) (K (AV.bool false))) := by kernel_rfl

theorem p7 (u g a : List (List AV)) (f1 f2 f3 : Bool) : APure C 7 [.agg [.lst u f1, .lst g f2, .lst a f3]] (.bool (decide (u.length ≤ 40) && decide (g.length ≤ 40) && decide (a.length ≤ 40))) := by
  refine apure_val hC mixed S0ok (n := 1000) rfl rfl ?_
  rw [vc7 _ _ _ _ _ _ (· = _)]
  simp only [cas_iff, AV.bool.injEq]
  grind

theorem vc10 (asn off : Int) (K : AV → Prop) : (wpF C S0 1000 10 [.i asn, .i off] (retR fun u _ => K u) ⟨0, .nil⟩) = (cas (decide (asn ≥ 0))
  (cas (!decide (asn ≤ 1000000000)) (K (AV.tup [AV.int IntKind.i64 0, AV.int IntKind.i64 1]))
    (cas (decide (off ≥ 0))
      (cas (!decide (off < 16)) (K (AV.tup [AV.int IntKind.i64 0, AV.int IntKind.i64 1]))
        (req (decide (0 ≤ (IntKind.i64.wrap (asn + off)).tmod 16) && decide ((IntKind.i64.wrap (asn + off)).tmod 16 < 16))
          (req
            (Nat.ble 1
              (List.drop (((IntKind.i64.wrap (asn + off)).tmod 16).toNat * 1)
                  [AV.int IntKind.i64 0, AV.int IntKind.i64 5, AV.int IntKind.i64 10, AV.int IntKind.i64 15, AV.int IntKind.i64 4, AV.int IntKind.i64 9, AV.int IntKind.i64 14, AV.int IntKind.i64 3,
                    AV.int IntKind.i64 8, AV.int IntKind.i64 13, AV.int IntKind.i64 2, AV.int IntKind.i64 7, AV.int IntKind.i64 12, AV.int IntKind.i64 1, AV.int IntKind.i64 6,
                    AV.int IntKind.i64 11]).length)
            (req
              (isInt IntKind.i64
                  ((List.drop (((IntKind.i64.wrap (asn + off)).tmod 16).toNat * 1)
                        [AV.int IntKind.i64 0, AV.int IntKind.i64 5, AV.int IntKind.i64 10, AV.int IntKind.i64 15, AV.int IntKind.i64 4, AV.int IntKind.i64 9, AV.int IntKind.i64 14,
                          AV.int IntKind.i64 3, AV.int IntKind.i64 8, AV.int IntKind.i64 13, AV.int IntKind.i64 2, AV.int IntKind.i64 7, AV.int IntKind.i64 12, AV.int IntKind.i64 1,
                          AV.int IntKind.i64 6, AV.int IntKind.i64 11]).getD
                    0 (AV.tup [])) &&
                true)
              (K
                (AV.tup
                  [AV.int IntKind.i64
                      (intOf
                        ((List.drop (((IntKind.i64.wrap (asn + off)).tmod 16).toNat * 1)
                              [AV.int IntKind.i64 0, AV.int IntKind.i64 5, AV.int IntKind.i64 10, AV.int IntKind.i64 15, AV.int IntKind.i64 4, AV.int IntKind.i64 9, AV.int IntKind.i64 14,
                                AV.int IntKind.i64 3, AV.int IntKind.i64 8, AV.int IntKind.i64 13, AV.int IntKind.i64 2, AV.int IntKind.i64 7, AV.int IntKind.i64 12, AV.int IntKind.i64 1,
                                AV.int IntKind.i64 6, AV.int IntKind.i64 11]).getD
                          0 (AV.tup []))),
                    AV.int IntKind.i64 0]))))))
      (K (AV.tup [AV.int IntKind.i64 0, AV.int IntKind.i64 1]))))
  (K (AV.tup [AV.int IntKind.i64 0, AV.int IntKind.i64 1]))) := by kernel_rfl

theorem tab_ok : ∀ k : Fin 16, (1 ≤ (List.drop (k.val * 1) table).length) ∧ isInt .i64 ((List.drop (k.val * 1) table).getD 0 .undef) = true ∧ intOf ((List.drop (k.val * 1) table).getD 0 .undef) = tabV.getD k.val 0 := by decide
theorem p10 (asn off : Int) (h1 : 0 ≤ asn) (h2 : asn ≤ 1000000000) (h3 : 0 ≤ off) (h4 : off < 16) : APure C 10 [.i asn, .i off] (.tup [.i (chanV asn off), .i 0]) := by
  refine apure_val hC mixed S0ok (n := 1000) rfl rfl ?_
  rw [vc10 _ _ (· = _)]
  have e : (IntKind.i64.wrap (asn + off)).tmod 16 = (asn + off) % 16 := by
    rw [w64 (by omega) (by omega), Int.tmod_eq_emod_of_nonneg (by omega)]
  have hk : ((asn + off) % 16).toNat < 16 := by omega
  obtain ⟨t1, t2, t3⟩ := tab_ok ⟨((asn + off) % 16).toNat, hk⟩
  simp only [table] at t1 t2 t3
  simp only [cas_iff, req_iff, e, t2, t3, Nat.ble_eq_true_of_le t1, chanV, AV.tup.injEq]
  grind

theorem vc12 (ax ay bx by_ r : Int) (K : AV → Prop) : (wpF C S0 1000 12 [.agg [.i ax, .i ay], .agg [.i bx, .i by_], .i r] (retR fun u _ => K u) ⟨0, .nil⟩) = (cas (decide (ax ≥ 0))
  (cas (decide (ax ≤ 10000))
    (cas (decide (ay ≥ 0))
      (cas (!decide (ay ≤ 10000)) (K (AV.bool false))
        (cas (decide (bx ≥ 0))
          (cas (decide (bx ≤ 10000))
            (cas (decide (by_ ≥ 0))
              (cas (!decide (by_ ≤ 10000)) (K (AV.bool false))
                (cas (decide (r ≥ 0))
                  (cas (!decide (r ≤ 20000)) (K (AV.bool false))
                    (cas (ax == bx && (ay == by_ && true)) (K (AV.bool true))
                      (K
                        (AV.bool
                          (decide
                            (IntKind.i64.wrap
                                (IntKind.i64.wrap (IntKind.i64.wrap (ax - bx) * IntKind.i64.wrap (ax - bx)) + IntKind.i64.wrap (IntKind.i64.wrap (ay - by_) * IntKind.i64.wrap (ay - by_))) ≤
                              IntKind.i64.wrap (r * r)))))))
                  (K (AV.bool false))))
              (K (AV.bool false)))
            (K (AV.bool false)))
          (K (AV.bool false))))
      (K (AV.bool false)))
    (K (AV.bool false)))
  (K (AV.bool false))) := by kernel_rfl

theorem p12 (ax ay bx by_ r : Int) : APure C 12 [.agg [.i ax, .i ay], .agg [.i bx, .i by_], .i r] (.bool (nearV ax ay bx by_ r)) := by
  refine apure_val hC mixed S0ok (n := 1000) rfl rfl ?_
  rw [vc12 _ _ _ _ _ (· = _)]
  have key : ax ≥ 0 → ax ≤ 10000 → ay ≥ 0 → ay ≤ 10000 → bx ≥ 0 → bx ≤ 10000 → by_ ≥ 0 → by_ ≤ 10000 → r ≥ 0 → r ≤ 20000 →
      IntKind.i64.wrap (IntKind.i64.wrap (IntKind.i64.wrap (ax - bx) * IntKind.i64.wrap (ax - bx)) + IntKind.i64.wrap (IntKind.i64.wrap (ay - by_) * IntKind.i64.wrap (ay - by_))) = (ax - bx) * (ax - bx) + (ay - by_) * (ay - by_) ∧ IntKind.i64.wrap (r * r) = r * r := by
    intros
    have b1 := sq_bound (x := ax - bx) (m := 10000) (by omega) (by omega)
    have b2 := sq_bound (x := ay - by_) (m := 10000) (by omega) (by omega)
    have b3 := sq_bound (x := r) (m := 20000) (by omega) (by omega)
    rw [w64 (n := ax - bx) (by omega) (by omega), w64 (n := ay - by_) (by omega) (by omega), w64 (n := r * r) (by omega) (by omega), w64 (n := (ax - bx) * (ax - bx)) (by omega) (by omega), w64 (n := (ay - by_) * (ay - by_)) (by omega) (by omega)]
    exact ⟨w64 (by omega) (by omega), rfl⟩
  repeat' (refine cas_iff.2 ⟨fun _ => ?_, fun _ => ?_⟩)
  all_goals simp only [Bool.not_eq_true', Bool.not_eq_false', decide_eq_true_eq, decide_eq_false_iff_not, Int.not_le, ge_iff_le, Bool.and_true, Bool.and_eq_true, Bool.and_eq_false_iff, beq_iff_eq, beq_eq_false_iff_ne, AV.bool.injEq, nearV, placeV] at *
  all_goals grind

theorem vc27 (do_ c st lo hi x y : Int) (K : AV → Prop) : (wpF C S0 1000 27 [.agg [.i do_, .i c, .i st, .i lo, .i hi], .agg [.i x, .i y]] (retR fun u _ => K u) ⟨0, .nil⟩) = (cas (do_ == 0)
  (cas (decide (x ≥ 0))
    (cas (decide (x ≤ 10000))
      (cas (decide (y ≥ 0))
        (cas (!decide (y ≤ 10000)) (K (AV.bool false))
          (cas (decide (x ≥ 0))
            (cas (decide (x ≤ 10000))
              (cas (decide (y ≥ 0))
                (cas (!decide (y ≤ 10000)) (K (AV.bool false))
                  (cas (x == x && (y == y && true)) (K (AV.bool true))
                    (K
                      (AV.bool
                        (decide
                          (IntKind.i64.wrap (IntKind.i64.wrap (IntKind.i64.wrap (x - x) * IntKind.i64.wrap (x - x)) + IntKind.i64.wrap (IntKind.i64.wrap (y - y) * IntKind.i64.wrap (y - y))) ≤ 0))))))
                (K (AV.bool false)))
              (K (AV.bool false)))
            (K (AV.bool false))))
        (K (AV.bool false)))
      (K (AV.bool false)))
    (K (AV.bool false)))
  (cas (do_ == 1)
    (cas (do_ == 1)
      (cas (decide (c < 0)) (K (AV.bool false))
        (cas (decide (c ≥ 16)) (K (AV.bool false))
          (cas (decide (x ≥ 0))
            (cas (decide (x ≤ 10000))
              (cas (decide (y ≥ 0))
                (cas (!decide (y ≤ 10000)) (K (AV.bool false))
                  (cas (decide (x ≥ 0))
                    (cas (decide (x ≤ 10000))
                      (cas (decide (y ≥ 0))
                        (cas (!decide (y ≤ 10000)) (K (AV.bool false))
                          (cas (x == x && (y == y && true)) (K (AV.bool true))
                            (K
                              (AV.bool
                                (decide
                                  (IntKind.i64.wrap (IntKind.i64.wrap (IntKind.i64.wrap (x - x) * IntKind.i64.wrap (x - x)) + IntKind.i64.wrap (IntKind.i64.wrap (y - y) * IntKind.i64.wrap (y - y))) ≤
                                    0))))))
                        (K (AV.bool false)))
                      (K (AV.bool false)))
                    (K (AV.bool false))))
                (K (AV.bool false)))
              (K (AV.bool false)))
            (K (AV.bool false)))))
      (K (AV.bool false)))
    (cas (do_ == 2)
      (cas (decide (c < 0)) (K (AV.bool false))
        (cas (decide (c ≥ 16)) (K (AV.bool false))
          (cas (decide (x ≥ 0))
            (cas (decide (x ≤ 10000))
              (cas (decide (y ≥ 0))
                (cas (!decide (y ≤ 10000)) (K (AV.bool false))
                  (cas (decide (x ≥ 0))
                    (cas (decide (x ≤ 10000))
                      (cas (decide (y ≥ 0))
                        (cas (!decide (y ≤ 10000)) (K (AV.bool false))
                          (cas (x == x && (y == y && true)) (K (AV.bool true))
                            (K
                              (AV.bool
                                (decide
                                  (IntKind.i64.wrap (IntKind.i64.wrap (IntKind.i64.wrap (x - x) * IntKind.i64.wrap (x - x)) + IntKind.i64.wrap (IntKind.i64.wrap (y - y) * IntKind.i64.wrap (y - y))) ≤
                                    0))))))
                        (K (AV.bool false)))
                      (K (AV.bool false)))
                    (K (AV.bool false))))
                (K (AV.bool false)))
              (K (AV.bool false)))
            (K (AV.bool false)))))
      (K (AV.bool false))))) := by kernel_rfl

theorem p27 (d c st lo hi x y : Int) : APure C 27 [.agg [.i d, .i c, .i st, .i lo, .i hi], .agg [.i x, .i y]] (.bool (radioV d c x y)) := by
  refine apure_val hC mixed S0ok (n := 1000) rfl rfl ?_
  rw [vc27 _ _ _ _ _ _ _ (· = _)]
  repeat' (refine cas_iff.2 ⟨fun _ => ?_, fun _ => ?_⟩)
  all_goals simp only [Bool.not_eq_true', Bool.not_eq_false', decide_eq_true_eq, decide_eq_false_iff_not, Int.not_le, ge_iff_le, Bool.and_true, Bool.and_eq_true, Bool.and_eq_false_iff, beq_iff_eq, beq_eq_false_iff_ne, AV.bool.injEq, radioV, placeV] at *
  all_goals grind

theorem vc40 (st lo hi : Int) (K : AV → Prop) : (wpF C S0 1000 40 [.i st, .agg [.i lo, .i hi]] (retR fun u _ => K u) ⟨0, .nil⟩) = (cas (decide (st ≥ lo)) (K (AV.bool (decide (st ≤ hi)))) (K (AV.bool false))) := by kernel_rfl

theorem p40 (st lo hi : Int) : APure C 40 [.i st, .agg [.i lo, .i hi]] (.bool (decide (st ≥ lo) && decide (st ≤ hi))) := by
  refine apure_val hC mixed S0ok (n := 1000) rfl rfl ?_
  rw [vc40 _ _ _ (· = _)]
  simp only [cas_iff, AV.bool.injEq]
  grind

theorem vc28 (x y c asn : Int) (K : AV → Prop) : (wpF C S0 1000 28 [.snil, .agg [.i x, .i y], .i c, .i asn] (retR fun u _ => K u) ⟨0, .nil⟩) = (K (AV.bool false)) := by kernel_rfl

theorem p28 (x y c asn : Int) : APure C 28 [.snil, .agg [.i x, .i y], .i c, .i asn] (.bool false) := by
  refine apure_val hC mixed S0ok (n := 1000) rfl rfl ?_
  rw [vc28 _ _ _ _ (· = _)]

end Go.Am.Cells
