/- Whether two abstract values are the same. -/
import Derived.Test.YtpkljgaokgfpnaaGreatDoorAmDrawn
set_option linter.unusedVariables false
namespace Go.Am
open Go
mutual
def AV.same : AV → AV → Bool
  | .bool a, .bool b => decide (a = b)
  | .int k n, .int l m => decide (k = l) && decide (n = m)
  | .str a, .str b => decide (a = b)
  | .ptr i o, .ptr j p => decide (i = j) && decide (o = p)
  | .nilptr, .nilptr => true
  | .kptr a, .kptr b => AV.sameL a b
  | .sl i o l c sp, .sl j p m d sq => decide (i = j) && decide (o = p) && decide (l = m) && decide (c = d) && decide (sp = sq)
  | .snil, .snil => true
  | .lst a f, .lst b g => AV.sameLL a b && decide (f = g)
  | .map i, .map j => decide (i = j)
  | .nilmap, .nilmap => true
  | .func f a b, .func g c d => decide (f = g) && AV.sameL a c && AV.sameL b d
  | .yield i, .yield j => decide (i = j)
  | .nilfunc, .nilfunc => true
  | .iface t v, .iface u w => decide (t = u) && AV.same v w
  | .niliface, .niliface => true
  | .agg a, .agg b => AV.sameL a b
  | .tup a, .tup b => AV.sameL a b
  | _, _ => false
def AV.sameL : List AV → List AV → Bool
  | [], [] => true
  | x :: xs, y :: ys => AV.same x y && AV.sameL xs ys
  | _, _ => false
def AV.sameLL : List (List AV) → List (List AV) → Bool
  | [], [] => true
  | x :: xs, y :: ys => AV.sameL x y && AV.sameLL xs ys
  | _, _ => false
end
mutual
theorem AV.same_eq : ∀ {x y : AV}, AV.same x y = true → x = y
  | .bool a, y, h => by cases y <;> simp_all [AV.same]
  | .int k n, y, h => by cases y <;> simp_all [AV.same]
  | .str a, y, h => by cases y <;> simp_all [AV.same]
  | .ptr i o, y, h => by cases y <;> simp_all [AV.same]
  | .nilptr, y, h => by cases y <;> simp_all [AV.same]
  | .kptr a, y, h => by
    cases y <;> simp only [AV.same, Bool.false_eq_true] at h
    rw [AV.sameL_eq h]
  | .sl i o l c sp, y, h => by cases y <;> simp_all [AV.same]
  | .snil, y, h => by cases y <;> simp_all [AV.same]
  | .lst a f, y, h => by
    cases y <;> simp only [AV.same, Bool.false_eq_true, Bool.and_eq_true, decide_eq_true_eq] at h
    rw [AV.sameLL_eq h.1, h.2]
  | .map i, y, h => by cases y <;> simp_all [AV.same]
  | .nilmap, y, h => by cases y <;> simp_all [AV.same]
  | .func f a b, y, h => by
    cases y <;> simp only [AV.same, Bool.false_eq_true, Bool.and_eq_true, decide_eq_true_eq] at h
    rw [h.1.1, AV.sameL_eq h.1.2, AV.sameL_eq h.2]
  | .yield i, y, h => by cases y <;> simp_all [AV.same]
  | .nilfunc, y, h => by cases y <;> simp_all [AV.same]
  | .iface t v, y, h => by
    cases y <;> simp only [AV.same, Bool.false_eq_true, Bool.and_eq_true, decide_eq_true_eq] at h
    rw [h.1, AV.same_eq h.2]
  | .niliface, y, h => by cases y <;> simp_all [AV.same]
  | .agg a, y, h => by
    cases y <;> simp only [AV.same, Bool.false_eq_true] at h
    rw [AV.sameL_eq h]
  | .tup a, y, h => by
    cases y <;> simp only [AV.same, Bool.false_eq_true] at h
    rw [AV.sameL_eq h]
theorem AV.sameL_eq : ∀ {x y : List AV}, AV.sameL x y = true → x = y
  | [], y, h => by cases y <;> simp_all [AV.sameL]
  | a :: x, y, h => by
    cases y with
    | nil => simp [AV.sameL] at h
    | cons b y =>
      simp only [AV.sameL, Bool.and_eq_true] at h
      rw [AV.same_eq h.1, AV.sameL_eq h.2]
theorem AV.sameLL_eq : ∀ {x y : List (List AV)}, AV.sameLL x y = true → x = y
  | [], y, h => by cases y <;> simp_all [AV.sameLL]
  | a :: x, y, h => by
    cases y with
    | nil => simp [AV.sameLL] at h
    | cons b y =>
      simp only [AV.sameLL, Bool.and_eq_true] at h
      rw [AV.sameL_eq h.1, AV.sameLL_eq h.2]
end
end Go.Am
