/- TopCellsOnAir: functions with one loop. -/
import Derived.Test.YtpkljgaokgfpnaaGreatDoorLeaf
set_option maxRecDepth 1000000
set_option linter.unusedVariables false
set_option linter.unusedSimpArgs false
set_option linter.unusedSectionVars false
namespace Go.Am.Cells
open Go Go.Am
/-- A row of k whole numbers. -/
def wf (k : Nat) (c : List AV) : Bool := Nat.beq c.length k && c.all (isInt .i64)
def fld (c : List AV) (j : Nat) : Int := intOf (c.getD j .undef)
theorem wf_int {k : Nat} {c : List AV} (h : wf k c = true) {j : Nat} (hj : j < k) : isInt .i64 (c.getD j .undef) = true := by
  simp only [wf, Bool.and_eq_true, List.all_eq_true] at h
  have hl := Nat.eq_of_beq_eq_true h.1
  have : c.getD j .undef ∈ c := by simp [List.getD_eq_getElem?_getD, show j < c.length by omega]
  exact h.2 _ this
theorem wf_len {k : Nat} {c : List AV} (h : wf k c = true) : c.length = k := by
  simp only [wf, Bool.and_eq_true] at h
  exact Nat.eq_of_beq_eq_true h.1
theorem all_getD {α : Type} {p : α → Bool} {l : List α} (h : l.all p = true) {i : Nat} (hi : i < l.length) (d : α) : p (l.getD i d) = true := by
  rw [List.all_eq_true] at h
  exact h _ (by simp [List.getD_eq_getElem?_getD, hi])

def sp15 : List AV → Option (Bool × AV)
  | [.agg [.int .i64 n, .int .i64 d]] => some (true, .bool (layoutV n d))
  | _ => none
def sp18 : List AV → Option (Bool × AV)
  | [.agg [.int .i64 s, .int .i64 o], .int .i64 p, .agg [.int .i64 n, .int .i64 d]] => some (true, .bool (cellV s o p n d))
  | _ => none
def sp16 : List AV → Option (Bool × AV)
  | [.agg [.int .i64 s, .int .i64 o, .int .i64 p, .int .i64 st], .agg [.int .i64 n, .int .i64 d]] => some (true, .bool (useV s o p st n d))
  | _ => none
def sp17 : List AV → Option (Bool × AV)
  | [.agg [.int .i64 s, .int .i64 o, .int .i64 p, .int .i64 st, .int .i64 un], .agg [.int .i64 n, .int .i64 d]] => some (true, .bool (grantV s o p st un n d))
  | _ => none
def sp19 : List AV → Option (Bool × AV)
  | [.agg [.int .i64 x, .int .i64 y]] => some (true, .bool (placeV x y))
  | _ => none
def sp22 : List AV → Option (Bool × AV)
  | [.agg [.int .i64 x, .int .i64 y]] => some (true, .bool !(placeV x y))
  | _ => none
def sp10 : List AV → Option (Bool × AV)
  | [.int .i64 asn, .int .i64 off] => some (decide (0 ≤ asn) && decide (asn ≤ 1000000000) && decide (0 ≤ off) && decide (off < 16), .tup [.i (chanV asn off), .i 0])
  | _ => none
def sp12 : List AV → Option (Bool × AV)
  | [.agg [.int .i64 ax, .int .i64 ay], .agg [.int .i64 bx, .int .i64 by_], .int .i64 r] => some (true, .bool (nearV ax ay bx by_ r))
  | _ => none
def sp27 : List AV → Option (Bool × AV)
  | [.agg [.int .i64 d, .int .i64 c, .int .i64 _, .int .i64 _, .int .i64 _], .agg [.int .i64 x, .int .i64 y]] => some (true, .bool (radioV d c x y))
  | _ => none
def sp28 : List AV → Option (Bool × AV)
  | [.snil, .agg [.int .i64 _, .int .i64 _], .int .i64 _, .int .i64 _] => some (true, .bool false)
  | _ => none
def sp40 : List AV → Option (Bool × AV)
  | [.int .i64 st, .agg [.int .i64 lo, .int .i64 hi]] => some (true, .bool (decide (st ≥ lo) && decide (st ≤ hi)))
  | _ => none
def P1 (f : FuncId) : Option (List AV → (AV → Prop) → Prop) :=
  match f with
  | 15 => some (dsp sp15)
  | 18 => some (dsp sp18)
  | 16 => some (dsp sp16)
  | 17 => some (dsp sp17)
  | 19 => some (dsp sp19)
  | 22 => some (dsp sp22)
  | 10 => some (dsp sp10)
  | 12 => some (dsp sp12)
  | 27 => some (dsp sp27)
  | 28 => some (dsp sp28)
  | 40 => some (dsp sp40)
  | _ => none
def POk (P : FuncId → Option (List AV → (AV → Prop) → Prop)) : Prop := ∀ f spec, P f = some spec → ∀ args K, spec args K → ATold C f args K
theorem q15 (args : List AV) (b : Bool) (v : AV) (hs : sp15 args = some (b, v)) (_ : b = true) : APure C 15 args v := by
  unfold sp15 at hs; split at hs <;> simp only [Option.some.injEq, Prod.mk.injEq, reduceCtorEq] at hs; obtain ⟨_, rfl⟩ := hs; exact p15 _ _
theorem q18 (args : List AV) (b : Bool) (v : AV) (hs : sp18 args = some (b, v)) (_ : b = true) : APure C 18 args v := by
  unfold sp18 at hs; split at hs <;> simp only [Option.some.injEq, Prod.mk.injEq, reduceCtorEq] at hs; obtain ⟨_, rfl⟩ := hs; exact p18 _ _ _ _ _
theorem q16 (args : List AV) (b : Bool) (v : AV) (hs : sp16 args = some (b, v)) (_ : b = true) : APure C 16 args v := by
  unfold sp16 at hs; split at hs <;> simp only [Option.some.injEq, Prod.mk.injEq, reduceCtorEq] at hs; obtain ⟨_, rfl⟩ := hs; exact p16 _ _ _ _ _ _
theorem q17 (args : List AV) (b : Bool) (v : AV) (hs : sp17 args = some (b, v)) (_ : b = true) : APure C 17 args v := by
  unfold sp17 at hs; split at hs <;> simp only [Option.some.injEq, Prod.mk.injEq, reduceCtorEq] at hs; obtain ⟨_, rfl⟩ := hs; exact p17 _ _ _ _ _ _ _
theorem q19 (args : List AV) (b : Bool) (v : AV) (hs : sp19 args = some (b, v)) (_ : b = true) : APure C 19 args v := by
  unfold sp19 at hs; split at hs <;> simp only [Option.some.injEq, Prod.mk.injEq, reduceCtorEq] at hs; obtain ⟨_, rfl⟩ := hs; exact p19 _ _
theorem q22 (args : List AV) (b : Bool) (v : AV) (hs : sp22 args = some (b, v)) (_ : b = true) : APure C 22 args v := by
  unfold sp22 at hs; split at hs <;> simp only [Option.some.injEq, Prod.mk.injEq, reduceCtorEq] at hs; obtain ⟨_, rfl⟩ := hs; exact p22 _ _
theorem q10 (args : List AV) (b : Bool) (v : AV) (hs : sp10 args = some (b, v)) (hb : b = true) : APure C 10 args v := by
  unfold sp10 at hs
  split at hs <;> simp only [Option.some.injEq, Prod.mk.injEq, reduceCtorEq] at hs
  obtain ⟨h1, rfl⟩ := hs
  subst hb
  simp only [Bool.and_eq_true, decide_eq_true_eq] at h1
  exact p10 _ _ h1.1.1.1 h1.1.1.2 h1.1.2 h1.2
theorem q12 (args : List AV) (b : Bool) (v : AV) (hs : sp12 args = some (b, v)) (_ : b = true) : APure C 12 args v := by
  unfold sp12 at hs; split at hs <;> simp only [Option.some.injEq, Prod.mk.injEq, reduceCtorEq] at hs; obtain ⟨_, rfl⟩ := hs; exact p12 _ _ _ _ _
theorem q27 (args : List AV) (b : Bool) (v : AV) (hs : sp27 args = some (b, v)) (_ : b = true) : APure C 27 args v := by
  unfold sp27 at hs; split at hs <;> simp only [Option.some.injEq, Prod.mk.injEq, reduceCtorEq] at hs; obtain ⟨_, rfl⟩ := hs; exact p27 _ _ _ _ _ _ _
theorem q28 (args : List AV) (b : Bool) (v : AV) (hs : sp28 args = some (b, v)) (_ : b = true) : APure C 28 args v := by
  unfold sp28 at hs; split at hs <;> simp only [Option.some.injEq, Prod.mk.injEq, reduceCtorEq] at hs; obtain ⟨_, rfl⟩ := hs; exact p28 _ _ _ _
theorem q40 (args : List AV) (b : Bool) (v : AV) (hs : sp40 args = some (b, v)) (_ : b = true) : APure C 40 args v := by
  unfold sp40 at hs; split at hs <;> simp only [Option.some.injEq, Prod.mk.injEq, reduceCtorEq] at hs; obtain ⟨_, rfl⟩ := hs; exact p40 _ _ _
theorem P1ok : POk P1 := by
  intro f spec h
  unfold P1 at h
  split at h <;> (try (cases h; done)) <;> (injection h with h; subst h)
  · exact dsp_ok q15
  · exact dsp_ok q18
  · exact dsp_ok q16
  · exact dsp_ok q17
  · exact dsp_ok q19
  · exact dsp_ok q22
  · exact dsp_ok q10
  · exact dsp_ok q12
  · exact dsp_ok q27
  · exact dsp_ok q28
  · exact dsp_ok q40
def S1 : Specs := .plain P1 (fun _ => none)
theorem S1ok : SpecsOk C S1 := .of P1ok rfl rfl (fun _ _ _ h => (by cases h))

/-! ### Places -/
def p6 : List Bool := [false, true, false, true]
def short {α : Type} (l : List α) : Bool := Nat.ble l.length 1048576
theorem short_le {α : Type} {l : List α} (h : short l = true) : l.length ≤ 1048576 := Nat.le_of_ble_eq_true h
def placeE (c : List AV) : Bool := placeV (fld c 0) (fld c 1)
theorem vc6 (es : List (List AV)) (f : Bool) (r i : Int) (K : KT) : (wpC C S1 1000 none (some (6, false :: p6)) (loopAt 6 p6) (kobs [0, 1, 4, 5] K) (mkE 31 (List.zip [0, 1, 4, 5] [.lst es f, .i r, .bool false, .i i])) (mkH 2 [])) = (cas (decide (i < (↑es.length : Int)))
  (req (decide (0 ≤ i) && decide (i < (↑es.length : Int)))
    (req ((es.getD i.toNat []).length.beq 2)
      (req (Nat.ble 2 (es.getD i.toNat []).length)
        (req (isInt IntKind.i64 ((es.getD i.toNat []).getD 0 (AV.tup [])) && (isInt IntKind.i64 ((es.getD i.toNat []).getD 1 (AV.tup [])) && true))
          (cas (!placeV (intOf ((es.getD i.toNat []).getD 0 (AV.tup []))) (intOf ((es.getD i.toNat []).getD 1 (AV.tup []))))
            (K AX.ret 31 [] [some (AV.lst es f), some (AV.int IntKind.i64 r), some (AV.bool false), some (AV.int IntKind.i64 i)] { next := 15, tr := Tr.nil })
            (K AX.normal 31 [] [some (AV.lst es f), some (AV.int IntKind.i64 r), some (AV.bool false), some (AV.int IntKind.i64 (IntKind.i64.wrap (i + 1)))] { next := 17, tr := Tr.nil }))))))
  (K (AX.exit 0) 31 [] [some (AV.lst es f), some (AV.int IntKind.i64 r), some (AV.bool false), some (AV.int IntKind.i64 i)] { next := 6, tr := Tr.nil })) := by kernel_rfl

def L6 : Option Nat → Env → AH → AQ → Prop := fun ro e h Q =>
  match ro, obs e [0, 1, 4, 5] with
  | none, [some (.lst es f), some (.int .i64 r), some (.bool false), some (.int .i64 0)] =>
    req (Nat.beq e.n 31 && e.ds.isEmpty && Nat.beq h.next 2) (req (short es && es.all (wf 2)) (cas (es.all placeE)
      (Q (.exit 0) (mkE 31 (List.zip [0, 1, 4, 5] [.lst es f, .i r, .bool false, .i es.length])) (mkH 2 []))
      (Q .ret (mkE 31 (List.zip [0, 1, 4, 5] [.lst es f, .i r, .bool false])) (mkH 2 []))))
  | _, _ => False
theorem loc_of {f : FuncId} {p : List Bool} {fn : Func} {body c : Code} (h1 : C.F f = some fn) (h2 : fn.body = some body) (h3 : codeAt body p = some (.loop c)) : LocOk C (some (f, false :: p)) c :=
  LocOk.go (loc := some (f, p)) (c := .loop c) (fun f' p' hl => by
    simp only [Option.some.injEq, Prod.mk.injEq] at hl
    obtain ⟨rfl, rfl⟩ := hl
    exact ⟨fn, body, h1, h2, h3⟩) rfl
theorem L6ok {fn : Func} {body c : Code} (h1 : C.F 6 = some fn) (h2 : fn.body = some body) (h3 : codeAt body p6 = some (.loop c)) (ro : Option Nat) (e : Env) (h : AH) (Q : AQ) (hl : L6 ro e h Q) : ASem C ro (.loop c) Q e h := by
  have hloc := loc_of h1 h2 h3
  obtain rfl := loopAt_eq h1 h2 h3
  unfold L6 at hl
  split at hl
  · rename_i es f r hob
    simp only [req_iff, cas_iff, Bool.and_eq_true, List.isEmpty_iff] at hl
    obtain ⟨⟨⟨n1, n2⟩, n3⟩, ⟨hsh, hwf⟩, q1, q2⟩ := hl
    have hsh := short_le hsh
    have n1 := Nat.eq_of_beq_eq_true n1
    have n3 := Nat.eq_of_beq_eq_true n3
    refine loop_idx (α := Unit) (τ := Unit) 31 2 2 0 es.length (Nat.le_refl _) [0, 1, 4, 5] (fun i _ => [.lst es f, .i r, .bool false, .i i]) (fun _ _ => []) (fun i _ => ∀ j, j < i → placeE (es.getD j []) = true)
      (fun _ => [.lst es f, .i r, .bool false]) (fun _ => []) (fun _ => es.all placeE = false) (fun _ hx => by cases hx) ?_ n3 e () (fun j hj => by omega) (he_of_obs (by rw [hob]; rfl)) n1 n2 ho_nil ?_ ?_
    · intro i _ hi hinv
      refine (wpOk hC mixed S1ok 1000).c _ _ _ _ _ _ hloc ?_
      rw [vc6]
      have hii : (i : Int).toNat = i := rfl
      rw [cas_iff]
      constructor
      · intro hlt
        have hlt : i < es.length := by simpa using hlt
        have hg := all_getD hwf hlt []
        have hgl := wf_len hg
        have i0 := wf_int hg (j := 0) (by omega)
        have i1 := wf_int hg (j := 1) (by omega)
        simp only [req_iff, cas_iff, hii, hgl, i0, i1]
        refine ⟨by simp; omega, by simp, by simp, by simp, fun hf => ?_, fun ht => ?_⟩
        · refine ⟨(), _, ?_, met_same rfl rfl (by simp) rfl trivial⟩
          cases hall : es.all placeE with
          | false => rfl
          | true =>
            have := all_getD hall hlt []
            simp only [placeE, fld] at this
            simp only [this] at hf
            cases hf
        · refine ⟨hlt, (), _, ?_, met_same rfl rfl (by simp) ?_ trivial⟩
          · intro j hj
            rcases Nat.lt_or_ge j i with h' | h'
            · exact hinv j h'
            · obtain rfl : j = i := by omega
              simpa [placeE, fld] using ht
          · rw [w64 (n := (i : Int) + 1) (by omega) (by omega)]
            rfl
      · intro hge
        obtain rfl : i = es.length := by simp at hge; omega
        exact ⟨rfl, _, hinv, met_same rfl rfl (by simp) rfl trivial⟩
    · intro _ ha
      refine q1 ?_
      rw [List.all_eq_true]
      intro x hx
      obtain ⟨j, hj, rfl⟩ := List.mem_iff_getElem.1 hx
      have := ha j hj
      simpa [List.getD_eq_getElem?_getD, hj] using this
    · intro _ hy
      exact q2 hy
  · exact hl.elim

def S6 : Specs := .plain P1 (fun loc => match loc with | some (6, [false, true, false, true]) => some L6 | _ => none)
theorem S6ok : SpecsOk C S6 := by
  refine .of P1ok rfl rfl (fun f p spec h fn body c h1 h2 h3 ro e h' Q hl => ?_)
  simp only [S6, Specs.plain] at h
  split at h
  · rename_i heq
    simp only [Option.some.injEq, Prod.mk.injEq] at heq
    obtain ⟨rfl, rfl⟩ := heq
    injection h with h; subst h
    exact L6ok h1 h2 h3 ro e h' Q hl
  · cases h
theorem vcf6 (es : List (List AV)) (f : Bool) (r : Int) (K : AV → Prop) : (wpF C S6 1000 6 [.lst es f, .i r] (retR fun u _ => K u) ⟨0, .nil⟩) = (req (short es && es.all (wf 2))
  (cas (es.all placeE) (cas (decide ((↑es.length : Int) ≤ 60)) (cas (decide (r ≥ 0)) (K (AV.bool (decide (r ≤ 20000)))) (K (AV.bool false))) (K (AV.bool false))) (K (AV.bool false)))) := by kernel_rfl

theorem p6f (es : List (List AV)) (f : Bool) (r : Int) (h1 : short es = true) (h2 : es.all (wf 2) = true) : APure C 6 [.lst es f, .i r] (.bool (es.all placeE && decide ((es.length : Int) ≤ 60) && decide (r ≥ 0) && decide (r ≤ 20000))) := by
  refine apure_val hC mixed S6ok (n := 1000) rfl rfl ?_
  rw [vcf6 _ _ _ (· = _)]
  simp only [cas_iff, req_iff, h1, h2, AV.bool.injEq]
  grind

/-! ### IndexFunc over places -/
def p35 : List Bool := [false, true, false, true]
theorem vc35 (es : List (List AV)) (f : Bool) (i : Int) (K : KT) : (wpC C S1 1000 none (some (35, false :: p35)) (loopAt 35 p35) (kobs [0, 1, 4, 7, 8] K) (mkE 19 (List.zip [0, 1, 4, 7, 8] [.lst es f, .func (.func 22) [] [], .i 0, .i es.length, .i i])) (mkH 10 [])) = (cas (decide (i < (↑es.length : Int)))
  (req (decide (0 ≤ i) && decide (i < (↑es.length : Int)))
    (req ((es.getD i.toNat []).length.beq 2)
      (req (Nat.ble 2 (es.getD i.toNat []).length)
        (req (isInt IntKind.i64 ((es.getD i.toNat []).getD 0 (AV.tup [])) && (isInt IntKind.i64 ((es.getD i.toNat []).getD 1 (AV.tup [])) && true))
          (cas (!placeV (intOf ((es.getD i.toNat []).getD 0 (AV.tup []))) (intOf ((es.getD i.toNat []).getD 1 (AV.tup []))))
            (K AX.ret 19 [] [some (AV.lst es f), some (AV.func (Fn.func 22) [] []), some (AV.int IntKind.i64 i), some (AV.int IntKind.i64 (↑es.length : Int)), some (AV.int IntKind.i64 i)]
              { next := 21, tr := Tr.nil })
            (K AX.normal 19 []
              [some (AV.lst es f), some (AV.func (Fn.func 22) [] []), some (AV.int IntKind.i64 0), some (AV.int IntKind.i64 (↑es.length : Int)), some (AV.int IntKind.i64 (IntKind.i64.wrap (i + 1)))]
              { next := 21, tr := Tr.nil }))))))
  (K (AX.exit 0) 19 [] [some (AV.lst es f), some (AV.func (Fn.func 22) [] []), some (AV.int IntKind.i64 0), some (AV.int IntKind.i64 (↑es.length : Int)), some (AV.int IntKind.i64 i)]
    { next := 11, tr := Tr.nil })) := by kernel_rfl

def L35 : Option Nat → Env → AH → AQ → Prop := fun ro e h Q =>
  match ro, obs e [0, 1, 4, 7, 8] with
  | none, [some (.lst es f), some (.func (.func g) [] []), some (.int .i64 0), some (.int .i64 m), some (.int .i64 0)] =>
    req (Nat.beq e.n 19 && e.ds.isEmpty && Nat.beq h.next 10) (req (Nat.beq g 22 && (m == es.length) && short es && es.all (wf 2)) (cas (es.all placeE)
      (Q (.exit 0) (mkE 19 (List.zip [0, 1, 4, 7, 8] [.lst es f, .func (.func 22) [] [], .i 0, .i es.length, .i es.length])) (mkH 10 []))
      (∀ y : Nat, y < es.length → Q .ret (mkE 19 (List.zip [0, 1, 4, 7, 8] [.lst es f, .func (.func 22) [] [], .i y])) (mkH 10 []))))
  | _, _ => False
theorem L35ok {fn : Func} {body c : Code} (h1 : C.F 35 = some fn) (h2 : fn.body = some body) (h3 : codeAt body p35 = some (.loop c)) (ro : Option Nat) (e : Env) (h : AH) (Q : AQ) (hl : L35 ro e h Q) : ASem C ro (.loop c) Q e h := by
  have hloc := loc_of h1 h2 h3
  obtain rfl := loopAt_eq h1 h2 h3
  unfold L35 at hl
  split at hl
  · rename_i es f g m hob
    simp only [req_iff, cas_iff, Bool.and_eq_true, List.isEmpty_iff, beq_iff_eq] at hl
    obtain ⟨⟨⟨n1, n2⟩, n3⟩, ⟨⟨⟨hg22, rfl⟩, hsh⟩, hwf⟩, q1, q2⟩ := hl
    have n1 := Nat.eq_of_beq_eq_true n1
    have n3 := Nat.eq_of_beq_eq_true n3
    obtain rfl := Nat.eq_of_beq_eq_true hg22
    have hsh := short_le hsh
    refine loop_idx (α := Unit) (τ := Nat) 19 10 10 0 es.length (Nat.le_refl _) [0, 1, 4, 7, 8] (fun i _ => [.lst es f, .func (.func 22) [] [], .i 0, .i es.length, .i i]) (fun _ _ => []) (fun i _ => ∀ j, j < i → placeE (es.getD j []) = true)
      (fun y => [.lst es f, .func (.func 22) [] [], .i y]) (fun _ => []) (fun y => es.all placeE = false ∧ y < es.length) (fun _ hx => by cases hx) ?_ n3 e () (fun j hj => by omega) (he_of_obs (by rw [hob]; rfl)) n1 n2 ho_nil ?_ ?_
    · intro i _ hi hinv
      refine (wpOk hC mixed S1ok 1000).c _ _ _ _ _ _ hloc ?_
      rw [vc35]
      have hii : (i : Int).toNat = i := rfl
      rw [cas_iff]
      constructor
      · intro hlt
        have hlt : i < es.length := by simpa using hlt
        have hg := all_getD hwf hlt []
        have hgl := wf_len hg
        have i0 := wf_int hg (j := 0) (by omega)
        have i1 := wf_int hg (j := 1) (by omega)
        simp only [req_iff, cas_iff, hii, hgl, i0, i1]
        refine ⟨by simp; omega, by simp, by simp, by simp, fun hf => ?_, fun ht => ?_⟩
        · refine ⟨i, _, ⟨?_, hlt⟩, met_same rfl rfl (by simp) rfl trivial⟩
          cases hall : es.all placeE with
          | false => rfl
          | true =>
            have := all_getD hall hlt []
            simp only [placeE, fld] at this
            simp only [this] at hf
            cases hf
        · refine ⟨hlt, (), _, ?_, met_same rfl rfl (by simp) ?_ trivial⟩
          · intro j hj
            rcases Nat.lt_or_ge j i with h' | h'
            · exact hinv j h'
            · obtain rfl : j = i := by omega
              simpa [placeE, fld] using ht
          · rw [w64 (n := (i : Int) + 1) (by omega) (by omega)]
            rfl
      · intro hge
        obtain rfl : i = es.length := by simp at hge; omega
        exact ⟨rfl, _, hinv, met_same rfl rfl (by simp) rfl trivial⟩
    · intro _ ha
      refine q1 ?_
      rw [List.all_eq_true]
      intro x hx
      obtain ⟨j, hj, rfl⟩ := List.mem_iff_getElem.1 hx
      have := ha j hj
      simpa [List.getD_eq_getElem?_getD, hj] using this
    · intro y hy
      exact q2 hy.1 y hy.2
  · exact hl.elim
def S35 : Specs := .plain P1 (fun loc => match loc with | some (35, [false, true, false, true]) => some L35 | _ => none)
theorem S35ok : SpecsOk C S35 := by
  refine .of P1ok rfl rfl (fun f p spec h fn body c h1 h2 h3 ro e h' Q hl => ?_)
  simp only [S35, Specs.plain] at h
  split at h
  · rename_i heq
    simp only [Option.some.injEq, Prod.mk.injEq] at heq
    obtain ⟨rfl, rfl⟩ := heq
    injection h with h; subst h
    exact L35ok h1 h2 h3 ro e h' Q hl
  · cases h
theorem vcf21 (es : List (List AV)) (f : Bool) (K : AV → Prop) : (wpF C S35 1000 21 [.lst es f, .func (.func 22) [] []] (retR fun u _ => K u) ⟨0, .nil⟩) = (req (true && (↑es.length : Int) == (↑es.length : Int) && short es && es.all (wf 2)) (cas (es.all placeE) (K (AV.bool false)) (∀ (y : Nat), y < es.length → K (AV.bool true)))) := by kernel_rfl

theorem p21 (es : List (List AV)) (f : Bool) (h1 : short es = true) (h2 : es.all (wf 2) = true) : APure C 21 [.lst es f, .func (.func 22) [] []] (.bool !(es.all placeE)) := by
  refine apure_val hC mixed S35ok (n := 1000) rfl rfl ?_
  rw [vcf21 _ _ (· = _)]
  simp only [cas_iff, req_iff, h1, h2, AV.bool.injEq]
  grind

end Go.Am.Cells
