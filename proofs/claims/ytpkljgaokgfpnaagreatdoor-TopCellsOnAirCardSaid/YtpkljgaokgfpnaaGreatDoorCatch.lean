/- TopCellsOnAir: what a listening radio catches. -/
import Derived.Test.YtpkljgaokgfpnaaGreatDoorHears
import Derived.Test.YtpkljgaokgfpnaaGreatDoorAmM
set_option maxRecDepth 1000000
set_option linter.unusedVariables false
set_option linter.unusedSimpArgs false
set_option linter.unusedSectionVars false
namespace Go.Am.Cells
open Go Go.Am
noncomputable def rfA (f : FuncId) (p : List Bool) : Code := match codeAt (bodyOf f) p with
  | some (.rangeFunc _ _ a _) => a
  | _ => .skip
noncomputable def rfB (f : FuncId) (p : List Bool) : Code := match codeAt (bodyOf f) p with
  | some (.rangeFunc _ _ _ b) => b
  | _ => .skip
def p29 : List Bool := [false, true, false, true, true]
def p66 : List Bool := [false, true]
abbrev wE (acts pls : List (List AV)) (f1 f2 : Bool) (r : Int) : List AV := [.lst acts f1, .lst pls f2, .i r]
abbrev env29 (acts pls : List (List AV)) (f1 f2 : Bool) (r i : Int) : TE := mkTE [(0, .agg (wE acts pls f1 f2 r)), (1, .i i), (2, .ptr 0 0), (4, .ptr 1 0), (5, .ptr 2 0), (7, .agg (wE acts pls f1 f2 r)), (8, .i i), (9, .func (.func 66) [] [.ptr 7 0, .ptr 8 0])]
abbrev ids66 : List Nat := [0, 1, 2, 7, 8, 12, 13]
noncomputable abbrev os66 (acts pls : List (List AV)) (f1 f2 : Bool) (r i found res : Int) (st : LoopState) (pd : Option Code) : List AObj := [.cells (wE acts pls f1 f2 r), .cells [.i res], .cells [.i found], .cells (wE acts pls f1 f2 r), .cells [.i i], .deferred, .loop st pd 33 (env29 acts pls f1 f2 r i) #[10] (rfA 29 p29) (rfB 29 p29) 12]
theorem vc66 (acts pls : List (List AV)) (f1 f2 : Bool) (r i found k : Int) (K : KT2) : (wpC C S1 1000 none (some (66, false :: p66)) (loopAt 66 p66) (kobs2 [0, 1, 2, 7, 8, 9] ids66 K) (mkE 50 (List.zip [0, 1, 2, 7, 8, 9] [.yield 13, .ptr 7 0, .ptr 8 0, .lst acts f1, .i acts.length, .i k])) (mkH 18 (ids66.zip (os66 acts pls f1 f2 r i found 0 .ready none)))) = (cas (decide (k < (↑acts.length : Int)))
  (req (decide (0 ≤ k) && decide (k < (↑acts.length : Int)))
    (req ((acts.getD k.toNat []).length.beq 5)
      (req (Nat.ble 5 (acts.getD k.toNat []).length)
        (req
          (isInt IntKind.i64 ((acts.getD k.toNat []).getD 0 (AV.tup [])) &&
            (isInt IntKind.i64 ((acts.getD k.toNat []).getD 1 (AV.tup [])) &&
              (isInt IntKind.i64 ((acts.getD k.toNat []).getD 2 (AV.tup [])) &&
                (isInt IntKind.i64 ((acts.getD k.toNat []).getD 3 (AV.tup [])) && (isInt IntKind.i64 ((acts.getD k.toNat []).getD 4 (AV.tup [])) && true)))))
          (cas (intOf ((acts.getD k.toNat []).getD 0 (AV.tup [])) == 2)
            (req (decide (0 ≤ i) && decide (i < (↑acts.length : Int)))
              (req ((acts.getD i.toNat []).length.beq 5)
                (req (Nat.ble 1 (List.drop 1 (acts.getD i.toNat [])).length)
                  (req (isInt IntKind.i64 ((List.drop 1 (acts.getD i.toNat [])).getD 0 (AV.tup [])) && true)
                    (cas (intOf ((acts.getD k.toNat []).getD 1 (AV.tup [])) == intOf ((List.drop 1 (acts.getD i.toNat [])).getD 0 (AV.tup [])))
                      (req (decide (0 ≤ k) && decide (k < (↑pls.length : Int)))
                        (req ((pls.getD k.toNat []).length.beq 2)
                          (req (Nat.ble 2 (pls.getD k.toNat []).length)
                            (req (isInt IntKind.i64 ((pls.getD k.toNat []).getD 0 (AV.tup [])) && (isInt IntKind.i64 ((pls.getD k.toNat []).getD 1 (AV.tup [])) && true))
                              (req (decide (0 ≤ i) && decide (i < (↑pls.length : Int)))
                                (req ((pls.getD i.toNat []).length.beq 2)
                                  (req (Nat.ble 2 (pls.getD i.toNat []).length)
                                    (req (isInt IntKind.i64 ((pls.getD i.toNat []).getD 0 (AV.tup [])) && (isInt IntKind.i64 ((pls.getD i.toNat []).getD 1 (AV.tup [])) && true))
                                      (cas
                                        (nearV (intOf ((pls.getD k.toNat []).getD 0 (AV.tup []))) (intOf ((pls.getD k.toNat []).getD 1 (AV.tup []))) (intOf ((pls.getD i.toNat []).getD 0 (AV.tup [])))
                                          (intOf ((pls.getD i.toNat []).getD 1 (AV.tup []))) r)
                                        (cas (found != -1)
                                          (AV.int IntKind.i64 i = AV.int IntKind.i64 i ∧
                                            AV.lst pls f2 = AV.lst pls f2 ∧
                                              AV.lst pls f2 = AV.lst pls f2 ∧
                                                K AX.ret 50 []
                                                  [some (AV.yield 13), some (AV.ptr 7 0), some (AV.ptr 8 0), some (AV.lst acts f1), some (AV.int IntKind.i64 (↑acts.length : Int)),
                                                    some (AV.int IntKind.i64 k)]
                                                  [some (AObj.cells [AV.lst acts f1, AV.lst pls f2, AV.int IntKind.i64 r]), some (AObj.cells [AV.int IntKind.i64 (-2)]),
                                                    some (AObj.cells [AV.int IntKind.i64 found]), some (AObj.cells [AV.lst acts f1, AV.lst pls f2, AV.int IntKind.i64 r]),
                                                    some (AObj.cells [AV.int IntKind.i64 i]), some AObj.deferred,
                                                    some
                                                      (AObj.loop LoopState.done (some Code.ret) 33
                                                        (Tr.node (some (AV.agg [AV.lst acts f1, AV.lst pls f2, AV.int IntKind.i64 r]))
                                                          (Tr.node (some (AV.int IntKind.i64 i))
                                                            (Tr.node none (Tr.node (some (AV.agg [AV.lst acts f1, AV.lst pls f2, AV.int IntKind.i64 r])) Tr.nil Tr.nil) Tr.nil)
                                                            (Tr.node (some (AV.ptr 2 0)) (Tr.node (some (AV.func (Fn.func 66) [] [AV.ptr 7 0, AV.ptr 8 0])) Tr.nil Tr.nil) Tr.nil))
                                                          (Tr.node (some (AV.ptr 0 0)) (Tr.node (some (AV.ptr 1 0)) (Tr.node (some (AV.int IntKind.i64 i)) Tr.nil Tr.nil) Tr.nil) Tr.nil))
                                                        { toList := [10] } (rfA 29 [false, true, false, true, true]) (rfB 29 [false, true, false, true, true]) 12)]
                                                  64)
                                          (AV.int IntKind.i64 i = AV.int IntKind.i64 i ∧
                                            AV.lst pls f2 = AV.lst pls f2 ∧
                                              AV.lst pls f2 = AV.lst pls f2 ∧
                                                K AX.normal 50 []
                                                  [some (AV.yield 13), some (AV.ptr 7 0), some (AV.ptr 8 0), some (AV.lst acts f1), some (AV.int IntKind.i64 (↑acts.length : Int)),
                                                    some (AV.int IntKind.i64 (IntKind.i64.wrap (k + 1)))]
                                                  [some (AObj.cells [AV.lst acts f1, AV.lst pls f2, AV.int IntKind.i64 r]), some (AObj.cells [AV.int IntKind.i64 0]),
                                                    some (AObj.cells [AV.int IntKind.i64 k]), some (AObj.cells [AV.lst acts f1, AV.lst pls f2, AV.int IntKind.i64 r]),
                                                    some (AObj.cells [AV.int IntKind.i64 i]), some AObj.deferred,
                                                    some
                                                      (AObj.loop LoopState.ready none 33
                                                        (Tr.node (some (AV.agg [AV.lst acts f1, AV.lst pls f2, AV.int IntKind.i64 r]))
                                                          (Tr.node (some (AV.int IntKind.i64 i))
                                                            (Tr.node none (Tr.node (some (AV.agg [AV.lst acts f1, AV.lst pls f2, AV.int IntKind.i64 r])) Tr.nil Tr.nil) Tr.nil)
                                                            (Tr.node (some (AV.ptr 2 0)) (Tr.node (some (AV.func (Fn.func 66) [] [AV.ptr 7 0, AV.ptr 8 0])) Tr.nil Tr.nil) Tr.nil))
                                                          (Tr.node (some (AV.ptr 0 0)) (Tr.node (some (AV.ptr 1 0)) (Tr.node (some (AV.int IntKind.i64 i)) Tr.nil Tr.nil) Tr.nil) Tr.nil))
                                                        { toList := [10] } (rfA 29 [false, true, false, true, true]) (rfB 29 [false, true, false, true, true]) 12)]
                                                  67))
                                        (AV.int IntKind.i64 i = AV.int IntKind.i64 i ∧
                                          AV.lst pls f2 = AV.lst pls f2 ∧
                                            AV.lst pls f2 = AV.lst pls f2 ∧
                                              K AX.normal 50 []
                                                [some (AV.yield 13), some (AV.ptr 7 0), some (AV.ptr 8 0), some (AV.lst acts f1), some (AV.int IntKind.i64 (↑acts.length : Int)),
                                                  some (AV.int IntKind.i64 (IntKind.i64.wrap (k + 1)))]
                                                [some (AObj.cells [AV.lst acts f1, AV.lst pls f2, AV.int IntKind.i64 r]), some (AObj.cells [AV.int IntKind.i64 0]),
                                                  some (AObj.cells [AV.int IntKind.i64 found]), some (AObj.cells [AV.lst acts f1, AV.lst pls f2, AV.int IntKind.i64 r]),
                                                  some (AObj.cells [AV.int IntKind.i64 i]), some AObj.deferred,
                                                  some
                                                    (AObj.loop LoopState.ready none 33
                                                      (Tr.node (some (AV.agg [AV.lst acts f1, AV.lst pls f2, AV.int IntKind.i64 r]))
                                                        (Tr.node (some (AV.int IntKind.i64 i))
                                                          (Tr.node none (Tr.node (some (AV.agg [AV.lst acts f1, AV.lst pls f2, AV.int IntKind.i64 r])) Tr.nil Tr.nil) Tr.nil)
                                                          (Tr.node (some (AV.ptr 2 0)) (Tr.node (some (AV.func (Fn.func 66) [] [AV.ptr 7 0, AV.ptr 8 0])) Tr.nil Tr.nil) Tr.nil))
                                                        (Tr.node (some (AV.ptr 0 0)) (Tr.node (some (AV.ptr 1 0)) (Tr.node (some (AV.int IntKind.i64 i)) Tr.nil Tr.nil) Tr.nil) Tr.nil))
                                                      { toList := [10] } (rfA 29 [false, true, false, true, true]) (rfB 29 [false, true, false, true, true]) 12)]
                                                62))))))))))
                      (AV.tup [] = AV.tup [] ∧
                        AV.tup [] = AV.tup [] ∧
                          AV.tup [] = AV.tup [] ∧
                            K AX.normal 50 []
                              [some (AV.yield 13), some (AV.ptr 7 0), some (AV.ptr 8 0), some (AV.lst acts f1), some (AV.int IntKind.i64 (↑acts.length : Int)),
                                some (AV.int IntKind.i64 (IntKind.i64.wrap (k + 1)))]
                              [some (AObj.cells [AV.lst acts f1, AV.lst pls f2, AV.int IntKind.i64 r]), some (AObj.cells [AV.int IntKind.i64 0]), some (AObj.cells [AV.int IntKind.i64 found]),
                                some (AObj.cells [AV.lst acts f1, AV.lst pls f2, AV.int IntKind.i64 r]), some (AObj.cells [AV.int IntKind.i64 i]), some AObj.deferred,
                                some
                                  (AObj.loop LoopState.ready none 33
                                    (Tr.node (some (AV.agg [AV.lst acts f1, AV.lst pls f2, AV.int IntKind.i64 r]))
                                      (Tr.node (some (AV.int IntKind.i64 i)) (Tr.node none (Tr.node (some (AV.agg [AV.lst acts f1, AV.lst pls f2, AV.int IntKind.i64 r])) Tr.nil Tr.nil) Tr.nil)
                                        (Tr.node (some (AV.ptr 2 0)) (Tr.node (some (AV.func (Fn.func 66) [] [AV.ptr 7 0, AV.ptr 8 0])) Tr.nil Tr.nil) Tr.nil))
                                      (Tr.node (some (AV.ptr 0 0)) (Tr.node (some (AV.ptr 1 0)) (Tr.node (some (AV.int IntKind.i64 i)) Tr.nil Tr.nil) Tr.nil) Tr.nil))
                                    { toList := [10] } (rfA 29 [false, true, false, true, true]) (rfB 29 [false, true, false, true, true]) 12)]
                              62))))))
            (AV.tup [] = AV.tup [] ∧
              AV.tup [] = AV.tup [] ∧
                AV.tup [] = AV.tup [] ∧
                  K AX.normal 50 []
                    [some (AV.yield 13), some (AV.ptr 7 0), some (AV.ptr 8 0), some (AV.lst acts f1), some (AV.int IntKind.i64 (↑acts.length : Int)),
                      some (AV.int IntKind.i64 (IntKind.i64.wrap (k + 1)))]
                    [some (AObj.cells [AV.lst acts f1, AV.lst pls f2, AV.int IntKind.i64 r]), some (AObj.cells [AV.int IntKind.i64 0]), some (AObj.cells [AV.int IntKind.i64 found]),
                      some (AObj.cells [AV.lst acts f1, AV.lst pls f2, AV.int IntKind.i64 r]), some (AObj.cells [AV.int IntKind.i64 i]), some AObj.deferred,
                      some
                        (AObj.loop LoopState.ready none 33
                          (Tr.node (some (AV.agg [AV.lst acts f1, AV.lst pls f2, AV.int IntKind.i64 r]))
                            (Tr.node (some (AV.int IntKind.i64 i)) (Tr.node none (Tr.node (some (AV.agg [AV.lst acts f1, AV.lst pls f2, AV.int IntKind.i64 r])) Tr.nil Tr.nil) Tr.nil)
                              (Tr.node (some (AV.ptr 2 0)) (Tr.node (some (AV.func (Fn.func 66) [] [AV.ptr 7 0, AV.ptr 8 0])) Tr.nil Tr.nil) Tr.nil))
                            (Tr.node (some (AV.ptr 0 0)) (Tr.node (some (AV.ptr 1 0)) (Tr.node (some (AV.int IntKind.i64 i)) Tr.nil Tr.nil) Tr.nil) Tr.nil))
                          { toList := [10] } (rfA 29 [false, true, false, true, true]) (rfB 29 [false, true, false, true, true]) 12)]
                    62))))))
  (K (AX.exit 0) 50 [] [some (AV.yield 13), some (AV.ptr 7 0), some (AV.ptr 8 0), some (AV.lst acts f1), some (AV.int IntKind.i64 (↑acts.length : Int)), some (AV.int IntKind.i64 k)]
    [some (AObj.cells [AV.lst acts f1, AV.lst pls f2, AV.int IntKind.i64 r]), some (AObj.cells [AV.int IntKind.i64 0]), some (AObj.cells [AV.int IntKind.i64 found]),
      some (AObj.cells [AV.lst acts f1, AV.lst pls f2, AV.int IntKind.i64 r]), some (AObj.cells [AV.int IntKind.i64 i]), some AObj.deferred,
      some
        (AObj.loop LoopState.ready none 33
          (Tr.node (some (AV.agg [AV.lst acts f1, AV.lst pls f2, AV.int IntKind.i64 r]))
            (Tr.node (some (AV.int IntKind.i64 i)) (Tr.node none (Tr.node (some (AV.agg [AV.lst acts f1, AV.lst pls f2, AV.int IntKind.i64 r])) Tr.nil Tr.nil) Tr.nil)
              (Tr.node (some (AV.ptr 2 0)) (Tr.node (some (AV.func (Fn.func 66) [] [AV.ptr 7 0, AV.ptr 8 0])) Tr.nil Tr.nil) Tr.nil))
            (Tr.node (some (AV.ptr 0 0)) (Tr.node (some (AV.ptr 1 0)) (Tr.node (some (AV.int IntKind.i64 i)) Tr.nil Tr.nil) Tr.nil) Tr.nil))
          { toList := [10] } (rfA 29 [false, true, false, true, true]) (rfB 29 [false, true, false, true, true]) 12)]
    19)) := by kernel_rfl

/-- Node i hears node k. -/
def heardE (acts pls : List (List AV)) (r : Int) (i k : Nat) : Bool :=
  (fld (acts.getD k []) 0 == 2) && (fld (acts.getD k []) 1 == fld (acts.getD i []) 1) && nearV (fld (pls.getD k []) 0) (fld (pls.getD k []) 1) (fld (pls.getD i []) 0) (fld (pls.getD i []) 1) r
/-- What has been found among the first m. -/
def foundP (acts pls : List (List AV)) (r : Int) (i m : Nat) (found : Int) : Prop :=
  (found = -1 ∧ ∀ j, j < m → heardE acts pls r i j = false) ∨ (∃ j : Nat, j < m ∧ found = (j : Int) ∧ heardE acts pls r i j = true ∧ ∀ j', j' < m → j' ≠ j → heardE acts pls r i j' = false)
def twoP (acts pls : List (List AV)) (r : Int) (i m : Nat) : Prop := ∃ a b : Nat, a < m ∧ b < m ∧ a ≠ b ∧ heardE acts pls r i a = true ∧ heardE acts pls r i b = true
def L66 : Option Nat → Env → AH → AQ → Prop := fun ro e h Q =>
  match ro, obs e [0, 1, 2, 7, 8, 9], h.get 0, h.get 8 with
  | none, [some (.yield 13), some (.ptr 7 0), some (.ptr 8 0), some (.lst acts f1), some (.int .i64 m), some (.int .i64 0)], some (.cells [.lst acts' f1', .lst pls f2, .int .i64 r]), some (.cells [.int .i64 i]) =>
    acts = acts' ∧ f1 = f1' ∧ ids66.map h.get = (os66 acts pls f1 f2 r i (-1) 0 .ready none).map some ∧
    req (Nat.beq e.n 50 && e.ds.isEmpty && Nat.beq h.next 18) (req ((m == acts.length) && decide (0 ≤ i) && decide (i < acts.length) && short acts && acts.all (wf 5) && pls.all (wf 2) && Nat.beq pls.length acts.length)
      ((∀ found : Int, foundP acts pls r i.toNat acts.length found → Q (.exit 0) (mkE 50 (List.zip [0, 1, 2, 7, 8, 9] [.yield 13, .ptr 7 0, .ptr 8 0, .lst acts f1, .i acts.length, .i acts.length])) (mkH 18 (ids66.zip (os66 acts pls f1 f2 r i found 0 .ready none)))) ∧
        (∀ found : Int, twoP acts pls r i.toNat acts.length → Q .ret (mkE 50 (List.zip [0, 1, 2, 7, 8, 9] [.yield 13, .ptr 7 0, .ptr 8 0, .lst acts f1, .i acts.length])) (mkH 18 (ids66.zip (os66 acts pls f1 f2 r i found (-2) .done (some .ret)))))))
  | _, _, _, _ => False

theorem L66ok {fn : Func} {body c : Code} (h1 : C.F 66 = some fn) (h2 : fn.body = some body) (h3 : codeAt body p66 = some (.loop c)) (ro : Option Nat) (e : Env) (h : AH) (Q : AQ) (hl : L66 ro e h Q) : ASem C ro (.loop c) Q e h := by
  have hloc := loc_of h1 h2 h3
  obtain rfl := loopAt_eq h1 h2 h3
  unfold L66 at hl
  split at hl
  · rename_i acts f1 m acts' f1' pls f2 r i hob hh0 hh8
    simp only [req_iff, Bool.and_eq_true, List.isEmpty_iff, beq_iff_eq, decide_eq_true_eq] at hl
    obtain ⟨rfl, rfl, hos, ⟨⟨n1, n2⟩, n3⟩, ⟨⟨⟨⟨⟨⟨rfl, hi0⟩, hi1⟩, hsh⟩, hwa⟩, hwp⟩, hlen⟩, q1, q2⟩ := hl
    have n1 := Nat.eq_of_beq_eq_true n1
    have n3 := Nat.eq_of_beq_eq_true n3
    have hlen := Nat.eq_of_beq_eq_true hlen
    have hsh := short_le hsh
    obtain ⟨i, rfl⟩ : ∃ j : Nat, i = j := ⟨i.toNat, by omega⟩
    have hi1 : i < acts.length := by omega
    simp only [Int.toNat_natCast] at q1 q2
    refine loop_here (α := Int) (τ := Int) 50 18 0 acts.length [0, 1, 2, 7, 8, 9] ids66 (by decide) (fun k _ => [.yield 13, .ptr 7 0, .ptr 8 0, .lst acts f1, .i acts.length, .i k]) (fun _ found => os66 acts pls f1 f2 r i found 0 .ready none)
      (fun k found => foundP acts pls r i k found) (fun _ => [.yield 13, .ptr 7 0, .ptr 8 0, .lst acts f1, .i acts.length]) (fun found => os66 acts pls f1 f2 r i found (-2) .done (some .ret)) (fun _ => twoP acts pls r i acts.length) (fun _ hx => by cases hx) ?_ n3 e (-1) (.inl ⟨rfl, fun j hj => by omega⟩)
      (by rw [hob]; rfl) n1 n2 (by rw [hos]; rfl) (fun found hf => q1 found hf) (fun found hf => q2 found hf)
    intro k found hk hinv
    refine (wpOk hC mixed S1ok 1000).c _ _ _ _ _ _ hloc ?_
    rw [vc66]
    have hkk : (k : Int).toNat = k := rfl
    have hii : (i : Int).toNat = i := rfl
    rw [cas_iff]
    constructor
    · intro hlt
      have hlt : k < acts.length := by simpa using hlt
      have hg := all_getD hwa hlt []
      have hgl := wf_len hg
      have i0 := wf_int hg (j := 0) (by omega)
      have i1 := wf_int hg (j := 1) (by omega)
      have i2 := wf_int hg (j := 2) (by omega)
      have i3 := wf_int hg (j := 3) (by omega)
      have i4 := wf_int hg (j := 4) (by omega)
      have hg' := all_getD hwa hi1 []
      have hgl' := wf_len hg'
      have k1 := wf_int hg' (j := 1) (by omega)
      have hp := all_getD hwp (show k < pls.length by omega) []
      have hpl := wf_len hp
      have a0 := wf_int hp (j := 0) (by omega)
      have a1 := wf_int hp (j := 1) (by omega)
      have hp' := all_getD hwp (show i < pls.length by omega) []
      have hpl' := wf_len hp'
      have b0 := wf_int hp' (j := 0) (by omega)
      have b1 := wf_int hp' (j := 1) (by omega)
      have hmiss : heardE acts pls r i k = false → foundP acts pls r i (k + 1) found := fun hm => by
        rcases hinv with ⟨h1, h2⟩ | ⟨j, h1, h2, h3, h4⟩
        · refine .inl ⟨h1, fun j hj => ?_⟩
          rcases Nat.lt_or_ge j k with h | h
          · exact h2 j h
          · obtain rfl : j = k := by omega
            exact hm
        · refine .inr ⟨j, by omega, h2, h3, fun j' hj' hne => ?_⟩
          rcases Nat.lt_or_ge j' k with h | h
          · exact h4 j' h hne
          · obtain rfl : j' = k := by omega
            exact hm
      have hhere : ∀ (f : Int) (x : List (Option AObj)) (nx : Nat), 18 ≤ nx → x = (os66 acts pls f1 f2 r i f 0 .ready none).map some → Here 50 18 [.yield 13, .ptr 7 0, .ptr 8 0, .lst acts f1, .i acts.length, .i ((k + 1 : Nat) : Int)] (os66 acts pls f1 f2 r i f 0 .ready none) 50 []
          [some (.yield 13), some (.ptr 7 0), some (.ptr 8 0), some (.lst acts f1), some (.int .i64 (acts.length : Int)), some (.int .i64 (IntKind.i64.wrap ((k : Int) + 1)))] x nx := fun f x nx hnx hx => by
        subst hx
        refine ⟨rfl, rfl, hnx, ?_, rfl, rfl, rfl⟩
        rw [w64 (n := (k : Int) + 1) (by omega) (by omega)]
        rfl
      simp only [req_iff, cas_iff, hkk, hii, hgl, hgl', hpl, hpl', i0, i1, i2, i3, i4, k1, a0, a1, b0, b1, drop_getD, List.length_drop, Nat.add_zero]
      have dk : ∀ m : Nat, m = acts.length → (decide (0 ≤ (k : Int)) && decide ((k : Int) < (m : Int))) = true := fun m hm => by subst hm; simp; omega
      have di : ∀ m : Nat, m = acts.length → (decide (0 ≤ (i : Int)) && decide ((i : Int) < (m : Int))) = true := fun m hm => by subst hm; simp; omega
      refine ⟨dk _ rfl, rfl, rfl, rfl, fun h2 => ⟨di _ rfl, rfl, rfl, rfl, fun h3 => ⟨dk _ hlen, rfl, rfl, rfl, di _ hlen, rfl, rfl, rfl, fun h4 => ⟨fun h5 => ?_, fun h5 => ?_⟩, fun h4 => ?_⟩, fun h3 => ?_⟩, fun h2 => ?_⟩
      · -- two are heard
        refine ⟨trivial, trivial, trivial, found, ?_, rfl, rfl, by omega, rfl, rfl, rfl, rfl⟩
        have hk' : heardE acts pls r i k = true := by
          simp only [heardE, Bool.and_eq_true]; exact ⟨⟨h2, h3⟩, h4⟩
        rcases hinv with ⟨e1, _⟩ | ⟨j, g1, g2, g3, _⟩
        · rw [e1] at h5; cases h5
        · exact ⟨j, k, by omega, hlt, by omega, g3, hk'⟩
      · refine ⟨trivial, trivial, trivial, hlt, (k : Int), ?_, hhere _ _ _ (by omega) rfl⟩
        have hk' : heardE acts pls r i k = true := by
          simp only [heardE, Bool.and_eq_true]; exact ⟨⟨h2, h3⟩, h4⟩
        rcases hinv with ⟨e1, e2⟩ | ⟨j, g1, g2, g3, _⟩
        · exact .inr ⟨k, by omega, rfl, hk', fun j' hj' hne => e2 j' (by omega)⟩
        · simp at h5; omega
      · refine ⟨trivial, trivial, trivial, hlt, found, hmiss ?_, hhere _ _ _ (by omega) rfl⟩
        simp only [heardE, Bool.and_eq_false_iff]; exact .inr h4
      · refine ⟨trivial, trivial, trivial, hlt, found, hmiss ?_, hhere _ _ _ (by omega) rfl⟩
        simp only [heardE, Bool.and_eq_false_iff]; exact .inl (.inr h3)
      · refine ⟨trivial, trivial, trivial, hlt, found, hmiss ?_, hhere _ _ _ (by omega) rfl⟩
        simp only [heardE, Bool.and_eq_false_iff]; exact .inl (.inl h2)
    · intro hge
      obtain rfl : k = acts.length := by simp at hge; omega
      exact ⟨rfl, hinv, ⟨rfl, rfl, by omega, rfl, rfl, rfl, rfl⟩⟩
  · exact hl.elim
end Go.Am.Cells
