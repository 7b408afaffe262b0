/- TopCellsOnAir: what a listening radio catches, told. -/
import Derived.Test.YtpkljgaokgfpnaaGreatDoorCatch
set_option maxRecDepth 1000000
set_option linter.unusedVariables false
set_option linter.unusedSimpArgs false
set_option linter.unusedSectionVars false
namespace Go.Am.Cells
open Go Go.Am
def S66 : Specs := .plain P1 (fun loc => match loc with
  | some (66, [false, true]) => some L66
  | _ => none)
theorem S66ok : SpecsOk C S66 := by
  refine .of P1ok rfl rfl (fun f p spec h fn body c h1 h2 h3 ro e h' Q hl => ?_)
  simp only [S66, Specs.plain] at h
  split at h <;> (try (cases h; done)) <;> (rename_i heq; simp only [Option.some.injEq, Prod.mk.injEq] at heq; obtain ⟨rfl, rfl⟩ := heq; injection h with h; subst h)
  exact L66ok h1 h2 h3 ro e h' Q hl
theorem vcr29 (acts pls : List (List AV)) (f1 f2 : Bool) (r i : Int) (K : KT2) : (wpF C S66 1000 66 [.yield 13, .ptr 7 0, .ptr 8 0] (rangeP 13 (kobs2 [0, 1, 2, 4, 5] [0, 1, 2, 12] K) ⟨33, env29 acts pls f1 f2 r i, [12]⟩) (mkH 14 (ids66.zip (os66 acts pls f1 f2 r i (-1) 0 .ready none)))) = (acts = acts ∧
  f1 = f1 ∧
    [some (AObj.cells [AV.lst acts f1, AV.lst pls f2, AV.int IntKind.i64 r]), some (AObj.cells [AV.int IntKind.i64 0]), some (AObj.cells [AV.int IntKind.i64 (-1)]),
          some (AObj.cells [AV.lst acts f1, AV.lst pls f2, AV.int IntKind.i64 r]), some (AObj.cells [AV.int IntKind.i64 i]), some AObj.deferred,
          some
            (AObj.loop LoopState.ready none 33
              (Tr.node (some (AV.agg [AV.lst acts f1, AV.lst pls f2, AV.int IntKind.i64 r]))
                (Tr.node (some (AV.int IntKind.i64 i)) (Tr.node none (Tr.node (some (AV.agg [AV.lst acts f1, AV.lst pls f2, AV.int IntKind.i64 r])) Tr.nil Tr.nil) Tr.nil)
                  (Tr.node (some (AV.ptr 2 0)) (Tr.node (some (AV.func (Fn.func 66) [] [AV.ptr 7 0, AV.ptr 8 0])) Tr.nil Tr.nil) Tr.nil))
                (Tr.node (some (AV.ptr 0 0)) (Tr.node (some (AV.ptr 1 0)) (Tr.node (some (AV.int IntKind.i64 i)) Tr.nil Tr.nil) Tr.nil) Tr.nil))
              { toList := [10] } (rfA 29 [false, true, false, true, true]) (rfB 29 [false, true, false, true, true]) 12)] =
        [some (AObj.cells [AV.lst acts f1, AV.lst pls f2, AV.int IntKind.i64 r]), some (AObj.cells [AV.int IntKind.i64 0]), some (AObj.cells [AV.int IntKind.i64 (-1)]),
          some (AObj.cells [AV.lst acts f1, AV.lst pls f2, AV.int IntKind.i64 r]), some (AObj.cells [AV.int IntKind.i64 i]), some AObj.deferred,
          some
            (AObj.loop LoopState.ready none 33
              (Tr.node (some (AV.agg [AV.lst acts f1, AV.lst pls f2, AV.int IntKind.i64 r]))
                (Tr.node (some (AV.int IntKind.i64 i)) (Tr.node none (Tr.node (some (AV.agg [AV.lst acts f1, AV.lst pls f2, AV.int IntKind.i64 r])) Tr.nil Tr.nil) Tr.nil)
                  (Tr.node (some (AV.ptr 2 0)) (Tr.node (some (AV.func (Fn.func 66) [] [AV.ptr 7 0, AV.ptr 8 0])) Tr.nil Tr.nil) Tr.nil))
                (Tr.node (some (AV.ptr 0 0)) (Tr.node (some (AV.ptr 1 0)) (Tr.node (some (AV.int IntKind.i64 i)) Tr.nil Tr.nil) Tr.nil) Tr.nil))
              { toList := [10] } (rfA 29 [false, true, false, true, true]) (rfB 29 [false, true, false, true, true]) 12)] ∧
      req ((↑acts.length : Int) == (↑acts.length : Int) && decide (0 ≤ i) && decide (i < (↑acts.length : Int)) && short acts && acts.all (wf 5) && pls.all (wf 2) && pls.length.beq acts.length)
        ((∀ (found : Int),
            foundP acts pls r i.toNat acts.length found →
              K AX.normal 33 [12] [some (AV.agg [AV.lst acts f1, AV.lst pls f2, AV.int IntKind.i64 r]), some (AV.int IntKind.i64 i), some (AV.ptr 0 0), some (AV.ptr 1 0), some (AV.ptr 2 0)]
                [some (AObj.cells [AV.lst acts f1, AV.lst pls f2, AV.int IntKind.i64 r]), some (AObj.cells [AV.int IntKind.i64 0]), some (AObj.cells [AV.int IntKind.i64 found]), some AObj.deferred]
                18) ∧
          ∀ (found : Int),
            twoP acts pls r i.toNat acts.length →
              K AX.ret 33 [12] [some (AV.agg [AV.lst acts f1, AV.lst pls f2, AV.int IntKind.i64 r]), some (AV.int IntKind.i64 i), some (AV.ptr 0 0), some (AV.ptr 1 0), some (AV.ptr 2 0)]
                [some (AObj.cells [AV.lst acts f1, AV.lst pls f2, AV.int IntKind.i64 r]), some (AObj.cells [AV.int IntKind.i64 (-2)]), some (AObj.cells [AV.int IntKind.i64 found]), some AObj.deferred]
                18)) := by kernel_rfl

theorem code29 : codeAt (bodyOf 29) p29 = some (.rangeFunc (.tmp 9) #[10] (rfA 29 p29) (rfB 29 p29)) := by kernel_rfl
def R29 : Option Nat → Env → AH → AQ → Prop := fun ro e h Q =>
  match ro, obs e [0, 1, 2, 4, 5, 7, 8, 9], [0, 1, 2, 7, 8].map h.get with
  | none, [some (.agg [.lst acts f1, .lst pls f2, .int .i64 r]), some (.int .i64 i), some (.ptr 0 0), some (.ptr 1 0), some (.ptr 2 0), some (.agg [.lst acts' f1', .lst pls' f2', .int .i64 r']), some (.int .i64 i'), some (.func (.func 66) [] [.ptr 7 0, .ptr 8 0])],
    [some (.cells [.lst acts2 f12, .lst pls2 f22, .int .i64 r2]), some (.cells [.int .i64 0]), some (.cells [.int .i64 (-1)]), some (.cells [.lst acts3 f13, .lst pls3 f23, .int .i64 r3]), some (.cells [.int .i64 i3])] =>
    (acts' = acts ∧ f1' = f1 ∧ pls' = pls ∧ f2' = f2 ∧ r' = r ∧ i' = i) ∧ (acts2 = acts ∧ f12 = f1 ∧ pls2 = pls ∧ f22 = f2 ∧ r2 = r) ∧ (acts3 = acts ∧ f13 = f1 ∧ pls3 = pls ∧ f23 = f2 ∧ r3 = r ∧ i3 = i) ∧
    req (Nat.beq e.n 33 && e.ds.isEmpty && Nat.beq h.next 12) (req (decide (0 ≤ i) && decide (i < acts.length) && short acts && acts.all (wf 5) && pls.all (wf 2) && Nat.beq pls.length acts.length)
      ((∀ found : Int, foundP acts pls r i.toNat acts.length found → Q .normal ⟨33, mkTE (List.zip [0, 1, 2, 4, 5] [.agg (wE acts pls f1 f2 r), .i i, .ptr 0 0, .ptr 1 0, .ptr 2 0]), [12]⟩ (mkH 20 (List.zip [0, 1, 2, 12] [.cells (wE acts pls f1 f2 r), .cells [.i 0], .cells [.i found], .deferred]))) ∧
        (∀ found : Int, twoP acts pls r i.toNat acts.length → Q .ret ⟨33, mkTE (List.zip [0, 1, 2, 4, 5] [.agg (wE acts pls f1 f2 r), .i i, .ptr 0 0, .ptr 1 0, .ptr 2 0]), [12]⟩ (mkH 20 (List.zip [0, 1, 2, 12] [.cells (wE acts pls f1 f2 r), .cells [.i (-2)], .cells [.i found], .deferred])))))
  | _, _, _ => False
theorem R29ok {fn : Func} {body a b : Code} {g : Operand} {ps : Array Tmp} (h1 : C.F 29 = some fn) (h2 : fn.body = some body) (h3 : codeAt body p29 = some (.rangeFunc g ps a b)) (ro : Option Nat) (e : Env) (h : AH) (Q : AQ) (hl : R29 ro e h Q) : ASem C ro (.rangeFunc g ps a b) Q e h := by
  have hb : body = bodyOf 29 := by simp only [bodyOf, h1, h2]
  subst hb
  rw [code29] at h3
  simp only [Option.some.injEq, Code.rangeFunc.injEq] at h3
  obtain ⟨rfl, rfl, rfl, rfl⟩ := h3
  unfold R29 at hl
  split at hl
  · rename_i acts f1 pls f2 r i acts' f1' pls' f2' r' i' acts2 f12 pls2 f22 r2 acts3 f13 pls3 f23 r3 i3 hob hoh
    obtain ⟨⟨rfl, rfl, rfl, rfl, rfl, rfl⟩, ⟨rfl, rfl, rfl, rfl, rfl⟩, ⟨rfl, rfl, rfl, rfl, rfl, rfl⟩, hl⟩ := hl
    simp only [req_iff, Bool.and_eq_true, List.isEmpty_iff, beq_iff_eq, decide_eq_true_eq] at hl
    obtain ⟨⟨⟨n1, n2⟩, n3⟩, ⟨⟨⟨⟨⟨hi0, hi1⟩, hsh⟩, hwa⟩, hwp⟩, hlen⟩, q1, q2⟩ := hl
    have n1 := Nat.eq_of_beq_eq_true n1
    have n3 := Nat.eq_of_beq_eq_true n3
    refine asem_pre (e0 := mkE 33 (List.zip [0, 1, 2, 4, 5, 7, 8, 9] [.agg (wE acts3 pls3 f13 f23 r3), .i i3, .ptr 0 0, .ptr 1 0, .ptr 2 0, .agg (wE acts3 pls3 f13 f23 r3), .i i3, .func (.func 66) [] [.ptr 7 0, .ptr 8 0]]))
      (h0 := mkH 12 (List.zip [0, 1, 2, 7, 8] [.cells (wE acts3 pls3 f13 f23 r3), .cells [.i 0], .cells [.i (-1)], .cells (wE acts3 pls3 f13 f23 r3), .cells [.i i3]])) n1.symm n2.symm (he_of_obs (by rw [hob]; rfl)) (ho_zip (by rw [hoh]; rfl)) n3.symm ?_
    let ob0 : List (Option AV) := [some (.agg (wE acts3 pls3 f13 f23 r3)), some (.i i3), some (.ptr 0 0), some (.ptr 1 0), some (.ptr 2 0)]
    let oh0 : Int → Int → List (Option AObj) := fun found res => [some (.cells (wE acts3 pls3 f13 f23 r3)), some (.cells [.i res]), some (.cells [.i found]), some .deferred]
    refine asem_list (ts := [0, 1, 2, 4, 5]) (ids := [0, 1, 2, 12]) (K := fun x n ds ob oh nx => n = 33 ∧ ds = [12] ∧ nx = 18 ∧ ob = ob0 ∧ ((x = .normal ∧ ∃ found, foundP acts3 pls3 r3 i3.toNat acts3.length found ∧ oh = oh0 found 0) ∨ (x = .ret ∧ ∃ found, twoP acts3 pls3 r3 i3.toNat acts3.length ∧ oh = oh0 found (-2))))
      (asem_rangeFunc (lp := 13) (e' := ⟨33, env29 acts3 pls3 f13 f23 r3 i3, [12]⟩) (h' := mkH 14 (ids66.zip (os66 acts3 pls3 f13 f23 r3 i3 (-1) 0 .ready none))) hC (f := 66) (fi := []) (ca := [.ptr 7 0, .ptr 8 0]) rfl (by kernel_rfl) (by kernel_rfl) ?_) ?_
    · refine ((wpOk hC mixed S66ok 1000).f _ _ _ _ ?_).mono fun r h hr => rangeP_ok hr
      show wpF C S66 1000 66 [.yield 13, .ptr 7 0, .ptr 8 0] _ _
      rw [vcr29]
      simp only [req_iff, Bool.and_eq_true, beq_iff_eq, decide_eq_true_eq, true_and]
      exact ⟨⟨⟨⟨⟨⟨hi0, hi1⟩, hsh⟩, hwa⟩, hwp⟩, hlen⟩, fun found hf => ⟨rfl, .inl ⟨found, hf, rfl⟩⟩, fun found hf => ⟨rfl, .inr ⟨found, hf, rfl⟩⟩⟩
    · rintro x n ds ob oh nx ⟨rfl, rfl, rfl, rfl, hk⟩
      rcases hk with ⟨rfl, found, hf, rfl⟩ | ⟨rfl, found, hf, rfl⟩
      · exact ⟨[.agg (wE acts3 pls3 f13 f23 r3), .i i3, .ptr 0 0, .ptr 1 0, .ptr 2 0], [.cells (wE acts3 pls3 f13 f23 r3), .cells [.i 0], .cells [.i found], .deferred], 20, rfl, rfl, by omega, q1 found hf⟩
      · exact ⟨[.agg (wE acts3 pls3 f13 f23 r3), .i i3, .ptr 0 0, .ptr 1 0, .ptr 2 0], [.cells (wE acts3 pls3 f13 f23 r3), .cells [.i (-2)], .cells [.i found], .deferred], 20, rfl, rfl, by omega, q2 found hf⟩
  · exact hl.elim
def S29 : Specs := { P := P1, L := fun _ => none, R := fun loc => match loc with
  | some (29, [false, true, false, true, true]) => some R29
  | _ => none }
theorem S29ok : SpecsOk C S29 := by
  refine ⟨P1ok, rfl, fun _ _ _ h => (by cases h), rfl, fun f p spec h fn body g ps a b h1 h2 h3 ro e h' Q hl => ?_⟩
  simp only [S29] at h
  split at h <;> (try (cases h; done)) <;> (rename_i heq; simp only [Option.some.injEq, Prod.mk.injEq] at heq; obtain ⟨rfl, rfl⟩ := heq; injection h with h; subst h)
  exact R29ok h1 h2 h3 ro e h' Q hl
theorem vcf29 (acts pls : List (List AV)) (f1 f2 : Bool) (r i : Int) (K : AV → Prop) : (wpF C S29 1000 29 [.agg [.lst acts f1, .lst pls f2, .i r], .i i] (retR fun u _ => K u) ⟨0, .nil⟩) = ((acts = acts ∧ f1 = f1 ∧ pls = pls ∧ f2 = f2 ∧ r = r ∧ i = i) ∧
  (acts = acts ∧ f1 = f1 ∧ pls = pls ∧ f2 = f2 ∧ r = r) ∧
    (acts = acts ∧ f1 = f1 ∧ pls = pls ∧ f2 = f2 ∧ r = r ∧ i = i) ∧
      req (decide (0 ≤ i) && decide (i < (↑acts.length : Int)) && short acts && acts.all (wf 5) && pls.all (wf 2) && pls.length.beq acts.length)
        ((∀ (found : Int),
            foundP acts pls r i.toNat acts.length found →
              cas (found != -1)
                (req (decide (0 ≤ found) && decide (found < (↑acts.length : Int)))
                  (req ((acts.getD found.toNat []).length.beq 5)
                    (req (Nat.ble 1 (List.drop 2 (acts.getD found.toNat [])).length)
                      (req (isInt IntKind.i64 ((List.drop 2 (acts.getD found.toNat [])).getD 0 (AV.tup [])) && true)
                        (req (decide (0 ≤ i) && decide (i < (↑acts.length : Int)))
                          (req ((acts.getD i.toNat []).length.beq 5)
                            (req (Nat.ble 2 (List.drop 3 (acts.getD i.toNat [])).length)
                              (req
                                (isInt IntKind.i64 ((List.drop 3 (acts.getD i.toNat [])).getD 0 (AV.tup [])) && (isInt IntKind.i64 ((List.drop 3 (acts.getD i.toNat [])).getD 1 (AV.tup [])) && true))
                                (cas
                                  (!(decide (intOf ((List.drop 2 (acts.getD found.toNat [])).getD 0 (AV.tup [])) ≥ intOf ((List.drop 3 (acts.getD i.toNat [])).getD 0 (AV.tup []))) &&
                                      decide (intOf ((List.drop 2 (acts.getD found.toNat [])).getD 0 (AV.tup [])) ≤ intOf ((List.drop 3 (acts.getD i.toNat [])).getD 1 (AV.tup [])))))
                                  (K (AV.int IntKind.i64 (-1))) (K (AV.int IntKind.i64 found)))))))))))
                (K (AV.int IntKind.i64 found))) ∧
          ∀ (found : Int), twoP acts pls r i.toNat acts.length → K (AV.int IntKind.i64 (-2)))) := by kernel_rfl

/-- A row of an action whose window is the slot's beginning. -/
def wfA (c : List AV) : Bool := wf 5 c && (fld c 2 == 0) && (fld c 3 == 0) && (fld c 4 == 0)
/-- What a listening radio catches. -/
def catchP (acts pls : List (List AV)) (r : Int) (i : Nat) (v : Int) : Prop := foundP acts pls r i acts.length v ∨ (v = -2 ∧ twoP acts pls r i acts.length)
theorem wfA_all {acts : List (List AV)} (h : acts.all wfA = true) : acts.all (wf 5) = true := by
  rw [List.all_eq_true] at h ⊢
  intro x hx
  have := h x hx
  simp only [wfA, Bool.and_eq_true] at this
  exact this.1.1.1
theorem t29 (acts pls : List (List AV)) (f1 f2 : Bool) (r : Int) (i : Nat) (K : AV → Prop) (hi : i < acts.length) (hs : short acts = true) (hw : acts.all wfA = true) (hp : pls.all (wf 2) = true) (hl : pls.length = acts.length) (hK : ∀ v, catchP acts pls r i v → K (.i v)) :
    ATold C 29 [.agg [.lst acts f1, .lst pls f2, .i r], .i i] K := by
  refine atold_val hC mixed S29ok (n := 1000) rfl ?_
  rw [vcf29 _ _ _ _ _ _ (fun u => idfree u = true ∧ K u)]
  have hw5 := wfA_all hw
  simp only [req_iff, cas_iff, Bool.and_eq_true, decide_eq_true_eq, true_and, hs, hw5, hp, hl, idfree, and_true]
  refine ⟨⟨⟨by omega, by omega⟩, by simp⟩, fun found hf => ?_, fun found hf => ?_⟩
  · have hf : foundP acts pls r i acts.length found := hf
    refine ⟨fun hne => ?_, fun _ => hK _ (.inl hf)⟩
    rcases hf with ⟨e1, _⟩ | ⟨j, g1, rfl, g3, g4⟩
    · rw [e1] at hne; cases hne
    have hjj : (j : Int).toNat = j := rfl
    have hii : (i : Int).toNat = i := rfl
    have a1 := all_getD hw g1 []
    have a2 := all_getD hw hi []
    simp only [wfA, Bool.and_eq_true, beq_iff_eq] at a1 a2
    have l1 := wf_len a1.1.1.1
    have l2 := wf_len a2.1.1.1
    have j2 := wf_int a1.1.1.1 (j := 2) (by omega)
    have k3 := wf_int a2.1.1.1 (j := 3) (by omega)
    have k4 := wf_int a2.1.1.1 (j := 4) (by omega)
    have z1 := a1.1.1.2
    have z2 := a2.1.2
    have z3 := a2.2
    simp only [fld] at z1 z2 z3
    simp only [hjj, hii, drop_getD, List.length_drop, l1, l2, j2, k3, k4, z1, z2, z3, Nat.add_zero]
    refine ⟨⟨by simp, by simp; omega⟩, by simp, by simp, trivial, ⟨by omega, by omega⟩, by simp, by simp, by simp, fun hx => by simp at hx, fun _ => hK _ (.inl (.inr ⟨j, g1, rfl, g3, g4⟩))⟩
  · exact hK _ (.inr ⟨rfl, hf⟩)
end Go.Am.Cells
