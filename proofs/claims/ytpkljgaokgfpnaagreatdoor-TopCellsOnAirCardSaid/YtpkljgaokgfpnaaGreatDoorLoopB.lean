/- TopCellsOnAir: is a table valid? -/
import Derived.Test.YtpkljgaokgfpnaaGreatDoorLoopA
set_option maxRecDepth 1000000
set_option linter.unusedVariables false
set_option linter.unusedSimpArgs false
set_option linter.unusedSectionVars false
namespace Go.Am.Cells
open Go Go.Am
def useE (n d : Int) (c : List AV) : Bool := useV (fld c 0) (fld c 1) (fld c 2) (fld c 3) n d
def grantE (n d : Int) (c : List AV) : Bool := grantV (fld c 0) (fld c 1) (fld c 2) (fld c 3) (fld c 4) n d
def askE (n d : Int) (c : List AV) : Bool := cellV (fld c 0) (fld c 1) (fld c 2) n d
def okCs (D : Nat) (cs : List AV) : Bool := Nat.beq cs.length D && cs.all (isInt .i64)
theorem okCs_iff {D : Nat} {cs : List AV} : okCs D cs = true ↔ cs.length = D ∧ ∀ x ∈ cs, isInt .i64 x = true := by
  simp only [okCs, Bool.and_eq_true, List.all_eq_true]
  exact ⟨fun h => ⟨Nat.eq_of_beq_eq_true h.1, h.2⟩, fun h => ⟨by rw [h.1]; simp, h.2⟩⟩
theorem isInt_free {k : IntKind} {x : AV} (h : isInt k x = true) : idfree x = true := by cases x <;> simp_all [isInt, idfree]
theorem okCs_free {D : Nat} {cs : List AV} (h : okCs D cs = true) : idfreeL cs = true := idfreeL_iff.2 fun x hx => isInt_free ((okCs_iff.1 h).2 x hx)
theorem okCs_get {D : Nat} {cs : List AV} (h : okCs D cs = true) {k : Nat} (hk : k < D) : isInt .i64 (cs.getD k .undef) = true := by
  obtain ⟨h1, h2⟩ := okCs_iff.1 h
  exact h2 _ (by simp [List.getD_eq_getElem?_getD, show k < cs.length by omega])
theorem okCs_splice {D : Nat} {cs : List AV} (h : okCs D cs = true) {k : Nat} (hk : k < D) (z : Int) : okCs D (splice cs k [.int .i64 z]) = true := by
  obtain ⟨h1, h2⟩ := okCs_iff.1 h
  refine okCs_iff.2 ⟨by simp [splice]; omega, fun x hx => ?_⟩
  simp only [splice, List.mem_append, List.mem_singleton] at hx
  rcases hx with (hx | rfl) | hx
  · exact h2 x (List.mem_of_mem_take hx)
  · rfl
  · exact h2 x (List.mem_of_mem_drop hx)
theorem okCs_repl (D : Nat) : okCs D (repl D [.int .i64 0]) = true := by
  have : ∀ D, repl D [AV.int .i64 0] = List.replicate D (.int .i64 0) := fun D => by induction D with
    | zero => rfl
    | succ D ih => rw [repl, ih]; rfl
  rw [this]
  refine okCs_iff.2 ⟨by simp, fun x hx => ?_⟩
  rw [List.eq_of_mem_replicate hx]; rfl
theorem slot_of {s o p n d : Int} (h : cellV s o p n d = true) : 0 ≤ s ∧ s < d := by
  simp only [cellV, Bool.and_eq_true, decide_eq_true_eq] at h
  omega
theorem drop_getD (x : List AV) (k j : Nat) (d : AV) : (List.drop k x).getD j d = x.getD (k + j) d := by simp [List.getD_eq_getElem?_getD]
theorem getI {D : Nat} {cs : List AV} (h : okCs D cs = true) : cs.length = D := (okCs_iff.1 h).1

def p5a : List Bool := [false, true, false, true, true, true]
theorem vc5a (u g a : List (List AV)) (f1 f2 f3 : Bool) (n d i : Int) (D : Nat) (cs : List AV) (K : KT) : (wpC C S1 1000 none (some (5, false :: p5a)) (loopAt 5 p5a) (kobs [2, 3, 4, 5, 6] K) (mkE 197 (List.zip [2, 3, 4, 5, 6] [.ptr 0 0, .ptr 1 0, .bool false, .sl 24 0 D D none, .i i])) (mkH 27 [(0, .cells [.lst u f1, .lst g f2, .lst a f3]), (1, .cells [.i n, .i d]), (24, .cells cs)])) = (cas (decide (i < (↑u.length : Int)))
  (req (decide (0 ≤ i) && decide (i < (↑u.length : Int)))
    (req ((u.getD i.toNat []).length.beq 4)
      (req (Nat.ble 4 (u.getD i.toNat []).length)
        (req
          (isInt IntKind.i64 ((u.getD i.toNat []).getD 0 (AV.tup [])) &&
            (isInt IntKind.i64 ((u.getD i.toNat []).getD 1 (AV.tup [])) &&
              (isInt IntKind.i64 ((u.getD i.toNat []).getD 2 (AV.tup [])) && (isInt IntKind.i64 ((u.getD i.toNat []).getD 3 (AV.tup [])) && true))))
          (cas
            (!useV (intOf ((u.getD i.toNat []).getD 0 (AV.tup []))) (intOf ((u.getD i.toNat []).getD 1 (AV.tup []))) (intOf ((u.getD i.toNat []).getD 2 (AV.tup [])))
                (intOf ((u.getD i.toNat []).getD 3 (AV.tup []))) n d)
            (K AX.ret 197 [] [some (AV.ptr 0 0), some (AV.ptr 1 0), some (AV.bool false), some (AV.sl 24 0 D D none), some (AV.int IntKind.i64 i)]
              { next := 63,
                tr :=
                  Tr.node (some (AObj.cells [AV.lst u f1, AV.lst g f2, AV.lst a f3])) (Tr.node (some (AObj.cells [AV.int IntKind.i64 n, AV.int IntKind.i64 d])) Tr.nil Tr.nil)
                    (Tr.node none (Tr.node none (Tr.node none Tr.nil (Tr.node (some (AObj.cells cs)) Tr.nil Tr.nil)) Tr.nil) Tr.nil) })
            (cas (decide (i > 0))
              (req (decide (0 ≤ IntKind.i64.wrap (i - 1)) && decide (IntKind.i64.wrap (i - 1) < (↑u.length : Int)))
                (req ((u.getD (IntKind.i64.wrap (i - 1)).toNat []).length.beq 4)
                  (req (Nat.ble 1 (u.getD (IntKind.i64.wrap (i - 1)).toNat []).length)
                    (req (isInt IntKind.i64 ((u.getD (IntKind.i64.wrap (i - 1)).toNat []).getD 0 (AV.tup [])) && true)
                      (req (decide (0 ≤ i) && decide (i < (↑u.length : Int)))
                        (req ((u.getD i.toNat []).length.beq 4)
                          (req (Nat.ble 1 (u.getD i.toNat []).length)
                            (req (isInt IntKind.i64 ((u.getD i.toNat []).getD 0 (AV.tup [])) && true)
                              (cas (decide (intOf ((u.getD (IntKind.i64.wrap (i - 1)).toNat []).getD 0 (AV.tup [])) ≥ intOf ((u.getD i.toNat []).getD 0 (AV.tup []))))
                                (K AX.ret 197 [] [some (AV.ptr 0 0), some (AV.ptr 1 0), some (AV.bool false), some (AV.sl 24 0 D D none), some (AV.int IntKind.i64 i)]
                                  { next := 63,
                                    tr :=
                                      Tr.node (some (AObj.cells [AV.lst u f1, AV.lst g f2, AV.lst a f3])) (Tr.node (some (AObj.cells [AV.int IntKind.i64 n, AV.int IntKind.i64 d])) Tr.nil Tr.nil)
                                        (Tr.node none (Tr.node none (Tr.node none Tr.nil (Tr.node (some (AObj.cells cs)) Tr.nil Tr.nil)) Tr.nil) Tr.nil) })
                                (req (decide (0 ≤ i) && decide (i < (↑u.length : Int)))
                                  (req ((u.getD i.toNat []).length.beq 4)
                                    (req (Nat.ble 1 (u.getD i.toNat []).length)
                                      (req (isInt IntKind.i64 ((u.getD i.toNat []).getD 0 (AV.tup [])) && true)
                                        (req (decide (0 ≤ intOf ((u.getD i.toNat []).getD 0 (AV.tup []))) && decide (intOf ((u.getD i.toNat []).getD 0 (AV.tup [])) < (↑D : Int)))
                                          (req ((0 + (intOf ((u.getD i.toNat []).getD 0 (AV.tup []))).toNat * 1 + 1).ble cs.length)
                                            (req (isInt IntKind.i64 (cs.getD (0 + (intOf ((u.getD i.toNat []).getD 0 (AV.tup []))).toNat * 1) (AV.tup [])) && true)
                                              (req (decide (0 ≤ intOf ((u.getD i.toNat []).getD 0 (AV.tup []))) && decide (intOf ((u.getD i.toNat []).getD 0 (AV.tup [])) < (↑D : Int)))
                                                (req ((0 + (intOf ((u.getD i.toNat []).getD 0 (AV.tup []))).toNat * 1 + 1).ble cs.length)
                                                  (K AX.normal 197 []
                                                    [some (AV.ptr 0 0), some (AV.ptr 1 0), some (AV.bool false), some (AV.sl 24 0 D D none), some (AV.int IntKind.i64 (IntKind.i64.wrap (i + 1)))]
                                                    { next := 78,
                                                      tr :=
                                                        Tr.node (some (AObj.cells [AV.lst u f1, AV.lst g f2, AV.lst a f3]))
                                                          (Tr.node (some (AObj.cells [AV.int IntKind.i64 n, AV.int IntKind.i64 d])) Tr.nil Tr.nil)
                                                          (Tr.node none
                                                            (Tr.node none
                                                              (Tr.node none Tr.nil
                                                                (Tr.node
                                                                  (some
                                                                    (AObj.cells
                                                                      (splice cs (0 + (intOf ((u.getD i.toNat []).getD 0 (AV.tup []))).toNat * 1)
                                                                        [AV.int IntKind.i64
                                                                            (IntKind.i64.wrap (intOf (cs.getD (0 + (intOf ((u.getD i.toNat []).getD 0 (AV.tup []))).toNat * 1) (AV.tup [])) + 1))])))
                                                                  Tr.nil Tr.nil))
                                                              Tr.nil)
                                                            Tr.nil) })))))))))))))))))))
              (req (decide (0 ≤ i) && decide (i < (↑u.length : Int)))
                (req ((u.getD i.toNat []).length.beq 4)
                  (req (Nat.ble 1 (u.getD i.toNat []).length)
                    (req (isInt IntKind.i64 ((u.getD i.toNat []).getD 0 (AV.tup [])) && true)
                      (req (decide (0 ≤ intOf ((u.getD i.toNat []).getD 0 (AV.tup []))) && decide (intOf ((u.getD i.toNat []).getD 0 (AV.tup [])) < (↑D : Int)))
                        (req ((0 + (intOf ((u.getD i.toNat []).getD 0 (AV.tup []))).toNat * 1 + 1).ble cs.length)
                          (req (isInt IntKind.i64 (cs.getD (0 + (intOf ((u.getD i.toNat []).getD 0 (AV.tup []))).toNat * 1) (AV.tup [])) && true)
                            (req (decide (0 ≤ intOf ((u.getD i.toNat []).getD 0 (AV.tup []))) && decide (intOf ((u.getD i.toNat []).getD 0 (AV.tup [])) < (↑D : Int)))
                              (req ((0 + (intOf ((u.getD i.toNat []).getD 0 (AV.tup []))).toNat * 1 + 1).ble cs.length)
                                (K AX.normal 197 [] [some (AV.ptr 0 0), some (AV.ptr 1 0), some (AV.bool false), some (AV.sl 24 0 D D none), some (AV.int IntKind.i64 (IntKind.i64.wrap (i + 1)))]
                                  { next := 78,
                                    tr :=
                                      Tr.node (some (AObj.cells [AV.lst u f1, AV.lst g f2, AV.lst a f3])) (Tr.node (some (AObj.cells [AV.int IntKind.i64 n, AV.int IntKind.i64 d])) Tr.nil Tr.nil)
                                        (Tr.node none
                                          (Tr.node none
                                            (Tr.node none Tr.nil
                                              (Tr.node
                                                (some
                                                  (AObj.cells
                                                    (splice cs (0 + (intOf ((u.getD i.toNat []).getD 0 (AV.tup []))).toNat * 1)
                                                      [AV.int IntKind.i64 (IntKind.i64.wrap (intOf (cs.getD (0 + (intOf ((u.getD i.toNat []).getD 0 (AV.tup []))).toNat * 1) (AV.tup [])) + 1))])))
                                                Tr.nil Tr.nil))
                                            Tr.nil)
                                          Tr.nil) }))))))))))))))))
  (K (AX.exit 0) 197 [] [some (AV.ptr 0 0), some (AV.ptr 1 0), some (AV.bool false), some (AV.sl 24 0 D D none), some (AV.int IntKind.i64 i)]
    { next := 32,
      tr :=
        Tr.node (some (AObj.cells [AV.lst u f1, AV.lst g f2, AV.lst a f3])) (Tr.node (some (AObj.cells [AV.int IntKind.i64 n, AV.int IntKind.i64 d])) Tr.nil Tr.nil)
          (Tr.node none (Tr.node none (Tr.node none Tr.nil (Tr.node (some (AObj.cells cs)) Tr.nil Tr.nil)) Tr.nil) Tr.nil) })) := by kernel_rfl

def L5a : Option Nat → Env → AH → AQ → Prop := fun ro e h Q =>
  match ro, obs e [2, 3, 4, 5, 6], h.get 0, h.get 1, h.get 24 with
  | none, [some (.ptr 0 0), some (.ptr 1 0), some (.bool false), some (.sl 24 0 D D' none), some (.int .i64 0)], some (.cells [.lst u f1, .lst g f2, .lst a f3]), some (.cells [.int .i64 n, .int .i64 d]), some (.cells cs) =>
    req (Nat.beq e.n 197 && e.ds.isEmpty && Nat.beq h.next 27) (req (Nat.beq D D' && (d == (D : Int)) && short u && u.all (wf 4) && okCs D cs)
      ((∀ cs', okCs D cs' = true → u.all (useE n d) = true → Q (.exit 0) (mkE 197 (List.zip [2, 3, 4, 5, 6] [.ptr 0 0, .ptr 1 0, .bool false, .sl 24 0 D D none, .i u.length])) (mkH 27 [(0, .cells [.lst u f1, .lst g f2, .lst a f3]), (1, .cells [.i n, .i d]), (24, .cells cs')])) ∧
        Q .ret (mkE 197 (List.zip [2, 3, 4, 5, 6] [.ptr 0 0, .ptr 1 0, .bool false])) (mkH 27 [])))
  | _, _, _, _, _ => False
theorem L5aok {fn : Func} {body c : Code} (h1 : C.F 5 = some fn) (h2 : fn.body = some body) (h3 : codeAt body p5a = some (.loop c)) (ro : Option Nat) (e : Env) (h : AH) (Q : AQ) (hl : L5a ro e h Q) : ASem C ro (.loop c) Q e h := by
  have hloc := loc_of h1 h2 h3
  obtain rfl := loopAt_eq h1 h2 h3
  unfold L5a at hl
  split at hl
  · rename_i D D' u f1 g f2 a f3 n d cs hob h0 h1' h24
    simp only [req_iff, Bool.and_eq_true, List.isEmpty_iff, beq_iff_eq] at hl
    obtain ⟨⟨⟨n1, n2⟩, n3⟩, ⟨⟨⟨⟨hD, hd⟩, hsh⟩, hwf⟩, hcs⟩, q1, q2⟩ := hl
    have n1 := Nat.eq_of_beq_eq_true n1
    have n3 := Nat.eq_of_beq_eq_true n3
    obtain rfl := Nat.eq_of_beq_eq_true hD
    have hsh := short_le hsh
    refine loop_idx (α := List AV) (τ := Unit) 197 27 27 0 u.length (Nat.le_refl _) [2, 3, 4, 5, 6] (fun i _ => [.ptr 0 0, .ptr 1 0, .bool false, .sl 24 0 D D none, .i i]) (fun _ cs => [(0, .cells [.lst u f1, .lst g f2, .lst a f3]), (1, .cells [.i n, .i d]), (24, .cells cs)])
      (fun i cs => okCs D cs = true ∧ ∀ j, j < i → useE n d (u.getD j []) = true)
      (fun _ => [.ptr 0 0, .ptr 1 0, .bool false]) (fun _ => []) (fun _ => True) (fun _ hx => by cases hx) ?_ n3 e cs ⟨hcs, fun j hj => by omega⟩ (he_of_obs (by rw [hob]; rfl)) n1 n2 (ho_cons h0 (ho_cons h1' (ho_cons h24 ho_nil))) ?_ ?_
    · intro i cs hi hinv
      refine (wpOk hC mixed S1ok 1000).c _ _ _ _ _ _ hloc ?_
      rw [vc5a]
      have hii : (i : Int).toNat = i := rfl
      rw [cas_iff]
      constructor
      · intro hlt
        have hlt : i < u.length := by simpa using hlt
        have hg := all_getD hwf hlt []
        have hgl := wf_len hg
        have i0 := wf_int hg (j := 0) (by omega)
        have i1 := wf_int hg (j := 1) (by omega)
        have i2 := wf_int hg (j := 2) (by omega)
        have i3 := wf_int hg (j := 3) (by omega)
        have hret : ∀ (b : AV) (x : Env) (N : Nat) (h : AH), 27 ≤ h.next → ∃ (y : Unit) (l : List Nat), True ∧ FixL 27 l ∧ l.length = 27 ∧ Met 197 l [.ptr 0 0, .ptr 1 0, .bool false] [] 197 [] [some (.ptr 0 0), some (.ptr 1 0), some (.bool false), some (.sl 24 0 D D none), some b] h := fun b x N h hN => ⟨(), _, trivial, met_here rfl rfl hN rfl rfl trivial⟩
        have hnorm : useE n d (u.getD i []) = true → (0 ≤ intOf ((u.getD i []).getD 0 (AV.tup [])) ∧ intOf ((u.getD i []).getD 0 (AV.tup [])) < (D : Int)) := fun hv => by
          have : cellV (fld (u.getD i []) 0) (fld (u.getD i []) 1) (fld (u.getD i []) 2) n d = true := by
            simp only [useE, useV, Bool.and_eq_true] at hv
            first | exact hv | exact hv.1.1 | exact hv.1.1.1
          have := slot_of this
          rw [hd] at this
          exact this
        have hstep : useE n d (u.getD i []) = true → ∀ (z : Int) (h' : AH), 27 ≤ h'.next → h'.get 0 = some (.cells [.lst u f1, .lst g f2, .lst a f3]) → h'.get 1 = some (.cells [.i n, .i d]) → h'.get 24 = some (.cells (splice cs (intOf ((u.getD i []).getD 0 (AV.tup []))).toNat [.int .i64 z])) →
            (i < u.length ∧ ∃ (a' : List AV) (l : List Nat), (okCs D a' = true ∧ ∀ j, j < i + 1 → useE n d (u.getD j []) = true) ∧ FixL 27 l ∧ l.length = 27 ∧ Met 197 l [.ptr 0 0, .ptr 1 0, .bool false, .sl 24 0 D D none, .i ((i + 1 : Nat) : Int)] [(0, .cells [.lst u f1, .lst g f2, .lst a f3]), (1, .cells [.i n, .i d]), (24, .cells a')] 197 []
              [some (.ptr 0 0), some (.ptr 1 0), some (.bool false), some (.sl 24 0 D D none), some (.int .i64 (IntKind.i64.wrap ((i : Int) + 1)))] h') := by
          intro hv z h' hN g0 g1 g24
          have hs := hnorm hv
          have hok := okCs_splice hinv.1 (k := (intOf ((u.getD i []).getD 0 (AV.tup []))).toNat) (by omega) z
          refine ⟨hlt, _, _, ⟨hok, ?_⟩, met_here rfl rfl hN ?_ rfl ⟨⟨g0, rfl, rfl⟩, ⟨g1, rfl, rfl⟩, ⟨g24, rfl, belowL_free (okCs_free hok)⟩, trivial⟩⟩
          · intro j hj
            rcases Nat.lt_or_ge j i with h' | h'
            · exact hinv.2 j h'
            · obtain rfl : j = i := by omega
              exact hv
          · rw [w64 (n := (i : Int) + 1) (by omega) (by omega)]
            rfl
        have hcl := getI hinv.1
        have c0 := fun hv => okCs_get hinv.1 (k := (intOf ((u.getD i []).getD 0 (AV.tup []))).toNat) (by have := hnorm hv; omega)
        have e1 : i > 0 → (IntKind.i64.wrap ((i : Int) - 1)).toNat = i - 1 ∧ 0 ≤ IntKind.i64.wrap ((i : Int) - 1) ∧ IntKind.i64.wrap ((i : Int) - 1) < u.length := fun hi0 => by
          rw [w64 (by omega) (by omega)]; omega
        simp only [req_iff, cas_iff, hii, hgl, i0, i1, i2, i3, Nat.zero_add, Nat.mul_one, hcl, drop_getD, Nat.add_zero]
        refine ⟨by simp only [Bool.and_eq_true, decide_eq_true_eq]; omega, rfl, rfl, rfl, fun hf => hret _ e 0 _ (by simp), fun ht => ?_⟩
        have hv : useE n d (u.getD i []) = true := by simpa [useE, fld] using ht
        have hs := hnorm hv
        have c0 := c0 hv
        refine ⟨fun hi0 => ?_, fun hi0 => ?_⟩
        · have hi0 : i > 0 := by simpa using hi0
          obtain ⟨e1, e2, e3⟩ := e1 hi0
          have hg' := all_getD hwf (show i - 1 < u.length by omega) []
          have hgl' := wf_len hg'
          have j0 := wf_int hg' (j := 0) (by omega)
          simp only [e1, hgl', j0, c0]
          refine ⟨by simp only [Bool.and_eq_true, decide_eq_true_eq]; omega, rfl, rfl, rfl, by simp only [Bool.and_eq_true, decide_eq_true_eq]; omega, rfl, rfl, rfl, fun hf => hret _ e 0 _ (by simp), fun hf => ?_⟩
          exact ⟨by simp only [Bool.and_eq_true, decide_eq_true_eq]; omega, rfl, rfl, rfl, by simp only [Bool.and_eq_true, decide_eq_true_eq]; omega, Nat.ble_eq_true_of_le (by omega), rfl, by simp only [Bool.and_eq_true, decide_eq_true_eq]; omega, Nat.ble_eq_true_of_le (by omega), hstep hv _ _ (by simp) rfl rfl rfl⟩
        · simp only [c0]
          exact ⟨by simp only [Bool.and_eq_true, decide_eq_true_eq]; omega, rfl, rfl, rfl, by simp only [Bool.and_eq_true, decide_eq_true_eq]; omega, Nat.ble_eq_true_of_le (by omega), rfl, by simp only [Bool.and_eq_true, decide_eq_true_eq]; omega, Nat.ble_eq_true_of_le (by omega), hstep hv _ _ (by simp) rfl rfl rfl⟩
      · intro hge
        obtain rfl : i = u.length := by simp at hge; omega
        exact ⟨rfl, _, hinv, met_here rfl rfl (by simp) rfl rfl ⟨⟨rfl, rfl, rfl⟩, ⟨rfl, rfl, rfl⟩, ⟨rfl, rfl, belowL_free (okCs_free hinv.1)⟩, trivial⟩⟩
    · intro cs ha
      refine q1 cs ha.1 ?_
      rw [List.all_eq_true]
      intro x hx
      obtain ⟨j, hj, rfl⟩ := List.mem_iff_getElem.1 hx
      have := ha.2 j hj
      simpa [List.getD_eq_getElem?_getD, hj] using this
    · intro y hy
      exact q2
  · exact hl.elim

def p5b : List Bool := [false, true, false, true, true, true, true]
theorem vc5b (u g a : List (List AV)) (f1 f2 f3 : Bool) (n d i : Int) (D : Nat) (cs : List AV) (K : KT) : (wpC C S1 1000 none (some (5, false :: p5b)) (loopAt 5 p5b) (kobs [2, 3, 4, 5, 7] K) (mkE 197 (List.zip [2, 3, 4, 5, 7] [.ptr 0 0, .ptr 1 0, .bool false, .sl 24 0 D D none, .i i])) (mkH 28 [(0, .cells [.lst u f1, .lst g f2, .lst a f3]), (1, .cells [.i n, .i d]), (24, .cells cs)])) = (cas (decide (i < (↑g.length : Int)))
  (req (decide (0 ≤ i) && decide (i < (↑g.length : Int)))
    (req ((g.getD i.toNat []).length.beq 5)
      (req (Nat.ble 5 (g.getD i.toNat []).length)
        (req
          (isInt IntKind.i64 ((g.getD i.toNat []).getD 0 (AV.tup [])) &&
            (isInt IntKind.i64 ((g.getD i.toNat []).getD 1 (AV.tup [])) &&
              (isInt IntKind.i64 ((g.getD i.toNat []).getD 2 (AV.tup [])) &&
                (isInt IntKind.i64 ((g.getD i.toNat []).getD 3 (AV.tup [])) && (isInt IntKind.i64 ((g.getD i.toNat []).getD 4 (AV.tup [])) && true)))))
          (cas
            (!grantV (intOf ((g.getD i.toNat []).getD 0 (AV.tup []))) (intOf ((g.getD i.toNat []).getD 1 (AV.tup []))) (intOf ((g.getD i.toNat []).getD 2 (AV.tup [])))
                (intOf ((g.getD i.toNat []).getD 3 (AV.tup []))) (intOf ((g.getD i.toNat []).getD 4 (AV.tup []))) n d)
            (K AX.ret 197 [] [some (AV.ptr 0 0), some (AV.ptr 1 0), some (AV.bool false), some (AV.sl 24 0 D D none), some (AV.int IntKind.i64 i)]
              { next := 64,
                tr :=
                  Tr.node (some (AObj.cells [AV.lst u f1, AV.lst g f2, AV.lst a f3])) (Tr.node (some (AObj.cells [AV.int IntKind.i64 n, AV.int IntKind.i64 d])) Tr.nil Tr.nil)
                    (Tr.node none (Tr.node none (Tr.node none Tr.nil (Tr.node (some (AObj.cells cs)) Tr.nil Tr.nil)) Tr.nil) Tr.nil) })
            (cas (decide (i > 0))
              (req (decide (0 ≤ IntKind.i64.wrap (i - 1)) && decide (IntKind.i64.wrap (i - 1) < (↑g.length : Int)))
                (req ((g.getD (IntKind.i64.wrap (i - 1)).toNat []).length.beq 5)
                  (req (Nat.ble 1 (g.getD (IntKind.i64.wrap (i - 1)).toNat []).length)
                    (req (isInt IntKind.i64 ((g.getD (IntKind.i64.wrap (i - 1)).toNat []).getD 0 (AV.tup [])) && true)
                      (req (decide (0 ≤ i) && decide (i < (↑g.length : Int)))
                        (req ((g.getD i.toNat []).length.beq 5)
                          (req (Nat.ble 1 (g.getD i.toNat []).length)
                            (req (isInt IntKind.i64 ((g.getD i.toNat []).getD 0 (AV.tup [])) && true)
                              (cas (decide (intOf ((g.getD (IntKind.i64.wrap (i - 1)).toNat []).getD 0 (AV.tup [])) ≥ intOf ((g.getD i.toNat []).getD 0 (AV.tup []))))
                                (K AX.ret 197 [] [some (AV.ptr 0 0), some (AV.ptr 1 0), some (AV.bool false), some (AV.sl 24 0 D D none), some (AV.int IntKind.i64 i)]
                                  { next := 64,
                                    tr :=
                                      Tr.node (some (AObj.cells [AV.lst u f1, AV.lst g f2, AV.lst a f3])) (Tr.node (some (AObj.cells [AV.int IntKind.i64 n, AV.int IntKind.i64 d])) Tr.nil Tr.nil)
                                        (Tr.node none (Tr.node none (Tr.node none Tr.nil (Tr.node (some (AObj.cells cs)) Tr.nil Tr.nil)) Tr.nil) Tr.nil) })
                                (req (decide (0 ≤ i) && decide (i < (↑g.length : Int)))
                                  (req ((g.getD i.toNat []).length.beq 5)
                                    (req (Nat.ble 1 (g.getD i.toNat []).length)
                                      (req (isInt IntKind.i64 ((g.getD i.toNat []).getD 0 (AV.tup [])) && true)
                                        (req (decide (0 ≤ intOf ((g.getD i.toNat []).getD 0 (AV.tup []))) && decide (intOf ((g.getD i.toNat []).getD 0 (AV.tup [])) < (↑D : Int)))
                                          (req ((0 + (intOf ((g.getD i.toNat []).getD 0 (AV.tup []))).toNat * 1 + 1).ble cs.length)
                                            (req (isInt IntKind.i64 (cs.getD (0 + (intOf ((g.getD i.toNat []).getD 0 (AV.tup []))).toNat * 1) (AV.tup [])) && true)
                                              (req (decide (0 ≤ intOf ((g.getD i.toNat []).getD 0 (AV.tup []))) && decide (intOf ((g.getD i.toNat []).getD 0 (AV.tup [])) < (↑D : Int)))
                                                (req ((0 + (intOf ((g.getD i.toNat []).getD 0 (AV.tup []))).toNat * 1 + 1).ble cs.length)
                                                  (K AX.normal 197 []
                                                    [some (AV.ptr 0 0), some (AV.ptr 1 0), some (AV.bool false), some (AV.sl 24 0 D D none), some (AV.int IntKind.i64 (IntKind.i64.wrap (i + 1)))]
                                                    { next := 79,
                                                      tr :=
                                                        Tr.node (some (AObj.cells [AV.lst u f1, AV.lst g f2, AV.lst a f3]))
                                                          (Tr.node (some (AObj.cells [AV.int IntKind.i64 n, AV.int IntKind.i64 d])) Tr.nil Tr.nil)
                                                          (Tr.node none
                                                            (Tr.node none
                                                              (Tr.node none Tr.nil
                                                                (Tr.node
                                                                  (some
                                                                    (AObj.cells
                                                                      (splice cs (0 + (intOf ((g.getD i.toNat []).getD 0 (AV.tup []))).toNat * 1)
                                                                        [AV.int IntKind.i64
                                                                            (IntKind.i64.wrap (intOf (cs.getD (0 + (intOf ((g.getD i.toNat []).getD 0 (AV.tup []))).toNat * 1) (AV.tup [])) + 1))])))
                                                                  Tr.nil Tr.nil))
                                                              Tr.nil)
                                                            Tr.nil) })))))))))))))))))))
              (req (decide (0 ≤ i) && decide (i < (↑g.length : Int)))
                (req ((g.getD i.toNat []).length.beq 5)
                  (req (Nat.ble 1 (g.getD i.toNat []).length)
                    (req (isInt IntKind.i64 ((g.getD i.toNat []).getD 0 (AV.tup [])) && true)
                      (req (decide (0 ≤ intOf ((g.getD i.toNat []).getD 0 (AV.tup []))) && decide (intOf ((g.getD i.toNat []).getD 0 (AV.tup [])) < (↑D : Int)))
                        (req ((0 + (intOf ((g.getD i.toNat []).getD 0 (AV.tup []))).toNat * 1 + 1).ble cs.length)
                          (req (isInt IntKind.i64 (cs.getD (0 + (intOf ((g.getD i.toNat []).getD 0 (AV.tup []))).toNat * 1) (AV.tup [])) && true)
                            (req (decide (0 ≤ intOf ((g.getD i.toNat []).getD 0 (AV.tup []))) && decide (intOf ((g.getD i.toNat []).getD 0 (AV.tup [])) < (↑D : Int)))
                              (req ((0 + (intOf ((g.getD i.toNat []).getD 0 (AV.tup []))).toNat * 1 + 1).ble cs.length)
                                (K AX.normal 197 [] [some (AV.ptr 0 0), some (AV.ptr 1 0), some (AV.bool false), some (AV.sl 24 0 D D none), some (AV.int IntKind.i64 (IntKind.i64.wrap (i + 1)))]
                                  { next := 79,
                                    tr :=
                                      Tr.node (some (AObj.cells [AV.lst u f1, AV.lst g f2, AV.lst a f3])) (Tr.node (some (AObj.cells [AV.int IntKind.i64 n, AV.int IntKind.i64 d])) Tr.nil Tr.nil)
                                        (Tr.node none
                                          (Tr.node none
                                            (Tr.node none Tr.nil
                                              (Tr.node
                                                (some
                                                  (AObj.cells
                                                    (splice cs (0 + (intOf ((g.getD i.toNat []).getD 0 (AV.tup []))).toNat * 1)
                                                      [AV.int IntKind.i64 (IntKind.i64.wrap (intOf (cs.getD (0 + (intOf ((g.getD i.toNat []).getD 0 (AV.tup []))).toNat * 1) (AV.tup [])) + 1))])))
                                                Tr.nil Tr.nil))
                                            Tr.nil)
                                          Tr.nil) }))))))))))))))))
  (K (AX.exit 2) 197 [] [some (AV.ptr 0 0), some (AV.ptr 1 0), some (AV.bool false), some (AV.sl 24 0 D D none), some (AV.int IntKind.i64 i)]
    { next := 33,
      tr :=
        Tr.node (some (AObj.cells [AV.lst u f1, AV.lst g f2, AV.lst a f3])) (Tr.node (some (AObj.cells [AV.int IntKind.i64 n, AV.int IntKind.i64 d])) Tr.nil Tr.nil)
          (Tr.node none (Tr.node none (Tr.node none Tr.nil (Tr.node (some (AObj.cells cs)) Tr.nil Tr.nil)) Tr.nil) Tr.nil) })) := by kernel_rfl

def L5b : Option Nat → Env → AH → AQ → Prop := fun ro e h Q =>
  match ro, obs e [2, 3, 4, 5, 7], h.get 0, h.get 1, h.get 24 with
  | none, [some (.ptr 0 0), some (.ptr 1 0), some (.bool false), some (.sl 24 0 D D' none), some (.int .i64 0)], some (.cells [.lst u f1, .lst g f2, .lst a f3]), some (.cells [.int .i64 n, .int .i64 d]), some (.cells cs) =>
    req (Nat.beq e.n 197 && e.ds.isEmpty && Nat.beq h.next 28) (req (Nat.beq D D' && (d == (D : Int)) && short g && g.all (wf 5) && okCs D cs)
      ((∀ cs', okCs D cs' = true → g.all (grantE n d) = true → Q (.exit 2) (mkE 197 (List.zip [2, 3, 4, 5, 7] [.ptr 0 0, .ptr 1 0, .bool false, .sl 24 0 D D none, .i g.length])) (mkH 28 [(0, .cells [.lst u f1, .lst g f2, .lst a f3]), (1, .cells [.i n, .i d]), (24, .cells cs')])) ∧
        Q .ret (mkE 197 (List.zip [2, 3, 4, 5, 7] [.ptr 0 0, .ptr 1 0, .bool false])) (mkH 28 [])))
  | _, _, _, _, _ => False
theorem L5bok {fn : Func} {body c : Code} (h1 : C.F 5 = some fn) (h2 : fn.body = some body) (h3 : codeAt body p5b = some (.loop c)) (ro : Option Nat) (e : Env) (h : AH) (Q : AQ) (hl : L5b ro e h Q) : ASem C ro (.loop c) Q e h := by
  have hloc := loc_of h1 h2 h3
  obtain rfl := loopAt_eq h1 h2 h3
  unfold L5b at hl
  split at hl
  · rename_i D D' u f1 g f2 a f3 n d cs hob h0 h1' h24
    simp only [req_iff, Bool.and_eq_true, List.isEmpty_iff, beq_iff_eq] at hl
    obtain ⟨⟨⟨n1, n2⟩, n3⟩, ⟨⟨⟨⟨hD, hd⟩, hsh⟩, hwf⟩, hcs⟩, q1, q2⟩ := hl
    have n1 := Nat.eq_of_beq_eq_true n1
    have n3 := Nat.eq_of_beq_eq_true n3
    obtain rfl := Nat.eq_of_beq_eq_true hD
    have hsh := short_le hsh
    refine loop_idx (α := List AV) (τ := Unit) 197 28 28 2 g.length (Nat.le_refl _) [2, 3, 4, 5, 7] (fun i _ => [.ptr 0 0, .ptr 1 0, .bool false, .sl 24 0 D D none, .i i]) (fun _ cs => [(0, .cells [.lst u f1, .lst g f2, .lst a f3]), (1, .cells [.i n, .i d]), (24, .cells cs)])
      (fun i cs => okCs D cs = true ∧ ∀ j, j < i → grantE n d (g.getD j []) = true)
      (fun _ => [.ptr 0 0, .ptr 1 0, .bool false]) (fun _ => []) (fun _ => True) (fun _ hx => by cases hx) ?_ n3 e cs ⟨hcs, fun j hj => by omega⟩ (he_of_obs (by rw [hob]; rfl)) n1 n2 (ho_cons h0 (ho_cons h1' (ho_cons h24 ho_nil))) ?_ ?_
    · intro i cs hi hinv
      refine (wpOk hC mixed S1ok 1000).c _ _ _ _ _ _ hloc ?_
      rw [vc5b]
      have hii : (i : Int).toNat = i := rfl
      rw [cas_iff]
      constructor
      · intro hlt
        have hlt : i < g.length := by simpa using hlt
        have hg := all_getD hwf hlt []
        have hgl := wf_len hg
        have i0 := wf_int hg (j := 0) (by omega)
        have i1 := wf_int hg (j := 1) (by omega)
        have i2 := wf_int hg (j := 2) (by omega)
        have i3 := wf_int hg (j := 3) (by omega)
        have i4 := wf_int hg (j := 4) (by omega)
        have hret : ∀ (b : AV) (x : Env) (N : Nat) (h : AH), 28 ≤ h.next → ∃ (y : Unit) (l : List Nat), True ∧ FixL 28 l ∧ l.length = 28 ∧ Met 197 l [.ptr 0 0, .ptr 1 0, .bool false] [] 197 [] [some (.ptr 0 0), some (.ptr 1 0), some (.bool false), some (.sl 24 0 D D none), some b] h := fun b x N h hN => ⟨(), _, trivial, met_here rfl rfl hN rfl rfl trivial⟩
        have hnorm : grantE n d (g.getD i []) = true → (0 ≤ intOf ((g.getD i []).getD 0 (AV.tup [])) ∧ intOf ((g.getD i []).getD 0 (AV.tup [])) < (D : Int)) := fun hv => by
          have : cellV (fld (g.getD i []) 0) (fld (g.getD i []) 1) (fld (g.getD i []) 2) n d = true := by
            simp only [grantE, grantV, Bool.and_eq_true] at hv
            first | exact hv | exact hv.1.1 | exact hv.1.1.1
          have := slot_of this
          rw [hd] at this
          exact this
        have hstep : grantE n d (g.getD i []) = true → ∀ (z : Int) (h' : AH), 28 ≤ h'.next → h'.get 0 = some (.cells [.lst u f1, .lst g f2, .lst a f3]) → h'.get 1 = some (.cells [.i n, .i d]) → h'.get 24 = some (.cells (splice cs (intOf ((g.getD i []).getD 0 (AV.tup []))).toNat [.int .i64 z])) →
            (i < g.length ∧ ∃ (a' : List AV) (l : List Nat), (okCs D a' = true ∧ ∀ j, j < i + 1 → grantE n d (g.getD j []) = true) ∧ FixL 28 l ∧ l.length = 28 ∧ Met 197 l [.ptr 0 0, .ptr 1 0, .bool false, .sl 24 0 D D none, .i ((i + 1 : Nat) : Int)] [(0, .cells [.lst u f1, .lst g f2, .lst a f3]), (1, .cells [.i n, .i d]), (24, .cells a')] 197 []
              [some (.ptr 0 0), some (.ptr 1 0), some (.bool false), some (.sl 24 0 D D none), some (.int .i64 (IntKind.i64.wrap ((i : Int) + 1)))] h') := by
          intro hv z h' hN g0 g1 g24
          have hs := hnorm hv
          have hok := okCs_splice hinv.1 (k := (intOf ((g.getD i []).getD 0 (AV.tup []))).toNat) (by omega) z
          refine ⟨hlt, _, _, ⟨hok, ?_⟩, met_here rfl rfl hN ?_ rfl ⟨⟨g0, rfl, rfl⟩, ⟨g1, rfl, rfl⟩, ⟨g24, rfl, belowL_free (okCs_free hok)⟩, trivial⟩⟩
          · intro j hj
            rcases Nat.lt_or_ge j i with h' | h'
            · exact hinv.2 j h'
            · obtain rfl : j = i := by omega
              exact hv
          · rw [w64 (n := (i : Int) + 1) (by omega) (by omega)]
            rfl
        have hcl := getI hinv.1
        have c0 := fun hv => okCs_get hinv.1 (k := (intOf ((g.getD i []).getD 0 (AV.tup []))).toNat) (by have := hnorm hv; omega)
        have e1 : i > 0 → (IntKind.i64.wrap ((i : Int) - 1)).toNat = i - 1 ∧ 0 ≤ IntKind.i64.wrap ((i : Int) - 1) ∧ IntKind.i64.wrap ((i : Int) - 1) < g.length := fun hi0 => by
          rw [w64 (by omega) (by omega)]; omega
        simp only [req_iff, cas_iff, hii, hgl, i0, i1, i2, i3, i4, Nat.zero_add, Nat.mul_one, hcl, drop_getD, Nat.add_zero]
        refine ⟨by simp only [Bool.and_eq_true, decide_eq_true_eq]; omega, rfl, rfl, rfl, fun hf => hret _ e 0 _ (by simp), fun ht => ?_⟩
        have hv : grantE n d (g.getD i []) = true := by simpa [grantE, fld] using ht
        have hs := hnorm hv
        have c0 := c0 hv
        refine ⟨fun hi0 => ?_, fun hi0 => ?_⟩
        · have hi0 : i > 0 := by simpa using hi0
          obtain ⟨e1, e2, e3⟩ := e1 hi0
          have hg' := all_getD hwf (show i - 1 < g.length by omega) []
          have hgl' := wf_len hg'
          have j0 := wf_int hg' (j := 0) (by omega)
          simp only [e1, hgl', j0, c0]
          refine ⟨by simp only [Bool.and_eq_true, decide_eq_true_eq]; omega, rfl, rfl, rfl, by simp only [Bool.and_eq_true, decide_eq_true_eq]; omega, rfl, rfl, rfl, fun hf => hret _ e 0 _ (by simp), fun hf => ?_⟩
          exact ⟨by simp only [Bool.and_eq_true, decide_eq_true_eq]; omega, rfl, rfl, rfl, by simp only [Bool.and_eq_true, decide_eq_true_eq]; omega, Nat.ble_eq_true_of_le (by omega), rfl, by simp only [Bool.and_eq_true, decide_eq_true_eq]; omega, Nat.ble_eq_true_of_le (by omega), hstep hv _ _ (by simp) rfl rfl rfl⟩
        · simp only [c0]
          exact ⟨by simp only [Bool.and_eq_true, decide_eq_true_eq]; omega, rfl, rfl, rfl, by simp only [Bool.and_eq_true, decide_eq_true_eq]; omega, Nat.ble_eq_true_of_le (by omega), rfl, by simp only [Bool.and_eq_true, decide_eq_true_eq]; omega, Nat.ble_eq_true_of_le (by omega), hstep hv _ _ (by simp) rfl rfl rfl⟩
      · intro hge
        obtain rfl : i = g.length := by simp at hge; omega
        exact ⟨rfl, _, hinv, met_here rfl rfl (by simp) rfl rfl ⟨⟨rfl, rfl, rfl⟩, ⟨rfl, rfl, rfl⟩, ⟨rfl, rfl, belowL_free (okCs_free hinv.1)⟩, trivial⟩⟩
    · intro cs ha
      refine q1 cs ha.1 ?_
      rw [List.all_eq_true]
      intro x hx
      obtain ⟨j, hj, rfl⟩ := List.mem_iff_getElem.1 hx
      have := ha.2 j hj
      simpa [List.getD_eq_getElem?_getD, hj] using this
    · intro y hy
      exact q2
  · exact hl.elim

def p5c : List Bool := [false, true, false, true, true, true, true, true]
theorem vc5c (u g a : List (List AV)) (f1 f2 f3 : Bool) (n d i : Int) (D : Nat) (cs : List AV) (K : KT) : (wpC C S1 1000 none (some (5, false :: p5c)) (loopAt 5 p5c) (kobs [2, 3, 4, 5, 8] K) (mkE 197 (List.zip [2, 3, 4, 5, 8] [.ptr 0 0, .ptr 1 0, .bool false, .sl 24 0 D D none, .i i])) (mkH 29 [(0, .cells [.lst u f1, .lst g f2, .lst a f3]), (1, .cells [.i n, .i d]), (24, .cells cs)])) = (cas (decide (i < (↑a.length : Int)))
  (req (decide (0 ≤ i) && decide (i < (↑a.length : Int)))
    (req ((a.getD i.toNat []).length.beq 3)
      (req (Nat.ble 2 (a.getD i.toNat []).length)
        (req (isInt IntKind.i64 ((a.getD i.toNat []).getD 0 (AV.tup [])) && (isInt IntKind.i64 ((a.getD i.toNat []).getD 1 (AV.tup [])) && true))
          (req (decide (0 ≤ i) && decide (i < (↑a.length : Int)))
            (req ((a.getD i.toNat []).length.beq 3)
              (req (Nat.ble 1 (List.drop 2 (a.getD i.toNat [])).length)
                (req (isInt IntKind.i64 ((List.drop 2 (a.getD i.toNat [])).getD 0 (AV.tup [])) && true)
                  (cas (!cellV (intOf ((a.getD i.toNat []).getD 0 (AV.tup []))) (intOf ((a.getD i.toNat []).getD 1 (AV.tup []))) (intOf ((List.drop 2 (a.getD i.toNat [])).getD 0 (AV.tup []))) n d)
                    (K AX.ret 197 [] [some (AV.ptr 0 0), some (AV.ptr 1 0), some (AV.bool false), some (AV.sl 24 0 D D none), some (AV.int IntKind.i64 i)]
                      { next := 72,
                        tr :=
                          Tr.node (some (AObj.cells [AV.lst u f1, AV.lst g f2, AV.lst a f3])) (Tr.node (some (AObj.cells [AV.int IntKind.i64 n, AV.int IntKind.i64 d])) Tr.nil Tr.nil)
                            (Tr.node none (Tr.node none (Tr.node none Tr.nil (Tr.node (some (AObj.cells cs)) Tr.nil Tr.nil)) Tr.nil) Tr.nil) })
                    (cas (decide (i > 0))
                      (req (decide (0 ≤ IntKind.i64.wrap (i - 1)) && decide (IntKind.i64.wrap (i - 1) < (↑a.length : Int)))
                        (req ((a.getD (IntKind.i64.wrap (i - 1)).toNat []).length.beq 3)
                          (req (Nat.ble 1 (a.getD (IntKind.i64.wrap (i - 1)).toNat []).length)
                            (req (isInt IntKind.i64 ((a.getD (IntKind.i64.wrap (i - 1)).toNat []).getD 0 (AV.tup [])) && true)
                              (req (decide (0 ≤ i) && decide (i < (↑a.length : Int)))
                                (req ((a.getD i.toNat []).length.beq 3)
                                  (req (Nat.ble 1 (a.getD i.toNat []).length)
                                    (req (isInt IntKind.i64 ((a.getD i.toNat []).getD 0 (AV.tup [])) && true)
                                      (cas (decide (intOf ((a.getD (IntKind.i64.wrap (i - 1)).toNat []).getD 0 (AV.tup [])) ≥ intOf ((a.getD i.toNat []).getD 0 (AV.tup []))))
                                        (K AX.ret 197 [] [some (AV.ptr 0 0), some (AV.ptr 1 0), some (AV.bool false), some (AV.sl 24 0 D D none), some (AV.int IntKind.i64 i)]
                                          { next := 72,
                                            tr :=
                                              Tr.node (some (AObj.cells [AV.lst u f1, AV.lst g f2, AV.lst a f3]))
                                                (Tr.node (some (AObj.cells [AV.int IntKind.i64 n, AV.int IntKind.i64 d])) Tr.nil Tr.nil)
                                                (Tr.node none (Tr.node none (Tr.node none Tr.nil (Tr.node (some (AObj.cells cs)) Tr.nil Tr.nil)) Tr.nil) Tr.nil) })
                                        (req (decide (0 ≤ i) && decide (i < (↑a.length : Int)))
                                          (req ((a.getD i.toNat []).length.beq 3)
                                            (req (Nat.ble 1 (a.getD i.toNat []).length)
                                              (req (isInt IntKind.i64 ((a.getD i.toNat []).getD 0 (AV.tup [])) && true)
                                                (req (decide (0 ≤ intOf ((a.getD i.toNat []).getD 0 (AV.tup []))) && decide (intOf ((a.getD i.toNat []).getD 0 (AV.tup [])) < (↑D : Int)))
                                                  (req ((0 + (intOf ((a.getD i.toNat []).getD 0 (AV.tup []))).toNat * 1 + 1).ble cs.length)
                                                    (req (isInt IntKind.i64 (cs.getD (0 + (intOf ((a.getD i.toNat []).getD 0 (AV.tup []))).toNat * 1) (AV.tup [])) && true)
                                                      (req (decide (0 ≤ intOf ((a.getD i.toNat []).getD 0 (AV.tup []))) && decide (intOf ((a.getD i.toNat []).getD 0 (AV.tup [])) < (↑D : Int)))
                                                        (req ((0 + (intOf ((a.getD i.toNat []).getD 0 (AV.tup []))).toNat * 1 + 1).ble cs.length)
                                                          (K AX.normal 197 []
                                                            [some (AV.ptr 0 0), some (AV.ptr 1 0), some (AV.bool false), some (AV.sl 24 0 D D none),
                                                              some (AV.int IntKind.i64 (IntKind.i64.wrap (i + 1)))]
                                                            { next := 87,
                                                              tr :=
                                                                Tr.node (some (AObj.cells [AV.lst u f1, AV.lst g f2, AV.lst a f3]))
                                                                  (Tr.node (some (AObj.cells [AV.int IntKind.i64 n, AV.int IntKind.i64 d])) Tr.nil Tr.nil)
                                                                  (Tr.node none
                                                                    (Tr.node none
                                                                      (Tr.node none Tr.nil
                                                                        (Tr.node
                                                                          (some
                                                                            (AObj.cells
                                                                              (splice cs (0 + (intOf ((a.getD i.toNat []).getD 0 (AV.tup []))).toNat * 1)
                                                                                [AV.int IntKind.i64
                                                                                    (IntKind.i64.wrap
                                                                                      (intOf (cs.getD (0 + (intOf ((a.getD i.toNat []).getD 0 (AV.tup []))).toNat * 1) (AV.tup [])) + 1))])))
                                                                          Tr.nil Tr.nil))
                                                                      Tr.nil)
                                                                    Tr.nil) })))))))))))))))))))
                      (req (decide (0 ≤ i) && decide (i < (↑a.length : Int)))
                        (req ((a.getD i.toNat []).length.beq 3)
                          (req (Nat.ble 1 (a.getD i.toNat []).length)
                            (req (isInt IntKind.i64 ((a.getD i.toNat []).getD 0 (AV.tup [])) && true)
                              (req (decide (0 ≤ intOf ((a.getD i.toNat []).getD 0 (AV.tup []))) && decide (intOf ((a.getD i.toNat []).getD 0 (AV.tup [])) < (↑D : Int)))
                                (req ((0 + (intOf ((a.getD i.toNat []).getD 0 (AV.tup []))).toNat * 1 + 1).ble cs.length)
                                  (req (isInt IntKind.i64 (cs.getD (0 + (intOf ((a.getD i.toNat []).getD 0 (AV.tup []))).toNat * 1) (AV.tup [])) && true)
                                    (req (decide (0 ≤ intOf ((a.getD i.toNat []).getD 0 (AV.tup []))) && decide (intOf ((a.getD i.toNat []).getD 0 (AV.tup [])) < (↑D : Int)))
                                      (req ((0 + (intOf ((a.getD i.toNat []).getD 0 (AV.tup []))).toNat * 1 + 1).ble cs.length)
                                        (K AX.normal 197 []
                                          [some (AV.ptr 0 0), some (AV.ptr 1 0), some (AV.bool false), some (AV.sl 24 0 D D none), some (AV.int IntKind.i64 (IntKind.i64.wrap (i + 1)))]
                                          { next := 87,
                                            tr :=
                                              Tr.node (some (AObj.cells [AV.lst u f1, AV.lst g f2, AV.lst a f3]))
                                                (Tr.node (some (AObj.cells [AV.int IntKind.i64 n, AV.int IntKind.i64 d])) Tr.nil Tr.nil)
                                                (Tr.node none
                                                  (Tr.node none
                                                    (Tr.node none Tr.nil
                                                      (Tr.node
                                                        (some
                                                          (AObj.cells
                                                            (splice cs (0 + (intOf ((a.getD i.toNat []).getD 0 (AV.tup []))).toNat * 1)
                                                              [AV.int IntKind.i64
                                                                  (IntKind.i64.wrap (intOf (cs.getD (0 + (intOf ((a.getD i.toNat []).getD 0 (AV.tup []))).toNat * 1) (AV.tup [])) + 1))])))
                                                        Tr.nil Tr.nil))
                                                    Tr.nil)
                                                  Tr.nil) }))))))))))))))))))))
  (K (AX.exit 4) 197 [] [some (AV.ptr 0 0), some (AV.ptr 1 0), some (AV.bool false), some (AV.sl 24 0 D D none), some (AV.int IntKind.i64 i)]
    { next := 34,
      tr :=
        Tr.node (some (AObj.cells [AV.lst u f1, AV.lst g f2, AV.lst a f3])) (Tr.node (some (AObj.cells [AV.int IntKind.i64 n, AV.int IntKind.i64 d])) Tr.nil Tr.nil)
          (Tr.node none (Tr.node none (Tr.node none Tr.nil (Tr.node (some (AObj.cells cs)) Tr.nil Tr.nil)) Tr.nil) Tr.nil) })) := by kernel_rfl

def L5c : Option Nat → Env → AH → AQ → Prop := fun ro e h Q =>
  match ro, obs e [2, 3, 4, 5, 8], h.get 0, h.get 1, h.get 24 with
  | none, [some (.ptr 0 0), some (.ptr 1 0), some (.bool false), some (.sl 24 0 D D' none), some (.int .i64 0)], some (.cells [.lst u f1, .lst g f2, .lst a f3]), some (.cells [.int .i64 n, .int .i64 d]), some (.cells cs) =>
    req (Nat.beq e.n 197 && e.ds.isEmpty && Nat.beq h.next 29) (req (Nat.beq D D' && (d == (D : Int)) && short a && a.all (wf 3) && okCs D cs)
      ((∀ cs', okCs D cs' = true → a.all (askE n d) = true → Q (.exit 4) (mkE 197 (List.zip [2, 3, 4, 5, 8] [.ptr 0 0, .ptr 1 0, .bool false, .sl 24 0 D D none, .i a.length])) (mkH 29 [(0, .cells [.lst u f1, .lst g f2, .lst a f3]), (1, .cells [.i n, .i d]), (24, .cells cs')])) ∧
        Q .ret (mkE 197 (List.zip [2, 3, 4, 5, 8] [.ptr 0 0, .ptr 1 0, .bool false])) (mkH 29 [])))
  | _, _, _, _, _ => False
theorem L5cok {fn : Func} {body c : Code} (h1 : C.F 5 = some fn) (h2 : fn.body = some body) (h3 : codeAt body p5c = some (.loop c)) (ro : Option Nat) (e : Env) (h : AH) (Q : AQ) (hl : L5c ro e h Q) : ASem C ro (.loop c) Q e h := by
  have hloc := loc_of h1 h2 h3
  obtain rfl := loopAt_eq h1 h2 h3
  unfold L5c at hl
  split at hl
  · rename_i D D' u f1 g f2 a f3 n d cs hob h0 h1' h24
    simp only [req_iff, Bool.and_eq_true, List.isEmpty_iff, beq_iff_eq] at hl
    obtain ⟨⟨⟨n1, n2⟩, n3⟩, ⟨⟨⟨⟨hD, hd⟩, hsh⟩, hwf⟩, hcs⟩, q1, q2⟩ := hl
    have n1 := Nat.eq_of_beq_eq_true n1
    have n3 := Nat.eq_of_beq_eq_true n3
    obtain rfl := Nat.eq_of_beq_eq_true hD
    have hsh := short_le hsh
    refine loop_idx (α := List AV) (τ := Unit) 197 29 29 4 a.length (Nat.le_refl _) [2, 3, 4, 5, 8] (fun i _ => [.ptr 0 0, .ptr 1 0, .bool false, .sl 24 0 D D none, .i i]) (fun _ cs => [(0, .cells [.lst u f1, .lst g f2, .lst a f3]), (1, .cells [.i n, .i d]), (24, .cells cs)])
      (fun i cs => okCs D cs = true ∧ ∀ j, j < i → askE n d (a.getD j []) = true)
      (fun _ => [.ptr 0 0, .ptr 1 0, .bool false]) (fun _ => []) (fun _ => True) (fun _ hx => by cases hx) ?_ n3 e cs ⟨hcs, fun j hj => by omega⟩ (he_of_obs (by rw [hob]; rfl)) n1 n2 (ho_cons h0 (ho_cons h1' (ho_cons h24 ho_nil))) ?_ ?_
    · intro i cs hi hinv
      refine (wpOk hC mixed S1ok 1000).c _ _ _ _ _ _ hloc ?_
      rw [vc5c]
      have hii : (i : Int).toNat = i := rfl
      rw [cas_iff]
      constructor
      · intro hlt
        have hlt : i < a.length := by simpa using hlt
        have hg := all_getD hwf hlt []
        have hgl := wf_len hg
        have i0 := wf_int hg (j := 0) (by omega)
        have i1 := wf_int hg (j := 1) (by omega)
        have i2 := wf_int hg (j := 2) (by omega)
        have hret : ∀ (b : AV) (x : Env) (N : Nat) (h : AH), 29 ≤ h.next → ∃ (y : Unit) (l : List Nat), True ∧ FixL 29 l ∧ l.length = 29 ∧ Met 197 l [.ptr 0 0, .ptr 1 0, .bool false] [] 197 [] [some (.ptr 0 0), some (.ptr 1 0), some (.bool false), some (.sl 24 0 D D none), some b] h := fun b x N h hN => ⟨(), _, trivial, met_here rfl rfl hN rfl rfl trivial⟩
        have hnorm : askE n d (a.getD i []) = true → (0 ≤ intOf ((a.getD i []).getD 0 (AV.tup [])) ∧ intOf ((a.getD i []).getD 0 (AV.tup [])) < (D : Int)) := fun hv => by
          have : cellV (fld (a.getD i []) 0) (fld (a.getD i []) 1) (fld (a.getD i []) 2) n d = true := by
            simp only [askE, Bool.and_eq_true] at hv
            first | exact hv | exact hv.1.1 | exact hv.1.1.1
          have := slot_of this
          rw [hd] at this
          exact this
        have hstep : askE n d (a.getD i []) = true → ∀ (z : Int) (h' : AH), 29 ≤ h'.next → h'.get 0 = some (.cells [.lst u f1, .lst g f2, .lst a f3]) → h'.get 1 = some (.cells [.i n, .i d]) → h'.get 24 = some (.cells (splice cs (intOf ((a.getD i []).getD 0 (AV.tup []))).toNat [.int .i64 z])) →
            (i < a.length ∧ ∃ (a' : List AV) (l : List Nat), (okCs D a' = true ∧ ∀ j, j < i + 1 → askE n d (a.getD j []) = true) ∧ FixL 29 l ∧ l.length = 29 ∧ Met 197 l [.ptr 0 0, .ptr 1 0, .bool false, .sl 24 0 D D none, .i ((i + 1 : Nat) : Int)] [(0, .cells [.lst u f1, .lst g f2, .lst a f3]), (1, .cells [.i n, .i d]), (24, .cells a')] 197 []
              [some (.ptr 0 0), some (.ptr 1 0), some (.bool false), some (.sl 24 0 D D none), some (.int .i64 (IntKind.i64.wrap ((i : Int) + 1)))] h') := by
          intro hv z h' hN g0 g1 g24
          have hs := hnorm hv
          have hok := okCs_splice hinv.1 (k := (intOf ((a.getD i []).getD 0 (AV.tup []))).toNat) (by omega) z
          refine ⟨hlt, _, _, ⟨hok, ?_⟩, met_here rfl rfl hN ?_ rfl ⟨⟨g0, rfl, rfl⟩, ⟨g1, rfl, rfl⟩, ⟨g24, rfl, belowL_free (okCs_free hok)⟩, trivial⟩⟩
          · intro j hj
            rcases Nat.lt_or_ge j i with h' | h'
            · exact hinv.2 j h'
            · obtain rfl : j = i := by omega
              exact hv
          · rw [w64 (n := (i : Int) + 1) (by omega) (by omega)]
            rfl
        have hcl := getI hinv.1
        have c0 := fun hv => okCs_get hinv.1 (k := (intOf ((a.getD i []).getD 0 (AV.tup []))).toNat) (by have := hnorm hv; omega)
        have e1 : i > 0 → (IntKind.i64.wrap ((i : Int) - 1)).toNat = i - 1 ∧ 0 ≤ IntKind.i64.wrap ((i : Int) - 1) ∧ IntKind.i64.wrap ((i : Int) - 1) < a.length := fun hi0 => by
          rw [w64 (by omega) (by omega)]; omega
        simp only [req_iff, cas_iff, hii, hgl, i0, i1, i2, Nat.zero_add, Nat.mul_one, hcl, drop_getD, Nat.add_zero]
        refine ⟨by simp only [Bool.and_eq_true, decide_eq_true_eq]; omega, rfl, rfl, rfl, by simp only [Bool.and_eq_true, decide_eq_true_eq]; omega, rfl, Nat.ble_eq_true_of_le (by rw [List.length_drop, hgl]; omega), rfl, fun hf => hret _ e 0 _ (by simp), fun ht => ?_⟩
        have hv : askE n d (a.getD i []) = true := by simpa [askE, fld] using ht
        have hs := hnorm hv
        have c0 := c0 hv
        refine ⟨fun hi0 => ?_, fun hi0 => ?_⟩
        · have hi0 : i > 0 := by simpa using hi0
          obtain ⟨e1, e2, e3⟩ := e1 hi0
          have hg' := all_getD hwf (show i - 1 < a.length by omega) []
          have hgl' := wf_len hg'
          have j0 := wf_int hg' (j := 0) (by omega)
          simp only [e1, hgl', j0, c0]
          refine ⟨by simp only [Bool.and_eq_true, decide_eq_true_eq]; omega, rfl, rfl, rfl, by simp only [Bool.and_eq_true, decide_eq_true_eq]; omega, rfl, rfl, rfl, fun hf => hret _ e 0 _ (by simp), fun hf => ?_⟩
          exact ⟨by simp only [Bool.and_eq_true, decide_eq_true_eq]; omega, rfl, rfl, rfl, by simp only [Bool.and_eq_true, decide_eq_true_eq]; omega, Nat.ble_eq_true_of_le (by omega), rfl, by simp only [Bool.and_eq_true, decide_eq_true_eq]; omega, Nat.ble_eq_true_of_le (by omega), hstep hv _ _ (by simp) rfl rfl rfl⟩
        · simp only [c0]
          exact ⟨by simp only [Bool.and_eq_true, decide_eq_true_eq]; omega, rfl, rfl, rfl, by simp only [Bool.and_eq_true, decide_eq_true_eq]; omega, Nat.ble_eq_true_of_le (by omega), rfl, by simp only [Bool.and_eq_true, decide_eq_true_eq]; omega, Nat.ble_eq_true_of_le (by omega), hstep hv _ _ (by simp) rfl rfl rfl⟩
      · intro hge
        obtain rfl : i = a.length := by simp at hge; omega
        exact ⟨rfl, _, hinv, met_here rfl rfl (by simp) rfl rfl ⟨⟨rfl, rfl, rfl⟩, ⟨rfl, rfl, rfl⟩, ⟨rfl, rfl, belowL_free (okCs_free hinv.1)⟩, trivial⟩⟩
    · intro cs ha
      refine q1 cs ha.1 ?_
      rw [List.all_eq_true]
      intro x hx
      obtain ⟨j, hj, rfl⟩ := List.mem_iff_getElem.1 hx
      have := ha.2 j hj
      simpa [List.getD_eq_getElem?_getD, hj] using this
    · intro y hy
      exact q2
  · exact hl.elim

def p5d : List Bool := [false, true, false, true, true, true, true, true, true]
theorem vc5d (D : Nat) (i : Int) (cs : List AV) (K : KT) : (wpC C S1 1000 none (some (5, false :: p5d)) (loopAt 5 p5d) (kobs [4, 5, 9] K) (mkE 197 (List.zip [4, 5, 9] [.bool false, .sl 24 0 D D none, .i i])) (mkH 30 [(24, .cells cs)])) = (cas (decide (i < (↑D : Int)))
  (req (decide (0 ≤ i) && decide (i < (↑D : Int)))
    (req ((0 + i.toNat * 1 + 1).ble cs.length)
      (req (isInt IntKind.i64 (cs.getD (0 + i.toNat * 1) (AV.tup [])) && true)
        (cas (decide (intOf (cs.getD (0 + i.toNat * 1) (AV.tup [])) > 1))
          (K AX.ret 197 [] [some (AV.bool false), some (AV.sl 24 0 D D none), some (AV.int IntKind.i64 i)]
            { next := 40, tr := Tr.node none Tr.nil (Tr.node none (Tr.node none (Tr.node none Tr.nil (Tr.node (some (AObj.cells cs)) Tr.nil Tr.nil)) Tr.nil) Tr.nil) })
          (K AX.normal 197 [] [some (AV.bool false), some (AV.sl 24 0 D D none), some (AV.int IntKind.i64 (IntKind.i64.wrap (i + 1)))]
            { next := 42, tr := Tr.node none Tr.nil (Tr.node none (Tr.node none (Tr.node none Tr.nil (Tr.node (some (AObj.cells cs)) Tr.nil Tr.nil)) Tr.nil) Tr.nil) })))))
  (K (AX.exit 6) 197 [] [some (AV.bool false), some (AV.sl 24 0 D D none), some (AV.int IntKind.i64 i)]
    { next := 34, tr := Tr.node none Tr.nil (Tr.node none (Tr.node none (Tr.node none Tr.nil (Tr.node (some (AObj.cells cs)) Tr.nil Tr.nil)) Tr.nil) Tr.nil) })) := by kernel_rfl

def L5d : Option Nat → Env → AH → AQ → Prop := fun ro e h Q =>
  match ro, obs e [4, 5, 9], h.get 24 with
  | none, [some (.bool false), some (.sl 24 0 D D' none), some (.int .i64 0)], some (.cells cs) =>
    req (Nat.beq e.n 197 && e.ds.isEmpty && Nat.beq h.next 30) (req (Nat.beq D D' && Nat.ble D 1048576 && okCs D cs)
      (Q (.exit 6) (mkE 197 (List.zip [4, 5, 9] [.bool false, .sl 24 0 D D none, .i D])) (mkH 30 [(24, .cells cs)]) ∧ Q .ret (mkE 197 (List.zip [4, 5, 9] [.bool false])) (mkH 30 [])))
  | _, _, _ => False
theorem L5dok {fn : Func} {body c : Code} (h1 : C.F 5 = some fn) (h2 : fn.body = some body) (h3 : codeAt body p5d = some (.loop c)) (ro : Option Nat) (e : Env) (h : AH) (Q : AQ) (hl : L5d ro e h Q) : ASem C ro (.loop c) Q e h := by
  have hloc := loc_of h1 h2 h3
  obtain rfl := loopAt_eq h1 h2 h3
  unfold L5d at hl
  split at hl
  · rename_i D D' cs hob h24
    simp only [req_iff, Bool.and_eq_true, List.isEmpty_iff, beq_iff_eq] at hl
    obtain ⟨⟨⟨n1, n2⟩, n3⟩, ⟨⟨hD, hb⟩, hcs⟩, q1, q2⟩ := hl
    have n1 := Nat.eq_of_beq_eq_true n1
    have n3 := Nat.eq_of_beq_eq_true n3
    have hb := Nat.le_of_ble_eq_true hb
    obtain rfl := Nat.eq_of_beq_eq_true hD
    have hcl := getI hcs
    refine loop_idx (α := Unit) (τ := Unit) 197 30 30 6 D (Nat.le_refl _) [4, 5, 9] (fun i _ => [.bool false, .sl 24 0 D D none, .i i]) (fun _ _ => [(24, .cells cs)])
      (fun _ _ => True) (fun _ => [.bool false]) (fun _ => []) (fun _ => True) (fun _ hx => by cases hx) ?_ n3 e () trivial (he_of_obs (by rw [hob]; rfl)) n1 n2 (ho_cons h24 ho_nil) ?_ ?_
    · intro i _ hi _
      refine (wpOk hC mixed S1ok 1000).c _ _ _ _ _ _ hloc ?_
      rw [vc5d]
      have hii : (i : Int).toNat = i := rfl
      rw [cas_iff]
      constructor
      · intro hlt
        have hlt : i < D := by simpa using hlt
        have c0 := okCs_get hcs hlt
        simp only [req_iff, cas_iff, hii, c0, Nat.zero_add, Nat.mul_one, hcl]
        refine ⟨by simp only [Bool.and_eq_true, decide_eq_true_eq]; omega, Nat.ble_eq_true_of_le (by omega), rfl, fun hf => ⟨(), _, trivial, met_here rfl rfl (by simp) rfl rfl trivial⟩, fun hf => ⟨hlt, (), _, trivial, met_here rfl rfl (by simp) ?_ rfl ⟨⟨rfl, rfl, belowL_free (okCs_free hcs)⟩, trivial⟩⟩⟩
        rw [w64 (n := (i : Int) + 1) (by omega) (by omega)]
        rfl
      · intro hge
        obtain rfl : i = D := by simp at hge; omega
        exact ⟨rfl, _, trivial, met_here rfl rfl (by simp) rfl rfl ⟨⟨rfl, rfl, belowL_free (okCs_free hcs)⟩, trivial⟩⟩
    · intro _ _
      exact q1
    · intro y hy
      exact q2
  · exact hl.elim

def S5 : Specs := .plain P1 (fun loc => match loc with
  | some (5, [false, true, false, true, true, true]) => some L5a
  | some (5, [false, true, false, true, true, true, true]) => some L5b
  | some (5, [false, true, false, true, true, true, true, true]) => some L5c
  | some (5, [false, true, false, true, true, true, true, true, true]) => some L5d
  | _ => none)
theorem S5ok : SpecsOk C S5 := by
  refine .of P1ok rfl rfl (fun f p spec h fn body c h1 h2 h3 ro e h' Q hl => ?_)
  simp only [S5, Specs.plain] at h
  split at h <;> (try (cases h; done)) <;> (rename_i heq; simp only [Option.some.injEq, Prod.mk.injEq] at heq; obtain ⟨rfl, rfl⟩ := heq; injection h with h; subst h)
  · exact L5aok h1 h2 h3 ro e h' Q hl
  · exact L5bok h1 h2 h3 ro e h' Q hl
  · exact L5cok h1 h2 h3 ro e h' Q hl
  · exact L5dok h1 h2 h3 ro e h' Q hl
theorem vcf5 (u g a : List (List AV)) (f1 f2 f3 : Bool) (n d : Int) (K : AV → Prop) : (wpF C S5 1000 5 [.agg [.lst u f1, .lst g f2, .lst a f3], .agg [.i n, .i d]] (retR fun v _ => K v) ⟨0, .nil⟩) = (cas (!layoutV n d) (K (AV.bool false))
  (cas (decide (IntKind.i64.wrap ((↑u.length : Int) + (↑g.length : Int)) > 24)) (K (AV.bool false))
    (cas (decide ((↑a.length : Int) > 24)) (K (AV.bool false))
      (req (decide (0 ≤ d) && decide (d ≤ d))
        (req (decide (8 * d ≤ 281474976710656) && decide (d ≤ 4611686018427387904))
          (req (d.toNat.beq d.toNat && d == (↑d.toNat : Int) && short u && u.all (wf 4) && okCs d.toNat (repl d.toNat [AV.int IntKind.i64 0]))
            ((∀ (cs' : List AV),
                okCs d.toNat cs' = true →
                  u.all (useE n d) = true →
                    req (d.toNat.beq d.toNat && d == (↑d.toNat : Int) && short g && g.all (wf 5) && okCs d.toNat cs')
                      ((∀ (cs' : List AV),
                          okCs d.toNat cs' = true →
                            g.all (grantE n d) = true →
                              req (d.toNat.beq d.toNat && d == (↑d.toNat : Int) && short a && a.all (wf 3) && okCs d.toNat cs')
                                ((∀ (cs' : List AV),
                                    okCs d.toNat cs' = true → a.all (askE n d) = true → req (d.toNat.beq d.toNat && d.toNat.ble 1048576 && okCs d.toNat cs') (K (AV.bool true) ∧ K (AV.bool false))) ∧
                                  K (AV.bool false))) ∧
                        K (AV.bool false))) ∧
              K (AV.bool false)))))))) := by kernel_rfl


end Go.Am.Cells
