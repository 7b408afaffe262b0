/- TopCellsOnAir: the law itself, whole. -/
import Derived.Test.YtpkljgaokgfpnaaGreatDoorLaw
set_option maxRecDepth 1000000
set_option linter.unusedVariables false
set_option linter.unusedSimpArgs false
set_option linter.unusedSectionVars false
set_option maxHeartbeats 0
namespace Go.Am.Cells
open Go Go.Am
def p3c : List Bool := [false, true, false, true, true, true, true, true, true, true, true, true, true, true, true, true, true]
abbrev t3c : List Nat := [2, 3, 12, 13, 14, 22, 23, 226, 227, 228]
abbrev v3c (ps acts prt es : List (List AV)) (fp : Bool) (r : Int) (n : Nat) (k : Int) : List AV := [.lst ps fp, .i r, .bool false, .bool true, .i n, .lst acts true, .lst prt true, .lst es true, .i es.length, .i k]
theorem vc3c (ps acts prt es : List (List AV)) (fp : Bool) (r k : Int) (n : Nat) (K : KT2) : (wpC C S4 1000 none (some (3, false :: p3c)) (loopAt 3 p3c) (kobs2 t3c [] K) (mkE 302 (t3c.zip (v3c ps acts prt es fp r n k))) (mkH 107 [])) = (cas (decide (k < (↑es.length : Int)))
  (req (decide (0 ≤ k) && decide (k < (↑es.length : Int)))
    (req ((es.getD k.toNat []).length.beq 1)
      (req (Nat.ble 1 (es.getD k.toNat []).length)
        (req (isInt IntKind.i64 ((es.getD k.toNat []).getD 0 (AV.tup [])) && true)
          (req (decide (0 ≤ k) && decide (k < (↑prt.length : Int)))
            (req ((prt.getD k.toNat []).length.beq 1)
              (req (Nat.ble 1 (prt.getD k.toNat []).length)
                (req (isInt IntKind.i64 ((prt.getD k.toNat []).getD 0 (AV.tup [])) && true)
                  (cas (decide (intOf ((prt.getD k.toNat []).getD 0 (AV.tup [])) ≥ 0))
                    (cas (intOf ((prt.getD k.toNat []).getD 0 (AV.tup [])) != k)
                      (cas (decide (intOf ((prt.getD k.toNat []).getD 0 (AV.tup [])) < (↑n : Int)))
                        (req (decide (0 ≤ intOf ((prt.getD k.toNat []).getD 0 (AV.tup []))) && decide (intOf ((prt.getD k.toNat []).getD 0 (AV.tup [])) < (↑acts.length : Int)))
                          (req ((acts.getD (intOf ((prt.getD k.toNat []).getD 0 (AV.tup []))).toNat []).length.beq 5)
                            (req (Nat.ble 1 (acts.getD (intOf ((prt.getD k.toNat []).getD 0 (AV.tup []))).toNat []).length)
                              (req (isInt IntKind.i64 ((acts.getD (intOf ((prt.getD k.toNat []).getD 0 (AV.tup []))).toNat []).getD 0 (AV.tup [])) && true)
                                (cas (intOf ((acts.getD (intOf ((prt.getD k.toNat []).getD 0 (AV.tup []))).toNat []).getD 0 (AV.tup [])) == 2)
                                  (req (decide (0 ≤ intOf ((prt.getD k.toNat []).getD 0 (AV.tup []))) && decide (intOf ((prt.getD k.toNat []).getD 0 (AV.tup [])) < (↑acts.length : Int)))
                                    (req ((acts.getD (intOf ((prt.getD k.toNat []).getD 0 (AV.tup []))).toNat []).length.beq 5)
                                      (req (Nat.ble 1 (List.drop 1 (acts.getD (intOf ((prt.getD k.toNat []).getD 0 (AV.tup []))).toNat [])).length)
                                        (req (isInt IntKind.i64 ((List.drop 1 (acts.getD (intOf ((prt.getD k.toNat []).getD 0 (AV.tup []))).toNat [])).getD 0 (AV.tup [])) && true)
                                          (req (decide (0 ≤ k) && decide (k < (↑acts.length : Int)))
                                            (req ((acts.getD k.toNat []).length.beq 5)
                                              (req (Nat.ble 1 (List.drop 1 (acts.getD k.toNat [])).length)
                                                (req (isInt IntKind.i64 ((List.drop 1 (acts.getD k.toNat [])).getD 0 (AV.tup [])) && true)
                                                  (cas
                                                    (intOf ((List.drop 1 (acts.getD (intOf ((prt.getD k.toNat []).getD 0 (AV.tup []))).toNat [])).getD 0 (AV.tup [])) ==
                                                      intOf ((List.drop 1 (acts.getD k.toNat [])).getD 0 (AV.tup [])))
                                                    (req
                                                      (decide (0 ≤ intOf ((prt.getD k.toNat []).getD 0 (AV.tup []))) && decide (intOf ((prt.getD k.toNat []).getD 0 (AV.tup [])) < (↑ps.length : Int)))
                                                      (req ((ps.getD (intOf ((prt.getD k.toNat []).getD 0 (AV.tup []))).toNat []).length.beq 2)
                                                        (req (Nat.ble 2 (ps.getD (intOf ((prt.getD k.toNat []).getD 0 (AV.tup []))).toNat []).length)
                                                          (req
                                                            (isInt IntKind.i64 ((ps.getD (intOf ((prt.getD k.toNat []).getD 0 (AV.tup []))).toNat []).getD 0 (AV.tup [])) &&
                                                              (isInt IntKind.i64 ((ps.getD (intOf ((prt.getD k.toNat []).getD 0 (AV.tup []))).toNat []).getD 1 (AV.tup [])) && true))
                                                            (req (decide (0 ≤ k) && decide (k < (↑ps.length : Int)))
                                                              (req ((ps.getD k.toNat []).length.beq 2)
                                                                (req (Nat.ble 2 (ps.getD k.toNat []).length)
                                                                  (req
                                                                    (isInt IntKind.i64 ((ps.getD k.toNat []).getD 0 (AV.tup [])) &&
                                                                      (isInt IntKind.i64 ((ps.getD k.toNat []).getD 1 (AV.tup [])) && true))
                                                                    (cas (intOf ((es.getD k.toNat []).getD 0 (AV.tup [])) == -2)
                                                                      (K AX.ret 302 []
                                                                        [some (AV.lst ps fp), some (AV.int IntKind.i64 r), some (AV.bool false), some (AV.bool true),
                                                                          some (AV.int IntKind.i64 (↑n : Int)), some (AV.lst acts true), some (AV.lst prt true), some (AV.lst es true),
                                                                          some (AV.int IntKind.i64 (↑es.length : Int)), some (AV.int IntKind.i64 k)]
                                                                        [] 183)
                                                                      (cas
                                                                        (nearV (intOf ((ps.getD (intOf ((prt.getD k.toNat []).getD 0 (AV.tup []))).toNat []).getD 0 (AV.tup [])))
                                                                          (intOf ((ps.getD (intOf ((prt.getD k.toNat []).getD 0 (AV.tup []))).toNat []).getD 1 (AV.tup [])))
                                                                          (intOf ((ps.getD k.toNat []).getD 0 (AV.tup []))) (intOf ((ps.getD k.toNat []).getD 1 (AV.tup []))) r)
                                                                        (cas (intOf ((es.getD k.toNat []).getD 0 (AV.tup [])) != intOf ((prt.getD k.toNat []).getD 0 (AV.tup [])))
                                                                          (K AX.ret 302 []
                                                                            [some (AV.lst ps fp), some (AV.int IntKind.i64 r), some (AV.bool false), some (AV.bool true),
                                                                              some (AV.int IntKind.i64 (↑n : Int)), some (AV.lst acts true), some (AV.lst prt true), some (AV.lst es true),
                                                                              some (AV.int IntKind.i64 (↑es.length : Int)), some (AV.int IntKind.i64 k)]
                                                                            [] 183)
                                                                          (cas
                                                                            (!nearV (intOf ((ps.getD (intOf ((prt.getD k.toNat []).getD 0 (AV.tup []))).toNat []).getD 0 (AV.tup [])))
                                                                                (intOf ((ps.getD (intOf ((prt.getD k.toNat []).getD 0 (AV.tup []))).toNat []).getD 1 (AV.tup [])))
                                                                                (intOf ((ps.getD k.toNat []).getD 0 (AV.tup []))) (intOf ((ps.getD k.toNat []).getD 1 (AV.tup []))) r)
                                                                            (cas (intOf ((es.getD k.toNat []).getD 0 (AV.tup [])) != -1)
                                                                              (K AX.ret 302 []
                                                                                [some (AV.lst ps fp), some (AV.int IntKind.i64 r), some (AV.bool false), some (AV.bool true),
                                                                                  some (AV.int IntKind.i64 (↑n : Int)), some (AV.lst acts true), some (AV.lst prt true), some (AV.lst es true),
                                                                                  some (AV.int IntKind.i64 (↑es.length : Int)), some (AV.int IntKind.i64 k)]
                                                                                [] 183)
                                                                              (K AX.normal 302 []
                                                                                [some (AV.lst ps fp), some (AV.int IntKind.i64 r), some (AV.bool false), some (AV.bool true),
                                                                                  some (AV.int IntKind.i64 (↑n : Int)), some (AV.lst acts true), some (AV.lst prt true), some (AV.lst es true),
                                                                                  some (AV.int IntKind.i64 (↑es.length : Int)), some (AV.int IntKind.i64 (IntKind.i64.wrap (k + 1)))]
                                                                                [] 184))
                                                                            (K AX.normal 302 []
                                                                              [some (AV.lst ps fp), some (AV.int IntKind.i64 r), some (AV.bool false), some (AV.bool true),
                                                                                some (AV.int IntKind.i64 (↑n : Int)), some (AV.lst acts true), some (AV.lst prt true), some (AV.lst es true),
                                                                                some (AV.int IntKind.i64 (↑es.length : Int)), some (AV.int IntKind.i64 (IntKind.i64.wrap (k + 1)))]
                                                                              [] 184)))
                                                                        (cas
                                                                          (!nearV (intOf ((ps.getD (intOf ((prt.getD k.toNat []).getD 0 (AV.tup []))).toNat []).getD 0 (AV.tup [])))
                                                                              (intOf ((ps.getD (intOf ((prt.getD k.toNat []).getD 0 (AV.tup []))).toNat []).getD 1 (AV.tup [])))
                                                                              (intOf ((ps.getD k.toNat []).getD 0 (AV.tup []))) (intOf ((ps.getD k.toNat []).getD 1 (AV.tup []))) r)
                                                                          (cas (intOf ((es.getD k.toNat []).getD 0 (AV.tup [])) != -1)
                                                                            (K AX.ret 302 []
                                                                              [some (AV.lst ps fp), some (AV.int IntKind.i64 r), some (AV.bool false), some (AV.bool true),
                                                                                some (AV.int IntKind.i64 (↑n : Int)), some (AV.lst acts true), some (AV.lst prt true), some (AV.lst es true),
                                                                                some (AV.int IntKind.i64 (↑es.length : Int)), some (AV.int IntKind.i64 k)]
                                                                              [] 183)
                                                                            (K AX.normal 302 []
                                                                              [some (AV.lst ps fp), some (AV.int IntKind.i64 r), some (AV.bool false), some (AV.bool true),
                                                                                some (AV.int IntKind.i64 (↑n : Int)), some (AV.lst acts true), some (AV.lst prt true), some (AV.lst es true),
                                                                                some (AV.int IntKind.i64 (↑es.length : Int)), some (AV.int IntKind.i64 (IntKind.i64.wrap (k + 1)))]
                                                                              [] 184))
                                                                          (K AX.normal 302 []
                                                                            [some (AV.lst ps fp), some (AV.int IntKind.i64 r), some (AV.bool false), some (AV.bool true),
                                                                              some (AV.int IntKind.i64 (↑n : Int)), some (AV.lst acts true), some (AV.lst prt true), some (AV.lst es true),
                                                                              some (AV.int IntKind.i64 (↑es.length : Int)), some (AV.int IntKind.i64 (IntKind.i64.wrap (k + 1)))]
                                                                            [] 184))))))))))))
                                                    (cas (intOf ((es.getD k.toNat []).getD 0 (AV.tup [])) == -2)
                                                      (K AX.ret 302 []
                                                        [some (AV.lst ps fp), some (AV.int IntKind.i64 r), some (AV.bool false), some (AV.bool true), some (AV.int IntKind.i64 (↑n : Int)),
                                                          some (AV.lst acts true), some (AV.lst prt true), some (AV.lst es true), some (AV.int IntKind.i64 (↑es.length : Int)),
                                                          some (AV.int IntKind.i64 k)]
                                                        [] 183)
                                                      (cas (intOf ((es.getD k.toNat []).getD 0 (AV.tup [])) != -1)
                                                        (K AX.ret 302 []
                                                          [some (AV.lst ps fp), some (AV.int IntKind.i64 r), some (AV.bool false), some (AV.bool true), some (AV.int IntKind.i64 (↑n : Int)),
                                                            some (AV.lst acts true), some (AV.lst prt true), some (AV.lst es true), some (AV.int IntKind.i64 (↑es.length : Int)),
                                                            some (AV.int IntKind.i64 k)]
                                                          [] 183)
                                                        (K AX.normal 302 []
                                                          [some (AV.lst ps fp), some (AV.int IntKind.i64 r), some (AV.bool false), some (AV.bool true), some (AV.int IntKind.i64 (↑n : Int)),
                                                            some (AV.lst acts true), some (AV.lst prt true), some (AV.lst es true), some (AV.int IntKind.i64 (↑es.length : Int)),
                                                            some (AV.int IntKind.i64 (IntKind.i64.wrap (k + 1)))]
                                                          [] 184))))))))))))
                                  (cas (intOf ((es.getD k.toNat []).getD 0 (AV.tup [])) == -2)
                                    (K AX.ret 302 []
                                      [some (AV.lst ps fp), some (AV.int IntKind.i64 r), some (AV.bool false), some (AV.bool true), some (AV.int IntKind.i64 (↑n : Int)), some (AV.lst acts true),
                                        some (AV.lst prt true), some (AV.lst es true), some (AV.int IntKind.i64 (↑es.length : Int)), some (AV.int IntKind.i64 k)]
                                      [] 183)
                                    (cas (intOf ((es.getD k.toNat []).getD 0 (AV.tup [])) != -1)
                                      (K AX.ret 302 []
                                        [some (AV.lst ps fp), some (AV.int IntKind.i64 r), some (AV.bool false), some (AV.bool true), some (AV.int IntKind.i64 (↑n : Int)), some (AV.lst acts true),
                                          some (AV.lst prt true), some (AV.lst es true), some (AV.int IntKind.i64 (↑es.length : Int)), some (AV.int IntKind.i64 k)]
                                        [] 183)
                                      (K AX.normal 302 []
                                        [some (AV.lst ps fp), some (AV.int IntKind.i64 r), some (AV.bool false), some (AV.bool true), some (AV.int IntKind.i64 (↑n : Int)), some (AV.lst acts true),
                                          some (AV.lst prt true), some (AV.lst es true), some (AV.int IntKind.i64 (↑es.length : Int)), some (AV.int IntKind.i64 (IntKind.i64.wrap (k + 1)))]
                                        [] 184))))))))
                        (cas (intOf ((es.getD k.toNat []).getD 0 (AV.tup [])) == -2)
                          (K AX.ret 302 []
                            [some (AV.lst ps fp), some (AV.int IntKind.i64 r), some (AV.bool false), some (AV.bool true), some (AV.int IntKind.i64 (↑n : Int)), some (AV.lst acts true),
                              some (AV.lst prt true), some (AV.lst es true), some (AV.int IntKind.i64 (↑es.length : Int)), some (AV.int IntKind.i64 k)]
                            [] 183)
                          (cas (intOf ((es.getD k.toNat []).getD 0 (AV.tup [])) != -1)
                            (K AX.ret 302 []
                              [some (AV.lst ps fp), some (AV.int IntKind.i64 r), some (AV.bool false), some (AV.bool true), some (AV.int IntKind.i64 (↑n : Int)), some (AV.lst acts true),
                                some (AV.lst prt true), some (AV.lst es true), some (AV.int IntKind.i64 (↑es.length : Int)), some (AV.int IntKind.i64 k)]
                              [] 183)
                            (K AX.normal 302 []
                              [some (AV.lst ps fp), some (AV.int IntKind.i64 r), some (AV.bool false), some (AV.bool true), some (AV.int IntKind.i64 (↑n : Int)), some (AV.lst acts true),
                                some (AV.lst prt true), some (AV.lst es true), some (AV.int IntKind.i64 (↑es.length : Int)), some (AV.int IntKind.i64 (IntKind.i64.wrap (k + 1)))]
                              [] 184))))
                      (cas (intOf ((es.getD k.toNat []).getD 0 (AV.tup [])) == -2)
                        (K AX.ret 302 []
                          [some (AV.lst ps fp), some (AV.int IntKind.i64 r), some (AV.bool false), some (AV.bool true), some (AV.int IntKind.i64 (↑n : Int)), some (AV.lst acts true),
                            some (AV.lst prt true), some (AV.lst es true), some (AV.int IntKind.i64 (↑es.length : Int)), some (AV.int IntKind.i64 k)]
                          [] 183)
                        (cas (intOf ((es.getD k.toNat []).getD 0 (AV.tup [])) != -1)
                          (K AX.ret 302 []
                            [some (AV.lst ps fp), some (AV.int IntKind.i64 r), some (AV.bool false), some (AV.bool true), some (AV.int IntKind.i64 (↑n : Int)), some (AV.lst acts true),
                              some (AV.lst prt true), some (AV.lst es true), some (AV.int IntKind.i64 (↑es.length : Int)), some (AV.int IntKind.i64 k)]
                            [] 183)
                          (K AX.normal 302 []
                            [some (AV.lst ps fp), some (AV.int IntKind.i64 r), some (AV.bool false), some (AV.bool true), some (AV.int IntKind.i64 (↑n : Int)), some (AV.lst acts true),
                              some (AV.lst prt true), some (AV.lst es true), some (AV.int IntKind.i64 (↑es.length : Int)), some (AV.int IntKind.i64 (IntKind.i64.wrap (k + 1)))]
                            [] 184))))
                    (cas (intOf ((es.getD k.toNat []).getD 0 (AV.tup [])) == -2)
                      (K AX.ret 302 []
                        [some (AV.lst ps fp), some (AV.int IntKind.i64 r), some (AV.bool false), some (AV.bool true), some (AV.int IntKind.i64 (↑n : Int)), some (AV.lst acts true),
                          some (AV.lst prt true), some (AV.lst es true), some (AV.int IntKind.i64 (↑es.length : Int)), some (AV.int IntKind.i64 k)]
                        [] 183)
                      (cas (intOf ((es.getD k.toNat []).getD 0 (AV.tup [])) != -1)
                        (K AX.ret 302 []
                          [some (AV.lst ps fp), some (AV.int IntKind.i64 r), some (AV.bool false), some (AV.bool true), some (AV.int IntKind.i64 (↑n : Int)), some (AV.lst acts true),
                            some (AV.lst prt true), some (AV.lst es true), some (AV.int IntKind.i64 (↑es.length : Int)), some (AV.int IntKind.i64 k)]
                          [] 183)
                        (K AX.normal 302 []
                          [some (AV.lst ps fp), some (AV.int IntKind.i64 r), some (AV.bool false), some (AV.bool true), some (AV.int IntKind.i64 (↑n : Int)), some (AV.lst acts true),
                            some (AV.lst prt true), some (AV.lst es true), some (AV.int IntKind.i64 (↑es.length : Int)), some (AV.int IntKind.i64 (IntKind.i64.wrap (k + 1)))]
                          [] 184))))))))))))
  (K (AX.exit 8) 302 []
    [some (AV.lst ps fp), some (AV.int IntKind.i64 r), some (AV.bool false), some (AV.bool true), some (AV.int IntKind.i64 (↑n : Int)), some (AV.lst acts true), some (AV.lst prt true),
      some (AV.lst es true), some (AV.int IntKind.i64 (↑es.length : Int)), some (AV.int IntKind.i64 k)]
    [] 108)) := by kernel_rfl

def L3c : Option Nat → Env → AH → AQ → Prop := fun ro e h Q =>
  match ro, obs e t3c with
  | none, [some (.lst ps fp), some (.int .i64 r), some (.bool false), some (.bool true), some (.int .i64 m), some (.lst acts true), some (.lst prt true), some (.lst es true), some (.int .i64 m2), some (.int .i64 0)] =>
    req (Nat.beq e.n 302 && e.ds.isEmpty && Nat.beq h.next 107) (req ((m == acts.length) && (m2 == es.length) && Nat.beq es.length acts.length && Nat.beq prt.length acts.length && Nat.beq ps.length acts.length && short acts && acts.all (wf 5) && prt.all (wf 1) && es.all (wf 1) && ps.all (wf 2))
      ((∀ i, i < acts.length → goodP acts ps acts.length r i (fld (prt.getD i []) 0) (fld (es.getD i []) 0)) ∧ Q (.exit 8) (mkE 302 (t3c.zip (v3c ps acts prt es fp r acts.length es.length))) (mkH 107 [])))
  | _, _ => False
theorem L3cok (hHead : APure C 4 [] (.bool true)) {fn : Func} {body c : Code} (h1 : C.F 3 = some fn) (h2 : fn.body = some body) (h3 : codeAt body p3c = some (.loop c)) (ro : Option Nat) (e : Env) (h : AH) (Q : AQ) (hl : L3c ro e h Q) : ASem C ro (.loop c) Q e h := by
  have S4ok : SpecsOk C S4 := .of (P4ok hHead) rfl rfl (fun _ _ _ h => (by cases h))
  have hloc := loc_of h1 h2 h3
  obtain rfl := loopAt_eq h1 h2 h3
  unfold L3c at hl
  split at hl
  · rename_i ps fp r m acts prt es m2 hob
    simp only [req_iff, Bool.and_eq_true, List.isEmpty_iff, beq_iff_eq] at hl
    obtain ⟨⟨⟨e1, e2⟩, e3⟩, ⟨⟨⟨⟨⟨⟨⟨⟨⟨rfl, rfl⟩, le⟩, lp⟩, lps⟩, hsh⟩, wa⟩, wp⟩, we⟩, wps⟩, hgood, q1⟩ := hl
    have e1 := Nat.eq_of_beq_eq_true e1
    have e3 := Nat.eq_of_beq_eq_true e3
    have le := Nat.eq_of_beq_eq_true le
    have lp := Nat.eq_of_beq_eq_true lp
    have lps := Nat.eq_of_beq_eq_true lps
    have hsh := short_le hsh
    refine loop_here (α := Unit) (τ := Unit) 302 107 8 es.length t3c [] (by simp) (fun k _ => v3c ps acts prt es fp r acts.length k) (fun _ _ => [])
      (fun _ _ => True) (fun _ => []) (fun _ => []) (fun _ => False) (fun _ hx => by cases hx) ?_ e3 e () trivial (by rw [hob]; rfl) e1 e2 rfl (fun _ _ => q1) (fun _ hf => hf.elim)
    intro k _ hk _
    refine (wpOk hC mixed S4ok 1000).c _ _ _ _ _ _ hloc ?_
    show wpC C S4 1000 none _ _ _ _ (mkH 107 [])
    rw [vc3c]
    have hkk : (k : Int).toNat = k := rfl
    have hk1 : IntKind.i64.wrap ((k : Int) + 1) = ((k + 1 : Nat) : Int) := by rw [w64 (n := (k : Int) + 1) (by omega) (by omega)]; rfl
    rw [cas_iff]
    constructor
    · intro hlt
      have hlt : k < es.length := by simpa using hlt
      obtain ⟨g1, g2, g3⟩ := hgood k (by omega)
      have wek := all_getD we hlt []
      have wpk := all_getD wp (show k < prt.length by omega) []
      have wak := all_getD wa (show k < acts.length by omega) []
      have wsk := all_getD wps (show k < ps.length by omega) []
      obtain ⟨v, hv⟩ : ∃ v, fld (es.getD k []) 0 = v := ⟨_, rfl⟩
      obtain ⟨q, hq⟩ : ∃ v, fld (prt.getD k []) 0 = v := ⟨_, rfl⟩
      rw [hv] at g1 g2 g3
      rw [hq] at g2 g3
      have hv' : intOf ((es.getD k []).getD 0 .undef) = v := hv
      have hq' : intOf ((prt.getD k []).getD 0 .undef) = q := hq
      have l1 := wf_len wek
      have l2 := wf_len wpk
      have l3 := wf_len wak
      have l4 := wf_len wsk
      have j1 : (isInt .i64 ((es.getD k []).getD 0 .undef) && true) = true := by rw [wf_int wek (j := 0) (by omega)]; rfl
      have j2 : (isInt .i64 ((prt.getD k []).getD 0 .undef) && true) = true := by rw [wf_int wpk (j := 0) (by omega)]; rfl
      have j3 := wf_int wak (j := 1) (by omega)
      have j4 := wf_int wsk (j := 0) (by omega)
      have j5 := wf_int wsk (j := 1) (by omega)
      have dk1 : (decide (0 ≤ (k : Int)) && decide ((k : Int) < (es.length : Int))) = true := by simp; omega
      have dk2 : (decide (0 ≤ (k : Int)) && decide ((k : Int) < (prt.length : Int))) = true := by simp; omega
      have dk3 : (decide (0 ≤ (k : Int)) && decide ((k : Int) < (acts.length : Int))) = true := by simp; omega
      have dk4 : (decide (0 ≤ (k : Int)) && decide ((k : Int) < (ps.length : Int))) = true := by simp; omega
      have j3' : (isInt .i64 ((List.drop 1 (acts.getD k [])).getD 0 .undef) && true) = true := by
        rw [show (List.drop 1 (acts.getD k [])).getD 0 .undef = (acts.getD k []).getD 1 .undef by simp [List.getD_eq_getElem?_getD], j3]; rfl
      have j4' : (isInt .i64 ((ps.getD k []).getD 0 .undef) && (isInt .i64 ((ps.getD k []).getD 1 .undef) && true)) = true := by rw [j4, j5]; rfl
      have b1 : Nat.ble 1 (es.getD k []).length = true := by rw [l1]; rfl
      have b2 : Nat.ble 1 (prt.getD k []).length = true := by rw [l2]; rfl
      have b3 : Nat.ble 1 (List.drop 1 (acts.getD k [])).length = true := by rw [List.length_drop, l3]; rfl
      have b4 : Nat.ble 2 (ps.getD k []).length = true := by rw [l4]; rfl
      have l1' : (es.getD k []).length.beq 1 = true := by rw [l1]; rfl
      have l2' : (prt.getD k []).length.beq 1 = true := by rw [l2]; rfl
      have l3' : (acts.getD k []).length.beq 5 = true := by rw [l3]; rfl
      have l4' : (ps.getD k []).length.beq 2 = true := by rw [l4]; rfl
      simp only [hkk, hv', hq', dk1, dk2, dk3, dk4, b1, b2, b3, b4, l1', l2', l3', l4', j1, j2, j3', j4', req]
      have N1 : ((v == -2) = false) := by simpa using g1
      have hv1 : ¬ heardP acts ps acts.length r k q → (v != -1) = false := fun h => by rw [g3 h]; rfl
      cases c1 : decide (q ≥ 0)
      · have h0 : ¬ heardP acts ps acts.length r k q := fun h => by have := h.1; simp at c1; omega
        simp only [cas, N1, hv1 h0]
        exact ⟨hlt, (), trivial, rfl, rfl, by omega, by rw [hk1]; rfl, rfl, rfl, rfl⟩
      cases c2 : (q != (k : Int))
      · have h0 : ¬ heardP acts ps acts.length r k q := fun h => by have := h.2.1; simp at c2; omega
        simp only [cas, N1, hv1 h0]
        exact ⟨hlt, (), trivial, rfl, rfl, by omega, by rw [hk1]; rfl, rfl, rfl, rfl⟩
      cases c3 : decide (q < (acts.length : Int))
      · have h0 : ¬ heardP acts ps acts.length r k q := fun h => by have := h.2.2.1; simp at c3; omega
        simp only [cas, N1, hv1 h0]
        exact ⟨hlt, (), trivial, rfl, rfl, by omega, by rw [hk1]; rfl, rfl, rfl, rfl⟩
      have q0 : 0 ≤ q := by simpa using c1
      have q1' : q < acts.length := by simpa using c3
      have wqa := all_getD wa (show q.toNat < acts.length by omega) []
      have wqs := all_getD wps (show q.toNat < ps.length by omega) []
      have m3 := wf_len wqa
      have m4 := wf_len wqs
      have m3' : (acts.getD q.toNat []).length.beq 5 = true := by rw [m3]; rfl
      have m4' : (ps.getD q.toNat []).length.beq 2 = true := by rw [m4]; rfl
      have d3 : (decide (0 ≤ q) && decide (q < (acts.length : Int))) = true := by simp; omega
      have d4 : (decide (0 ≤ q) && decide (q < (ps.length : Int))) = true := by simp; omega
      have d5 : (true && decide (q < (ps.length : Int))) = true := by simp; omega
      have n1 : Nat.ble 1 (acts.getD q.toNat []).length = true := by rw [m3]; rfl
      have n2 : Nat.ble 1 (List.drop 1 (acts.getD q.toNat [])).length = true := by rw [List.length_drop, m3]; rfl
      have n4 : Nat.ble 2 (ps.getD q.toNat []).length = true := by rw [m4]; rfl
      have i0 : (isInt .i64 ((acts.getD q.toNat []).getD 0 .undef) && true) = true := by rw [wf_int wqa (j := 0) (by omega)]; rfl
      have i1 : (isInt .i64 ((List.drop 1 (acts.getD q.toNat [])).getD 0 .undef) && true) = true := by
        rw [show (List.drop 1 (acts.getD q.toNat [])).getD 0 .undef = (acts.getD q.toNat []).getD 1 .undef by simp [List.getD_eq_getElem?_getD], wf_int wqa (j := 1) (by omega)]; rfl
      have i4 : (isInt .i64 ((ps.getD q.toNat []).getD 0 .undef) && (isInt .i64 ((ps.getD q.toNat []).getD 1 .undef) && true)) = true := by
        rw [wf_int wqs (j := 0) (by omega), wf_int wqs (j := 1) (by omega)]; rfl
      simp only [d3, d4, n1, n2, n4, m3', m4', i0, i1, i4, cas]
      cases c4 : (intOf ((acts.getD q.toNat []).getD 0 .undef) == 2)
      · have h0 : ¬ heardP acts ps acts.length r k q := fun h => by
          have := h.2.2.2
          simp only [heardE, Bool.and_eq_true] at this
          have := this.1.1
          simp only [fld] at this
          rw [c4] at this; cases this
        simp only [N1, hv1 h0]
        exact ⟨hlt, (), trivial, rfl, rfl, by omega, by rw [hk1]; rfl, rfl, rfl, rfl⟩
      simp only []
      have f1 : (List.drop 1 (acts.getD q.toNat [])).getD 0 .undef = (acts.getD q.toNat []).getD 1 .undef := by simp [List.getD_eq_getElem?_getD]
      have f2 : (List.drop 1 (acts.getD k [])).getD 0 .undef = (acts.getD k []).getD 1 .undef := by simp [List.getD_eq_getElem?_getD]
      cases c5 : (intOf ((List.drop 1 (acts.getD q.toNat [])).getD 0 .undef) == intOf ((List.drop 1 (acts.getD k [])).getD 0 .undef))
      · have h0 : ¬ heardP acts ps acts.length r k q := fun h => by
          have := h.2.2.2
          simp only [heardE, Bool.and_eq_true] at this
          have := this.1.2
          simp only [fld] at this
          rw [f1, f2, this] at c5; cases c5
        simp only [N1, hv1 h0]
        exact ⟨hlt, (), trivial, rfl, rfl, by omega, by rw [hk1]; rfl, rfl, rfl, rfl⟩
      simp only [N1]
      cases c6 : nearV (intOf ((ps.getD q.toNat []).getD 0 .undef)) (intOf ((ps.getD q.toNat []).getD 1 .undef)) (intOf ((ps.getD k []).getD 0 .undef)) (intOf ((ps.getD k []).getD 1 .undef)) r
      · have h0 : ¬ heardP acts ps acts.length r k q := fun h => by
          have := h.2.2.2
          simp only [heardE, Bool.and_eq_true] at this
          have := this.2
          simp only [fld] at this
          rw [c6] at this; cases this
        simp only [Bool.not_false, hv1 h0, d5]
        exact ⟨hlt, (), trivial, rfl, rfl, by omega, by rw [hk1]; rfl, rfl, rfl, rfl⟩
      · have h1 : heardP acts ps acts.length r k q := by
          refine ⟨q0, by simpa using c2, q1', ?_⟩
          simp only [heardE, Bool.and_eq_true, fld]
          exact ⟨⟨c4, by rw [f1, f2] at c5; exact c5⟩, c6⟩
        have hv2 : (v != q) = false := by rw [g2 h1]; simp
        simp only [hv2, Bool.not_true, d5]
        exact ⟨hlt, (), trivial, rfl, rfl, by omega, by rw [hk1]; rfl, rfl, rfl, rfl⟩
    · intro hge
      obtain rfl : k = es.length := by simp at hge; omega
      exact ⟨rfl, trivial, rfl, rfl, by omega, rfl, rfl, rfl, rfl⟩
  · exact hl.elim
end Go.Am.Cells
