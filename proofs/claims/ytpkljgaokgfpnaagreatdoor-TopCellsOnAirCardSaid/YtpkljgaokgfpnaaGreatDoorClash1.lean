/- TopCellsOnAir: clashes: who sends. -/
import Derived.Test.YtpkljgaokgfpnaaGreatDoorSenders
set_option maxRecDepth 1000000
set_option linter.unusedVariables false
set_option linter.unusedSimpArgs false
set_option linter.unusedSectionVars false
namespace Go.Am.Cells
open Go Go.Am
def p9a : List Bool := [false, true, false, true, true, true]
def p9b : List Bool := [false, true, true, true, false, false, true, true, false, false, true, false, true, true, true]
def p9c : List Bool := [false, true, false, true, true, true, true, true]
def p9d : List Bool := [false, true, true, false, false, true, true, false, false, true, false, true, true, true, true, true]
def p9e : List Bool := [false, true, true, true, false, false, true, true, false, false, true, true, false, false, true, true, false, false, true, false, true, true, true, true, true]
abbrev tb : List Nat := [0, 1, 2, 7, 8, 25, 26, 27, 41, 42, 43]
abbrev vb (hs tbs us : List (List AV)) (fh ft fu : Bool) (fr i m ti k : Int) : List AV := [.lst hs fh, .lst tbs ft, .i fr, .map 6, .i i, .lst tbs ft, .i m, .i ti, .lst us fu, .i us.length, .i k]
theorem vc9b (hs tbs us : List (List AV)) (fh ft fu : Bool) (fr i m ti k : Int) (es : List (AV × AV × Nat)) (clk : Nat) (X : Tr AObj) (K : KT) : (wpC C S1 1000 none (some (9, false :: p9b)) (loopAt 9 p9b) (kobs tb K) (mkE 125 (tb.zip (vb hs tbs us fh ft fu fr i m ti k))) (mkX 8589934592 X [(6, .map es clk)])) = (cas (decide (k < (↑us.length : Int)))
  (req (decide (0 ≤ k) && decide (k < (↑us.length : Int)))
    (req ((us.getD k.toNat []).length.beq 4)
      (req (Nat.ble 4 (us.getD k.toNat []).length)
        (req
          (isInt IntKind.i64 ((us.getD k.toNat []).getD 0 (AV.tup [])) &&
            (isInt IntKind.i64 ((us.getD k.toNat []).getD 1 (AV.tup [])) &&
              (isInt IntKind.i64 ((us.getD k.toNat []).getD 2 (AV.tup [])) && (isInt IntKind.i64 ((us.getD k.toNat []).getD 3 (AV.tup [])) && true))))
          (req (findOk C 45 (AV.agg [AV.int IntKind.i64 (intOf ((us.getD k.toNat []).getD 0 (AV.tup []))), AV.int IntKind.i64 (intOf ((us.getD k.toNat []).getD 1 (AV.tup [])))]) es)
            (req (isM (findVal C 45 (AV.agg [AV.int IntKind.i64 (intOf ((us.getD k.toNat []).getD 0 (AV.tup []))), AV.int IntKind.i64 (intOf ((us.getD k.toNat []).getD 1 (AV.tup [])))]) es AV.nilmap))
              (cas
                (isNilM
                  (findVal C 45 (AV.agg [AV.int IntKind.i64 (intOf ((us.getD k.toNat []).getD 0 (AV.tup []))), AV.int IntKind.i64 (intOf ((us.getD k.toNat []).getD 1 (AV.tup [])))]) es AV.nilmap))
                (req (findOk C 45 (AV.agg [AV.int IntKind.i64 (intOf ((us.getD k.toNat []).getD 0 (AV.tup []))), AV.int IntKind.i64 (intOf ((us.getD k.toNat []).getD 1 (AV.tup [])))]) es)
                  (req
                    (findOk C 45 (AV.agg [AV.int IntKind.i64 (intOf ((us.getD k.toNat []).getD 0 (AV.tup []))), AV.int IntKind.i64 (intOf ((us.getD k.toNat []).getD 1 (AV.tup [])))])
                      (updEs C 45 (AV.agg [AV.int IntKind.i64 (intOf ((us.getD k.toNat []).getD 0 (AV.tup []))), AV.int IntKind.i64 (intOf ((us.getD k.toNat []).getD 1 (AV.tup [])))])
                        (AV.map 8589934605) es clk))
                    (req
                      (isM
                        (findVal C 45 (AV.agg [AV.int IntKind.i64 (intOf ((us.getD k.toNat []).getD 0 (AV.tup []))), AV.int IntKind.i64 (intOf ((us.getD k.toNat []).getD 1 (AV.tup [])))])
                          (updEs C 45 (AV.agg [AV.int IntKind.i64 (intOf ((us.getD k.toNat []).getD 0 (AV.tup []))), AV.int IntKind.i64 (intOf ((us.getD k.toNat []).getD 1 (AV.tup [])))])
                            (AV.map 8589934605) es clk)
                          AV.nilmap))
                      (cas
                        (isNilM
                          (findVal C 45 (AV.agg [AV.int IntKind.i64 (intOf ((us.getD k.toNat []).getD 0 (AV.tup []))), AV.int IntKind.i64 (intOf ((us.getD k.toNat []).getD 1 (AV.tup [])))])
                            (updEs C 45 (AV.agg [AV.int IntKind.i64 (intOf ((us.getD k.toNat []).getD 0 (AV.tup []))), AV.int IntKind.i64 (intOf ((us.getD k.toNat []).getD 1 (AV.tup [])))])
                              (AV.map 8589934605) es clk)
                            AV.nilmap))
                        False
                        (req
                          (isMapO
                            ((mkXT X
                                  [(6,
                                      AObj.map
                                        (updEs C 45
                                          (AV.agg [AV.int IntKind.i64 (intOf ((us.getD k.toNat []).getD 0 (AV.tup []))), AV.int IntKind.i64 (intOf ((us.getD k.toNat []).getD 1 (AV.tup [])))])
                                          (AV.map 8589934605) es clk)
                                        (updN C 45 (AV.agg [AV.int IntKind.i64 (intOf ((us.getD k.toNat []).getD 0 (AV.tup []))), AV.int IntKind.i64 (intOf ((us.getD k.toNat []).getD 1 (AV.tup [])))])
                                          es clk)),
                                    (8589934605, AObj.map [] 0),
                                    (8589934595,
                                      AObj.cells
                                        [AV.int IntKind.i64 (intOf ((us.getD k.toNat []).getD 0 (AV.tup []))), AV.int IntKind.i64 (intOf ((us.getD k.toNat []).getD 1 (AV.tup []))),
                                          AV.int IntKind.i64 (intOf ((us.getD k.toNat []).getD 2 (AV.tup []))), AV.int IntKind.i64 (intOf ((us.getD k.toNat []).getD 3 (AV.tup [])))])]).get
                              (midOf
                                (findVal C 45 (AV.agg [AV.int IntKind.i64 (intOf ((us.getD k.toNat []).getD 0 (AV.tup []))), AV.int IntKind.i64 (intOf ((us.getD k.toNat []).getD 1 (AV.tup [])))])
                                  (updEs C 45 (AV.agg [AV.int IntKind.i64 (intOf ((us.getD k.toNat []).getD 0 (AV.tup []))), AV.int IntKind.i64 (intOf ((us.getD k.toNat []).getD 1 (AV.tup [])))])
                                    (AV.map 8589934605) es clk)
                                  AV.nilmap))))
                          (req
                            (findOk C 3 (AV.int IntKind.i64 i)
                              (esOf
                                ((mkXT X
                                      [(6,
                                          AObj.map
                                            (updEs C 45
                                              (AV.agg [AV.int IntKind.i64 (intOf ((us.getD k.toNat []).getD 0 (AV.tup []))), AV.int IntKind.i64 (intOf ((us.getD k.toNat []).getD 1 (AV.tup [])))])
                                              (AV.map 8589934605) es clk)
                                            (updN C 45
                                              (AV.agg [AV.int IntKind.i64 (intOf ((us.getD k.toNat []).getD 0 (AV.tup []))), AV.int IntKind.i64 (intOf ((us.getD k.toNat []).getD 1 (AV.tup [])))]) es
                                              clk)),
                                        (8589934605, AObj.map [] 0),
                                        (8589934595,
                                          AObj.cells
                                            [AV.int IntKind.i64 (intOf ((us.getD k.toNat []).getD 0 (AV.tup []))), AV.int IntKind.i64 (intOf ((us.getD k.toNat []).getD 1 (AV.tup []))),
                                              AV.int IntKind.i64 (intOf ((us.getD k.toNat []).getD 2 (AV.tup []))), AV.int IntKind.i64 (intOf ((us.getD k.toNat []).getD 3 (AV.tup [])))])]).get
                                  (midOf
                                    (findVal C 45 (AV.agg [AV.int IntKind.i64 (intOf ((us.getD k.toNat []).getD 0 (AV.tup []))), AV.int IntKind.i64 (intOf ((us.getD k.toNat []).getD 1 (AV.tup [])))])
                                      (updEs C 45 (AV.agg [AV.int IntKind.i64 (intOf ((us.getD k.toNat []).getD 0 (AV.tup []))), AV.int IntKind.i64 (intOf ((us.getD k.toNat []).getD 1 (AV.tup [])))])
                                        (AV.map 8589934605) es clk)
                                      AV.nilmap)))))
                            (K AX.normal 125 []
                              [some (AV.lst hs fh), some (AV.lst tbs ft), some (AV.int IntKind.i64 fr), some (AV.map 6), some (AV.int IntKind.i64 i), some (AV.lst tbs ft), some (AV.int IntKind.i64 m),
                                some (AV.int IntKind.i64 ti), some (AV.lst us fu), some (AV.int IntKind.i64 (↑us.length : Int)), some (AV.int IntKind.i64 (IntKind.i64.wrap (k + 1)))]
                              { next := 8589934615,
                                tr :=
                                  mkXT X
                                    [(midOf
                                          (findVal C 45
                                            (AV.agg [AV.int IntKind.i64 (intOf ((us.getD k.toNat []).getD 0 (AV.tup []))), AV.int IntKind.i64 (intOf ((us.getD k.toNat []).getD 1 (AV.tup [])))])
                                            (updEs C 45
                                              (AV.agg [AV.int IntKind.i64 (intOf ((us.getD k.toNat []).getD 0 (AV.tup []))), AV.int IntKind.i64 (intOf ((us.getD k.toNat []).getD 1 (AV.tup [])))])
                                              (AV.map 8589934605) es clk)
                                            AV.nilmap),
                                        AObj.map
                                          (updEs C 3 (AV.int IntKind.i64 i) (AV.bool true)
                                            (esOf
                                              ((mkXT X
                                                    [(6,
                                                        AObj.map
                                                          (updEs C 45
                                                            (AV.agg
                                                              [AV.int IntKind.i64 (intOf ((us.getD k.toNat []).getD 0 (AV.tup []))),
                                                                AV.int IntKind.i64 (intOf ((us.getD k.toNat []).getD 1 (AV.tup [])))])
                                                            (AV.map 8589934605) es clk)
                                                          (updN C 45
                                                            (AV.agg
                                                              [AV.int IntKind.i64 (intOf ((us.getD k.toNat []).getD 0 (AV.tup []))),
                                                                AV.int IntKind.i64 (intOf ((us.getD k.toNat []).getD 1 (AV.tup [])))])
                                                            es clk)),
                                                      (8589934605, AObj.map [] 0),
                                                      (8589934595,
                                                        AObj.cells
                                                          [AV.int IntKind.i64 (intOf ((us.getD k.toNat []).getD 0 (AV.tup []))), AV.int IntKind.i64 (intOf ((us.getD k.toNat []).getD 1 (AV.tup []))),
                                                            AV.int IntKind.i64 (intOf ((us.getD k.toNat []).getD 2 (AV.tup []))),
                                                            AV.int IntKind.i64 (intOf ((us.getD k.toNat []).getD 3 (AV.tup [])))])]).get
                                                (midOf
                                                  (findVal C 45
                                                    (AV.agg
                                                      [AV.int IntKind.i64 (intOf ((us.getD k.toNat []).getD 0 (AV.tup []))), AV.int IntKind.i64 (intOf ((us.getD k.toNat []).getD 1 (AV.tup [])))])
                                                    (updEs C 45
                                                      (AV.agg
                                                        [AV.int IntKind.i64 (intOf ((us.getD k.toNat []).getD 0 (AV.tup []))), AV.int IntKind.i64 (intOf ((us.getD k.toNat []).getD 1 (AV.tup [])))])
                                                      (AV.map 8589934605) es clk)
                                                    AV.nilmap))))
                                            (clkOf
                                              ((mkXT X
                                                    [(6,
                                                        AObj.map
                                                          (updEs C 45
                                                            (AV.agg
                                                              [AV.int IntKind.i64 (intOf ((us.getD k.toNat []).getD 0 (AV.tup []))),
                                                                AV.int IntKind.i64 (intOf ((us.getD k.toNat []).getD 1 (AV.tup [])))])
                                                            (AV.map 8589934605) es clk)
                                                          (updN C 45
                                                            (AV.agg
                                                              [AV.int IntKind.i64 (intOf ((us.getD k.toNat []).getD 0 (AV.tup []))),
                                                                AV.int IntKind.i64 (intOf ((us.getD k.toNat []).getD 1 (AV.tup [])))])
                                                            es clk)),
                                                      (8589934605, AObj.map [] 0),
                                                      (8589934595,
                                                        AObj.cells
                                                          [AV.int IntKind.i64 (intOf ((us.getD k.toNat []).getD 0 (AV.tup []))), AV.int IntKind.i64 (intOf ((us.getD k.toNat []).getD 1 (AV.tup []))),
                                                            AV.int IntKind.i64 (intOf ((us.getD k.toNat []).getD 2 (AV.tup []))),
                                                            AV.int IntKind.i64 (intOf ((us.getD k.toNat []).getD 3 (AV.tup [])))])]).get
                                                (midOf
                                                  (findVal C 45
                                                    (AV.agg
                                                      [AV.int IntKind.i64 (intOf ((us.getD k.toNat []).getD 0 (AV.tup []))), AV.int IntKind.i64 (intOf ((us.getD k.toNat []).getD 1 (AV.tup [])))])
                                                    (updEs C 45
                                                      (AV.agg
                                                        [AV.int IntKind.i64 (intOf ((us.getD k.toNat []).getD 0 (AV.tup []))), AV.int IntKind.i64 (intOf ((us.getD k.toNat []).getD 1 (AV.tup [])))])
                                                      (AV.map 8589934605) es clk)
                                                    AV.nilmap)))))
                                          (updN C 3 (AV.int IntKind.i64 i)
                                            (esOf
                                              ((mkXT X
                                                    [(6,
                                                        AObj.map
                                                          (updEs C 45
                                                            (AV.agg
                                                              [AV.int IntKind.i64 (intOf ((us.getD k.toNat []).getD 0 (AV.tup []))),
                                                                AV.int IntKind.i64 (intOf ((us.getD k.toNat []).getD 1 (AV.tup [])))])
                                                            (AV.map 8589934605) es clk)
                                                          (updN C 45
                                                            (AV.agg
                                                              [AV.int IntKind.i64 (intOf ((us.getD k.toNat []).getD 0 (AV.tup []))),
                                                                AV.int IntKind.i64 (intOf ((us.getD k.toNat []).getD 1 (AV.tup [])))])
                                                            es clk)),
                                                      (8589934605, AObj.map [] 0),
                                                      (8589934595,
                                                        AObj.cells
                                                          [AV.int IntKind.i64 (intOf ((us.getD k.toNat []).getD 0 (AV.tup []))), AV.int IntKind.i64 (intOf ((us.getD k.toNat []).getD 1 (AV.tup []))),
                                                            AV.int IntKind.i64 (intOf ((us.getD k.toNat []).getD 2 (AV.tup []))),
                                                            AV.int IntKind.i64 (intOf ((us.getD k.toNat []).getD 3 (AV.tup [])))])]).get
                                                (midOf
                                                  (findVal C 45
                                                    (AV.agg
                                                      [AV.int IntKind.i64 (intOf ((us.getD k.toNat []).getD 0 (AV.tup []))), AV.int IntKind.i64 (intOf ((us.getD k.toNat []).getD 1 (AV.tup [])))])
                                                    (updEs C 45
                                                      (AV.agg
                                                        [AV.int IntKind.i64 (intOf ((us.getD k.toNat []).getD 0 (AV.tup []))), AV.int IntKind.i64 (intOf ((us.getD k.toNat []).getD 1 (AV.tup [])))])
                                                      (AV.map 8589934605) es clk)
                                                    AV.nilmap))))
                                            (clkOf
                                              ((mkXT X
                                                    [(6,
                                                        AObj.map
                                                          (updEs C 45
                                                            (AV.agg
                                                              [AV.int IntKind.i64 (intOf ((us.getD k.toNat []).getD 0 (AV.tup []))),
                                                                AV.int IntKind.i64 (intOf ((us.getD k.toNat []).getD 1 (AV.tup [])))])
                                                            (AV.map 8589934605) es clk)
                                                          (updN C 45
                                                            (AV.agg
                                                              [AV.int IntKind.i64 (intOf ((us.getD k.toNat []).getD 0 (AV.tup []))),
                                                                AV.int IntKind.i64 (intOf ((us.getD k.toNat []).getD 1 (AV.tup [])))])
                                                            es clk)),
                                                      (8589934605, AObj.map [] 0),
                                                      (8589934595,
                                                        AObj.cells
                                                          [AV.int IntKind.i64 (intOf ((us.getD k.toNat []).getD 0 (AV.tup []))), AV.int IntKind.i64 (intOf ((us.getD k.toNat []).getD 1 (AV.tup []))),
                                                            AV.int IntKind.i64 (intOf ((us.getD k.toNat []).getD 2 (AV.tup []))),
                                                            AV.int IntKind.i64 (intOf ((us.getD k.toNat []).getD 3 (AV.tup [])))])]).get
                                                (midOf
                                                  (findVal C 45
                                                    (AV.agg
                                                      [AV.int IntKind.i64 (intOf ((us.getD k.toNat []).getD 0 (AV.tup []))), AV.int IntKind.i64 (intOf ((us.getD k.toNat []).getD 1 (AV.tup [])))])
                                                    (updEs C 45
                                                      (AV.agg
                                                        [AV.int IntKind.i64 (intOf ((us.getD k.toNat []).getD 0 (AV.tup []))), AV.int IntKind.i64 (intOf ((us.getD k.toNat []).getD 1 (AV.tup [])))])
                                                      (AV.map 8589934605) es clk)
                                                    AV.nilmap)))))),
                                      (6,
                                        AObj.map
                                          (updEs C 45
                                            (AV.agg [AV.int IntKind.i64 (intOf ((us.getD k.toNat []).getD 0 (AV.tup []))), AV.int IntKind.i64 (intOf ((us.getD k.toNat []).getD 1 (AV.tup [])))])
                                            (AV.map 8589934605) es clk)
                                          (updN C 45
                                            (AV.agg [AV.int IntKind.i64 (intOf ((us.getD k.toNat []).getD 0 (AV.tup []))), AV.int IntKind.i64 (intOf ((us.getD k.toNat []).getD 1 (AV.tup [])))]) es
                                            clk)),
                                      (8589934605, AObj.map [] 0),
                                      (8589934595,
                                        AObj.cells
                                          [AV.int IntKind.i64 (intOf ((us.getD k.toNat []).getD 0 (AV.tup []))), AV.int IntKind.i64 (intOf ((us.getD k.toNat []).getD 1 (AV.tup []))),
                                            AV.int IntKind.i64 (intOf ((us.getD k.toNat []).getD 2 (AV.tup []))), AV.int IntKind.i64 (intOf ((us.getD k.toNat []).getD 3 (AV.tup [])))])] })))))))
                (req (findOk C 45 (AV.agg [AV.int IntKind.i64 (intOf ((us.getD k.toNat []).getD 0 (AV.tup []))), AV.int IntKind.i64 (intOf ((us.getD k.toNat []).getD 1 (AV.tup [])))]) es)
                  (req
                    (isM
                      (findVal C 45 (AV.agg [AV.int IntKind.i64 (intOf ((us.getD k.toNat []).getD 0 (AV.tup []))), AV.int IntKind.i64 (intOf ((us.getD k.toNat []).getD 1 (AV.tup [])))]) es AV.nilmap))
                    (cas
                      (isNilM
                        (findVal C 45 (AV.agg [AV.int IntKind.i64 (intOf ((us.getD k.toNat []).getD 0 (AV.tup []))), AV.int IntKind.i64 (intOf ((us.getD k.toNat []).getD 1 (AV.tup [])))]) es
                          AV.nilmap))
                      False
                      (req
                        (isMapO
                          ((mkXT X
                                [(8589934595,
                                    AObj.cells
                                      [AV.int IntKind.i64 (intOf ((us.getD k.toNat []).getD 0 (AV.tup []))), AV.int IntKind.i64 (intOf ((us.getD k.toNat []).getD 1 (AV.tup []))),
                                        AV.int IntKind.i64 (intOf ((us.getD k.toNat []).getD 2 (AV.tup []))), AV.int IntKind.i64 (intOf ((us.getD k.toNat []).getD 3 (AV.tup [])))]),
                                  (6, AObj.map es clk)]).get
                            (midOf
                              (findVal C 45 (AV.agg [AV.int IntKind.i64 (intOf ((us.getD k.toNat []).getD 0 (AV.tup []))), AV.int IntKind.i64 (intOf ((us.getD k.toNat []).getD 1 (AV.tup [])))]) es
                                AV.nilmap))))
                        (req
                          (findOk C 3 (AV.int IntKind.i64 i)
                            (esOf
                              ((mkXT X
                                    [(8589934595,
                                        AObj.cells
                                          [AV.int IntKind.i64 (intOf ((us.getD k.toNat []).getD 0 (AV.tup []))), AV.int IntKind.i64 (intOf ((us.getD k.toNat []).getD 1 (AV.tup []))),
                                            AV.int IntKind.i64 (intOf ((us.getD k.toNat []).getD 2 (AV.tup []))), AV.int IntKind.i64 (intOf ((us.getD k.toNat []).getD 3 (AV.tup [])))]),
                                      (6, AObj.map es clk)]).get
                                (midOf
                                  (findVal C 45 (AV.agg [AV.int IntKind.i64 (intOf ((us.getD k.toNat []).getD 0 (AV.tup []))), AV.int IntKind.i64 (intOf ((us.getD k.toNat []).getD 1 (AV.tup [])))]) es
                                    AV.nilmap)))))
                          (K AX.normal 125 []
                            [some (AV.lst hs fh), some (AV.lst tbs ft), some (AV.int IntKind.i64 fr), some (AV.map 6), some (AV.int IntKind.i64 i), some (AV.lst tbs ft), some (AV.int IntKind.i64 m),
                              some (AV.int IntKind.i64 ti), some (AV.lst us fu), some (AV.int IntKind.i64 (↑us.length : Int)), some (AV.int IntKind.i64 (IntKind.i64.wrap (k + 1)))]
                            { next := 8589934610,
                              tr :=
                                mkXT X
                                  [(midOf
                                        (findVal C 45
                                          (AV.agg [AV.int IntKind.i64 (intOf ((us.getD k.toNat []).getD 0 (AV.tup []))), AV.int IntKind.i64 (intOf ((us.getD k.toNat []).getD 1 (AV.tup [])))]) es
                                          AV.nilmap),
                                      AObj.map
                                        (updEs C 3 (AV.int IntKind.i64 i) (AV.bool true)
                                          (esOf
                                            ((mkXT X
                                                  [(8589934595,
                                                      AObj.cells
                                                        [AV.int IntKind.i64 (intOf ((us.getD k.toNat []).getD 0 (AV.tup []))), AV.int IntKind.i64 (intOf ((us.getD k.toNat []).getD 1 (AV.tup []))),
                                                          AV.int IntKind.i64 (intOf ((us.getD k.toNat []).getD 2 (AV.tup []))), AV.int IntKind.i64 (intOf ((us.getD k.toNat []).getD 3 (AV.tup [])))]),
                                                    (6, AObj.map es clk)]).get
                                              (midOf
                                                (findVal C 45
                                                  (AV.agg [AV.int IntKind.i64 (intOf ((us.getD k.toNat []).getD 0 (AV.tup []))), AV.int IntKind.i64 (intOf ((us.getD k.toNat []).getD 1 (AV.tup [])))])
                                                  es AV.nilmap))))
                                          (clkOf
                                            ((mkXT X
                                                  [(8589934595,
                                                      AObj.cells
                                                        [AV.int IntKind.i64 (intOf ((us.getD k.toNat []).getD 0 (AV.tup []))), AV.int IntKind.i64 (intOf ((us.getD k.toNat []).getD 1 (AV.tup []))),
                                                          AV.int IntKind.i64 (intOf ((us.getD k.toNat []).getD 2 (AV.tup []))), AV.int IntKind.i64 (intOf ((us.getD k.toNat []).getD 3 (AV.tup [])))]),
                                                    (6, AObj.map es clk)]).get
                                              (midOf
                                                (findVal C 45
                                                  (AV.agg [AV.int IntKind.i64 (intOf ((us.getD k.toNat []).getD 0 (AV.tup []))), AV.int IntKind.i64 (intOf ((us.getD k.toNat []).getD 1 (AV.tup [])))])
                                                  es AV.nilmap)))))
                                        (updN C 3 (AV.int IntKind.i64 i)
                                          (esOf
                                            ((mkXT X
                                                  [(8589934595,
                                                      AObj.cells
                                                        [AV.int IntKind.i64 (intOf ((us.getD k.toNat []).getD 0 (AV.tup []))), AV.int IntKind.i64 (intOf ((us.getD k.toNat []).getD 1 (AV.tup []))),
                                                          AV.int IntKind.i64 (intOf ((us.getD k.toNat []).getD 2 (AV.tup []))), AV.int IntKind.i64 (intOf ((us.getD k.toNat []).getD 3 (AV.tup [])))]),
                                                    (6, AObj.map es clk)]).get
                                              (midOf
                                                (findVal C 45
                                                  (AV.agg [AV.int IntKind.i64 (intOf ((us.getD k.toNat []).getD 0 (AV.tup []))), AV.int IntKind.i64 (intOf ((us.getD k.toNat []).getD 1 (AV.tup [])))])
                                                  es AV.nilmap))))
                                          (clkOf
                                            ((mkXT X
                                                  [(8589934595,
                                                      AObj.cells
                                                        [AV.int IntKind.i64 (intOf ((us.getD k.toNat []).getD 0 (AV.tup []))), AV.int IntKind.i64 (intOf ((us.getD k.toNat []).getD 1 (AV.tup []))),
                                                          AV.int IntKind.i64 (intOf ((us.getD k.toNat []).getD 2 (AV.tup []))), AV.int IntKind.i64 (intOf ((us.getD k.toNat []).getD 3 (AV.tup [])))]),
                                                    (6, AObj.map es clk)]).get
                                              (midOf
                                                (findVal C 45
                                                  (AV.agg [AV.int IntKind.i64 (intOf ((us.getD k.toNat []).getD 0 (AV.tup []))), AV.int IntKind.i64 (intOf ((us.getD k.toNat []).getD 1 (AV.tup [])))])
                                                  es AV.nilmap)))))),
                                    (8589934595,
                                      AObj.cells
                                        [AV.int IntKind.i64 (intOf ((us.getD k.toNat []).getD 0 (AV.tup []))), AV.int IntKind.i64 (intOf ((us.getD k.toNat []).getD 1 (AV.tup []))),
                                          AV.int IntKind.i64 (intOf ((us.getD k.toNat []).getD 2 (AV.tup []))), AV.int IntKind.i64 (intOf ((us.getD k.toNat []).getD 3 (AV.tup [])))]),
                                    (6, AObj.map es clk)] })))))))))))))
  (K (AX.exit 2) 125 []
    [some (AV.lst hs fh), some (AV.lst tbs ft), some (AV.int IntKind.i64 fr), some (AV.map 6), some (AV.int IntKind.i64 i), some (AV.lst tbs ft), some (AV.int IntKind.i64 m),
      some (AV.int IntKind.i64 ti), some (AV.lst us fu), some (AV.int IntKind.i64 (↑us.length : Int)), some (AV.int IntKind.i64 k)]
    { next := 8589934593, tr := mkXT X [(6, AObj.map es clk)] })) := by kernel_rfl

theorem rowOf {us : List (List AV)} {n k : Nat} (h : us.all (wf n) = true) (hk : k < us.length) : (us.getD k []).length = n ∧ ∀ j, j < n → isInt .i64 ((us.getD k []).getD j .undef) = true := by
  have hg := all_getD h hk []
  exact ⟨wf_len hg, fun j hj => wf_int hg hj⟩
def L9b : Option Nat → Env → AH → AQ → Prop := fun ro e h Q =>
  match ro, obs e tb with
  | none, [some (.lst hs fh), some (.lst tbs ft), some (.int .i64 fr), some (.map 6), some (.int .i64 i), some (.lst tbs' ft'), some (.int .i64 m), some (.int .i64 ti), some (.lst us fu), some (.int .i64 n), some (.int .i64 0)] =>
    (tbs' = tbs ∧ ft' = ft) ∧ req (Nat.beq e.n 125 && e.ds.isEmpty && Nat.beq h.next 4294967315) (req ((n == us.length) && short us && us.all (wf 4)) (∃ G clk, Nat.ble (G : List Snd).length 16000000 = true ∧ (∀ j (g : Snd), G[j]? = some g → g.x = j) ∧ Holds h (sObjs G clk) ∧
      (∀ G' clk', grown i us us.length G G' → Q (.exit 2) (mkE 125 (tb.zip (vb hs tbs us fh ft fu fr i m ti us.length))) (mkH 8589934592 (sObjs G' clk')))))
  | _, _ => False
theorem L9bok {fn : Func} {body c : Code} (h1 : C.F 9 = some fn) (h2 : fn.body = some body) (h3 : codeAt body p9b = some (.loop c)) (ro : Option Nat) (e : Env) (h : AH) (Q : AQ) (hl : L9b ro e h Q) : ASem C ro (.loop c) Q e h := by
  have hloc := loc_of h1 h2 h3
  obtain rfl := loopAt_eq h1 h2 h3
  unfold L9b at hl
  split at hl
  · rename_i hs fh tbs ft fr i tbs' ft' m ti us fu n hob
    obtain ⟨⟨rfl, rfl⟩, hl⟩ := hl
    simp only [req_iff, Bool.and_eq_true, List.isEmpty_iff, beq_iff_eq] at hl
    obtain ⟨⟨⟨n1, n2⟩, n3⟩, ⟨⟨rfl, hsh⟩, hwf⟩, G, clk, hGl, hG, hH, q1⟩ := hl
    have n1 := Nat.eq_of_beq_eq_true n1
    have n3 := Nat.eq_of_beq_eq_true n3
    have hGl := Nat.le_of_ble_eq_true hGl
    have hsh := short_le hsh
    refine loop_idx (α := List Snd × Nat) (τ := Unit) 125 4294967315 8589934592 2 us.length (by decide) tb (fun k _ => vb hs tbs' us fh ft' fu fr i m ti k) (fun _ a => sObjs a.1 a.2)
      (fun k a => grown i us k G a.1) (fun _ => []) (fun _ => []) (fun _ => False) (fun _ hx => by cases hx) ?_ n3 e (G, clk) ⟨Nat.le_refl _, Nat.le_refl _, fun j g hg => ?_, fun _ _ _ hx => hx, fun j hj => by omega⟩
      (he_of_obs (by rw [hob]; rfl)) n1 n2 hH.sub (fun a ha => q1 a.1 a.2 ha) (fun _ hf => hf.elim)
    · rintro k ⟨G', c'⟩ hk hinv
      have hG'l : G'.length ≤ 16000000 + 1048576 := by have := hinv.2.1; simp only at this; omega
      have hgr : G'.length ≤ G.length + k := hinv.2.1
      have hge' : G.length ≤ G'.length := hinv.1
      have hown := hinv.own (by omega)
      have hid : ∀ g ∈ G', g.id < 8589934592 := fun g hg => by
        obtain ⟨j, hj, rfl⟩ := List.mem_iff_getElem.1 hg
        have := hinv.2.2.1 j _ (List.getElem?_eq_getElem hj)
        simp only [Snd.id, this, xo]
        split <;> omega
      have hX : ∀ g ∈ G', (lf8 (mkHT (sObjs G' c'))).get g.x = some g.obj := fun g hg => by
        rw [lf8_get, mkHT_get]
        exact lookup_obj hown hg
      refine asem_toX (fs := [(6, .map (G'.map Snd.ent) c')]) (fun j o hj => ?_) ?_
      · simp only [List.lookup_cons, List.lookup_nil, sObjs] at hj ⊢
        split at hj
        · exact hj
        · cases hj
      refine (wpOk hC mixed S1ok 1000).c _ _ _ _ _ _ hloc ?_
      show wpC C S1 1000 none _ _ _ _ _
      rw [vc9b]
      have hkk : (k : Int).toNat = k := rfl
      rw [cas_iff]
      constructor
      · intro hlt
        have hlt : k < us.length := by simpa using hlt
        obtain ⟨hgl, hint⟩ := rowOf hwf hlt
        have i0 := hint 0 (by omega)
        have i1 := hint 1 (by omega)
        have i2 := hint 2 (by omega)
        have i3 := hint 3 (by omega)
        have hst := hinv.step (b := c')
        obtain ⟨s, hs'⟩ : ∃ s, intOf ((us.getD k []).getD 0 .undef) = s := ⟨_, rfl⟩
        obtain ⟨o, ho'⟩ : ∃ s, intOf ((us.getD k []).getD 1 .undef) = s := ⟨_, rfl⟩
        simp only [fld, hs', ho'] at hst
        have dk : (decide (0 ≤ (k : Int)) && decide ((k : Int) < (us.length : Int))) = true := by simp; omega
        have hb : belowL 4294967315 (vb hs tbs' us fh ft' fu fr i m ti ((k + 1 : Nat) : Int)) = true := rfl
        have hk1 : IntKind.i64.wrap ((k : Int) + 1) = ((k + 1 : Nat) : Int) := by rw [w64 (n := (k : Int) + 1) (by omega) (by omega)]; rfl
        simp only [req_iff, cas_iff, hkk, hgl, i0, i1, i2, i3, hs', ho', dk, hk1]
        refine ⟨trivial, rfl, rfl, rfl, findOk45 s o G', ?_⟩
        cases hlk : look s o G' with
        | none =>
          have hfi := look_none hlk
          simp only [addS, hfi] at hst
          obtain ⟨u1, u2⟩ := upd45 s o G' (.map 8589934605) c' hlk
          obtain ⟨f1, f2⟩ := find_app s o G' (.map 8589934605) c' .nilmap hlk
          simp only [findVal45, hlk, u1, u2, f1, f2, isM, isNilM, midOf]
          have g1 : ∀ (a b : AObj), (mkXT (lf8 (mkHT (sObjs G' c'))) [(6, a), (8589934605, .map [] 0), (8589934595, b)]).get 8589934605 = some (.map [] 0) := fun a b => mkXT_get rfl
          simp only [g1, esOf, clkOf]
          refine ⟨trivial, fun _ => ⟨findOk45 s o G', trivial, trivial, fun hx => (by cases hx), fun _ => ⟨rfl, findOk3 i [], hlt, (G' ++ [⟨s, o, c', xo G.length G'.length, [(i, 0)], 1⟩], c' + 1), ?_⟩⟩, fun hx => (by cases hx)⟩
          have hxx : ∀ g ∈ G', g.x ≠ xo G.length G'.length := fun g hg hx => by
            obtain ⟨j, hj, rfl⟩ := List.mem_iff_getElem.1 hg
            rw [hinv.2.2.1 j _ (List.getElem?_eq_getElem hj)] at hx
            have := xo_inj (by omega) hx
            omega
          obtain ⟨l, m1, m2, m3⟩ := met_new (k := 4294967315) (N := 8589934592) (n := 125) (by decide) (vs := vb hs tbs' us fh ft' fu fr i m ti ((k + 1 : Nat) : Int)) (n' := 125) (ds := [])
            (ob := [some (.lst hs fh), some (.lst tbs' ft'), some (.int .i64 fr), some (.map 6), some (.int .i64 i), some (.lst tbs' ft'), some (.int .i64 m), some (.int .i64 ti), some (.lst us fu), some (.int .i64 us.length), some (.int .i64 ((k + 1 : Nat) : Int))])
            (h := ⟨8589934615, mkXT (lf8 (mkHT (sObjs G' c'))) [(8589934605, .map (updEs C 3 (.int .i64 i) (.bool true) [] 0) (updN C 3 (.int .i64 i) [] 0)), (6, .map (G'.map Snd.ent ++ [(cellK s o, .map 8589934605, c')]) (c' + 1)), (8589934605, .map [] 0),
              (8589934595, .cells [.int .i64 s, .int .i64 o, .int .i64 (intOf ((us.getD k []).getD 2 (.tup []))), .int .i64 (intOf ((us.getD k []).getD 3 (.tup [])))])]⟩)
            G' c' s o i (xo G.length G'.length) 8589934605 hxx hid (by simp only [xo]; split <;> omega) (by simp only [xo]; split <;> omega) (by decide) (by decide) (show (8589934605 : Nat) < 8589934615 by decide)
            (mkXT_get rfl) (mkXT_get rfl) (fun g hg => get_far rfl (hX g hg)) rfl rfl rfl hb
          exact ⟨l, hst, m1, m2, m3⟩
        | some g =>
          obtain ⟨j, hfi, hgj, _⟩ := look_some hlk
          have hgm : g ∈ G' := List.mem_of_getElem? hgj
          simp only [addS, hfi, hgj] at hst
          simp only [findVal45, hlk, isM, isNilM, midOf]
          have g1 : ∀ (a b : AObj), (mkXT (lf8 (mkHT (sObjs G' c'))) [(8589934595, a), (6, b)]).get g.id = some (.map (g.m.map memE) g.c) := fun a b => get_far rfl (hX g hgm)
          simp only [g1, esOf, clkOf]
          refine ⟨trivial, fun hx => (by cases hx), fun _ => ⟨findOk45 s o G', trivial, fun hx => (by cases hx), fun _ => ⟨rfl, findOk3 i g.m, hlt, (G'.set j { g with m := addM i g.c g.m, c := updN C 3 (.i i) (g.m.map memE) g.c }, c'), ?_⟩⟩⟩
          obtain ⟨g2, hg2⟩ : ∃ g2 : Snd, g2 = { g with m := addM i g.c g.m, c := updN C 3 (.i i) (g.m.map memE) g.c } := ⟨_, rfl⟩
          rw [← hg2] at hst ⊢
          have e2 : g2.ent = g.ent := by rw [hg2]; rfl
          have o2 : AObj.map (updEs C 3 (.int .i64 i) (.bool true) (g.m.map memE) g.c) (updN C 3 (.int .i64 i) (g.m.map memE) g.c) = g2.obj := by rw [hg2, upd3]; rfl
          have d2 : g2.id = g.id := by rw [hg2]; rfl
          rw [o2]
          have hmem : ∀ g' ∈ G'.set j g2, g' = g2 ∨ (g' ∈ G' ∧ g'.x ≠ g.x) := fun g' hg' => by
            obtain ⟨a, ha, rfl⟩ := List.mem_iff_getElem.1 hg'
            rw [List.getElem_set]
            split
            · exact .inl rfl
            · rename_i hja
              have ha' : a < G'.length := by simpa using ha
              exact .inr ⟨List.getElem_mem _, fun hx => hja (hown j a _ _ hgj (List.getElem?_eq_getElem ha') hx.symm)⟩
          have k1 : ∀ g' ∈ G'.set j g2, g'.id < 8589934592 := fun g' hg' => by
            rcases hmem g' hg' with rfl | ⟨h5, _⟩
            · rw [d2]; exact hid g hgm
            · exact hid g' h5
          have k2 : ∀ a : AObj, (mkXT (lf8 (mkHT (sObjs G' c'))) [(g.id, g2.obj), (8589934595, a), (6, .map (G'.map Snd.ent) c')]).get 6 = some (.map ((G'.set j g2).map Snd.ent) c') := fun a => by
            rw [set_ents hgj e2]
            refine mkXT_get ?_
            rw [List.lookup_cons, show (6 == g.id) = false by simp only [Snd.id, beq_eq_false_iff_ne]; omega]
            rfl
          have k3 : ∀ a : AObj, ∀ g' ∈ G'.set j g2, (mkXT (lf8 (mkHT (sObjs G' c'))) [(g.id, g2.obj), (8589934595, a), (6, .map (G'.map Snd.ent) c')]).get g'.id = some g'.obj := fun a g' hg' => by
            rcases hmem g' hg' with rfl | ⟨h5, h6⟩
            · rw [d2]
              refine mkXT_get ?_
              rw [List.lookup_cons, BEq.rfl]
            · refine (mkXT_hit ?_).trans (hX g' h5)
              rw [List.lookup_cons, show (256 * g'.x + 255 == g.id) = false by simp only [Snd.id, beq_eq_false_iff_ne]; omega]
              exact lookup_far rfl
          obtain ⟨l, m1, m2, m3⟩ := met_old (k := 4294967315) (N := 8589934592) (n := 125) (by decide) (vs := vb hs tbs' us fh ft' fu fr i m ti ((k + 1 : Nat) : Int)) (n' := 125) (ds := [])
            (ob := [some (.lst hs fh), some (.lst tbs' ft'), some (.int .i64 fr), some (.map 6), some (.int .i64 i), some (.lst tbs' ft'), some (.int .i64 m), some (.int .i64 ti), some (.lst us fu), some (.int .i64 us.length), some (.int .i64 ((k + 1 : Nat) : Int))])
            (h := ⟨8589934610, mkXT (lf8 (mkHT (sObjs G' c'))) [(g.id, g2.obj), (8589934595, .cells [.int .i64 s, .int .i64 o, .int .i64 (intOf ((us.getD k []).getD 2 (.tup []))), .int .i64 (intOf ((us.getD k []).getD 3 (.tup [])))]), (6, .map (G'.map Snd.ent) c')]⟩)
            (G'.set j g2) c' k1 (by decide) (show (8589934592 : Nat) ≤ 8589934610 by decide) (k2 _) (k3 _) rfl rfl rfl hb
          exact ⟨l, hst, m1, m2, m3⟩
      · intro hge
        obtain rfl : k = us.length := by simp at hge; omega
        obtain ⟨l, m1, m2, m3⟩ := met_old (k := 4294967315) (N := 8589934592) (n := 125) (by decide) (vs := vb hs tbs' us fh ft' fu fr i m ti us.length) (n' := 125) (ds := [])
          (ob := [some (.lst hs fh), some (.lst tbs' ft'), some (.int .i64 fr), some (.map 6), some (.int .i64 i), some (.lst tbs' ft'), some (.int .i64 m), some (.int .i64 ti), some (.lst us fu), some (.int .i64 us.length), some (.int .i64 us.length)])
          (h := ⟨8589934593, mkXT (lf8 (mkHT (sObjs G' c'))) [(6, .map (G'.map Snd.ent) c')]⟩)
          G' c' hid (by decide) (show (8589934592 : Nat) ≤ 8589934593 by decide) (mkXT_get rfl) (fun g hg => get_far rfl (hX g hg)) rfl rfl rfl rfl
        exact ⟨rfl, l, hinv, m1, m2, m3⟩
    · simp only [xo]
      have hj : j < G.length := by
        rcases Nat.lt_or_ge j G.length with h | h
        · exact h
        · simp only [List.getElem?_eq_none h] at hg; cases hg
      rw [if_pos hj]
      exact hG j g hg
  · exact hl.elim
def S9b : Specs := .plain P1 (fun loc => match loc with
  | some (9, [false, true, true, true, false, false, true, true, false, false, true, false, true, true, true]) => some L9b
  | _ => none)
abbrev ta : List Nat := [0, 1, 2, 7, 25, 26, 27]
abbrev va (hs tbs : List (List AV)) (fh ft : Bool) (fr k : Int) : List AV := [.lst hs fh, .lst tbs ft, .i fr, .map 6, .lst tbs ft, .i tbs.length, .i k]
theorem vc9a (hs tbs : List (List AV)) (fh ft : Bool) (fr k : Int) (es : List (AV × AV × Nat)) (clk : Nat) (X : Tr AObj) (K : KT) : (wpC C S9b 1000 none (some (9, false :: p9a)) (loopAt 9 p9a) (kobs ta K) (mkE 125 (ta.zip (va hs tbs fh ft fr k))) (mkX 4294967296 X [(6, .map es clk)])) = (cas (decide (k < (↑tbs.length : Int)))
  (req (decide (0 ≤ k) && decide (k < (↑tbs.length : Int)))
    (req ((tbs.getD k.toNat []).length.beq 3)
      (req (Nat.ble 3 (tbs.getD k.toNat []).length)
        (req (isLst ((tbs.getD k.toNat []).getD 0 (AV.tup [])) && (isLst ((tbs.getD k.toNat []).getD 1 (AV.tup [])) && (isLst ((tbs.getD k.toNat []).getD 2 (AV.tup [])) && true)))
          (req (decide (0 ≤ k) && decide (k < (↑hs.length : Int)))
            (req ((hs.getD k.toNat []).length.beq 1)
              (req (Nat.ble 1 (hs.getD k.toNat []).length)
                (req (isLst ((hs.getD k.toNat []).getD 0 (AV.tup [])) && true)
                  (cas ((↑(lstOf ((hs.getD k.toNat []).getD 0 (AV.tup []))).length : Int) != (↑tbs.length : Int))
                    (K AX.ret 125 []
                      [some (AV.lst hs fh), some (AV.lst tbs ft), some (AV.int IntKind.i64 fr), some (AV.map 6), some (AV.lst tbs ft), some (AV.int IntKind.i64 (↑tbs.length : Int)),
                        some (AV.int IntKind.i64 k)]
                      { next := 4294967312,
                        tr :=
                          mkXT X
                            [(4294967300,
                                AObj.cells
                                  [AV.lst (lstOf ((tbs.getD k.toNat []).getD 0 (AV.tup []))) (fullOf ((tbs.getD k.toNat []).getD 0 (AV.tup []))),
                                    AV.lst (lstOf ((tbs.getD k.toNat []).getD 1 (AV.tup []))) (fullOf ((tbs.getD k.toNat []).getD 1 (AV.tup []))),
                                    AV.lst (lstOf ((tbs.getD k.toNat []).getD 2 (AV.tup []))) (fullOf ((tbs.getD k.toNat []).getD 2 (AV.tup [])))]),
                              (6, AObj.map es clk)] })
                    ((tbs = tbs ∧ ft = ft) ∧
                      req
                        ((↑(lstOf ((tbs.getD k.toNat []).getD 0 (AV.tup []))).length : Int) == (↑(lstOf ((tbs.getD k.toNat []).getD 0 (AV.tup []))).length : Int) &&
                            short (lstOf ((tbs.getD k.toNat []).getD 0 (AV.tup []))) &&
                          (lstOf ((tbs.getD k.toNat []).getD 0 (AV.tup []))).all (wf 4))
                        (∃ (G : List Snd),
                          ∃ (clk_1 : Nat),
                            G.length.ble 16000000 = true ∧
                              (∀ (j : Nat) (g : Snd), G[j]? = some g → g.x = j) ∧
                                (∀ (p : Nat × AObj),
                                    p ∈ (6, AObj.map (List.map Snd.ent G) clk_1) :: List.map (fun (g : Snd) => (g.id, g.obj)) G →
                                      (mkXT X
                                              [(4294967300,
                                                  AObj.cells
                                                    [AV.lst (lstOf ((tbs.getD k.toNat []).getD 0 (AV.tup []))) (fullOf ((tbs.getD k.toNat []).getD 0 (AV.tup []))),
                                                      AV.lst (lstOf ((tbs.getD k.toNat []).getD 1 (AV.tup []))) (fullOf ((tbs.getD k.toNat []).getD 1 (AV.tup []))),
                                                      AV.lst (lstOf ((tbs.getD k.toNat []).getD 2 (AV.tup []))) (fullOf ((tbs.getD k.toNat []).getD 2 (AV.tup [])))]),
                                                (6, AObj.map es clk)]).get
                                          p.1 =
                                        some p.2) ∧
                                  ∀ (G' : List Snd) (clk' : Nat),
                                    grown k (lstOf ((tbs.getD k.toNat []).getD 0 (AV.tup []))) (lstOf ((tbs.getD k.toNat []).getD 0 (AV.tup []))).length G G' →
                                      K AX.normal 125 []
                                        [some (AV.lst hs fh), some (AV.lst tbs ft), some (AV.int IntKind.i64 fr), some (AV.map 6), some (AV.lst tbs ft), some (AV.int IntKind.i64 (↑tbs.length : Int)),
                                          some (AV.int IntKind.i64 (IntKind.i64.wrap (k + 1)))]
                                        { next := 8589934594, tr := mkHT (sObjs G' clk') })))))))))))
  (K (AX.exit 0) 125 []
    [some (AV.lst hs fh), some (AV.lst tbs ft), some (AV.int IntKind.i64 fr), some (AV.map 6), some (AV.lst tbs ft), some (AV.int IntKind.i64 (↑tbs.length : Int)), some (AV.int IntKind.i64 k)]
    { next := 4294967297, tr := mkXT X [(6, AObj.map es clk)] })) := by kernel_rfl

/-- A node's table. -/
def usesOf (c : List AV) : List (List AV) := lstOf (c.getD 0 .undef)
def grantsOf (c : List AV) : List (List AV) := lstOf (c.getD 1 .undef)
def tabOk (c : List AV) : Bool := Nat.beq c.length 3 && (isLst (c.getD 0 .undef) && (isLst (c.getD 1 .undef) && (isLst (c.getD 2 .undef) && true))) && short (usesOf c) && (usesOf c).all (wf 4) && short (grantsOf c) && (grantsOf c).all (wf 5)
def isBoolRow (c : List AV) : Bool := Nat.beq c.length 1 && (isBool (c.getD 0 .undef) && true)
def rowOf1 (c : List AV) : List (List AV) := lstOf (c.getD 0 .undef)
def hearOk (n : Nat) (c : List AV) : Bool := Nat.beq c.length 1 && (isLst (c.getD 0 .undef) && true) && Nat.beq (rowOf1 c).length n && (rowOf1 c).all isBoolRow
/-- All that has been looked at is kept. -/
def sendersOk (tbs : List (List AV)) (n : Nat) (G : List Snd) : Prop := G.length ≤ n * 1048576 ∧ (∀ j (g : Snd), G[j]? = some g → g.x = j) ∧ ∀ i, i < n → ∀ j, j < (usesOf (tbs.getD i [])).length → hasS G (fld ((usesOf (tbs.getD i [])).getD j []) 0) (fld ((usesOf (tbs.getD i [])).getD j []) 1) i
def L9a : Option Nat → Env → AH → AQ → Prop := fun ro e h Q =>
  match ro, obs e ta, h.get 6 with
  | none, [some (.lst hs fh), some (.lst tbs ft), some (.int .i64 fr), some (.map 6), some (.lst tbs' ft'), some (.int .i64 m), some (.int .i64 0)], some (.map [] 0) =>
    (tbs' = tbs ∧ ft' = ft) ∧ req (Nat.beq e.n 125 && e.ds.isEmpty && Nat.beq h.next 11) (req ((m == tbs.length) && Nat.ble tbs.length 12 && Nat.beq hs.length tbs.length && tbs.all tabOk && hs.all (hearOk tbs.length))
      (∀ G c, sendersOk tbs tbs.length G → Q (.exit 0) (mkE 125 (ta.zip (va hs tbs fh ft fr tbs.length))) (mkH 4294967296 (sObjs G c))))
  | _, _, _ => False
theorem S9bok : SpecsOk C S9b := by
  refine .of P1ok rfl rfl (fun f p spec h fn body c h1 h2 h3 ro e h' Q hl => ?_)
  simp only [S9b, Specs.plain] at h
  split at h <;> (try (cases h; done)) <;> (rename_i heq; simp only [Option.some.injEq, Prod.mk.injEq] at heq; obtain ⟨rfl, rfl⟩ := heq; injection h with h; subst h)
  exact L9bok h1 h2 h3 ro e h' Q hl
theorem L9aok {fn : Func} {body c : Code} (h1 : C.F 9 = some fn) (h2 : fn.body = some body) (h3 : codeAt body p9a = some (.loop c)) (ro : Option Nat) (e : Env) (h : AH) (Q : AQ) (hl : L9a ro e h Q) : ASem C ro (.loop c) Q e h := by
  have hloc := loc_of h1 h2 h3
  obtain rfl := loopAt_eq h1 h2 h3
  unfold L9a at hl
  split at hl
  · rename_i hs fh tbs ft fr tbs' ft' m hob hg6
    obtain ⟨⟨rfl, rfl⟩, hl⟩ := hl
    simp only [req_iff, Bool.and_eq_true, List.isEmpty_iff, beq_iff_eq] at hl
    obtain ⟨⟨⟨n1, n2⟩, n3⟩, ⟨⟨⟨⟨rfl, hle⟩, hhl⟩, htab⟩, hhear⟩, q1⟩ := hl
    have n1 := Nat.eq_of_beq_eq_true n1
    have n3 := Nat.eq_of_beq_eq_true n3
    have hle := Nat.le_of_ble_eq_true hle
    have hhl := Nat.eq_of_beq_eq_true hhl
    refine loop_idx (α := List Snd × Nat) (τ := Unit) 125 11 4294967296 0 tbs'.length (by decide) ta (fun k _ => va hs tbs' fh ft' fr k) (fun _ a => sObjs a.1 a.2)
      (fun k a => sendersOk tbs' k a.1) (fun _ => []) (fun _ => []) (fun _ => False) (fun _ hx => by cases hx) ?_ n3 e ([], 0) ⟨by simp, fun j g hg => by simp at hg, fun i hi => by omega⟩
      (he_of_obs (by rw [hob]; rfl)) n1 n2 (ho_cons hg6 ho_nil) (fun a ha => q1 a.1 a.2 ha) (fun _ hf => hf.elim)
    rintro k ⟨G, c0⟩ hk hinv
    obtain ⟨b1, b2, b3⟩ := hinv
    simp only at b1 b2 b3
    have hGl : G.length ≤ 12 * 1048576 := Nat.le_trans b1 (Nat.mul_le_mul_right _ (by omega))
    have hown : Own1 G := fun i j a b ha hb e => by
      rw [b2 i a ha, b2 j b hb] at e; exact e
    have hid : ∀ g ∈ G, g.id < 4294967296 := fun g hg => by
      obtain ⟨j, hj, rfl⟩ := List.mem_iff_getElem.1 hg
      have := b2 j _ (List.getElem?_eq_getElem hj)
      simp only [Snd.id, this]
      omega
    have hX : ∀ g ∈ G, (lf8 (mkHT (sObjs G c0))).get g.x = some g.obj := fun g hg => by
      rw [lf8_get, mkHT_get]
      exact lookup_obj hown hg
    refine asem_toX (fs := [(6, .map (G.map Snd.ent) c0)]) (fun j o hj => ?_) ?_
    · simp only [List.lookup_cons, List.lookup_nil, sObjs] at hj ⊢
      split at hj
      · exact hj
      · cases hj
    refine (wpOk hC mixed S9bok 1000).c _ _ _ _ _ _ hloc ?_
    show wpC C S9b 1000 none _ _ _ _ _
    rw [vc9a]
    have hkk : (k : Int).toNat = k := rfl
    rw [cas_iff]
    constructor
    · intro hlt
      have hlt : k < tbs'.length := by simpa using hlt
      have ht := all_getD htab hlt []
      have hh := all_getD hhear (show k < hs.length by omega) []
      simp only [tabOk, Bool.and_eq_true, usesOf, grantsOf] at ht
      simp only [hearOk, Bool.and_eq_true, rowOf1] at hh
      obtain ⟨⟨⟨⟨⟨t1, t2⟩, t3⟩, t4⟩, t5⟩, t6⟩ := ht
      obtain ⟨⟨⟨u1, u2⟩, u3⟩, u4⟩ := hh
      have t1 := Nat.eq_of_beq_eq_true t1
      have u1 := Nat.eq_of_beq_eq_true u1
      have u3 := Nat.eq_of_beq_eq_true u3
      have t2 : (isLst ((tbs'.getD k []).getD 0 .undef) && (isLst ((tbs'.getD k []).getD 1 .undef) && (isLst ((tbs'.getD k []).getD 2 .undef) && true))) = true := by simp only [Bool.and_eq_true]; exact t2
      have u2 : (isLst ((hs.getD k []).getD 0 .undef) && true) = true := by simp only [Bool.and_eq_true]; exact u2
      have dk : ∀ m : Nat, m = tbs'.length → (decide (0 ≤ (k : Int)) && decide ((k : Int) < (m : Int))) = true := fun m hm => by subst hm; simp; omega
      have hb : belowL 11 (va hs tbs' fh ft' fr ((k + 1 : Nat) : Int)) = true := rfl
      have hk1 : IntKind.i64.wrap ((k : Int) + 1) = ((k + 1 : Nat) : Int) := by rw [w64 (n := (k : Int) + 1) (by omega) (by omega)]; rfl
      have cne : (((lstOf ((hs.getD k []).getD 0 .undef)).length : Int) != (tbs'.length : Int)) = false := by rw [u3]; simp
      simp only [req_iff, cas_iff, hkk, t1, t2, u1, u2, dk _ rfl, dk _ hhl, hk1, cne]
      refine ⟨trivial, rfl, rfl, trivial, trivial, rfl, rfl, trivial, fun hx => (by cases hx), fun _ => ⟨⟨trivial, trivial⟩, ?_, G, c0, ?_, b2, ?_, ?_⟩⟩
      · simp only [Bool.and_eq_true, t3, t4, beq_self_eq_true, and_self]
      · exact Nat.ble_eq_true_of_le (by omega)
      · intro p hp
        rcases List.mem_cons.1 hp with rfl | hp
        · exact mkXT_get rfl
        · obtain ⟨g, hg, rfl⟩ := List.mem_map.1 hp
          exact get_far rfl (hX g hg)
      · intro G' c' hgr
        have hg1 : G'.length ≤ G.length + (lstOf ((tbs'.getD k []).getD 0 .undef)).length := hgr.2.1
        have hg2 : (lstOf ((tbs'.getD k []).getD 0 .undef)).length ≤ 1048576 := short_le t3
        obtain ⟨l, m1, m2, m3⟩ := met_ren (k := 11) (N := 4294967296) (n := 125) (m0 := G.length) (by decide) (by decide) rfl (vs := va hs tbs' fh ft' fr ((k + 1 : Nat) : Int)) (n' := 125) (ds := [])
          (ob := [some (.lst hs fh), some (.lst tbs' ft'), some (.int .i64 fr), some (.map 6), some (.lst tbs' ft'), some (.int .i64 tbs'.length), some (.int .i64 ((k + 1 : Nat) : Int))])
          (h := ⟨8589934594, mkHT (sObjs G' c')⟩) G' c' hgr.2.2.1 (by omega) hgr.1 (by decide) (show (8589934592 : Nat) ≤ 8589934594 by decide) rfl rfl rfl rfl hb
        refine ⟨hlt, (compact G', c'), l, ⟨?_, fun j g hg => ?_, fun i hi j hj => ?_⟩, m1, m2, m3⟩
        · rw [compact_len]
          simp only [Nat.add_mul]
          omega
        · obtain ⟨g', _, h6⟩ := compact_get hg
          rw [h6]
        · refine compact_has ?_
          rcases Nat.lt_or_ge i k with h5 | h5
          · exact hgr.2.2.2.1 _ _ _ (b3 i h5 j hj)
          · obtain rfl : i = k := by omega
            exact hgr.2.2.2.2 j hj
    · intro hge
      obtain rfl : k = tbs'.length := by simp at hge; omega
      obtain ⟨l, m1, m2, m3⟩ := met_old (k := 11) (N := 4294967296) (n := 125) (by decide) (vs := va hs tbs' fh ft' fr tbs'.length) (n' := 125) (ds := [])
        (ob := [some (.lst hs fh), some (.lst tbs' ft'), some (.int .i64 fr), some (.map 6), some (.lst tbs' ft'), some (.int .i64 tbs'.length), some (.int .i64 tbs'.length)])
        (h := ⟨4294967297, mkXT (lf8 (mkHT (sObjs G c0))) [(6, .map (G.map Snd.ent) c0)]⟩)
        G c0 hid (by decide) (show (4294967296 : Nat) ≤ 4294967297 by decide) (mkXT_get rfl) (fun g hg => get_far rfl (hX g hg)) rfl rfl rfl rfl
      exact ⟨rfl, l, ⟨b1, b2, b3⟩, m1, m2, m3⟩
  · exact hl.elim
end Go.Am.Cells
