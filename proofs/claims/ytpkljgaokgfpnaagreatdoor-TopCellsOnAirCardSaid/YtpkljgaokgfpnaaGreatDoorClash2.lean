/- TopCellsOnAir: clashes: who is listened to. -/
import Derived.Test.YtpkljgaokgfpnaaGreatDoorClash1
set_option maxRecDepth 1000000
set_option linter.unusedVariables false
set_option linter.unusedSimpArgs false
set_option linter.unusedSectionVars false
namespace Go.Am.Cells
open Go Go.Am
abbrev te : List Nat := [0, 1, 2, 7, 12, 63, 64, 65, 13, 71, 72, 73, 16, 84, 85, 86]
abbrev ve (hs tbs gs row : List (List AV)) (fh ft fg fw : Bool) (fr li l gi : Int) (ov : AV) (k : Int) : List AV := [.lst hs fh, .lst tbs ft, .i fr, .map 6, ov, .lst tbs ft, .i tbs.length, .i li, .i l, .lst gs fg, .i gs.length, .i gi, .ptr 17179869187 0, .lst row fw, .i row.length, .i k]
theorem vc9e0 (hs tbs gs row : List (List AV)) (fh ft fg fw : Bool) (fr li l gi k : Int) (es : List (AV × AV × Nat)) (clk : Nat) (g0 g1 g2 g3 g4 : Int) (X : Tr AObj) (K : KT) : (wpC C S1 1000 none (some (9, false :: p9e)) (loopAt 9 p9e) (kobs te K) (mkE 125 (te.zip (ve hs tbs gs row fh ft fg fw fr li l gi .snil k))) (mkX 34359738368 X [(6, .map es clk), (17179869187, .cells [.i g0, .i g1, .i g2, .i g3, .i g4])])) = (cas (decide (k < (↑row.length : Int)))
  (req (decide (0 ≤ k) && decide (k < (↑row.length : Int)))
    (req ((row.getD k.toNat []).length.beq 1)
      (req (Nat.ble 1 (row.getD k.toNat []).length)
        (req (isBool ((row.getD k.toNat []).getD 0 (AV.tup [])) && true)
          (cas (boolOf ((row.getD k.toNat []).getD 0 (AV.tup [])))
            (cas (k != l)
              (cas (k != g2)
                (req (findOk C 45 (AV.agg [AV.int IntKind.i64 g0, AV.int IntKind.i64 g1]) es)
                  (req (isM (findVal C 45 (AV.agg [AV.int IntKind.i64 g0, AV.int IntKind.i64 g1]) es AV.nilmap))
                    (cas (isNilM (findVal C 45 (AV.agg [AV.int IntKind.i64 g0, AV.int IntKind.i64 g1]) es AV.nilmap))
                      (K AX.normal 125 []
                        [some (AV.lst hs fh), some (AV.lst tbs ft), some (AV.int IntKind.i64 fr), some (AV.map 6), some AV.snil, some (AV.lst tbs ft), some (AV.int IntKind.i64 (↑tbs.length : Int)),
                          some (AV.int IntKind.i64 li), some (AV.int IntKind.i64 l), some (AV.lst gs fg), some (AV.int IntKind.i64 (↑gs.length : Int)), some (AV.int IntKind.i64 gi),
                          some (AV.ptr 17179869187 0), some (AV.lst row fw), some (AV.int IntKind.i64 (↑row.length : Int)), some (AV.int IntKind.i64 (IntKind.i64.wrap (k + 1)))]
                        { next := 34359738396,
                          tr :=
                            mkXT X
                              [(6, AObj.map es clk), (17179869187, AObj.cells [AV.int IntKind.i64 g0, AV.int IntKind.i64 g1, AV.int IntKind.i64 g2, AV.int IntKind.i64 g3, AV.int IntKind.i64 g4])] })
                      (req
                        (isMapO
                          ((mkXT X
                                [(6, AObj.map es clk),
                                  (17179869187, AObj.cells [AV.int IntKind.i64 g0, AV.int IntKind.i64 g1, AV.int IntKind.i64 g2, AV.int IntKind.i64 g3, AV.int IntKind.i64 g4])]).get
                            (midOf (findVal C 45 (AV.agg [AV.int IntKind.i64 g0, AV.int IntKind.i64 g1]) es AV.nilmap))))
                        (req
                          (findOk C 3 (AV.int IntKind.i64 k)
                            (esOf
                              ((mkXT X
                                    [(6, AObj.map es clk),
                                      (17179869187, AObj.cells [AV.int IntKind.i64 g0, AV.int IntKind.i64 g1, AV.int IntKind.i64 g2, AV.int IntKind.i64 g3, AV.int IntKind.i64 g4])]).get
                                (midOf (findVal C 45 (AV.agg [AV.int IntKind.i64 g0, AV.int IntKind.i64 g1]) es AV.nilmap)))))
                          (req
                            (isBool
                              (findVal C 3 (AV.int IntKind.i64 k)
                                (esOf
                                  ((mkXT X
                                        [(6, AObj.map es clk),
                                          (17179869187, AObj.cells [AV.int IntKind.i64 g0, AV.int IntKind.i64 g1, AV.int IntKind.i64 g2, AV.int IntKind.i64 g3, AV.int IntKind.i64 g4])]).get
                                    (midOf (findVal C 45 (AV.agg [AV.int IntKind.i64 g0, AV.int IntKind.i64 g1]) es AV.nilmap))))
                                (AV.bool false)))
                            (cas
                              (boolOf
                                (findVal C 3 (AV.int IntKind.i64 k)
                                  (esOf
                                    ((mkXT X
                                          [(6, AObj.map es clk),
                                            (17179869187, AObj.cells [AV.int IntKind.i64 g0, AV.int IntKind.i64 g1, AV.int IntKind.i64 g2, AV.int IntKind.i64 g3, AV.int IntKind.i64 g4])]).get
                                      (midOf (findVal C 45 (AV.agg [AV.int IntKind.i64 g0, AV.int IntKind.i64 g1]) es AV.nilmap))))
                                  (AV.bool false)))
                              (K AX.normal 125 []
                                [some (AV.lst hs fh), some (AV.lst tbs ft), some (AV.int IntKind.i64 fr), some (AV.map 6), some (AV.sl 34359738403 0 1 1 (some 5)), some (AV.lst tbs ft),
                                  some (AV.int IntKind.i64 (↑tbs.length : Int)), some (AV.int IntKind.i64 li), some (AV.int IntKind.i64 l), some (AV.lst gs fg),
                                  some (AV.int IntKind.i64 (↑gs.length : Int)), some (AV.int IntKind.i64 gi), some (AV.ptr 17179869187 0), some (AV.lst row fw),
                                  some (AV.int IntKind.i64 (↑row.length : Int)), some (AV.int IntKind.i64 (IntKind.i64.wrap (k + 1)))]
                                { next := 34359738407,
                                  tr :=
                                    mkXT X
                                      [(34359738403, AObj.cells [AV.int IntKind.i64 g0, AV.int IntKind.i64 g1, AV.int IntKind.i64 l, AV.int IntKind.i64 g2, AV.int IntKind.i64 k]),
                                        (34359738402, AObj.cells [AV.int IntKind.i64 g0, AV.int IntKind.i64 g1, AV.int IntKind.i64 l, AV.int IntKind.i64 g2, AV.int IntKind.i64 k]),
                                        (6, AObj.map es clk),
                                        (17179869187, AObj.cells [AV.int IntKind.i64 g0, AV.int IntKind.i64 g1, AV.int IntKind.i64 g2, AV.int IntKind.i64 g3, AV.int IntKind.i64 g4])] })
                              (K AX.normal 125 []
                                [some (AV.lst hs fh), some (AV.lst tbs ft), some (AV.int IntKind.i64 fr), some (AV.map 6), some AV.snil, some (AV.lst tbs ft),
                                  some (AV.int IntKind.i64 (↑tbs.length : Int)), some (AV.int IntKind.i64 li), some (AV.int IntKind.i64 l), some (AV.lst gs fg),
                                  some (AV.int IntKind.i64 (↑gs.length : Int)), some (AV.int IntKind.i64 gi), some (AV.ptr 17179869187 0), some (AV.lst row fw),
                                  some (AV.int IntKind.i64 (↑row.length : Int)), some (AV.int IntKind.i64 (IntKind.i64.wrap (k + 1)))]
                                { next := 34359738396,
                                  tr :=
                                    mkXT X
                                      [(6, AObj.map es clk),
                                        (17179869187, AObj.cells [AV.int IntKind.i64 g0, AV.int IntKind.i64 g1, AV.int IntKind.i64 g2, AV.int IntKind.i64 g3, AV.int IntKind.i64 g4])] }))))))))
                (K AX.normal 125 []
                  [some (AV.lst hs fh), some (AV.lst tbs ft), some (AV.int IntKind.i64 fr), some (AV.map 6), some AV.snil, some (AV.lst tbs ft), some (AV.int IntKind.i64 (↑tbs.length : Int)),
                    some (AV.int IntKind.i64 li), some (AV.int IntKind.i64 l), some (AV.lst gs fg), some (AV.int IntKind.i64 (↑gs.length : Int)), some (AV.int IntKind.i64 gi),
                    some (AV.ptr 17179869187 0), some (AV.lst row fw), some (AV.int IntKind.i64 (↑row.length : Int)), some (AV.int IntKind.i64 (IntKind.i64.wrap (k + 1)))]
                  { next := 34359738396,
                    tr :=
                      mkXT X [(6, AObj.map es clk), (17179869187, AObj.cells [AV.int IntKind.i64 g0, AV.int IntKind.i64 g1, AV.int IntKind.i64 g2, AV.int IntKind.i64 g3, AV.int IntKind.i64 g4])] }))
              (K AX.normal 125 []
                [some (AV.lst hs fh), some (AV.lst tbs ft), some (AV.int IntKind.i64 fr), some (AV.map 6), some AV.snil, some (AV.lst tbs ft), some (AV.int IntKind.i64 (↑tbs.length : Int)),
                  some (AV.int IntKind.i64 li), some (AV.int IntKind.i64 l), some (AV.lst gs fg), some (AV.int IntKind.i64 (↑gs.length : Int)), some (AV.int IntKind.i64 gi),
                  some (AV.ptr 17179869187 0), some (AV.lst row fw), some (AV.int IntKind.i64 (↑row.length : Int)), some (AV.int IntKind.i64 (IntKind.i64.wrap (k + 1)))]
                { next := 34359738396,
                  tr := mkXT X [(6, AObj.map es clk), (17179869187, AObj.cells [AV.int IntKind.i64 g0, AV.int IntKind.i64 g1, AV.int IntKind.i64 g2, AV.int IntKind.i64 g3, AV.int IntKind.i64 g4])] }))
            (K AX.normal 125 []
              [some (AV.lst hs fh), some (AV.lst tbs ft), some (AV.int IntKind.i64 fr), some (AV.map 6), some AV.snil, some (AV.lst tbs ft), some (AV.int IntKind.i64 (↑tbs.length : Int)),
                some (AV.int IntKind.i64 li), some (AV.int IntKind.i64 l), some (AV.lst gs fg), some (AV.int IntKind.i64 (↑gs.length : Int)), some (AV.int IntKind.i64 gi), some (AV.ptr 17179869187 0),
                some (AV.lst row fw), some (AV.int IntKind.i64 (↑row.length : Int)), some (AV.int IntKind.i64 (IntKind.i64.wrap (k + 1)))]
              { next := 34359738396,
                tr :=
                  mkXT X [(6, AObj.map es clk), (17179869187, AObj.cells [AV.int IntKind.i64 g0, AV.int IntKind.i64 g1, AV.int IntKind.i64 g2, AV.int IntKind.i64 g3, AV.int IntKind.i64 g4])] }))))))
  (K (AX.exit 8) 125 []
    [some (AV.lst hs fh), some (AV.lst tbs ft), some (AV.int IntKind.i64 fr), some (AV.map 6), some AV.snil, some (AV.lst tbs ft), some (AV.int IntKind.i64 (↑tbs.length : Int)),
      some (AV.int IntKind.i64 li), some (AV.int IntKind.i64 l), some (AV.lst gs fg), some (AV.int IntKind.i64 (↑gs.length : Int)), some (AV.int IntKind.i64 gi), some (AV.ptr 17179869187 0),
      some (AV.lst row fw), some (AV.int IntKind.i64 (↑row.length : Int)), some (AV.int IntKind.i64 k)]
    { next := 34359738369,
      tr := mkXT X [(6, AObj.map es clk), (17179869187, AObj.cells [AV.int IntKind.i64 g0, AV.int IntKind.i64 g1, AV.int IntKind.i64 g2, AV.int IntKind.i64 g3, AV.int IntKind.i64 g4])] })) := by kernel_rfl

theorem vc9e1 (hs tbs gs row : List (List AV)) (fh ft fg fw : Bool) (fr li l gi k : Int) (oid n : Nat) (es : List (AV × AV × Nat)) (clk : Nat) (g0 g1 g2 g3 g4 : Int) (X : Tr AObj) (K : KT) : (wpC C S1 1000 none (some (9, false :: p9e)) (loopAt 9 p9e) (kobs te K) (mkE 125 (te.zip (ve hs tbs gs row fh ft fg fw fr li l gi (.sl oid 0 n n (some 5)) k))) (mkX 34359738368 X [(6, .map es clk), (17179869187, .cells [.i g0, .i g1, .i g2, .i g3, .i g4])])) = (cas (decide (k < (↑row.length : Int)))
  (req (decide (0 ≤ k) && decide (k < (↑row.length : Int)))
    (req ((row.getD k.toNat []).length.beq 1)
      (req (Nat.ble 1 (row.getD k.toNat []).length)
        (req (isBool ((row.getD k.toNat []).getD 0 (AV.tup [])) && true)
          (cas (boolOf ((row.getD k.toNat []).getD 0 (AV.tup [])))
            (cas (k != l)
              (cas (k != g2)
                (req (findOk C 45 (AV.agg [AV.int IntKind.i64 g0, AV.int IntKind.i64 g1]) es)
                  (req (isM (findVal C 45 (AV.agg [AV.int IntKind.i64 g0, AV.int IntKind.i64 g1]) es AV.nilmap))
                    (cas (isNilM (findVal C 45 (AV.agg [AV.int IntKind.i64 g0, AV.int IntKind.i64 g1]) es AV.nilmap))
                      (K AX.normal 125 []
                        [some (AV.lst hs fh), some (AV.lst tbs ft), some (AV.int IntKind.i64 fr), some (AV.map 6), some (AV.sl oid 0 n n (some 5)), some (AV.lst tbs ft),
                          some (AV.int IntKind.i64 (↑tbs.length : Int)), some (AV.int IntKind.i64 li), some (AV.int IntKind.i64 l), some (AV.lst gs fg), some (AV.int IntKind.i64 (↑gs.length : Int)),
                          some (AV.int IntKind.i64 gi), some (AV.ptr 17179869187 0), some (AV.lst row fw), some (AV.int IntKind.i64 (↑row.length : Int)),
                          some (AV.int IntKind.i64 (IntKind.i64.wrap (k + 1)))]
                        { next := 34359738396,
                          tr :=
                            mkXT X
                              [(6, AObj.map es clk), (17179869187, AObj.cells [AV.int IntKind.i64 g0, AV.int IntKind.i64 g1, AV.int IntKind.i64 g2, AV.int IntKind.i64 g3, AV.int IntKind.i64 g4])] })
                      (req
                        (isMapO
                          ((mkXT X
                                [(6, AObj.map es clk),
                                  (17179869187, AObj.cells [AV.int IntKind.i64 g0, AV.int IntKind.i64 g1, AV.int IntKind.i64 g2, AV.int IntKind.i64 g3, AV.int IntKind.i64 g4])]).get
                            (midOf (findVal C 45 (AV.agg [AV.int IntKind.i64 g0, AV.int IntKind.i64 g1]) es AV.nilmap))))
                        (req
                          (findOk C 3 (AV.int IntKind.i64 k)
                            (esOf
                              ((mkXT X
                                    [(6, AObj.map es clk),
                                      (17179869187, AObj.cells [AV.int IntKind.i64 g0, AV.int IntKind.i64 g1, AV.int IntKind.i64 g2, AV.int IntKind.i64 g3, AV.int IntKind.i64 g4])]).get
                                (midOf (findVal C 45 (AV.agg [AV.int IntKind.i64 g0, AV.int IntKind.i64 g1]) es AV.nilmap)))))
                          (req
                            (isBool
                              (findVal C 3 (AV.int IntKind.i64 k)
                                (esOf
                                  ((mkXT X
                                        [(6, AObj.map es clk),
                                          (17179869187, AObj.cells [AV.int IntKind.i64 g0, AV.int IntKind.i64 g1, AV.int IntKind.i64 g2, AV.int IntKind.i64 g3, AV.int IntKind.i64 g4])]).get
                                    (midOf (findVal C 45 (AV.agg [AV.int IntKind.i64 g0, AV.int IntKind.i64 g1]) es AV.nilmap))))
                                (AV.bool false)))
                            (cas
                              (boolOf
                                (findVal C 3 (AV.int IntKind.i64 k)
                                  (esOf
                                    ((mkXT X
                                          [(6, AObj.map es clk),
                                            (17179869187, AObj.cells [AV.int IntKind.i64 g0, AV.int IntKind.i64 g1, AV.int IntKind.i64 g2, AV.int IntKind.i64 g3, AV.int IntKind.i64 g4])]).get
                                      (midOf (findVal C 45 (AV.agg [AV.int IntKind.i64 g0, AV.int IntKind.i64 g1]) es AV.nilmap))))
                                  (AV.bool false)))
                              (cas ((n + 1).ble n)
                                (req
                                  (isCellsO
                                    ((mkXT X
                                          [(34359738402, AObj.cells [AV.int IntKind.i64 g0, AV.int IntKind.i64 g1, AV.int IntKind.i64 l, AV.int IntKind.i64 g2, AV.int IntKind.i64 k]),
                                            (6, AObj.map es clk),
                                            (17179869187, AObj.cells [AV.int IntKind.i64 g0, AV.int IntKind.i64 g1, AV.int IntKind.i64 g2, AV.int IntKind.i64 g3, AV.int IntKind.i64 g4])]).get
                                      oid))
                                  (req
                                    ((0 + n * 5 + 5).ble
                                      (cellsOf
                                          ((mkXT X
                                                [(34359738402, AObj.cells [AV.int IntKind.i64 g0, AV.int IntKind.i64 g1, AV.int IntKind.i64 l, AV.int IntKind.i64 g2, AV.int IntKind.i64 k]),
                                                  (6, AObj.map es clk),
                                                  (17179869187, AObj.cells [AV.int IntKind.i64 g0, AV.int IntKind.i64 g1, AV.int IntKind.i64 g2, AV.int IntKind.i64 g3, AV.int IntKind.i64 g4])]).get
                                            oid)).length)
                                    (K AX.normal 125 []
                                      [some (AV.lst hs fh), some (AV.lst tbs ft), some (AV.int IntKind.i64 fr), some (AV.map 6), some (AV.sl oid 0 (n + 1) n (some 5)), some (AV.lst tbs ft),
                                        some (AV.int IntKind.i64 (↑tbs.length : Int)), some (AV.int IntKind.i64 li), some (AV.int IntKind.i64 l), some (AV.lst gs fg),
                                        some (AV.int IntKind.i64 (↑gs.length : Int)), some (AV.int IntKind.i64 gi), some (AV.ptr 17179869187 0), some (AV.lst row fw),
                                        some (AV.int IntKind.i64 (↑row.length : Int)), some (AV.int IntKind.i64 (IntKind.i64.wrap (k + 1)))]
                                      { next := 34359738407,
                                        tr :=
                                          mkXT X
                                            [(oid,
                                                AObj.cells
                                                  (splice
                                                    (cellsOf
                                                      ((mkXT X
                                                            [(34359738402,
                                                                AObj.cells [AV.int IntKind.i64 g0, AV.int IntKind.i64 g1, AV.int IntKind.i64 l, AV.int IntKind.i64 g2, AV.int IntKind.i64 k]),
                                                              (6, AObj.map es clk),
                                                              (17179869187,
                                                                AObj.cells [AV.int IntKind.i64 g0, AV.int IntKind.i64 g1, AV.int IntKind.i64 g2, AV.int IntKind.i64 g3, AV.int IntKind.i64 g4])]).get
                                                        oid))
                                                    (0 + n * 5) [AV.int IntKind.i64 g0, AV.int IntKind.i64 g1, AV.int IntKind.i64 l, AV.int IntKind.i64 g2, AV.int IntKind.i64 k])),
                                              (34359738402, AObj.cells [AV.int IntKind.i64 g0, AV.int IntKind.i64 g1, AV.int IntKind.i64 l, AV.int IntKind.i64 g2, AV.int IntKind.i64 k]),
                                              (6, AObj.map es clk),
                                              (17179869187, AObj.cells [AV.int IntKind.i64 g0, AV.int IntKind.i64 g1, AV.int IntKind.i64 g2, AV.int IntKind.i64 g3, AV.int IntKind.i64 g4])] })))
                                (req
                                  (isCellsO
                                    ((mkXT X
                                          [(34359738402, AObj.cells [AV.int IntKind.i64 g0, AV.int IntKind.i64 g1, AV.int IntKind.i64 l, AV.int IntKind.i64 g2, AV.int IntKind.i64 k]),
                                            (6, AObj.map es clk),
                                            (17179869187, AObj.cells [AV.int IntKind.i64 g0, AV.int IntKind.i64 g1, AV.int IntKind.i64 g2, AV.int IntKind.i64 g3, AV.int IntKind.i64 g4])]).get
                                      oid))
                                  (req
                                    ((0 + n * 5).ble
                                      (cellsOf
                                          ((mkXT X
                                                [(34359738402, AObj.cells [AV.int IntKind.i64 g0, AV.int IntKind.i64 g1, AV.int IntKind.i64 l, AV.int IntKind.i64 g2, AV.int IntKind.i64 k]),
                                                  (6, AObj.map es clk),
                                                  (17179869187, AObj.cells [AV.int IntKind.i64 g0, AV.int IntKind.i64 g1, AV.int IntKind.i64 g2, AV.int IntKind.i64 g3, AV.int IntKind.i64 g4])]).get
                                            oid)).length)
                                    (req (((n + 1) * 40).ble 70368744177664)
                                      (req
                                        ((0 + n * 5).beq
                                          (cellsOf
                                              ((mkXT X
                                                    [(34359738402, AObj.cells [AV.int IntKind.i64 g0, AV.int IntKind.i64 g1, AV.int IntKind.i64 l, AV.int IntKind.i64 g2, AV.int IntKind.i64 k]),
                                                      (6, AObj.map es clk),
                                                      (17179869187,
                                                        AObj.cells [AV.int IntKind.i64 g0, AV.int IntKind.i64 g1, AV.int IntKind.i64 g2, AV.int IntKind.i64 g3, AV.int IntKind.i64 g4])]).get
                                                oid)).length)
                                        (K AX.normal 125 []
                                          [some (AV.lst hs fh), some (AV.lst tbs ft), some (AV.int IntKind.i64 fr), some (AV.map 6), some (AV.sl 34359738403 0 (n + 1) (n + 1) (some 5)),
                                            some (AV.lst tbs ft), some (AV.int IntKind.i64 (↑tbs.length : Int)), some (AV.int IntKind.i64 li), some (AV.int IntKind.i64 l), some (AV.lst gs fg),
                                            some (AV.int IntKind.i64 (↑gs.length : Int)), some (AV.int IntKind.i64 gi), some (AV.ptr 17179869187 0), some (AV.lst row fw),
                                            some (AV.int IntKind.i64 (↑row.length : Int)), some (AV.int IntKind.i64 (IntKind.i64.wrap (k + 1)))]
                                          { next := 34359738407,
                                            tr :=
                                              ((mkXT X
                                                        [(34359738402, AObj.cells [AV.int IntKind.i64 g0, AV.int IntKind.i64 g1, AV.int IntKind.i64 l, AV.int IntKind.i64 g2, AV.int IntKind.i64 k]),
                                                          (6, AObj.map es clk),
                                                          (17179869187,
                                                            AObj.cells [AV.int IntKind.i64 g0, AV.int IntKind.i64 g1, AV.int IntKind.i64 g2, AV.int IntKind.i64 g3, AV.int IntKind.i64 g4])]).set
                                                    oid none).set
                                                34359738403
                                                (some
                                                  (AObj.cells
                                                    (List.take (n * 5)
                                                        (cellsOf
                                                          ((mkXT X
                                                                [(34359738402,
                                                                    AObj.cells [AV.int IntKind.i64 g0, AV.int IntKind.i64 g1, AV.int IntKind.i64 l, AV.int IntKind.i64 g2, AV.int IntKind.i64 k]),
                                                                  (6, AObj.map es clk),
                                                                  (17179869187,
                                                                    AObj.cells
                                                                      [AV.int IntKind.i64 g0, AV.int IntKind.i64 g1, AV.int IntKind.i64 g2, AV.int IntKind.i64 g3, AV.int IntKind.i64 g4])]).get
                                                            oid)) ++
                                                      [AV.int IntKind.i64 g0, AV.int IntKind.i64 g1, AV.int IntKind.i64 l, AV.int IntKind.i64 g2, AV.int IntKind.i64 k]))) }))))))
                              (K AX.normal 125 []
                                [some (AV.lst hs fh), some (AV.lst tbs ft), some (AV.int IntKind.i64 fr), some (AV.map 6), some (AV.sl oid 0 n n (some 5)), some (AV.lst tbs ft),
                                  some (AV.int IntKind.i64 (↑tbs.length : Int)), some (AV.int IntKind.i64 li), some (AV.int IntKind.i64 l), some (AV.lst gs fg),
                                  some (AV.int IntKind.i64 (↑gs.length : Int)), some (AV.int IntKind.i64 gi), some (AV.ptr 17179869187 0), some (AV.lst row fw),
                                  some (AV.int IntKind.i64 (↑row.length : Int)), some (AV.int IntKind.i64 (IntKind.i64.wrap (k + 1)))]
                                { next := 34359738396,
                                  tr :=
                                    mkXT X
                                      [(6, AObj.map es clk),
                                        (17179869187, AObj.cells [AV.int IntKind.i64 g0, AV.int IntKind.i64 g1, AV.int IntKind.i64 g2, AV.int IntKind.i64 g3, AV.int IntKind.i64 g4])] }))))))))
                (K AX.normal 125 []
                  [some (AV.lst hs fh), some (AV.lst tbs ft), some (AV.int IntKind.i64 fr), some (AV.map 6), some (AV.sl oid 0 n n (some 5)), some (AV.lst tbs ft),
                    some (AV.int IntKind.i64 (↑tbs.length : Int)), some (AV.int IntKind.i64 li), some (AV.int IntKind.i64 l), some (AV.lst gs fg), some (AV.int IntKind.i64 (↑gs.length : Int)),
                    some (AV.int IntKind.i64 gi), some (AV.ptr 17179869187 0), some (AV.lst row fw), some (AV.int IntKind.i64 (↑row.length : Int)),
                    some (AV.int IntKind.i64 (IntKind.i64.wrap (k + 1)))]
                  { next := 34359738396,
                    tr :=
                      mkXT X [(6, AObj.map es clk), (17179869187, AObj.cells [AV.int IntKind.i64 g0, AV.int IntKind.i64 g1, AV.int IntKind.i64 g2, AV.int IntKind.i64 g3, AV.int IntKind.i64 g4])] }))
              (K AX.normal 125 []
                [some (AV.lst hs fh), some (AV.lst tbs ft), some (AV.int IntKind.i64 fr), some (AV.map 6), some (AV.sl oid 0 n n (some 5)), some (AV.lst tbs ft),
                  some (AV.int IntKind.i64 (↑tbs.length : Int)), some (AV.int IntKind.i64 li), some (AV.int IntKind.i64 l), some (AV.lst gs fg), some (AV.int IntKind.i64 (↑gs.length : Int)),
                  some (AV.int IntKind.i64 gi), some (AV.ptr 17179869187 0), some (AV.lst row fw), some (AV.int IntKind.i64 (↑row.length : Int)), some (AV.int IntKind.i64 (IntKind.i64.wrap (k + 1)))]
                { next := 34359738396,
                  tr := mkXT X [(6, AObj.map es clk), (17179869187, AObj.cells [AV.int IntKind.i64 g0, AV.int IntKind.i64 g1, AV.int IntKind.i64 g2, AV.int IntKind.i64 g3, AV.int IntKind.i64 g4])] }))
            (K AX.normal 125 []
              [some (AV.lst hs fh), some (AV.lst tbs ft), some (AV.int IntKind.i64 fr), some (AV.map 6), some (AV.sl oid 0 n n (some 5)), some (AV.lst tbs ft),
                some (AV.int IntKind.i64 (↑tbs.length : Int)), some (AV.int IntKind.i64 li), some (AV.int IntKind.i64 l), some (AV.lst gs fg), some (AV.int IntKind.i64 (↑gs.length : Int)),
                some (AV.int IntKind.i64 gi), some (AV.ptr 17179869187 0), some (AV.lst row fw), some (AV.int IntKind.i64 (↑row.length : Int)), some (AV.int IntKind.i64 (IntKind.i64.wrap (k + 1)))]
              { next := 34359738396,
                tr :=
                  mkXT X [(6, AObj.map es clk), (17179869187, AObj.cells [AV.int IntKind.i64 g0, AV.int IntKind.i64 g1, AV.int IntKind.i64 g2, AV.int IntKind.i64 g3, AV.int IntKind.i64 g4])] }))))))
  (K (AX.exit 8) 125 []
    [some (AV.lst hs fh), some (AV.lst tbs ft), some (AV.int IntKind.i64 fr), some (AV.map 6), some (AV.sl oid 0 n n (some 5)), some (AV.lst tbs ft), some (AV.int IntKind.i64 (↑tbs.length : Int)),
      some (AV.int IntKind.i64 li), some (AV.int IntKind.i64 l), some (AV.lst gs fg), some (AV.int IntKind.i64 (↑gs.length : Int)), some (AV.int IntKind.i64 gi), some (AV.ptr 17179869187 0),
      some (AV.lst row fw), some (AV.int IntKind.i64 (↑row.length : Int)), some (AV.int IntKind.i64 k)]
    { next := 34359738369,
      tr := mkXT X [(6, AObj.map es clk), (17179869187, AObj.cells [AV.int IntKind.i64 g0, AV.int IntKind.i64 g1, AV.int IntKind.i64 g2, AV.int IntKind.i64 g3, AV.int IntKind.i64 g4])] })) := by kernel_rfl

/-! ### What has been found -/
abbrev Out := Option (Nat × Nat × List AV)
def outV : Out → AV
  | none => .snil
  | some (y, n, _) => .sl (256 * y + 255) 0 n n (some 5)
def outO : Out → List (Nat × AObj)
  | none => []
  | some (y, _, cs) => [(256 * y + 255, .cells cs)]
def outN : Out → Nat
  | none => 0
  | some (_, n, _) => n
def outOk (Y : Nat) : Out → Prop
  | none => True
  | some (y, n, cs) => 16777216 ≤ y ∧ y ≤ Y ∧ 1 ≤ n ∧ okCs (n * 5) cs = true
theorem lookup_app {α : Type} {j : Nat} {l1 l2 : List (Nat × α)} : (l1 ++ l2).lookup j = match l1.lookup j with
  | some o => some o
  | none => l2.lookup j := by
  induction l1 with
  | nil => rfl
  | cons p l ih =>
    obtain ⟨i, x⟩ := p
    rw [List.cons_append, List.lookup_cons, List.lookup_cons]
    split
    · rfl
    · exact ih
theorem lookup_sObjs {G : List Snd} {c j : Nat} (h6 : j ≠ 6) (h : ∀ g ∈ G, j ≠ g.id) : (sObjs G c).lookup j = none := by
  unfold sObjs
  rw [List.lookup_cons, show (j == 6) = false by simpa using h6]
  simp only
  induction G with
  | nil => rfl
  | cons g G ih =>
    rw [List.map_cons, List.lookup_cons, show (j == g.id) = false by simpa using h g (by simp)]
    exact ih fun g hg => h g (List.mem_cons_of_mem _ hg)
/-- The objects of the second part. -/
def os2 (G : List Snd) (c : Nat) (ex : List (Nat × AObj)) (out : Out) : List (Nat × AObj) := sObjs G c ++ (ex ++ outO out)
theorem os2_obj {G : List Snd} {c : Nat} {ex : List (Nat × AObj)} {out : Out} (hd : Own1 G) {g : Snd} (hg : g ∈ G) : (os2 G c ex out).lookup g.id = some g.obj := by
  unfold os2
  rw [lookup_app, lookup_obj hd hg]
theorem os2_six {G : List Snd} {c : Nat} {ex : List (Nat × AObj)} {out : Out} : (os2 G c ex out).lookup 6 = some (.map (G.map Snd.ent) c) := by
  unfold os2
  rw [lookup_app, sObjs, List.lookup_cons, BEq.rfl]
theorem os2_out {G : List Snd} {c y n : Nat} {cs : List AV} {ex : List (Nat × AObj)} (hG : ∀ g ∈ G, g.x < 16777216) (hy : 16777216 ≤ y) (hx : far ex = true) : (os2 G c ex (some (y, n, cs))).lookup (256 * y + 255) = some (.cells cs) := by
  unfold os2
  rw [lookup_app, lookup_sObjs (by omega) fun g hg => by have := hG g hg; unfold Snd.id; omega]
  simp only
  rw [lookup_app, lookup_far hx]
  simp only [outO, List.lookup_cons, BEq.rfl]
theorem os2_ex {G : List Snd} {c j : Nat} {out : Out} {o : AObj} (h6 : j ≠ 6) (hj : j % 256 ≠ 255) : (os2 G c [(j, o)] out).lookup j = some o := by
  unfold os2
  rw [lookup_app, lookup_sObjs h6 fun g hg => by unfold Snd.id; omega]
  simp only [List.cons_append, List.lookup_cons, BEq.rfl]
theorem mapO_ints {ρ : Nat → Nat} {D : Nat} {cs : List AV} (h : okCs D cs = true) : mapO ρ (.cells cs) = .cells cs := by
  simp only [mapO]
  congr 1
  simp only [okCs, Bool.and_eq_true, List.all_eq_true] at h
  refine (List.map_congr_left fun x hx => ?_).trans (List.map_id _)
  have := h.2 x hx
  cases x <;> simp [isInt] at this
  rfl
theorem met_o {k N n : Nat} (hk : k ≤ N) {vs : List AV} {ob : List (Option AV)} {n' : Nat} {ds : List Nat} {h : AH} (G : List Snd) (c : Nat) (ex : List (Nat × AObj)) (hG : ∀ g ∈ G, g.x < 16777216) (hN0 : 4294967296 ≤ N) (h6 : 6 < k)
    (hex : ∀ p ∈ ex, p.1 < k ∧ ∀ ρ, mapO ρ p.2 = p.2) (hN : N ≤ h.next) (y n1 nid : Nat) (cs : List AV) (hy : 16777216 ≤ y) (hyN : 256 * y + 255 < N) (hcase : nid = 256 * y + 255 ∨ (N ≤ nid ∧ k ≤ 256 * y + 255 ∧ nid < h.next)) {D : Nat} (hc : okCs D cs = true)
    (g6 : h.get 6 = some (.map (G.map Snd.ent) c)) (gg : ∀ g ∈ G, h.get g.id = some g.obj) (go : h.get nid = some (.cells cs)) (gx : ∀ p ∈ ex, h.get p.1 = some p.2)
    (e1 : n' = n) (e2 : ds = []) (e3 : ∀ ρ : Nat → Nat, (∀ j, j < k → ρ j = j) → ρ (256 * y + 255) = nid → ob.take vs.length = vs.map fun x => some (mapV ρ x)) :
    ∃ l, FixL k l ∧ l.length = N ∧ Met n l vs (os2 G c ex (some (y, n1, cs))) n' ds ob h := by
  let f : Nat → Nat := fun j => if j = 256 * y + 255 then nid else j
  have hf : ∀ j, j ≠ 256 * y + 255 → f j = j := fun j hj => if_neg hj
  have hf' : f (256 * y + 255) = nid := if_pos rfl
  have hfk : ∀ j, j < k → f j = j := fun j hj => by
    by_cases hjy : j = 256 * y + 255
    · rcases hcase with h1 | h1
      · rw [hjy, hf', h1]
      · omega
    · exact hf j hjy
  have hr : ∀ j, j < N → ext (rl N f) h.next j = f j := fun j hj => ext_rl hj
  refine ⟨rl N f, rl_fix hk hfk, rl_len N f, e1, e2, e3 _ (fun j hj => by rw [hr j (by omega)]; exact hfk j hj) (by rw [hr _ hyN, hf']), allH_iff.2 fun p hp => ?_, rl_nd fun a b ha hb hab => ?_, fun i hi => ?_⟩
  · have hgx : ∀ g ∈ G, f g.id = g.id := fun g hg => hf _ (by have := hG g hg; unfold Snd.id; omega)
    have hgN : ∀ g ∈ G, g.id < N := fun g hg => by have := hG g hg; unfold Snd.id; omega
    rcases List.mem_append.1 hp with hp | hp
    · rcases List.mem_cons.1 hp with rfl | hp
      · simp only [mapO]
        rw [hr 6 (by omega), hf 6 (by omega), ents_map fun g hg => by rw [hr _ (hgN g hg)]; exact hgx g hg]
        exact g6
      · obtain ⟨g, hg, rfl⟩ := List.mem_map.1 hp
        rw [hr _ (hgN g hg), hgx g hg, obj_map]
        exact gg g hg
    · rcases List.mem_append.1 hp with hp | hp
      · obtain ⟨h1, h2⟩ := hex p hp
        rw [hr _ (by omega), hfk _ h1, h2]
        exact gx p hp
      · simp only [outO, List.mem_singleton] at hp
        subst hp
        rw [mapO_ints hc]
        simp only [hr _ hyN, hf']
        exact go
  · by_cases h1 : a = 256 * y + 255 <;> by_cases h2 : b = 256 * y + 255
    · omega
    · rw [h1, hf', hf b h2] at hab; omega
    · rw [h2, hf', hf a h1] at hab; omega
    · rw [hf a h1, hf b h2] at hab; exact hab
  · obtain ⟨j, hj, rfl⟩ := List.mem_map.1 hi
    have hj := List.mem_range.1 hj
    by_cases h1 : j = 256 * y + 255
    · rw [h1, hf']; omega
    · rw [hf j h1]; omega
theorem met_n {k N n : Nat} (hk : k ≤ N) {vs : List AV} {ob : List (Option AV)} {n' : Nat} {ds : List Nat} {h : AH} (G : List Snd) (c : Nat) (ex : List (Nat × AObj)) (hG : ∀ g ∈ G, g.x < 16777216) (hN0 : 4294967296 ≤ N) (h6 : 6 < k)
    (hex : ∀ p ∈ ex, p.1 < k ∧ ∀ ρ, mapO ρ p.2 = p.2) (hN : N ≤ h.next)
    (g6 : h.get 6 = some (.map (G.map Snd.ent) c)) (gg : ∀ g ∈ G, h.get g.id = some g.obj) (gx : ∀ p ∈ ex, h.get p.1 = some p.2)
    (e1 : n' = n) (e2 : ds = []) (e3 : ob.take vs.length = vs.map some) (b3 : belowL k vs = true) :
    ∃ l, FixL k l ∧ l.length = N ∧ Met n l vs (os2 G c ex none) n' ds ob h := by
  refine ⟨_, met_rl (f := fun j => j) hk (fun _ _ => rfl) (fun _ _ _ _ h => h) (fun i hi => Nat.lt_of_lt_of_le hi hN) e1 e2 e3 b3 (allH_iff.2 fun p hp => ?_)⟩
  have hr : ∀ j, j < N → ext (rl N fun j => j) h.next j = j := fun j hj => ext_rl hj
  have hgN : ∀ g ∈ G, g.id < N := fun g hg => by have := hG g hg; unfold Snd.id; omega
  simp only [os2, outO, List.append_nil] at hp
  rcases List.mem_append.1 hp with hp | hp
  · rcases List.mem_cons.1 hp with rfl | hp
    · simp only [mapO]
      rw [hr 6 (by omega), ents_map fun g hg => hr _ (hgN g hg)]
      exact g6
    · obtain ⟨g, hg, rfl⟩ := List.mem_map.1 hp
      rw [hr _ (hgN g hg), obj_map]
      exact gg g hg
  · obtain ⟨h1, h2⟩ := hex p hp
    rw [hr _ (by omega), h2]
    exact gx p hp
/-- A clash: node l listens to the grant's cell at peer's; node c sends in it, too. -/
def clashC (row : List (List AV)) (l peer s o : Int) (G : List Snd) (c : Nat) : Prop := boolOf ((row.getD c []).getD 0 .undef) = true ∧ (c : Int) ≠ l ∧ (c : Int) ≠ peer ∧ hasS G s o c
def exE (g0 g1 g2 g3 g4 : Int) : List (Nat × AObj) := [(17179869187, .cells [.i g0, .i g1, .i g2, .i g3, .i g4])]
/-- An old one, or a new one at Z. -/
def yFrom (Z : Nat) (out0 out : Out) : Prop := ∀ y n cs, out = some (y, n, cs) → y = Z ∨ ∃ n0 cs0, out0 = some (y, n0, cs0)
def inv8 (row : List (List AV)) (l g0 g1 g2 : Int) (G : List Snd) (out0 : Out) (k : Nat) (out : Out) : Prop := outOk 67108864 out ∧ outN out ≤ outN out0 + k ∧ (out = none → out0 = none ∧ ∀ c, c < k → ¬ clashC row l g2 g0 g1 G c) ∧ yFrom 67108864 out0 out
structure PreO (Y lim : Nat) (G : List Snd) (c : Nat) (ex : List (Nat × AObj)) (out : Out) (ov : AV) (h : AH) : Prop where
  own : Own1 G
  x : ∀ g ∈ G, g.x < 16777216
  v : ov = outV out
  ok : outOk Y out
  n : outN out ≤ lim
  h : Holds h (os2 G c ex out)
def L9e : Option Nat → Env → AH → AQ → Prop := fun ro e h Q =>
  match ro, obs e te, h.get 17179869187 with
  | none, [some (.lst hs fh), some (.lst tbs ft), some (.int .i64 fr), some (.map 6), some ov, some (.lst tbs' ft'), some (.int .i64 m), some (.int .i64 li), some (.int .i64 l), some (.lst gs fg), some (.int .i64 gl), some (.int .i64 gi), some (.ptr 17179869187 0), some (.lst row fw), some (.int .i64 rl), some (.int .i64 0)], some (.cells [.int .i64 g0, .int .i64 g1, .int .i64 g2, .int .i64 g3, .int .i64 g4]) =>
    (tbs' = tbs ∧ ft' = ft) ∧ req (Nat.beq e.n 125 && e.ds.isEmpty && Nat.beq h.next 17179869199) (req ((m == tbs.length) && (gl == gs.length) && (rl == row.length) && row.all isBoolRow && Nat.ble row.length 12)
      (∃ (G : List Snd) (c : Nat) (out : Out), PreO 33554432 1000000000 G c (exE g0 g1 g2 g3 g4) out ov h ∧
        (∀ out', inv8 row l g0 g1 g2 G out row.length out' → Q (.exit 8) (mkE 125 (te.zip (ve hs tbs gs row fh ft fg fw fr li l gi (outV out') row.length))) (mkH 34359738368 (os2 G c (exE g0 g1 g2 g3 g4) out')))))
  | _, _, _ => False
theorem okCs_add {D : Nat} {cs : List AV} (h : okCs D cs = true) (a b c d e : Int) : okCs (D + 5) (cs ++ [.int .i64 a, .int .i64 b, .int .i64 c, .int .i64 d, .int .i64 e]) = true := by
  have hl := okCs_len h
  simp only [okCs, Bool.and_eq_true, List.all_eq_true] at h ⊢
  refine ⟨by simp [hl], fun x hx => ?_⟩
  rcases List.mem_append.1 hx with hx | hx
  · exact h.2 x hx
  · simp only [List.mem_cons, List.not_mem_nil, or_false] at hx
    rcases hx with rfl | rfl | rfl | rfl | rfl <;> rfl
theorem get_skip {t : Tr AObj} {i j : Nat} {o : Option AObj} (h : j ≠ i) : (t.set i o).get j = t.get j := by rw [Tr.get_set, if_neg h]
theorem get_same (t : Tr AObj) (i : Nat) (o : Option AObj) : (t.set i o).get i = o := by rw [Tr.get_set, if_pos rfl]
theorem exE_ok {k : Nat} (hk : 17179869187 < k) (g0 g1 g2 g3 g4 : Int) : ∀ p ∈ exE g0 g1 g2 g3 g4, p.1 < k ∧ ∀ ρ, mapO ρ p.2 = p.2 := by
  intro p hp
  simp only [exE, List.mem_singleton] at hp
  subst hp
  exact ⟨hk, fun ρ => rfl⟩
theorem L9eok {fn : Func} {body c : Code} (h1 : C.F 9 = some fn) (h2 : fn.body = some body) (h3 : codeAt body p9e = some (.loop c)) (ro : Option Nat) (e : Env) (h : AH) (Q : AQ) (hl : L9e ro e h Q) : ASem C ro (.loop c) Q e h := by
  have hloc := loc_of h1 h2 h3
  obtain rfl := loopAt_eq h1 h2 h3
  unfold L9e at hl
  split at hl
  · rename_i hs fh tbs ft fr ov tbs' ft' m li l gs fg gl gi row fw rl' g0 g1 g2 g3 g4 hob hgx
    obtain ⟨⟨rfl, rfl⟩, hl⟩ := hl
    simp only [req_iff, Bool.and_eq_true, List.isEmpty_iff, beq_iff_eq] at hl
    obtain ⟨⟨⟨n1, n2⟩, n3⟩, ⟨⟨⟨⟨rfl, rfl⟩, rfl⟩, hrow⟩, hrl⟩, G, c, out0, ⟨hown, hGx, rfl, ho0, hn0, hH⟩, q1⟩ := hl
    have n1 := Nat.eq_of_beq_eq_true n1
    have n3 := Nat.eq_of_beq_eq_true n3
    have hrl := Nat.le_of_ble_eq_true hrl
    have hex := exE_ok (k := 17179869199) (by decide) g0 g1 g2 g3 g4
    refine loop_idx (α := Out) (τ := Unit) 125 17179869199 34359738368 8 row.length (by decide) te (fun k out => ve hs tbs' gs row fh ft' fg fw fr li l gi (outV out) k) (fun _ out => os2 G c (exE g0 g1 g2 g3 g4) out)
      (fun k out => inv8 row l g0 g1 g2 G out0 k out) (fun _ => []) (fun _ => []) (fun _ => False) (fun _ hx => by cases hx) ?_ n3 e out0 ⟨?_, Nat.le_refl _, fun hx => ⟨hx, fun c hc => by omega⟩, fun y n cs hx => .inr ⟨n, cs, hx⟩⟩
      (he_of_obs (by rw [hob]; rfl)) n1 n2 hH.sub (fun a ha => q1 a ha) (fun _ hf => hf.elim)
    · intro k out hk hinv
      obtain ⟨b1, b2, b3, b4⟩ := hinv
      have hX : ∀ g ∈ G, (lf8 (mkHT (os2 G c (exE g0 g1 g2 g3 g4) out))).get g.x = some g.obj := fun g hg => by
        rw [lf8_get, mkHT_get]
        exact os2_obj hown hg
      refine asem_toX (fs := [(6, .map (G.map Snd.ent) c), (17179869187, .cells [.i g0, .i g1, .i g2, .i g3, .i g4])]) (fun j o hj => ?_) ?_
      · simp only [List.lookup_cons, List.lookup_nil] at hj
        split at hj
        · rename_i hb
          have : j = 6 := by simpa using hb
          subst this
          exact os2_six.trans hj
        · split at hj
          · rename_i hb
            have : j = 17179869187 := by simpa using hb
            subst this
            exact (os2_ex (by decide) (by decide)).trans hj
          · cases hj
      refine (wpOk hC mixed S1ok 1000).c _ _ _ _ _ _ hloc ?_
      have hkk : (k : Int).toNat = k := rfl
      have hk1 : IntKind.i64.wrap ((k : Int) + 1) = ((k + 1 : Nat) : Int) := by rw [w64 (n := (k : Int) + 1) (by omega) (by omega)]; rfl
      have hval : ∀ z, findVal C 45 (.agg [.int .i64 g0, .int .i64 g1]) (G.map Snd.ent) z = match look g0 g1 G with | some g => .map g.id | none => z := fun z => findVal45 g0 g1 G z
      have hfok : findOk C 45 (.agg [.int .i64 g0, .int .i64 g1]) (G.map Snd.ent) = true := findOk45 g0 g1 G
      cases out with
      | none =>
        show wpC C S1 1000 none _ _ _ (mkE 125 (te.zip (ve _ _ _ _ _ _ _ _ _ _ _ _ .snil _))) _
        rw [vc9e0]
        have hsame : ∀ nx : Nat, 34359738368 ≤ nx → ¬ clashC row l g2 g0 g1 G k → k < row.length → (k < row.length ∧ ∃ (a' : Out) (l' : List Nat), inv8 row l g0 g1 g2 G out0 (k + 1) a' ∧ FixL 17179869199 l' ∧ l'.length = 34359738368 ∧ Met 125 l' (ve hs tbs' gs row fh ft' fg fw fr li l gi (outV a') ((k + 1 : Nat) : Int)) (os2 G c (exE g0 g1 g2 g3 g4) a') 125 [] ((ve hs tbs' gs row fh ft' fg fw fr li l gi .snil ((k + 1 : Nat) : Int)).map some) ⟨nx, mkXT (lf8 (mkHT (os2 G c (exE g0 g1 g2 g3 g4) none))) [(6, .map (G.map Snd.ent) c), (17179869187, .cells [.i g0, .i g1, .i g2, .i g3, .i g4])]⟩) := fun nx hnx hno hlt => by
          obtain ⟨l', m1, m2, m3⟩ := met_n (k := 17179869199) (N := 34359738368) (n := 125) (by decide) (vs := ve hs tbs' gs row fh ft' fg fw fr li l gi .snil ((k + 1 : Nat) : Int)) (ob := (ve hs tbs' gs row fh ft' fg fw fr li l gi .snil ((k + 1 : Nat) : Int)).map some) (n' := 125) (ds := []) (h := ⟨nx, mkXT (lf8 (mkHT (os2 G c (exE g0 g1 g2 g3 g4) none))) [(6, .map (G.map Snd.ent) c), (17179869187, .cells [.i g0, .i g1, .i g2, .i g3, .i g4])]⟩) G c (exE g0 g1 g2 g3 g4) hGx (by decide) (by decide) hex hnx (mkXT_get rfl) (fun g hg => get_far rfl (hX g hg)) (fun p hp => by
              simp only [exE, List.mem_singleton] at hp
              subst hp
              exact mkXT_get rfl) rfl rfl rfl rfl
          refine ⟨hlt, none, l', ⟨trivial, Nat.zero_le _, fun hx => ⟨(b3 hx).1, fun c hc => ?_⟩, fun _ _ _ hx => (by cases hx)⟩, m1, m2, m3⟩
          rcases Nat.lt_or_ge c k with h5 | h5
          · exact (b3 hx).2 c h5
          · obtain rfl : c = k := by omega
            exact hno
        rw [cas_iff]
        constructor
        · intro hlt
          have hlt : k < row.length := by simpa using hlt
          have hbr := all_getD hrow hlt []
          simp only [isBoolRow, Bool.and_eq_true] at hbr
          have hbl := Nat.eq_of_beq_eq_true hbr.1
          have hbb : (isBool ((row.getD k []).getD 0 .undef) && true) = true := by simp only [Bool.and_eq_true]; exact hbr.2
          have dk : (decide (0 ≤ (k : Int)) && decide ((k : Int) < (row.length : Int))) = true := by simp; omega
          simp only [req_iff, cas_iff, hkk, hbl, hbb, dk, hk1, hval, hfok]
          refine ⟨trivial, rfl, rfl, trivial, fun q1 => ⟨fun q2 => ⟨fun q3 => ⟨trivial, ?_⟩, fun q3 => ?_⟩, fun q2 => ?_⟩, fun q1 => ?_⟩
          · cases hlk : look g0 g1 G with
            | none =>
              simp only [isM, isNilM]
              refine ⟨trivial, fun _ => hsame 34359738396 (by decide) (fun hcl => ?_) hlt, fun hx => (by cases hx)⟩
              obtain ⟨g, hg, _⟩ := hcl.2.2.2
              rw [hlk] at hg; cases hg
            | some g =>
              obtain ⟨i, _, hgi, _⟩ := look_some hlk
              have hgm : g ∈ G := List.mem_of_getElem? hgi
              have gg : (mkXT (lf8 (mkHT (os2 G c (exE g0 g1 g2 g3 g4) none))) [(6, .map (G.map Snd.ent) c), (17179869187, .cells [.i g0, .i g1, .i g2, .i g3, .i g4])]).get g.id = some (.map (g.m.map memE) g.c) := get_far rfl (hX g hgm)
              simp only [isM, isNilM, midOf, gg, esOf, isMapO]
              simp only [findVal3, isBool, boolOf]
              refine ⟨trivial, fun hx => (by cases hx), fun _ => ⟨trivial, findOk3 k g.m, trivial, fun hany => ?_, fun hany => hsame 34359738396 (by decide) (fun hcl => ?_) hlt⟩⟩
              · obtain ⟨l', m1, m2, m3⟩ := met_o (k := 17179869199) (N := 34359738368) (n := 125) (by decide) (vs := ve hs tbs' gs row fh ft' fg fw fr li l gi (outV (some (67108864, 1, [.i g0, .i g1, .i l, .i g2, .i k]))) ((k + 1 : Nat) : Int)) (ob := (ve hs tbs' gs row fh ft' fg fw fr li l gi (.sl 34359738403 0 1 1 (some 5)) ((k + 1 : Nat) : Int)).map some) (n' := 125) (ds := [])
                  (h := ⟨34359738407, mkXT (lf8 (mkHT (os2 G c (exE g0 g1 g2 g3 g4) none))) [(34359738403, .cells [.i g0, .i g1, .i l, .i g2, .i k]), (34359738402, .cells [.i g0, .i g1, .i l, .i g2, .i k]), (6, .map (G.map Snd.ent) c), (17179869187, .cells [.i g0, .i g1, .i g2, .i g3, .i g4])]⟩) G c (exE g0 g1 g2 g3 g4) hGx (by decide) (by decide) hex (show (34359738368 : Nat) ≤ 34359738407 by decide) 67108864 1 34359738403 [.i g0, .i g1, .i l, .i g2, .i k] (by decide) (by decide) (.inr ⟨by decide, by decide, show (34359738403 : Nat) < 34359738407 by decide⟩) (D := 5) rfl (mkXT_get rfl) (fun g hg => get_far rfl (hX g hg)) (mkXT_get rfl) (fun p hp => by
              simp only [exE, List.mem_singleton] at hp
              subst hp
              exact mkXT_get rfl) rfl rfl (fun ρ hρ hy => by
              have e6 := hρ 6 (by decide)
              have ep := hρ 17179869187 (by decide)
              simp only [ve, outV, List.map_cons, List.map_nil, mapV, e6, ep, hy]
              rfl)
                exact ⟨hlt, some (67108864, 1, [.i g0, .i g1, .i l, .i g2, .i k]), l', ⟨⟨by decide, by decide, by decide, rfl⟩, by show 1 ≤ outN out0 + (k + 1); omega, fun hx => (by cases hx), fun _ _ _ hx => (by cases hx; exact .inl rfl)⟩, m1, m2, m3⟩
              · obtain ⟨g', hg', hm⟩ := hcl.2.2.2
                rw [hlk] at hg'
                injection hg' with hg'
                subst hg'
                rw [hany] at hm; cases hm
          · exact hsame 34359738396 (by decide) (fun hcl => by have := hcl.2.2.1; simp at q3; omega) hlt
          · exact hsame 34359738396 (by decide) (fun hcl => by have := hcl.2.1; simp at q2; omega) hlt
          · exact hsame 34359738396 (by decide) (fun hcl => by rw [hcl.1] at q1; cases q1) hlt
        · intro hge
          obtain rfl : k = row.length := by simp at hge; omega
          obtain ⟨l', m1, m2, m3⟩ := met_n (k := 17179869199) (N := 34359738368) (n := 125) (by decide) (vs := ve hs tbs' gs row fh ft' fg fw fr li l gi .snil row.length) (ob := (ve hs tbs' gs row fh ft' fg fw fr li l gi .snil row.length).map some) (n' := 125) (ds := []) (h := ⟨34359738369, mkXT (lf8 (mkHT (os2 G c (exE g0 g1 g2 g3 g4) none))) [(6, .map (G.map Snd.ent) c), (17179869187, .cells [.i g0, .i g1, .i g2, .i g3, .i g4])]⟩) G c (exE g0 g1 g2 g3 g4) hGx (by decide) (by decide) hex (show (34359738368 : Nat) ≤ 34359738369 by decide) (mkXT_get rfl) (fun g hg => get_far rfl (hX g hg)) (fun p hp => by
              simp only [exE, List.mem_singleton] at hp
              subst hp
              exact mkXT_get rfl) rfl rfl rfl rfl
          exact ⟨rfl, l', ⟨trivial, b2, b3, b4⟩, m1, m2, m3⟩
      | some p =>
        obtain ⟨y, n, cs⟩ := p
        obtain ⟨y1, y2, y3, y4⟩ := b1
        have b2 : n ≤ outN out0 + k := b2
        have hXo : (lf8 (mkHT (os2 G c (exE g0 g1 g2 g3 g4) (some (y, n, cs))))).get y = some (.cells cs) := by
          rw [lf8_get, mkHT_get]
          exact os2_out hGx y1 rfl
        show wpC C S1 1000 none _ _ _ (mkE 125 (te.zip (ve _ _ _ _ _ _ _ _ _ _ _ _ (.sl (256 * y + 255) 0 n n (some 5)) _))) _
        rw [vc9e1]
        have hsame : ∀ nx : Nat, 34359738368 ≤ nx → ¬ clashC row l g2 g0 g1 G k → k < row.length → (k < row.length ∧ ∃ (a' : Out) (l' : List Nat), inv8 row l g0 g1 g2 G out0 (k + 1) a' ∧ FixL 17179869199 l' ∧ l'.length = 34359738368 ∧ Met 125 l' (ve hs tbs' gs row fh ft' fg fw fr li l gi (outV a') ((k + 1 : Nat) : Int)) (os2 G c (exE g0 g1 g2 g3 g4) a') 125 [] ((ve hs tbs' gs row fh ft' fg fw fr li l gi (.sl (256 * y + 255) 0 n n (some 5)) ((k + 1 : Nat) : Int)).map some) ⟨nx, mkXT (lf8 (mkHT (os2 G c (exE g0 g1 g2 g3 g4) (some (y, n, cs))))) [(6, .map (G.map Snd.ent) c), (17179869187, .cells [.i g0, .i g1, .i g2, .i g3, .i g4])]⟩) := fun nx hnx hno hlt => by
          obtain ⟨l', m1, m2, m3⟩ := met_o (k := 17179869199) (N := 34359738368) (n := 125) (by decide) (vs := ve hs tbs' gs row fh ft' fg fw fr li l gi (outV (some (y, n, cs))) ((k + 1 : Nat) : Int)) (ob := (ve hs tbs' gs row fh ft' fg fw fr li l gi (.sl (256 * y + 255) 0 n n (some 5)) ((k + 1 : Nat) : Int)).map some) (n' := 125) (ds := []) (h := ⟨nx, mkXT (lf8 (mkHT (os2 G c (exE g0 g1 g2 g3 g4) (some (y, n, cs))))) [(6, .map (G.map Snd.ent) c), (17179869187, .cells [.i g0, .i g1, .i g2, .i g3, .i g4])]⟩) G c (exE g0 g1 g2 g3 g4) hGx (by decide) (by decide) hex hnx y n (256 * y + 255) cs y1 (by omega) (.inl rfl) y4 (mkXT_get rfl) (fun g hg => get_far rfl (hX g hg)) ((mkXT_hit (lookup_far rfl)).trans hXo) (fun p hp => by
              simp only [exE, List.mem_singleton] at hp
              subst hp
              exact mkXT_get rfl) rfl rfl (fun ρ hρ hy => by
              have e6 := hρ 6 (by decide)
              have ep := hρ 17179869187 (by decide)
              simp only [ve, outV, List.map_cons, List.map_nil, mapV, e6, ep, hy]
              rfl)
          refine ⟨hlt, (some (y, n, cs)), l', ⟨⟨y1, y2, y3, y4⟩, by show n ≤ outN out0 + (k + 1); omega, fun hx => (by cases hx), b4⟩, m1, m2, m3⟩
        rw [cas_iff]
        constructor
        · intro hlt
          have hlt : k < row.length := by simpa using hlt
          have hbr := all_getD hrow hlt []
          simp only [isBoolRow, Bool.and_eq_true] at hbr
          have hbl := Nat.eq_of_beq_eq_true hbr.1
          have hbb : (isBool ((row.getD k []).getD 0 .undef) && true) = true := by simp only [Bool.and_eq_true]; exact hbr.2
          have dk : (decide (0 ≤ (k : Int)) && decide ((k : Int) < (row.length : Int))) = true := by simp; omega
          simp only [req_iff, cas_iff, hkk, hbl, hbb, dk, hk1, hval, hfok]
          refine ⟨trivial, rfl, rfl, trivial, fun q1 => ⟨fun q2 => ⟨fun q3 => ⟨trivial, ?_⟩, fun q3 => ?_⟩, fun q2 => ?_⟩, fun q1 => ?_⟩
          · cases hlk : look g0 g1 G with
            | none =>
              simp only [isM, isNilM]
              refine ⟨trivial, fun _ => hsame 34359738396 (by decide) (fun hcl => ?_) hlt, fun hx => (by cases hx)⟩
              obtain ⟨g, hg, _⟩ := hcl.2.2.2
              rw [hlk] at hg; cases hg
            | some g =>
              obtain ⟨i, _, hgi, _⟩ := look_some hlk
              have hgm : g ∈ G := List.mem_of_getElem? hgi
              have gg : (mkXT (lf8 (mkHT (os2 G c (exE g0 g1 g2 g3 g4) (some (y, n, cs))))) [(6, .map (G.map Snd.ent) c), (17179869187, .cells [.i g0, .i g1, .i g2, .i g3, .i g4])]).get g.id = some (.map (g.m.map memE) g.c) := get_far rfl (hX g hgm)
              simp only [isM, isNilM, midOf, gg, esOf, isMapO]
              simp only [findVal3, isBool, boolOf]
              refine ⟨trivial, fun hx => (by cases hx), fun _ => ⟨trivial, findOk3 k g.m, trivial, fun hany => ?_, fun hany => hsame 34359738396 (by decide) (fun hcl => ?_) hlt⟩⟩
              · have gy : (mkXT (lf8 (mkHT (os2 G c (exE g0 g1 g2 g3 g4) (some (y, n, cs))))) [(34359738402, .cells [.i g0, .i g1, .i l, .i g2, .i k]), (6, .map (G.map Snd.ent) c), (17179869187, .cells [.i g0, .i g1, .i g2, .i g3, .i g4])]).get (256 * y + 255) = some (.cells cs) := (mkXT_hit (lookup_far rfl)).trans hXo
                have hcl := okCs_len y4
                simp only [gy, isCellsO, cellsOf]
                refine ⟨fun hx => ?_, fun _ => ⟨trivial, Nat.ble_eq_true_of_le (by omega), Nat.ble_eq_true_of_le (by omega), ?_, ?_⟩⟩
                · have := Nat.le_of_ble_eq_true hx
                  omega
                · rw [hcl, Nat.zero_add]
                  exact Nat.beq_refl _
                · have hcs : okCs ((n + 1) * 5) (List.take (n * 5) cs ++ [.i g0, .i g1, .i l, .i g2, .i k]) = true := by
                    rw [show (n + 1) * 5 = n * 5 + 5 by omega, List.take_of_length_le (by omega)]
                    exact okCs_add y4 _ _ _ _ _
                  obtain ⟨l', m1, m2, m3⟩ := met_o (k := 17179869199) (N := 34359738368) (n := 125) (by decide) (vs := ve hs tbs' gs row fh ft' fg fw fr li l gi (outV (some (67108864, n + 1, (List.take (n * 5) cs ++ [.i g0, .i g1, .i l, .i g2, .i k])))) ((k + 1 : Nat) : Int)) (ob := (ve hs tbs' gs row fh ft' fg fw fr li l gi (.sl 34359738403 0 (n + 1) (n + 1) (some 5)) ((k + 1 : Nat) : Int)).map some) (n' := 125) (ds := [])
                    (h := ⟨34359738407, ((mkXT (lf8 (mkHT (os2 G c (exE g0 g1 g2 g3 g4) (some (y, n, cs))))) [(34359738402, .cells [.i g0, .i g1, .i l, .i g2, .i k]), (6, .map (G.map Snd.ent) c), (17179869187, .cells [.i g0, .i g1, .i g2, .i g3, .i g4])]).set (256 * y + 255) none).set 34359738403 (some (.cells (List.take (n * 5) cs ++ [.i g0, .i g1, .i l, .i g2, .i k])))⟩) G c (exE g0 g1 g2 g3 g4) hGx (by decide) (by decide) hex (show (34359738368 : Nat) ≤ 34359738407 by decide) 67108864 (n + 1) 34359738403 (List.take (n * 5) cs ++ [.i g0, .i g1, .i l, .i g2, .i k]) (by decide) (by decide) (.inr ⟨by decide, by decide, show (34359738403 : Nat) < 34359738407 by decide⟩) hcs
                    ((get_skip (by decide)).trans ((get_skip (by omega)).trans (mkXT_get rfl))) (fun g hg => (get_skip (by unfold Snd.id; omega)).trans ((get_skip (by have := hGx g hg; unfold Snd.id; omega)).trans (get_far rfl (hX g hg)))) (by show Tr.get _ _ = _; exact get_same _ _ _) (fun p hp => by
                      simp only [exE, List.mem_singleton] at hp
                      subst hp
                      exact (get_skip (show (17179869187 : Nat) ≠ 34359738403 by decide)).trans ((get_skip (show (17179869187 : Nat) ≠ 256 * y + 255 by omega)).trans (mkXT_get rfl))) rfl rfl (fun ρ hρ hy => by
              have e6 := hρ 6 (by decide)
              have ep := hρ 17179869187 (by decide)
              simp only [ve, outV, List.map_cons, List.map_nil, mapV, e6, ep, hy]
              rfl)
                  exact ⟨hlt, some (67108864, n + 1, (List.take (n * 5) cs ++ [.i g0, .i g1, .i l, .i g2, .i k])), l', ⟨⟨by decide, by decide, by omega, hcs⟩, by show n + 1 ≤ outN out0 + (k + 1); omega, fun hx => (by cases hx), fun _ _ _ hx => (by cases hx; exact .inl rfl)⟩, m1, m2, m3⟩
              · obtain ⟨g', hg', hm⟩ := hcl.2.2.2
                rw [hlk] at hg'
                injection hg' with hg'
                subst hg'
                rw [hany] at hm; cases hm
          · exact hsame 34359738396 (by decide) (fun hcl => by have := hcl.2.2.1; simp at q3; omega) hlt
          · exact hsame 34359738396 (by decide) (fun hcl => by have := hcl.2.1; simp at q2; omega) hlt
          · exact hsame 34359738396 (by decide) (fun hcl => by rw [hcl.1] at q1; cases q1) hlt
        · intro hge
          obtain rfl : k = row.length := by simp at hge; omega
          obtain ⟨l', m1, m2, m3⟩ := met_o (k := 17179869199) (N := 34359738368) (n := 125) (by decide) (vs := ve hs tbs' gs row fh ft' fg fw fr li l gi (outV (some (y, n, cs))) row.length) (ob := (ve hs tbs' gs row fh ft' fg fw fr li l gi (.sl (256 * y + 255) 0 n n (some 5)) row.length).map some) (n' := 125) (ds := []) (h := ⟨34359738369, mkXT (lf8 (mkHT (os2 G c (exE g0 g1 g2 g3 g4) (some (y, n, cs))))) [(6, .map (G.map Snd.ent) c), (17179869187, .cells [.i g0, .i g1, .i g2, .i g3, .i g4])]⟩) G c (exE g0 g1 g2 g3 g4) hGx (by decide) (by decide) hex (show (34359738368 : Nat) ≤ 34359738369 by decide) y n (256 * y + 255) cs y1 (by omega) (.inl rfl) y4 (mkXT_get rfl) (fun g hg => get_far rfl (hX g hg)) ((mkXT_hit (lookup_far rfl)).trans hXo) (fun p hp => by
              simp only [exE, List.mem_singleton] at hp
              subst hp
              exact mkXT_get rfl) rfl rfl (fun ρ hρ hy => by
              have e6 := hρ 6 (by decide)
              have ep := hρ 17179869187 (by decide)
              simp only [ve, outV, List.map_cons, List.map_nil, mapV, e6, ep, hy]
              rfl)
          exact ⟨rfl, l', ⟨⟨y1, y2, y3, y4⟩, b2, b3, b4⟩, m1, m2, m3⟩
    · cases out0 with
      | none => trivial
      | some p => exact ⟨ho0.1, Nat.le_trans ho0.2.1 (by decide), ho0.2.2⟩
  · exact hl.elim
end Go.Am.Cells
