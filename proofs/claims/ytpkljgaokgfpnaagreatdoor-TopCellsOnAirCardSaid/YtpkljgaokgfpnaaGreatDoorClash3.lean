/- TopCellsOnAir: clashes: the outer loops, the whole. -/
import Derived.Test.YtpkljgaokgfpnaaGreatDoorClash2
set_option maxRecDepth 1000000
set_option linter.unusedVariables false
set_option linter.unusedSimpArgs false
set_option linter.unusedSectionVars false
namespace Go.Am.Cells
open Go Go.Am
def S9e : Specs := .plain P1 (fun loc => match loc with
  | some (9, [false, true, true, true, false, false, true, true, false, false, true, true, false, false, true, true, false, false, true, false, true, true, true, true, true]) => some L9e
  | _ => none)
theorem S9eok : SpecsOk C S9e := by
  refine .of P1ok rfl rfl (fun f p spec h fn body c h1 h2 h3 ro e h' Q hl => ?_)
  simp only [S9e, Specs.plain] at h
  split at h <;> (try (cases h; done)) <;> (rename_i heq; simp only [Option.some.injEq, Prod.mk.injEq] at heq; obtain ⟨rfl, rfl⟩ := heq; injection h with h; subst h)
  exact L9eok h1 h2 h3 ro e h' Q hl
abbrev td : List Nat := [0, 1, 2, 7, 12, 63, 64, 65, 13, 71, 72, 73]
abbrev vd (hs tbs gs : List (List AV)) (fh ft fg : Bool) (fr li l : Int) (ov : AV) (k : Int) : List AV := [.lst hs fh, .lst tbs ft, .i fr, .map 6, ov, .lst tbs ft, .i tbs.length, .i li, .i l, .lst gs fg, .i gs.length, .i k]
theorem vc9d (hs tbs gs : List (List AV)) (fh ft fg : Bool) (fr li l k : Int) (ov : AV) (es : List (AV × AV × Nat)) (clk : Nat) (X : Tr AObj) (K : KT) : (wpC C S9e 1000 none (some (9, false :: p9d)) (loopAt 9 p9d) (kobs td K) (mkE 125 (td.zip (vd hs tbs gs fh ft fg fr li l ov k))) (mkX 17179869184 X [(6, .map es clk)])) = (cas (decide (k < (↑gs.length : Int)))
  (req (decide (0 ≤ k) && decide (k < (↑gs.length : Int)))
    (req ((gs.getD k.toNat []).length.beq 5)
      (req (Nat.ble 5 (gs.getD k.toNat []).length)
        (req
          (isInt IntKind.i64 ((gs.getD k.toNat []).getD 0 (AV.tup [])) &&
            (isInt IntKind.i64 ((gs.getD k.toNat []).getD 1 (AV.tup [])) &&
              (isInt IntKind.i64 ((gs.getD k.toNat []).getD 2 (AV.tup [])) &&
                (isInt IntKind.i64 ((gs.getD k.toNat []).getD 3 (AV.tup [])) && (isInt IntKind.i64 ((gs.getD k.toNat []).getD 4 (AV.tup [])) && true)))))
          (cas (decide (intOf ((gs.getD k.toNat []).getD 4 (AV.tup [])) < fr))
            (K AX.normal 125 []
              [some (AV.lst hs fh), some (AV.lst tbs ft), some (AV.int IntKind.i64 fr), some (AV.map 6), some ov, some (AV.lst tbs ft), some (AV.int IntKind.i64 (↑tbs.length : Int)),
                some (AV.int IntKind.i64 li), some (AV.int IntKind.i64 l), some (AV.lst gs fg), some (AV.int IntKind.i64 (↑gs.length : Int)), some (AV.int IntKind.i64 (IntKind.i64.wrap (k + 1)))]
              { next := 17179869195,
                tr :=
                  mkXT X
                    [(17179869187,
                        AObj.cells
                          [AV.int IntKind.i64 (intOf ((gs.getD k.toNat []).getD 0 (AV.tup []))), AV.int IntKind.i64 (intOf ((gs.getD k.toNat []).getD 1 (AV.tup []))),
                            AV.int IntKind.i64 (intOf ((gs.getD k.toNat []).getD 2 (AV.tup []))), AV.int IntKind.i64 (intOf ((gs.getD k.toNat []).getD 3 (AV.tup []))),
                            AV.int IntKind.i64 (intOf ((gs.getD k.toNat []).getD 4 (AV.tup [])))]),
                      (6, AObj.map es clk)] })
            (req (decide (0 ≤ l) && decide (l < (↑hs.length : Int)))
              (req ((hs.getD l.toNat []).length.beq 1)
                (req (Nat.ble 1 (hs.getD l.toNat []).length)
                  (req (isLst ((hs.getD l.toNat []).getD 0 (AV.tup [])) && true)
                    ((tbs = tbs ∧ ft = ft) ∧
                      req
                        ((↑tbs.length : Int) == (↑tbs.length : Int) && (↑gs.length : Int) == (↑gs.length : Int) &&
                              (↑(lstOf ((hs.getD l.toNat []).getD 0 (AV.tup []))).length : Int) == (↑(lstOf ((hs.getD l.toNat []).getD 0 (AV.tup []))).length : Int) &&
                            (lstOf ((hs.getD l.toNat []).getD 0 (AV.tup []))).all isBoolRow &&
                          (lstOf ((hs.getD l.toNat []).getD 0 (AV.tup []))).length.ble 12)
                        (∃ (G : List Snd),
                          ∃ (c : Nat),
                            ∃ (out : Out),
                              PreO 33554432 1000000000 G c
                                  [(17179869187,
                                      AObj.cells
                                        [AV.int IntKind.i64 (intOf ((gs.getD k.toNat []).getD 0 (AV.tup []))), AV.int IntKind.i64 (intOf ((gs.getD k.toNat []).getD 1 (AV.tup []))),
                                          AV.int IntKind.i64 (intOf ((gs.getD k.toNat []).getD 2 (AV.tup []))), AV.int IntKind.i64 (intOf ((gs.getD k.toNat []).getD 3 (AV.tup []))),
                                          AV.int IntKind.i64 (intOf ((gs.getD k.toNat []).getD 4 (AV.tup [])))])]
                                  out ov
                                  { next := 17179869199,
                                    tr :=
                                      mkXT X
                                        [(17179869187,
                                            AObj.cells
                                              [AV.int IntKind.i64 (intOf ((gs.getD k.toNat []).getD 0 (AV.tup []))), AV.int IntKind.i64 (intOf ((gs.getD k.toNat []).getD 1 (AV.tup []))),
                                                AV.int IntKind.i64 (intOf ((gs.getD k.toNat []).getD 2 (AV.tup []))), AV.int IntKind.i64 (intOf ((gs.getD k.toNat []).getD 3 (AV.tup []))),
                                                AV.int IntKind.i64 (intOf ((gs.getD k.toNat []).getD 4 (AV.tup [])))]),
                                          (6, AObj.map es clk)] } ∧
                                ∀ (out' : Out),
                                  inv8 (lstOf ((hs.getD l.toNat []).getD 0 (AV.tup []))) l (intOf ((gs.getD k.toNat []).getD 0 (AV.tup []))) (intOf ((gs.getD k.toNat []).getD 1 (AV.tup [])))
                                      (intOf ((gs.getD k.toNat []).getD 2 (AV.tup []))) G out (lstOf ((hs.getD l.toNat []).getD 0 (AV.tup []))).length out' →
                                    K AX.normal 125 []
                                      [some (AV.lst hs fh), some (AV.lst tbs ft), some (AV.int IntKind.i64 fr), some (AV.map 6), some (outV out'), some (AV.lst tbs ft),
                                        some (AV.int IntKind.i64 (↑tbs.length : Int)), some (AV.int IntKind.i64 li), some (AV.int IntKind.i64 l), some (AV.lst gs fg),
                                        some (AV.int IntKind.i64 (↑gs.length : Int)), some (AV.int IntKind.i64 (IntKind.i64.wrap (k + 1)))]
                                      { next := 34359738370,
                                        tr :=
                                          mkHT
                                            (os2 G c
                                              (exE (intOf ((gs.getD k.toNat []).getD 0 AV.undef)) (intOf ((gs.getD k.toNat []).getD (0 + 1) AV.undef))
                                                (intOf ((gs.getD k.toNat []).getD (0 + 1 + 1) AV.undef)) (intOf ((gs.getD k.toNat []).getD (0 + 1 + 1 + 1) AV.undef))
                                                (intOf ((gs.getD k.toNat []).getD (0 + 1 + 1 + 1 + 1) AV.undef)))
                                              out') })))))))))))
  (K (AX.exit 6) 125 []
    [some (AV.lst hs fh), some (AV.lst tbs ft), some (AV.int IntKind.i64 fr), some (AV.map 6), some ov, some (AV.lst tbs ft), some (AV.int IntKind.i64 (↑tbs.length : Int)),
      some (AV.int IntKind.i64 li), some (AV.int IntKind.i64 l), some (AV.lst gs fg), some (AV.int IntKind.i64 (↑gs.length : Int)), some (AV.int IntKind.i64 k)]
    { next := 17179869185, tr := mkXT X [(6, AObj.map es clk)] })) := by kernel_rfl

/-- Where what has been found lies below N. -/
def outLt (N : Nat) : Out → Prop
  | none => True
  | some (y, _, cs) => 256 * y + 255 < N ∧ ∃ D, okCs D cs = true
theorem met_keep {k N n : Nat} (hk : k ≤ N) {vs : List AV} {ob : List (Option AV)} {n' : Nat} {ds : List Nat} {h : AH} (G : List Snd) (c : Nat) (out : Out) (hG : ∀ g ∈ G, g.x < 16777216) (hN0 : 4294967296 ≤ N) (hN : N ≤ h.next) (ho : outLt N out)
    (hh : Holds h (os2 G c [] out)) (e1 : n' = n) (e2 : ds = []) (e3 : ob.take vs.length = vs.map some) (b3 : belowL N vs = true) :
    ∃ l, FixL k l ∧ l.length = N ∧ Met n l vs (os2 G c [] out) n' ds ob h := by
  have hr : ∀ j, j < N → ext (rl N fun j => j) h.next j = j := fun j hj => ext_rl hj
  have hgN : ∀ g ∈ G, g.id < N := fun g hg => by have := hG g hg; unfold Snd.id; omega
  refine ⟨rl N fun j => j, rl_fix hk (fun _ _ => rfl), rl_len N _, e1, e2, ?_, allH_iff.2 fun p hp => ?_, rl_nd (fun _ _ _ _ h => h), fun i hi => ?_⟩
  · rw [e3]
    apply List.map_congr_left
    intro x hx
    rw [mapV_below hr (belowL_iff.1 b3 x hx)]
  · have hp0 := hh p hp
    simp only [os2, List.nil_append] at hp
    rcases List.mem_append.1 hp with hp | hp
    · rcases List.mem_cons.1 hp with rfl | hp
      · simp only [mapO]
        rw [hr 6 (by omega), ents_map fun g hg => hr _ (hgN g hg)]
        exact hp0
      · obtain ⟨g, hg, rfl⟩ := List.mem_map.1 hp
        rw [hr _ (hgN g hg), obj_map]
        exact hp0
    · cases out with
      | none => simp [outO] at hp
      | some q =>
        obtain ⟨y, m, cs⟩ := q
        obtain ⟨h1, D, h2⟩ := ho
        simp only [outO, List.mem_singleton] at hp
        subst hp
        rw [mapO_ints h2]
        simp only [hr _ h1]
        exact hp0
  · obtain ⟨j, hj, rfl⟩ := List.mem_map.1 hi
    have hj := List.mem_range.1 hj
    show j < h.next
    omega
/-- A new one goes from Z to Z2. -/
def reY (Z Z2 : Nat) : Out → Out
  | none => none
  | some (y, n, cs) => some (if y = Z then Z2 else y, n, cs)
theorem met_back {k N n Z Z2 : Nat} (hk : k ≤ N) {vs : AV → List AV} {n' : Nat} {ds : List Nat} {h : AH} (G : List Snd) (c : Nat) (ex : List (Nat × AObj)) (out0 out : Out) (hd : Own1 G) (hG : ∀ g ∈ G, g.x < 16777216) (hN0 : 4294967296 ≤ N) (h6 : 6 < k) (hN : N ≤ h.next) (hex : far ex = true)
    (hZ : N ≤ 256 * Z + 255 ∧ 256 * Z + 255 < h.next) (hZ2 : k ≤ 256 * Z2 + 255 ∧ 256 * Z2 + 255 < N) (hZ3 : 16777216 ≤ Z2) (hok : outOk Z out) (hfr : yFrom Z out0 out) (ho0 : outLt N out0)
    (hH : h.tr = mkHT (os2 G c ex out)) (e1 : n' = n) (e2 : ds = []) (hv : ∀ ρ : Nat → Nat, (∀ j, j < k → ρ j = j) → ∀ a, (vs a).map (fun x => some (mapV ρ x)) = (vs (mapV ρ a)).map some) (hl : ∀ a b, (vs a).length = (vs b).length) (hb : ∀ a, below N a = true → belowL N (vs a) = true) :
    ∃ l, FixL k l ∧ l.length = N ∧ Met n l (vs (outV (reY Z Z2 out))) (os2 G c [] (reY Z Z2 out)) n' ds ((vs (outV out)).map some) h := by
  have g6 : h.get 6 = some (.map (G.map Snd.ent) c) := by
    show h.tr.get 6 = _
    rw [hH, mkHT_get]; exact os2_six
  have gg : ∀ g ∈ G, h.get g.id = some g.obj := fun g hg => by
    show h.tr.get _ = _
    rw [hH, mkHT_get]; exact os2_obj hd hg
  have tk : ∀ a, ((vs (outV out)).map some).take (vs a).length = (vs (outV out)).map some := fun a => List.take_of_length_le (by rw [List.length_map, hl a (outV out)]; exact Nat.le_refl _)
  cases out with
  | none =>
    simp only [reY]
    refine met_keep hk G c none hG hN0 hN trivial (fun p hp => ?_) e1 e2 (tk _) (hb _ rfl)
    simp only [os2, outO, List.append_nil] at hp
    rcases List.mem_cons.1 hp with rfl | hp
    · exact g6
    · obtain ⟨g, hg, rfl⟩ := List.mem_map.1 hp
      exact gg g hg
  | some q =>
    obtain ⟨y, m, cs⟩ := q
    obtain ⟨o1, o2, o3, o4⟩ := hok
    have go : h.get (256 * y + 255) = some (.cells cs) := by
      show h.tr.get _ = _
      rw [hH, mkHT_get]; exact os2_out hG o1 hex
    simp only [reY]
    split
    · rename_i hy
      subst hy
      refine met_o (nid := 256 * y + 255) hk G c [] hG hN0 h6 (fun p hp => by cases hp) hN Z2 m cs hZ3 hZ2.2 (.inr ⟨hZ.1, hZ2.1, hZ.2⟩) o4 g6 gg go (fun p hp => by cases hp) e1 e2 (fun ρ h1 h2 => ?_)
      rw [tk, hv ρ h1]
      simp only [outV, mapV, h2]
    · rename_i hy
      obtain ⟨n0, cs0, h0⟩ := (hfr y m cs rfl).resolve_left hy
      rw [h0] at ho0
      refine met_keep hk G c (some (y, m, cs)) hG hN0 hN ⟨ho0.1, _, o4⟩ (fun p hp => ?_) e1 e2 (tk _) (hb _ ?_)
      · simp only [os2, outO, List.nil_append] at hp
        rcases List.mem_append.1 hp with hp | hp
        · rcases List.mem_cons.1 hp with rfl | hp
          · exact g6
          · obtain ⟨g, hg, rfl⟩ := List.mem_map.1 hp
            exact gg g hg
        · simp only [List.mem_singleton] at hp
          subst hp
          exact go
      · simp only [outV, below]
        simpa using ho0.1
/-- What has been found is there. -/
theorem holdsX {G : List Snd} {c N : Nat} {out : Out} {L ex : List (Nat × AObj)} (hown : Own1 G) (hx : ∀ g ∈ G, g.x < 16777216) {Y : Nat} (ho : outOk Y out) (hL : far L = true) (h6 : L.lookup 6 = some (.map (G.map Snd.ent) c)) (hex : ∀ p ∈ ex, L.lookup p.1 = some p.2) : Holds ⟨N, mkXT (lf8 (mkHT (os2 G c [] out))) L⟩ (os2 G c ex out) := by
  intro p hp
  simp only [os2] at hp
  rcases List.mem_append.1 hp with hp | hp
  · rcases List.mem_cons.1 hp with rfl | hp
    · exact mkXT_get h6
    · obtain ⟨g, hg, rfl⟩ := List.mem_map.1 hp
      exact get_far hL (by rw [lf8_get, mkHT_get]; exact os2_obj hown hg)
  · rcases List.mem_append.1 hp with hp | hp
    · exact mkXT_get (hex p hp)
    · cases out with
      | none => simp [outO] at hp
      | some q =>
        obtain ⟨y, m, cs⟩ := q
        simp only [outO, List.mem_singleton] at hp
        subst hp
        refine (mkXT_hit (lookup_far hL)).trans ?_
        rw [lf8_get, mkHT_get]
        exact os2_out hx ho.1 rfl

/-! ### The loop over a table's grants -/
def hear12 (c : List AV) : Bool := Nat.beq c.length 1 && (isLst (c.getD 0 .undef) && true) && (rowOf1 c).all isBoolRow && Nat.ble (rowOf1 c).length 12
def grantC (row : List (List AV)) (l fr : Int) (gr : List AV) (G : List Snd) : Prop := ¬ fld gr 4 < fr → ∀ c, c < row.length → ¬ clashC row l (fld gr 2) (fld gr 0) (fld gr 1) G c
def inv6 (row : List (List AV)) (l fr : Int) (gs : List (List AV)) (G : List Snd) (out0 : Out) (k : Nat) (out : Out) : Prop := outOk 33554432 out ∧ outN out ≤ outN out0 + k * 12 ∧ (out = none → out0 = none ∧ ∀ j, j < k → grantC row l fr (gs.getD j []) G) ∧ yFrom 33554432 out0 out
def L9d : Option Nat → Env → AH → AQ → Prop := fun ro e h Q =>
  match ro, obs e td with
  | none, [some (.lst hs fh), some (.lst tbs ft), some (.int .i64 fr), some (.map 6), some ov, some (.lst tbs' ft'), some (.int .i64 m), some (.int .i64 li), some (.int .i64 l), some (.lst gs fg), some (.int .i64 gl), some (.int .i64 0)] =>
    (tbs' = tbs ∧ ft' = ft) ∧ req (Nat.beq e.n 125 && e.ds.isEmpty && Nat.beq h.next 8589934603) (req ((m == tbs.length) && (gl == gs.length) && short gs && gs.all (wf 5) && decide (0 ≤ l) && decide (l < hs.length) && hear12 (hs.getD l.toNat []))
      (∃ (G : List Snd) (c : Nat) (out : Out), PreO 16777216 500000000 G c [] out ov h ∧
        (∀ out', inv6 (rowOf1 (hs.getD l.toNat [])) l fr gs G out gs.length out' → Q (.exit 6) (mkE 125 (td.zip (vd hs tbs gs fh ft fg fr li l (outV out') gs.length))) (mkH 17179869184 (os2 G c [] out')))))
  | _, _ => False
theorem outOk.lt {Y N : Nat} {out : Out} (h : outOk Y out) (hN : 256 * Y + 255 < N) : outLt N out := by
  cases out with
  | none => trivial
  | some q => exact ⟨by have := h.2.1; omega, _, h.2.2.2⟩
theorem outOk.mono {Y Y' : Nat} {out : Out} (h : outOk Y out) (hN : Y ≤ Y') : outOk Y' out := by
  cases out with
  | none => trivial
  | some q => exact ⟨h.1, Nat.le_trans h.2.1 hN, h.2.2⟩
theorem outV_below {Y N : Nat} {out : Out} (h : outOk Y out) (hN : 256 * Y + 255 < N) : below N (outV out) = true := by
  cases out with
  | none => rfl
  | some q =>
    have := h.2.1
    simp only [outV, below, Nat.blt_eq]
    omega
theorem vd_below {N : Nat} (hN : 6 < N) (hs tbs gs : List (List AV)) (fh ft fg : Bool) (fr li l k : Int) (a : AV) (ha : below N a = true) : belowL N (vd hs tbs gs fh ft fg fr li l a k) = true := by
  simp only [vd, belowL, below, ha, Bool.and_self, Bool.and_true, Bool.true_and, Nat.blt_eq]
  exact hN
theorem vd_map (hs tbs gs : List (List AV)) (fh ft fg : Bool) (fr li l k : Int) {j : Nat} (hj : 6 < j) (ρ : Nat → Nat) (h : ∀ i, i < j → ρ i = i) (a : AV) : (vd hs tbs gs fh ft fg fr li l a k).map (fun x => some (mapV ρ x)) = (vd hs tbs gs fh ft fg fr li l (mapV ρ a) k).map some := by
  simp only [vd, List.map_cons, List.map_nil, mapV, h 6 hj]
theorem reY_ok {Z Z2 : Nat} {out0 out : Out} (hZ3 : 16777216 ≤ Z2) (h : outOk Z out) (hf : yFrom Z out0 out) (h0 : outOk Z2 out0) : outOk Z2 (reY Z Z2 out) := by
  cases out with
  | none => trivial
  | some q =>
    obtain ⟨y, n, cs⟩ := q
    simp only [reY]
    split
    · exact ⟨hZ3, Nat.le_refl _, h.2.2⟩
    · rename_i hy
      obtain ⟨n0, cs0, e⟩ := (hf y n cs rfl).resolve_left hy
      rw [e] at h0
      exact ⟨h.1, h0.2.1, h.2.2⟩
theorem reY_n (Z Z2 : Nat) (out : Out) : outN (reY Z Z2 out) = outN out := by cases out <;> rfl
theorem reY_none {Z Z2 : Nat} {out : Out} (h : reY Z Z2 out = none) : out = none := by
  cases out with
  | none => rfl
  | some q => cases h
theorem reY_from {Z Z2 : Nat} {out00 out0 out : Out} (h1 : yFrom Z out0 out) (h0 : yFrom Z2 out00 out0) : yFrom Z2 out00 (reY Z Z2 out) := by
  intro y n cs e
  cases out with
  | none => cases e
  | some q =>
    obtain ⟨y', n', cs'⟩ := q
    simp only [reY, Option.some.injEq, Prod.mk.injEq] at e
    obtain ⟨e, rfl, rfl⟩ := e
    split at e
    · exact .inl e.symm
    · rename_i hy
      subst e
      obtain ⟨n0, cs0, e⟩ := (h1 y' n' cs' rfl).resolve_left hy
      exact h0 y' n0 cs0 e
theorem L9dok {fn : Func} {body c : Code} (h1 : C.F 9 = some fn) (h2 : fn.body = some body) (h3 : codeAt body p9d = some (.loop c)) (ro : Option Nat) (e : Env) (h : AH) (Q : AQ) (hl : L9d ro e h Q) : ASem C ro (.loop c) Q e h := by
  have hloc := loc_of h1 h2 h3
  obtain rfl := loopAt_eq h1 h2 h3
  unfold L9d at hl
  split at hl
  · rename_i hs fh tbs ft fr ov tbs' ft' m li l gs fg gl hob
    obtain ⟨⟨rfl, rfl⟩, hl⟩ := hl
    simp only [req_iff, Bool.and_eq_true, List.isEmpty_iff, beq_iff_eq, decide_eq_true_eq] at hl
    obtain ⟨⟨⟨n1, n2⟩, n3⟩, ⟨⟨⟨⟨⟨⟨rfl, rfl⟩, hsh⟩, hwf⟩, hl0⟩, hl1⟩, hhear⟩, G, c, out0, ⟨hown, hGx, rfl, ho0, hn0, hH⟩, q1⟩ := hl
    have n1 := Nat.eq_of_beq_eq_true n1
    have n3 := Nat.eq_of_beq_eq_true n3
    have hsh := short_le hsh
    simp only [hear12, Bool.and_eq_true, rowOf1] at hhear
    obtain ⟨⟨⟨u1, u2⟩, u3⟩, u4⟩ := hhear
    have u1 := Nat.eq_of_beq_eq_true u1
    have u2 : (isLst ((hs.getD l.toNat []).getD 0 .undef) && true) = true := by simp only [Bool.and_eq_true]; exact u2
    have u5 := Nat.le_of_ble_eq_true u4
    obtain ⟨row, hrow⟩ : ∃ row, rowOf1 (hs.getD l.toNat []) = row := ⟨_, rfl⟩
    have hrow' : lstOf ((hs.getD l.toNat []).getD 0 .undef) = row := hrow
    rw [hrow] at q1
    rw [hrow'] at u3 u4 u5
    refine loop_idx (α := Out) (τ := Unit) 125 8589934603 17179869184 6 gs.length (by decide) td (fun k out => vd hs tbs' gs fh ft' fg fr li l (outV out) k) (fun _ out => os2 G c [] out)
      (fun k out => inv6 row l fr gs G out0 k out) (fun _ => []) (fun _ => []) (fun _ => False) (fun _ hx => by cases hx) ?_ n3 e out0 ⟨ho0.mono (by decide), Nat.le_refl _, fun hx => ⟨hx, fun c hc => by omega⟩, fun y n cs hx => .inr ⟨n, cs, hx⟩⟩
      (he_of_obs (by rw [hob]; rfl)) n1 n2 hH.sub (fun a ha => q1 a ha) (fun _ hf => hf.elim)
    intro k out hk hinv
    obtain ⟨b1, b2, b3, b4⟩ := hinv
    refine asem_toX (fs := [(6, .map (G.map Snd.ent) c)]) (fun j o hj => ?_) ?_
    · simp only [List.lookup_cons, List.lookup_nil] at hj
      split at hj
      · rename_i hb
        have : j = 6 := by simpa using hb
        subst this
        exact os2_six.trans hj
      · cases hj
    refine (wpOk hC mixed S9eok 1000).c _ _ _ _ _ _ hloc ?_
    show wpC C S9e 1000 none _ _ _ _ _
    rw [vc9d]
    have hkk : (k : Int).toNat = k := rfl
    have hk1 : IntKind.i64.wrap ((k : Int) + 1) = ((k + 1 : Nat) : Int) := by rw [w64 (n := (k : Int) + 1) (by omega) (by omega)]; rfl
    rw [cas_iff]
    constructor
    · intro hlt
      have hlt : k < gs.length := by simpa using hlt
      obtain ⟨hgl, hint⟩ := rowOf hwf hlt
      have i0 := hint 0 (by omega)
      have i1 := hint 1 (by omega)
      have i2 := hint 2 (by omega)
      have i3 := hint 3 (by omega)
      have i4 := hint 4 (by omega)
      have dk : (decide (0 ≤ (k : Int)) && decide ((k : Int) < (gs.length : Int))) = true := by simp; omega
      have dl : (decide (0 ≤ l) && decide (l < (hs.length : Int))) = true := by simp only [Bool.and_eq_true, decide_eq_true_eq]; exact ⟨hl0, hl1⟩
      have hb : ∀ a, below 17179869184 a = true → belowL 17179869184 (vd hs tbs' gs fh ft' fg fr li l a ((k + 1 : Nat) : Int)) = true := fun a ha => vd_below (by decide) _ _ _ _ _ _ _ _ _ _ a ha
      have hsame : ∀ (nx : Nat) (L : List (Nat × AObj)), 17179869184 ≤ nx → far L = true → L.lookup 6 = some (.map (G.map Snd.ent) c) → grantC row l fr (gs.getD k []) G → k < gs.length ∧ ∃ (a' : Out) (l' : List Nat), inv6 row l fr gs G out0 (k + 1) a' ∧ FixL 8589934603 l' ∧ l'.length = 17179869184 ∧ Met 125 l' (vd hs tbs' gs fh ft' fg fr li l (outV a') ((k + 1 : Nat) : Int)) (os2 G c [] a') 125 [] ((vd hs tbs' gs fh ft' fg fr li l (outV out) ((k + 1 : Nat) : Int)).map some) ⟨nx, mkXT (lf8 (mkHT (os2 G c [] out))) L⟩ := fun nx L hnx hL h6 hgr => by
        obtain ⟨l', m1, m2, m3⟩ := met_keep (k := 8589934603) (N := 17179869184) (n := 125) (by decide) (vs := vd hs tbs' gs fh ft' fg fr li l (outV out) ((k + 1 : Nat) : Int)) (ob := (vd hs tbs' gs fh ft' fg fr li l (outV out) ((k + 1 : Nat) : Int)).map some) (n' := 125) (ds := []) (h := ⟨nx, mkXT (lf8 (mkHT (os2 G c [] out))) L⟩) G c out hGx (by decide) hnx (b1.lt (by decide)) (holdsX hown hGx b1 hL h6 (fun p hp => by cases hp)) rfl rfl rfl (hb _ (outV_below b1 (by decide)))
        refine ⟨hlt, out, l', ⟨b1, by omega, fun hx => ⟨(b3 hx).1, fun j hj => ?_⟩, b4⟩, m1, m2, m3⟩
        rcases Nat.lt_or_ge j k with h5 | h5
        · exact (b3 hx).2 j h5
        · obtain rfl : j = k := by omega
          exact hgr
      simp only [req_iff, cas_iff, hkk, hgl, i0, i1, i2, i3, i4, dk, dl, u1, u2, hk1, hrow']
      refine ⟨trivial, rfl, rfl, rfl, fun hu => hsame 17179869195 _ (by decide) rfl rfl (fun hx => absurd (by simpa [fld] using hu) hx), fun hu => ⟨trivial, rfl, rfl, trivial, ⟨trivial, trivial⟩, ?_, G, c, out, ⟨hown, hGx, rfl, b1, by omega, ?_⟩, fun out' hi8 => ?_⟩⟩
      · simp only [u3, u4, beq_self_eq_true, Bool.and_self]
      · exact holdsX hown hGx b1 rfl rfl (fun p hp => by
          simp only [List.mem_singleton] at hp
          subst hp
          rfl)
      · obtain ⟨c1, c2, c3, c4⟩ := hi8
        obtain ⟨l', m1, m2, m3⟩ := met_back (k := 8589934603) (N := 17179869184) (n := 125) (Z := 67108864) (Z2 := 33554432) (by decide) (vs := fun a => vd hs tbs' gs fh ft' fg fr li l a ((k + 1 : Nat) : Int)) (n' := 125) (ds := []) (h := ⟨34359738370, mkHT (os2 G c (exE (fld (gs.getD k []) 0) (fld (gs.getD k []) 1) (fld (gs.getD k []) 2) (fld (gs.getD k []) 3) (fld (gs.getD k []) 4)) out')⟩) G c _ out out' hown hGx (by decide) (by decide) (show (17179869184 : Nat) ≤ 34359738370 by decide) rfl ⟨by decide, show (256 * 67108864 + 255 : Nat) < 34359738370 by decide⟩ (by decide) (by decide) c1 c4 (b1.lt (by decide)) rfl rfl rfl
          (fun ρ hρ a => vd_map _ _ _ _ _ _ _ _ _ _ (by decide) ρ hρ a) (fun a b => rfl) hb
        refine ⟨hlt, reY 67108864 33554432 out', l', ⟨reY_ok (by decide) c1 c4 b1, ?_, fun hx => ?_, reY_from c4 b4⟩, m1, m2, m3⟩
        · rw [reY_n]
          omega
        · obtain ⟨d1, d2⟩ := c3 (reY_none hx)
          obtain ⟨d3, d4⟩ := b3 d1
          refine ⟨d3, fun j hj => ?_⟩
          rcases Nat.lt_or_ge j k with h5 | h5
          · exact d4 j h5
          · obtain rfl : j = k := by omega
            exact fun _ => d2
    · intro hge
      obtain rfl : k = gs.length := by simp at hge; omega
      obtain ⟨l', m1, m2, m3⟩ := met_keep (k := 8589934603) (N := 17179869184) (n := 125) (by decide) (vs := vd hs tbs' gs fh ft' fg fr li l (outV out) gs.length) (ob := (vd hs tbs' gs fh ft' fg fr li l (outV out) gs.length).map some) (n' := 125) (ds := []) (h := ⟨17179869185, mkXT (lf8 (mkHT (os2 G c [] out))) [(6, .map (G.map Snd.ent) c)]⟩) G c out hGx (by decide) (show (17179869184 : Nat) ≤ 17179869185 by decide) (b1.lt (by decide)) (holdsX hown hGx b1 rfl rfl (fun p hp => by cases hp)) rfl rfl rfl (vd_below (by decide) _ _ _ _ _ _ _ _ _ _ _ (outV_below b1 (by decide)))
      exact ⟨rfl, l', ⟨b1, b2, b3, b4⟩, m1, m2, m3⟩
  · exact hl.elim
/-! ### The loop over the tables -/
def S9d : Specs := .plain P1 (fun loc => match loc with
  | some (9, [false, true, true, false, false, true, true, false, false, true, false, true, true, true, true, true]) => some L9d
  | _ => none)
theorem S9dok : SpecsOk C S9d := by
  refine .of P1ok rfl rfl (fun f p spec h fn body c h1 h2 h3 ro e h' Q hl => ?_)
  simp only [S9d, Specs.plain] at h
  split at h <;> (try (cases h; done)) <;> (rename_i heq; simp only [Option.some.injEq, Prod.mk.injEq] at heq; obtain ⟨rfl, rfl⟩ := heq; injection h with h; subst h)
  exact L9dok h1 h2 h3 ro e h' Q hl
abbrev tc : List Nat := [0, 1, 2, 7, 12, 63, 64, 65]
abbrev vc (hs tbs : List (List AV)) (fh ft : Bool) (fr : Int) (ov : AV) (k : Int) : List AV := [.lst hs fh, .lst tbs ft, .i fr, .map 6, ov, .lst tbs ft, .i tbs.length, .i k]
theorem vc9c (hs tbs : List (List AV)) (fh ft : Bool) (fr k : Int) (ov : AV) (es : List (AV × AV × Nat)) (clk : Nat) (X : Tr AObj) (K : KT) : (wpC C S9d 1000 none (some (9, false :: p9c)) (loopAt 9 p9c) (kobs tc K) (mkE 125 (tc.zip (vc hs tbs fh ft fr ov k))) (mkX 8589934592 X [(6, .map es clk)])) = (cas (decide (k < (↑tbs.length : Int)))
  (req (decide (0 ≤ k) && decide (k < (↑tbs.length : Int)))
    (req ((tbs.getD k.toNat []).length.beq 3)
      (req (Nat.ble 3 (tbs.getD k.toNat []).length)
        (req (isLst ((tbs.getD k.toNat []).getD 0 (AV.tup [])) && (isLst ((tbs.getD k.toNat []).getD 1 (AV.tup [])) && (isLst ((tbs.getD k.toNat []).getD 2 (AV.tup [])) && true)))
          ((tbs = tbs ∧ ft = ft) ∧
            req
              ((↑tbs.length : Int) == (↑tbs.length : Int) && (↑(lstOf ((tbs.getD k.toNat []).getD 1 (AV.tup []))).length : Int) == (↑(lstOf ((tbs.getD k.toNat []).getD 1 (AV.tup []))).length : Int) &&
                        short (lstOf ((tbs.getD k.toNat []).getD 1 (AV.tup []))) &&
                      (lstOf ((tbs.getD k.toNat []).getD 1 (AV.tup []))).all (wf 5) &&
                    decide (0 ≤ k) &&
                  decide (k < (↑hs.length : Int)) &&
                hear12 (hs.getD k.toNat []))
              (∃ (G : List Snd),
                ∃ (c : Nat),
                  ∃ (out : Out),
                    PreO 16777216 500000000 G c [] out ov
                        { next := 8589934603,
                          tr :=
                            mkXT X
                              [(8589934596,
                                  AObj.cells
                                    [AV.lst (lstOf ((tbs.getD k.toNat []).getD 0 (AV.tup []))) (fullOf ((tbs.getD k.toNat []).getD 0 (AV.tup []))),
                                      AV.lst (lstOf ((tbs.getD k.toNat []).getD 1 (AV.tup []))) (fullOf ((tbs.getD k.toNat []).getD 1 (AV.tup []))),
                                      AV.lst (lstOf ((tbs.getD k.toNat []).getD 2 (AV.tup []))) (fullOf ((tbs.getD k.toNat []).getD 2 (AV.tup [])))]),
                                (6, AObj.map es clk)] } ∧
                      ∀ (out' : Out),
                        inv6 (rowOf1 (hs.getD k.toNat [])) k fr (lstOf ((tbs.getD k.toNat []).getD 1 (AV.tup []))) G out (lstOf ((tbs.getD k.toNat []).getD 1 (AV.tup []))).length out' →
                          K AX.normal 125 []
                            [some (AV.lst hs fh), some (AV.lst tbs ft), some (AV.int IntKind.i64 fr), some (AV.map 6), some (outV out'), some (AV.lst tbs ft),
                              some (AV.int IntKind.i64 (↑tbs.length : Int)), some (AV.int IntKind.i64 (IntKind.i64.wrap (k + 1)))]
                            { next := 17179869186, tr := mkHT (os2 G c [] out') }))))))
  (K (AX.exit 4) 125 []
    [some (AV.lst hs fh), some (AV.lst tbs ft), some (AV.int IntKind.i64 fr), some (AV.map 6), some ov, some (AV.lst tbs ft), some (AV.int IntKind.i64 (↑tbs.length : Int)),
      some (AV.int IntKind.i64 k)]
    { next := 8589934593, tr := mkXT X [(6, AObj.map es clk)] })) := by kernel_rfl

def inv4 (hs tbs : List (List AV)) (fr : Int) (G : List Snd) (k : Nat) (out : Out) : Prop := outOk 16777216 out ∧ outN out ≤ k * 12582912 ∧ (out = none → ∀ i, i < k → ∀ j, j < (grantsOf (tbs.getD i [])).length → grantC (rowOf1 (hs.getD i [])) i fr ((grantsOf (tbs.getD i [])).getD j []) G) ∧ yFrom 16777216 none out
def L9c : Option Nat → Env → AH → AQ → Prop := fun ro e h Q =>
  match ro, obs e tc with
  | none, [some (.lst hs fh), some (.lst tbs ft), some (.int .i64 fr), some (.map 6), some .snil, some (.lst tbs' ft'), some (.int .i64 m), some (.int .i64 0)] =>
    (tbs' = tbs ∧ ft' = ft) ∧ req (Nat.beq e.n 125 && e.ds.isEmpty && Nat.beq h.next 4294967300) (req ((m == tbs.length) && Nat.ble tbs.length 12 && Nat.beq hs.length tbs.length && tbs.all tabOk && hs.all (hearOk tbs.length))
      (∃ (G : List Snd) (c : Nat), PreO 16777216 0 G c [] none .snil h ∧
        (∀ out', inv4 hs tbs fr G tbs.length out' → Q (.exit 4) (mkE 125 (tc.zip (vc hs tbs fh ft fr (outV out') tbs.length))) (mkH 8589934592 (os2 G c [] out')))))
  | _, _ => False
theorem hear12_of {n : Nat} {c : List AV} (h : hearOk n c = true) (hn : n ≤ 12) : hear12 c = true := by
  simp only [hearOk, hear12, Bool.and_eq_true] at h ⊢
  obtain ⟨⟨⟨h1, h2⟩, h3⟩, h4⟩ := h
  have h3 := Nat.eq_of_beq_eq_true h3
  exact ⟨⟨⟨h1, h2⟩, h4⟩, Nat.ble_eq_true_of_le (by omega)⟩
theorem vc_below {N : Nat} (hN : 6 < N) (hs tbs : List (List AV)) (fh ft : Bool) (fr k : Int) (a : AV) (ha : below N a = true) : belowL N (vc hs tbs fh ft fr a k) = true := by
  simp only [vc, belowL, below, ha, Bool.and_self, Bool.and_true, Bool.true_and, Nat.blt_eq]
  exact hN
theorem vc_map (hs tbs : List (List AV)) (fh ft : Bool) (fr k : Int) {j : Nat} (hj : 6 < j) (ρ : Nat → Nat) (h : ∀ i, i < j → ρ i = i) (a : AV) : (vc hs tbs fh ft fr a k).map (fun x => some (mapV ρ x)) = (vc hs tbs fh ft fr (mapV ρ a) k).map some := by
  simp only [vc, List.map_cons, List.map_nil, mapV, h 6 hj]
theorem L9cok {fn : Func} {body c : Code} (h1 : C.F 9 = some fn) (h2 : fn.body = some body) (h3 : codeAt body p9c = some (.loop c)) (ro : Option Nat) (e : Env) (h : AH) (Q : AQ) (hl : L9c ro e h Q) : ASem C ro (.loop c) Q e h := by
  have hloc := loc_of h1 h2 h3
  obtain rfl := loopAt_eq h1 h2 h3
  unfold L9c at hl
  split at hl
  · rename_i hs fh tbs ft fr tbs' ft' m hob
    obtain ⟨⟨rfl, rfl⟩, hl⟩ := hl
    simp only [req_iff, Bool.and_eq_true, List.isEmpty_iff, beq_iff_eq] at hl
    obtain ⟨⟨⟨n1, n2⟩, n3⟩, ⟨⟨⟨⟨rfl, hle⟩, hhl⟩, htab⟩, hhear⟩, G, c, ⟨hown, hGx, _, _, _, hH⟩, q1⟩ := hl
    have n1 := Nat.eq_of_beq_eq_true n1
    have n3 := Nat.eq_of_beq_eq_true n3
    have hle := Nat.le_of_ble_eq_true hle
    have hhl := Nat.eq_of_beq_eq_true hhl
    refine loop_idx (α := Out) (τ := Unit) 125 4294967300 8589934592 4 tbs'.length (by decide) tc (fun k out => vc hs tbs' fh ft' fr (outV out) k) (fun _ out => os2 G c [] out)
      (fun k out => inv4 hs tbs' fr G k out) (fun _ => []) (fun _ => []) (fun _ => False) (fun _ hx => by cases hx) ?_ n3 e none ⟨trivial, Nat.zero_le _, fun hx i hi => by omega, fun y n cs hx => (by cases hx)⟩
      (he_of_obs (by rw [hob]; rfl)) n1 n2 hH.sub (fun a ha => q1 a ha) (fun _ hf => hf.elim)
    intro k out hk hinv
    obtain ⟨b1, b2, b3, b4⟩ := hinv
    refine asem_toX (fs := [(6, .map (G.map Snd.ent) c)]) (fun j o hj => ?_) ?_
    · simp only [List.lookup_cons, List.lookup_nil] at hj
      split at hj
      · rename_i hb
        have : j = 6 := by simpa using hb
        subst this
        exact os2_six.trans hj
      · cases hj
    refine (wpOk hC mixed S9dok 1000).c _ _ _ _ _ _ hloc ?_
    show wpC C S9d 1000 none _ _ _ _ _
    rw [vc9c]
    have hkk : (k : Int).toNat = k := rfl
    have hk1 : IntKind.i64.wrap ((k : Int) + 1) = ((k + 1 : Nat) : Int) := by rw [w64 (n := (k : Int) + 1) (by omega) (by omega)]; rfl
    rw [cas_iff]
    constructor
    · intro hlt
      have hlt : k < tbs'.length := by simpa using hlt
      have ht := all_getD htab hlt []
      have hh := hear12_of (all_getD hhear (show k < hs.length by omega) []) hle
      simp only [tabOk, Bool.and_eq_true, usesOf, grantsOf] at ht
      obtain ⟨⟨⟨⟨⟨t1, t2⟩, t3⟩, t4⟩, t5⟩, t6⟩ := ht
      have t1 := Nat.eq_of_beq_eq_true t1
      have t2 : (isLst ((tbs'.getD k []).getD 0 .undef) && (isLst ((tbs'.getD k []).getD 1 .undef) && (isLst ((tbs'.getD k []).getD 2 .undef) && true))) = true := by simp only [Bool.and_eq_true]; exact t2
      have dk : ∀ m : Nat, m = tbs'.length → (decide (0 ≤ (k : Int)) && decide ((k : Int) < (m : Int))) = true := fun m hm => by subst hm; simp; omega
      have hb : ∀ a, below 8589934592 a = true → belowL 8589934592 (vc hs tbs' fh ft' fr a ((k + 1 : Nat) : Int)) = true := fun a ha => vc_below (by decide) _ _ _ _ _ _ a ha
      simp only [req_iff, hkk, t1, t2, dk _ rfl, hk1]
      refine ⟨trivial, rfl, rfl, trivial, ⟨trivial, trivial⟩, ?_, G, c, out, ⟨hown, hGx, rfl, b1, by omega, ?_⟩, fun out' hi6 => ?_⟩
      · have d1 : decide (0 ≤ (k : Int)) = true := decide_eq_true (by omega)
        have d2 : decide ((k : Int) < (hs.length : Int)) = true := decide_eq_true (by omega)
        simp only [t5, t6, hh, d1, d2, beq_self_eq_true, Bool.and_self]
      · exact holdsX hown hGx b1 rfl rfl (fun p hp => by cases hp)
      · obtain ⟨c1, c2, c3, c4⟩ := hi6
        have hg5 : (lstOf ((tbs'.getD k []).getD 1 .undef)).length ≤ 1048576 := short_le t5
        have c2 : outN out' ≤ outN out + (lstOf ((tbs'.getD k []).getD 1 .undef)).length * 12 := c2
        obtain ⟨l', m1, m2, m3⟩ := met_back (k := 4294967300) (N := 8589934592) (n := 125) (Z := 33554432) (Z2 := 16777216) (by decide) (vs := fun a => vc hs tbs' fh ft' fr a ((k + 1 : Nat) : Int)) (n' := 125) (ds := []) (h := ⟨17179869186, mkHT (os2 G c [] out')⟩) G c [] out out' hown hGx (by decide) (by decide) (show (8589934592 : Nat) ≤ 17179869186 by decide) rfl ⟨by decide, show (256 * 33554432 + 255 : Nat) < 17179869186 by decide⟩ (by decide) (by decide) c1 c4 (b1.lt (by decide)) rfl rfl rfl
          (fun ρ hρ a => vc_map _ _ _ _ _ _ (by decide) ρ hρ a) (fun a b => rfl) hb
        refine ⟨hlt, reY 33554432 16777216 out', l', ⟨reY_ok (by decide) c1 c4 b1, ?_, fun hx => ?_, reY_from c4 b4⟩, m1, m2, m3⟩
        · rw [reY_n]
          omega
        · obtain ⟨d1, d2⟩ := c3 (reY_none hx)
          intro i hi
          rcases Nat.lt_or_ge i k with h5 | h5
          · exact b3 d1 i h5
          · obtain rfl : i = k := by omega
            exact d2
    · intro hge
      obtain rfl : k = tbs'.length := by simp at hge; omega
      obtain ⟨l', m1, m2, m3⟩ := met_keep (k := 4294967300) (N := 8589934592) (n := 125) (by decide) (vs := vc hs tbs' fh ft' fr (outV out) tbs'.length) (ob := (vc hs tbs' fh ft' fr (outV out) tbs'.length).map some) (n' := 125) (ds := []) (h := ⟨8589934593, mkXT (lf8 (mkHT (os2 G c [] out))) [(6, .map (G.map Snd.ent) c)]⟩) G c out hGx (by decide) (show (8589934592 : Nat) ≤ 8589934593 by decide) (b1.lt (by decide)) (holdsX hown hGx b1 rfl rfl (fun p hp => by cases hp)) rfl rfl rfl (vc_below (by decide) _ _ _ _ _ _ _ (outV_below b1 (by decide)))
      exact ⟨rfl, l', ⟨b1, b2, b3, b4⟩, m1, m2, m3⟩
  · exact hl.elim

def S9 : Specs := .plain P1 (fun loc => match loc with
  | some (9, [false, true, false, true, true, true]) => some L9a
  | some (9, [false, true, false, true, true, true, true, true]) => some L9c
  | _ => none)
theorem S9ok : SpecsOk C S9 := by
  refine .of P1ok rfl rfl (fun f p spec h fn body c h1 h2 h3 ro e h' Q hl => ?_)
  simp only [S9, Specs.plain] at h
  split at h <;> (try (cases h; done)) <;> (rename_i heq; simp only [Option.some.injEq, Prod.mk.injEq] at heq; obtain ⟨rfl, rfl⟩ := heq; injection h with h; subst h)
  · exact L9aok h1 h2 h3 ro e h' Q hl
  · exact L9cok h1 h2 h3 ro e h' Q hl
theorem vcf9 (hs tbs : List (List AV)) (fh ft : Bool) (fr : Int) (K : AV → AH → Prop) : (wpF C S9 1000 9 [.lst hs fh, .lst tbs ft, .i fr] (retR K) ⟨0, .nil⟩) = (cas ((↑hs.length : Int) != (↑tbs.length : Int)) (K AV.snil { next := 7, tr := Tr.nil })
  ((tbs = tbs ∧ ft = ft) ∧
    req ((↑tbs.length : Int) == (↑tbs.length : Int) && tbs.length.ble 12 && hs.length.beq tbs.length && tbs.all tabOk && hs.all (hearOk tbs.length))
      (∀ (G : List Snd) (c : Nat),
        sendersOk tbs tbs.length G →
          (tbs = tbs ∧ ft = ft) ∧
            req ((↑tbs.length : Int) == (↑tbs.length : Int) && tbs.length.ble 12 && hs.length.beq tbs.length && tbs.all tabOk && hs.all (hearOk tbs.length))
              (∃ (G_1 : List Snd),
                ∃ (c_1 : Nat),
                  PreO 16777216 0 G_1 c_1 [] none AV.snil { next := 4294967300, tr := mkHT (sObjs G c) } ∧
                    ∀ (out' : Out), inv4 hs tbs fr G_1 tbs.length out' → K (outV out') { next := 8589934594, tr := mkHT (os2 G_1 c_1 [] out') })))) := by kernel_rfl

/-- No listener hears another one than its peer in a cell that the other one uses. -/
def NoClash (hs tbs : List (List AV)) (fr : Int) : Prop := ∀ l, l < tbs.length → ∀ j, j < (grantsOf (tbs.getD l [])).length → ¬ fld ((grantsOf (tbs.getD l [])).getD j []) 4 < fr →
  ∀ c, c < tbs.length → boolOf (((rowOf1 (hs.getD l [])).getD c []).getD 0 .undef) = true → c ≠ l → (c : Int) ≠ fld ((grantsOf (tbs.getD l [])).getD j []) 2 →
    ∀ u, u < (usesOf (tbs.getD c [])).length → ¬ (fld ((usesOf (tbs.getD c [])).getD u []) 0 = fld ((grantsOf (tbs.getD l [])).getD j []) 0 ∧ fld ((usesOf (tbs.getD c [])).getD u []) 1 = fld ((grantsOf (tbs.getD l [])).getD j []) 1)
theorem snap_rows {h : AH} {id n : Nat} {cs : List AV} (hg : h.get id = some (.cells cs)) (hc : okCs (n * 5) cs = true) : Snap h (.sl id 0 n n (some 5)) (.lst (chunk 5 n cs) false) := by
  have hl := okCs_len hc
  obtain ⟨k1, k2⟩ := chunk_flat 5 n cs hl
  rw [show false = ((some 5 : Option Nat).isNone && n == n) by simp]
  refine .sl id 0 n n (some 5) cs 5 _ hg (by omega) (chunk_len _ _ _) k2 ?_
  rw [k1, List.drop_zero, List.take_of_length_le (by omega)]
  refine .free ?_
  rw [idfreeL_iff]
  intro x hx
  simp only [okCs, Bool.and_eq_true, List.all_eq_true] at hc
  have := hc.2 x hx
  cases x <;> simp [isInt] at this
  rfl
theorem t9 (hs tbs : List (List AV)) (fh ft : Bool) (fr : Int) (K : AV → Prop) (hle : tbs.length ≤ 12) (hl : hs.length = tbs.length) (htab : tbs.all tabOk = true) (hhear : hs.all (hearOk tbs.length) = true) (hK : ∀ es f, (es = [] → NoClash hs tbs fr) → K (.lst es f)) :
    ATold C 9 [.lst hs fh, .lst tbs ft, .i fr] K := by
  refine atold_wp hC mixed S9ok (n := 1000) rfl ?_
  rw [vcf9]
  have c1 : ((hs.length : Int) != (tbs.length : Int)) = false := by rw [hl]; simp
  have c2 : ((tbs.length : Int) == (tbs.length : Int) && tbs.length.ble 12 && hs.length.beq tbs.length && tbs.all tabOk && hs.all (hearOk tbs.length)) = true := by
    simp only [Bool.and_eq_true, htab, hhear, beq_self_eq_true, and_true]
    exact ⟨⟨trivial, Nat.ble_eq_true_of_le hle⟩, by rw [hl]; exact Nat.beq_refl _⟩
  rw [c1]
  simp only [cas_iff, req_iff, c2]
  refine ⟨fun hx => (by cases hx), fun _ => ⟨⟨trivial, trivial⟩, trivial, fun G c hG => ⟨⟨trivial, trivial⟩, trivial, G, c, ?_, fun out ho => ?_⟩⟩⟩
  · obtain ⟨g1, g2, g3⟩ := hG
    have hown : Own1 G := fun i j a b ha hb e => by
      rw [g2 i a ha, g2 j b hb] at e; exact e
    refine ⟨hown, fun g hg => ?_, rfl, trivial, Nat.le_refl _, fun p hp => ?_⟩
    · obtain ⟨j, hj, rfl⟩ := List.mem_iff_getElem.1 hg
      have := g2 j _ (List.getElem?_eq_getElem hj)
      have : tbs.length * 1048576 ≤ 12 * 1048576 := Nat.mul_le_mul_right _ hle
      omega
    · show (mkHT (sObjs G c)).get _ = _
      rw [mkHT_get]
      simp only [os2, outO, List.append_nil] at hp
      rcases List.mem_cons.1 hp with rfl | hp
      · simp only [sObjs, List.lookup_cons, BEq.rfl]
      · obtain ⟨g, hg, rfl⟩ := List.mem_map.1 hp
        exact lookup_obj hown hg
  · obtain ⟨b1, b2, b3, b4⟩ := ho
    obtain ⟨g1, g2, g3⟩ := hG
    have hGx : ∀ g ∈ G, g.x < 16777216 := fun g hg => by
      obtain ⟨j, hj, rfl⟩ := List.mem_iff_getElem.1 hg
      have := g2 j _ (List.getElem?_eq_getElem hj)
      have : tbs.length * 1048576 ≤ 12 * 1048576 := Nat.mul_le_mul_right _ hle
      omega
    cases out with
    | none =>
      refine ⟨.lst [] true, .nil, hK _ _ fun _ => ?_⟩
      intro l hll j hj hfr c hc hb hcl hcp u hu he
      have hrl := all_getD hhear (show l < hs.length by omega) []
      simp only [hearOk, Bool.and_eq_true] at hrl
      have hrl := Nat.eq_of_beq_eq_true hrl.1.2
      refine b3 rfl l hll j hj hfr c (by omega) ⟨hb, by omega, hcp, ?_⟩
      have := g3 c hc u hu
      rw [he.1, he.2] at this
      exact this
    | some q =>
      obtain ⟨y, n, cs⟩ := q
      obtain ⟨o1, o2, o3, o4⟩ := b1
      refine ⟨.lst (chunk 5 n cs) false, snap_rows ?_ o4, hK _ _ fun hx => ?_⟩
      · show (mkHT (os2 G c [] (some (y, n, cs)))).get _ = _
        rw [mkHT_get]
        exact os2_out hGx o1 rfl
      · have := congrArg List.length hx
        rw [chunk_len] at this
        simp only [List.length_nil] at this
        omega
end Go.Am.Cells
