/- TopCellsOnAir: the law itself: all nodes' actions. -/
import Derived.Test.YtpkljgaokgfpnaaGreatDoorMain2
set_option maxRecDepth 1000000
set_option linter.unusedVariables false
set_option linter.unusedSimpArgs false
set_option linter.unusedSectionVars false
namespace Go.Am.Cells
open Go Go.Am
def S3b : Specs := .plain P4 (fun loc => match loc with
  | some (3, [false, true, false, true, true, false, false, true, true, false, false, true, false, true, true, true, true, true, true, true, true, true, true, true]) => some L3u
  | some (3, [false, true, true, true, true, false, false, true, true, false, false, true, false, true, true, true, true, true, true, true, true, true, true, true]) => some L3g
  | _ => none)
theorem S3bok (hHead : APure C 4 [] (.bool true)) : SpecsOk C S3b := by
  have S4ok : SpecsOk C S4 := .of (P4ok hHead) rfl rfl (fun _ _ _ h => (by cases h))
  refine .of (P4ok hHead) rfl rfl (fun f p spec h fn body c h1 h2 h3 ro e h' Q hl => ?_)
  simp only [S3b, Specs.plain] at h
  split at h <;> (try (cases h; done)) <;> (rename_i heq; simp only [Option.some.injEq, Prod.mk.injEq] at heq; obtain ⟨rfl, rfl⟩ := heq; injection h with h; subst h)
  · exact L3uok S4ok h1 h2 h3 ro e h' Q hl
  · exact L3gok S4ok h1 h2 h3 ro e h' Q hl
abbrev t3b : List Nat := [1, 2, 3, 12, 13, 14, 19, 20, 21, 22, 23, 132, 133, 134]
abbrev v3b (tbs ps : List (List AV)) (ft fp : Bool) (r fr s asn : Int) (n : Nat) (k : Int) : List AV := [.lst tbs ft, .lst ps fp, .i r, .bool false, .bool true, .i tbs.length, .i fr, .i s, .i asn, .sl 78 0 n n none, .sl 80 0 n n none, .lst tbs ft, .i tbs.length, .i k]
theorem vc3b (tbs ps : List (List AV)) (ft fp : Bool) (r fr s asn k : Int) (n : Nat) (cs qs : List AV) (K : KT2) : (wpC C S3b 1000 none (some (3, false :: p3b)) (loopAt 3 p3b) (kobs2 t3b [78, 80] K) (mkE 302 (t3b.zip (v3b tbs ps ft fp r fr s asn n k))) (mkH 86 (List.zip [78, 80] [.cells cs, .cells qs]))) = (cas (decide (k < (↑tbs.length : Int)))
  (req (decide (0 ≤ k) && decide (k < (↑tbs.length : Int)))
    (req ((tbs.getD k.toNat []).length.beq 3)
      (req (Nat.ble 3 (tbs.getD k.toNat []).length)
        (req (isLst ((tbs.getD k.toNat []).getD 0 (AV.tup [])) && (isLst ((tbs.getD k.toNat []).getD 1 (AV.tup [])) && (isLst ((tbs.getD k.toNat []).getD 2 (AV.tup [])) && true)))
          (req (decide (0 ≤ k) && decide (k < (↑n : Int)))
            (req ((0 + k.toNat * 1 + 1).ble qs.length)
              ((tbs = tbs ∧ ft = ft ∧ k = k) ∧
                req
                  (((↑tbs.length : Int) == (↑tbs.length : Int) && (↑tbs.length : Int) == (↑tbs.length : Int) &&
                                            (↑(lstOf ((tbs.getD k.toNat []).getD 0 (AV.tup []))).length : Int) == (↑(lstOf ((tbs.getD k.toNat []).getD 0 (AV.tup []))).length : Int) &&
                                          n.beq n &&
                                        n.beq n &&
                                      n.beq n &&
                                    decide (0 ≤ k) &&
                                  decide (k < (↑n : Int)) &&
                                short (lstOf ((tbs.getD k.toNat []).getD 0 (AV.tup []))) &&
                              (lstOf ((tbs.getD k.toNat []).getD 0 (AV.tup []))).all (wf 4) &&
                            (lstOf ((tbs.getD k.toNat []).getD 0 (AV.tup []))).all fun (u : List AV) => decide (0 ≤ fld u 1) && decide (fld u 1 < 16)) &&
                          decide (0 ≤ asn) &&
                        decide (asn ≤ 1000000000) &&
                      okCs (n * 5) cs &&
                    okCs n (splice qs (0 + k.toNat * 1) [AV.int IntKind.i64 (-1)]))
                  (∀ (cs' : List AV),
                    invU (lstOf ((tbs.getD k.toNat []).getD 0 (AV.tup []))) s asn n k.toNat cs cs' →
                      (tbs = tbs ∧ ft = ft ∧ k = k) ∧
                        req
                          (((↑tbs.length : Int) == (↑tbs.length : Int) && (↑tbs.length : Int) == (↑tbs.length : Int) &&
                                                    (↑(lstOf ((tbs.getD k.toNat []).getD 1 (AV.tup []))).length : Int) == (↑(lstOf ((tbs.getD k.toNat []).getD 1 (AV.tup []))).length : Int) &&
                                                  n.beq n &&
                                                n.beq n &&
                                              n.beq n &&
                                            decide (0 ≤ k) &&
                                          decide (k < (↑n : Int)) &&
                                        short (lstOf ((tbs.getD k.toNat []).getD 1 (AV.tup []))) &&
                                      (lstOf ((tbs.getD k.toNat []).getD 1 (AV.tup []))).all (wf 5) &&
                                    (lstOf ((tbs.getD k.toNat []).getD 1 (AV.tup []))).all fun (u : List AV) => decide (0 ≤ fld u 1) && decide (fld u 1 < 16)) &&
                                  decide (0 ≤ asn) &&
                                decide (asn ≤ 1000000000) &&
                              okCs (n * 5) cs' &&
                            okCs n (splice qs (0 + k.toNat * 1) [AV.int IntKind.i64 (-1)]))
                          (∀ (cs'_1 qs' : List AV),
                            invG (lstOf ((tbs.getD k.toNat []).getD 1 (AV.tup []))) s asn fr n k.toNat cs' (splice qs (0 + k.toNat * 1) [AV.int IntKind.i64 (-1)]) cs'_1 qs' →
                              K AX.normal 302 []
                                [some (AV.lst tbs ft), some (AV.lst ps fp), some (AV.int IntKind.i64 r), some (AV.bool false), some (AV.bool true), some (AV.int IntKind.i64 (↑tbs.length : Int)),
                                  some (AV.int IntKind.i64 fr), some (AV.int IntKind.i64 s), some (AV.int IntKind.i64 asn), some (AV.sl 78 0 n n none), some (AV.sl 80 0 n n none),
                                  some (AV.lst tbs ft), some (AV.int IntKind.i64 (↑tbs.length : Int)), some (AV.int IntKind.i64 (IntKind.i64.wrap (k + 1)))]
                                [some (AObj.cells cs'_1), some (AObj.cells qs')] 107)))))))))
  (K (AX.exit 2) 302 []
    [some (AV.lst tbs ft), some (AV.lst ps fp), some (AV.int IntKind.i64 r), some (AV.bool false), some (AV.bool true), some (AV.int IntKind.i64 (↑tbs.length : Int)), some (AV.int IntKind.i64 fr),
      some (AV.int IntKind.i64 s), some (AV.int IntKind.i64 asn), some (AV.sl 78 0 n n none), some (AV.sl 80 0 n n none), some (AV.lst tbs ft), some (AV.int IntKind.i64 (↑tbs.length : Int)),
      some (AV.int IntKind.i64 k)]
    [some (AObj.cells cs), some (AObj.cells qs)] 87)) := by kernel_rfl

theorem mkTE_snap {h : AH} : ∀ {ts : List Nat} {xs ys : List AV}, SnapL h xs ys → ∀ t y, (mkTE (ts.zip ys)).get t = some y → ∃ x, (mkTE (ts.zip xs)).get t = some x ∧ Snap h x y
  | [], _, _, _, t, y, hy => by simp [mkTE, Tr.get] at hy
  | _ :: _, _, _, .nil, t, y, hy => by simp [mkTE, Tr.get] at hy
  | s :: ts, _, _, .cons x z xs ys h1 h2, t, y, hy => by
    simp only [List.zip_cons_cons, mkTE, Tr.get_put] at hy ⊢
    split at hy
    · rename_i e
      injection hy with hy; subst hy
      exact ⟨x, by rw [if_pos e], h1⟩
    · rename_i e
      obtain ⟨x', k1, k2⟩ := mkTE_snap (ts := ts) h2 t y hy
      exact ⟨x', by rw [if_neg e]; exact k1, k2⟩
theorem chunk_get : ∀ (n : Nat) (cs : List AV) (i : Nat), cs.length = n * 5 → i < n → (chunk 5 n cs).getD i [] = rowA cs i
  | 0, _, _, _, h => by omega
  | n + 1, cs, 0, _, _ => by simp [chunk, rowA]
  | n + 1, cs, i + 1, hl, h => by
    have := chunk_get n (cs.drop 5) i (by rw [List.length_drop, hl]; omega) (by omega)
    simp only [chunk, List.getD_cons_succ, this, rowA, List.drop_drop]
    congr 2
    omega
theorem snap_rows5 {h : AH} {id n : Nat} {cs : List AV} (hg : h.get id = some (.cells cs)) (hc : okCs (n * 5) cs = true) : Snap h (.sl id 0 n n none) (.lst (chunk 5 n cs) true) := by
  have hl := okCs_len hc
  obtain ⟨k1, k2⟩ := chunk_flat 5 n cs hl
  rw [show true = ((none : Option Nat).isNone && n == n) by simp]
  refine .sl id 0 n n none cs 5 _ hg (by omega) (chunk_len _ _ _) k2 ?_
  rw [k1, List.drop_zero, List.take_of_length_le (by omega)]
  refine .free ?_
  rw [idfreeL_iff]
  intro x hx
  simp only [okCs, Bool.and_eq_true, List.all_eq_true] at hc
  have := hc.2 x hx
  cases x <;> simp [isInt] at this
  rfl
def idle : List AV := [.i 0, .i 0, .i 0, .i 0, .i 0]
/-- What a node does in the slot, and with whom. -/
def actS (us gs : List (List AV)) (s asn fr : Int) (row : List AV) (q : Int) : Prop := ∃ row0, sendP us s asn idle row0 ∧ listenP gs s asn fr row0 (-1) row q
def invB (tbs : List (List AV)) (s asn fr : Int) (k : Nat) (cs qs : List AV) : Prop := okCs (tbs.length * 5) cs = true ∧ okCs tbs.length qs = true ∧ (∀ i, i < k → i < tbs.length → actS (usesOf (tbs.getD i [])) (grantsOf (tbs.getD i [])) s asn fr (rowA cs i) (fld qs i)) ∧ (∀ i, k ≤ i → i < tbs.length → rowA cs i = idle)
def actsP (tbs : List (List AV)) (s asn fr : Int) (acts prt : List (List AV)) : Prop := acts.length = tbs.length ∧ prt.length = tbs.length ∧ acts.all (wf 5) = true ∧ prt.all (wf 1) = true ∧ ∀ i, i < tbs.length → actS (usesOf (tbs.getD i [])) (grantsOf (tbs.getD i [])) s asn fr (acts.getD i []) (fld (prt.getD i []) 0)
abbrev v3f (tbs ps acts prt : List (List AV)) (ft fp : Bool) (r fr s asn : Int) (k : Int) : List AV := [.lst tbs ft, .lst ps fp, .i r, .bool false, .bool true, .i tbs.length, .i fr, .i s, .i asn, .lst acts true, .lst prt true, .lst tbs ft, .i tbs.length, .i k]
def L3b : Option Nat → Env → AH → AQ → Prop := fun ro e h Q =>
  match ro, obs e t3b, [78, 80].map h.get with
  | none, [some (.lst tbs ft), some (.lst ps fp), some (.int .i64 r), some (.bool false), some (.bool true), some (.int .i64 m1), some (.int .i64 fr), some (.int .i64 s), some (.int .i64 asn), some (.sl 78 0 n n' none), some (.sl 80 0 n2 n3 none), some (.lst tbs' ft'), some (.int .i64 m2), some (.int .i64 0)], [some (.cells cs), some (.cells qs)] =>
    (tbs' = tbs ∧ ft' = ft) ∧ (cs = repl tbs.length idle ∧ okCs tbs.length qs = true) ∧ req (Nat.beq e.n 302 && e.ds.isEmpty && Nat.beq h.next 86) (req ((m1 == tbs.length) && (m2 == tbs.length) && Nat.beq n tbs.length && Nat.beq n' tbs.length && Nat.beq n2 tbs.length && Nat.beq n3 tbs.length && short tbs && tbs.all tabRow && decide (0 ≤ asn) && decide (asn ≤ 1000000000))
      (∃ nn d, tbs.all (okTab nn d) = true ∧ ∀ acts prt, actsP tbs s asn fr acts prt → Q (.exit 2) (mkE 302 (t3b.zip (v3f tbs ps acts prt ft fp r fr s asn tbs.length))) ⟨86, .nil⟩))
  | _, _, _ => False
theorem rowA_repl : ∀ (n i : Nat), i < n → rowA (repl n idle) i = idle
  | 0, _, h => by omega
  | n + 1, 0, _ => by simp [repl, rowA, idle]
  | n + 1, i + 1, h => by
    have := rowA_repl n i (by omega)
    simp only [rowA, repl] at this ⊢
    rw [show (i + 1) * 5 = idle.length + i * 5 by simp [idle]; omega, List.drop_append, List.drop_eq_nil_of_le (by omega), List.nil_append, Nat.add_sub_cancel_left]
    exact this
theorem okCs_repl5 : ∀ n : Nat, okCs (n * 5) (repl n idle) = true
  | 0 => rfl
  | n + 1 => by
    have ih := okCs_repl5 n
    simp only [okCs, Bool.and_eq_true, List.all_eq_true] at ih ⊢
    have hl := Nat.eq_of_beq_eq_true ih.1
    refine ⟨by simp only [repl, List.length_append, hl]; rw [show idle.length + n * 5 = (n + 1) * 5 by simp [idle]; omega]; exact Nat.beq_refl _, fun x hx => ?_⟩
    simp only [repl] at hx
    rcases List.mem_append.1 hx with hx | hx
    · have : ∀ y ∈ idle, isInt .i64 y = true := by decide
      exact this x hx
    · exact ih.2 x hx
theorem offs_u {n d : Int} {us : List (List AV)} (h : us.all (useE n d) = true) : us.all (fun u => decide (0 ≤ fld u 1) && decide (fld u 1 < 16)) = true := by
  rw [List.all_eq_true] at h ⊢
  intro x hx
  have := h x hx
  simp only [useE, useV, cellV, Bool.and_eq_true] at this
  simp only [Bool.and_eq_true]
  exact ⟨this.1.1.1.1.1.2, this.1.1.1.1.2⟩
theorem offs_g {n d : Int} {us : List (List AV)} (h : us.all (grantE n d) = true) : us.all (fun u => decide (0 ≤ fld u 1) && decide (fld u 1 < 16)) = true := by
  rw [List.all_eq_true] at h ⊢
  intro x hx
  have := h x hx
  simp only [grantE, grantV, cellV, Bool.and_eq_true] at this
  simp only [Bool.and_eq_true]
  exact ⟨this.1.1.1.1.1.1.2, this.1.1.1.1.1.2⟩
theorem ones_get {qs : List AV} {i : Nat} (h : i < qs.length) : fld ((qs.map fun x => [x]).getD i []) 0 = fld qs i := by
  simp [fld, List.getD_eq_getElem?_getD, List.getElem?_eq_getElem h]
theorem rowA_wf {n : Nat} {cs : List AV} (h : okCs (n * 5) cs = true) {i : Nat} (hi : i < n) : wf 5 (rowA cs i) = true := by
  have hl := okCs_len h
  simp only [okCs, Bool.and_eq_true, List.all_eq_true] at h
  simp only [wf, Bool.and_eq_true, List.all_eq_true]
  refine ⟨?_, fun x hx => h.2 x (List.mem_of_mem_drop (List.mem_of_mem_take hx))⟩
  rw [show (rowA cs i).length = 5 by simp only [rowA, List.length_take, List.length_drop, hl]; omega]
  rfl
theorem L3bok (hHead : APure C 4 [] (.bool true)) {fn : Func} {body c : Code} (h1 : C.F 3 = some fn) (h2 : fn.body = some body) (h3 : codeAt body p3b = some (.loop c)) (ro : Option Nat) (e : Env) (h : AH) (Q : AQ) (hl : L3b ro e h Q) : ASem C ro (.loop c) Q e h := by
  have hloc := loc_of h1 h2 h3
  obtain rfl := loopAt_eq h1 h2 h3
  unfold L3b at hl
  split at hl
  · rename_i tbs ft ps fp r m1 fr s asn n n' n2 n3 tbs' ft' m2 cs0 qs0 hob hoh
    obtain ⟨⟨rfl, rfl⟩, ⟨rfl, hqs⟩, hl⟩ := hl
    simp only [req_iff, Bool.and_eq_true, List.isEmpty_iff, beq_iff_eq, decide_eq_true_eq] at hl
    obtain ⟨⟨⟨e1, e2⟩, e3⟩, ⟨⟨⟨⟨⟨⟨⟨⟨⟨rfl, rfl⟩, hn⟩, hn'⟩, hn2⟩, hn3⟩, hsh⟩, htab⟩, ha0⟩, ha1⟩, nn, d, hok, q1⟩ := hl
    have e1 := Nat.eq_of_beq_eq_true e1
    have e3 := Nat.eq_of_beq_eq_true e3
    obtain rfl := Nat.eq_of_beq_eq_true hn
    obtain rfl := Nat.eq_of_beq_eq_true hn'
    obtain rfl := Nat.eq_of_beq_eq_true hn2
    obtain rfl := Nat.eq_of_beq_eq_true hn3
    have hsh := short_le hsh
    refine asem_freeze ?_
    refine loop_here (α := List AV × List AV) (τ := Unit) 302 86 2 tbs'.length t3b [78, 80] (by decide) (fun k _ => v3b tbs' ps ft' fp r fr s asn tbs'.length k) (fun _ a => [.cells a.1, .cells a.2])
      (fun k a => invB tbs' s asn fr k a.1 a.2) (fun _ => []) (fun _ => []) (fun _ => False) (fun _ hx => by cases hx) ?_ e3 e (repl tbs'.length idle, qs0) ⟨okCs_repl5 _, hqs, fun _ hi => by omega, fun i _ hi => rowA_repl _ _ hi⟩
      (by rw [hob]; rfl) e1 e2 (by rw [hoh]; rfl) (fun a hc => ?_) (fun _ hf => hf.elim)
    · rintro k ⟨cs, qs⟩ hk hinv
      obtain ⟨b1, b2, b3, b4⟩ := hinv
      simp only at b1 b2 b3 b4
      have hcl := okCs_len b1
      have hql := okCs_len b2
      have hbo : ∀ x y : List AV, okCs (tbs'.length * 5) x = true → okCs tbs'.length y = true → List.all [AObj.cells x, .cells y] (belowO 86) = true := fun x y hx hy => by
        simp only [List.all_cons, List.all_nil, Bool.and_true, Bool.and_eq_true]
        exact ⟨by simpa [belowO] using okCs_below hx, by simpa [belowO] using okCs_below hy⟩
      refine (wpOk hC mixed (S3bok hHead) 1000).c _ _ _ _ _ _ hloc ?_
      rw [vc3b]
      have hkk : (k : Int).toNat = k := rfl
      have hk1 : IntKind.i64.wrap ((k : Int) + 1) = ((k + 1 : Nat) : Int) := by rw [w64 (n := (k : Int) + 1) (by omega) (by omega)]; rfl
      rw [cas_iff]
      constructor
      · intro hlt
        have hlt : k < tbs'.length := by simpa using hlt
        have ht := all_getD htab hlt []
        have hk2 := all_getD hok hlt []
        simp only [tabRow, Bool.and_eq_true, usesOf, grantsOf, asksOf] at ht
        obtain ⟨⟨⟨⟨t1, t2⟩, t6⟩, t7⟩, t8⟩ := ht
        have t1 := Nat.eq_of_beq_eq_true t1
        have t2 : (isLst ((tbs'.getD k []).getD 0 .undef) && (isLst ((tbs'.getD k []).getD 1 .undef) && (isLst ((tbs'.getD k []).getD 2 .undef) && true))) = true := by simp only [Bool.and_eq_true]; exact t2
        simp only [okTab, Bool.and_eq_true, usesOf, grantsOf] at hk2
        have t3 := short_40 (of_decide_eq_true hk2.1.1.1.2)
        have t4 := short_40 (of_decide_eq_true hk2.1.1.2)
        have o1 := offs_u hk2.1.2
        have o2 := offs_g hk2.2
        have dk : (decide (0 ≤ (k : Int)) && decide ((k : Int) < (tbs'.length : Int))) = true := by simp; omega
        have d1 : decide (0 ≤ (k : Int)) = true := decide_eq_true (by omega)
        have d2 : decide ((k : Int) < (tbs'.length : Int)) = true := decide_eq_true (by omega)
        have d3 : decide (0 ≤ asn) = true := decide_eq_true ha0
        have d4 : decide (asn ≤ 1000000000) = true := decide_eq_true ha1
        have c6 := okCs_splice b2 hlt (-1)
        have c7 : okCs (List.length tbs') (splice qs k [.int .i64 (-1)]) = true := c6
        simp only [req_iff, hkk, t1, t2, dk, hk1, Nat.zero_add, Nat.mul_one]
        refine ⟨trivial, rfl, rfl, trivial, trivial, ?_, ⟨trivial, trivial, trivial⟩, ?_, fun cs1 hu => ⟨⟨trivial, trivial, trivial⟩, ?_, fun cs2 qs2 hg => ?_⟩⟩
        · rw [hql]; exact Nat.ble_eq_true_of_le (by omega)
        · simp only [beq_self_eq_true, Nat.beq_refl, d1, d2, d3, d4, t3, t6, o1, b1, c7, Bool.and_self]
        · have := hu.1
          simp only [beq_self_eq_true, Nat.beq_refl, d1, d2, d3, d4, t4, t7, o2, this, c7, Bool.and_self]
        · obtain ⟨u1, u2, u3⟩ := hu
          obtain ⟨g1, g2, g3, g4⟩ := hg
          refine ⟨hlt, (cs2, qs2), ⟨g1, g2, fun i hi hin => ?_, fun i hi hin => ?_⟩, rfl, rfl, by omega, rfl, rfl, rfl, hbo _ _ g1 g2⟩
          · rcases Nat.lt_or_ge i k with h5 | h5
            · obtain ⟨w1, w2⟩ := g3 i hin (by omega)
              rw [w1, w2, u2 i hin (by omega), fld_splice b2 hlt, if_neg (by omega)]
              exact b3 i h5 hin
            · obtain rfl : i = k := by omega
              rw [b4 i (Nat.le_refl _) hlt] at u3
              rw [fld_splice b2 hlt, if_pos rfl] at g4
              exact ⟨_, u3, g4⟩
          · rw [(g3 i hin (by omega)).1, u2 i hin (by omega)]
            exact b4 i (by omega) hin
      · intro hge
        obtain rfl : k = tbs'.length := by simp at hge; omega
        exact ⟨rfl, ⟨b1, b2, b3, b4⟩, rfl, rfl, by omega, rfl, rfl, rfl, hbo cs qs b1 b2⟩
    · obtain ⟨cs, qs⟩ := a
      obtain ⟨b1, b2, b3, b4⟩ := hc
      simp only at b1 b2 b3 b4
      have hcl := okCs_len b1
      have hql := okCs_len b2
      refine ⟨trivial, rfl, mkE 302 (t3b.zip (v3f tbs' ps (chunk 5 tbs'.length cs) (qs.map fun x => [x]) ft' fp r fr s asn tbs'.length)), rfl, rfl, ?_, q1 _ _ ⟨chunk_len _ _ _, by simp [hql], ?_, ?_, fun i hi => ?_⟩⟩
      · refine mkTE_snap ?_
        repeat' (first | exact SnapL.nil | refine SnapL.cons _ _ _ _ ?_ ?_)
        all_goals first
          | exact .free _ rfl
          | exact snap_rows5 (by rfl) b1
          | exact snap_ints (by rfl) b2
      · rw [List.all_eq_true]
        intro x hx
        obtain ⟨j, hj, rfl⟩ := List.mem_iff_getElem.1 hx
        have hj' : j < tbs'.length := by rw [chunk_len] at hj; exact hj
        have : (chunk 5 tbs'.length cs)[j] = rowA cs j := by
          rw [← chunk_get _ _ _ hcl hj']
          simp [List.getD_eq_getElem?_getD, hj]
        rw [this]
        exact rowA_wf b1 hj'
      · rw [List.all_eq_true]
        intro x hx
        simp only [List.mem_map] at hx
        obtain ⟨y, hy, rfl⟩ := hx
        simp only [okCs, Bool.and_eq_true, List.all_eq_true] at b2
        simp [wf, b2.2 y hy]
      · rw [chunk_get _ _ _ hcl hi]
        rw [ones_get (show i < qs.length by omega)]
        exact b3 i hi hi
  · exact hl.elim
end Go.Am.Cells
