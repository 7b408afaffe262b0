/- TopCellsOnAir: the law itself, whole. -/
import Derived.Test.YtpkljgaokgfpnaaGreatDoorMain4
set_option maxRecDepth 1000000
set_option linter.unusedVariables false
set_option linter.unusedSimpArgs false
set_option linter.unusedSectionVars false
set_option maxHeartbeats 0
namespace Go.Am.Cells
open Go Go.Am
def SL : Specs := .plain P4 (fun loc => match loc with
  | some (3, [false, true, false, true, true, true, true]) => some L3a
  | some (3, [false, true, false, true, true, true, true, true, true, true, true, true, true, true]) => some L3b
  | some (3, [false, true, false, true, true, true, true, true, true, true, true, true, true, true, true, true, true]) => some L3c
  | _ => none)
theorem SLok (hHead : APure C 4 [] (.bool true)) : SpecsOk C SL := by
  refine .of (P4ok hHead) rfl rfl (fun f p spec h fn body c h1 h2 h3 ro e h' Q hl => ?_)
  simp only [SL, Specs.plain] at h
  split at h <;> (try (cases h; done)) <;> (rename_i heq; simp only [Option.some.injEq, Prod.mk.injEq] at heq; obtain ⟨rfl, rfl⟩ := heq; injection h with h; subst h)
  · exact L3aok hHead h1 h2 h3 ro e h' Q hl
  · exact L3bok hHead h1 h2 h3 ro e h' Q hl
  · exact L3cok hHead h1 h2 h3 ro e h' Q hl
theorem vc3 (tbs ps : List (List AV)) (ft fp : Bool) (n d r fr sl : Int) (K : AV → Prop) : (wpF C SL 1000 3 [.agg [.i n, .i d], .lst tbs ft, .lst ps fp, .i r, .int .u16 fr, .int .u8 sl] (retR fun u _ => K u) ⟨0, .nil⟩) = (∀ (b : Bool),
  (b = true →
      layoutV (intOf ((AV.agg [AV.i n, AV.i d]).cells.getD 0 AV.undef)) (intOf ((AV.agg [AV.i n, AV.i d]).cells.getD (0 + 1) AV.undef)) = true ∧
        [].all (useE (intOf ((AV.agg [AV.i n, AV.i d]).cells.getD 0 AV.undef)) (intOf ((AV.agg [AV.i n, AV.i d]).cells.getD (0 + 1) AV.undef))) = true ∧
          [].all (grantE (intOf ((AV.agg [AV.i n, AV.i d]).cells.getD 0 AV.undef)) (intOf ((AV.agg [AV.i n, AV.i d]).cells.getD (0 + 1) AV.undef))) = true) →
    cas (!b) (K (AV.bool true))
      (cas ((↑tbs.length : Int) != n) (K (AV.bool true))
        (cas (decide ((↑tbs.length : Int) > 12)) (K (AV.bool true))
          (cas ((↑ps.length : Int) != (↑tbs.length : Int)) (K (AV.bool true))
            (req (short ps && ps.all (wf 2))
              (cas (!(ps.all placeE && decide ((↑ps.length : Int) ≤ 60) && decide (r ≥ 0) && decide (r ≤ 20000))) (K (AV.bool true))
                ((tbs = tbs ∧ ft = ft) ∧
                  req ((↑tbs.length : Int) == (↑tbs.length : Int) && (↑tbs.length : Int) == (↑tbs.length : Int) && short tbs && tbs.all tabRow)
                    ((tbs.all (okTab n d) = true →
                        req (ps.length.ble 12 && decide (0 ≤ r) && decide (r ≤ 20000) && ps.all (wf 2) && ps.all placeE)
                          (req (tbs.length.ble 12 && (hearsL (unpl ps) r).length.beq tbs.length && tbs.all tabOk && (hearsL (unpl ps) r).all (hearOk tbs.length))
                            (∀ (es : List (List AV)) (f : Bool),
                              (es = [] → NoClash (hearsL (unpl ps) r) tbs (IntKind.i64.wrap fr)) →
                                cas (decide ((↑es.length : Int) > 0)) (K (AV.bool true))
                                  (req (!d == 0)
                                    (req (true && decide ((↑tbs.length : Int) ≤ (↑tbs.length : Int)))
                                      (req (decide (40 * (↑tbs.length : Int) ≤ 281474976710656) && decide ((↑tbs.length : Int) ≤ 4611686018427387904))
                                        (req (true && decide ((↑tbs.length : Int) ≤ (↑tbs.length : Int)))
                                          (req (decide (8 * (↑tbs.length : Int) ≤ 281474976710656) && decide ((↑tbs.length : Int) ≤ 4611686018427387904))
                                            ((tbs = tbs ∧ ft = ft) ∧
                                              (repl (↑tbs.length : Int).toNat [AV.int IntKind.i64 0, AV.int IntKind.i64 0, AV.int IntKind.i64 0, AV.int IntKind.i64 0, AV.int IntKind.i64 0] =
                                                    repl tbs.length [AV.int IntKind.i64 0, AV.int IntKind.i64 0, AV.int IntKind.i64 0, AV.int IntKind.i64 0, AV.int IntKind.i64 0] ∧
                                                  okCs tbs.length (repl (↑tbs.length : Int).toNat [AV.int IntKind.i64 0]) = true) ∧
                                                req
                                                  ((↑tbs.length : Int) == (↑tbs.length : Int) && (↑tbs.length : Int) == (↑tbs.length : Int) && (↑tbs.length : Int).toNat.beq tbs.length &&
                                                                (↑tbs.length : Int).toNat.beq tbs.length &&
                                                              (↑tbs.length : Int).toNat.beq tbs.length &&
                                                            (↑tbs.length : Int).toNat.beq tbs.length &&
                                                          short tbs &&
                                                        tbs.all tabRow &&
                                                      decide
                                                        (0 ≤
                                                          IntKind.i64.wrap
                                                            (IntKind.i64.wrap (IntKind.i64.wrap (IntKind.i64.wrap fr * IntKind.i64.wrap (IntKind.i64.wrap (n + d) + 1)) + n) +
                                                              (IntKind.i64.wrap sl).tmod d)) &&
                                                    decide
                                                      (IntKind.i64.wrap
                                                          (IntKind.i64.wrap (IntKind.i64.wrap (IntKind.i64.wrap fr * IntKind.i64.wrap (IntKind.i64.wrap (n + d) + 1)) + n) +
                                                            (IntKind.i64.wrap sl).tmod d) ≤
                                                        1000000000))
                                                  (∃ (nn : Int),
                                                    ∃ (d_1 : Int),
                                                      tbs.all (okTab nn d_1) = true ∧
                                                        ∀ (acts prt : List (List AV)),
                                                          actsP tbs ((IntKind.i64.wrap sl).tmod d)
                                                              (IntKind.i64.wrap
                                                                (IntKind.i64.wrap (IntKind.i64.wrap (IntKind.i64.wrap fr * IntKind.i64.wrap (IntKind.i64.wrap (n + d) + 1)) + n) +
                                                                  (IntKind.i64.wrap sl).tmod d))
                                                              (IntKind.i64.wrap fr) acts prt →
                                                            req
                                                              (short acts && acts.all wfA && ps.all (wf 2) && ps.length.beq acts.length && radios acts ps && acts.length.ble 200 && decide (0 ≤ r) &&
                                                                    decide (r ≤ 20000) &&
                                                                  decide
                                                                    (0 ≤
                                                                      IntKind.i64.wrap
                                                                        (IntKind.i64.wrap (IntKind.i64.wrap (IntKind.i64.wrap fr * IntKind.i64.wrap (IntKind.i64.wrap (n + d) + 1)) + n) +
                                                                          (IntKind.i64.wrap sl).tmod d)) &&
                                                                decide
                                                                  (IntKind.i64.wrap
                                                                      (IntKind.i64.wrap (IntKind.i64.wrap (IntKind.i64.wrap fr * IntKind.i64.wrap (IntKind.i64.wrap (n + d) + 1)) + n) +
                                                                        (IntKind.i64.wrap sl).tmod d) ≤
                                                                    1000000000))
                                                              (∀ (es : List (List AV)),
                                                                caughtP acts ps r es →
                                                                  cas ((↑es.length : Int) != (↑tbs.length : Int)) (K (AV.bool false))
                                                                    (req
                                                                      ((↑tbs.length : Int) == (↑acts.length : Int) && (↑es.length : Int) == (↑es.length : Int) && es.length.beq acts.length &&
                                                                                    prt.length.beq acts.length &&
                                                                                  ps.length.beq acts.length &&
                                                                                short acts &&
                                                                              acts.all (wf 5) &&
                                                                            prt.all (wf 1) &&
                                                                          es.all (wf 1) &&
                                                                        ps.all (wf 2))
                                                                      ((∀ (i : Nat),
                                                                          i < acts.length →
                                                                            (fld (es.getD i []) 0 = -2 → False) ∧
                                                                              (heardP acts ps acts.length r i (fld (prt.getD i []) 0) → fld (es.getD i []) 0 = fld (prt.getD i []) 0) ∧
                                                                                (¬heardP acts ps acts.length r i (fld (prt.getD i []) 0) → fld (es.getD i []) 0 = -1)) ∧
                                                                        K (AV.bool true)))))))))))))) ∧
                      K (AV.bool true))))))))) := by kernel_rfl

theorem upTo_all {α : Type} (p : α → Bool) (f : Nat → α) : ∀ n i, (∀ j, i ≤ j → j < i + n → p (f j) = true) → (upTo f n i).all p = true
  | 0, _, _ => rfl
  | n + 1, i, h => by
    simp only [upTo, List.all_cons, Bool.and_eq_true]
    exact ⟨h i (Nat.le_refl _) (by omega), upTo_all p f n (i + 1) fun j h1 h2 => h j (by omega) (by omega)⟩
theorem hearsL_len (qs : List (Int × Int)) (r : Int) : (hearsL qs r).length = qs.length := upTo_len _ _ _
theorem hearsL_ok (qs : List (Int × Int)) (r : Int) : (hearsL qs r).all (hearOk qs.length) = true := by
  refine upTo_all _ _ _ _ fun j _ _ => ?_
  simp only [hearOk, rowOf1, List.getD_cons_zero, lstOf, upTo_len, Bool.and_eq_true]
  refine ⟨⟨⟨rfl, ⟨rfl, trivial⟩⟩, Nat.beq_refl _⟩, upTo_all _ _ _ _ fun k _ _ => rfl⟩
theorem tabOk_of {n d : Int} {tbs : List (List AV)} (h1 : tbs.all tabRow = true) (h2 : tbs.all (okTab n d) = true) : tbs.all tabOk = true := by
  rw [List.all_eq_true] at *
  intro c hc
  have a := h1 c hc
  have b := h2 c hc
  simp only [tabRow, okTab, Bool.and_eq_true] at a b
  obtain ⟨⟨⟨⟨t1, t2⟩, t3⟩, t4⟩, t5⟩ := a
  simp only [tabOk, Bool.and_eq_true]
  exact ⟨⟨⟨⟨⟨t1, t2⟩, short_40 (of_decide_eq_true b.1.1.1.2)⟩, t3⟩, short_40 (of_decide_eq_true b.1.1.2)⟩, t4⟩
theorem tab_range : ∀ a : Fin 16, 0 ≤ tabV.getD a.val 0 ∧ tabV.getD a.val 0 < 16 := by decide
theorem chan_range (asn o : Int) : 0 ≤ chanV asn o ∧ chanV asn o < 16 := by
  have h1 : 0 ≤ (asn + o) % 16 := Int.emod_nonneg _ (by decide)
  have h2 : (asn + o) % 16 < 16 := Int.emod_lt_of_pos _ (by decide)
  exact tab_range ⟨((asn + o) % 16).toNat, by omega⟩
/-- What nodes do is something that radios can do. -/
theorem act_ok {us gs : List (List AV)} {s asn fr q : Int} {row : List AV} (h : actS us gs s asn fr row q) : wfA row = true ∧ ∀ x y, placeV x y = true → radioV (fld row 0) (fld row 1) x y = true := by
  rcases act_cases h with ⟨rfl, _⟩ | ⟨_, j, _, _, rfl⟩ | ⟨j, _, _, _, rfl, _⟩
  · exact ⟨by decide, fun x y h => by simp [radioV, h, idle, fld, intOf]⟩
  · have := chan_range asn (fld (us.getD j []) 1)
    refine ⟨rfl, fun x y h => ?_⟩
    simp only [(fld_send _ _).1, (fld_send _ _).2, radioV, h, ge_iff_le, decide_eq_true this.1, decide_eq_true this.2]
    rfl
  · have := chan_range asn (fld (gs.getD j []) 1)
    refine ⟨rfl, fun x y h => ?_⟩
    simp only [(fld_hear _ _).1, (fld_hear _ _).2, radioV, h, ge_iff_le, decide_eq_true this.1, decide_eq_true this.2]
    rfl
theorem acts_ok {tbs acts prt ps : List (List AV)} {s asn fr : Int} (h : actsP tbs s asn fr acts prt) (hl : ps.length = tbs.length) (hp : ps.all placeE = true) : acts.all wfA = true ∧ radios acts ps = true := by
  obtain ⟨a1, a2, a3, a4, a5⟩ := h
  constructor
  · rw [List.all_eq_true]
    intro x hx
    obtain ⟨j, hj, rfl⟩ := List.mem_iff_getElem.1 hx
    have := (act_ok (a5 j (by omega))).1
    simpa [List.getD_eq_getElem?_getD, hj] using this
  · simp only [radios, List.all_eq_true]
    intro j hj
    have hj := List.mem_range.1 hj
    exact (act_ok (a5 j (by omega))).2 _ _ (all_getD hp (show j < ps.length by omega) [])
theorem asn_ok {f n d sl : Int} (hf0 : 0 ≤ f) (hf1 : f ≤ 65535) (hl : layoutV n d = true) (h0 : 0 ≤ sl) (h1 : sl ≤ 255) :
    0 ≤ IntKind.i64.wrap (IntKind.i64.wrap (IntKind.i64.wrap (f * IntKind.i64.wrap (IntKind.i64.wrap (n + d) + 1)) + n) + sl.tmod d) ∧ IntKind.i64.wrap (IntKind.i64.wrap (IntKind.i64.wrap (f * IntKind.i64.wrap (IntKind.i64.wrap (n + d) + 1)) + n) + sl.tmod d) ≤ 1000000000 := by
  simp only [layoutV, Bool.and_eq_true, decide_eq_true_eq] at hl
  obtain ⟨⟨⟨l1, l2⟩, l3⟩, l4⟩ := hl
  have e : sl.tmod d = sl % d := Int.tmod_eq_emod_of_nonneg h0
  have m1 : 0 ≤ sl % d := Int.emod_nonneg _ (by omega)
  have m2 : sl % d < d := Int.emod_lt_of_pos _ (by omega)
  rw [e, w64 (n := n + d) (by omega) (by omega), w64 (n := n + d + 1) (by omega) (by omega)]
  have p1 : 0 ≤ f * (n + d + 1) := Int.mul_nonneg hf0 (by omega)
  have p2 : f * (n + d + 1) ≤ 65535 * 121 := Int.mul_le_mul hf1 (by omega) (by omega) (by omega)
  rw [w64 (n := f * (n + d + 1)) (by omega) (by omega), w64 (n := f * (n + d + 1) + n) (by omega) (by omega), w64 (n := f * (n + d + 1) + n + sl % d) (by omega) (by omega)]
  omega
theorem law3 (hHead : APure C 4 [] (.bool true)) (tbs ps : List (List AV)) (ft fp : Bool) (n d r fr sl : Int) (hrow : tbs.all tabRow = true) (hps : ps.all (wf 2) = true) (hf0 : 0 ≤ fr) (hf1 : fr ≤ 65535) (hs0 : 0 ≤ sl) (hs1 : sl ≤ 255) :
    APure C 3 [.agg [.i n, .i d], .lst tbs ft, .lst ps fp, .i r, .int .u16 fr, .int .u8 sl] (.bool true) := by
  refine apure_val hC mixed (SLok hHead) (n := 1000) rfl rfl ?_
  rw [vc3 _ _ _ _ _ _ _ _ _ (· = _)]
  intro b hb
  rw [cas_iff]
  refine ⟨fun _ => rfl, fun hb1 => ?_⟩
  obtain ⟨hlay, -, -⟩ := hb (by simpa using hb1)
  have hlay : layoutV n d = true := hlay
  have hfr : IntKind.i64.wrap fr = fr := w64 (by omega) (by omega)
  have hsl : IntKind.i64.wrap sl = sl := w64 (by omega) (by omega)
  rw [cas_iff]
  refine ⟨fun _ => rfl, fun _ => ?_⟩
  rw [cas_iff]
  refine ⟨fun _ => rfl, fun hn => ?_⟩
  have hn : tbs.length ≤ 12 := by simp at hn; omega
  rw [cas_iff]
  refine ⟨fun _ => rfl, fun hpl => ?_⟩
  have hpl : ps.length = tbs.length := by simp at hpl; omega
  rw [req_iff]
  refine ⟨by rw [hps, short_40 (by omega)]; rfl, ?_⟩
  rw [cas_iff]
  refine ⟨fun _ => rfl, fun hpp => ?_⟩
  simp only [Bool.not_eq_false', Bool.and_eq_true, decide_eq_true_eq] at hpp
  obtain ⟨⟨⟨hpe, _⟩, hr0⟩, hr1⟩ := hpp
  refine ⟨⟨rfl, rfl⟩, ?_⟩
  rw [req_iff]
  refine ⟨by rw [hrow, short_40 (show tbs.length ≤ 40 by omega)]; simp, fun hok => ?_, rfl⟩
  have hul : (unpl ps).length = tbs.length := by simp [unpl, hpl]
  have hheard := hearsL_ok (unpl ps) r
  rw [hul] at hheard
  have ble : ∀ {a b : Nat}, a ≤ b → a.ble b = true := fun h => Nat.ble_eq_true_of_le h
  rw [req_iff]
  refine ⟨by simp only [Bool.and_eq_true, decide_eq_true_eq]; exact ⟨⟨⟨⟨ble (by omega), hr0⟩, hr1⟩, hps⟩, hpe⟩, ?_⟩
  rw [req_iff]
  refine ⟨by simp only [Bool.and_eq_true]; exact ⟨⟨⟨ble hn, by rw [hearsL_len, hul]; exact Nat.beq_refl _⟩, tabOk_of hrow hok⟩, hheard⟩, fun cl f hcl => ?_⟩
  rw [cas_iff]
  refine ⟨fun _ => rfl, fun hno => ?_⟩
  have hcl := hcl (by simpa using hno)
  rw [hfr] at hcl
  have hd : 1 ≤ d := by simp only [layoutV, Bool.and_eq_true, decide_eq_true_eq] at hlay; omega
  obtain ⟨ha0, ha1⟩ := asn_ok hf0 hf1 hlay hs0 hs1
  rw [hfr, hsl]
  have tn : ((tbs.length : Int)).toNat = tbs.length := rfl
  simp only [req_iff, tn]
  have sz : ∀ m : Int, 0 ≤ m → m ≤ 100 → (decide (m * (tbs.length : Int) ≤ 281474976710656) && decide ((tbs.length : Int) ≤ 4611686018427387904)) = true := fun m h0 h1 => by
    have := Int.mul_le_mul h1 (show (tbs.length : Int) ≤ 12 by omega) (by omega) (by omega)
    simp only [Bool.and_eq_true, decide_eq_true_eq]
    omega
  refine ⟨by simp; omega, by simp, sz 40 (by omega) (by omega), by simp, sz 8 (by omega) (by omega), ⟨trivial, trivial⟩, ⟨trivial, ?_⟩, ?_, n, d, hok, fun acts prt hact => ?_⟩
  · exact okCs_repl _
  · simp only [Bool.and_eq_true, beq_self_eq_true, Nat.beq_refl, decide_eq_true_eq, true_and]
    exact ⟨⟨⟨short_40 (by omega), hrow⟩, by first | exact ha0 | exact decide_eq_true ha0⟩, by first | exact ha1 | exact decide_eq_true ha1⟩
  obtain ⟨k1, k2⟩ := acts_ok hact hpl hpe
  have hal : acts.length = tbs.length := hact.1
  refine ⟨?_, fun es hc => ?_⟩
  · simp only [Bool.and_eq_true, decide_eq_true_eq]
    exact ⟨⟨⟨⟨⟨⟨⟨⟨⟨short_40 (by omega), k1⟩, hps⟩, by rw [hpl, hal]; exact Nat.beq_refl _⟩, k2⟩, ble (by omega)⟩, hr0⟩, hr1⟩, by first | exact ha0 | exact decide_eq_true ha0⟩, by first | exact ha1 | exact decide_eq_true ha1⟩
  rw [cas_iff]
  refine ⟨fun hne => ?_, fun _ => ?_⟩
  · have := hc.1
    simp at hne
    omega
  · refine ⟨?_, fun i hi => ?_, trivial⟩
    · simp only [Bool.and_eq_true, beq_self_eq_true, beq_iff_eq, true_and]
      exact ⟨⟨⟨⟨⟨⟨⟨⟨⟨by rw [hal], trivial⟩, by rw [hc.1]; exact Nat.beq_refl _⟩, by rw [hact.2.1, hal]; exact Nat.beq_refl _⟩, by rw [hpl, hal]; exact Nat.beq_refl _⟩, short_40 (by omega)⟩, hact.2.2.1⟩, hact.2.2.2.1⟩, hc.2.1⟩, hps⟩
    · exact all_good hact hc hcl hpl hok ha0 i (by omega)
end Go.Am.Cells
