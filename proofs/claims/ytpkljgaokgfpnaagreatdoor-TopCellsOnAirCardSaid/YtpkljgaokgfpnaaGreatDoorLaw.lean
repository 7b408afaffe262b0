/- TopCellsOnAir: the plain law: who listens where it has been granted hears its peer and no one else. -/
import Derived.Test.YtpkljgaokgfpnaaGreatDoorMain3
set_option maxRecDepth 1000000
set_option linter.unusedVariables false
set_option linter.unusedSimpArgs false
set_option linter.unusedSectionVars false
namespace Go.Am.Cells
open Go Go.Am
theorem tab_inj : ∀ a b : Fin 16, tabV.getD a.val 0 = tabV.getD b.val 0 → a = b := by decide
theorem chan_inj {asn a b : Int} (ha0 : 0 ≤ asn) (a0 : 0 ≤ a) (a1 : a < 16) (b0 : 0 ≤ b) (b1 : b < 16) (h : chanV asn a = chanV asn b) : a = b := by
  have h1 : 0 ≤ (asn + a) % 16 := Int.emod_nonneg _ (by decide)
  have h2 : (asn + a) % 16 < 16 := Int.emod_lt_of_pos _ (by decide)
  have h3 : 0 ≤ (asn + b) % 16 := Int.emod_nonneg _ (by decide)
  have h4 : (asn + b) % 16 < 16 := Int.emod_lt_of_pos _ (by decide)
  have := tab_inj ⟨((asn + a) % 16).toNat, by omega⟩ ⟨((asn + b) % 16).toNat, by omega⟩ h
  have := congrArg Fin.val this
  simp only at this
  omega
theorem near_symm (a b c d r : Int) : nearV a b c d r = nearV c d a b r := by
  have h1 : (a - c) * (a - c) = (c - a) * (c - a) := by rw [← Int.neg_sub c a, Int.neg_mul_neg]
  have h2 : (b - d) * (b - d) = (d - b) * (d - b) := by rw [← Int.neg_sub d b, Int.neg_mul_neg]
  have h3 : (a == c && b == d) = (c == a && d == b) := by
    rw [Bool.eq_iff_iff]
    simp only [Bool.and_eq_true, beq_iff_eq]
    omega
  unfold nearV
  rw [h1, h2, h3]
  cases placeV a b <;> cases placeV c d <;> rfl
/-- The partner is heard. -/
def heardP (acts pls : List (List AV)) (n : Nat) (r : Int) (i : Nat) (q : Int) : Prop := 0 ≤ q ∧ q ≠ i ∧ q < n ∧ heardE acts pls r i q.toNat = true
/-- What is asked of a node in the end. -/
def goodP (acts pls : List (List AV)) (n : Nat) (r : Int) (i : Nat) (q v : Int) : Prop := v ≠ -2 ∧ (heardP acts pls n r i q → v = q) ∧ (¬ heardP acts pls n r i q → v = -1)
/-- Only the partner can be heard: then what is caught is right. -/
theorem good_of {acts pls : List (List AV)} {r : Int} {i : Nat} {q v : Int} (ho : outP acts pls r i v) (hi : i < acts.length) (h1 : fld (acts.getD i []) 0 ≠ 1 → ¬ heardP acts pls acts.length r i q)
    (h2 : fld (acts.getD i []) 0 = 1 → ∀ k, k < acts.length → heardE acts pls r i k = true → (k : Int) = q) (h3 : ∀ k, heardE acts pls r i k = true → fld (acts.getD i []) 0 = 1 → k ≠ i) : goodP acts pls acts.length r i q v := by
  rcases ho with ⟨hd, rfl⟩ | ⟨hd, hc⟩
  · exact ⟨by decide, fun h => absurd h (h1 hd), fun _ => rfl⟩
  · have hno : ∀ a b : Nat, a < acts.length → b < acts.length → a ≠ b → heardE acts pls r i a = true → heardE acts pls r i b = true → False := fun a b ha hb hne e1 e2 => by
      have := h2 hd a ha e1
      have := h2 hd b hb e2
      omega
    rcases hc with (⟨rfl, hn⟩ | ⟨j, hj, rfl, hh, _⟩) | ⟨rfl, a, b, ha, hb, hne, e1, e2⟩
    · refine ⟨by decide, fun ⟨p1, p2, p3, p4⟩ => ?_, fun _ => rfl⟩
      have := hn q.toNat (by omega)
      rw [p4] at this; cases this
    · have hq := h2 hd j hj hh
      refine ⟨by omega, fun _ => hq, fun hx => absurd ⟨by omega, ?_, by omega, ?_⟩ hx⟩
      · have := h3 j hh hd
        omega
      · rw [← hq]; exact hh
    · exact (hno a b ha hb hne e1 e2).elim
theorem upTo_len {α : Type} (f : Nat → α) : ∀ n i, (upTo f n i).length = n
  | 0, _ => rfl
  | n + 1, i => by simp [upTo, upTo_len f n]
theorem upTo_get {α : Type} (f : Nat → α) (x : α) : ∀ n i j, j < n → (upTo f n i).getD j x = f (i + j)
  | 0, _, _, h => by omega
  | n + 1, i, 0, _ => by simp [upTo]
  | n + 1, i, j + 1, h => by
    simp only [upTo, List.getD_cons_succ]
    rw [upTo_get f x n (i + 1) j (by omega)]
    congr 1
    omega
theorem hearsL_at (qs : List (Int × Int)) (r : Int) {i c : Nat} (hi : i < qs.length) (hc : c < qs.length) : boolOf (((rowOf1 ((hearsL qs r).getD i [])).getD c []).getD 0 .undef) = hearsE qs r i c := by
  unfold hearsL
  rw [upTo_get _ _ _ _ _ hi]
  simp only [rowOf1, List.getD_cons_zero, lstOf]
  rw [upTo_get _ _ _ _ _ hc]
  simp only [Nat.zero_add, List.getD_cons_zero, boolOf]
theorem unpl_get {ps : List (List AV)} {i : Nat} (hi : i < ps.length) : (unpl ps).getD i (0, 0) = (fld (ps.getD i []) 0, fld (ps.getD i []) 1) := by
  simp [unpl, List.getD_eq_getElem?_getD, List.getElem?_map, List.getElem?_eq_getElem hi]
theorem hears_of {ps acts : List (List AV)} {r : Int} {i k : Nat} (hi : i < ps.length) (hk : k < ps.length) (hne : k ≠ i) (h : nearV (fld (ps.getD k []) 0) (fld (ps.getD k []) 1) (fld (ps.getD i []) 0) (fld (ps.getD i []) 1) r = true) : hearsE (unpl ps) r i k = true := by
  unfold hearsE
  have hb : Nat.beq i k = false := by
    cases hx : Nat.beq i k
    · rfl
    · exact absurd (Nat.eq_of_beq_eq_true hx).symm hne
  rw [hb]
  simp only [nr, unpl_get hi, unpl_get hk]
  split
  · rw [near_symm]; exact h
  · exact h
theorem fld_send (asn o : Int) : fld (sendRow asn o) 0 = 2 ∧ fld (sendRow asn o) 1 = chanV asn o := ⟨rfl, rfl⟩
theorem fld_hear (asn o : Int) : fld (hearRow asn o) 0 = 1 ∧ fld (hearRow asn o) 1 = chanV asn o := ⟨rfl, rfl⟩
/-- What a node does, by its row. -/
theorem act_cases {us gs : List (List AV)} {s asn fr q : Int} {row : List AV} (h : actS us gs s asn fr row q) :
    (row = idle ∧ q = -1) ∨ (q = -1 ∧ ∃ j, j < us.length ∧ fld (us.getD j []) 0 = s ∧ row = sendRow asn (fld (us.getD j []) 1)) ∨
      (∃ j, j < gs.length ∧ fld (gs.getD j []) 0 = s ∧ ¬ fld (gs.getD j []) 4 < fr ∧ row = hearRow asn (fld (gs.getD j []) 1) ∧ q = fld (gs.getD j []) 2) := by
  obtain ⟨row0, hs, hl⟩ := h
  rcases hl with ⟨rfl, rfl⟩ | hl
  · rcases hs with rfl | hs
    · exact .inl ⟨rfl, rfl⟩
    · exact .inr (.inl ⟨rfl, hs⟩)
  · exact .inr (.inr hl)
theorem all_good {tbs ps acts prt es : List (List AV)} {s asn fr n d r : Int} (ha : actsP tbs s asn fr acts prt) (hc : caughtP acts ps r es) (hcl : NoClash (hearsL (unpl ps) r) tbs fr) (hlen : ps.length = tbs.length) (hok : tbs.all (okTab n d) = true) (ha0 : 0 ≤ asn) :
    ∀ i, i < tbs.length → goodP acts ps acts.length r i (fld (prt.getD i []) 0) (fld (es.getD i []) 0) := by
  intro i hi
  obtain ⟨a1, a2, a3, a4, a5⟩ := ha
  obtain ⟨c1, c2, c3⟩ := hc
  have hact := act_cases (a5 i hi)
  have hpl : (unpl ps).length = tbs.length := by simp [unpl, hlen]
  refine good_of (c3 i (by omega)) (by omega) (fun hd hp => ?_) (fun hd k hk hh => ?_) (fun k hh hd => ?_)
  · rcases hact with ⟨_, hq⟩ | ⟨hq, _⟩ | ⟨j, hj, h1, h2, h3, h4⟩
    · have := hp.1; omega
    · have := hp.1; omega
    · rw [h3] at hd; exact hd (fld_hear _ _).1
  · rcases hact with ⟨h0, _⟩ | ⟨_, j, _, _, h0⟩ | ⟨j, hj, h1, h2, h3, h4⟩
    · rw [h0] at hd; cases hd
    · rw [h0, (fld_send _ _).1] at hd; cases hd
    · simp only [heardE, Bool.and_eq_true, beq_iff_eq] at hh
      obtain ⟨⟨e1, e2⟩, e3⟩ := hh
      have hkt : k < tbs.length := by omega
      have hki : k ≠ i := fun e => by rw [e, hd] at e1; cases e1
      rcases act_cases (a5 k hkt) with ⟨h0, _⟩ | ⟨_, u, hu, v1, v2⟩ | ⟨u, _, _, _, h0, _⟩
      · rw [h0] at e1; cases e1
      · rw [v2, h3, (fld_send _ _).2, (fld_hear _ _).2] at e2
        have oi := all_getD hok hi []
        have ok := all_getD hok hkt []
        simp only [okTab, Bool.and_eq_true] at oi ok
        have o1 := all_getD (offs_g oi.2) hj []
        have o2 := all_getD (offs_u ok.1.2) hu []
        simp only [Bool.and_eq_true, decide_eq_true_eq] at o1 o2
        have hoff := chan_inj ha0 o2.1 o2.2 o1.1 o1.2 e2
        rw [h4]
        rcases Classical.em ((k : Int) = fld ((grantsOf (tbs.getD i [])).getD j []) 2) with hx | hx
        · exact hx
        · refine (hcl i hi j hj h2 k hkt ?_ hki hx u hu ⟨by rw [v1, h1], hoff⟩).elim
          rw [hearsL_at _ _ (by omega) (by omega)]
          exact hears_of (acts := acts) (by omega) (by omega) hki e3
      · rw [h0, (fld_hear _ _).1] at e1; cases e1
  · intro e
    simp only [heardE, Bool.and_eq_true, beq_iff_eq] at hh
    rw [e, hd] at hh
    cases hh.1.1
end Go.Am.Cells
