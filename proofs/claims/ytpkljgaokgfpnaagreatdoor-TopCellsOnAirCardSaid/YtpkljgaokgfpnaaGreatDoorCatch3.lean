/- TopCellsOnAir: what all radios catch. -/
import Derived.Test.YtpkljgaokgfpnaaGreatDoorCatch2
set_option maxRecDepth 1000000
set_option linter.unusedVariables false
set_option linter.unusedSimpArgs false
set_option linter.unusedSectionVars false
namespace Go.Am.Cells
open Go Go.Am
def sp29 : List AV → (AV → Prop) → Prop := fun args K => match args with
  | [.agg [.lst acts _, .lst pls _, .int .i64 r], .int .i64 i] => req (decide (0 ≤ i) && decide (i < acts.length) && short acts && acts.all wfA && pls.all (wf 2) && Nat.beq pls.length acts.length) (∀ v : Int, catchP acts pls r i.toNat v → K (.i v))
  | _ => False
def P3 (f : FuncId) : Option (List AV → (AV → Prop) → Prop) :=
  match f with
  | 29 => some sp29
  | f => P1 f
theorem P3ok : POk P3 := by
  intro f spec h
  unfold P3 at h
  split at h
  · injection h with h; subst h
    intro args K hs
    unfold sp29 at hs
    split at hs
    · rename_i acts f1 pls f2 r i
      simp only [req_iff, Bool.and_eq_true, decide_eq_true_eq] at hs
      obtain ⟨⟨⟨⟨⟨⟨hi0, hi1⟩, hsh⟩, hw⟩, hp⟩, hl⟩, hK⟩ := hs
      have e : i = (i.toNat : Int) := by omega
      rw [e]
      exact t29 acts pls f1 f2 r i.toNat K (by omega) hsh hw hp (Nat.eq_of_beq_eq_true hl) hK
    · exact hs.elim
  · exact P1ok _ _ h
def S3 : Specs := .plain P3 (fun _ => none)
theorem S3ok : SpecsOk C S3 := .of P3ok rfl rfl (fun _ _ _ h => (by cases h))

def p11a : List Bool := [false, true, false, true, true]
def p11b : List Bool := [false, true, false, true, true, true, true, true]
theorem vc11a (acts pls : List (List AV)) (f1 f2 : Bool) (r asn k : Int) (K : KT2) : (wpC C S3 1000 none (some (11, false :: p11a)) (loopAt 11 p11a) (kobs2 [0, 1, 2, 3, 4, 44, 45, 46] [] K) (mkE 101 (List.zip [0, 1, 2, 3, 4, 44, 45, 46] [.lst acts f1, .lst pls f2, .i r, .snil, .i asn, .lst acts f1, .i acts.length, .i k])) (mkH 31 [])) = (cas (decide (k < (↑acts.length : Int)))
  (req (decide (0 ≤ k) && decide (k < (↑acts.length : Int)))
    (req ((acts.getD k.toNat []).length.beq 5)
      (req (Nat.ble 5 (acts.getD k.toNat []).length)
        (req
          (isInt IntKind.i64 ((acts.getD k.toNat []).getD 0 (AV.tup [])) &&
            (isInt IntKind.i64 ((acts.getD k.toNat []).getD 1 (AV.tup [])) &&
              (isInt IntKind.i64 ((acts.getD k.toNat []).getD 2 (AV.tup [])) &&
                (isInt IntKind.i64 ((acts.getD k.toNat []).getD 3 (AV.tup [])) && (isInt IntKind.i64 ((acts.getD k.toNat []).getD 4 (AV.tup [])) && true)))))
          (req (decide (0 ≤ k) && decide (k < (↑pls.length : Int)))
            (req ((pls.getD k.toNat []).length.beq 2)
              (req (Nat.ble 2 (pls.getD k.toNat []).length)
                (req (isInt IntKind.i64 ((pls.getD k.toNat []).getD 0 (AV.tup [])) && (isInt IntKind.i64 ((pls.getD k.toNat []).getD 1 (AV.tup [])) && true))
                  (cas
                    (!radioV (intOf ((acts.getD k.toNat []).getD 0 (AV.tup []))) (intOf ((acts.getD k.toNat []).getD 1 (AV.tup []))) (intOf ((pls.getD k.toNat []).getD 0 (AV.tup [])))
                        (intOf ((pls.getD k.toNat []).getD 1 (AV.tup []))))
                    (K AX.ret 101 []
                      [some (AV.lst acts f1), some (AV.lst pls f2), some (AV.int IntKind.i64 r), some AV.snil, some (AV.int IntKind.i64 asn), some (AV.lst acts f1),
                        some (AV.int IntKind.i64 (↑acts.length : Int)), some (AV.int IntKind.i64 k)]
                      [] 47)
                    (K AX.normal 101 []
                      [some (AV.lst acts f1), some (AV.lst pls f2), some (AV.int IntKind.i64 r), some AV.snil, some (AV.int IntKind.i64 asn), some (AV.lst acts f1),
                        some (AV.int IntKind.i64 (↑acts.length : Int)), some (AV.int IntKind.i64 (IntKind.i64.wrap (k + 1)))]
                      [] 47))))))))))
  (K (AX.exit 0) 101 []
    [some (AV.lst acts f1), some (AV.lst pls f2), some (AV.int IntKind.i64 r), some AV.snil, some (AV.int IntKind.i64 asn), some (AV.lst acts f1), some (AV.int IntKind.i64 (↑acts.length : Int)),
      some (AV.int IntKind.i64 k)]
    [] 32)) := by kernel_rfl

theorem vc11b (acts pls : List (List AV)) (f1 f2 : Bool) (r asn k : Int) (n : Nat) (cs : List AV) (K : KT2) : (wpC C S3 1000 none (some (11, false :: p11b)) (loopAt 11 p11b) (kobs2 [0, 1, 2, 3, 4, 14, 15, 66, 67, 68] [35, 39] K) (mkE 101 (List.zip [0, 1, 2, 3, 4, 14, 15, 66, 67, 68] [.lst acts f1, .lst pls f2, .i r, .snil, .i asn, .ptr 35 0, .sl 39 0 n n none, .lst acts f1, .i acts.length, .i k])) (mkH 44 (List.zip [35, 39] [.cells (wE acts pls f1 f2 r), .cells cs]))) = (cas (decide (k < (↑acts.length : Int)))
  (req (decide (0 ≤ k) && decide (k < (↑acts.length : Int)))
    (req ((acts.getD k.toNat []).length.beq 5)
      (req (Nat.ble 5 (acts.getD k.toNat []).length)
        (req
          (isInt IntKind.i64 ((acts.getD k.toNat []).getD 0 (AV.tup [])) &&
            (isInt IntKind.i64 ((acts.getD k.toNat []).getD 1 (AV.tup [])) &&
              (isInt IntKind.i64 ((acts.getD k.toNat []).getD 2 (AV.tup [])) &&
                (isInt IntKind.i64 ((acts.getD k.toNat []).getD 3 (AV.tup [])) && (isInt IntKind.i64 ((acts.getD k.toNat []).getD 4 (AV.tup [])) && true)))))
          (cas (intOf ((acts.getD k.toNat []).getD 0 (AV.tup [])) != 1)
            (req (decide (0 ≤ k) && decide (k < (↑n : Int)))
              (req ((0 + k.toNat * 1 + 1).ble cs.length)
                (K AX.normal 101 []
                  [some (AV.lst acts f1), some (AV.lst pls f2), some (AV.int IntKind.i64 r), some AV.snil, some (AV.int IntKind.i64 asn), some (AV.ptr 35 0), some (AV.sl 39 0 n n none),
                    some (AV.lst acts f1), some (AV.int IntKind.i64 (↑acts.length : Int)), some (AV.int IntKind.i64 (IntKind.i64.wrap (k + 1)))]
                  [some (AObj.cells [AV.lst acts f1, AV.lst pls f2, AV.int IntKind.i64 r]), some (AObj.cells (splice cs (0 + k.toNat * 1) [AV.int IntKind.i64 (-1)]))] 61)))
            (req (decide (0 ≤ k) && decide (k < (↑pls.length : Int)))
              (req ((pls.getD k.toNat []).length.beq 2)
                (req (Nat.ble 2 (pls.getD k.toNat []).length)
                  (req (isInt IntKind.i64 ((pls.getD k.toNat []).getD 0 (AV.tup [])) && (isInt IntKind.i64 ((pls.getD k.toNat []).getD 1 (AV.tup [])) && true))
                    (req (decide (0 ≤ k) && decide (k < (↑acts.length : Int)) && short acts && acts.all wfA && pls.all (wf 2) && pls.length.beq acts.length)
                      (∀ (v : Int),
                        catchP acts pls r k.toNat v →
                          req (decide (0 ≤ k) && decide (k < (↑n : Int)))
                            (req ((0 + k.toNat * 1 + 1).ble cs.length)
                              (K AX.normal 101 []
                                [some (AV.lst acts f1), some (AV.lst pls f2), some (AV.int IntKind.i64 r), some AV.snil, some (AV.int IntKind.i64 asn), some (AV.ptr 35 0), some (AV.sl 39 0 n n none),
                                  some (AV.lst acts f1), some (AV.int IntKind.i64 (↑acts.length : Int)), some (AV.int IntKind.i64 (IntKind.i64.wrap (k + 1)))]
                                [some (AObj.cells [AV.lst acts f1, AV.lst pls f2, AV.int IntKind.i64 r]), some (AObj.cells (splice cs (0 + k.toNat * 1) [AV.int IntKind.i64 v]))] 74)))))))))))))
  (K (AX.exit 2) 101 []
    [some (AV.lst acts f1), some (AV.lst pls f2), some (AV.int IntKind.i64 r), some AV.snil, some (AV.int IntKind.i64 asn), some (AV.ptr 35 0), some (AV.sl 39 0 n n none), some (AV.lst acts f1),
      some (AV.int IntKind.i64 (↑acts.length : Int)), some (AV.int IntKind.i64 k)]
    [some (AObj.cells [AV.lst acts f1, AV.lst pls f2, AV.int IntKind.i64 r]), some (AObj.cells cs)] 45)) := by kernel_rfl


/-- All radios are set right. -/
def radioE (acts pls : List (List AV)) (j : Nat) : Bool := radioV (fld (acts.getD j []) 0) (fld (acts.getD j []) 1) (fld (pls.getD j []) 0) (fld (pls.getD j []) 1)
def radios (acts pls : List (List AV)) : Bool := (List.range acts.length).all (radioE acts pls)
theorem radios_at {acts pls : List (List AV)} (h : radios acts pls = true) {j : Nat} (hj : j < acts.length) : radioE acts pls j = true := by
  simp only [radios, List.all_eq_true] at h
  exact h j (List.mem_range.2 hj)
def L11a : Option Nat → Env → AH → AQ → Prop := fun ro e h Q =>
  match ro, obs e [0, 1, 2, 3, 4, 44, 45, 46] with
  | none, [some (.lst acts f1), some (.lst pls f2), some (.int .i64 r), some .snil, some (.int .i64 asn), some (.lst acts' f1'), some (.int .i64 m), some (.int .i64 0)] =>
    (acts' = acts ∧ f1' = f1) ∧
    req (Nat.beq e.n 101 && e.ds.isEmpty && Nat.beq h.next 31) (req ((m == acts.length) && short acts && acts.all wfA && pls.all (wf 2) && Nat.beq pls.length acts.length && radios acts pls)
      (Q (.exit 0) (mkE 101 (List.zip [0, 1, 2, 3, 4, 44, 45, 46] [.lst acts f1, .lst pls f2, .i r, .snil, .i asn, .lst acts f1, .i acts.length, .i acts.length])) (mkH 31 [])))
  | _, _ => False
theorem L11aok {fn : Func} {body c : Code} (h1 : C.F 11 = some fn) (h2 : fn.body = some body) (h3 : codeAt body p11a = some (.loop c)) (ro : Option Nat) (e : Env) (h : AH) (Q : AQ) (hl : L11a ro e h Q) : ASem C ro (.loop c) Q e h := by
  have hloc := loc_of h1 h2 h3
  obtain rfl := loopAt_eq h1 h2 h3
  unfold L11a at hl
  split at hl
  · rename_i acts f1 pls f2 r asn acts' f1' m hob
    obtain ⟨⟨rfl, rfl⟩, hl⟩ := hl
    simp only [req_iff, Bool.and_eq_true, List.isEmpty_iff, beq_iff_eq] at hl
    obtain ⟨⟨⟨n1, n2⟩, n3⟩, ⟨⟨⟨⟨⟨rfl, hsh⟩, hwa⟩, hwp⟩, hlen⟩, hrad⟩, q1⟩ := hl
    have n1 := Nat.eq_of_beq_eq_true n1
    have n3 := Nat.eq_of_beq_eq_true n3
    have hlen := Nat.eq_of_beq_eq_true hlen
    have hsh := short_le hsh
    refine loop_here (α := Unit) (τ := Unit) 101 31 0 acts'.length [0, 1, 2, 3, 4, 44, 45, 46] [] (by simp) (fun k _ => [.lst acts' f1', .lst pls f2, .i r, .snil, .i asn, .lst acts' f1', .i acts'.length, .i k]) (fun _ _ => [])
      (fun k _ => True) (fun _ => []) (fun _ => []) (fun _ => False) (fun _ hx => by cases hx) ?_ n3 e () trivial
      (by rw [hob]; rfl) n1 n2 rfl (fun _ _ => q1) (fun _ hf => hf.elim)
    intro k _ hk _
    refine (wpOk hC mixed S3ok 1000).c _ _ _ _ _ _ hloc ?_
    show wpC C S3 1000 none _ _ _ _ (mkH 31 [])
    rw [vc11a]
    have hkk : (k : Int).toNat = k := rfl
    rw [cas_iff]
    constructor
    · intro hlt
      have hlt : k < acts'.length := by simpa using hlt
      have hg := all_getD (wfA_all hwa) hlt []
      have hgl := wf_len hg
      have i0 := wf_int hg (j := 0) (by omega)
      have i1 := wf_int hg (j := 1) (by omega)
      have i2 := wf_int hg (j := 2) (by omega)
      have i3 := wf_int hg (j := 3) (by omega)
      have i4 := wf_int hg (j := 4) (by omega)
      have hp := all_getD hwp (show k < pls.length by omega) []
      have hpl := wf_len hp
      have a0 := wf_int hp (j := 0) (by omega)
      have a1 := wf_int hp (j := 1) (by omega)
      have hr := radios_at hrad hlt
      simp only [radioE, fld] at hr
      have dk : ∀ m : Nat, m = acts'.length → (decide (0 ≤ (k : Int)) && decide ((k : Int) < (m : Int))) = true := fun m hm => by subst hm; simp; omega
      simp only [req_iff, cas_iff, hkk, hgl, hpl, i0, i1, i2, i3, i4, a0, a1, hr]
      refine ⟨dk _ rfl, rfl, rfl, rfl, dk _ hlen, rfl, rfl, rfl, fun hx => (by cases hx), fun _ => ⟨hlt, (), trivial, rfl, rfl, by omega, ?_, rfl, rfl, rfl⟩⟩
      rw [w64 (n := (k : Int) + 1) (by omega) (by omega)]
      rfl
    · intro hge
      obtain rfl : k = acts'.length := by simp at hge; omega
      exact ⟨rfl, trivial, ⟨rfl, rfl, by omega, rfl, rfl, rfl, rfl⟩⟩
  · exact hl.elim

/-- What one node catches. -/
def outP (acts pls : List (List AV)) (r : Int) (j : Nat) (v : Int) : Prop := (fld (acts.getD j []) 0 ≠ 1 ∧ v = -1) ∨ (fld (acts.getD j []) 0 = 1 ∧ catchP acts pls r j v)
theorem fld_splice {D : Nat} {cs : List AV} (h : okCs D cs = true) {k : Nat} (hk : k < D) (z : Int) (j : Nat) : fld (splice cs k [.int .i64 z]) j = if j = k then z else fld cs j := by
  have hl : cs.length = D := by
    simp only [okCs, Bool.and_eq_true] at h
    exact Nat.eq_of_beq_eq_true h.1
  unfold fld splice
  simp only [List.getD_eq_getElem?_getD, List.length_singleton, List.append_assoc]
  split
  · rename_i hjk
    subst hjk
    rw [List.getElem?_append_right (by rw [List.length_take]; omega)]
    rw [show j - (List.take j cs).length = 0 by rw [List.length_take]; omega]
    rfl
  · rename_i hjk
    rcases Nat.lt_or_ge j k with hlt | hge
    · rw [List.getElem?_append_left (by rw [List.length_take]; omega), List.getElem?_take_of_lt hlt]
    · rw [List.getElem?_append_right (by rw [List.length_take]; omega), List.getElem?_append_right (by rw [List.length_take]; simp; omega), List.getElem?_drop]
      congr 3
      rw [List.length_take]; simp; omega
def L11b : Option Nat → Env → AH → AQ → Prop := fun ro e h Q =>
  match ro, obs e [0, 1, 2, 3, 4, 14, 15, 66, 67, 68], [35, 39].map h.get with
  | none, [some (.lst acts f1), some (.lst pls f2), some (.int .i64 r), some .snil, some (.int .i64 asn), some (.ptr 35 0), some (.sl 39 0 n n' none), some (.lst acts' f1'), some (.int .i64 m), some (.int .i64 0)], [some (.cells [.lst acts2 f12, .lst pls2 f22, .int .i64 r2]), some (.cells cs)] =>
    (acts' = acts ∧ f1' = f1) ∧ (acts2 = acts ∧ f12 = f1 ∧ pls2 = pls ∧ f22 = f2 ∧ r2 = r) ∧
    req (Nat.beq e.n 101 && e.ds.isEmpty && Nat.beq h.next 44) (req ((m == acts.length) && Nat.beq n acts.length && Nat.beq n' acts.length && short acts && acts.all wfA && pls.all (wf 2) && Nat.beq pls.length acts.length && okCs acts.length cs)
      (∀ cs', okCs acts.length cs' = true → (∀ j, j < acts.length → outP acts pls r j (fld cs' j)) → Q (.exit 2) (mkE 101 (List.zip [0, 1, 2, 3, 4, 14, 15, 66, 67, 68] [.lst acts f1, .lst pls f2, .i r, .snil, .i asn, .ptr 35 0, .sl 39 0 acts.length acts.length none, .lst acts f1, .i acts.length, .i acts.length])) (mkH 44 (List.zip [35, 39] [.cells (wE acts pls f1 f2 r), .cells cs']))))
  | _, _, _ => False
theorem okCs_len {D : Nat} {cs : List AV} (h : okCs D cs = true) : cs.length = D := by
  simp only [okCs, Bool.and_eq_true] at h
  exact Nat.eq_of_beq_eq_true h.1
theorem okCs_below {k D : Nat} {cs : List AV} (h : okCs D cs = true) : belowL k cs = true := by
  simp only [okCs, Bool.and_eq_true, List.all_eq_true] at h
  have : ∀ {l : List AV}, (∀ x ∈ l, isInt .i64 x = true) → belowL k l = true := by
    intro l
    induction l with
    | nil => intro _; rfl
    | cons x xs ih =>
      intro hx
      have h1 := hx x (by simp)
      have h2 := ih fun y hy => hx y (List.mem_cons_of_mem _ hy)
      cases x <;> simp [isInt] at h1
      simpa [belowL, below] using h2
  exact this h.2
theorem L11bok {fn : Func} {body c : Code} (h1 : C.F 11 = some fn) (h2 : fn.body = some body) (h3 : codeAt body p11b = some (.loop c)) (ro : Option Nat) (e : Env) (h : AH) (Q : AQ) (hl : L11b ro e h Q) : ASem C ro (.loop c) Q e h := by
  have hloc := loc_of h1 h2 h3
  obtain rfl := loopAt_eq h1 h2 h3
  unfold L11b at hl
  split at hl
  · rename_i acts f1 pls f2 r asn n n' acts' f1' m acts2 f12 pls2 f22 r2 cs hob hoh
    obtain ⟨⟨rfl, rfl⟩, ⟨rfl, rfl, rfl, rfl, rfl⟩, hl⟩ := hl
    simp only [req_iff, Bool.and_eq_true, List.isEmpty_iff, beq_iff_eq] at hl
    obtain ⟨⟨⟨m1, m2⟩, m3⟩, ⟨⟨⟨⟨⟨⟨⟨rfl, hn⟩, hn'⟩, hsh⟩, hwa⟩, hwp⟩, hlen⟩, hcs⟩, q1⟩ := hl
    have m1 := Nat.eq_of_beq_eq_true m1
    have m3 := Nat.eq_of_beq_eq_true m3
    obtain rfl := Nat.eq_of_beq_eq_true hn
    obtain rfl := Nat.eq_of_beq_eq_true hn'
    have hlen' := hlen
    have hlen := Nat.eq_of_beq_eq_true hlen
    have hsh' := hsh
    have hsh := short_le hsh
    refine loop_here (α := List AV) (τ := Unit) 101 44 2 acts2.length [0, 1, 2, 3, 4, 14, 15, 66, 67, 68] [35, 39] (by decide) (fun k _ => [.lst acts2 f12, .lst pls2 f22, .i r2, .snil, .i asn, .ptr 35 0, .sl 39 0 acts2.length acts2.length none, .lst acts2 f12, .i acts2.length, .i k]) (fun _ cs => [.cells (wE acts2 pls2 f12 f22 r2), .cells cs])
      (fun k cs => okCs acts2.length cs = true ∧ ∀ j, j < k → outP acts2 pls2 r2 j (fld cs j)) (fun _ => []) (fun _ => []) (fun _ => False) (fun _ hx => by cases hx) ?_ m3 e cs ⟨hcs, fun j hj => by omega⟩
      (by rw [hob]; rfl) m1 m2 (by rw [hoh]; rfl) (fun cs' hc => q1 cs' hc.1 hc.2) (fun _ hf => hf.elim)
    intro k cs hk hinv
    obtain ⟨hcs, hinv⟩ := hinv
    have hcl := okCs_len hcs
    refine (wpOk hC mixed S3ok 1000).c _ _ _ _ _ _ hloc ?_
    rw [vc11b]
    have hkk : (k : Int).toNat = k := rfl
    rw [cas_iff]
    constructor
    · intro hlt
      have hlt : k < acts2.length := by simpa using hlt
      have hg := all_getD (wfA_all hwa) hlt []
      have hgl := wf_len hg
      have i0 := wf_int hg (j := 0) (by omega)
      have i1 := wf_int hg (j := 1) (by omega)
      have i2 := wf_int hg (j := 2) (by omega)
      have i3 := wf_int hg (j := 3) (by omega)
      have i4 := wf_int hg (j := 4) (by omega)
      have hp := all_getD hwp (show k < pls2.length by omega) []
      have hpl := wf_len hp
      have a0 := wf_int hp (j := 0) (by omega)
      have a1 := wf_int hp (j := 1) (by omega)
      have dk : ∀ m : Nat, m = acts2.length → (decide (0 ≤ (k : Int)) && decide ((k : Int) < (m : Int))) = true := fun m hm => by subst hm; simp; omega
      have hstep : ∀ (v : Int) (nx : Nat), 44 ≤ nx → outP acts2 pls2 r2 k v → k < acts2.length ∧ ∃ a', (okCs acts2.length a' = true ∧ ∀ j, j < k + 1 → outP acts2 pls2 r2 j (fld a' j)) ∧
          Here 101 44 [.lst acts2 f12, .lst pls2 f22, .i r2, .snil, .i asn, .ptr 35 0, .sl 39 0 acts2.length acts2.length none, .lst acts2 f12, .i acts2.length, .i ((k + 1 : Nat) : Int)] [.cells (wE acts2 pls2 f12 f22 r2), .cells a'] 101 []
            [some (.lst acts2 f12), some (.lst pls2 f22), some (.int .i64 r2), some .snil, some (.int .i64 asn), some (.ptr 35 0), some (.sl 39 0 acts2.length acts2.length none), some (.lst acts2 f12), some (.int .i64 (acts2.length : Int)), some (.int .i64 (IntKind.i64.wrap ((k : Int) + 1)))]
            [some (.cells [.lst acts2 f12, .lst pls2 f22, .int .i64 r2]), some (.cells (splice cs (0 + k * 1) [.int .i64 v]))] nx := fun v nx hnx hv => by
        rw [show 0 + k * 1 = k by omega]
        refine ⟨hlt, splice cs k [.int .i64 v], ⟨okCs_splice hcs hlt v, fun j hj => ?_⟩, rfl, rfl, hnx, ?_, rfl, rfl, ?_⟩
        · rw [fld_splice hcs hlt]
          split
          · rename_i hjk
            rw [hjk]; exact hv
          · exact hinv j (by omega)
        · rw [w64 (n := (k : Int) + 1) (by omega) (by omega)]
          rfl
        · simp only [List.all_cons, List.all_nil, Bool.and_true, Bool.and_eq_true]
          exact ⟨rfl, by simpa [belowO] using okCs_below (okCs_splice hcs hlt v)⟩
      simp only [req_iff, cas_iff, hkk, hgl, hpl, i0, i1, i2, i3, i4, a0, a1]
      refine ⟨dk _ rfl, rfl, rfl, rfl, fun hdo => ⟨dk _ rfl, ?_, ?_⟩, fun hdo => ⟨dk _ hlen, rfl, rfl, rfl, ?_, fun v hv => ⟨dk _ rfl, ?_, ?_⟩⟩⟩
      · rw [hcl]; exact Nat.ble_eq_true_of_le (by omega)
      · exact hstep (-1) _ (by omega) (.inl ⟨by simpa [fld] using hdo, rfl⟩)
      · simp only [dk _ rfl, hsh', hwa, hwp, hlen', Bool.and_self]
      · rw [hcl]; exact Nat.ble_eq_true_of_le (by omega)
      · exact hstep v _ (by omega) (.inr ⟨by simpa [fld] using hdo, hv⟩)
    · intro hge
      obtain rfl : k = acts2.length := by simp at hge; omega
      refine ⟨rfl, ⟨hcs, hinv⟩, ⟨rfl, rfl, by omega, rfl, rfl, rfl, ?_⟩⟩
      simp only [List.all_cons, List.all_nil, Bool.and_true, Bool.and_eq_true]
      exact ⟨rfl, by simpa [belowO] using okCs_below hcs⟩
  · exact hl.elim

def S11 : Specs := .plain P3 (fun loc => match loc with
  | some (11, [false, true, false, true, true]) => some L11a
  | some (11, [false, true, false, true, true, true, true, true]) => some L11b
  | _ => none)
theorem S11ok : SpecsOk C S11 := by
  refine .of P3ok rfl rfl (fun f p spec h fn body c h1 h2 h3 ro e h' Q hl => ?_)
  simp only [S11, Specs.plain] at h
  split at h <;> (try (cases h; done)) <;> (rename_i heq; simp only [Option.some.injEq, Prod.mk.injEq] at heq; obtain ⟨rfl, rfl⟩ := heq; injection h with h; subst h)
  · exact L11aok h1 h2 h3 ro e h' Q hl
  · exact L11bok h1 h2 h3 ro e h' Q hl
theorem vcf11 (acts pls : List (List AV)) (f1 f2 : Bool) (r asn : Int) (K : AV → AH → Prop) : (wpF C S11 1000 11 [.lst acts f1, .lst pls f2, .i r, .snil, .i asn] (retR K) ⟨0, .nil⟩) = (cas ((↑acts.length : Int) != (↑pls.length : Int)) (K (AV.tup [AV.snil, AV.int IntKind.i64 1]) { next := 30, tr := Tr.nil })
  (cas (decide ((↑acts.length : Int) > 200)) (K (AV.tup [AV.snil, AV.int IntKind.i64 1]) { next := 30, tr := Tr.nil })
    (cas (decide (r < 0)) (K (AV.tup [AV.snil, AV.int IntKind.i64 1]) { next := 30, tr := Tr.nil })
      (cas (decide (r > 20000)) (K (AV.tup [AV.snil, AV.int IntKind.i64 1]) { next := 30, tr := Tr.nil })
        (cas (decide (asn < 0)) (K (AV.tup [AV.snil, AV.int IntKind.i64 1]) { next := 30, tr := Tr.nil })
          (cas (decide (asn > 1000000000)) (K (AV.tup [AV.snil, AV.int IntKind.i64 1]) { next := 30, tr := Tr.nil })
            ((acts = acts ∧ f1 = f1) ∧
              req ((↑acts.length : Int) == (↑acts.length : Int) && short acts && acts.all wfA && pls.all (wf 2) && pls.length.beq acts.length && radios acts pls)
                (req (true && decide ((↑acts.length : Int) ≤ (↑acts.length : Int)))
                  (req (decide (8 * (↑acts.length : Int) ≤ 281474976710656) && decide ((↑acts.length : Int) ≤ 4611686018427387904))
                    ((acts = acts ∧ f1 = f1) ∧
                      (acts = acts ∧ f1 = f1 ∧ pls = pls ∧ f2 = f2 ∧ r = r) ∧
                        req
                          ((↑acts.length : Int) == (↑acts.length : Int) && (↑acts.length : Int).toNat.beq acts.length && (↑acts.length : Int).toNat.beq acts.length && short acts && acts.all wfA &&
                                pls.all (wf 2) &&
                              pls.length.beq acts.length &&
                            okCs acts.length (repl (↑acts.length : Int).toNat [AV.int IntKind.i64 0]))
                          (∀ (cs' : List AV),
                            okCs acts.length cs' = true →
                              (∀ (j : Nat), j < acts.length → outP acts pls r j (fld cs' j)) →
                                K (AV.tup [AV.sl 39 0 acts.length acts.length none, AV.int IntKind.i64 0])
                                  { next := 47,
                                    tr :=
                                      Tr.node none
                                        (Tr.node none
                                          (Tr.node none (Tr.node none Tr.nil (Tr.node none (Tr.node (some (AObj.cells cs')) Tr.nil Tr.nil) Tr.nil))
                                            (Tr.node none (Tr.node none (Tr.node (some (AObj.cells [AV.lst acts f1, AV.lst pls f2, AV.int IntKind.i64 r])) Tr.nil Tr.nil) Tr.nil) Tr.nil))
                                          Tr.nil)
                                        Tr.nil }))))))))))) := by kernel_rfl

theorem chunk_one : ∀ (cs : List AV), chunk 1 cs.length cs = cs.map fun x => [x]
  | [] => rfl
  | x :: xs => by simp [chunk, chunk_one xs]
theorem snap_ints {h : AH} {id n : Nat} {cs : List AV} (hg : h.get id = some (.cells cs)) (hc : okCs n cs = true) : Snap h (.sl id 0 n n none) (.lst (cs.map fun x => [x]) true) := by
  have hl := okCs_len hc
  have hb : (none : Option Nat).isNone && n == n := by simp
  rw [show true = ((none : Option Nat).isNone && n == n) by simp]
  refine .sl id 0 n n none cs 1 _ hg (by omega) (by simp [hl]) (by simp) ?_
  have h1 : (List.map (fun x => [x]) cs).flatten = cs := by
    clear hg hc hl hb
    induction cs with
    | nil => rfl
    | cons x xs ih => simp [ih]
  rw [h1, List.drop_zero, List.take_of_length_le (by omega)]
  refine .free ?_
  rw [idfreeL_iff]
  intro x hx
  simp only [okCs, Bool.and_eq_true, List.all_eq_true] at hc
  have := hc.2 x hx
  cases x <;> simp [isInt] at this
  rfl
/-- What all nodes catch: a list. -/
def caughtP (acts pls : List (List AV)) (r : Int) (es : List (List AV)) : Prop := es.length = acts.length ∧ es.all (wf 1) = true ∧ ∀ j, j < acts.length → outP acts pls r j (fld (es.getD j []) 0)
theorem t11 (acts pls : List (List AV)) (f1 f2 : Bool) (r asn : Int) (K : AV → Prop) (hs : short acts = true) (hw : acts.all wfA = true) (hp : pls.all (wf 2) = true) (hl : Nat.beq pls.length acts.length = true) (hr : radios acts pls = true)
    (g1 : acts.length ≤ 200) (g2 : 0 ≤ r) (g3 : r ≤ 20000) (g4 : 0 ≤ asn) (g5 : asn ≤ 1000000000) (hK : ∀ es, caughtP acts pls r es → K (.tup [.lst es true, .i 0])) :
    ATold C 11 [.lst acts f1, .lst pls f2, .i r, .snil, .i asn] K := by
  refine atold_wp hC mixed S11ok (n := 1000) rfl ?_
  rw [vcf11]
  have hl' := Nat.eq_of_beq_eq_true hl
  have c1 : ((acts.length : Int) != (pls.length : Int)) = false := by simp [hl']
  have c2 : decide ((acts.length : Int) > 200) = false := by simp; omega
  have c3 : decide (r < 0) = false := by simp; omega
  have c4 : decide (r > 20000) = false := by simp; omega
  have c5 : decide (asn < 0) = false := by simp; omega
  have c6 : decide (asn > 1000000000) = false := by simp; omega
  rw [c1, c2, c3, c4, c5, c6]
  simp only [cas_iff, req_iff, Int.toNat_natCast, Nat.beq_refl, beq_self_eq_true, hs, hw, hp, hl, hr, okCs_repl, Bool.and_self, Bool.true_and, true_and, Bool.false_eq_true, false_implies, true_implies]
  refine ⟨by simp, by rw [Bool.and_eq_true]; exact ⟨decide_eq_true (by omega), decide_eq_true (by omega)⟩, fun cs hcs hout => ⟨.tup [.lst (cs.map fun x => [x]) true, .i 0], .tup _ _ (.cons _ _ _ _ (snap_ints (by rfl) hcs) (.free rfl)), hK _ ⟨by simp [okCs_len hcs], ?_, ?_⟩⟩⟩
  · rw [List.all_eq_true]
    intro x hx
    simp only [List.mem_map] at hx
    obtain ⟨y, hy, rfl⟩ := hx
    simp only [okCs, Bool.and_eq_true, List.all_eq_true] at hcs
    simp [wf, hcs.2 y hy]
  · intro j hj
    have := hout j hj
    rw [List.getD_eq_getElem?_getD, List.getElem?_map]
    have hj' : j < cs.length := by rw [okCs_len hcs]; exact hj
    simpa [fld, List.getD_eq_getElem?_getD, List.getElem?_eq_getElem hj'] using this
end Go.Am.Cells
