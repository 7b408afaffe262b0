/- TopCellsOnAir: the law itself: what it calls. -/
import Derived.Test.YtpkljgaokgfpnaaGreatDoorClash3
import Derived.Test.YtpkljgaokgfpnaaGreatDoorAmM
set_option maxRecDepth 1000000
set_option linter.unusedVariables false
set_option linter.unusedSimpArgs false
set_option linter.unusedSectionVars false
namespace Go.Am.Cells
open Go Go.Am
def sp4 : List AV → (AV → Prop) → Prop := fun args K => match args with
  | [] => K (.bool true)
  | _ => False
/-- The rows of a slice, nil or not. -/
def toL : AV → Option (List (List AV))
  | .lst es _ => some es
  | .snil => some []
  | _ => none
/-- All rows of a table have their shapes. -/
def tab3 (u g a : List (List AV)) : Bool := short u && short g && short a && u.all (wf 4) && g.all (wf 5) && a.all (wf 3)
def sp5 : List AV → (AV → Prop) → Prop := fun args K => match args with
  | [.agg [x, y, z], .agg [.int .i64 n, .int .i64 d]] => match toL x, toL y, toL z with
    | some u, some g, some a => req (tab3 u g a) (∀ b : Bool, (b = true → layoutV n d = true ∧ u.all (useE n d) = true ∧ g.all (grantE n d) = true) → K (.bool b))
    | _, _, _ => False
  | _ => False
def sp6 : List AV → (AV → Prop) → Prop := fun args K => match args with
  | [.lst es _, .int .i64 r] => req (short es && es.all (wf 2)) (K (.bool (es.all placeE && decide ((es.length : Int) ≤ 60) && decide (r ≥ 0) && decide (r ≤ 20000))))
  | _ => False
def sp7 : List AV → (AV → Prop) → Prop := fun args K => match args with
  | [.agg [.lst u _, .lst g _, .lst a _]] => K (.bool (decide (u.length ≤ 40) && decide (g.length ≤ 40) && decide (a.length ≤ 40)))
  | _ => False
def unpl (es : List (List AV)) : List (Int × Int) := es.map fun c => (fld c 0, fld c 1)
def sp8 : List AV → (AV → Prop) → Prop := fun args K => match args with
  | [.lst es _, .int .i64 r] => req (Nat.ble es.length 12 && decide (0 ≤ r) && decide (r ≤ 20000) && es.all (wf 2) && es.all placeE) (K (.tup [.lst (hearsL (unpl es) r) true, .i 0]))
  | _ => False
def sp9 : List AV → (AV → Prop) → Prop := fun args K => match args with
  | [.lst hs _, .lst tbs _, .int .i64 fr] => req (Nat.ble tbs.length 12 && Nat.beq hs.length tbs.length && tbs.all tabOk && hs.all (hearOk tbs.length)) (∀ (es : List (List AV)) (f : Bool), (es = [] → NoClash hs tbs fr) → K (.lst es f))
  | _ => False
def sp11 : List AV → (AV → Prop) → Prop := fun args K => match args with
  | [.lst acts _, .lst pls _, .int .i64 r, .snil, .int .i64 asn] => req (short acts && acts.all wfA && pls.all (wf 2) && Nat.beq pls.length acts.length && radios acts pls && Nat.ble acts.length 200 && decide (0 ≤ r) && decide (r ≤ 20000) && decide (0 ≤ asn) && decide (asn ≤ 1000000000)) (∀ es : List (List AV), caughtP acts pls r es → K (.tup [.lst es true, .i 0]))
  | _ => False
def P4 (f : FuncId) : Option (List AV → (AV → Prop) → Prop) :=
  match f with
  | 4 => some sp4
  | 5 => some sp5
  | 6 => some sp6
  | 7 => some sp7
  | 8 => some sp8
  | 9 => some sp9
  | 11 => some sp11
  | f => P1 f
theorem told_weaken {f : FuncId} {args args' : List AV} {K : AV → Prop} (h : ATold C f args' K) (hw : ∀ μ vs, VRelL μ args vs → VRelL μ args' vs) : ATold C f args K := by
  intro h0 μ w vs hr hG ha
  exact h h0 μ w vs hr hG (hw μ vs.toList ha)
theorem told_of {f : FuncId} {args : List AV} {v : AV} {K : AV → Prop} (h : APure C f args v) (hK : K v) : ATold C f args K := fun h0 =>
  (h h0).mono fun r h' ⟨h1, h2⟩ => ⟨⟨v, h1, hK⟩, h2⟩
theorem toL_rel {x : AV} {es : List (List AV)} (h : toL x = some es) : ∃ f, ∀ μ v, VRel μ x v → VRel μ (.lst es f) v := by
  cases x <;> simp only [toL, Option.some.injEq, reduceCtorEq] at h
  case lst es' f => subst h; exact ⟨f, fun _ _ hv => hv⟩
  case snil => subst h; exact ⟨true, fun _ _ hv => by simp only [VRel] at hv ⊢; exact .inl ⟨trivial, none, hv⟩⟩
theorem unpl_pl {es : List (List AV)} (h : es.all (wf 2) = true) : pl (unpl es) = es := by
  induction es with
  | nil => rfl
  | cons c es ih =>
    simp only [List.all_cons, Bool.and_eq_true] at h
    have hl := wf_len h.1
    have i0 := wf_int h.1 (j := 0) (by omega)
    have i1 := wf_int h.1 (j := 1) (by omega)
    match c, hl with
    | [a, b], _ =>
      simp only [unpl, List.map_cons, pl]
      rw [show List.map (fun c => (fld c 0, fld c 1)) es = unpl es from rfl, ih h.2]
      simp only [fld, List.getD_cons_zero, List.getD_cons_succ] at i0 i1 ⊢
      cases a <;> simp [isInt] at i0
      cases b <;> simp [isInt] at i1
      subst i0; subst i1
      rfl
theorem P4ok (hHead : APure C 4 [] (.bool true)) : POk P4 := by
  intro f spec h args K hs
  unfold P4 at h
  split at h <;> (try (injection h with h; subst h))
  · unfold sp4 at hs
    split at hs
    · exact told_of hHead hs
    · exact hs.elim
  · unfold sp5 at hs
    split at hs
    · rename_i x y z n d
      split at hs
      · rename_i u g a hx hy hz
        simp only [req_iff, tab3, Bool.and_eq_true] at hs
        obtain ⟨⟨⟨⟨⟨⟨h1, h2⟩, h3⟩, h4⟩, h5⟩, h6⟩, hK⟩ := hs
        obtain ⟨f1, r1⟩ := toL_rel hx
        obtain ⟨f2, r2⟩ := toL_rel hy
        obtain ⟨f3, r3⟩ := toL_rel hz
        refine told_weaken (t5 u g a f1 f2 f3 n d K h1 h2 h3 h4 h5 h6 hK) (fun μ vs hv => ?_)
        simp only [VRelL, VRel] at hv
        obtain ⟨v, l, rfl, ⟨A, rfl, w1, l1, e1, x1, w2, l2, e2, x2, w3, l3, e3, x3, e4⟩, hrest⟩ := hv
        simp only [VRelL]
        refine ⟨_, _, rfl, ?_, ?_⟩
        · rw [VRel]
          refine ⟨A, rfl, ?_⟩
          simp only [VRelL]
          exact ⟨w1, l1, e1, r1 _ _ x1, w2, l2, e2, r2 _ _ x2, w3, l3, e3, r3 _ _ x3, e4⟩
        · simpa only [VRel, VRelL] using hrest
      · exact hs.elim
    · exact hs.elim
  · unfold sp6 at hs
    split at hs
    · simp only [req_iff, Bool.and_eq_true] at hs
      exact told_of (p6f _ _ _ hs.1.1 hs.1.2) hs.2
    · exact hs.elim
  · unfold sp7 at hs
    split at hs
    · exact told_of (p7 _ _ _ _ _ _) hs
    · exact hs.elim
  · unfold sp8 at hs
    split at hs
    · rename_i es f r
      simp only [req_iff, Bool.and_eq_true, decide_eq_true_eq] at hs
      obtain ⟨⟨⟨⟨⟨h1, h2⟩, h3⟩, h4⟩, h5⟩, hK⟩ := hs
      have h1 := Nat.le_of_ble_eq_true h1
      have := p8 (unpl es) f r (by simpa [unpl] using h1) h2 h3 (by rw [unpl_pl h4]; exact h5)
      rw [unpl_pl h4] at this
      exact told_of this hK
    · exact hs.elim
  · unfold sp9 at hs
    split at hs
    · simp only [req_iff, Bool.and_eq_true] at hs
      obtain ⟨⟨⟨⟨h1, h2⟩, h3⟩, h4⟩, hK⟩ := hs
      exact t9 _ _ _ _ _ K (Nat.le_of_ble_eq_true h1) (Nat.eq_of_beq_eq_true h2) h3 h4 hK
    · exact hs.elim
  · unfold sp11 at hs
    split at hs
    · simp only [req_iff, Bool.and_eq_true, decide_eq_true_eq] at hs
      obtain ⟨⟨⟨⟨⟨⟨⟨⟨⟨⟨h1, h2⟩, h3⟩, h4⟩, h5⟩, h6⟩, h7⟩, h8⟩, h9⟩, h10⟩, hK⟩ := hs
      exact t11 _ _ _ _ _ _ K h1 h2 h3 h4 h5 (Nat.le_of_ble_eq_true h6) h7 h8 h9 h10 hK
    · exact hs.elim
  · exact P1ok _ _ h args K hs
def S4 : Specs := .plain P4 (fun _ => none)
def p3a : List Bool := [false, true, false, true, true, true, true]
abbrev t3a : List Nat := [1, 2, 3, 4, 5, 6, 12, 13, 14, 70, 71, 72]
abbrev v3a (tbs ps : List (List AV)) (ft fp : Bool) (r fr sl : Int) (k : Int) : List AV := [.lst tbs ft, .lst ps fp, .i r, .int .u16 fr, .int .u8 sl, .ptr 0 0, .bool false, .bool true, .i tbs.length, .lst tbs ft, .i tbs.length, .i k]
theorem vc3a (tbs ps : List (List AV)) (ft fp : Bool) (n d r fr sl k : Int) (K : KT2) : (wpC C S4 1000 none (some (3, false :: p3a)) (loopAt 3 p3a) (kobs2 t3a [0] K) (mkE 302 (t3a.zip (v3a tbs ps ft fp r fr sl k))) (mkH 36 [(0, .cells [.i n, .i d])])) = (cas (decide (k < (↑tbs.length : Int)))
  (req (decide (0 ≤ k) && decide (k < (↑tbs.length : Int)))
    (req ((tbs.getD k.toNat []).length.beq 3)
      (req (Nat.ble 3 (tbs.getD k.toNat []).length)
        (req (isLst ((tbs.getD k.toNat []).getD 0 (AV.tup [])) && (isLst ((tbs.getD k.toNat []).getD 1 (AV.tup [])) && (isLst ((tbs.getD k.toNat []).getD 2 (AV.tup [])) && true)))
          (cas
            (!(decide ((lstOf ((tbs.getD k.toNat []).getD 0 (AV.tup []))).length ≤ 40) && decide ((lstOf ((tbs.getD k.toNat []).getD 1 (AV.tup []))).length ≤ 40) &&
                decide ((lstOf ((tbs.getD k.toNat []).getD 2 (AV.tup []))).length ≤ 40)))
            (K AX.ret 302 []
              [some (AV.lst tbs ft), some (AV.lst ps fp), some (AV.int IntKind.i64 r), some (AV.int IntKind.u16 fr), some (AV.int IntKind.u8 sl), some (AV.ptr 0 0), some (AV.bool true),
                some (AV.bool true), some (AV.int IntKind.i64 (↑tbs.length : Int)), some (AV.lst tbs ft), some (AV.int IntKind.i64 (↑tbs.length : Int)), some (AV.int IntKind.i64 k)]
              [some (AObj.cells [AV.int IntKind.i64 n, AV.int IntKind.i64 d])] 52)
            (req (tab3 (lstOf ((tbs.getD k.toNat []).getD 0 (AV.tup []))) (lstOf ((tbs.getD k.toNat []).getD 1 (AV.tup []))) (lstOf ((tbs.getD k.toNat []).getD 2 (AV.tup []))))
              (∀ (b : Bool),
                (b = true →
                    layoutV (intOf ([AV.i n, AV.i d].getD 0 AV.undef)) (intOf ([AV.i n, AV.i d].getD (0 + 1) AV.undef)) = true ∧
                      (lstOf ((tbs.getD k.toNat []).getD 0 AV.undef)).all (useE (intOf ([AV.i n, AV.i d].getD 0 AV.undef)) (intOf ([AV.i n, AV.i d].getD (0 + 1) AV.undef))) = true ∧
                        (lstOf ((tbs.getD k.toNat []).getD (0 + 1) AV.undef)).all (grantE (intOf ([AV.i n, AV.i d].getD 0 AV.undef)) (intOf ([AV.i n, AV.i d].getD (0 + 1) AV.undef))) = true) →
                  cas (!b)
                    (K AX.ret 302 []
                      [some (AV.lst tbs ft), some (AV.lst ps fp), some (AV.int IntKind.i64 r), some (AV.int IntKind.u16 fr), some (AV.int IntKind.u8 sl), some (AV.ptr 0 0), some (AV.bool true),
                        some (AV.bool true), some (AV.int IntKind.i64 (↑tbs.length : Int)), some (AV.lst tbs ft), some (AV.int IntKind.i64 (↑tbs.length : Int)), some (AV.int IntKind.i64 k)]
                      [some (AObj.cells [AV.int IntKind.i64 n, AV.int IntKind.i64 d])] 52)
                    (K AX.normal 302 []
                      [some (AV.lst tbs ft), some (AV.lst ps fp), some (AV.int IntKind.i64 r), some (AV.int IntKind.u16 fr), some (AV.int IntKind.u8 sl), some (AV.ptr 0 0), some (AV.bool false),
                        some (AV.bool true), some (AV.int IntKind.i64 (↑tbs.length : Int)), some (AV.lst tbs ft), some (AV.int IntKind.i64 (↑tbs.length : Int)),
                        some (AV.int IntKind.i64 (IntKind.i64.wrap (k + 1)))]
                      [some (AObj.cells [AV.int IntKind.i64 n, AV.int IntKind.i64 d])] 52))))))))
  (K (AX.exit 0) 302 []
    [some (AV.lst tbs ft), some (AV.lst ps fp), some (AV.int IntKind.i64 r), some (AV.int IntKind.u16 fr), some (AV.int IntKind.u8 sl), some (AV.ptr 0 0), some (AV.bool false), some (AV.bool true),
      some (AV.int IntKind.i64 (↑tbs.length : Int)), some (AV.lst tbs ft), some (AV.int IntKind.i64 (↑tbs.length : Int)), some (AV.int IntKind.i64 k)]
    [some (AObj.cells [AV.int IntKind.i64 n, AV.int IntKind.i64 d])] 37)) := by kernel_rfl

theorem short_40 {α : Type} {l : List α} (h : l.length ≤ 40) : short l = true := Nat.ble_eq_true_of_le (by omega)
/-! ### The tables, one by one -/
def asksOf (c : List AV) : List (List AV) := lstOf (c.getD 2 .undef)
def tabRow (c : List AV) : Bool := Nat.beq c.length 3 && (isLst (c.getD 0 .undef) && (isLst (c.getD 1 .undef) && (isLst (c.getD 2 .undef) && true))) && (usesOf c).all (wf 4) && (grantsOf c).all (wf 5) && (asksOf c).all (wf 3)
def okTab (n d : Int) (c : List AV) : Bool := layoutV n d && decide ((usesOf c).length ≤ 40) && decide ((grantsOf c).length ≤ 40) && (usesOf c).all (useE n d) && (grantsOf c).all (grantE n d)
def L3a : Option Nat → Env → AH → AQ → Prop := fun ro e h Q =>
  match ro, obs e t3a, h.get 0 with
  | none, [some (.lst tbs ft), some (.lst ps fp), some (.int .i64 r), some (.int .u16 fr), some (.int .u8 sl), some (.ptr 0 0), some (.bool false), some (.bool true), some (.int .i64 m), some (.lst tbs' ft'), some (.int .i64 m'), some (.int .i64 0)], some (.cells [.int .i64 n, .int .i64 d]) =>
    (tbs' = tbs ∧ ft' = ft) ∧ req (Nat.beq e.n 302 && e.ds.isEmpty && Nat.beq h.next 36) (req ((m == tbs.length) && (m' == tbs.length) && short tbs && tbs.all tabRow)
      ((tbs.all (okTab n d) = true → Q (.exit 0) (mkE 302 (t3a.zip (v3a tbs ps ft fp r fr sl tbs.length))) (mkH 36 [(0, .cells [.i n, .i d])])) ∧
        Q .ret (mkE 302 (List.zip t3a [.lst tbs ft, .lst ps fp, .i r, .int .u16 fr, .int .u8 sl, .ptr 0 0, .bool true])) (mkH 36 [(0, .cells [.i n, .i d])])))
  | _, _, _ => False
theorem L3aok (hHead : APure C 4 [] (.bool true)) {fn : Func} {body c : Code} (h1 : C.F 3 = some fn) (h2 : fn.body = some body) (h3 : codeAt body p3a = some (.loop c)) (ro : Option Nat) (e : Env) (h : AH) (Q : AQ) (hl : L3a ro e h Q) : ASem C ro (.loop c) Q e h := by
  have hloc := loc_of h1 h2 h3
  obtain rfl := loopAt_eq h1 h2 h3
  unfold L3a at hl
  split at hl
  · rename_i tbs ft ps fp r fr sl m tbs' ft' m' n d hob hg0
    obtain ⟨⟨rfl, rfl⟩, hl⟩ := hl
    simp only [req_iff, Bool.and_eq_true, List.isEmpty_iff, beq_iff_eq] at hl
    obtain ⟨⟨⟨n1, n2⟩, n3⟩, ⟨⟨⟨rfl, rfl⟩, hsh⟩, htab⟩, q1, q2⟩ := hl
    have n1 := Nat.eq_of_beq_eq_true n1
    have n3 := Nat.eq_of_beq_eq_true n3
    have hsh := short_le hsh
    have S4ok : SpecsOk C S4 := .of (P4ok hHead) rfl rfl (fun _ _ _ h => (by cases h))
    refine loop_here (α := Unit) (τ := Unit) 302 36 0 tbs'.length t3a [0] (by decide) (fun k _ => v3a tbs' ps ft' fp r fr sl k) (fun _ _ => [.cells [.i n, .i d]])
      (fun k _ => ∀ j, j < k → okTab n d (tbs'.getD j []) = true) (fun _ => [.lst tbs' ft', .lst ps fp, .i r, .int .u16 fr, .int .u8 sl, .ptr 0 0, .bool true]) (fun _ => [.cells [.i n, .i d]]) (fun _ => True) (fun _ hx => by cases hx) ?_ n3 e () (fun j hj => by omega)
      (by rw [hob]; rfl) n1 n2 (by simp only [List.map_cons, List.map_nil, hg0]; rfl) (fun _ ha => q1 ?_) (fun _ _ => q2)
    · intro k _ hk hinv
      refine (wpOk hC mixed S4ok 1000).c _ _ _ _ _ _ hloc ?_
      show wpC C S4 1000 none _ _ _ _ (mkH 36 [(0, .cells [.i n, .i d])])
      rw [vc3a]
      have hkk : (k : Int).toNat = k := rfl
      have hk1 : IntKind.i64.wrap ((k : Int) + 1) = ((k + 1 : Nat) : Int) := by rw [w64 (n := (k : Int) + 1) (by omega) (by omega)]; rfl
      rw [cas_iff]
      constructor
      · intro hlt
        have hlt : k < tbs'.length := by simpa using hlt
        have ht := all_getD htab hlt []
        simp only [tabRow, Bool.and_eq_true, usesOf, grantsOf, asksOf] at ht
        obtain ⟨⟨⟨⟨t1, t2⟩, t3⟩, t4⟩, t5⟩ := ht
        have t1 := Nat.eq_of_beq_eq_true t1
        have t2 : (isLst ((tbs'.getD k []).getD 0 .undef) && (isLst ((tbs'.getD k []).getD 1 .undef) && (isLst ((tbs'.getD k []).getD 2 .undef) && true))) = true := by simp only [Bool.and_eq_true]; exact t2
        have dk : (decide (0 ≤ (k : Int)) && decide ((k : Int) < (tbs'.length : Int))) = true := by simp; omega
        simp only [req_iff, cas_iff, hkk, t1, t2, dk, hk1]
        refine ⟨trivial, rfl, rfl, trivial, fun _ => ⟨(), trivial, rfl, rfl, by omega, rfl, rfl, rfl, rfl⟩, fun hfew => ⟨?_, fun b hb => ⟨fun _ => ⟨(), trivial, rfl, rfl, by omega, rfl, rfl, rfl, rfl⟩, fun hb1 => ⟨hlt, (), fun j hj => ?_, rfl, rfl, by omega, rfl, rfl, rfl, rfl⟩⟩⟩⟩
        · simp only [Bool.not_eq_false', Bool.and_eq_true, decide_eq_true_eq] at hfew
          simp only [tab3, Bool.and_eq_true]
          exact ⟨⟨⟨⟨⟨short_40 hfew.1.1, short_40 hfew.1.2⟩, short_40 hfew.2⟩, t3⟩, t4⟩, t5⟩
        rcases Nat.lt_or_ge j k with h5 | h5
        · exact hinv j h5
        · obtain rfl : j = k := by omega
          obtain ⟨f1, f2, f3⟩ := hb (by simpa using hb1)
          simp only [Bool.not_eq_false', Bool.and_eq_true, decide_eq_true_eq] at hfew
          simp only [okTab, Bool.and_eq_true, decide_eq_true_eq, usesOf, grantsOf]
          exact ⟨⟨⟨⟨f1, decide_eq_true hfew.1.1⟩, decide_eq_true hfew.1.2⟩, f2⟩, f3⟩
      · intro hge
        obtain rfl : k = tbs'.length := by simp at hge; omega
        exact ⟨rfl, hinv, ⟨rfl, rfl, by omega, rfl, rfl, rfl, rfl⟩⟩
    · rw [List.all_eq_true]
      intro x hx
      obtain ⟨j, hj, rfl⟩ := List.mem_iff_getElem.1 hx
      have := ha j hj
      simpa [List.getD_eq_getElem?_getD, hj] using this
  · exact hl.elim
end Go.Am.Cells
