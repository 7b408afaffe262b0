/- TopCellsOnAir: the law itself: what all nodes do in a slot. -/
import Derived.Test.YtpkljgaokgfpnaaGreatDoorMain1
set_option maxRecDepth 1000000
set_option linter.unusedVariables false
set_option linter.unusedSimpArgs false
set_option linter.unusedSectionVars false
namespace Go.Am.Cells
open Go Go.Am
def p3b : List Bool := [false, true, false, true, true, true, true, true, true, true, true, true, true, true]
def p3u : List Bool := [false, true, false, true, true, false, false, true, true, false, false, true, false, true, true, true, true, true, true, true, true, true, true, true]
def p3g : List Bool := [false, true, true, true, true, false, false, true, true, false, false, true, false, true, true, true, true, true, true, true, true, true, true, true]
abbrev t3u : List Nat := [1, 2, 3, 12, 13, 14, 19, 20, 21, 22, 23, 132, 133, 134, 24, 25, 143, 144, 145]
abbrev v3u (tbs ps us : List (List AV)) (ft fp fu : Bool) (r fr s asn : Int) (n : Nat) (i : Int) (k : Int) : List AV := [.lst tbs ft, .lst ps fp, .i r, .bool false, .bool true, .i tbs.length, .i fr, .i s, .i asn, .sl 78 0 n n none, .sl 80 0 n n none, .lst tbs ft, .i tbs.length, .i i, .i i, .ptr 90 0, .lst us fu, .i us.length, .i k]
theorem vc3u (tbs ps us u' g' a' : List (List AV)) (ft fp fu f1 f2 f3 : Bool) (r fr s asn i k : Int) (n : Nat) (cs qs : List AV) (K : KT2) : (wpC C S4 1000 none (some (3, false :: p3u)) (loopAt 3 p3u) (kobs2 t3u [78, 80, 90] K) (mkE 302 (t3u.zip (v3u tbs ps us ft fp fu r fr s asn n i k))) (mkH 101 (List.zip [78, 80, 90] [.cells cs, .cells qs, .cells [.lst u' f1, .lst g' f2, .lst a' f3]]))) = (cas (decide (k < (↑us.length : Int)))
  (req (decide (0 ≤ k) && decide (k < (↑us.length : Int)))
    (req ((us.getD k.toNat []).length.beq 4)
      (req (Nat.ble 4 (us.getD k.toNat []).length)
        (req
          (isInt IntKind.i64 ((us.getD k.toNat []).getD 0 (AV.tup [])) &&
            (isInt IntKind.i64 ((us.getD k.toNat []).getD 1 (AV.tup [])) &&
              (isInt IntKind.i64 ((us.getD k.toNat []).getD 2 (AV.tup [])) && (isInt IntKind.i64 ((us.getD k.toNat []).getD 3 (AV.tup [])) && true))))
          (cas (intOf ((us.getD k.toNat []).getD 0 (AV.tup [])) == s)
            (req (decide (0 ≤ asn) && decide (asn ≤ 1000000000) && decide (0 ≤ intOf ((us.getD k.toNat []).getD 1 (AV.tup []))) && decide (intOf ((us.getD k.toNat []).getD 1 (AV.tup [])) < 16))
              (req (decide (0 ≤ i) && decide (i < (↑n : Int)))
                (req ((0 + i.toNat * 5 + 5).ble cs.length)
                  (K AX.normal 302 []
                    [some (AV.lst tbs ft), some (AV.lst ps fp), some (AV.int IntKind.i64 r), some (AV.bool false), some (AV.bool true), some (AV.int IntKind.i64 (↑tbs.length : Int)),
                      some (AV.int IntKind.i64 fr), some (AV.int IntKind.i64 s), some (AV.int IntKind.i64 asn), some (AV.sl 78 0 n n none), some (AV.sl 80 0 n n none), some (AV.lst tbs ft),
                      some (AV.int IntKind.i64 (↑tbs.length : Int)), some (AV.int IntKind.i64 i), some (AV.int IntKind.i64 i), some (AV.ptr 90 0), some (AV.lst us fu),
                      some (AV.int IntKind.i64 (↑us.length : Int)), some (AV.int IntKind.i64 (IntKind.i64.wrap (k + 1)))]
                    [some
                        (AObj.cells
                          (splice cs (0 + i.toNat * 5)
                            [AV.int IntKind.i64 2, AV.int IntKind.i64 (chanV asn (intOf ((us.getD k.toNat []).getD 1 (AV.tup [])))), AV.int IntKind.i64 0, AV.int IntKind.i64 0,
                              AV.int IntKind.i64 0])),
                      some (AObj.cells qs), some (AObj.cells [AV.lst u' f1, AV.lst g' f2, AV.lst a' f3])]
                    131))))
            (K AX.normal 302 []
              [some (AV.lst tbs ft), some (AV.lst ps fp), some (AV.int IntKind.i64 r), some (AV.bool false), some (AV.bool true), some (AV.int IntKind.i64 (↑tbs.length : Int)),
                some (AV.int IntKind.i64 fr), some (AV.int IntKind.i64 s), some (AV.int IntKind.i64 asn), some (AV.sl 78 0 n n none), some (AV.sl 80 0 n n none), some (AV.lst tbs ft),
                some (AV.int IntKind.i64 (↑tbs.length : Int)), some (AV.int IntKind.i64 i), some (AV.int IntKind.i64 i), some (AV.ptr 90 0), some (AV.lst us fu),
                some (AV.int IntKind.i64 (↑us.length : Int)), some (AV.int IntKind.i64 (IntKind.i64.wrap (k + 1)))]
              [some (AObj.cells cs), some (AObj.cells qs), some (AObj.cells [AV.lst u' f1, AV.lst g' f2, AV.lst a' f3])] 113))))))
  (K (AX.exit 4) 302 []
    [some (AV.lst tbs ft), some (AV.lst ps fp), some (AV.int IntKind.i64 r), some (AV.bool false), some (AV.bool true), some (AV.int IntKind.i64 (↑tbs.length : Int)), some (AV.int IntKind.i64 fr),
      some (AV.int IntKind.i64 s), some (AV.int IntKind.i64 asn), some (AV.sl 78 0 n n none), some (AV.sl 80 0 n n none), some (AV.lst tbs ft), some (AV.int IntKind.i64 (↑tbs.length : Int)),
      some (AV.int IntKind.i64 i), some (AV.int IntKind.i64 i), some (AV.ptr 90 0), some (AV.lst us fu), some (AV.int IntKind.i64 (↑us.length : Int)), some (AV.int IntKind.i64 k)]
    [some (AObj.cells cs), some (AObj.cells qs), some (AObj.cells [AV.lst u' f1, AV.lst g' f2, AV.lst a' f3])] 102)) := by kernel_rfl

/-! ### Rows in memory that is owned -/
def rowA (cs : List AV) (i : Nat) : List AV := (cs.drop (i * 5)).take 5
theorem splice_get {cs xs : List AV} {off p : Nat} (h : off + xs.length ≤ cs.length) : (splice cs off xs)[p]? = if p < off then cs[p]? else if p < off + xs.length then xs[p - off]? else cs[p]? := by
  unfold splice
  rw [List.append_assoc]
  split
  · rename_i h1
    rw [List.getElem?_append_left (by rw [List.length_take]; omega), List.getElem?_take_of_lt h1]
  · rename_i h1
    rw [List.getElem?_append_right (by rw [List.length_take]; omega), show p - (List.take off cs).length = p - off by rw [List.length_take]; omega]
    split
    · rename_i h2
      rw [List.getElem?_append_left (by omega)]
    · rename_i h2
      rw [List.getElem?_append_right (by omega), List.getElem?_drop]
      congr 1
      omega
theorem splice_len {cs xs : List AV} {off : Nat} (h : off + xs.length ≤ cs.length) : (splice cs off xs).length = cs.length := by
  unfold splice
  simp only [List.length_append, List.length_take, List.length_drop]
  omega
theorem rowA_splice {n : Nat} {cs row : List AV} (hc : cs.length = n * 5) (hr : row.length = 5) {i j : Nat} (hi : i < n) (hj : j < n) : rowA (splice cs (i * 5) row) j = if j = i then row else rowA cs j := by
  apply List.ext_getElem?
  intro m
  have hle : i * 5 + row.length ≤ cs.length := by rw [hc, hr]; omega
  unfold rowA
  split
  · rename_i hji
    subst hji
    rw [List.getElem?_take]
    split
    · rw [List.getElem?_drop, splice_get hle, if_neg (by omega), if_pos (by omega)]
      congr 1
      omega
    · rw [List.getElem?_eq_none (by omega)]
  · rename_i hji
    rw [List.getElem?_take, List.getElem?_take]
    split
    · rw [List.getElem?_drop, List.getElem?_drop, splice_get hle]
      split
      · rfl
      · rw [if_neg (by omega)]
    · rfl
theorem okCs_row {n : Nat} {cs row : List AV} (hc : okCs (n * 5) cs = true) (hr : row.length = 5) (hri : row.all (isInt .i64) = true) {i : Nat} (hi : i < n) : okCs (n * 5) (splice cs (i * 5) row) = true := by
  have hl := okCs_len hc
  have hle : i * 5 + row.length ≤ cs.length := by rw [hl, hr]; omega
  simp only [okCs, Bool.and_eq_true, List.all_eq_true] at hc ⊢
  refine ⟨by rw [splice_len hle, hl]; exact Nat.beq_refl _, fun x hx => ?_⟩
  unfold splice at hx
  rcases List.mem_append.1 hx with hx | hx
  · rcases List.mem_append.1 hx with hx | hx
    · exact hc.2 x (List.mem_of_mem_take hx)
    · exact List.all_eq_true.1 hri x hx
  · exact hc.2 x (List.mem_of_mem_drop hx)

/-! ### A node's uses in the slot -/
def sendRow (asn o : Int) : List AV := [.i 2, .i (chanV asn o), .i 0, .i 0, .i 0]
/-- The node does nothing, or sends in a cell that it uses. -/
def sendP (us : List (List AV)) (s asn : Int) (row0 row : List AV) : Prop := row = row0 ∨ ∃ j, j < us.length ∧ fld (us.getD j []) 0 = s ∧ row = sendRow asn (fld (us.getD j []) 1)
def invU (us : List (List AV)) (s asn : Int) (n i : Nat) (cs0 : List AV) (cs : List AV) : Prop := okCs (n * 5) cs = true ∧ (∀ j, j < n → j ≠ i → rowA cs j = rowA cs0 j) ∧ sendP us s asn (rowA cs0 i) (rowA cs i)
def L3u : Option Nat → Env → AH → AQ → Prop := fun ro e h Q =>
  match ro, obs e t3u, [78, 80, 90].map h.get with
  | none, [some (.lst tbs ft), some (.lst ps fp), some (.int .i64 r), some (.bool false), some (.bool true), some (.int .i64 m1), some (.int .i64 fr), some (.int .i64 s), some (.int .i64 asn), some (.sl 78 0 n n' none), some (.sl 80 0 n2 n3 none), some (.lst tbs' ft'), some (.int .i64 m2), some (.int .i64 i), some (.int .i64 i'), some (.ptr 90 0), some (.lst us fu), some (.int .i64 m3), some (.int .i64 0)], [some (.cells cs), some (.cells qs), some (.cells [.lst u' f1, .lst g' f2, .lst a' f3])] =>
    (tbs' = tbs ∧ ft' = ft ∧ i' = i) ∧ req (Nat.beq e.n 302 && e.ds.isEmpty && Nat.beq h.next 101) (req ((m1 == tbs.length) && (m2 == tbs.length) && (m3 == us.length) && Nat.beq n' n && Nat.beq n2 n && Nat.beq n3 n && decide (0 ≤ i) && decide (i < n) && short us && us.all (wf 4) && us.all (fun u => decide (0 ≤ fld u 1) && decide (fld u 1 < 16)) && decide (0 ≤ asn) && decide (asn ≤ 1000000000) && okCs (n * 5) cs && okCs n qs)
      (∀ cs', invU us s asn n i.toNat cs cs' → Q (.exit 4) (mkE 302 (t3u.zip (v3u tbs ps us ft fp fu r fr s asn n i us.length))) (mkH 101 (List.zip [78, 80, 90] [.cells cs', .cells qs, .cells [.lst u' f1, .lst g' f2, .lst a' f3]]))))
  | _, _, _ => False
theorem L3uok (S4ok : SpecsOk C S4) {fn : Func} {body c : Code} (h1 : C.F 3 = some fn) (h2 : fn.body = some body) (h3 : codeAt body p3u = some (.loop c)) (ro : Option Nat) (e : Env) (h : AH) (Q : AQ) (hl : L3u ro e h Q) : ASem C ro (.loop c) Q e h := by
  have hloc := loc_of h1 h2 h3
  obtain rfl := loopAt_eq h1 h2 h3
  unfold L3u at hl
  split at hl
  · rename_i tbs ft ps fp r m1 fr s asn n n' n2 n3 tbs' ft' m2 i i' us fu m3 cs0 qs u' f1 g' f2 a' f3 hob hoh
    obtain ⟨⟨rfl, rfl, rfl⟩, hl⟩ := hl
    simp only [req_iff, Bool.and_eq_true, List.isEmpty_iff, beq_iff_eq, decide_eq_true_eq] at hl
    obtain ⟨⟨⟨e1, e2⟩, e3⟩, ⟨⟨⟨⟨⟨⟨⟨⟨⟨⟨⟨⟨⟨⟨rfl, rfl⟩, rfl⟩, hn'⟩, hn2⟩, hn3⟩, hi0⟩, hi1⟩, hsh⟩, hwf⟩, hoff⟩, ha0⟩, ha1⟩, hcs⟩, hqs⟩, q1⟩ := hl
    have e1 := Nat.eq_of_beq_eq_true e1
    have e3 := Nat.eq_of_beq_eq_true e3
    obtain rfl := Nat.eq_of_beq_eq_true hn'
    obtain rfl := Nat.eq_of_beq_eq_true hn2
    obtain rfl := Nat.eq_of_beq_eq_true hn3
    have hsh := short_le hsh
    obtain ⟨i, rfl⟩ : ∃ j : Nat, i' = j := ⟨i'.toNat, by omega⟩
    have hi1 : i < n3 := by omega
    simp only [Int.toNat_natCast] at q1
    have hqb : belowL 101 qs = true := okCs_below hqs
    refine loop_here (α := List AV) (τ := Unit) 302 101 4 us.length t3u [78, 80, 90] (by decide) (fun k _ => v3u tbs' ps us ft' fp fu r fr s asn n3 i k) (fun _ cs => [.cells cs, .cells qs, .cells [.lst u' f1, .lst g' f2, .lst a' f3]])
      (fun k cs => invU us s asn n3 i cs0 cs) (fun _ => []) (fun _ => []) (fun _ => False) (fun _ hx => by cases hx) ?_ e3 e cs0 ⟨hcs, fun _ _ _ => rfl, .inl rfl⟩
      (by rw [hob]; rfl) e1 e2 (by rw [hoh]; rfl) (fun cs' hc => q1 cs' hc) (fun _ hf => hf.elim)
    intro k cs hk hinv
    obtain ⟨b1, b2, b3⟩ := hinv
    have hcl := okCs_len b1
    have hbo : ∀ x : List AV, okCs (n3 * 5) x = true → List.all [AObj.cells x, .cells qs, .cells [.lst u' f1, .lst g' f2, .lst a' f3]] (belowO 101) = true := fun x hx => by
      simp only [List.all_cons, List.all_nil, Bool.and_true, Bool.and_eq_true]
      exact ⟨by simpa [belowO] using okCs_below hx, by simpa [belowO] using hqb, rfl⟩
    refine (wpOk hC mixed S4ok 1000).c _ _ _ _ _ _ hloc ?_
    rw [vc3u]
    have hkk : (k : Int).toNat = k := rfl
    have hii : (i : Int).toNat = i := rfl
    have hk1 : IntKind.i64.wrap ((k : Int) + 1) = ((k + 1 : Nat) : Int) := by rw [w64 (n := (k : Int) + 1) (by omega) (by omega)]; rfl
    rw [cas_iff]
    constructor
    · intro hlt
      have hlt : k < us.length := by simpa using hlt
      obtain ⟨hgl, hint⟩ := rowOf hwf hlt
      have i0 := hint 0 (by omega)
      have i1 := hint 1 (by omega)
      have i2 := hint 2 (by omega)
      have i3 := hint 3 (by omega)
      have ho := all_getD hoff hlt []
      simp only [Bool.and_eq_true, fld] at ho
      have dk : (decide (0 ≤ (k : Int)) && decide ((k : Int) < (us.length : Int))) = true := by simp; omega
      have di : (decide (0 ≤ (i : Int)) && decide ((i : Int) < (n3 : Int))) = true := by simp; omega
      have da : (decide (0 ≤ asn) && decide (asn ≤ 1000000000) && decide (0 ≤ intOf ((us.getD k []).getD 1 .undef)) && decide (intOf ((us.getD k []).getD 1 .undef) < 16)) = true := by
        simp only [Bool.and_eq_true]
        exact ⟨⟨⟨decide_eq_true ha0, decide_eq_true ha1⟩, ho.1⟩, ho.2⟩
      simp only [req_iff, cas_iff, hkk, hii, hgl, i0, i1, i2, i3, dk, di, da, hk1, Nat.zero_add]
      refine ⟨trivial, rfl, rfl, rfl, fun hs => ⟨trivial, trivial, ?_, hlt, splice cs (i * 5) (sendRow asn (fld (us.getD k []) 1)), ⟨?_, ?_, ?_⟩, rfl, rfl, by omega, rfl, rfl, rfl, ?_⟩, fun hs => ⟨hlt, cs, ⟨b1, b2, b3⟩, rfl, rfl, by omega, rfl, rfl, rfl, hbo cs b1⟩⟩
      · rw [hcl]; exact Nat.ble_eq_true_of_le (by omega)
      · exact okCs_row b1 rfl rfl hi1
      · intro j hj hne
        rw [rowA_splice hcl rfl hi1 hj, if_neg hne]
        exact b2 j hj hne
      · rw [rowA_splice hcl rfl hi1 hi1, if_pos rfl]
        exact .inr ⟨k, hlt, by simpa [fld] using hs, rfl⟩
      · exact hbo _ (okCs_row b1 rfl rfl hi1)
    · intro hge
      obtain rfl : k = us.length := by simp at hge; omega
      exact ⟨rfl, ⟨b1, b2, b3⟩, rfl, rfl, by omega, rfl, rfl, rfl, hbo cs b1⟩
  · exact hl.elim
/-! ### A node's grants in the slot -/
abbrev t3g : List Nat := [1, 2, 3, 12, 13, 14, 19, 20, 21, 22, 23, 132, 133, 134, 24, 171, 172, 173]
abbrev v3g (tbs ps gs : List (List AV)) (ft fp fg : Bool) (r fr s asn : Int) (n : Nat) (i : Int) (k : Int) : List AV := [.lst tbs ft, .lst ps fp, .i r, .bool false, .bool true, .i tbs.length, .i fr, .i s, .i asn, .sl 78 0 n n none, .sl 80 0 n n none, .lst tbs ft, .i tbs.length, .i i, .i i, .lst gs fg, .i gs.length, .i k]
theorem vc3g (tbs ps gs : List (List AV)) (ft fp fg : Bool) (r fr s asn i k : Int) (n : Nat) (cs qs : List AV) (K : KT2) : (wpC C S4 1000 none (some (3, false :: p3g)) (loopAt 3 p3g) (kobs2 t3g [78, 80] K) (mkE 302 (t3g.zip (v3g tbs ps gs ft fp fg r fr s asn n i k))) (mkH 105 (List.zip [78, 80] [.cells cs, .cells qs]))) = (cas (decide (k < (↑gs.length : Int)))
  (req (decide (0 ≤ k) && decide (k < (↑gs.length : Int)))
    (req ((gs.getD k.toNat []).length.beq 5)
      (req (Nat.ble 5 (gs.getD k.toNat []).length)
        (req
          (isInt IntKind.i64 ((gs.getD k.toNat []).getD 0 (AV.tup [])) &&
            (isInt IntKind.i64 ((gs.getD k.toNat []).getD 1 (AV.tup [])) &&
              (isInt IntKind.i64 ((gs.getD k.toNat []).getD 2 (AV.tup [])) &&
                (isInt IntKind.i64 ((gs.getD k.toNat []).getD 3 (AV.tup [])) && (isInt IntKind.i64 ((gs.getD k.toNat []).getD 4 (AV.tup [])) && true)))))
          (cas (intOf ((gs.getD k.toNat []).getD 0 (AV.tup [])) == s)
            (cas (decide (intOf ((gs.getD k.toNat []).getD 4 (AV.tup [])) ≥ fr))
              (req (decide (0 ≤ asn) && decide (asn ≤ 1000000000) && decide (0 ≤ intOf ((gs.getD k.toNat []).getD 1 (AV.tup []))) && decide (intOf ((gs.getD k.toNat []).getD 1 (AV.tup [])) < 16))
                (req (decide (0 ≤ i) && decide (i < (↑n : Int)))
                  (req ((0 + i.toNat * 5 + 5).ble cs.length)
                    (req (decide (0 ≤ i) && decide (i < (↑n : Int)))
                      (req ((0 + i.toNat * 1 + 1).ble qs.length)
                        (K AX.normal 302 []
                          [some (AV.lst tbs ft), some (AV.lst ps fp), some (AV.int IntKind.i64 r), some (AV.bool false), some (AV.bool true), some (AV.int IntKind.i64 (↑tbs.length : Int)),
                            some (AV.int IntKind.i64 fr), some (AV.int IntKind.i64 s), some (AV.int IntKind.i64 asn), some (AV.sl 78 0 n n none), some (AV.sl 80 0 n n none), some (AV.lst tbs ft),
                            some (AV.int IntKind.i64 (↑tbs.length : Int)), some (AV.int IntKind.i64 i), some (AV.int IntKind.i64 i), some (AV.lst gs fg), some (AV.int IntKind.i64 (↑gs.length : Int)),
                            some (AV.int IntKind.i64 (IntKind.i64.wrap (k + 1)))]
                          [some
                              (AObj.cells
                                (splice cs (0 + i.toNat * 5)
                                  [AV.int IntKind.i64 1, AV.int IntKind.i64 (chanV asn (intOf ((gs.getD k.toNat []).getD 1 (AV.tup [])))), AV.int IntKind.i64 0, AV.int IntKind.i64 0,
                                    AV.int IntKind.i64 0])),
                            some (AObj.cells (splice qs (0 + i.toNat * 1) [AV.int IntKind.i64 (intOf ((gs.getD k.toNat []).getD 2 (AV.tup [])))]))]
                          147))))))
              (K AX.normal 302 []
                [some (AV.lst tbs ft), some (AV.lst ps fp), some (AV.int IntKind.i64 r), some (AV.bool false), some (AV.bool true), some (AV.int IntKind.i64 (↑tbs.length : Int)),
                  some (AV.int IntKind.i64 fr), some (AV.int IntKind.i64 s), some (AV.int IntKind.i64 asn), some (AV.sl 78 0 n n none), some (AV.sl 80 0 n n none), some (AV.lst tbs ft),
                  some (AV.int IntKind.i64 (↑tbs.length : Int)), some (AV.int IntKind.i64 i), some (AV.int IntKind.i64 i), some (AV.lst gs fg), some (AV.int IntKind.i64 (↑gs.length : Int)),
                  some (AV.int IntKind.i64 (IntKind.i64.wrap (k + 1)))]
                [some (AObj.cells cs), some (AObj.cells qs)] 123))
            (K AX.normal 302 []
              [some (AV.lst tbs ft), some (AV.lst ps fp), some (AV.int IntKind.i64 r), some (AV.bool false), some (AV.bool true), some (AV.int IntKind.i64 (↑tbs.length : Int)),
                some (AV.int IntKind.i64 fr), some (AV.int IntKind.i64 s), some (AV.int IntKind.i64 asn), some (AV.sl 78 0 n n none), some (AV.sl 80 0 n n none), some (AV.lst tbs ft),
                some (AV.int IntKind.i64 (↑tbs.length : Int)), some (AV.int IntKind.i64 i), some (AV.int IntKind.i64 i), some (AV.lst gs fg), some (AV.int IntKind.i64 (↑gs.length : Int)),
                some (AV.int IntKind.i64 (IntKind.i64.wrap (k + 1)))]
              [some (AObj.cells cs), some (AObj.cells qs)] 123))))))
  (K (AX.exit 6) 302 []
    [some (AV.lst tbs ft), some (AV.lst ps fp), some (AV.int IntKind.i64 r), some (AV.bool false), some (AV.bool true), some (AV.int IntKind.i64 (↑tbs.length : Int)), some (AV.int IntKind.i64 fr),
      some (AV.int IntKind.i64 s), some (AV.int IntKind.i64 asn), some (AV.sl 78 0 n n none), some (AV.sl 80 0 n n none), some (AV.lst tbs ft), some (AV.int IntKind.i64 (↑tbs.length : Int)),
      some (AV.int IntKind.i64 i), some (AV.int IntKind.i64 i), some (AV.lst gs fg), some (AV.int IntKind.i64 (↑gs.length : Int)), some (AV.int IntKind.i64 k)]
    [some (AObj.cells cs), some (AObj.cells qs)] 106)) := by kernel_rfl

def hearRow (asn o : Int) : List AV := [.i 1, .i (chanV asn o), .i 0, .i 0, .i 0]
/-- The node listens where it has been granted, or does what it did. -/
def listenP (gs : List (List AV)) (s asn fr : Int) (row0 : List AV) (q0 : Int) (row : List AV) (q : Int) : Prop := (row = row0 ∧ q = q0) ∨ ∃ j, j < gs.length ∧ fld (gs.getD j []) 0 = s ∧ ¬ fld (gs.getD j []) 4 < fr ∧ row = hearRow asn (fld (gs.getD j []) 1) ∧ q = fld (gs.getD j []) 2
def invG (gs : List (List AV)) (s asn fr : Int) (n i : Nat) (cs0 qs0 cs qs : List AV) : Prop := okCs (n * 5) cs = true ∧ okCs n qs = true ∧ (∀ j, j < n → j ≠ i → rowA cs j = rowA cs0 j ∧ fld qs j = fld qs0 j) ∧ listenP gs s asn fr (rowA cs0 i) (fld qs0 i) (rowA cs i) (fld qs i)
def L3g : Option Nat → Env → AH → AQ → Prop := fun ro e h Q =>
  match ro, obs e t3g, [78, 80].map h.get with
  | none, [some (.lst tbs ft), some (.lst ps fp), some (.int .i64 r), some (.bool false), some (.bool true), some (.int .i64 m1), some (.int .i64 fr), some (.int .i64 s), some (.int .i64 asn), some (.sl 78 0 n n' none), some (.sl 80 0 n2 n3 none), some (.lst tbs' ft'), some (.int .i64 m2), some (.int .i64 i), some (.int .i64 i'), some (.lst gs fg), some (.int .i64 m3), some (.int .i64 0)], [some (.cells cs), some (.cells qs)] =>
    (tbs' = tbs ∧ ft' = ft ∧ i' = i) ∧ req (Nat.beq e.n 302 && e.ds.isEmpty && Nat.beq h.next 105) (req ((m1 == tbs.length) && (m2 == tbs.length) && (m3 == gs.length) && Nat.beq n' n && Nat.beq n2 n && Nat.beq n3 n && decide (0 ≤ i) && decide (i < n) && short gs && gs.all (wf 5) && gs.all (fun u => decide (0 ≤ fld u 1) && decide (fld u 1 < 16)) && decide (0 ≤ asn) && decide (asn ≤ 1000000000) && okCs (n * 5) cs && okCs n qs)
      (∀ cs' qs', invG gs s asn fr n i.toNat cs qs cs' qs' → Q (.exit 6) (mkE 302 (t3g.zip (v3g tbs ps gs ft fp fg r fr s asn n i gs.length))) (mkH 105 (List.zip [78, 80] [.cells cs', .cells qs']))))
  | _, _, _ => False
theorem L3gok (S4ok : SpecsOk C S4) {fn : Func} {body c : Code} (h1 : C.F 3 = some fn) (h2 : fn.body = some body) (h3 : codeAt body p3g = some (.loop c)) (ro : Option Nat) (e : Env) (h : AH) (Q : AQ) (hl : L3g ro e h Q) : ASem C ro (.loop c) Q e h := by
  have hloc := loc_of h1 h2 h3
  obtain rfl := loopAt_eq h1 h2 h3
  unfold L3g at hl
  split at hl
  · rename_i tbs ft ps fp r m1 fr s asn n n' n2 n3 tbs' ft' m2 i i' gs fg m3 cs0 qs0 hob hoh
    obtain ⟨⟨rfl, rfl, rfl⟩, hl⟩ := hl
    simp only [req_iff, Bool.and_eq_true, List.isEmpty_iff, beq_iff_eq, decide_eq_true_eq] at hl
    obtain ⟨⟨⟨e1, e2⟩, e3⟩, ⟨⟨⟨⟨⟨⟨⟨⟨⟨⟨⟨⟨⟨⟨rfl, rfl⟩, rfl⟩, hn'⟩, hn2⟩, hn3⟩, hi0⟩, hi1⟩, hsh⟩, hwf⟩, hoff⟩, ha0⟩, ha1⟩, hcs⟩, hqs⟩, q1⟩ := hl
    have e1 := Nat.eq_of_beq_eq_true e1
    have e3 := Nat.eq_of_beq_eq_true e3
    obtain rfl := Nat.eq_of_beq_eq_true hn'
    obtain rfl := Nat.eq_of_beq_eq_true hn2
    obtain rfl := Nat.eq_of_beq_eq_true hn3
    have hsh := short_le hsh
    obtain ⟨i, rfl⟩ : ∃ j : Nat, i' = j := ⟨i'.toNat, by omega⟩
    have hi1 : i < n3 := by omega
    simp only [Int.toNat_natCast] at q1
    refine loop_here (α := List AV × List AV) (τ := Unit) 302 105 6 gs.length t3g [78, 80] (by decide) (fun k _ => v3g tbs' ps gs ft' fp fg r fr s asn n3 i k) (fun _ a => [.cells a.1, .cells a.2])
      (fun k a => invG gs s asn fr n3 i cs0 qs0 a.1 a.2) (fun _ => []) (fun _ => []) (fun _ => False) (fun _ hx => by cases hx) ?_ e3 e (cs0, qs0) ⟨hcs, hqs, fun _ _ _ => ⟨rfl, rfl⟩, .inl ⟨rfl, rfl⟩⟩
      (by rw [hob]; rfl) e1 e2 (by rw [hoh]; rfl) (fun a hc => q1 a.1 a.2 hc) (fun _ hf => hf.elim)
    rintro k ⟨cs, qs⟩ hk hinv
    obtain ⟨b1, b2, b3, b4⟩ := hinv
    simp only at b1 b2 b3 b4
    have hcl := okCs_len b1
    have hql := okCs_len b2
    have hbo : ∀ x y : List AV, okCs (n3 * 5) x = true → okCs n3 y = true → List.all [AObj.cells x, .cells y] (belowO 105) = true := fun x y hx hy => by
      simp only [List.all_cons, List.all_nil, Bool.and_true, Bool.and_eq_true]
      exact ⟨by simpa [belowO] using okCs_below hx, by simpa [belowO] using okCs_below hy⟩
    refine (wpOk hC mixed S4ok 1000).c _ _ _ _ _ _ hloc ?_
    rw [vc3g]
    have hkk : (k : Int).toNat = k := rfl
    have hii : (i : Int).toNat = i := rfl
    have hk1 : IntKind.i64.wrap ((k : Int) + 1) = ((k + 1 : Nat) : Int) := by rw [w64 (n := (k : Int) + 1) (by omega) (by omega)]; rfl
    rw [cas_iff]
    constructor
    · intro hlt
      have hlt : k < gs.length := by simpa using hlt
      obtain ⟨hgl, hint⟩ := rowOf hwf hlt
      have i0 := hint 0 (by omega)
      have i1 := hint 1 (by omega)
      have i2 := hint 2 (by omega)
      have i3 := hint 3 (by omega)
      have i4 := hint 4 (by omega)
      have ho := all_getD hoff hlt []
      simp only [Bool.and_eq_true, fld] at ho
      have dk : (decide (0 ≤ (k : Int)) && decide ((k : Int) < (gs.length : Int))) = true := by simp; omega
      have di : (decide (0 ≤ (i : Int)) && decide ((i : Int) < (n3 : Int))) = true := by simp; omega
      have da : (decide (0 ≤ asn) && decide (asn ≤ 1000000000) && decide (0 ≤ intOf ((gs.getD k []).getD 1 .undef)) && decide (intOf ((gs.getD k []).getD 1 .undef) < 16)) = true := by
        simp only [Bool.and_eq_true]
        exact ⟨⟨⟨decide_eq_true ha0, decide_eq_true ha1⟩, ho.1⟩, ho.2⟩
      simp only [req_iff, cas_iff, hkk, hii, hgl, i0, i1, i2, i3, i4, dk, di, da, hk1, Nat.zero_add, Nat.mul_one]
      have c5 := okCs_row (row := hearRow asn (fld (gs.getD k []) 1)) b1 rfl rfl hi1
      have c6 := okCs_splice b2 hi1 (fld (gs.getD k []) 2)
      refine ⟨trivial, rfl, rfl, rfl, fun hs => ⟨fun hu => ⟨trivial, trivial, ?_, trivial, ?_, hlt, (splice cs (i * 5) (hearRow asn (fld (gs.getD k []) 1)), splice qs i [.int .i64 (fld (gs.getD k []) 2)]), ⟨c5, c6, fun j hj hne => ?_, ?_⟩, rfl, rfl, by omega, rfl, rfl, rfl, hbo _ _ c5 c6⟩, fun hu => ⟨hlt, (cs, qs), ⟨b1, b2, b3, b4⟩, rfl, rfl, by omega, rfl, rfl, rfl, hbo cs qs b1 b2⟩⟩, fun hs => ⟨hlt, (cs, qs), ⟨b1, b2, b3, b4⟩, rfl, rfl, by omega, rfl, rfl, rfl, hbo cs qs b1 b2⟩⟩
      · rw [hcl]; exact Nat.ble_eq_true_of_le (by omega)
      · rw [hql]; exact Nat.ble_eq_true_of_le (by omega)
      · rw [rowA_splice hcl rfl hi1 hj, if_neg hne, fld_splice b2 hi1, if_neg hne]
        exact b3 j hj hne
      · rw [rowA_splice hcl rfl hi1 hi1, if_pos rfl, fld_splice b2 hi1, if_pos rfl]
        exact .inr ⟨k, hlt, by simpa [fld] using hs, by simpa [fld] using hu, rfl, rfl⟩
    · intro hge
      obtain rfl : k = gs.length := by simp at hge; omega
      exact ⟨rfl, ⟨b1, b2, b3, b4⟩, rfl, rfl, by omega, rfl, rfl, rfl, hbo cs qs b1 b2⟩
  · exact hl.elim
end Go.Am.Cells
