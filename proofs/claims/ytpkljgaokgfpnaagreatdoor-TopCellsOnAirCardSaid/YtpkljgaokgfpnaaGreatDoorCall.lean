/- TopCellsOnAir: from the row's reading to the law: the call returns true, and nothing that was there has turned. -/
import Derived.Test.YtpkljgaokgfpnaaGreatDoorCards
import Derived.Test.YtpkljgaokgfpnaaGreatDoorTie
import Derived.Test.YtpkljgaokgfpnaaGreatDoorMain5
import Derived.Test.YtpkljgaokgfpnaaGreatDoorHead
import Derived.Test.YtpkljgaokgfpnaaGreatDoorAmRead
import Derived.ProofKit
import Derived.OpenShut
import Derived.Lib.LaidTab
import Derived.Deep.DeepHandedRow
set_option maxRecDepth 1000000
set_option linter.unusedVariables false
set_option linter.unusedSimpArgs false
set_option linter.unusedSectionVars false
namespace Go.Am.Cells
open Go Go.Am Go.Proofs Go.ChangeShapes Go.WideShapes

theorem gTab : Tryz.prog.globalNamed "slotmesh/hop.table" = some 0 := by kernel_rfl
theorem gTabType : (Tryz.prog.globals[0]?).map (·.type) = some 86 := by kernel_rfl
theorem under86 : Tryz.prog.underlying 86 = some (.array 16 3) := by kernel_rfl
theorem cells86 : Tryz.prog.cellsOf 86 = 16 := by kernel_rfl
theorem cells3 : Tryz.prog.cellsOf 3 = 1 := by kernel_rfl
theorem gOk {W : World} (h : laidMetH Tryz.prog Go.Proofs.YtpkljgaokgfpnaaGreatDoor.Rows.topCellsOnAirRow.laid W) : GOk C (allFro W) := by
  have ht : Go.Lib.TabIs Tryz.prog W "slotmesh/hop.table" .i64 tabV := Go.Lib.tabIs_of_head (rest := []) gTab gTabType under86 Tryz.underlying3 cells3 cells86 h
  intro g cs hg
  match g, hg with
  | 0, hg =>
    have hg : some table = some cs := hg
    injection hg with hg; subst hg
    simp only [VRel]
    refine ⟨0, 0, tabV.map (Value.int .i64), rfl, ?_, fun j v hj => ?_⟩
    · rw [show table = tabV.map (AV.int .i64) from rfl]
      rw [VRelL.iff]
      refine ⟨by simp, fun i x hx => ?_⟩
      rw [List.getElem?_map] at hx ⊢
      obtain ⟨z, hz, rfl⟩ := Option.map_eq_some_iff.1 hx
      exact ⟨.int .i64 z, by rw [hz]; rfl, by simp only [VRel]⟩
    · rw [List.getElem?_map] at hj
      obtain ⟨z, hz, rfl⟩ := Option.map_eq_some_iff.1 hj
      have hlt : j < tabV.length := (List.getElem?_eq_some_iff.1 hz).1
      have := (allFro_cell (ht.cell gTab j hlt)).2
      rw [List.getD_eq_getElem?_getD, hz] at this
      simpa using this
  | n + 1, hg => cases hg

section
variable {H : Type} {enc : TypeId × Value → H} {W : World} {base : Nat} {held : Bool}
theorem flat47 : flatI Tryz.prog 4 47 = true := by kernel_rfl
theorem flat55 : flatI Tryz.prog 4 55 = true := by kernel_rfl
theorem flat76 : flatI Tryz.prog 4 76 = true := by kernel_rfl
theorem flat60 : flatI Tryz.prog 4 60 = true := by kernel_rfl
theorem flat23 : flatI Tryz.prog 4 23 = true := by kernel_rfl
theorem elem_flat {e : TypeId} {k : Nat} (hf : flatI Tryz.prog 4 e = true) (hc : Tryz.prog.cellsOf e = k) : ∀ n cs x, DataW.trod enc Tryz.prog W base (fun _ => true) held n e cs = some x → ∃ xs, VRelL (allFro W) xs cs ∧ wf k xs = true := by
  intro n cs x h
  obtain ⟨h1, h2⟩ := flat_ok 4 hf h
  obtain ⟨zs, rfl, hz⟩ := vrel_ints (μ := allFro W) h2
  refine ⟨_, hz, ?_⟩
  simp only [wf, Bool.and_eq_true, List.all_eq_true, List.mem_map]
  refine ⟨?_, ?_⟩
  · rw [← hc, ← h1]; simp
  · rintro _ ⟨z, _, rfl⟩; rfl
theorem all_of {α : Type} {p : α → Bool} {l : List α} (h : ∀ x ∈ l, p x = true) : l.all p = true := List.all_eq_true.2 h
theorem elem_table : ∀ n cs x, DataW.trod enc Tryz.prog W base (fun _ => true) held n 33 cs = some x → ∃ xs, VRelL (allFro W) xs cs ∧ tabRow xs = true := by
  intro n cs x h
  obtain ⟨xs, m, _, _, hl, hlen, hf⟩ := DataW.trod_struct Tryz.underlying33 h
  have hl : cs.length = 3 := hl.trans (by kernel_rfl)
  match cs, hl with
  | [c0, c1, c2], _ =>
    have f0 : DataW.trod enc Tryz.prog W base (fun _ => true) held m 29 (([c0, c1, c2].drop 0).take (Tryz.prog.cellsOf 29)) = xs[0]? := hf 0 _ rfl
    have f1 : DataW.trod enc Tryz.prog W base (fun _ => true) held m 30 (([c0, c1, c2].drop 1).take (Tryz.prog.cellsOf 30)) = xs[1]? := hf 1 _ rfl
    have f2 : DataW.trod enc Tryz.prog W base (fun _ => true) held m 31 (([c0, c1, c2].drop 2).take (Tryz.prog.cellsOf 31)) = xs[2]? := hf 2 _ rfl
    have k29 : Tryz.prog.cellsOf 29 = 1 := by kernel_rfl
    have k30 : Tryz.prog.cellsOf 30 = 1 := by kernel_rfl
    have k31 : Tryz.prog.cellsOf 31 = 1 := by kernel_rfl
    rw [k29] at f0
    rw [k30] at f1
    rw [k31] at f2
    simp only [List.drop_zero, List.drop_succ_cons, List.take_succ_cons, List.take_zero] at f0 f1 f2
    have hs : xs.length = 3 := hlen
    rw [List.getElem?_eq_getElem (by omega)] at f0 f1 f2
    obtain ⟨u, b0, v0, e0, r0, _, a0⟩ := read_slice Tryz.underlying29 (show 0 < Tryz.prog.cellsOf 47 from of_decide_eq_true (by kernel_rfl)) (elem_flat flat47 (k := 4) (by kernel_rfl)) f0
    obtain ⟨g, b1, v1, e1, r1, _, a1⟩ := read_slice Tryz.underlying30 (show 0 < Tryz.prog.cellsOf 55 from of_decide_eq_true (by kernel_rfl)) (elem_flat flat55 (k := 5) (by kernel_rfl)) f1
    obtain ⟨a, b2, v2, e2, r2, _, a2⟩ := read_slice Tryz.underlying31 (show 0 < Tryz.prog.cellsOf 76 from of_decide_eq_true (by kernel_rfl)) (elem_flat flat76 (k := 3) (by kernel_rfl)) f2
    injection e0 with e0; injection e1 with e1; injection e2 with e2
    subst e0; subst e1; subst e2
    refine ⟨[.lst u b0, .lst g b1, .lst a b2], ⟨_, _, rfl, r0, _, _, rfl, r1, _, _, rfl, r2, rfl⟩, ?_⟩
    simp only [tabRow, usesOf, grantsOf, asksOf, List.getD_cons_zero, List.getD_cons_succ, lstOf, isLst, Bool.and_eq_true]
    exact ⟨⟨⟨⟨rfl, trivial, trivial, trivial, trivial⟩, all_of a0⟩, all_of a1⟩, all_of a2⟩
theorem laidOut : laidOutB Tryz.prog = true := by kernel_rfl
theorem readable : Tryz.f3.params.toList.all (fun t => Tryz.prog.readableRec t && decide (t < Tryz.prog.types.size)) = true := by kernel_rfl
theorem cells_one {v : Value} (h : ∀ cs, v ≠ .agg cs) : v.cells.toList = [v] := by
  cases v <;> first | rfl | exact absurd rfl (h _)
end
open Go.Proofs.YtpkljgaokgfpnaaGreatDoor in
/-- WHAT THE LAW GIVES, for every argument and every world that holds the table. -/
theorem contract (H : Type) (enc : TypeId × Value → H) (W : World) (base : Nat) (args : Array Value) (ds gs : List (DataW H)) (before : List MemPlace)
    (hval : ∀ (j : Nat) t v, Tryz.f3.params[j]? = some t → args[j]? = some v → Value.okWide Tryz.prog W .any base t v)
    (hW : DataW.Whole enc Tryz.prog Tryz.f3.params.toList Rows.topCellsOnAirSpec.vars false W args.toList ds gs before) (hL : laidMetH Tryz.prog Rows.topCellsOnAirRow.laid W) :
    Calls Tryz.prog 3 args W fun e W' => ∃ v, e = .returned v ∧ Rows.topCellsOnAirSpec.post enc Tryz.prog Tryz.f3 false true false false W args v W' := by
  have hW' := hW
  obtain ⟨p, q, hA0, hV, rfl, hfz, hnd⟩ := hW
  have hA : DataW.TrodAll enc Tryz.prog W 0 (fun _ => true) true Tryz.f3.params.toList args.toList ds p := hA0
  have hAk := hA
  rw [Tryz.params3] at hA hval
  obtain ⟨v0, vs0, d0, ds0, p0, q0, hargs, rfl, rfl, h0, r0⟩ := trodAll_cons hA
  obtain ⟨v1, vs1, d1, ds1, p1, q1, rfl, rfl, rfl, h1, r1⟩ := trodAll_cons r0
  obtain ⟨v2, vs2, d2, ds2, p2, q2, rfl, rfl, rfl, h2, r2⟩ := trodAll_cons r1
  obtain ⟨v3, vs3, d3, ds3, p3, q3, rfl, rfl, rfl, h3, r3⟩ := trodAll_cons r2
  obtain ⟨v4, vs4, d4, ds4, p4, q4, rfl, rfl, rfl, h4, r4⟩ := trodAll_cons r3
  obtain ⟨v5, vs5, d5, ds5, p5, q5, rfl, rfl, rfl, h5, r5⟩ := trodAll_cons r4
  obtain ⟨rfl, rfl, rfl⟩ := trodAll_nil r5
  obtain rfl : args = #[v0, v1, v2, v3, v4, v5] := by cases args; simp_all
  obtain ⟨rfl, rfl⟩ := trodVars_none hV
  -- the layout
  obtain ⟨l0, rfl⟩ : ∃ cs, v0 = .agg cs := by
    have := hval 0 23 v0 rfl rfl
    simp only [Value.okWide, Tryz.underlying23] at this
    obtain ⟨cs, h, _⟩ := this
    exact ⟨cs, h⟩
  obtain ⟨fuel0, f0⟩ := h0
  obtain ⟨k1, k2⟩ := flat_ok 4 flat23 f0
  have k1 : l0.toList.length = 2 := k1.trans (by kernel_rfl)
  obtain ⟨zs, hzs, hzr⟩ := vrel_ints (μ := allFro W) k2
  simp only [Value.cells] at hzs hzr
  have hzl : zs.length = 2 := by rw [hzs] at k1; simpa using k1
  obtain ⟨n, d, rfl⟩ : ∃ n d, zs = [n, d] := by
    match zs, hzl with
    | [n, d], _ => exact ⟨n, d, rfl⟩
  -- the tables
  obtain ⟨s1, len1, cap1, rfl⟩ := okWide_slice Tryz.underlying24 (hval 1 24 v1 rfl rfl)
  obtain ⟨fuel1, f1⟩ := h1
  obtain ⟨tbs, ft, u1, e1, rt, _, at1⟩ := read_slice Tryz.underlying24 (show 0 < Tryz.prog.cellsOf 33 from of_decide_eq_true (by kernel_rfl)) elem_table f1
  rw [cells_one (fun cs h => by cases h)] at e1
  injection e1 with e1
  subst e1
  -- the places
  obtain ⟨s2, len2, cap2, rfl⟩ := okWide_slice Tryz.underlying25 (hval 2 25 v2 rfl rfl)
  obtain ⟨fuel2, f2⟩ := h2
  obtain ⟨ps, fp, u2, e2, rp, _, at2⟩ := read_slice Tryz.underlying25 (show 0 < Tryz.prog.cellsOf 60 from of_decide_eq_true (by kernel_rfl)) (elem_flat flat60 (k := 2) (by kernel_rfl)) f2
  rw [cells_one (fun cs h => by cases h)] at e2
  injection e2 with e2
  subst e2
  -- the numbers
  obtain ⟨r, rfl, rfl, rfl, wr⟩ := open_int Tryz.underlying3 (hval 3 3 v3 rfl rfl) h3
  obtain ⟨fr, rfl, rfl, rfl, wf4⟩ := open_int Tryz.underlying26 (hval 4 26 v4 rfl rfl) h4
  obtain ⟨sl, rfl, rfl, rfl, wf5⟩ := open_int Tryz.underlying5 (hval 5 5 v5 rfl rfl) h5
  obtain ⟨b4, b4'⟩ := Go.bounds_u16 wf4
  obtain ⟨b5, b5'⟩ := Go.bounds_u8 wf5
  clear hA0
  have hlaw := law3 headA tbs ps ft fp n d r fr sl (all_of at1) (all_of at2) b4 b4' b5 b5' ⟨0, .nil⟩ (allFro W) W #[.agg l0, .slice s1 len1 cap1, .slice s2 len2 cap2, .int .i64 r, .int .u16 fr, .int .u8 sl] (allFro_rel W 0) (gOk hL)
    ⟨_, _, rfl, (by rw [VRel]; exact ⟨l0, rfl, hzr⟩), _, _, rfl, rt, _, _, rfl, rp, _, _, rfl, rfl, _, _, rfl, rfl, _, _, rfl, rfl, rfl⟩
  refine (callsIn_wide.1 hlaw).mono fun e W' ⟨x, h', μ', hend, hpost, hx, _⟩ => ?_
  subst hx
  obtain ⟨V, rfl, hV⟩ := hend
  simp only [VRel] at hV
  subst hV
  have hbl := below_of hpost
  refine ⟨_, rfl, _, _, _, [], p0 ++ (p1 ++ (p2 ++ ([] ++ ([] ++ ([] ++ []))))), [], hW', trodAll_cons_mk (Go.RowKit.shut_bool Tryz.underlying4 _) trodAll_mk0,
    trodAll_stays laidOut readable hAk hbl (fun x hx => hW'.lt x (by simpa using hx)) (fun x hx => by simpa using hW'.lt x (by simpa using hx)), rfl, hbl.frame _, fun h => by cases h⟩
end Go.Am.Cells
