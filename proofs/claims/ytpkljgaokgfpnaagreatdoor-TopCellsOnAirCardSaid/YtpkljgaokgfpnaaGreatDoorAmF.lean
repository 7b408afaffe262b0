/- Ranges over maps in the abstract machine. -/
import Derived.Test.YtpkljgaokgfpnaaGreatDoorAmE
import Derived.RangeFuncRecord
set_option linter.unusedVariables false
set_option linter.unusedSimpArgs false
set_option linter.unusedSectionVars false
namespace Go.Am
open Go

section
variable {C : Ctx} (hC : CtxOk C) {μ : Mu} {h : AH} {w : World} (hr : Rel μ h w)
include hC hr

theorem arange_rel {lo : Nat → Prop} {nid : Nat} (hid : μ.obj nid = none) (hlt : nid < h.next) (hlo : ¬ lo nid) {t : TypeId} {x q : AV} {h' : AH} (hh : arange C h nid t x = some (q, h')) {X : Value} (hx : VRel μ x X) :
    OpOk C.P lo μ h w (Instr.range t X) q h' := by
  unfold arange at hh
  split at hh
  · rename_i m ti hT
    split at hh
    · rename_i k e es clock hk hg
      simp only [Option.some.injEq, Prod.mk.injEq] at hh
      obtain ⟨rfl, rfl⟩ := hh
      simp only [VRel] at hx
      obtain ⟨p, hp, rfl⟩ := hx
      obtain ⟨p', hp', _, ho⟩ := hr.obj m _ hg
      rw [hp] at hp'; injection hp' with hp'; subst hp'
      simp only [ORel] at ho
      obtain ⟨es', hw, hm⟩ := ho
      obtain ⟨d, hd, hkk, _⟩ := run_und hC hT
      rw [hk] at hkk
      have ed := mkTK_map hkk; subst ed
      refine ⟨.pointer (some ⟨w.heap.size, 0, none⟩), w.alloc (.mapIter (some p.block) clock #[] clock), μ.put nid ⟨w.heap.size, 0, 0⟩, ?_, ?_, Post.alloc hr hid hlt hlo _ _ _ rfl ?_⟩
      · simp [Instr.range, hd w, run_getObj_map hw]
      · simp only [VRel]; exact ⟨_, Mu.put_same _ _ _, by simp⟩
      · simp only [ORel]
        exact ⟨trivial, p, (Mu.le_put hid _).obj _ _ hp, World.heap_alloc_eq w _⟩
    · cases hh
  · cases hh

omit hC in
theorem run_getObj_iter {P : Program} {b : Nat} {m since seen stepped} (hw : w.heap[b]? = some (.mapIter m since seen stepped)) : (getObj b).run P w = .ok (.mapIter m since seen stepped) w := by
  simp [getObj, Sem.run, hw]

omit hC hr in
theorem MRel.find {p : Nat → Bool} : ∀ {es : List (AV × AV × Nat)} {l : List MapEntry}, MRel μ es l → ∀ {e : AV × AV × Nat}, es.find? (fun e => p e.2.2) = some e → ∃ E, l.find? (fun E => p E.born) = some E ∧ VRel μ e.1 E.key ∧ VRel μ e.2.1 E.val ∧ E.born = e.2.2
  | [], _, _, e, he => by simp at he
  | (k, v, n) :: es, l, hm, e, he => by
    simp only [MRel] at hm
    obtain ⟨k', v', l', rfl, h1, h2, h3⟩ := hm
    simp only [List.find?_cons] at he ⊢
    cases hp : p n with
    | true => rw [hp] at he; simp only [Option.some.injEq] at he; subst he; exact ⟨_, rfl, h1, h2, rfl⟩
    | false => rw [hp] at he; simp only at he ⊢; exact MRel.find h3 he

theorem aentry_rel {x q : AV} (hh : aentry h x = some q) {X : Value} (hx : VRel μ x X) : ∃ V, (Instr.entry X).run C.P w = .ok V w ∧ VRel μ q V := by
  unfold aentry at hh
  split at hh
  · rename_i it
    split at hh
    · rename_i m since seen stepped hg
      split at hh
      · rename_i es clock b hgm hb
        split at hh
        · rename_i hcs
          subst hcs
          cases hf : es.find? (fun e => e.2.2 == b) with
          | none => rw [hf] at hh; cases hh
          | some e =>
            rw [hf] at hh; simp only [Option.map_some, Option.some.injEq] at hh; subst hh
            simp only [VRel] at hx
            obtain ⟨p, hp, rfl⟩ := hx
            obtain ⟨p', hp', _, ho⟩ := hr.obj it _ hg
            rw [hp] at hp'; injection hp' with hp'; subst hp'
            simp only [ORel] at ho
            obtain ⟨h0, pm, hpm, hwi⟩ := ho
            obtain ⟨p', hp', _, ho⟩ := hr.obj m _ hgm
            rw [hpm] at hp'; injection hp' with hp'; subst hp'
            simp only [ORel] at ho
            obtain ⟨es', hwm, hm⟩ := ho
            obtain ⟨E, hE, e1, e2, e3⟩ := MRel.find (p := fun n => n == b) hm hf
            refine ⟨.tuple #[E.key, E.val], ?_, ?_⟩
            · have hE' : es'.find? (fun e => e.born == b) = some E := by rw [← Array.find?_toList]; exact hE
              simp [Instr.entry, h0, run_getObj_iter (w := w) hr hwi, hb, run_getObj_map hwm, hE']
            · simp only [VRel]; exact ⟨_, rfl, by simp only [VRelL]; exact ⟨_, _, rfl, e1, _, _, rfl, e2, rfl⟩⟩
        · cases hh
      · cases hh
    · cases hh
  · cases hh

omit hC in
theorem run_choose_next {P : Program} (n : Nat) (hn : 0 < n) : ∃ j w', (choose (.mapNext n)).run P w = .ok j w' ∧ j < n ∧ (w' = w ∨ w' = w.drew) := by
  rw [run_choose]
  by_cases hf : (Question.mapNext n).forced = true
  · refine ⟨_, w, by rw [if_pos hf], ?_, .inl rfl⟩
    exact hn
  · refine ⟨_, w.drew, by rw [if_neg hf]; rfl, ?_, .inr rfl⟩
    exact Nat.mod_lt _ hn

omit hC hr in
theorem MRel.mem {l : List MapEntry} : ∀ {es : List (AV × AV × Nat)} {l : List MapEntry}, MRel μ es l → ∀ {E : MapEntry}, E ∈ l → ∃ e ∈ es, VRel μ e.1 E.key ∧ VRel μ e.2.1 E.val ∧ E.born = e.2.2
  | [], l, hm, E, hE => by simp only [MRel] at hm; subst hm; cases hE
  | (k, v, n) :: es, l, hm, E, hE => by
    simp only [MRel] at hm
    obtain ⟨k', v', l', rfl, h1, h2, h3⟩ := hm
    rcases List.mem_cons.1 hE with rfl | hE
    · exact ⟨(k, v, n), by simp, h1, h2, rfl⟩
    · obtain ⟨e, he, g⟩ := MRel.mem (l := l') h3 hE
      exact ⟨e, List.mem_cons_of_mem _ he, g⟩
omit hC hr in
theorem MRel.mem' : ∀ {es : List (AV × AV × Nat)} {l : List MapEntry}, MRel μ es l → ∀ {e : AV × AV × Nat}, e ∈ es → ∃ E ∈ l, E.born = e.2.2
  | [], l, hm, e, he => by cases he
  | (k, v, n) :: es, l, hm, e, he => by
    simp only [MRel] at hm
    obtain ⟨k', v', l', rfl, h1, h2, h3⟩ := hm
    rcases List.mem_cons.1 he with rfl | he
    · exact ⟨{ key := k', val := v', born := n }, by simp, rfl⟩
    · obtain ⟨E, hE, g⟩ := MRel.mem' h3 he
      exact ⟨E, List.mem_cons_of_mem _ hE, g⟩

/-- What the next step of a range over a map may come to. -/
inductive ANext (h : AH) (it : Nat) : AV → AH → Prop where
  | one {m since seen stepped es clock e} : h.get it = some (.mapIter m since seen stepped) → h.get m = some (.map es clock) → e ∈ es → seen.contains e.2.2 = false →
      ANext h it (.tup [.bool true, e.1, e.2.1]) (h.set it (.mapIter m since (seen.push e.2.2) clock))
  | over {m since seen stepped es clock} : h.get it = some (.mapIter m since seen stepped) → h.get m = some (.map es clock) → (∀ e ∈ es, e.2.2 < since → seen.contains e.2.2 = true) → ANext h it (.tup [.bool false]) h
/-- The next step goes through. -/
def nextOk (h : AH) (it : Nat) : Prop :=
  ∃ m since seen stepped es clock, h.get it = some (.mapIter m since seen stepped) ∧ h.get m = some (.map es clock) ∧ (seen = #[] ∨ es = [] ∨ ∃ e ∈ es, e.2.2 < stepped)

theorem anext_rel {lo : Nat → Prop} {it : Nat} (hok : nextOk h it) {X : Value} (hx : VRel μ (.ptr it 0) X) (ty : TypeId) :
    ∃ v h' V w', (Instr.next X false ty).run C.P w = .ok V w' ∧ ANext h it v h' ∧ VRel μ v V ∧ Post lo μ h w μ h' w' := by
  obtain ⟨m, since, seen, stepped, es, clock, hg, hgm, hst⟩ := hok
  simp only [VRel] at hx
  obtain ⟨p, hp, rfl⟩ := hx
  obtain ⟨p', hp', _, ho⟩ := hr.obj it _ hg
  rw [hp] at hp'; injection hp' with hp'; subst hp'
  simp only [ORel] at ho
  obtain ⟨h0, pm, hpm, hwi⟩ := ho
  obtain ⟨p', hp', _, ho⟩ := hr.obj m _ hgm
  rw [hpm] at hp'; injection hp' with hp'; subst hp'
  simp only [ORel] at ho
  obtain ⟨es', hwm, hm⟩ := ho
  have hcond : (!seen.isEmpty && !es'.isEmpty && es'.all (·.born ≥ stepped)) = false := by
    rcases hst with rfl | rfl | ⟨e, he, hlt⟩
    · rfl
    · simp only [MRel] at hm
      have : es' = #[] := Array.ext' hm
      subst this; simp
    · obtain ⟨E, hE, hb⟩ := MRel.mem' hm he
      have : es'.all (·.born ≥ stepped) = false := by
        rw [Array.all_eq_false]
        obtain ⟨i, hi, hh⟩ := List.getElem_of_mem hE
        exact ⟨i, by simpa using hi, by simp only [Array.getElem_toList] at hh; rw [hh, hb]; simp; omega⟩
      rw [this]; simp
  generalize hleft : es'.filter (fun e => !seen.contains e.born) = left
  generalize hold : left.filter (·.born < since) = old
  generalize hnew : left.filter (·.born ≥ since) = new
  generalize hcand : (if old.isEmpty then #[none] else #[]) ++ (old ++ new).map some = cand
  have hpos : 0 < cand.size := by
    rw [← hcand]
    by_cases ho : old.isEmpty = true
    · rw [if_pos ho]; simp; omega
    · have : 0 < old.size := by
        rcases Nat.eq_zero_or_pos old.size with hz | hz
        · exact absurd (Array.isEmpty_iff_size_eq_zero.2 hz) ho
        · exact hz
      simp [ho]; omega
  obtain ⟨j, w₁, hch, hj, hw₁⟩ := run_choose_next (h := h) hr (P := C.P) cand.size hpos
  have hheap : w₁.heap = w.heap := by rcases hw₁ with rfl | rfl <;> rfl
  have hP1 : Post lo μ h w μ h w₁ := by rcases hw₁ with rfl | rfl; exact Post.refl lo hr; exact Post.drew lo hr
  have hiter : ∀ {x : Value → Prop}, True := fun {_} => trivial
  have hrun : ∀ V w', (match cand[j]? with
      | some (some e) => (do setObj p.block (.mapIter (some pm.block) since (seen.push e.born) clock); pure (.tuple #[.bool true, e.key, e.val]) : Sem Value)
      | some none => pure (.tuple #[.bool false])
      | none => stuck "Next: no such candidate").run C.P w₁ = .ok V w' → (Instr.next (.pointer (some ⟨p.block, p.off + 0, none⟩)) false ty).run C.P w = .ok V w' := by
    intro V w' hV
    simp only [Instr.next, h0, Nat.add_zero, Sem.run_bind, run_getObj_iter (w := w) hr hwi, Result.andThen, run_getObj_map hwm, hcond, Bool.false_eq_true, if_false, pure_bind, hleft, hold, hnew, hcand, hch]
    exact hV
  cases hc : cand[j]? with
  | none => rw [Array.getElem?_eq_none_iff] at hc; omega
  | some c =>
    have hmem := Array.mem_of_getElem? hc
    cases c with
    | none =>
      have hoe : old.isEmpty = true := by
        rw [← hcand] at hmem
        cases hx : old.isEmpty with
        | true => rfl
        | false => rw [hx] at hmem; simp at hmem
      refine ⟨_, h, .tuple #[.bool false], w₁, hrun _ _ (by rw [hc]; rfl), ANext.over hg hgm ?_, by simp only [VRel, VRelL]; exact ⟨_, rfl, _, _, rfl, rfl, rfl⟩, hP1⟩
      intro e he hlt
      obtain ⟨E, hE, hb⟩ := MRel.mem' hm he
      cases hs : seen.contains e.2.2 with
      | true => rfl
      | false =>
        have : E ∈ old := by
          rw [← hold, ← hleft]
          simp only [Array.mem_filter]
          exact ⟨⟨by simpa using hE, by rw [hb, hs]; rfl⟩, by simp [hb, hlt]⟩
        have hne : old = #[] := by simpa using hoe
        rw [hne] at this; simp at this
    | some E =>
      have hE : E ∈ left := by
        rw [← hcand] at hmem
        have : E ∈ old ∨ E ∈ new := by
          rcases Array.mem_append.1 hmem with hx | hx
          · split at hx <;> simp at hx
          · simpa using hx
        rcases this with hx | hx
        · rw [← hold] at hx; exact (Array.mem_filter.1 hx).1
        · rw [← hnew] at hx; exact (Array.mem_filter.1 hx).1
      rw [← hleft] at hE
      obtain ⟨hE1, hE2⟩ := Array.mem_filter.1 hE
      obtain ⟨e, he, e1, e2, e3⟩ := MRel.mem (l := es'.toList) hm (by simpa using hE1)
      have hlt : p.block < w₁.heap.size := by rw [hheap]; exact (Array.getElem?_eq_some_iff.1 hwi).1
      have hwi₁ : w₁.heap[p.block]? = some (.mapIter (some pm.block) since seen stepped) := by rw [hheap]; exact hwi
      refine ⟨_, _, .tuple #[.bool true, E.key, E.val], w₁.putObj p.block (.mapIter (some pm.block) since (seen.push E.born) clock), hrun _ _ ?_, ANext.one hg hgm he (by rw [← e3]; simpa using hE2), ?_, ?_⟩
      · rw [hc]
        simp [setObj, Sem.run, hwi₁, Result.andThen, World.putObj]
      · simp only [VRel]; exact ⟨_, rfl, by simp only [VRelL, VRel]; exact ⟨_, _, rfl, rfl, _, _, rfl, e1, _, _, rfl, e2, rfl⟩⟩
      · refine hP1.trans (Post.write hP1.rel hg hp _ (fun b hb => World.putObj_heap_other hb) rfl rfl rfl (by simp) ?_)
        simp only [ORel]
        exact ⟨h0, pm, hpm, by rw [World.putObj_heap_same hlt, e3]⟩
end
end Go.Am
/- The abstract machine's operations stand for the machine's own: all of them. -/
namespace Go.Am
open Go

section
variable {C : Ctx} (hC : CtxOk C) {μ : Mu}
include hC

theorem afield_rel {s : TypeId} {x q : AV} {f : Nat} (hh : afield C s x f = some q) {X : Value} (hx : VRel μ x X) (w : World) : ∃ V, (Instr.field s X f).run C.P w = .ok V w ∧ VRel μ q V := by
  unfold afield at hh
  cases hT : C.T s with
  | none => rw [hT] at hh; cases hh
  | some ti =>
    rw [hT] at hh
    cases x <;> (try simp only at hh) <;> try (cases hh; done)
    obtain ⟨d, hd, hk, _⟩ := run_und hC hT
    cases hkk : ti.k <;> rw [hkk] at hh hk <;> (try simp only at hh) <;> try (cases hh; done)
    rename_i cs fs
    obtain ⟨a, rfl, hm⟩ := mkTK_struct hk
    cases hf : fs[f]? with
    | none => rw [hf] at hh; cases hh
    | some fi =>
      rw [hf] at hh; simp only [Option.bind_some] at hh
      obtain ⟨h1, h2⟩ := mapM_spec hm
      have hlt : f < a.toList.length := h1 ▸ (List.getElem?_eq_some_iff.1 hf).1
      obtain ⟨fi', e1, e2⟩ := h2 f _ (List.getElem?_eq_getElem hlt)
      rw [hf] at e1; injection e1 with e1; subst e1
      have hlt' : f < a.size := by simpa using hlt
      have ha : a[f]? = some a[f] := Array.getElem?_eq_getElem hlt'
      simp only [Array.getElem_toList] at e2
      unfold mkFI at e2
      cases hi : C.P.info? a[f].type with
      | none => rw [hi] at e2; cases e2
      | some inf =>
        rw [hi] at e2; simp only [Option.map_some, Option.some.injEq] at e2; subst e2
        simp only [VRel] at hx
        obtain ⟨xa, rfl, hxa⟩ := hx
        obtain ⟨V, hV, rV⟩ := part_rel hC hh hxa w
        refine ⟨V, ?_, rV⟩
        simp only [Instr.field, Sem.run_bind, hd w, Result.andThen_ok, ha, asAgg, Sem.run_pure]
        exact hV

theorem aindex_rel {t : TypeId} {x i q : AV} (hh : aindex C t x i = some q) {X I : Value} (hx : VRel μ x X) (hi : VRel μ i I) (w : World) : ∃ V, (Instr.index t X I).run C.P w = .ok V w ∧ VRel μ q V := by
  unfold aindex at hh
  split at hh
  · rename_i ti cs k n hT
    obtain ⟨d, hd, hk, _⟩ := run_und hC hT
    cases hkk : ti.k <;> rw [hkk] at hh hk <;> (try simp only at hh) <;> try (cases hh; done)
    rename_i m e
    have e' := mkTK_arr hk; subst e'
    split at hh
    · rename_i hn
      cases hTe : C.T e with
      | none => rw [hTe] at hh; cases hh
      | some te =>
        rw [hTe] at hh; simp only [Option.bind_some] at hh
        simp only [VRel] at hx hi
        obtain ⟨xa, rfl, hxa⟩ := hx
        subst hi
        obtain ⟨V, hV, rV⟩ := part_rel hC hh hxa w
        refine ⟨V, ?_, rV⟩
        simp [Instr.index, asIntOf, hd w, hn, run_sizeOf hC hTe w, hV]
    · cases hh
  · rename_i ti s k n hT
    obtain ⟨d, hd, hk, _⟩ := run_und hC hT
    cases hkk : ti.k <;> rw [hkk] at hh hk <;> (try simp only at hh) <;> try (cases hh; done)
    have e' := mkTK_str hk; subst e'
    split at hh
    · rename_i hn
      cases hs : s[n.toNat]? with
      | none => rw [hs] at hh; cases hh
      | some b =>
        rw [hs] at hh; simp only [Option.map_some, Option.some.injEq] at hh; subst hh
        simp only [VRel] at hx hi; subst hx; subst hi
        exact ⟨.int .u8 b.toNat, by simp [Instr.index, asIntOf, hd w, hn, hs], by simp only [VRel]⟩
    · cases hh
  · cases hh

theorem aassert_rel {x q : AV} {t : TypeId} {ok : Bool} (hh : aassert C x t ok = some q) {X : Value} (hx : VRel μ x X) (xt : TypeId) (w : World) : ∃ V, (Instr.typeAssert X xt t ok).run C.P w = .ok V w ∧ VRel μ q V := by
  unfold aassert at hh
  have notup : ∀ {ti : TI}, C.T t = some ti → ti.k ≠ .iface → ∃ d, (∀ w, (underlying t).run C.P w = .ok d w) ∧ ∀ ms, d ≠ .interface ms := by
    intro ti hT hne
    obtain ⟨d, hd, hk, _⟩ := run_und hC hT
    refine ⟨d, hd, fun ms e => ?_⟩
    subst e
    simp only [mkTK, Option.some.injEq] at hk
    exact hne hk.symm
  split at hh
  · rename_i ti s v hT
    simp only [VRel] at hx
    obtain ⟨v', rfl, hv⟩ := hx
    have hne : ti.k ≠ .iface := fun e => by rw [e] at hh; cases hh
    obtain ⟨d, hd, hdi⟩ := notup hT hne
    have hh' : (if s = t then some (if ok then .tup [v, .bool true] else v) else if ok then (azero ti).map fun z => .tup [z, .bool false] else none) = some q := by
      cases hk : ti.k <;> rw [hk] at hh <;> first | exact hh | exact absurd hk hne
    split at hh'
    · rename_i e; subst e
      injection hh' with hh'; subst hh'
      cases ok
      · refine ⟨v', ?_, by simpa using hv⟩
        simp only [Instr.typeAssert, Sem.run_bind, hd w, Result.andThen_ok]
        cases d <;> first | exact absurd rfl (hdi _) | simp
      · refine ⟨.tuple #[v', .bool true], ?_, ?_⟩
        · simp only [Instr.typeAssert, Sem.run_bind, hd w, Result.andThen_ok]
          cases d <;> first | exact absurd rfl (hdi _) | simp
        · simp only [if_true, VRel]
          exact ⟨_, rfl, VRelL.cons hv (VRelL.single (by simp only [VRel]))⟩
    · rename_i hst
      split at hh'
      · rename_i hok
        subst hok
        cases hz : azero ti with
        | none => rw [hz] at hh'; cases hh'
        | some z =>
          rw [hz] at hh'; simp only [Option.map_some, Option.some.injEq] at hh'; subst hh'
          obtain ⟨Z, hZr, hZv⟩ := azero_rel (μ := μ) hC hT hz (zok hC hT) w
          refine ⟨.tuple #[Z, .bool false], ?_, ?_⟩
          · simp only [Instr.typeAssert, Sem.run_bind, hd w, Result.andThen_ok]
            cases d <;> first | exact absurd rfl (hdi _) | simp [hst, hZr]
          · simp only [VRel]
            exact ⟨_, rfl, VRelL.cons hZv (VRelL.single (by simp only [VRel]))⟩
      · cases hh'
  · rename_i ti hT
    simp only [VRel] at hx; subst hx
    have hne : ti.k ≠ .iface := fun e => by rw [e] at hh; cases hh
    obtain ⟨d, hd, hdi⟩ := notup hT hne
    have hh' : (if ok then (azero ti).map fun z => .tup [z, .bool false] else none) = some q := by
      cases hk : ti.k <;> rw [hk] at hh <;> first | exact hh | exact absurd hk hne
    split at hh'
    · rename_i hok
      subst hok
      cases hz : azero ti with
      | none => rw [hz] at hh'; cases hh'
      | some z =>
        rw [hz] at hh'; simp only [Option.map_some, Option.some.injEq] at hh'; subst hh'
        obtain ⟨Z, hZr, hZv⟩ := azero_rel (μ := μ) hC hT hz (zok hC hT) w
        refine ⟨.tuple #[Z, .bool false], ?_, ?_⟩
        · simp only [Instr.typeAssert, Sem.run_bind, hd w, Result.andThen_ok]
          cases d <;> first | exact absurd rfl (hdi _) | simp [hZr]
        · simp only [VRel]
          exact ⟨_, rfl, VRelL.cons hZv (VRelL.single (by simp only [VRel]))⟩
    · cases hh'
  · cases hh

omit hC in
theorem amin_rel {P : Program} {f : Int → Int → Bool} {m2 : Value → Value → Sem Value} (hm : ∀ k a b, m2 (.int k a) (.int k b) = pure (.int k (if f a b then b else a))) :
    ∀ {xs : List AV} {x q : AV}, amin f x xs = some q → ∀ {X : Value} {Xs : List Value}, VRel μ x X → VRelL μ xs Xs → ∀ w, ∃ V, (Xs.foldlM m2 X).run P w = .ok V w ∧ VRel μ q V
  | [], x, q, h, X, Xs, hx, hxs, w => by
    simp only [amin, Option.some.injEq] at h; subst h
    simp only [VRelL] at hxs; subst hxs
    exact ⟨X, by simp, hx⟩
  | y :: xs, x, q, h, X, Xs, hx, hxs, w => by
    simp only [VRelL] at hxs
    obtain ⟨Y, l, rfl, hy, hl⟩ := hxs
    cases x <;> (try simp only [amin] at h) <;> try (cases h; done)
    cases y <;> (try simp only [amin] at h) <;> try (cases h; done)
    split at h
    · rename_i e; subst e
      simp only [VRel] at hx hy; subst hx; subst hy
      obtain ⟨V, h1, h2⟩ := amin_rel hm h (X := _) (by simp only [VRel]; rfl) hl w
      refine ⟨V, ?_, h2⟩
      simp only [List.foldlM_cons, hm, pure_bind]
      exact h1
    · cases h

theorem aclear_rel {lo : Nat → Prop} {h h' : AH} {w : World} (hr : Rel μ h w) {t : TypeId} {x : AV} (hh : aclear C h t x = some h') {X : Value} (hx : VRel μ x X) (ts : Array TypeId) (ht : ts[0]? = some t) (ty : TypeId) :
    ∃ w', (Builtin.clear_ ts ty #[X]).run C.P w = .ok (.tuple #[]) w' ∧ Post lo μ h w μ h' w' := by
  unfold aclear at hh
  cases hT : C.T t with
  | none => rw [hT] at hh; cases hh
  | some ti =>
    rw [hT] at hh; simp only at hh
    obtain ⟨d, hd, hk, _⟩ := run_und hC hT
    split at hh
    · rename_i e hkk
      rw [hkk] at hk; have e' := mkTK_slice hk; subst e'
      injection hh with hh; subst hh
      simp only [VRel] at hx; subst hx
      exact ⟨w, by simp [Builtin.clear_, ht, hd w], Post.refl lo hr⟩
    · rename_i e fl hkk
      rw [hkk] at hk; have e' := mkTK_slice hk; subst e'
      injection hh with hh; subst hh
      simp only [VRel] at hx
      rcases hx with ⟨_, sa, rfl⟩ | ⟨b, o, c, sz, vss, rfl, _⟩
      · exact ⟨w, by cases sa <;> simp [Builtin.clear_, ht, hd w], Post.refl lo hr⟩
      exact ⟨w, by simp [Builtin.clear_, ht, hd w], Post.refl lo hr⟩
    · rename_i e id off n cap sp hkk
      rw [hkk] at hk; have e' := mkTK_slice hk; subst e'
      simp only [VRel] at hx
      obtain ⟨p, c, hp, rfl, _⟩ := hx
      split at hh
      · rename_i h0; subst h0
        injection hh with hh; subst hh
        exact ⟨w, by simp [Builtin.clear_, ht, hd w], Post.refl lo hr⟩
      · rename_i h0
        cases hTe : C.T e with
        | none => rw [hTe] at hh; cases hh
        | some te =>
          rw [hTe] at hh; simp only [Option.bind_some] at hh
          split at hh
          · rename_i hz
            obtain ⟨z, hzr, hm⟩ := zeroValue_rel hC hTe w
            have hz0 : VRelL μ te.zero z.cells.toList := mapM_mkCell hm μ
            have hrep := repl_rel hC hz0 n
            obtain ⟨w', g1, g2⟩ := awrites_rel (P := C.P) hr lo hh hp hrep
            refine ⟨w', ?_, g2⟩
            cases n with
            | zero => exact absurd rfl h0
            | succ n =>
              simp only [Builtin.clear_, ht]
              simp only [List.size_toArray, List.length_cons, List.length_nil, Nat.reduceAdd, Nat.zero_lt_succ, getElem?_pos, List.getElem_toArray, List.getElem_cons_zero]
              simp only [Sem.run_bind, hd w, Result.andThen_ok, hzr, Builtin.zeroCells, g1, Sem.run_pure]
          · cases hh
    · rename_i k e id hkk
      rw [hkk] at hk; have e' := mkTK_map hk; subst e'
      simp only [VRel] at hx
      obtain ⟨p, hp, rfl⟩ := hx
      split at hh
      · rename_i es clock hg
        injection hh with hh; subst hh
        obtain ⟨l, g1, g2⟩ := map_obj hr hg hp
        obtain ⟨w', k1, k2⟩ := map_write (C := C) hC (lo := lo) hr hg hp g1 (es' := []) (l' := #[]) (by simp [MRel]) clock
        exact ⟨w', by simp [Builtin.clear_, ht, hd w, run_getObj_map g1, k1], k2⟩
      · cases hh
    · rename_i k e hkk
      rw [hkk] at hk; have e' := mkTK_map hk; subst e'
      injection hh with hh; subst hh
      simp only [VRel] at hx; subst hx
      exact ⟨w, by simp [Builtin.clear_, ht, hd w], Post.refl lo hr⟩
    · cases hh

theorem abuiltin_rel {lo : Nat → Prop} {nid : Nat} {h h' : AH} {w : World} (hr : Rel μ h w) (hid : μ.obj nid = none) (hlt : nid < h.next) (hlo : ¬ lo nid) {b : Builtin} {ts : Array TypeId} {args : List AV} {q : AV} (hh : abuiltin C h nid b ts args = some (q, h'))
    {As : Array Value} (ha : VRelL μ args As.toList) (ty : TypeId) (consts : Array Bool) :
    ∃ V w' μ', (builtin b ts ty consts As).run C.P w = .ok (.value V) w' ∧ VRel μ' q V ∧ Post lo μ h w μ' h' w' := by
  have val : ∀ {s : Sem Value}, OpOk C.P lo μ h w s q h' → (∀ V w' , s.run C.P w = .ok V w' → (builtin b ts ty consts As).run C.P w = .ok (.value V) w') → ∃ V w' μ', (builtin b ts ty consts As).run C.P w = .ok (.value V) w' ∧ VRel μ' q V ∧ Post lo μ h w μ' h' w' := by
    intro s ⟨V, w', μ', h1, h2, h3⟩ h4
    exact ⟨V, w', μ', h4 V w' h1, h2, h3⟩
  unfold abuiltin at hh
  split at hh
  · rename_i x t ht
    simp only [VRelL] at ha
    obtain ⟨X, l, e, hx, rfl⟩ := ha
    have eA : As = #[X] := Array.ext' (by simpa using e)
    subst eA
    cases hl : alen C h t x with
    | none => rw [hl] at hh; cases hh
    | some r =>
      rw [hl] at hh; simp only [Option.map_some, Option.some.injEq, Prod.mk.injEq] at hh
      obtain ⟨rfl, rfl⟩ := hh
      exact val (OpOk.pure hr (alen_rel (w := w) (hC := hC) (hr := hr) hl hx ts ht ty)) (fun V w' hv => by simp [builtin, hv])
  · rename_i x t ht
    simp only [VRelL] at ha
    obtain ⟨X, l, e, hx, rfl⟩ := ha
    have eA : As = #[X] := Array.ext' (by simpa using e)
    subst eA
    cases hl : acap C t x with
    | none => rw [hl] at hh; cases hh
    | some r =>
      rw [hl] at hh; simp only [Option.map_some, Option.some.injEq, Prod.mk.injEq] at hh
      obtain ⟨rfl, rfl⟩ := hh
      exact val (OpOk.pure hr (acap_rel (w := w) (hC := hC) (hr := hr) hl hx ts ht ty)) (fun V w' hv => by simp [builtin, hv])
  · rename_i s x t ht
    simp only [VRelL] at ha
    obtain ⟨S, l, e, hs, X, l', rfl, hx, rfl⟩ := ha
    have eA : As = #[S, X] := Array.ext' (by simpa using e)
    subst eA
    split at hh
    · rename_i hk2
      cases h1 : ts[1]? with
      | none => rw [h1] at hk2; simp at hk2
      | some t2 =>
        rw [h1] at hk2; simp only [Option.bind_some] at hk2
        cases hT2 : C.T t2 with
        | none => rw [hT2] at hk2; simp at hk2
        | some ti2 =>
          rw [hT2] at hk2; simp only [Option.any_some] at hk2
          obtain ⟨d2, hd2, hkk, _⟩ := run_und hC hT2
          have hni : ∀ k, d2 ≠ .int k := by
            intro k e; subst e
            simp only [mkTK, Option.some.injEq] at hkk
            rw [← hkk] at hk2; simp at hk2
          exact val (aappend_rel (C := C) (hC := hC) (hr := hr) hid hlt hlo hh hs hx ts ht h1 hd2 hni ty) (fun V w' hv => by simp [builtin, hv])
    · split at hh
      · rename_i k n i hi
        split at hh
        · rename_i k2 hk2
          cases h1 : ts[1]? with
          | none => rw [h1] at hi; cases hi
          | some t2 =>
            rw [h1] at hi; simp only [Option.bind_some] at hi
            obtain ⟨d2, hd2, hkk, _⟩ := run_und hC hi
            have e2 : d2 = .int k2 := by
              rw [hk2] at hkk
              cases d2 <;> simp only [mkTK, Option.some.injEq, TK.int.injEq, reduceCtorEq, Option.map_eq_some_iff, and_false, exists_false] at hkk
              exact congrArg _ hkk
            subst e2
            simp only [VRel] at hs hx
            subst hs; subst hx
            exact val (aappendZ_rel (k := k) (C := C) (hC := hC) (hr := hr) hid hlt hlo hh ts ht h1 hd2 ty) (fun V w' hv => by simp [builtin, hv])
        · cases hh
      · cases hh
  · rename_i d x t ht
    simp only [VRelL] at ha
    obtain ⟨S, l, e, hs, X, l', rfl, hx, rfl⟩ := ha
    have eA : As = #[S, X] := Array.ext' (by simpa using e)
    subst eA
    exact val (acopy_rel (C := C) (hC := hC) (hr := hr) lo hh hs hx ts ht ty) (fun V w' hv => by simp [builtin, hv])
  · rename_i x t ht
    simp only [VRelL] at ha
    obtain ⟨X, l, e, hx, rfl⟩ := ha
    have eA : As = #[X] := Array.ext' (by simpa using e)
    subst eA
    cases hl : aclear C h t x with
    | none => rw [hl] at hh; cases hh
    | some r =>
      rw [hl] at hh; simp only [Option.map_some, Option.some.injEq, Prod.mk.injEq] at hh
      obtain ⟨rfl, rfl⟩ := hh
      obtain ⟨w', g1, g2⟩ := aclear_rel hC (lo := lo) hr hl hx ts ht ty
      exact ⟨.tuple #[], w', μ, by simp [builtin, g1], by simp only [VRel]; exact ⟨#[], rfl, by simp [VRelL]⟩, g2⟩
  · rename_i m k t ht
    simp only [VRelL] at ha
    obtain ⟨S, l, e, hs, X, l', rfl, hx, rfl⟩ := ha
    have eA : As = #[S, X] := Array.ext' (by simpa using e)
    subst eA
    cases hl : amapDelete C h t m k with
    | none => rw [hl] at hh; cases hh
    | some r =>
      rw [hl] at hh; simp only [Option.map_some, Option.some.injEq, Prod.mk.injEq] at hh
      obtain ⟨rfl, rfl⟩ := hh
      obtain ⟨w', g1, g2⟩ := amapDelete_rel hC (lo := lo) hr hl hs hx ts ht ty
      exact ⟨.tuple #[], w', μ, by simp [builtin, g1], by simp only [VRel]; exact ⟨#[], rfl, by simp [VRelL]⟩, g2⟩
  · simp only [VRelL] at ha
    obtain ⟨X, l, e, hx, hl⟩ := ha
    simp only [Option.map_eq_some_iff, Prod.mk.injEq] at hh
    obtain ⟨r, hm, rfl, rfl⟩ := hh
    obtain ⟨V, g1, g2⟩ := amin_rel (P := C.P) (m2 := Builtin.max2) (fun k a b => by simp [Builtin.max2]) hm hx hl w
    exact ⟨V, w, μ, by simp [builtin, Builtin.max_, e, g1], g2, Post.refl lo hr⟩
  · simp only [VRelL] at ha
    obtain ⟨X, l, e, hx, hl⟩ := ha
    simp only [Option.map_eq_some_iff, Prod.mk.injEq] at hh
    obtain ⟨r, hm, rfl, rfl⟩ := hh
    obtain ⟨V, g1, g2⟩ := amin_rel (P := C.P) (m2 := Builtin.min2) (fun k a b => by simp [Builtin.min2]) hm hx hl w
    exact ⟨V, w, μ, by simp [builtin, Builtin.min_, e, g1], g2, Post.refl lo hr⟩
  · cases hh

theorem aevalP_rel {e : Env} {a : Act} (hG : GOk C μ) (he : ERel μ e.v e.n a.tmps) : ∀ {ps : List (Nat × Operand)} {qs : List (Nat × AV)}, aevalP C e ps = some qs →
    qs.length = (ps.map fun x => (x.1, a.eval x.2)).length ∧ ∀ (j : Nat) i v, qs[j]? = some (i, v) → ∃ V, (ps.map fun x => (x.1, a.eval x.2))[j]? = some (i, V) ∧ VRel μ v V
  | [], qs, h => by simp only [aevalP, Option.some.injEq] at h; subst h; simp
  | (i, x) :: ps, qs, h => by
    simp only [aevalP] at h
    split at h
    · rename_i v l h1 h2
      injection h with h; subst h
      obtain ⟨g1, g2⟩ := aevalP_rel hG he h2
      refine ⟨by simpa using g1, fun j i' v' hj => ?_⟩
      cases j with
      | zero => simp at hj; obtain ⟨rfl, rfl⟩ := hj; exact ⟨_, by simp, aeval_rel hG he h1⟩
      | succ j => simpa using g2 j i' v' (by simpa using hj)
    · cases h
omit hC in
theorem aevalO_rel {e : Env} {a : Act} (hG : GOk C μ) (he : ERel μ e.v e.n a.tmps) {x : Option Operand} {r : Option AV} (h : aevalO C e x = some r) : ORelV μ r (x.map a.eval) := by
  cases x with
  | none => simp only [aevalO, Option.some.injEq] at h; subst h; trivial
  | some x =>
    simp only [aevalO] at h
    cases hx : aeval C e x with
    | none => rw [hx] at h; cases h
    | some v => rw [hx] at h; simp only [Option.map_some, Option.some.injEq] at h; subst h; exact aeval_rel hG he hx

/-- What an operation comes to. -/
def StepOk (P : Program) (lo : Nat → Prop) (μ : Mu) (h : AH) (w : World) (s : Sem Next) (v : AV) (h' : AH) : Prop :=
  (∃ V w' μ', s.run P w = .ok (.value V) w' ∧ VRel μ' v V ∧ Post lo μ h w μ' h' w') ∨ (∃ w' μ', s.run P w = .ok .skip w' ∧ v = .undef ∧ Post lo μ h w μ' h' w')

omit hC in
theorem StepOk.of_val {P : Program} {lo : Nat → Prop} {h h' : AH} {w : World} {s : Sem Value} {v : AV} (hs : OpOk P lo μ h w s v h') {s' : Sem Next} (hs' : s' = (do pure (.value (← s)))) : StepOk P lo μ h w s' v h' := by
  subst hs'
  obtain ⟨V, w', μ', h1, h2, h3⟩ := hs
  exact .inl ⟨V, w', μ', by simp [h1], h2, h3⟩

set_option maxHeartbeats 1000000 in
/-- **One operation that enters no function.** -/
theorem astep_rel {lo : Nat → Prop} {nid : Nat} {h h' : AH} {w : World} (hr : Rel μ h w) (hG : GOk C μ) (hid : μ.obj nid = none) (hlt : nid < h.next) (hlo : ¬ lo nid) {e : Env} {a : Act} (he : ERel μ e.v e.n a.tmps) (o : Oper) {q : AV}
    (hh : astep C o.op e h nid = some (q, h')) : StepOk C.P lo μ h w (execOp a.eval o) q h' := by
  obtain ⟨dst, op, type, pos, after, guard⟩ := o
  simp only at hh
  have V1 : ∀ {x : Operand} {v : AV}, aeval C e x = some v → VRel μ v (a.eval x) := fun hx => aeval_rel hG he hx
  cases op <;> simp only [astep] at hh <;> try (cases hh; done)
  case move x =>
    cases hx : aeval C e x with
    | none => rw [hx] at hh; cases hh
    | some v =>
      rw [hx] at hh; simp only [Option.map_some, Option.some.injEq, Prod.mk.injEq] at hh; obtain ⟨rfl, rfl⟩ := hh
      exact .inl ⟨_, w, μ, rfl, V1 hx, Post.refl lo hr⟩
  case assign x =>
    cases hx : aeval C e x with
    | none => rw [hx] at hh; cases hh
    | some v =>
      rw [hx] at hh; simp only [Option.map_some, Option.some.injEq, Prod.mk.injEq] at hh; obtain ⟨rfl, rfl⟩ := hh
      exact .inl ⟨_, w, μ, rfl, V1 hx, Post.refl lo hr⟩
  case pick c x y =>
    split at hh
    · rename_i hc
      have hcv := V1 hc; simp only [VRel] at hcv
      cases hx : aeval C e x with
      | none => rw [hx] at hh; cases hh
      | some v =>
        rw [hx] at hh; simp only [Option.map_some, Option.some.injEq, Prod.mk.injEq] at hh; obtain ⟨rfl, rfl⟩ := hh
        exact .inl ⟨_, w, μ, by simp [execOp, hcv, asBool], V1 hx, Post.refl lo hr⟩
    · rename_i hc
      have hcv := V1 hc; simp only [VRel] at hcv
      cases hx : aeval C e y with
      | none => rw [hx] at hh; cases hh
      | some v =>
        rw [hx] at hh; simp only [Option.map_some, Option.some.injEq, Prod.mk.injEq] at hh; obtain ⟨rfl, rfl⟩ := hh
        exact .inl ⟨_, w, μ, by simp [execOp, hcv, asBool], V1 hx, Post.refl lo hr⟩
    · cases hh
  case alloc t =>
    cases hT : C.T t with
    | none => rw [hT] at hh; cases hh
    | some i =>
      rw [hT] at hh; simp only [Option.map_some, Option.some.injEq, Prod.mk.injEq] at hh; obtain ⟨rfl, rfl⟩ := hh
      exact StepOk.of_val (alloc_rel hC hr hid hlt hlo hT) rfl
  case box t x =>
    cases hx : aeval C e x with
    | none => rw [hx] at hh; cases hh
    | some v =>
      rw [hx] at hh; simp only [Option.map_some, Option.some.injEq, Prod.mk.injEq] at hh; obtain ⟨rfl, rfl⟩ := hh
      exact StepOk.of_val (box_rel hC hr hid hlt hlo t (V1 hx)) rfl
  case build t ps =>
    cases hp : aevalP C e ps.toList with
    | none => rw [hp] at hh; cases hh
    | some qs =>
      rw [hp] at hh; simp only [Option.bind_some] at hh
      cases hb : abuild C t qs with
      | none => rw [hb] at hh; cases hh
      | some v =>
        rw [hb] at hh; simp only [Option.map_some, Option.some.injEq, Prod.mk.injEq] at hh; obtain ⟨rfl, rfl⟩ := hh
        have := aevalP_rel hC hG he hp
        exact StepOk.of_val (OpOk.pure hr (abuild_rel hC (qs := ps.map fun (i, x) => (i, a.eval x)) hb (by simpa using this) w)) rfl
  case buildSlice t n ps =>
    cases hp : aevalP C e ps.toList with
    | none => rw [hp] at hh; cases hh
    | some qs =>
      rw [hp] at hh; simp only [Option.bind_some] at hh
      have := aevalP_rel hC hG he hp
      exact StepOk.of_val (abuildSlice_rel hC hr hid hlt hlo (qs := ps.map fun (i, x) => (i, a.eval x)) hh (by simpa using this)) rfl
  case insert t m k x =>
    cases h1 : aeval C e m with
    | none => rw [h1] at hh; cases hh
    | some vm =>
      cases h2 : aeval C e k with
      | none => rw [h1, h2] at hh; cases hh
      | some vk =>
        cases h3 : aeval C e x with
        | none => rw [h1, h2, h3] at hh; cases hh
        | some vx =>
          rw [h1, h2, h3] at hh; simp only [Option.bind_some] at hh
          cases h4 : amapUpdate C h t vm vk vx with
          | none => rw [h4] at hh; cases hh
          | some r =>
            rw [h4] at hh; simp only [Option.map_some, Option.some.injEq, Prod.mk.injEq] at hh; obtain ⟨rfl, rfl⟩ := hh
            obtain ⟨w', g1, g2⟩ := amapUpdate_rel hC (lo := lo) hr h4 (V1 h1) (V1 h2) (V1 h3)
            exact .inr ⟨w', μ, by simp [execOp, g1], rfl, g2⟩
  case load t p =>
    cases h1 : aeval C e p with
    | none => rw [h1] at hh; cases hh
    | some vp =>
      rw [h1] at hh; simp only [Option.bind_some] at hh
      cases h2 : aload C h t vp with
      | none => rw [h2] at hh; cases hh
      | some v =>
        rw [h2] at hh; simp only [Option.map_some, Option.some.injEq, Prod.mk.injEq] at hh; obtain ⟨rfl, rfl⟩ := hh
        obtain ⟨ad, X, g1, g2, g3⟩ := loadVar_rel hC hr h2 (V1 h1)
        exact StepOk.of_val (OpOk.pure hr ⟨X, by simp [Instr.loadAt, g1, Instr.sureAddr, g2], g3⟩) rfl
  case store t p x =>
    cases h1 : aeval C e p with
    | none => rw [h1] at hh; cases hh
    | some vp =>
      cases h2 : aeval C e x with
      | none => rw [h1, h2] at hh; cases hh
      | some vx =>
        rw [h1, h2] at hh; simp only [Option.bind_some] at hh
        cases h3 : astore C h t vp vx with
        | none => rw [h3] at hh; cases hh
        | some r =>
          rw [h3] at hh; simp only [Option.map_some, Option.some.injEq, Prod.mk.injEq] at hh; obtain ⟨rfl, rfl⟩ := hh
          obtain ⟨ad, w', g1, g2, g3⟩ := storeVar_rel hC hr lo h3 (V1 h1) (V1 h2)
          exact .inr ⟨w', μ, by simp [execOp, Instr.storeAt, g1, Instr.sureAddr, g2], rfl, g3⟩
  case nilCheck x =>
    cases h1 : aeval C e x with
    | none => rw [h1] at hh; cases hh
    | some v =>
      rw [h1] at hh; simp only [Option.bind_some] at hh
      cases h2 : anilCheck v with
      | none => rw [h2] at hh; cases hh
      | some u =>
        rw [h2] at hh; simp only [Option.map_some, Option.some.injEq, Prod.mk.injEq] at hh; obtain ⟨rfl, rfl⟩ := hh
        have hv := V1 h1
        unfold anilCheck at h2
        split at h2
        · injection h2 with h2; subst h2
          have hv0 := hv
          simp only [VRel] at hv; obtain ⟨p, _, hv⟩ := hv
          rw [hv] at hv0
          exact .inl ⟨_, w, μ, by simp only [execOp, hv, Sem.run_pure], hv0, Post.refl lo hr⟩
        · injection h2 with h2; subst h2
          have hv0 := hv
          simp only [VRel] at hv; obtain ⟨b, o, vs, hv, _⟩ := hv
          rw [hv] at hv0
          exact .inl ⟨_, w, μ, by simp only [execOp, hv, Sem.run_pure], hv0, Post.refl lo hr⟩
        · injection h2 with h2; subst h2
          have hv0 := hv
          simp only [VRel] at hv; obtain ⟨p, _, hv⟩ := hv
          rw [hv] at hv0
          exact .inl ⟨_, w, μ, by simp only [execOp, hv, Sem.run_pure], hv0, Post.refl lo hr⟩
        · injection h2 with h2; subst h2
          have hv0 := hv
          simp only [VRel] at hv; obtain ⟨_, _, _, hv, _⟩ := hv
          rw [hv] at hv0
          exact .inl ⟨_, w, μ, by simp only [execOp, hv, Sem.run_pure], hv0, Post.refl lo hr⟩
        · cases h2
  case binOp op t x y yt =>
    cases h1 : aeval C e x with
    | none => rw [h1] at hh; cases hh
    | some vx =>
      cases h2 : aeval C e y with
      | none => rw [h1, h2] at hh; cases hh
      | some vy =>
        rw [h1, h2] at hh; simp only [Option.bind_some] at hh
        cases h3 : abin C op t x y vx vy with
        | none => rw [h3] at hh; cases hh
        | some v =>
          rw [h3] at hh; simp only [Option.map_some, Option.some.injEq, Prod.mk.injEq] at hh; obtain ⟨rfl, rfl⟩ := hh
          exact StepOk.of_val (OpOk.pure hr (abin_rel hC h3 (V1 h1) (V1 h2) w)) rfl
  case unOp op t x =>
    cases h1 : aeval C e x with
    | none => rw [h1] at hh; cases hh
    | some v =>
      rw [h1] at hh; simp only [Option.bind_some] at hh
      cases h2 : aun op v with
      | none => rw [h2] at hh; cases hh
      | some u =>
        rw [h2] at hh; simp only [Option.map_some, Option.some.injEq, Prod.mk.injEq] at hh; obtain ⟨rfl, rfl⟩ := hh
        exact StepOk.of_val (OpOk.pure hr (aun_rel h2 (V1 h1) w)) rfl
  case convert s d x =>
    cases h1 : aeval C e x with
    | none => rw [h1] at hh; cases hh
    | some v =>
      rw [h1] at hh; simp only [Option.bind_some] at hh
      cases h2 : aconv C s d v with
      | none => rw [h2] at hh; cases hh
      | some u =>
        rw [h2] at hh; simp only [Option.map_some, Option.some.injEq, Prod.mk.injEq] at hh; obtain ⟨rfl, rfl⟩ := hh
        exact StepOk.of_val (OpOk.pure hr (aconv_rel hC h2 (V1 h1) w)) rfl
  case makeInterface t x =>
    cases h1 : aeval C e x with
    | none => rw [h1] at hh; cases hh
    | some v =>
      cases hT : C.T t with
      | none => rw [h1, hT] at hh; cases hh
      | some i =>
        rw [h1, hT] at hh; simp only [Option.bind_some] at hh
        obtain ⟨d, hd, hk, _⟩ := run_und hC hT
        have hne : i.k ≠ .iface := fun e => by rw [e] at hh; cases hh
        have hdi : ∀ ms, d ≠ .interface ms := fun ms e => by subst e; simp only [mkTK, Option.some.injEq] at hk; exact hne hk.symm
        have hh' : some (AV.iface t v, h) = some (q, h') := by cases hk2 : i.k <;> rw [hk2] at hh <;> first | exact hh | exact absurd hk2 hne
        simp only [Option.some.injEq, Prod.mk.injEq] at hh'; obtain ⟨rfl, rfl⟩ := hh'
        refine StepOk.of_val (OpOk.pure hr ⟨.iface t (a.eval x), ?_, by simp only [VRel]; exact ⟨_, rfl, V1 h1⟩⟩) rfl
        simp only [Instr.makeInterface, Sem.run_bind, hd w, Result.andThen_ok]
        cases d <;> first | exact absurd rfl (hdi _) | rfl
  case makeFunc fn fi ca =>
    cases h1 : aevals C e fi.toList with
    | none => rw [h1] at hh; cases hh
    | some vf =>
      cases h2 : aevals C e ca.toList with
      | none => rw [h1, h2] at hh; cases hh
      | some vc =>
        rw [h1, h2] at hh; simp only [Option.bind_some] at hh
        have hny : ∀ l, fn ≠ .yield l := fun l e => by subst e; cases hh
        have hh' : some (AV.func fn vf vc, h) = some (q, h') := by cases fn <;> first | exact hh | exact absurd rfl (hny _)
        simp only [Option.some.injEq, Prod.mk.injEq] at hh'; obtain ⟨rfl, rfl⟩ := hh'
        refine StepOk.of_val (OpOk.pure hr ⟨.func fn (fi.map a.eval) (ca.map a.eval), rfl, ?_⟩) rfl
        simp only [VRel]
        exact ⟨hny, _, _, rfl, by simpa using aevals_rel hG he h1, by simpa using aevals_rel hG he h2⟩
  case makeMap t r =>
    have mk : OpOk C.P lo μ h w (do pure (.map (some (← newObj (.map #[] 0)))) : Sem Value) (.map nid) (h.set nid (.map [] 0)) := by
      refine ⟨.map (some w.heap.size), w.alloc (.map #[] 0), μ.put nid ⟨w.heap.size, 0, 0⟩, by simp, by simp only [VRel]; exact ⟨_, Mu.put_same _ _ _, rfl⟩, Post.alloc hr hid hlt hlo _ _ _ rfl ?_⟩
      simp only [ORel]
      exact ⟨#[], World.heap_alloc_eq w _, by simp [MRel]⟩
    cases r with
    | none =>
      simp only [Option.some.injEq, Prod.mk.injEq] at hh; obtain ⟨rfl, rfl⟩ := hh
      exact StepOk.of_val mk (by simp [execOp, Instr.makeMap])
    | some x =>
      simp only at hh
      split at hh
      · rename_i k n ti hx hT
        obtain ⟨d, hd, hk, _⟩ := run_und hC hT
        split at hh
        · rename_i kt et hkk
          rw [hkk] at hk; have e' := mkTK_map hk; subst e'
          simp only [Option.some.injEq, Prod.mk.injEq] at hh; obtain ⟨rfl, rfl⟩ := hh
          obtain ⟨V, w', μ', g1, g2, g3⟩ := mk
          have hxv := V1 hx; simp only [VRel] at hxv
          refine .inl ⟨V, w', μ', ?_, g2, g3⟩
          simp at g1
          simp [execOp, Instr.makeMap, hd w, hxv, asInt, asIntOf, g1]
        · cases hh
      · cases hh
  case makeSlice t l c =>
    cases h1 : aeval C e l with
    | none => rw [h1] at hh; cases hh
    | some vl =>
      cases h2 : aeval C e c with
      | none => rw [h1, h2] at hh; cases hh
      | some vc =>
        rw [h1, h2] at hh; simp only [Option.bind_some] at hh
        exact StepOk.of_val (amakeSlice_rel hC hr hid hlt hlo hh (V1 h1) (V1 h2)) rfl
  case slice t x lo' hi mx =>
    cases h1 : aeval C e x with
    | none => rw [h1] at hh; cases hh
    | some vx =>
      cases h2 : aevalO C e lo' with
      | none => rw [h1, h2] at hh; cases hh
      | some v2 =>
        cases h3 : aevalO C e hi with
        | none => rw [h1, h2, h3] at hh; cases hh
        | some v3 =>
          cases h4 : aevalO C e mx with
          | none => rw [h1, h2, h3, h4] at hh; cases hh
          | some v4 =>
            rw [h1, h2, h3, h4] at hh; simp only [Option.bind_some] at hh
            cases h5 : aslice C t vx v2 v3 v4 with
            | none => rw [h5] at hh; cases hh
            | some v =>
              rw [h5] at hh; simp only [Option.map_some, Option.some.injEq, Prod.mk.injEq] at hh; obtain ⟨rfl, rfl⟩ := hh
              exact StepOk.of_val (OpOk.pure hr (sliceAt_rel hC h5 (V1 h1) (aevalO_rel hG he h2) (aevalO_rel hG he h3) (aevalO_rel hG he h4) w)) rfl
  case fieldAddr s p f =>
    cases h1 : aeval C e p with
    | none => rw [h1] at hh; cases hh
    | some vp =>
      rw [h1] at hh; simp only [Option.bind_some] at hh
      cases h2 : afieldAddr C s vp f with
      | none => rw [h2] at hh; cases hh
      | some v =>
        rw [h2] at hh; simp only [Option.map_some, Option.some.injEq, Prod.mk.injEq] at hh; obtain ⟨rfl, rfl⟩ := hh
        exact StepOk.of_val (OpOk.pure hr (fieldAt_rel hC h2 (V1 h1) w)) rfl
  case field s x f =>
    cases h1 : aeval C e x with
    | none => rw [h1] at hh; cases hh
    | some vp =>
      rw [h1] at hh; simp only [Option.bind_some] at hh
      cases h2 : afield C s vp f with
      | none => rw [h2] at hh; cases hh
      | some v =>
        rw [h2] at hh; simp only [Option.map_some, Option.some.injEq, Prod.mk.injEq] at hh; obtain ⟨rfl, rfl⟩ := hh
        exact StepOk.of_val (OpOk.pure hr (afield_rel hC h2 (V1 h1) w)) rfl
  case indexAddr t x i =>
    cases h1 : aeval C e x with
    | none => rw [h1] at hh; cases hh
    | some vx =>
      cases h2 : aeval C e i with
      | none => rw [h1, h2] at hh; cases hh
      | some vi =>
        rw [h1, h2] at hh; simp only [Option.bind_some] at hh
        cases h3 : aindexAddr C t vx vi with
        | none => rw [h3] at hh; cases hh
        | some v =>
          rw [h3] at hh; simp only [Option.map_some, Option.some.injEq, Prod.mk.injEq] at hh; obtain ⟨rfl, rfl⟩ := hh
          exact StepOk.of_val (OpOk.pure hr (indexAt_rel hC h3 (V1 h1) (V1 h2) w)) rfl
  case index t x i =>
    cases h1 : aeval C e x with
    | none => rw [h1] at hh; cases hh
    | some vx =>
      cases h2 : aeval C e i with
      | none => rw [h1, h2] at hh; cases hh
      | some vi =>
        rw [h1, h2] at hh; simp only [Option.bind_some] at hh
        cases h3 : aindex C t vx vi with
        | none => rw [h3] at hh; cases hh
        | some v =>
          rw [h3] at hh; simp only [Option.map_some, Option.some.injEq, Prod.mk.injEq] at hh; obtain ⟨rfl, rfl⟩ := hh
          exact StepOk.of_val (OpOk.pure hr (aindex_rel hC h3 (V1 h1) (V1 h2) w)) rfl
  case lookup t m k ok =>
    cases h1 : aeval C e m with
    | none => rw [h1] at hh; cases hh
    | some vx =>
      cases h2 : aeval C e k with
      | none => rw [h1, h2] at hh; cases hh
      | some vi =>
        rw [h1, h2] at hh; simp only [Option.bind_some] at hh
        cases h3 : alookup C h t vx vi ok with
        | none => rw [h3] at hh; cases hh
        | some v =>
          rw [h3] at hh; simp only [Option.map_some, Option.some.injEq, Prod.mk.injEq] at hh; obtain ⟨rfl, rfl⟩ := hh
          exact StepOk.of_val (OpOk.pure hr (alookup_rel hC hr h3 (V1 h1) (V1 h2))) rfl
  case mapUpdate t m k x =>
    cases h1 : aeval C e m with
    | none => rw [h1] at hh; cases hh
    | some vm =>
      cases h2 : aeval C e k with
      | none => rw [h1, h2] at hh; cases hh
      | some vk =>
        cases h3 : aeval C e x with
        | none => rw [h1, h2, h3] at hh; cases hh
        | some vx =>
          rw [h1, h2, h3] at hh; simp only [Option.bind_some] at hh
          cases h4 : amapUpdate C h t vm vk vx with
          | none => rw [h4] at hh; cases hh
          | some r =>
            rw [h4] at hh; simp only [Option.map_some, Option.some.injEq, Prod.mk.injEq] at hh; obtain ⟨rfl, rfl⟩ := hh
            obtain ⟨w', g1, g2⟩ := amapUpdate_rel hC (lo := lo) hr h4 (V1 h1) (V1 h2) (V1 h3)
            exact .inr ⟨w', μ, by simp [execOp, g1], rfl, g2⟩
  case mapEntry t m k =>
    cases h1 : aeval C e m with
    | none => rw [h1] at hh; cases hh
    | some vm =>
      cases h2 : aeval C e k with
      | none => rw [h1, h2] at hh; cases hh
      | some vk =>
        rw [h1, h2] at hh; simp only [Option.bind_some] at hh
        exact StepOk.of_val (amapEntry_rel hC hr hh (V1 h1) (V1 h2)) rfl
  case entryStore t m s x =>
    cases h1 : aeval C e m with
    | none => rw [h1] at hh; cases hh
    | some vm =>
      cases h2 : aeval C e s with
      | none => rw [h1, h2] at hh; cases hh
      | some vk =>
        cases h3 : aeval C e x with
        | none => rw [h1, h2, h3] at hh; cases hh
        | some vx =>
          rw [h1, h2, h3] at hh; simp only [Option.bind_some] at hh
          cases h4 : aentryStore h vm vk vx with
          | none => rw [h4] at hh; cases hh
          | some r =>
            rw [h4] at hh; simp only [Option.map_some, Option.some.injEq, Prod.mk.injEq] at hh; obtain ⟨rfl, rfl⟩ := hh
            obtain ⟨w', g1, g2⟩ := aentryStore_rel (C := C) hC (lo := lo) hr t h4 (V1 h1) (V1 h2) (V1 h3)
            exact .inr ⟨w', μ, by simp [execOp, g1], rfl, g2⟩
  case typeAssert x xt t ok =>
    cases h1 : aeval C e x with
    | none => rw [h1] at hh; cases hh
    | some v =>
      rw [h1] at hh; simp only [Option.bind_some] at hh
      cases h2 : aassert C v t ok with
      | none => rw [h2] at hh; cases hh
      | some u =>
        rw [h2] at hh; simp only [Option.map_some, Option.some.injEq, Prod.mk.injEq] at hh; obtain ⟨rfl, rfl⟩ := hh
        exact StepOk.of_val (OpOk.pure hr (aassert_rel hC h2 (V1 h1) xt w)) rfl
  case range t x =>
    cases h1 : aeval C e x with
    | none => rw [h1] at hh; cases hh
    | some v =>
      rw [h1] at hh; simp only [Option.bind_some] at hh
      exact StepOk.of_val (arange_rel hC hr hid hlt hlo hh (V1 h1)) rfl
  case entry x =>
    cases h1 : aeval C e x with
    | none => rw [h1] at hh; cases hh
    | some v =>
      rw [h1] at hh; simp only [Option.bind_some] at hh
      cases h2 : aentry h v with
      | none => rw [h2] at hh; cases hh
      | some q =>
        rw [h2] at hh; simp only [Option.map_some, Option.some.injEq, Prod.mk.injEq] at hh; obtain ⟨rfl, rfl⟩ := hh
        exact StepOk.of_val (OpOk.pure hr (aentry_rel hC hr h2 (V1 h1))) rfl
  case extract t i =>
    split at hh
    · rename_i vs hx
      cases hv : vs[i]? with
      | none => rw [hv] at hh; cases hh
      | some v =>
        rw [hv] at hh; simp only [Option.map_some, Option.some.injEq, Prod.mk.injEq] at hh; obtain ⟨rfl, rfl⟩ := hh
        have hx' := V1 hx
        simp only [VRel] at hx'
        obtain ⟨ar, hX, hl⟩ := hx'
        obtain ⟨V, hV, rV⟩ := hl.get hv
        have hV' : ar[i]? = some V := by simpa using hV
        exact StepOk.of_val (OpOk.pure hr ⟨V, by simp [Instr.extract, hX, hV'], rV⟩) rfl
    · cases hh
  case call c =>
    split at hh
    · rename_i b hb
      cases h1 : aevals C e c.args.toList with
      | none => rw [h1] at hh; cases hh
      | some vs =>
        rw [h1] at hh; simp only [Option.bind_some] at hh
        have ha := aevals_rel hG he h1
        obtain ⟨V, w', μ', g1, g2, g3⟩ := abuiltin_rel hC (lo := lo) hr hid hlt hlo hh (As := c.args.map a.eval) (by simpa using ha) type (c.args.map fun | .const _ => true | _ => false)
        refine .inl ⟨V, w', μ', ?_, g2, g3⟩
        simp only [execOp, Sem.run_bind, resolve, hb, Sem.run_pure, Result.andThen_ok, invoke]
        exact g1
    · cases hh
end
end Go.Am
