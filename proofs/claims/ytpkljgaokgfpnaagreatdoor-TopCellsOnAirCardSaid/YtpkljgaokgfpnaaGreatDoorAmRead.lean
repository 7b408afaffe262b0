/- What an argument's reading tells, as abstract values that lie still. -/
import Derived.Test.YtpkljgaokgfpnaaGreatDoorAmM
import Derived.Deep.Slices
import Derived.Deep.Strs
import Derived.Carry
set_option linter.unusedVariables false
namespace Go.Am
open Go

/-- All that is there lies still. -/
def allFro (W : World) : Mu := ⟨fun _ => none, fun b => W.heap[b]?⟩
theorem allFro_rel (W : World) (n : Nat) : Rel (allFro W) ⟨n, .nil⟩ W :=
  ⟨fun _ _ h => h, fun _ _ h => (by cases h), fun id o h => (by cases h), fun i j _ _ _ _ h => (by cases h)⟩
theorem allFro_cell {W : World} {a : Addr} {v : Value} (h : W.cell? a = some v) : a.spot = none ∧ (allFro W).cell a.block a.off = some v := by
  unfold World.cell? at h
  simp only [Mu.cell, allFro]
  split at h
  · rename_i c t fr hc
    split at h
    · cases h
    · rename_i hs
      rw [hc]
      exact ⟨by cases hx : a.spot <;> simp_all, h⟩
  · cases h
theorem addr_of {a : Addr} (h : a.spot = none) : a = ⟨a.block, a.off, none⟩ := by cases a; simp only at h; subst h; rfl
theorem add_of {a : Addr} (h : a.spot = none) (n : Nat) : a.add n = ⟨a.block, a.off + n, none⟩ := by
  unfold Addr.add
  split
  · rename_i h0; subst h0; exact addr_of h
  · rfl
theorem fro_flat {μ : Mu} {b sz : Nat} : ∀ (vss : List (List Value)) (o : Nat), (∀ i row, vss[i]? = some row → row.length = sz ∧ FroAt μ b (o + i * sz) row) → FroAt μ b o vss.flatten
  | [], o, _ => fun j v hj => by simp at hj
  | r :: vss, o, h => by
    have h0 := h 0 r rfl
    have ih := fro_flat (sz := sz) vss (o + sz) (fun i row hi => by
      have := h (i + 1) row hi
      rw [show o + (i + 1) * sz = o + sz + i * sz by rw [Nat.add_mul]; omega] at this
      exact this)
    intro j v hj
    rw [List.flatten_cons, List.getElem?_append] at hj
    split at hj
    · have := h0.2 j v hj
      simpa using this
    · rename_i hlt
      have := ih (j - r.length) v hj
      rw [show o + sz + (j - r.length) = o + j by omega] at this
      exact this
theorem vrelLL_map {μ : Mu} {α : Type} (f : α → List AV) (g : α → List Value) : ∀ (l : List α), (∀ x ∈ l, VRelL μ (f x) (g x)) → VRelLL μ (l.map f) (l.map g)
  | [], _ => rfl
  | x :: l, h => ⟨_, _, rfl, h x (by simp), vrelLL_map f g l fun y hy => h y (by simp [hy])⟩

section
variable {H : Type} {enc : TypeId × Value → H} {P : Program} {W : World} {base : Nat} {held : Bool}
/-- A slice that is read, its elements told. -/
theorem read_slice {t e : TypeId} (ht : P.underlying t = some (.slice e)) (hz : 0 < P.cellsOf e) {A : List AV → Prop}
    (elem : ∀ n cs x, DataW.trod enc P W base (fun _ => true) held n e cs = some x → ∃ xs, VRelL (allFro W) xs cs ∧ A xs)
    {fuel : Nat} {cs : List Value} {x : DataW H × List MemPlace} (h : DataW.trod enc P W base (fun _ => true) held fuel t cs = some x) :
    ∃ es f v, cs = [v] ∧ VRel (allFro W) (.lst es f) v ∧ es.length ≤ maxLen ∧ ∀ xs ∈ es, A xs := by
  rcases Go.Deep.open_slice ht h with ⟨rfl, _⟩ | ⟨a, len, cap, m, n, D, Pl, rfl, hb, hl, hm, hmm, rfl, hx⟩
  · refine ⟨[], true, _, rfl, ?_, by simp, fun _ h => by cases h⟩
    simp only [VRel]
    exact .inl ⟨trivial, none, rfl⟩
  · simp only [if_true] at hmm
    subst hmm
    rcases Nat.eq_zero_or_pos m with h0 | hpos
    · subst h0
      obtain rfl : len = 0 := by omega
      refine ⟨[], true, _, rfl, ?_, by simp, fun _ h => by cases h⟩
      simp only [VRel]
      exact .inl ⟨trivial, some a, rfl⟩
    · -- the first cell shows where it lies
      have hspot : a.spot = none := by
        obtain ⟨cs', h1, _⟩ := hx 0 hpos
        obtain ⟨_, hlen, hc⟩ := World.cells?_some h1
        have h2 := hc 0 hz
        simp only [Nat.zero_mul] at h2
        rw [List.getElem?_eq_getElem (by omega)] at h2
        have := (allFro_cell h2).1
        simpa [Addr.add] using this
      have hrow : ∀ i, i < len → ∃ p : List Value × List AV, p.1.length = P.cellsOf e ∧ FroAt (allFro W) a.block (a.off + i * P.cellsOf e) p.1 ∧ VRelL (allFro W) p.2 p.1 ∧ A p.2 := by
        intro i hi
        obtain ⟨cs', h1, h2⟩ := hx i (by omega)
        obtain ⟨_, hlen, hc⟩ := World.cells?_some h1
        obtain ⟨xs, hxs, hA⟩ := elem _ _ _ h2
        refine ⟨(cs', xs), hlen, fun j v hj => ?_, hxs, hA⟩
        have hj' : j < cs'.length := (List.getElem?_eq_some_iff.1 hj).1
        have h3 := hc j (by omega)
        simp only at hj
        rw [hj, add_of hspot, add_of rfl] at h3
        exact (allFro_cell h3).2
      obtain ⟨R, hR⟩ : ∃ R : Nat → List Value × List AV, ∀ i, i < len → (R i).1.length = P.cellsOf e ∧ FroAt (allFro W) a.block (a.off + i * P.cellsOf e) (R i).1 ∧ VRelL (allFro W) (R i).2 (R i).1 ∧ A (R i).2 := by
        classical
        refine ⟨fun i => if hi : i < len then Classical.choose (hrow i hi) else ([], []), fun i hi => ?_⟩
        simp only [dif_pos hi]
        exact Classical.choose_spec (hrow i hi)
      have hlr : ((List.range len).map fun i => (R i).2).length = len := by simp
      refine ⟨(List.range len).map fun i => (R i).2, m == len, _, rfl, ?_, by rw [hlr]; omega, fun xs hxs => ?_⟩
      · simp only [VRel, hlr]
        refine .inr ⟨a.block, a.off, m, P.cellsOf e, (List.range len).map fun i => (R i).1, by rw [← addr_of hspot], hl, fun hf => by simpa using hf, ?_, ?_, ?_⟩
        · exact vrelLL_map _ _ _ fun i hi => (hR i (List.mem_range.1 hi)).2.2.1
        · intro l hl'
          obtain ⟨i, hi, rfl⟩ := List.mem_map.1 hl'
          exact (hR i (List.mem_range.1 hi)).1
        · refine fro_flat (sz := P.cellsOf e) _ _ fun i row hi => ?_
          rw [List.getElem?_map] at hi
          obtain ⟨j, hj, rfl⟩ := Option.map_eq_some_iff.1 hi
          have hlt : i < len := by
            have := (List.getElem?_eq_some_iff.1 hj).1
            simpa using this
          rw [List.getElem?_range hlt] at hj
          injection hj with hj; subst hj
          exact ⟨(hR i hlt).1, (hR i hlt).2.1⟩
      · obtain ⟨i, hi, rfl⟩ := List.mem_map.1 hxs
        exact (hR i (List.mem_range.1 hi)).2.2.2

/-- A type of which all cells are of kind int. -/
def flatI (P : Program) : Nat → TypeId → Bool
  | 0, _ => false
  | n + 1, t => match P.underlying t with
    | some (.int .i64) => Nat.beq (P.cellsOf t) 1
    | some (.struct fs) => fs.toList.all (fun f => flatI P n f.type) && (List.range (P.cellsOf t)).all (fun i => fs.toList.any fun f => decide (f.offset ≤ i) && decide (i < f.offset + P.cellsOf f.type))
    | _ => false
theorem flat_ok : ∀ (n : Nat) {t : TypeId}, flatI P n t = true → ∀ {spare : Nat → Bool} {fuel : Nat} {cs : List Value} {x : DataW H × List MemPlace}, DataW.trod enc P W base spare held fuel t cs = some x → cs.length = P.cellsOf t ∧ ∀ v ∈ cs, ∃ z, v = .int .i64 z
  | 0, _, h, _, _, _, _, _ => by cases h
  | n + 1, t, h, spare, fuel, cs, x, hx => by
    unfold flatI at h
    split at h
    · rename_i hu
      obtain ⟨z, rfl, _⟩ := DataW.trod_int hu hx
      exact ⟨(Nat.eq_of_beq_eq_true h).symm, fun v hv => ⟨z, by simpa using hv⟩⟩
    · rename_i fs hu
      simp only [Bool.and_eq_true, List.all_eq_true] at h
      obtain ⟨xs, m, _, _, hl, hlen, hf⟩ := DataW.trod_struct hu hx
      refine ⟨hl, fun v hv => ?_⟩
      obtain ⟨i, hi, rfl⟩ := List.mem_iff_getElem.1 hv
      obtain ⟨f, hfm, hfi⟩ := List.any_eq_true.1 (h.2 i (List.mem_range.2 (by omega)))
      simp only [Bool.and_eq_true, decide_eq_true_eq] at hfi
      obtain ⟨k, hk, rfl⟩ := List.mem_iff_getElem.1 hfm
      have hk' : fs[k]? = some fs.toList[k] := by simp
      have h1 := hf k _ hk'
      have hkx : k < xs.length := by rw [hlen]; simpa using hk
      rw [List.getElem?_eq_getElem hkx] at h1
      obtain ⟨h2, h3⟩ := flat_ok n (h.1 _ hfm) h1
      refine h3 _ (List.mem_iff_getElem?.2 ⟨i - fs.toList[k].offset, ?_⟩)
      rw [List.getElem?_take, if_pos (by omega), List.getElem?_drop, show fs.toList[k].offset + (i - fs.toList[k].offset) = i by omega]
      exact List.getElem?_eq_getElem hi
    · cases h
theorem vrel_ints {μ : Mu} : ∀ {cs : List Value}, (∀ v ∈ cs, ∃ z, v = .int .i64 z) → ∃ zs : List Int, cs = zs.map (Value.int .i64) ∧ VRelL μ (zs.map (AV.int .i64)) cs
  | [], _ => ⟨[], rfl, rfl⟩
  | v :: cs, h => by
    obtain ⟨z, rfl⟩ := h v (by simp)
    obtain ⟨zs, rfl, hz⟩ := vrel_ints (μ := μ) (cs := cs) fun u hu => h u (by simp [hu])
    exact ⟨z :: zs, rfl, _, _, rfl, rfl, hz⟩
/-- Old memory is as it was. -/
theorem below_of {lo : Nat → Prop} {W w' : World} {μ' : Mu} {h h' : AH} (hp : Post lo (allFro W) h W μ' h' w') : Go.RowKit.Below W.heap.size W w' := by
  refine ⟨hp.os, hp.tape, hp.output, hp.size, fun k hk => ?_⟩
  have : (allFro W).fro k = some W.heap[k] := Array.getElem?_eq_getElem hk
  rw [hp.rel.fro k _ (hp.le.fro k _ this)]
  exact (Array.getElem?_eq_getElem hk).symm
/-- All arguments, each as it read. -/
theorem trodAll_stays (hl : laidOutB P = true) : ∀ {ts : List TypeId} {vs : List Value} {ds : List (DataW H)} {ps : List MemPlace}, ts.all (fun t => P.readableRec t && decide (t < P.types.size)) = true → DataW.TrodAll enc P W 0 (fun _ => true) true ts vs ds ps →
    ∀ {w' : World} {sp : Nat → Bool}, Go.RowKit.Below W.heap.size W w' → (∀ p ∈ ps, p.block < W.heap.size) → (∀ p ∈ ps, sp p.block = true) → DataW.TrodAll enc P w' 0 sp true ts vs ds ps
  | [], [], [], _, _, h, _, _, _, _, _ => h
  | t :: ts, v :: vs, d :: ds, ps, hts, ⟨p, q, h1, h2, e⟩, w', sp, hb, hlt, hs => by
    simp only [List.all_cons, Bool.and_eq_true, decide_eq_true_eq] at hts
    refine ⟨p, q, Go.WideElems.Trod_stays hl hts.1.1 hts.1.2 h1 (fun x hx => hb.same (hlt x (by rw [e]; exact List.mem_append_left _ hx))) (fun x hx => hs x (by rw [e]; exact List.mem_append_left _ hx)),
      trodAll_stays hl hts.2 h2 hb (fun x hx => hlt x (by rw [e]; exact List.mem_append_right _ hx)) (fun x hx => hs x (by rw [e]; exact List.mem_append_right _ hx)), e⟩
end
end Go.Am
