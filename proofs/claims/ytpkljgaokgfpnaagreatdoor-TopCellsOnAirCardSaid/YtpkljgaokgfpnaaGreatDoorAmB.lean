/- The abstract machine's operations stand for the machine's own: building, new memory, appending. -/
import Derived.Test.YtpkljgaokgfpnaaGreatDoorAmA
import Derived.Laws.Build
import Derived.IntWalk
set_option linter.unusedVariables false
set_option linter.unusedSimpArgs false
set_option linter.unusedSectionVars false
namespace Go.Am
open Go

theorem aun_rel {P : Program} {op : UnOp} {x q : AV} (h : aun op x = some q) {μ : Mu} {X : Value} (hx : VRel μ x X) (w : World) : ∃ V, (Op.unary op X).run P w = .ok V w ∧ VRel μ q V := by
  unfold aun at h
  split at h
  · injection h with h; subst h; simp only [VRel] at hx; subst hx
    exact ⟨_, rfl, by simp only [VRel]⟩
  · simp only [VRel] at hx; subst hx
    rename_i k n
    simp only [aint] at h; injection h with h; subst h
    exact ⟨_, rfl, by simp only [VRel]⟩
  · injection h with h; subst h; simp only [VRel] at hx; subst hx
    exact ⟨_, rfl, by simp only [VRel]⟩
  · cases h

/-- What is asked of an operation that yields a value. -/
def OpOk (P : Program) (lo : Nat → Prop) (μ : Mu) (h : AH) (w : World) (s : Sem Value) (v : AV) (h' : AH) : Prop :=
  ∃ V w' μ', s.run P w = .ok V w' ∧ VRel μ' v V ∧ Post lo μ h w μ' h' w'
theorem OpOk.pure {P : Program} {lo : Nat → Prop} {μ : Mu} {h : AH} {w : World} (hr : Rel μ h w) {s : Sem Value} {v : AV} (hs : ∃ V, s.run P w = .ok V w ∧ VRel μ v V) : OpOk P lo μ h w s v h := by
  obtain ⟨V, h1, h2⟩ := hs
  exact ⟨V, w, μ, h1, h2, Post.refl lo hr⟩

theorem afill_rel {μ : Mu} {place : Nat → Option (Nat × Nat)} : ∀ {parts : List (Nat × AV)} {cells r : List AV}, afill place cells parts = some r → ∀ {cs : Array Value} {ps : List (Nat × Value)}, VRelL μ cells cs.toList →
    (parts.length = ps.length ∧ ∀ (j : Nat) i v, parts[j]? = some (i, v) → ∃ V, ps[j]? = some (i, V) ∧ VRel μ v V) →
    ∃ R, Instr.fill place cs ps = some R ∧ VRelL μ r R.toList
  | [], cells, r, h, cs, ps, hc, hp => by
    simp only [afill, Option.some.injEq] at h; subst h
    have : ps = [] := List.eq_nil_of_length_eq_zero (by simpa using hp.1.symm)
    subst this
    exact ⟨cs, rfl, hc⟩
  | (i, v) :: rest, cells, r, h, cs, ps, hc, hp => by
    cases ps with
    | nil => simp at hp
    | cons q ps =>
      obtain ⟨V, hq, hV⟩ := hp.2 0 i v (by simp)
      simp at hq; subst hq
      simp only [afill] at h
      cases hpl : place i with
      | none => rw [hpl] at h; cases h
      | some os =>
        obtain ⟨off, size⟩ := os
        rw [hpl] at h; simp only at h
        split at h
        · rename_i hb
          have hcells := hV.cells
          have hlen : V.cells.size = size := by rw [← hb.1, hcells.length]; simp
          have hcl := hc.length
          simp only [Array.length_toList] at hcl
          have hfold : ∀ (vs : List Value) (k : Nat) (A : Array Value), off + k + vs.length ≤ A.size →
              ((vs.zipIdx k).foldl (fun cs (x : Value × Nat) => cs.setIfInBounds (off + x.2) x.1) A).toList = A.toList.take (off + k) ++ vs ++ A.toList.drop (off + k + vs.length) := by
            intro vs
            induction vs with
            | nil => intro k A hA; simp
            | cons u us ih =>
              intro k A hA
              simp only [List.zipIdx_cons, List.foldl_cons]
              simp only [List.length_cons] at hA
              rw [ih (k + 1) _ (by simp; omega)]
              simp only [Array.toList_setIfInBounds, List.length_cons]
              have e1 : (A.toList.set (off + k) u).take (off + (k + 1)) = A.toList.take (off + k) ++ [u] := by
                rw [show off + (k + 1) = off + k + 1 from by omega, List.take_add_one]
                have hl : off + k < A.toList.length := by simp; omega
                rw [List.take_set_of_le (by omega)]
                simp only [List.getElem?_set, hl, if_true, Option.toList]
              have e2 : (A.toList.set (off + k) u).drop (off + (k + 1) + us.length) = A.toList.drop (off + k + (us.length + 1)) := by
                rw [List.drop_set_of_lt (by omega)]
                congr 1; omega
              rw [e1, e2]; simp
          have hR := hfold V.cells.toList 0 cs (by simp; omega)
          simp only [Nat.add_zero] at hR
          have hzip : (V.cells.zipIdx.foldl (fun cs (x : Value × Nat) => cs.setIfInBounds (off + x.2) x.1) cs).toList = cs.toList.take off ++ V.cells.toList ++ cs.toList.drop (off + V.cells.toList.length) := by
            rw [← hR, ← Array.foldl_toList]
            simp
          have hsp : VRelL μ (splice cells off v.cells) (V.cells.zipIdx.foldl (fun cs (x : Value × Nat) => cs.setIfInBounds (off + x.2) x.1) cs).toList := by
            rw [hzip]
            unfold splice
            have := ((hc.take off).append hcells).append (hc.drop (off + v.cells.length))
            rw [hcells.length] at this
            rw [hcells.length]; exact this
          obtain ⟨R, h1, h2⟩ := afill_rel h hsp ⟨by simpa using hp.1, fun j i' v' hj => by simpa using hp.2 (j + 1) i' v' (by simpa using hj)⟩
          refine ⟨R, ?_, h2⟩
          simp only [Instr.fill, hpl]
          rw [if_neg (by simp [hlen]; omega)]
          exact h1
        · cases h

section
variable {C : Ctx} (hC : CtxOk C) {μ : Mu} {h : AH} {w : World} (hr : Rel μ h w)
include hC

theorem aconv_rel {s d : TypeId} {x q : AV} (hh : aconv C s d x = some q) {X : Value} (hx : VRel μ x X) (w : World) : ∃ V, (convert s d X).run C.P w = .ok V w ∧ VRel μ q V := by
  unfold aconv at hh
  cases hs : C.T s with
  | none => rw [hs] at hh; cases hh
  | some si =>
    cases hd : C.T d with
    | none => rw [hs, hd] at hh; cases hh
    | some di =>
      rw [hs, hd] at hh; simp only at hh
      obtain ⟨ds, h1, h2, _⟩ := run_und hC hs
      obtain ⟨dd, h3, h4, _⟩ := run_und hC hd
      split at hh
      · rename_i k k' n e1
        injection hh with hh; subst hh
        simp only [VRel] at hx; subst hx
        rw [e1] at h4
        have e := mkTK_int h4; subst e
        refine ⟨.int k (k.wrap n), ?_, by simp only [VRel]⟩
        simp only [convert, Sem.run_bind, h1 w, h3 w, Result.andThen_ok]
        rfl
      · rename_i s' e1
        injection hh with hh; subst hh
        simp only [VRel] at hx; subst hx
        rw [e1] at h4
        have e := mkTK_str h4; subst e
        refine ⟨.string s', ?_, by simp only [VRel]⟩
        simp only [convert, Sem.run_bind, h1 w, h3 w, Result.andThen_ok]
        cases ds <;> rfl
      · cases hh

theorem zeroValue_rel {t : TypeId} {i : TI} (hT : C.T t = some i) (w : World) : ∃ z : Value, (zeroValue t).run C.P w = .ok z w ∧ z.cells.toList.mapM mkCell = some i.zero := by
  obtain ⟨inf, h1, _, _, _, z, hz, hm⟩ := run_typeInfo hC hT w
  exact ⟨z, by simp [zeroValue, h1, hz], hm⟩
/-- A zero value as such. -/
theorem azero_rel {t : TypeId} {i : TI} (hT : C.T t = some i) {q : AV} (hq : azero i = some q) (hz : ∀ z, C.P.info? t = some z → ∀ v, z.zero = some v → (i.agg = true → ∃ a, v = .agg a) ∧ (i.agg = false → v.oneCell' = true)) (w : World) :
    ∃ z : Value, (zeroValue t).run C.P w = .ok z w ∧ VRel μ q z := by
  obtain ⟨inf, h1, h0, _, _, z, hz', hm⟩ := run_typeInfo hC hT w
  refine ⟨z, by simp [zeroValue, h1, hz'], ?_⟩
  obtain ⟨ha, hn⟩ := hz inf h0 z hz'
  unfold azero at hq
  split at hq
  · rename_i hi
    injection hq with hq; subst hq
    obtain ⟨a, rfl⟩ := ha hi
    simp only [VRel]
    exact ⟨a, rfl, mapM_mkCell (by simpa [Value.cells] using hm) μ⟩
  · rename_i hi
    split at hq
    · rename_i z0 hz0
      injection hq with hq; subst hq
      have hi' : i.agg = false := by simpa using hi
      have h1c := hn hi'
      have : z.cells = #[z] := by cases z <;> first | rfl | (simp [Value.oneCell'] at h1c)
      rw [this, hz0] at hm
      have := mapM_mkCell hm μ
      simp only [VRelL] at this
      obtain ⟨v, l, e, hv, _⟩ := this
      simp at e; rw [e.1]; exact hv
    · cases hq

theorem abuild_rel {t : TypeId} {ps : List (Nat × AV)} {q : AV} (hh : abuild C t ps = some q) {qs : Array (Nat × Value)}
    (hp : ps.length = qs.toList.length ∧ ∀ (j : Nat) i v, ps[j]? = some (i, v) → ∃ V, qs.toList[j]? = some (i, V) ∧ VRel μ v V) (w : World) :
    ∃ V, (Instr.build t qs).run C.P w = .ok V w ∧ VRel μ q V := by
  unfold abuild at hh
  cases hT : C.T t with
  | none => rw [hT] at hh; cases hh
  | some ti =>
    rw [hT] at hh; simp only at hh
    obtain ⟨z, hz, hm⟩ := zeroValue_rel hC hT w
    have hz0 : VRelL μ ti.zero z.cells.toList := mapM_mkCell hm μ
    obtain ⟨d, hd, hk, _⟩ := run_und hC hT
    cases hkk : ti.k <;> rw [hkk] at hh hk <;> (try simp only at hh) <;> try (cases hh; done)
    case struct fs =>
      obtain ⟨fa, e, hma⟩ := mkTK_struct hk; subst e
      cases hf : afill (fun i => (fs[i]?).map fun f => (f.off, f.size)) ti.zero ps with
      | none => rw [hf] at hh; cases hh
      | some r =>
        rw [hf] at hh; simp only [Option.map_some, Option.some.injEq] at hh; subst hh
        obtain ⟨R, h1, h2⟩ := afill_rel hf hz0 hp
        refine ⟨.agg R, ?_, by simp only [VRel]; exact ⟨R, rfl, h2⟩⟩
        have key : ∀ (fl : List Field) (gs : List FI), fl.mapM (mkFI C.P) = some gs → ∀ w, (fl.mapM (m := Sem) fun f => do pure (f.offset, ← sizeOf f.type)).run C.P w = .ok (gs.map fun g => (g.off, g.size)) w := by
          intro fl
          induction fl with
          | nil => intro gs hg w; simp at hg; subst hg; simp
          | cons f fl ih =>
            intro gs hg w
            rw [List.mapM_cons] at hg
            cases e1 : mkFI C.P f with
            | none => rw [e1] at hg; cases hg
            | some g =>
              rw [e1] at hg
              cases e2 : fl.mapM (mkFI C.P) with
              | none => rw [e2] at hg; cases hg
              | some gs' =>
                rw [e2] at hg; injection hg with hg; subst hg
                have := ih gs' e2 w
                unfold mkFI at e1
                cases hi : C.P.info? f.type with
                | none => rw [hi] at e1; cases e1
                | some inf =>
                  rw [hi] at e1; simp only [Option.map_some, Option.some.injEq] at e1; subst e1
                  rw [List.mapM_cons]
                  have hso : (sizeOf f.type).run C.P w = .ok inf.size w := by simp [sizeOf, typeInfo, hi]
                  simp only [Sem.run_bind, hso, Result.andThen_ok, Sem.run_pure, this, List.map_cons]
        have hmm : (fa.mapM (m := Sem) fun f => do pure (f.offset, ← sizeOf f.type)).run C.P w = .ok (fs.map fun g => (g.off, g.size)).toArray w := by
          rw [Array.mapM_eq_mapM_toList, Sem.run_map, key _ _ hma w]
          simp
        have hplace : ((fs.map fun g => (g.off, g.size)).toArray[·]? : Nat → Option (Nat × Nat)) = fun i => (fs[i]?).map fun f => (f.off, f.size) := by
          funext i; simp
        simp only [Instr.build, Sem.run_bind, hz, hd w, hmm, Result.andThen_ok, hplace, h1]
        rfl
    case arr n e =>
      have e0 := mkTK_arr hk; subst e0
      cases hTe : C.T e with
      | none => rw [hTe] at hh; cases hh
      | some te =>
        rw [hTe] at hh; simp only [Option.bind_some] at hh
        cases hf : afill (fun i => some (i * te.size, te.size)) ti.zero ps with
        | none => rw [hf] at hh; cases hh
        | some r =>
          rw [hf] at hh; simp only [Option.map_some, Option.some.injEq] at hh; subst hh
          obtain ⟨R, h1, h2⟩ := afill_rel hf hz0 hp
          refine ⟨.agg R, ?_, by simp only [VRel]; exact ⟨R, rfl, h2⟩⟩
          simp only [Instr.build, Sem.run_bind, hz, hd w, run_sizeOf hC hTe w, Result.andThen_ok, h1]
          rfl

theorem repl_length (n : Nat) (z : List AV) : (repl n z).length = n * z.length := by
  induction n with
  | zero => simp [repl]
  | succ n ih => simp [repl, ih, Nat.add_mul]; omega
theorem repl_rel {z : List AV} {zs : Array Value} (hz : VRelL μ z zs.toList) (n : Nat) : VRelL μ (repl n z) (((Array.range (n * zs.size)).map (zs[· % zs.size]!)).toList) := by
  have hl := hz.length
  simp only [Array.length_toList] at hl
  have hr : ∀ (n i : Nat), (repl n z)[i]? = if i < n * z.length then z[i % z.length]? else none := by
    intro n
    induction n with
    | zero => intro i; simp [repl]
    | succ n ih =>
      intro i
      simp only [repl]
      by_cases hi : i < z.length
      · rw [List.getElem?_append_left hi, Nat.mod_eq_of_lt hi, if_pos (by rw [Nat.add_mul]; omega)]
      · rw [List.getElem?_append_right (by omega), ih]
        by_cases hj : i < (n + 1) * z.length
        · rw [if_pos hj, if_pos (by rw [Nat.add_mul] at hj; omega)]
          rw [← Nat.mod_eq_sub_mod (show z.length ≤ i by omega)]
        · rw [if_neg hj, if_neg (by rw [Nat.add_mul] at hj; omega)]
  refine VRelL.iff.2 ⟨by simp [repl_length hC, hl], fun i x hx => ?_⟩
  rw [hr] at hx
  split at hx
  · rename_i hi
    obtain ⟨v, hv, hrel⟩ := hz.get hx
    refine ⟨v, ?_, hrel⟩
    rw [hl] at hi hv
    have hlt : i % zs.size < zs.size := by
      have := (List.getElem?_eq_some_iff.1 hv).1
      simpa using this
    have hv' : zs[i % zs.size] = v := by
      have := (List.getElem?_eq_some_iff.1 hv).2
      simpa using this
    simp [hi, hlt, hv']
  · cases hx

include hr
variable {lo : Nat → Prop} {nid : Nat} (hid : μ.obj nid = none) (hlt : nid < h.next) (hlo : ¬ lo nid)
include hid hlt hlo

theorem ptr_new {p : Place} (hp : p.off = 0) : VRel (μ.put nid p) (.ptr nid 0) (.pointer (some ⟨p.block, 0, none⟩)) := by
  simp only [VRel]
  exact ⟨p, by simp, by rw [hp]⟩

theorem alloc_rel {t : TypeId} {i : TI} (hT : C.T t = some i) : OpOk C.P lo μ h w (Instr.alloc t true (.tuple #[])) (.ptr nid 0) (h.set nid (.cells i.zero)) := by
  obtain ⟨z, hz, hm⟩ := zeroValue_rel hC hT w
  obtain ⟨a, w', p, h1, rfl, h2, _, h3⟩ := newRow_rel' (P := C.P) hr hid hlt hlo t (mapM_mkCell hm μ)
  exact ⟨_, w', _, by simp [Instr.alloc, hz, newVar, h1], ptr_new hC hr hid hlt hlo h2, h3⟩
theorem box_rel (t : TypeId) {x : AV} {X : Value} (hx : VRel μ x X) : OpOk C.P lo μ h w (Instr.box t X) (.ptr nid 0) (h.set nid (.cells x.cells)) := by
  obtain ⟨a, w', p, h1, rfl, h2, _, h3⟩ := newRow_rel' (P := C.P) hr hid hlt hlo t hx.cells
  exact ⟨_, w', _, by simp [Instr.box, newVar, h1], ptr_new hC hr hid hlt hlo h2, h3⟩

theorem abuildSlice_rel {t : TypeId} {n : Nat} {ps : List (Nat × AV)} {q : AV} {h' : AH} (hh : abuildSlice C h nid t n ps = some (q, h')) {qs : Array (Nat × Value)}
    (hp : ps.length = qs.toList.length ∧ ∀ (j : Nat) i v, ps[j]? = some (i, v) → ∃ V, qs.toList[j]? = some (i, V) ∧ VRel μ v V) :
    OpOk C.P lo μ h w (Instr.buildSlice t n qs) q h' := by
  unfold abuildSlice at hh
  cases hT : C.T t with
  | none => rw [hT] at hh; cases hh
  | some ti =>
    rw [hT] at hh; simp only at hh
    obtain ⟨d, hd, hk, _⟩ := run_und hC hT
    cases hkk : ti.k <;> rw [hkk] at hh hk <;> (try simp only at hh) <;> try (cases hh; done)
    rename_i e
    have e0 := mkTK_slice hk; subst e0
    cases hTe : C.T e with
    | none => rw [hTe] at hh; cases hh
    | some te =>
      rw [hTe] at hh; simp only at hh
      split at hh
      · rename_i hb
        cases hf : afill (fun i => some (i * te.size, te.size)) (repl n te.zero) ps with
        | none => rw [hf] at hh; cases hh
        | some r =>
          rw [hf] at hh; simp only [Option.map_some, Option.some.injEq, Prod.mk.injEq] at hh
          obtain ⟨rfl, rfl⟩ := hh
          obtain ⟨z, hz, hm⟩ := zeroValue_rel hC hTe w
          have hz0 : VRelL μ te.zero z.cells.toList := mapM_mkCell hm μ
          have hzs : z.cells.size = te.size := by have := hz0.length; simp at this; omega
          have hrep := repl_rel hC hz0 n
          rw [hzs] at hrep
          obtain ⟨R, h1, h2⟩ := afill_rel hf hrep hp
          obtain ⟨a, w', p, h3, rfl, h4, h5, h6⟩ := newRow_rel' (P := C.P) hr hid hlt hlo e h2
          refine ⟨.slice (some ⟨p.block, 0, none⟩) n n, w', _, ?_, ?_, h6⟩
          · simp only [Instr.buildSlice, Sem.run_bind, hd w, Result.andThen_ok, run_sizeOf hC hTe w]
            rw [if_neg (by omega)]
            split
            · rename_i h0
              have e0 : (Array.range (n * te.size)).map (fun x => (#[] : Array Value)[x % (#[] : Array Value).size]!) = (Array.range (n * te.size)).map (z.cells[· % te.size]!) := by simp [h0]
              simp only [pure_bind, e0, h1, Sem.run_bind, h3, Result.andThen_ok, Sem.run_pure]
            · simp only [Sem.run_bind, hz, Result.andThen_ok, pure_bind, hzs, h1, h3, Sem.run_pure]
          · simp only [VRel]
            exact ⟨p, n, by simp, by rw [h4], Nat.le_refl _, Nat.le_refl _, fun _ => rfl, fun sz hs => by cases hs⟩
      · cases hh

theorem amakeSlice_rel {t : TypeId} {l c : AV} {q : AV} {h' : AH} (hh : amakeSlice C h nid t l c = some (q, h')) {L K : Value} (hl : VRel μ l L) (hc : VRel μ c K) :
    OpOk C.P lo μ h w (Instr.makeSlice t L K) q h' := by
  unfold amakeSlice at hh
  split at hh
  · rename_i ti ln cn hT
    simp only [VRel] at hl hc; subst hl; subst hc
    obtain ⟨d, hd, hk, _⟩ := run_und hC hT
    cases hkk : ti.k <;> rw [hkk] at hh hk <;> (try simp only at hh) <;> try (cases hh; done)
    rename_i e
    have e0 := mkTK_slice hk; subst e0
    cases hTe : C.T e with
    | none => rw [hTe] at hh; cases hh
    | some te =>
      rw [hTe] at hh; simp only at hh
      split at hh
      · rename_i hb
        obtain ⟨b1, b2, b3, b4, b5⟩ := hb
        simp only [Option.some.injEq, Prod.mk.injEq] at hh
        obtain ⟨rfl, rfl⟩ := hh
        obtain ⟨inf, hti, hinf, hsz, hby, _⟩ := run_typeInfo hC hTe w
        obtain ⟨z, hz, hm⟩ := zeroValue_rel hC hTe w
        have hz0 : VRelL μ te.zero z.cells.toList := mapM_mkCell hm μ
        have hzs : z.cells.size = te.size := by have := hz0.length; simp at this; omega
        have hrep := repl_rel hC hz0 cn.toNat
        rw [hzs] at hrep
        obtain ⟨a, w', p, h3, rfl, h4, h5, h6⟩ := newRow_rel' (P := C.P) hr hid hlt hlo e hrep
        have wl : IntKind.i64.wrap ln = ln := by
          exact IntWalk.i64_in _ (by omega)
        have wc : IntKind.i64.wrap cn = cn := by
          exact IntWalk.i64_in _ (by omega)
        refine ⟨.slice (some ⟨p.block, 0, none⟩) ln.toNat cn.toNat, w', _, ?_, ?_, h6⟩
        · have hcond : ¬ ((decide (cn < 0) || decide ((te.bytes : Int) * cn > 2 ^ 48)) || decide (ln < 0) || decide (ln > cn)) = true := by simp; omega
          simp only [Instr.makeSlice, Sem.run_bind, hd w, Result.andThen_ok, asInt, asIntOf, Sem.run_pure, hti, hby, wl, wc, pure_bind]
          rw [if_neg hcond]
          simp only [Sem.run_bind, run_askRoom, Result.andThen_ok, run_sizeOf hC hTe w]
          split
          · rename_i h0
            have e0 : (Array.range (cn.toNat * te.size)).map (fun x => (#[] : Array Value)[x % (#[] : Array Value).size]!) = (Array.range (cn.toNat * te.size)).map (z.cells[· % te.size]!) := by simp [h0]
            simp only [e0, Sem.run_bind, h3, Result.andThen_ok, Sem.run_pure]
          · simp only [Sem.run_bind, hz, Result.andThen_ok, hzs, h3, Sem.run_pure]
        · simp only [VRel]
          exact ⟨p, cn.toNat, by simp, by rw [h4], by omega, Nat.le_refl _, fun _ => rfl, fun sz hs => by cases hs⟩
      · cases hh
  · cases hh
end
end Go.Am
/- The abstract machine's operations stand for the machine's own: the built-in functions over slices. -/
namespace Go.Am
open Go

theorem flat_len {sz : Nat} : ∀ {es : List (List AV)}, es.all (·.length == sz) = true → es.flatten.length = es.length * sz
  | [], _ => by simp
  | e :: es, h => by
    simp only [List.all_cons, Bool.and_eq_true, beq_iff_eq] at h
    simp only [List.flatten_cons, List.length_append, h.1, flat_len h.2, List.length_cons, Nat.add_mul]
    omega

section
variable {C : Ctx} (hC : CtxOk C) {μ : Mu} {h : AH} {w : World} (hr : Rel μ h w)
include hr

/-- The rows of a slice, or a string's bytes: what 'lenOf' and 'firstCells' find. -/
theorem arows_rel {x : AV} {sz n : Nat} {xs : List AV} (hh : arows h x sz = some (n, xs)) {X : Value} (hx : VRel μ x X) (P : Program) :
    (Builtin.lenOf X).run P w = .ok n w ∧ xs.length = n * sz ∧ ∃ vs, VRelL μ xs vs ∧ ∀ m, m ≤ n → (Builtin.firstCells sz m X).run P w = .ok (vs.take (m * sz)).toArray w := by
  unfold arows at hh
  cases x <;> (try simp only at hh) <;> try (cases hh; done)
  case str s =>
    split at hh
    · rename_i h1; subst h1
      simp only [Option.some.injEq, Prod.mk.injEq] at hh
      obtain ⟨rfl, rfl⟩ := hh
      simp only [VRel] at hx; subst hx
      refine ⟨rfl, ?_, s.data.toList.map fun b => .int .u8 b.toNat, ?_, ?_⟩
      · simp
      · refine VRelL.iff.2 ⟨by simp, fun i y hy => ?_⟩
        simp only [List.getElem?_map, Option.map_eq_some_iff] at hy ⊢
        obtain ⟨b, hb, rfl⟩ := hy
        exact ⟨_, ⟨b, hb, rfl⟩, by simp only [VRel]⟩
      · intro m hm
        simp only [Builtin.firstCells, Sem.run_pure]
        congr 1
        apply Array.ext'
        simp [ByteArray.extract, ByteArray.copySlice]
    · cases hh
  case sl id off len cap sp =>
    cases hg : h.get id with
    | none => rw [hg] at hh; cases hh
    | some ob =>
      rw [hg] at hh
      cases ob <;> (try simp only at hh) <;> try (cases hh; done)
      rename_i c
      split at hh
      · rename_i hlen
        simp only [Option.some.injEq, Prod.mk.injEq] at hh
        obtain ⟨rfl, rfl⟩ := hh
        simp only [VRel] at hx
        obtain ⟨q, cc, hq, rfl, _⟩ := hx
        obtain ⟨q', hq', _, ho⟩ := hr.obj id _ hg
        rw [hq] at hq'; injection hq' with hq'; subst hq'
        simp only [ORel] at ho
        obtain ⟨A, el, vs, h1, h2, h3, h4, h5⟩ := ho
        refine ⟨rfl, by simp; omega, (vs.drop off).take (len * sz), (h4.drop off).take (len * sz), fun m hm => ?_⟩
        have hms : m * sz ≤ len * sz := Nat.mul_le_mul_right _ hm
        have hvl := h4.length
        have hl : (((vs.drop off).take (len * sz)).take (m * sz)).length = m * sz := by simp; omega
        have := run_loadCells_list (P := P) w ⟨q.block, q.off + off, none⟩ (((vs.drop off).take (len * sz)).take (m * sz)) (fun j x hx => by
          rw [addr_add, cell?_cells h1]
          rw [List.getElem?_take] at hx
          split at hx
          · rw [List.getElem?_take] at hx
            split at hx
            · rw [List.getElem?_drop] at hx
              have := h5 _ _ hx
              rwa [show q.off + off + j = q.off + (off + j) from by omega]
            · cases hx
          · cases hx)
        rw [hl] at this
        simpa [Builtin.firstCells] using this
      · cases hh
  case snil =>
    simp only [Option.some.injEq, Prod.mk.injEq] at hh
    obtain ⟨rfl, rfl⟩ := hh
    simp only [VRel] at hx; subst hx
    exact ⟨rfl, by simp, [], VRelL.nil μ, fun m hm => by simp [Builtin.firstCells]⟩
  case lst es full =>
    split at hh
    · rename_i hall
      simp only [Option.some.injEq, Prod.mk.injEq] at hh
      obtain ⟨rfl, rfl⟩ := hh
      simp only [VRel] at hx
      rcases hx with ⟨rfl, sa, rfl⟩ | ⟨b, o, c, sz', vss, rfl, g1, g2, g3, g4, g5⟩
      · exact ⟨rfl, by simp, [], VRelL.nil μ, fun m hm => by
          obtain rfl : m = 0 := by simpa using hm
          cases sa <;> simp [Builtin.firstCells, loadCells, loadCellsFrom]⟩
      have hfl := VRelL.mono μ.still_le _ (VRelL.flatten g3)
      refine ⟨rfl, flat_len hall, vss.flatten, hfl, fun m hm => ?_⟩
      have hms : m * sz ≤ es.length * sz := Nat.mul_le_mul_right _ hm
      have hl : (vss.flatten.take (m * sz)).length = m * sz := by
        have := hfl.length
        rw [flat_len hall] at this
        rw [List.length_take]; omega
      have := run_loadCells_list (P := P) w ⟨b, o, none⟩ (vss.flatten.take (m * sz)) (fun j x hx => by
        rw [addr_add]
        exact (g5.take (m * sz)).cell hr hx)
      rw [hl] at this
      simpa [Builtin.firstCells] using this
    · cases hh

include hC
theorem alen_rel {t : TypeId} {x q : AV} (hh : alen C h t x = some q) {X : Value} (hx : VRel μ x X) (ts : Array TypeId) (ht : ts[0]? = some t) (ty : TypeId) : ∃ V, (Builtin.len_ ts ty #[X]).run C.P w = .ok V w ∧ VRel μ q V := by
  unfold alen at hh
  cases hT : C.T t with
  | none => rw [hT] at hh; cases hh
  | some ti =>
    rw [hT] at hh; simp only at hh
    obtain ⟨d, hd, hk, _⟩ := run_und hC hT
    cases hkk : ti.k <;> rw [hkk] at hh hk <;> (try simp only at hh) <;> try (cases hh; done)
    case str =>
      have e := mkTK_str hk; subst e
      cases x <;> (try simp only at hh) <;> try (cases hh; done)
      injection hh with hh; subst hh
      simp only [VRel] at hx; subst hx
      exact ⟨_, by simp [Builtin.len_, ht, hd w]; rfl, by simp only [VRel, goInt]⟩
    case arr n e =>
      have e' := mkTK_arr hk; subst e'
      injection hh with hh; subst hh
      exact ⟨_, by simp [Builtin.len_, ht, hd w]; rfl, by simp only [VRel, goInt]⟩
    case ptr e =>
      have e' := mkTK_ptr hk; subst e'
      cases hTe : C.T e with
      | none => rw [hTe] at hh; cases hh
      | some te =>
        rw [hTe] at hh; simp only [Option.bind_some] at hh
        obtain ⟨d2, hd2, hk2, _⟩ := run_und hC hTe
        cases hk3 : te.k <;> rw [hk3] at hh hk2 <;> (try simp only at hh) <;> try (cases hh; done)
        have e2 := mkTK_arr hk2; subst e2
        injection hh with hh; subst hh
        exact ⟨_, by simp [Builtin.len_, ht, hd w, hd2 w]; rfl, by simp only [VRel, goInt]⟩
    case slice e =>
      have e' := mkTK_slice hk; subst e'
      cases x <;> (try simp only at hh) <;> try (cases hh; done)
      · injection hh with hh; subst hh
        simp only [VRel] at hx; obtain ⟨p, c, _, rfl, _⟩ := hx
        exact ⟨_, by simp [Builtin.len_, ht, hd w]; rfl, by simp only [VRel, goInt]⟩
      · injection hh with hh; subst hh
        simp only [VRel] at hx; subst hx
        exact ⟨_, by simp [Builtin.len_, ht, hd w]; rfl, by simp only [VRel, goInt]⟩
      · injection hh with hh; subst hh
        simp only [VRel] at hx; rcases hx with ⟨rfl, sa, rfl⟩ | ⟨b, o, c, sz, vss, rfl, _⟩
        · exact ⟨_, by simp [Builtin.len_, ht, hd w]; rfl, by simp [VRel, goInt]⟩
        exact ⟨_, by simp [Builtin.len_, ht, hd w]; rfl, by simp only [VRel, goInt]⟩
    case map k e =>
      have e' := mkTK_map hk; subst e'
      cases x <;> (try simp only at hh) <;> try (cases hh; done)
      · rename_i id
        cases hg : h.get id with
        | none => rw [hg] at hh; cases hh
        | some ob =>
          rw [hg] at hh
          cases ob <;> (try simp only at hh) <;> try (cases hh; done)
          rename_i es clock
          injection hh with hh; subst hh
          simp only [VRel] at hx; obtain ⟨p, hp, rfl⟩ := hx
          obtain ⟨q', hq', _, ho⟩ := hr.obj id _ hg
          rw [hp] at hq'; injection hq' with hq'; subst hq'
          simp only [ORel] at ho
          obtain ⟨es', h1, h2⟩ := ho
          have hlen : es.length = es'.size := by
            have : ∀ {es : List (AV × AV × Nat)} {l : List MapEntry}, MRel μ es l → es.length = l.length := by
              intro es
              induction es with
              | nil => intro l hl; simp only [MRel] at hl; subst hl; rfl
              | cons e es ih =>
                intro l hl
                obtain ⟨k, v, n⟩ := e
                simp only [MRel] at hl
                obtain ⟨k', v', l', rfl, _, _, h3⟩ := hl
                simp [ih h3]
            simpa using this h2
          refine ⟨.int .i64 es'.size, ?_, by simp only [VRel, hlen]⟩
          simp [Builtin.len_, ht, hd w, getObj, Sem.run, h1, goInt]
      · injection hh with hh; subst hh
        simp only [VRel] at hx; subst hx
        exact ⟨_, by simp [Builtin.len_, ht, hd w]; rfl, by simp only [VRel, goInt]⟩

theorem acap_rel {t : TypeId} {x q : AV} (hh : acap C t x = some q) {X : Value} (hx : VRel μ x X) (ts : Array TypeId) (ht : ts[0]? = some t) (ty : TypeId) : ∃ V, (Builtin.cap_ ts ty #[X]).run C.P w = .ok V w ∧ VRel μ q V := by
  unfold acap at hh
  cases hT : C.T t with
  | none => rw [hT] at hh; cases hh
  | some ti =>
    rw [hT] at hh; simp only at hh
    obtain ⟨d, hd, hk, _⟩ := run_und hC hT
    cases hkk : ti.k <;> rw [hkk] at hh hk <;> (try simp only at hh) <;> try (cases hh; done)
    case arr n e =>
      have e' := mkTK_arr hk; subst e'
      injection hh with hh; subst hh
      exact ⟨_, by simp [Builtin.cap_, ht, hd w]; rfl, by simp only [VRel, goInt]⟩
    case slice e =>
      have e' := mkTK_slice hk; subst e'
      cases x <;> (try simp only at hh) <;> try (cases hh; done)
      · rename_i id off len cap sp
        cases sp <;> simp only at hh <;> try (cases hh; done)
        injection hh with hh; subst hh
        simp only [VRel] at hx; obtain ⟨p, c, _, rfl, _, _, hc, _⟩ := hx
        have := hc trivial; subst this
        exact ⟨_, by simp [Builtin.cap_, ht, hd w]; rfl, by simp only [VRel, goInt]⟩
      · injection hh with hh; subst hh
        simp only [VRel] at hx; subst hx
        exact ⟨_, by simp [Builtin.cap_, ht, hd w]; rfl, by simp only [VRel, goInt]⟩
      · rename_i es full
        cases full <;> simp only at hh <;> try (cases hh; done)
        injection hh with hh; subst hh
        simp only [VRel] at hx; rcases hx with ⟨rfl, sa, rfl⟩ | ⟨b, o, c, sz, vss, rfl, _, hc, _⟩
        · exact ⟨_, by simp [Builtin.cap_, ht, hd w]; rfl, by simp [VRel, goInt]⟩
        have := hc trivial; subst this
        exact ⟨_, by simp [Builtin.cap_, ht, hd w]; rfl, by simp only [VRel, goInt]⟩

theorem acopy_rel (lo : Nat → Prop) {t : TypeId} {d x q : AV} {h' : AH} (hh : acopy C h t d x = some (q, h')) {D X : Value} (hd : VRel μ d D) (hx : VRel μ x X) (ts : Array TypeId) (ht : ts[0]? = some t) (ty : TypeId) :
    OpOk C.P lo μ h w (Builtin.copy_ ts ty #[D, X]) q h' := by
  unfold acopy at hh
  cases hT : C.T t with
  | none => rw [hT] at hh; cases hh
  | some ti =>
    rw [hT] at hh; simp only at hh
    obtain ⟨ds, hds, hk, _⟩ := run_und hC hT
    cases hkk : ti.k <;> rw [hkk] at hh hk <;> (try simp only at hh) <;> try (cases hh; done)
    rename_i e
    have e' := mkTK_slice hk; subst e'
    cases hTe : C.T e with
    | none => rw [hTe] at hh; cases hh
    | some te =>
      rw [hTe] at hh; simp only at hh
      cases ha : arows h x te.size with
      | none => rw [ha] at hh; cases hh
      | some nx =>
        obtain ⟨n, xs⟩ := nx
        rw [ha] at hh; simp only at hh
        obtain ⟨a1, a2, vs, a3, a4⟩ := arows_rel hr ha hx C.P
        have hso := run_sizeOf hC hTe w
        have zero_case : ∀ (base : Option Addr) (dl dc : Nat), Nat.min n dl = 0 → OpOk C.P lo μ h w (Builtin.copy_ ts ty #[.slice base dl dc, X]) (.i 0) h := by
          intro base dl dc h0
          refine ⟨.int .i64 0, w, μ, ?_, by simp only [VRel], Post.refl lo hr⟩
          have hf := a4 0 (Nat.zero_le _)
          simp only [Nat.zero_mul, List.take_zero] at hf
          simp only [Builtin.copy_, ht, Sem.run_bind, hds w, Result.andThen_ok, a1, hso]
          simp only [List.size_toArray, List.length_cons, List.length_nil, Nat.reduceAdd, Nat.zero_lt_succ, getElem?_pos, List.getElem_toArray, List.getElem_cons_zero, List.getElem_cons_succ, Nat.reduceLT]
          simp only [Sem.run_bind, hds w, Result.andThen_ok, a1, h0, hso, hf]
          cases base <;> simp [storeCells, goInt]
        cases d <;> (try simp only at hh) <;> try (cases hh; done)
        case snil =>
          simp only [Option.some.injEq, Prod.mk.injEq] at hh
          obtain ⟨rfl, rfl⟩ := hh
          simp only [VRel] at hd; subst hd
          exact zero_case none 0 0 (by simp)
        case lst es full =>
          split at hh
          · rename_i h0
            simp only [Option.some.injEq, Prod.mk.injEq] at hh
            obtain ⟨rfl, rfl⟩ := hh
            simp only [VRel] at hd
            rcases hd with ⟨rfl, sa, rfl⟩ | ⟨b, o, c, sz, vss, rfl, _⟩
            · exact zero_case sa 0 0 (by simp)
            exact zero_case _ _ _ (by rcases h0 with h0 | h0 <;> simp [h0])
          · cases hh
        case sl id off len cap sp =>
          simp only [VRel] at hd
          obtain ⟨p, c, hp, rfl, _⟩ := hd
          split at hh
          · rename_i h0
            simp only [Option.some.injEq, Prod.mk.injEq] at hh
            obtain ⟨rfl, rfl⟩ := hh
            exact zero_case _ _ _ h0
          · rename_i h0
            cases hw : awrites h id off (xs.take (min n len * te.size)) with
            | none => rw [hw] at hh; cases hh
            | some h1 =>
              rw [hw] at hh; simp only [Option.map_some, Option.some.injEq, Prod.mk.injEq] at hh
              obtain ⟨rfl, rfl⟩ := hh
              obtain ⟨w', g1, g2⟩ := awrites_rel (P := C.P) hr lo hw hp (a3.take (min n len * te.size))
              have hf := a4 (min n len) (by omega)
              refine ⟨.int .i64 (min n len : Nat), w', μ, ?_, by simp only [VRel], g2⟩
              have hm : Nat.min n len = min n len := rfl
              simp only [Builtin.copy_, ht]
              simp only [List.size_toArray, List.length_cons, List.length_nil, Nat.reduceAdd, Nat.zero_lt_succ, getElem?_pos, List.getElem_toArray, List.getElem_cons_zero, List.getElem_cons_succ, Nat.reduceLT]
              simp only [Sem.run_bind, hds w, Result.andThen_ok, a1, hso, hm, hf, g1, Sem.run_pure, goInt]

omit hC hr in
theorem growBy_le (need : Nat) (hn : 256 ≤ need) : ∀ (k c : Nat), c ≤ 2 * need → Builtin.growBy need k c ≤ 2 * need
  | 0, c, hc => by simpa [Builtin.growBy] using hc
  | k + 1, c, hc => by
    simp only [Builtin.growBy]
    split
    · exact hc
    · exact growBy_le need hn k _ (by omega)
omit hC hr in
theorem nextslicecap_le {need cap : Nat} (hc : cap < need) : Builtin.nextslicecap need cap ≤ 2 * need := by
  unfold Builtin.nextslicecap
  split
  · omega
  · split
    · omega
    · exact growBy_le need (by omega) 4 cap (by omega)

/-- 'append' where the elements fit. -/
theorem append_fits {t e : TypeId} {te : TI} (hd : (underlying t).run C.P w = .ok (.slice e) w) (hTe : C.T e = some te) {ts : Array TypeId} (ht : ts[0]? = some t) {t2 : TypeId} (ht2 : ts[1]? = some t2) {d2 : TypeDesc} (hd2 : (underlying t2).run C.P w = .ok d2 w) (hni : ∀ k, d2 ≠ .int k) (ty : TypeId)
    {base : Option Addr} {len cap n : Nat} {X : Value} (hl : (Builtin.lenOf X).run C.P w = .ok n w) (hfit : len + n ≤ cap) {vs : List Value} (hf : (Builtin.firstCells te.size n X).run C.P w = .ok vs.toArray w) {w' : World}
    (hst : (match base with | some a => storeCells (a.add (len * te.size)) vs | none => pure () : Sem Unit).run C.P w = .ok () w') :
    (Builtin.append_ ts ty #[.slice base len cap, X]).run C.P w = .ok (.slice base (len + n) cap) w' := by
  have hz : (match d2 with | .int _ => true | _ => false) = false := by cases d2 <;> first | rfl | exact absurd rfl (hni _)
  simp only [Builtin.append_, ht, ht2]
  simp only [List.size_toArray, List.length_cons, List.length_nil, Nat.reduceAdd, Nat.zero_lt_succ, getElem?_pos, List.getElem_toArray, List.getElem_cons_zero, List.getElem_cons_succ, Nat.reduceLT]
  simp only [Sem.run_bind, hd, Result.andThen_ok, run_sizeOf hC hTe w, hd2, Sem.run_pure, hz, Bool.false_eq_true, if_false, hl, if_pos hfit, Bool.not_false, if_true, hf]
  cases base with
  | none => simp only [Sem.run_pure] at hst; injection hst with _ hst; subst hst; rfl
  | some a => simp only [Sem.run_bind, hst, Result.andThen_ok, Sem.run_pure]

/-- 'append' into new memory. -/
theorem append_new {t e : TypeId} {te : TI} (hd : (underlying t).run C.P w = .ok (.slice e) w) (hTe : C.T e = some te) {ts : Array TypeId} (ht : ts[0]? = some t) {t2 : TypeId} (ht2 : ts[1]? = some t2) {d2 : TypeDesc} (hd2 : (underlying t2).run C.P w = .ok d2 w) (hni : ∀ k, d2 ≠ .int k) (ty : TypeId)
    {base : Option Addr} {len cap n : Nat} {X : Value} (hl : (Builtin.lenOf X).run C.P w = .ok n w) (hfit : cap < len + n) {old vs : List Value} (hold : (Builtin.firstCells te.size len (.slice base len cap)).run C.P w.drew = .ok old.toArray w.drew) (hf : (Builtin.firstCells te.size n X).run C.P w.drew = .ok vs.toArray w.drew)
    (hb : te.bytes ≠ 0) (hroom : (len + n) * te.bytes ≤ room) :
    ∃ newCap zs, len + n ≤ newCap ∧ (∃ z : Value, zs = Builtin.zeroCells z.cells (newCap - (len + n)) ∧ z.cells.toList.mapM mkCell = some te.zero) ∧
      (Builtin.append_ ts ty #[.slice base len cap, X]).run C.P w = .ok (.slice (some ⟨w.heap.size, 0, none⟩) (len + n) newCap) (w.drew.alloc (.cells ((old ++ vs).toArray ++ zs) e)) := by
  obtain ⟨inf, hti, hinf, hsz, hby, _⟩ := run_typeInfo hC hTe w
  obtain ⟨inf2, hti2, hinf2, _⟩ := run_typeInfo hC hTe w.drew
  rw [hinf] at hinf2; injection hinf2 with hinf2; subst hinf2
  obtain ⟨z, hz, hm⟩ := zeroValue_rel hC hTe w.drew
  have hz0 : (match d2 with | .int _ => true | _ => false) = false := by cases d2 <;> first | rfl | exact absurd rfl (hni _)
  have hnc := nextslicecap_le hfit
  have h1 : ¬ Builtin.nextslicecap (len + n) cap * te.bytes > 2 ^ 48 := by
    have : Builtin.nextslicecap (len + n) cap * te.bytes ≤ 2 * ((len + n) * te.bytes) := by
      rw [← Nat.mul_assoc]; exact Nat.mul_le_mul_right _ hnc
    unfold room at hroom; omega
  refine ⟨(Question.appendCap (len + n) cap e).cut (w.tape w.drawn (.appendCap (len + n) cap e)), _, ?_, ⟨z, rfl, hm⟩, ?_⟩
  · simp only [Question.cut]; omega
  · simp only [Builtin.append_, ht, ht2]
    simp only [List.size_toArray, List.length_cons, List.length_nil, Nat.reduceAdd, Nat.zero_lt_succ, getElem?_pos, List.getElem_toArray, List.getElem_cons_zero, List.getElem_cons_succ, Nat.reduceLT]
    have hcho : (choose (.appendCap (len + n) cap e)).run C.P w = .ok ((Question.appendCap (len + n) cap e).cut (w.tape w.drawn (.appendCap (len + n) cap e))) w.drew := by
      rw [run_choose, if_neg (by simp [Question.forced])]; rfl
    simp only [Sem.run_bind, hd, Result.andThen_ok, run_sizeOf hC hTe w, hd2, Sem.run_pure, hz0, Bool.false_eq_true, if_false, hl, if_neg (Nat.not_le_of_lt hfit), hti, hby, false_or, hb, and_false, if_neg h1, hcho, hti2,
      run_askRoom, hold, Bool.not_false, if_true, hf, hz]
    simp [newRow]
    rfl

omit hr in
/-- The new row of an append. -/
theorem append_post {lo : Nat → Prop} {nid : Nat} (hr : Rel μ h w) (hid : μ.obj nid = none) (hlt : nid < h.next) (hlo : ¬ lo nid) {te : TI} (e : TypeId) {cs : List AV} {old vs : List Value} (hv : VRelL μ cs (old ++ vs)) {need newCap : Nat} (hn : need ≤ newCap)
    (hl : cs.length = need * te.size) (hz : te.zero.length = te.size) {z : Value} (hm : z.cells.toList.mapM mkCell = some te.zero) :
    ∃ μ', VRel μ' (.sl nid 0 need need (some te.size)) (.slice (some ⟨w.heap.size, 0, none⟩) need newCap) ∧
      Post lo μ h w μ' (h.set nid (.cells cs)) (w.drew.alloc (.cells ((old ++ vs).toArray ++ Builtin.zeroCells z.cells (newCap - need)) e)) := by
  obtain ⟨a, w', p, g1, rfl, g2, g3, g4⟩ := newRow_rel (P := C.P) (hr.drew) hid hlt hlo e (vs := (old ++ vs).toArray) (Builtin.zeroCells z.cells (newCap - need)) (by simpa using hv)
  have hzl : z.cells.size = te.size := by
    have := (mapM_mkCell hm μ).length
    simp at this; omega
  have hw' : w' = w.drew.alloc (.cells ((old ++ vs).toArray ++ Builtin.zeroCells z.cells (newCap - need)) e) ∧ p.block = w.heap.size := by
    simp only [newRow, Sem.run_bind, run_newObj, Result.andThen_ok, Sem.run_pure, Result.ok.injEq, Addr.mk.injEq] at g1
    exact ⟨g1.2.symm, g1.1.1.symm⟩
  obtain ⟨rfl, hpb⟩ := hw'
  refine ⟨_, ?_, (Post.drew lo hr).trans g4⟩
  simp only [VRel]
  refine ⟨p, newCap, by simp, by rw [g2, hpb], Nat.le_refl _, hn, fun hh => by simp at hh, fun sz hs => ?_⟩
  simp only [Option.some.injEq] at hs; subst hs
  have hvl := hv.length
  rw [g2, g3]
  simp only [Array.size_append, List.size_toArray, Builtin.zeroCells, Array.size_map, Array.size_range, hzl, Nat.zero_add, List.length_append]
  simp only [List.length_append] at hvl
  have : newCap * te.size = need * te.size + (newCap - need) * te.size := by rw [← Nat.add_mul]; congr 1; omega
  omega

theorem aappend_rel {lo : Nat → Prop} {nid : Nat} (hid : μ.obj nid = none) (hlt : nid < h.next) (hlo : ¬ lo nid) {t : TypeId} {s x q : AV} {h' : AH} (hh : aappend C h nid t s x = some (q, h')) {S X : Value} (hs : VRel μ s S) (hx : VRel μ x X)
    (ts : Array TypeId) (ht : ts[0]? = some t) {t2 : TypeId} (ht2 : ts[1]? = some t2) {d2 : TypeDesc} (hd2 : ∀ w, (underlying t2).run C.P w = .ok d2 w) (hni : ∀ k, d2 ≠ .int k) (ty : TypeId) :
    OpOk C.P lo μ h w (Builtin.append_ ts ty #[S, X]) q h' := by
  unfold aappend at hh
  cases hT : C.T t with
  | none => rw [hT] at hh; cases hh
  | some ti =>
    rw [hT] at hh; simp only at hh
    obtain ⟨ds, hds, hk, _⟩ := run_und hC hT
    cases hkk : ti.k <;> rw [hkk] at hh hk <;> (try simp only at hh) <;> try (cases hh; done)
    rename_i e
    have e' := mkTK_slice hk; subst e'
    cases hTe : C.T e with
    | none => rw [hTe] at hh; cases hh
    | some te =>
      rw [hTe] at hh; simp only at hh
      cases ha : arows h x te.size with
      | none => rw [ha] at hh; cases hh
      | some nx =>
        obtain ⟨n, xs⟩ := nx
        rw [ha] at hh; simp only at hh
        split at hh
        · cases hh
        · rename_i hsz0
          obtain ⟨a1, a2, vs, a3, a4⟩ := arows_rel hr ha hx C.P
          obtain ⟨b1, b2, vs', b3, b4⟩ := arows_rel hr.drew ha hx C.P
          have hvl := a3.length
          have hvl' := b3.length
          have hf := a4 n (Nat.le_refl _)
          rw [List.take_of_length_le (by omega)] at hf
          have hf' := b4 n (Nat.le_refl _)
          rw [List.take_of_length_le (by omega)] at hf'
          cases s <;> (try simp only at hh) <;> try (cases hh; done)
          case snil =>
            simp only [VRel] at hs; subst hs
            split at hh
            · rename_i h0
              simp only [Option.some.injEq, Prod.mk.injEq] at hh
              obtain ⟨rfl, rfl⟩ := hh
              subst h0
              have hvs : vs = [] := List.eq_nil_of_length_eq_zero (by omega)
              subst hvs
              exact ⟨_, w, μ, append_fits hC hr (hds w) hTe ht ht2 (hd2 w) hni ty a1 (Nat.le_refl _) hf (by simp), by simp only [VRel], Post.refl lo hr⟩
            · rename_i h0
              split at hh
              · rename_i hb
                simp only [Option.some.injEq, Prod.mk.injEq] at hh
                obtain ⟨rfl, rfl⟩ := hh
                obtain ⟨newCap, zs, c1, ⟨z, rfl, c2⟩, c3⟩ := append_new hC hr (hds w) hTe ht ht2 (hd2 w) hni ty (base := none) (len := 0) (cap := 0) a1 (by omega) (old := []) (by simp [Builtin.firstCells]) hf' hb.1 (by simpa using hb.2.1)
                simp only [Nat.zero_add] at c1 c3
                obtain ⟨μ', d1, d2⟩ := append_post (C := C) hC hr hid hlt hlo e (cs := xs) (old := []) (vs := vs') (by simpa using b3) c1 a2 hb.2.2 c2
                exact ⟨_, _, μ', c3, d1, d2⟩
              · cases hh
          case lst es full =>
            have hs0 := hs
            simp only [VRel] at hs
            rcases hs with ⟨rfl, sa, rfl⟩ | ⟨b, o, c, sz, vss, rfl, g1, g2, g3, g4, g5⟩
            · split at hh
              · rename_i h0
                simp only [Option.some.injEq, Prod.mk.injEq] at hh
                obtain ⟨rfl, rfl⟩ := hh
                subst h0
                have hvs : vs = [] := List.eq_nil_of_length_eq_zero (by omega)
                subst hvs
                exact ⟨_, w, μ, append_fits hC hr (hds w) hTe ht ht2 (hd2 w) hni ty a1 (Nat.le_refl _) hf (by cases sa <;> simp [storeCells]), hs0, Post.refl lo hr⟩
              · rename_i h0
                split at hh
                · rename_i hb
                  obtain ⟨e1, e2, e3, e4, e5⟩ := hb
                  simp only [Option.some.injEq, Prod.mk.injEq] at hh
                  obtain ⟨rfl, rfl⟩ := hh
                  obtain ⟨newCap, zs, c1, ⟨z, rfl, c2⟩, c3⟩ := append_new hC hr (hds w) hTe ht ht2 (hd2 w) hni ty (base := sa) (len := 0) (cap := 0) a1 (by omega) (old := []) (by cases sa <;> simp [Builtin.firstCells, loadCells, loadCellsFrom]) hf' e3 (by simpa using e4)
                  simp only [Nat.zero_add] at c1 c3
                  obtain ⟨μ', d1, d2⟩ := append_post (C := C) hC hr hid hlt hlo e (cs := xs) (old := []) (vs := vs') (by simpa using b3) c1 a2 e5 c2
                  exact ⟨_, _, μ', c3, by simpa using d1, by simpa using d2⟩
                · cases hh
            split at hh
            · rename_i h0
              simp only [Option.some.injEq, Prod.mk.injEq] at hh
              obtain ⟨rfl, rfl⟩ := hh
              subst h0
              have hvs : vs = [] := List.eq_nil_of_length_eq_zero (by omega)
              subst hvs
              refine ⟨_, w, μ, append_fits hC hr (hds w) hTe ht ht2 (hd2 w) hni ty a1 (by omega) hf (by simp [storeCells]), ?_, Post.refl lo hr⟩
              simpa using hs0
            · rename_i h0
              split at hh
              · rename_i hb
                obtain ⟨e1, e2, e3, e4, e5⟩ := hb
                simp only [Option.some.injEq, Prod.mk.injEq] at hh
                obtain ⟨rfl, rfl⟩ := hh
                have hc := g2 e1; subst hc
                obtain ⟨_, _, olds, f3, f4⟩ := arows_rel hr.drew (x := .lst es full) (sz := te.size) (n := es.length) (xs := es.flatten) (by simp only [arows]; rw [if_pos e2]) hs0 C.P
                have hol := f3.length
                have hfo := f4 es.length (Nat.le_refl _)
                rw [flat_len e2] at hol
                rw [List.take_of_length_le (by omega)] at hfo
                obtain ⟨newCap, zs, c1, ⟨z, rfl, c2⟩, c3⟩ := append_new hC hr (hds w) hTe ht ht2 (hd2 w) hni ty (base := some ⟨b, o, none⟩) (len := es.length) (cap := es.length) a1 (by omega) hfo hf' e3 e4
                obtain ⟨μ', d1, d2⟩ := append_post (C := C) hC hr hid hlt hlo e (cs := es.flatten ++ xs) (old := olds) (vs := vs') (f3.append b3) c1 (by simp only [List.length_append, flat_len e2, a2, Nat.add_mul]) e5 c2
                exact ⟨_, _, μ', c3, d1, d2⟩
              · cases hh
          case sl id off len cap sp =>
            have hs0 := hs
            simp only [VRel] at hs
            obtain ⟨p, c, hp, rfl, g1, g2, g3, g4⟩ := hs
            split at hh
            · rename_i hfit
              split at hh
              · rename_i h0
                simp only [Option.some.injEq, Prod.mk.injEq] at hh
                obtain ⟨rfl, rfl⟩ := hh
                subst h0
                have hvs : vs = [] := List.eq_nil_of_length_eq_zero (by omega)
                subst hvs
                refine ⟨_, w, μ, append_fits hC hr (hds w) hTe ht ht2 (hd2 w) hni ty a1 (by omega) hf (by simp [storeCells]), ?_, Post.refl lo hr⟩
                simpa using hs0
              · rename_i h0
                cases hw : awrites h id (off + len * te.size) xs with
                | none => rw [hw] at hh; cases hh
                | some h1 =>
                  rw [hw] at hh; simp only [Option.map_some, Option.some.injEq, Prod.mk.injEq] at hh
                  obtain ⟨rfl, rfl⟩ := hh
                  obtain ⟨w', k1, k2⟩ := awrites_rel (P := C.P) hr lo hw hp a3
                  refine ⟨_, w', μ, append_fits hC hr (hds w) hTe ht ht2 (hd2 w) hni ty a1 (show len + n ≤ c by omega) hf (by simpa [addr_add, Nat.add_assoc] using k1), ?_, k2⟩
                  simp only [VRel]
                  exact ⟨p, c, hp, rfl, by omega, g2, g3, g4⟩
            · rename_i hfit
              cases hg : h.get id with
              | none => rw [hg] at hh; cases hh
              | some ob =>
                rw [hg] at hh
                cases ob <;> (try simp only at hh) <;> try (cases hh; done)
                rename_i cc
                split at hh
                · rename_i hb
                  obtain ⟨e1, e2, e3, e4⟩ := hb
                  have har : arows h (.sl id off len cap sp) te.size = some (len, (cc.drop off).take (len * te.size)) := by simp only [arows, hg]; rw [if_pos e1]
                  obtain ⟨_, r1, olds, r2, r3⟩ := arows_rel hr.drew har hs0 C.P
                  have hol := r2.length
                  have hfo := r3 len (Nat.le_refl _)
                  rw [List.take_of_length_le (by omega)] at hfo
                  have hcl : ((cc.drop off).take (len * te.size) ++ xs).length = (len + n) * te.size := by rw [List.length_append, r1, a2, Nat.add_mul]
                  have realloc : c < len + n → ∃ V w' μ', (Builtin.append_ ts ty #[.slice (some ⟨p.block, p.off + off, none⟩) len c, X]).run C.P w = .ok V w' ∧
                      VRel μ' (.sl nid 0 (len + n) (len + n) (some te.size)) V ∧ Post lo μ h w μ' (h.set nid (.cells ((cc.drop off).take (len * te.size) ++ xs))) w' := fun hlt' => by
                    obtain ⟨newCap, zs, c1, ⟨z, rfl, c2⟩, c3⟩ := append_new hC hr (hds w) hTe ht ht2 (hd2 w) hni ty (base := some ⟨p.block, p.off + off, none⟩) (len := len) (cap := c) a1 hlt' (old := olds)
                      (by simpa [Builtin.firstCells] using hfo) hf' e2 e3
                    obtain ⟨μ', d1, d2⟩ := append_post (C := C) hC hr hid hlt hlo e (cs := (cc.drop off).take (len * te.size) ++ xs) (old := olds) (vs := vs') (r2.append b3) c1 hcl e4 c2
                    exact ⟨_, _, μ', c3, d1, d2⟩
                  cases sp with
                  | none =>
                    simp only [Option.some.injEq, Prod.mk.injEq] at hh
                    obtain ⟨rfl, rfl⟩ := hh
                    have := g3 rfl; subst this
                    exact realloc (by omega)
                  | some sz =>
                    simp only at hh
                    split at hh
                    · rename_i hbb
                      obtain ⟨s1, s2, s3⟩ := hbb
                      subst s1
                      simp only [Option.some.injEq, Prod.mk.injEq] at hh
                      obtain ⟨rfl, rfl⟩ := hh
                      have hidn : id ≠ nid := fun e0 => by rw [e0, hid] at hp; cases hp
                      by_cases hfit' : len + n ≤ c
                      · -- in place: the row goes by a new number
                        obtain ⟨q', hq', _, ho⟩ := hr.obj id _ hg
                        rw [hp] at hq'; injection hq' with hq'; subst hq'
                        simp only [ORel] at ho
                        obtain ⟨A, el, us, h1, h2, h3, h4, h5⟩ := ho
                        have hul := h4.length
                        have hbound := g4 _ rfl
                        have hcn : (len + n) * te.size ≤ c * te.size := Nat.mul_le_mul_right _ hfit'
                        rw [Nat.add_mul] at hcn
                        have hst := run_storeCells_at C.P p.block (p.off + off + len * te.size) el vs 0 A w h1 (by omega) (allOne_rel a3 s3)
                        simp only [Nat.add_zero] at hst
                        have happ := append_fits hC hr (hds w) hTe ht ht2 (hd2 w) hni ty (base := some ⟨p.block, p.off + off, none⟩) (len := len) (cap := c) a1 hfit' hf (by simpa [addr_add] using hst)
                        refine ⟨_, _, μ.put nid ⟨p.block, p.off + off, p.total⟩, happ, ?_, ?_⟩
                        · simp only [VRel]
                          exact ⟨⟨p.block, p.off + off, p.total⟩, c, by simp, rfl, Nat.le_refl _, hfit', fun hh => by simp at hh, fun sz hsz => by
                            simp only [Option.some.injEq] at hsz; subst hsz
                            simpa using hbound⟩
                        · refine Post.rename hr hg hp _ hid hlt hlo _ rfl (fun b hb => setRow_heap_ne w _ _ hb) rfl rfl rfl (by simp [World.setRow]) ?_
                          simp only [ORel]
                          refine ⟨_, el, (us.drop off).take (len * te.size) ++ vs, setRow_heap w p.block A _ el (0, 0) h1, by simp; omega, ?_, VRelL.mono (Mu.le_put hid _) _ (((h4.drop off).take _).append a3), ?_⟩
                          · rw [hcl, Nat.add_mul]; omega
                          · intro j v hj
                            rw [List.getElem?_toArray]
                            have hlt2 : ((us.drop off).take (len * te.size)).length = len * te.size := by simp; omega
                            by_cases hj1 : j < len * te.size
                            · rw [List.getElem?_append_left (by omega), List.getElem?_take, if_pos hj1, List.getElem?_drop] at hj
                              rw [List.getElem?_append_left (by simp; omega), List.getElem?_take, if_pos (by omega)]
                              have := h5 _ _ hj
                              rw [show p.off + (off + j) = p.off + off + j from by omega] at this
                              simpa using this
                            · rw [List.getElem?_append_right (by omega), hlt2] at hj
                              have hjv : j - len * te.size < vs.length := (List.getElem?_eq_some_iff.1 hj).1
                              rw [List.getElem?_append_right (by simp; omega), List.getElem?_append_left (by simp; omega)]
                              simp only [List.length_take, Array.length_toList]
                              rw [show p.off + off + j - min (p.off + off + len * te.size) A.size = j - len * te.size from by omega]
                              exact hj
                      · obtain ⟨V, w', μ', k1, k2, k3⟩ := realloc (by omega)
                        refine ⟨V, w', μ', k1, k2, k3.sub (Nat.le_refl _) fun i x hx => ?_⟩
                        by_cases ei : i = nid
                        · subst ei; simpa using hx
                        · rw [AH.get_set_ne _ _ ei, AH.get_del] at hx
                          rw [AH.get_set_ne _ _ ei]
                          split at hx
                          · cases hx
                          · exact hx
                    · cases hh
                · cases hh

theorem aappendZ_rel {lo : Nat → Prop} {nid : Nat} (hid : μ.obj nid = none) (hlt : nid < h.next) (hlo : ¬ lo nid) {t : TypeId} {n : Int} {q : AV} {h' : AH} (hh : aappendZ C h nid t n = some (q, h')) {k : IntKind}
    (ts : Array TypeId) (ht : ts[0]? = some t) {t2 : TypeId} (ht2 : ts[1]? = some t2) {k2 : IntKind} (hd2 : ∀ w, (underlying t2).run C.P w = .ok (.int k2) w) (ty : TypeId) :
    OpOk C.P lo μ h w (Builtin.append_ ts ty #[.slice none 0 0, .int k n]) q h' := by
  unfold aappendZ at hh
  cases hT : C.T t with
  | none => rw [hT] at hh; cases hh
  | some ti =>
    rw [hT] at hh; simp only at hh
    obtain ⟨ds, hds, hk, _⟩ := run_und hC hT
    cases hkk : ti.k <;> rw [hkk] at hh hk <;> (try simp only at hh) <;> try (cases hh; done)
    rename_i e
    have e' := mkTK_slice hk; subst e'
    cases hTe : C.T e with
    | none => rw [hTe] at hh; cases hh
    | some te =>
      rw [hTe] at hh; simp only at hh
      split at hh
      · rename_i hb
        obtain ⟨b0, b1, b2, b3, b4, b5⟩ := hb
        obtain ⟨inf, hti, hinf, hsz, hby, _⟩ := run_typeInfo hC hTe w
        obtain ⟨inf2, hti2, hinf2, _⟩ := run_typeInfo hC hTe w.drew
        rw [hinf] at hinf2; injection hinf2 with hinf2; subst hinf2
        obtain ⟨z, hz, hm⟩ := zeroValue_rel hC hTe w.drew
        obtain ⟨z', hz', hm'⟩ := zeroValue_rel hC hTe w
        have wl : IntKind.i64.wrap n = n := IntWalk.i64_in _ (by omega)
        have c1 : ¬ n < 0 := by omega
        have c2 : ¬ n * (te.bytes : Int) > 2 ^ 48 := by
          have : ((n.toNat * te.bytes : Nat) : Int) ≤ (room : Nat) := by exact_mod_cast b3
          rw [Int.natCast_mul, Int.toNat_of_nonneg b2] at this
          unfold room at this
          omega
        split at hh
        · rename_i hn0
          simp only [Option.some.injEq, Prod.mk.injEq] at hh
          obtain ⟨rfl, rfl⟩ := hh
          refine ⟨.slice none 0 0, w, μ, ?_, by simp only [VRel], Post.refl lo hr⟩
          simp only [Builtin.append_, ht, ht2]
          simp only [List.size_toArray, List.length_cons, List.length_nil, Nat.reduceAdd, Nat.zero_lt_succ, getElem?_pos, List.getElem_toArray, List.getElem_cons_zero, List.getElem_cons_succ, Nat.reduceLT]
          simp only [Sem.run_bind, hds w, Result.andThen_ok, run_sizeOf hC hTe w, hd2 w, Sem.run_pure, if_true, asInt, asIntOf, wl, if_neg c1, hti, hby, if_neg c2, hn0, Nat.add_zero, Nat.zero_mul, Nat.le_refl, pure_bind, Bool.not_true, Bool.false_eq_true, if_false]
          try simp
        · rename_i hn0
          simp only [Option.some.injEq, Prod.mk.injEq] at hh
          obtain ⟨rfl, rfl⟩ := hh
          have hz0 := mapM_mkCell hm μ
          have hzl : z.cells.size = te.size := by have := hz0.length; simp at this; omega
          have hrep := repl_rel hC hz0 n.toNat
          have hnc := nextslicecap_le (need := n.toNat) (cap := 0) (by omega)
          have h1 : ¬ Builtin.nextslicecap n.toNat 0 * te.bytes > 2 ^ 48 := by
            have : Builtin.nextslicecap n.toNat 0 * te.bytes ≤ 2 * (n.toNat * te.bytes) := by
              rw [← Nat.mul_assoc]; exact Nat.mul_le_mul_right _ hnc
            unfold room at b3; omega
          have h2 : ¬ ((n.toNat : Int) > IntKind.i64.max) := by
            have : IntKind.i64.max = 2 ^ 63 - 1 := by decide
            omega
          have hle : n.toNat ≤ (Question.appendCap n.toNat 0 e).cut (w.tape w.drawn (.appendCap n.toNat 0 e)) := by simp only [Question.cut]; omega
          obtain ⟨μ', d1, d2⟩ := append_post (C := C) hC hr hid hlt hlo e (cs := repl n.toNat te.zero) (old := []) (vs := (Builtin.zeroCells z.cells n.toNat).toList) (by simpa [Builtin.zeroCells] using hrep) hle
            (by rw [repl_length hC, b5]) b5 hm
          refine ⟨_, _, μ', ?_, d1, d2⟩
          simp only [Builtin.append_, ht, ht2]
          simp only [List.size_toArray, List.length_cons, List.length_nil, Nat.reduceAdd, Nat.zero_lt_succ, getElem?_pos, List.getElem_toArray, List.getElem_cons_zero, List.getElem_cons_succ, Nat.reduceLT]
          have hcho : (choose (.appendCap n.toNat 0 e)).run C.P w = .ok ((Question.appendCap n.toNat 0 e).cut (w.tape w.drawn (.appendCap n.toNat 0 e))) w.drew := by
            rw [run_choose, if_neg (by simp [Question.forced])]; rfl
          have hns : ¬ n.toNat * te.size = 0 := fun hx => by rcases Nat.mul_eq_zero.1 hx with hx | hx <;> omega
          simp only [Sem.run_bind, hds w, Result.andThen_ok, run_sizeOf hC hTe w, hd2 w, Sem.run_pure, if_true, asInt, asIntOf, wl, if_neg c1, hti, hby, if_neg c2, Nat.zero_add, if_neg (show ¬ n.toNat ≤ 0 by omega), true_or, and_true, if_neg h2, if_neg h1, hcho, hti2, run_askRoom,
            Builtin.firstCells, Bool.not_true, Bool.false_eq_true, if_false, if_neg hns, hz, pure_bind]
          simp [newRow]
          try rfl
      · cases hh
end
end Go.Am
