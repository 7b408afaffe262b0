/- The abstract machine's operations stand for the machine's own: maps, parts, and the rest; then all operations together. -/
import Derived.Test.YtpkljgaokgfpnaaGreatDoorAmB
import Derived.Maps.AppendAt
set_option linter.unusedVariables false
set_option linter.unusedSimpArgs false
set_option linter.unusedSectionVars false
namespace Go.Am
open Go

theorem MRel.length {μ : Mu} : ∀ {es : List (AV × AV × Nat)} {l : List MapEntry}, MRel μ es l → es.length = l.length
  | [], l, h => by simp only [MRel] at h; subst h; rfl
  | (k, v, n) :: es, l, h => by
    simp only [MRel] at h
    obtain ⟨k', v', l', rfl, _, _, h3⟩ := h
    simp [MRel.length h3]
theorem MRel.get {μ : Mu} : ∀ {es : List (AV × AV × Nat)} {l : List MapEntry}, MRel μ es l → ∀ {i : Nat} {e : AV × AV × Nat}, es[i]? = some e → ∃ E, l[i]? = some E ∧ VRel μ e.1 E.key ∧ VRel μ e.2.1 E.val ∧ E.born = e.2.2
  | [], l, h, i, e, he => by simp at he
  | (k, v, n) :: es, l, h, i, e, he => by
    simp only [MRel] at h
    obtain ⟨k', v', l', rfl, h1, h2, h3⟩ := h
    cases i with
    | zero => simp at he; subst he; exact ⟨{ key := k', val := v', born := n }, by simp, h1, h2, rfl⟩
    | succ i => simpa using MRel.get h3 (i := i) (by simpa using he)
theorem MRel.append {μ : Mu} : ∀ {es : List (AV × AV × Nat)} {l : List MapEntry}, MRel μ es l → ∀ {e : AV × AV × Nat} {E : MapEntry}, VRel μ e.1 E.key → VRel μ e.2.1 E.val → E.born = e.2.2 → MRel μ (es ++ [e]) (l ++ [E])
  | [], l, h, (k, v, n), E, h1, h2, h3 => by
    simp only [MRel] at h; subst h
    simp only [List.nil_append, MRel]
    exact ⟨E.key, E.val, [], by simp at h3; subst h3; rfl, h1, h2, rfl⟩
  | (k, v, n) :: es, l, h, e, E, h1, h2, h3 => by
    simp only [MRel] at h
    obtain ⟨k', v', l', rfl, g1, g2, g3⟩ := h
    simp only [List.cons_append, MRel]
    exact ⟨k', v', _, rfl, g1, g2, g3.append h1 h2 h3⟩
theorem MRel.set {μ : Mu} : ∀ {es : List (AV × AV × Nat)} {l : List MapEntry}, MRel μ es l → ∀ (i : Nat) {e : AV × AV × Nat} {E : MapEntry}, VRel μ e.1 E.key → VRel μ e.2.1 E.val → E.born = e.2.2 → MRel μ (es.set i e) (l.set i E)
  | [], l, h, i, e, E, h1, h2, h3 => by simp only [MRel] at h; subst h; simp [MRel]
  | (k, v, n) :: es, l, h, i, e, E, h1, h2, h3 => by
    simp only [MRel] at h
    obtain ⟨k', v', l', rfl, g1, g2, g3⟩ := h
    cases i with
    | zero =>
      obtain ⟨a, b, c⟩ := e
      simp only [List.set_cons_zero, MRel]
      exact ⟨E.key, E.val, l', by simp at h3; subst h3; rfl, h1, h2, g3⟩
    | succ i =>
      simp only [List.set_cons_succ, MRel]
      exact ⟨k', v', _, rfl, g1, g2, g3.set i h1 h2 h3⟩
theorem MRel.erase {μ : Mu} : ∀ {es : List (AV × AV × Nat)} {l : List MapEntry}, MRel μ es l → ∀ (i : Nat), MRel μ (es.eraseIdx i) (l.eraseIdx i)
  | [], l, h, i => by simp only [MRel] at h; subst h; simp [MRel]
  | (k, v, n) :: es, l, h, i => by
    simp only [MRel] at h
    obtain ⟨k', v', l', rfl, g1, g2, g3⟩ := h
    cases i with
    | zero => simpa using g3
    | succ i =>
      simp only [List.eraseIdx_cons_succ, MRel]
      exact ⟨k', v', _, rfl, g1, g2, g3.erase i⟩

theorem bytes_beq {a b : ByteArray} (h : (a == b) = true) : a = b := by
  obtain ⟨⟨a⟩⟩ := a; obtain ⟨⟨b⟩⟩ := b
  have h2 : ((⟨a⟩ : Array UInt8) == ⟨b⟩) = true := h
  have := eq_of_beq h2
  rw [this]
theorem bytes_beq_refl (a : ByteArray) : (a == a) = true := by
  obtain ⟨⟨a⟩⟩ := a
  show ((⟨a⟩ : Array UInt8) == ⟨a⟩) = true
  simp
theorem sameCells_rel {μ : Mu} : ∀ {xs ys : List AV}, sameCells xs ys = true → ∀ {l m : List Value}, VRelL μ xs l → VRelL μ ys m → l = m ∧ ∀ v ∈ l, ∀ n, Instr.sameBits n v v = true
  | [], [], _, l, m, hl, hm => by simp only [VRelL] at hl hm; rw [hl, hm]; simp
  | [], _ :: _, h, _, _, _, _ => by simp [sameCells] at h
  | x :: xs, [], h, _, _, _, _ => by cases x <;> simp [sameCells] at h
  | x :: xs, y :: ys, h, l, m, hl, hm => by
    simp only [VRelL] at hl hm
    obtain ⟨v, l', rfl, hx, hxs⟩ := hl
    obtain ⟨u, m', rfl, hy, hys⟩ := hm
    have key : sameCells xs ys = true ∧ v = u ∧ ∀ n, Instr.sameBits n v v = true := by
      cases x <;> cases y <;> simp only [sameCells, Bool.false_eq_true, Bool.and_eq_true, beq_iff_eq] at h
      · simp only [VRel] at hx hy; subst hx; subst hy; exact ⟨h.2, by rw [h.1], fun n => by cases n <;> simp [Instr.sameBits]⟩
      · simp only [VRel] at hx hy; subst hx; subst hy; exact ⟨h.2, by rw [h.1.1, h.1.2], fun n => by cases n <;> simp [Instr.sameBits]⟩
      · simp only [VRel] at hx hy; subst hx; subst hy; exact ⟨h.2, by rw [bytes_beq h.1], fun n => by cases n <;> simp [Instr.sameBits, bytes_beq_refl]⟩
    obtain ⟨h1, rfl, h3⟩ := key
    obtain ⟨g1, g2⟩ := sameCells_rel h1 hxs hys
    exact ⟨by rw [g1], fun w hw n => by
      cases hw with
      | head => exact h3 n
      | tail _ hm => exact g2 w hm n⟩

theorem list_modify_eq_set {α : Type} {f : α → α} : ∀ {l : List α} {i : Nat} {x : α}, l[i]? = some x → l.modify i f = l.set i (f x)
  | [], i, x, h => by simp at h
  | y :: l, 0, x, h => by simp at h; subst h; simp
  | y :: l, i + 1, x, h => by simp only [List.modify_succ_cons, List.set_cons_succ]; rw [list_modify_eq_set (by simpa using h)]

/-- A key that is there stays, or the new one takes its place: they are one. -/
theorem keyThatStays_rel {P : Program} {μ : Mu} {k k' : AV} (h : sameKey k k' = true) {K K' : Value} (hk : VRel μ k K) (hk' : VRel μ k' K') (w : World) : (Instr.keyThatStays K' K).run P w = .ok K w := by
  have hb : Instr.sameBits 10000 K' K = true := by
    cases k <;> cases k' <;> simp only [sameKey, Bool.false_eq_true, Bool.and_eq_true, beq_iff_eq] at h
    · simp only [VRel] at hk hk'; subst hk; subst hk'; simp [Instr.sameBits, h]
    · simp only [VRel] at hk hk'; subst hk; subst hk'; simp [Instr.sameBits, h.1, h.2]
    · simp only [VRel] at hk hk'; subst hk; subst hk'; rw [bytes_beq h]; simp [Instr.sameBits, bytes_beq_refl]
    · simp only [VRel] at hk hk'
      obtain ⟨a, rfl, ha⟩ := hk
      obtain ⟨a', rfl, ha'⟩ := hk'
      obtain ⟨e, hs⟩ := sameCells_rel h ha ha'
      have : a = a' := Array.ext' e
      subst this
      simp only [Instr.sameBits, beq_self_eq_true, Bool.true_and]
      rw [List.all_eq_true]
      intro p hp
      have key : ∀ (l : List Value) (p : Value × Value), p ∈ l.zip l → p.1 ∈ l ∧ p.2 = p.1 := by
        intro l
        induction l with
        | nil => intro p hp; simp at hp
        | cons y l ih =>
          intro p hp
          simp only [List.zip_cons_cons, List.mem_cons] at hp
          rcases hp with rfl | hp
          · exact ⟨by simp, rfl⟩
          · obtain ⟨h1, h2⟩ := ih p hp; exact ⟨by simp [h1], h2⟩
      obtain ⟨h1, h2⟩ := key _ p hp
      rw [h2]
      exact hs _ h1 _
  unfold Instr.keyThatStays
  rw [if_pos hb]; rfl

section
variable {C : Ctx} (hC : CtxOk C) {μ : Mu}
include hC

/-- A key of these types is no cause of a panic. -/
theorem checkKey_rel (em : Bool) : ∀ (d : Nat) {t : TypeId} {k : AV}, keyOk C d t k = true → ∀ {K : Value}, VRel μ k K → ∀ (D : Nat), d ≤ D → ∀ w, (Instr.checkKey em D t K).run C.P w = .ok () w
  | 0, _, _, h, _, _, _, _, _ => by simp [keyOk] at h
  | d + 1, t, k, h, K, hk, 0, hD, w => by omega
  | d + 1, t, k, h, K, hk, D + 1, hD, w => by
    have ih := @checkKey_rel em d
    unfold keyOk at h
    cases hT : C.T t with
    | none => rw [hT] at h; simp at h
    | some ti =>
      rw [hT] at h; simp only at h
      obtain ⟨ds, hd, hkk, _⟩ := run_und hC hT
      cases hkd : ti.k <;> rw [hkd] at h hkk
      case int => have e := mkTK_int hkk; subst e; simp [Instr.checkKey, hd w]
      case str => have e := mkTK_str hkk; subst e; simp [Instr.checkKey, hd w]
      case bool => have e := mkTK_bool hkk; subst e; simp [Instr.checkKey, hd w]
      case struct fs =>
        obtain ⟨fa, e, hm⟩ := mkTK_struct hkk; subst e
        cases k <;> simp only [Bool.false_eq_true] at h
        rename_i cs
        simp only [VRel] at hk
        obtain ⟨a, rfl, ha⟩ := hk
        simp only [Instr.checkKey, Sem.run_bind, hd w, Result.andThen_ok]
        rw [← Array.forIn_toList]
        have key : ∀ (fl : List Field) (gs : List FI), fl.mapM (mkFI C.P) = some gs → (gs.all fun f => f.blank || (match apart C f.ty cs f.off with | some y => keyOk C d f.ty y | none => false)) = true →
            (forIn (m := Sem) fl PUnit.unit fun f r => (do if f.name ≠ "_" then (do Instr.checkKey em D f.type (← part f.type a f.offset); pure (ForInStep.yield PUnit.unit)) else pure (ForInStep.yield PUnit.unit) : Sem (ForInStep PUnit))).run C.P w = .ok PUnit.unit w := by
          intro fl
          induction fl with
          | nil => intro gs _ _; simp
          | cons f fl ihf =>
            intro gs hg hall
            rw [List.mapM_cons] at hg
            cases h1 : mkFI C.P f with
            | none => rw [h1] at hg; cases hg
            | some g =>
              rw [h1] at hg
              cases h2 : fl.mapM (mkFI C.P) with
              | none => rw [h2] at hg; cases hg
              | some gs' =>
                rw [h2] at hg; injection hg with hg; subst hg
                have hgf : g.off = f.offset ∧ g.ty = f.type ∧ g.blank = (f.name == "_") := by
                  unfold mkFI at h1
                  cases hi : C.P.info? f.type with
                  | none => rw [hi] at h1; cases h1
                  | some inf => rw [hi] at h1; simp only [Option.map_some, Option.some.injEq] at h1; subst h1; exact ⟨rfl, rfl, rfl⟩
                simp only [List.all_cons, Bool.and_eq_true, Bool.or_eq_true] at hall
                have hrec := ihf gs' h2 hall.2
                rw [List.forIn_cons]
                by_cases hbl : f.name = "_"
                · simp only [hbl, ne_eq, not_true_eq_false, if_false, pure_bind]
                  exact hrec
                · rcases hall.1 with hb | hb
                  · rw [hgf.2.2] at hb; exact absurd (by simpa using hb) hbl
                  · cases hp : apart C g.ty cs g.off with
                    | none => rw [hp] at hb; cases hb
                    | some y =>
                      rw [hp] at hb; simp only at hb
                      rw [hgf.1, hgf.2.1] at hp
                      rw [hgf.2.1] at hb
                      obtain ⟨V, hV, rV⟩ := part_rel hC hp ha w
                      have := ih hb rV D (by omega) w
                      simp only [ne_eq, hbl, not_false_eq_true, if_true, Sem.run_bind, hV, this, Result.andThen_ok, Sem.run_pure]
                      exact hrec
        have := key _ _ hm h
        simp at this ⊢
        rw [this]; rfl
      case arr n e0 =>
        have e := mkTK_arr hkk; subst e
        cases k <;> simp only [Bool.false_eq_true] at h
        rename_i cs
        cases hTe : C.T e0 with
        | none => rw [hTe] at h; simp at h
        | some te =>
          rw [hTe] at h; simp only at h
          simp only [VRel] at hk
          obtain ⟨a, rfl, ha⟩ := hk
          simp only [Instr.checkKey, Sem.run_bind, hd w, Result.andThen_ok]
          simp only [Std.Legacy.Range.forIn_eq_forIn_range', Std.Legacy.Range.size, Nat.sub_zero, Nat.add_one_sub_one, Nat.div_one]
          rw [List.range_eq_range'] at h
          have key : ∀ (is : List Nat), (is.all fun j => (match apart C e0 cs (j * te.size) with | some y => keyOk C d e0 y | none => false)) = true →
              (forIn (m := Sem) is PUnit.unit fun i r => (do Instr.checkKey em D e0 (← part e0 a (i * (← sizeOf e0))); pure (ForInStep.yield PUnit.unit) : Sem (ForInStep PUnit))).run C.P w = .ok PUnit.unit w := by
            intro is
            induction is with
            | nil => intro _; simp
            | cons i is ihi =>
              intro hall
              simp only [List.all_cons, Bool.and_eq_true] at hall
              have hrec := ihi hall.2
              rw [List.forIn_cons]
              have hb := hall.1
              cases hp : apart C e0 cs (i * te.size) with
              | none => rw [hp] at hb; cases hb
              | some y =>
                rw [hp] at hb; simp only at hb
                obtain ⟨V, hV, rV⟩ := part_rel hC hp ha w
                have := ih hb rV D (by omega) w
                simp only [Sem.run_bind, run_sizeOf hC hTe w, hV, this, Result.andThen_ok, Sem.run_pure]
                exact hrec
          have := key _ h
          simp at this ⊢
          rw [this]; rfl
      all_goals (cases k <;> simp at h)

/-- The look-up of a key among entries. -/
theorem afind_rel {kt : TypeId} {k : AV} {K : Value} (hk : VRel μ k K) : ∀ {es : List (AV × AV × Nat)} {l : List MapEntry}, MRel μ es l → ∀ {i : Nat} {r : Option Nat}, afind C kt k es i = some r → ∀ w,
    (Instr.findAsking kt K l i).run C.P w = .ok (r.bind fun j => (l[j - i]?).map fun E => (j, E.val)) w ∧ (∀ j, r = some j → i ≤ j ∧ ∃ e, es[j - i]? = some e ∧ sameKey k e.1 = true)
  | [], l, hm, i, r, h, w => by
    simp only [MRel] at hm; subst hm
    simp only [afind, Option.some.injEq] at h; subst h
    simp [Instr.findAsking]
  | (k', v, n) :: es, l, hm, i, r, h, w => by
    simp only [MRel] at hm
    obtain ⟨K', V', l', rfl, h1, h2, h3⟩ := hm
    simp only [afind] at h
    cases hq : aeq C 1000 kt k k' with
    | none => rw [hq] at h; cases h
    | some b =>
      rw [hq] at h
      have hE : (Op.equal kt K K').run C.P w = .ok b w := aeq_rel hC 1000 hq hk h1 10000 (by omega) w
      cases b
      · simp only at h
        obtain ⟨g1, g2⟩ := afind_rel hk h3 h w
        constructor
        · simp only [Instr.findAsking, Sem.run_bind, hE, Result.andThen_ok, Bool.false_eq_true, if_false, g1]
          congr 1
          cases r with
          | none => rfl
          | some j =>
            obtain ⟨hj, _⟩ := g2 j rfl
            simp only [Option.bind_some]
            rw [show j - i = (j - (i + 1)) + 1 from by omega, List.getElem?_cons_succ]
        · intro j hj
          obtain ⟨hij, e, he, hs⟩ := g2 j hj
          refine ⟨by omega, e, ?_, hs⟩
          rw [show j - i = (j - (i + 1)) + 1 from by omega, List.getElem?_cons_succ]
          exact he
      · simp only at h
        split at h
        · rename_i hs
          injection h with h; subst h
          refine ⟨?_, fun j hj => ?_⟩
          · simp [Instr.findAsking, hE]
          · injection hj with hj; subst hj
            exact ⟨Nat.le_refl _, (k', v, n), by simp, hs⟩
        · cases h

omit hC in
theorem sameNow_run {P : Program} {kt : TypeId} {d : TypeDesc} {w : World} (hd : (underlying kt).run P w = .ok d w) {K Y : Value} {b : Bool} (h : Instr.sameNow d K Y = some b) : (Op.equal kt K Y).run P w = .ok b w := by
  have key : ∀ n, (Op.equalIn (n + 1) kt K Y).run P w = .ok b w := by
   intro n
   revert h
   unfold Instr.sameNow
   split
   · split
     · rename_i e; subst e; intro h; injection h with h; subst h
       simp [Op.equalIn, hd]
     · intro h; cases h
   · intro h; injection h with h; subst h; simp [Op.equalIn, hd]
   · intro h; injection h with h; subst h; simp [Op.equalIn, hd]
   · intro h; cases h
  exact key 9999
theorem findKey_rel {kt : TypeId} {k : AV} {K : Value} (hk : VRel μ k K) {es : List (AV × AV × Nat)} {l : List MapEntry} (hm : MRel μ es l) {r : Option Nat} (h : afind C kt k es 0 = some r) {i : TI} (hT : C.T kt = some i) (w : World) :
    (Instr.findKey kt K l).run C.P w = .ok (r.bind fun j => (l[j]?).map fun E => (j, E.val)) w ∧ ∀ j, r = some j → ∃ e, es[j]? = some e ∧ sameKey k e.1 = true := by
  obtain ⟨d, hd, _, _⟩ := run_und hC hT
  obtain ⟨g1, g2⟩ := afind_rel hC hk hm h w
  refine ⟨?_, fun j hj => by obtain ⟨_, e, he, hs⟩ := g2 j hj; exact ⟨e, by simpa using he, hs⟩⟩
  -- 'findNow' is 'findAsking' where it answers
  have key : ∀ (l : List MapEntry) (i : Nat) (q : Option (Nat × Value)), Instr.findNow d K l i = some q → (Instr.findAsking kt K l i).run C.P w = .ok q w := by
    intro l
    induction l with
    | nil => intro i q hq; simp only [Instr.findNow, Option.some.injEq] at hq; subst hq; simp [Instr.findAsking]
    | cons E l ih =>
      intro i q hq
      simp only [Instr.findNow] at hq
      have hsame : ∀ b, Instr.sameNow d K E.key = some b → (Op.equal kt K E.key).run C.P w = .ok b w := fun b hb => sameNow_run (hd w) hb
      cases hs : Instr.sameNow d K E.key with
      | none => rw [hs] at hq; cases hq
      | some b =>
        rw [hs] at hq
        have hE := hsame b hs
        cases b
        · simp only at hq
          simp only [Instr.findAsking, Sem.run_bind, hE, Result.andThen_ok, Bool.false_eq_true, if_false]
          exact ih _ _ hq
        · simp only [Option.some.injEq] at hq; subst hq
          simp [Instr.findAsking, hE]
  simp only [Instr.findKey, Sem.run_bind, hd w, Result.andThen_ok]
  cases hn : Instr.findNow d K l 0 with
  | none => simpa using g1
  | some q =>
    have := key l 0 q hn
    rw [g1] at this
    injection this with this
    simp only [Nat.sub_zero] at this
    rw [this]; rfl

def aggD : TypeDesc → Bool
  | .struct _ | .array _ _ => true
  | _ => false
omit hC in
theorem shape_spec {d : TypeDesc} {v : Value} (h : shapeOk d v = true) : aggD d = true ∧ (∃ a, v = .agg a) ∨ aggD d = false ∧ v.oneCell' = true := by
  cases d <;> cases v <;> first | (exact .inl ⟨rfl, _, rfl⟩) | (exact .inr ⟨rfl, rfl⟩) | (cases h; done)
/-- A zero value has the shape that its type asks. -/
theorem zok {t : TypeId} {i : TI} (hT : C.T t = some i) : ∀ inf, C.P.info? t = some inf → ∀ v, inf.zero = some v → (i.agg = true → ∃ a, v = .agg a) ∧ (i.agg = false → v.oneCell' = true) := by
  intro inf hi v hv
  obtain ⟨_, d, _, h2, h3⟩ := mkTI_spec (hC.T t i hT)
  have hs := shape_spec (h3 inf hi v hv)
  have ha : i.agg = aggD d := by
    unfold TI.agg
    cases hk : i.k <;> rw [hk] at h2
    case int => rw [mkTK_int h2]; rfl
    case bool => rw [mkTK_bool h2]; rfl
    case str => rw [mkTK_str h2]; rfl
    case ptr => rw [mkTK_ptr h2]; rfl
    case slice => rw [mkTK_slice h2]; rfl
    case arr => rw [mkTK_arr h2]; rfl
    case map => rw [mkTK_map h2]; rfl
    case struct => obtain ⟨a, rfl, _⟩ := mkTK_struct h2; rfl
    case func => obtain ⟨_, _, _, rfl⟩ := mkTK_func h2; rfl
    case iface => obtain ⟨_, rfl⟩ := mkTK_iface h2; rfl
    case other => cases d <;> simp [mkTK] at h2 <;> rfl
  rcases hs with ⟨h4, h5⟩ | ⟨h4, h5⟩
  · exact ⟨fun _ => h5, fun h => (by rw [ha, h4] at h; cases h)⟩
  · exact ⟨fun h => (by rw [ha, h4] at h; cases h), fun _ => h5⟩
omit hC in
theorem map_obj {h : AH} {w : World} (hr : Rel μ h w) {id : Nat} {es : List (AV × AV × Nat)} {clock : Nat} (hg : h.get id = some (.map es clock)) {p : Place} (hp : μ.obj id = some p) :
    ∃ es' : Array MapEntry, w.heap[p.block]? = some (.map es' clock) ∧ MRel μ es es'.toList := by
  obtain ⟨q', hq', _, ho⟩ := hr.obj id _ hg
  rw [hp] at hq'; injection hq' with hq'; subst hq'
  simpa only [ORel] using ho
omit hC in
theorem run_getObj_map {P : Program} {w : World} {b : Nat} {es : Array MapEntry} {clock : Nat} (h : w.heap[b]? = some (.map es clock)) : (getObj b).run P w = .ok (.map es clock) w := by
  simp [getObj, Sem.run, h]


theorem alookup_rel {h : AH} {w : World} (hr : Rel μ h w) {t : TypeId} {m k q : AV} {ok : Bool} (hh : alookup C h t m k ok = some q) {M K : Value} (hm : VRel μ m M) (hk : VRel μ k K) :
    ∃ V, (Instr.lookup t M K ok).run C.P w = .ok V w ∧ VRel μ q V := by
  unfold alookup at hh
  cases hT : C.T t with
  | none => rw [hT] at hh; cases hh
  | some ti =>
    rw [hT] at hh; simp only at hh
    obtain ⟨ds, hd, hkk, _⟩ := run_und hC hT
    cases hkd : ti.k <;> rw [hkd] at hh hkk <;> (try simp only at hh) <;> try (cases hh; done)
    rename_i kt et
    have e := mkTK_map hkk; subst e
    split at hh
    · rename_i hko
      cases hTe : C.T et with
      | none => rw [hTe] at hh; cases hh
      | some te =>
        rw [hTe] at hh; simp only at hh
        have hKt : ∃ i, C.T kt = some i := by
          unfold keyOk at hko
          cases hx : C.T kt with
          | none => rw [hx] at hko; simp at hko
          | some i => exact ⟨i, rfl⟩
        obtain ⟨ki, hKi⟩ := hKt
        have main : ∀ (es : List (AV × AV × Nat)) (l : Array MapEntry), MRel μ es l.toList → (match afind C kt k es 0, azero te with
            | some (some i), _ => (es[i]?).map fun e => if ok then .tup [e.2.1, .bool true] else e.2.1
            | some none, some z => some (if ok then .tup [z, .bool false] else z)
            | _, _ => none) = some q →
            ∃ V r, (Instr.findKey kt K l.toList).run C.P w = .ok r w ∧ VRel μ q V ∧
              (match r with | some (_, v) => V = (if ok then .tuple #[v, .bool true] else v) | none => ∃ z, (zeroValue et).run C.P w = .ok z w ∧ V = (if ok then .tuple #[z, .bool false] else z)) := by
          intro es l hml hq
          split at hq
          · rename_i i hf
            obtain ⟨f1, _⟩ := findKey_rel hC hk hml hf hKi w
            cases he : es[i]? with
            | none => rw [he] at hq; cases hq
            | some e =>
              rw [he] at hq; simp only [Option.map_some, Option.some.injEq] at hq; subst hq
              obtain ⟨E, hE, _, rV, _⟩ := hml.get he
              simp only [Option.bind_some, hE, Option.map_some] at f1
              refine ⟨_, _, f1, ?_, rfl⟩
              cases ok
              · simpa using rV
              · simp only [if_true, VRel]
                exact ⟨_, rfl, VRelL.cons rV (VRelL.single (by simp only [VRel]))⟩
          · rename_i z hf hz
            obtain ⟨f1, _⟩ := findKey_rel hC hk hml hf hKi w
            injection hq with hq; subst hq
            obtain ⟨Z, hZr, hZv⟩ := azero_rel (μ := μ) hC hTe hz (zok hC hTe) w
            simp only [Option.bind_none] at f1
            refine ⟨_, _, f1, ?_, Z, hZr, rfl⟩
            cases ok
            · simpa using hZv
            · simp only [if_true, VRel]
              exact ⟨_, rfl, VRelL.cons hZv (VRelL.single (by simp only [VRel]))⟩
          · cases hq
        cases m <;> (try simp only at hh) <;> try (cases hh; done)
        · rename_i id
          cases hg : h.get id with
          | none => rw [hg] at hh; cases hh
          | some ob =>
            rw [hg] at hh
            cases ob <;> (try simp only at hh) <;> try (cases hh; done)
            rename_i es clock
            simp only [VRel] at hm
            obtain ⟨p, hp, rfl⟩ := hm
            obtain ⟨es', g1, g2⟩ := map_obj hr hg hp
            obtain ⟨V, r, k1, k2, k3⟩ := main es es' g2 hh
            have hck := checkKey_rel hC es'.isEmpty 1000 hko hk 10000 (by omega) w
            refine ⟨V, ?_, k2⟩
            simp only [Instr.lookup, Sem.run_bind, hd w, Result.andThen_ok, run_getObj_map g1, Sem.run_pure, hck, k1]
            cases r with
            | none => obtain ⟨z, k4, rfl⟩ := k3; simp [k4]
            | some x => simp only at k3; subst k3; simp
        · simp only [VRel] at hm; subst hm
          obtain ⟨V, r, k1, k2, k3⟩ := main [] #[] (by simp [MRel]) hh
          have hck := checkKey_rel hC (#[] : Array MapEntry).isEmpty 1000 hko hk 10000 (by omega) w
          refine ⟨V, ?_, k2⟩
          simp only [Instr.lookup, Sem.run_bind, hd w, Result.andThen_ok, Sem.run_pure, hck, k1]
          cases r with
          | none => obtain ⟨z, k4, rfl⟩ := k3; simp [k4]
          | some x => simp only at k3; subst k3; simp
    · cases hh

theorem map_write {lo : Nat → Prop} {h : AH} {w : World} (hr : Rel μ h w) {id : Nat} {es : List (AV × AV × Nat)} {clock : Nat} (hg : h.get id = some (.map es clock)) {p : Place} (hp : μ.obj id = some p) {l : Array MapEntry} (hw : w.heap[p.block]? = some (.map l clock))
    {es' : List (AV × AV × Nat)} {l' : Array MapEntry} (hm : MRel μ es' l'.toList) (clock' : Nat) :
    ∃ w', (setObj p.block (.map l' clock')).run C.P w = .ok () w' ∧ Post lo μ h w μ (h.set id (.map es' clock')) w' := by
  refine ⟨{ w with heap := w.heap.setIfInBounds p.block (.map l' clock') }, by simp [setObj, Sem.run, hw], ?_⟩
  have hlt : p.block < w.heap.size := (Array.getElem?_eq_some_iff.1 hw).1
  refine Post.write hr hg hp _ (fun b hb => ?_) rfl rfl rfl (by simp) ?_
  · simp [Array.getElem?_setIfInBounds_ne (Ne.symm hb)]
  · simp only [ORel]
    exact ⟨l', by simp [hlt], hm⟩

theorem amapUpdate_rel {lo : Nat → Prop} {h h' : AH} {w : World} (hr : Rel μ h w) {t : TypeId} {m k v : AV} (hh : amapUpdate C h t m k v = some h') {M K V : Value} (hm : VRel μ m M) (hk : VRel μ k K) (hv : VRel μ v V) :
    ∃ w', (Instr.mapUpdate t M K V).run C.P w = .ok () w' ∧ Post lo μ h w μ h' w' := by
  unfold amapUpdate at hh
  cases hT : C.T t with
  | none => rw [hT] at hh; cases hh
  | some ti =>
    rw [hT] at hh
    cases m <;> (try simp only at hh) <;> try (cases hh; done)
    rename_i id
    obtain ⟨ds, hd, hkk, _⟩ := run_und hC hT
    split at hh
    · rename_i kt et es clock hkd hg
      rw [hkd] at hkk
      have e := mkTK_map hkk; subst e
      split at hh
      · rename_i hko
        have hKt : ∃ i, C.T kt = some i := by
          unfold keyOk at hko
          cases hx : C.T kt with
          | none => rw [hx] at hko; simp at hko
          | some i => exact ⟨i, rfl⟩
        obtain ⟨ki, hKi⟩ := hKt
        simp only [VRel] at hm
        obtain ⟨p, hp, rfl⟩ := hm
        obtain ⟨l, g1, g2⟩ := map_obj hr hg hp
        have hck := checkKey_rel hC false 1000 hko hk 10000 (by omega) w
        cases hf : afind C kt k es 0 with
        | none => rw [hf] at hh; simp at hh
        | some r =>
          obtain ⟨f1, f2⟩ := findKey_rel hC hk g2 hf hKi w
          rw [hf] at hh
          cases r with
          | none =>
            simp only [Option.some.injEq] at hh; subst hh
            simp only [Option.bind_none] at f1
            obtain ⟨w', k1, k2⟩ := map_write (C := C) hC (lo := lo) hr hg hp g1 (es' := es ++ [(k, v, clock)]) (l' := l.push { key := K, val := V, born := clock }) (by simpa using g2.append (e := (k, v, clock)) (E := { key := K, val := V, born := clock }) hk hv rfl) (clock + 1)
            exact ⟨w', by simp [Instr.mapUpdate, hd w, run_getObj_map g1, hck, f1, k1], k2⟩
          | some i =>
            obtain ⟨e, he, hs⟩ := f2 i rfl
            simp only [he, Option.map_some, Option.some.injEq] at hh; subst hh
            obtain ⟨E, hE, rK, rV, rb⟩ := g2.get he
            simp only [Option.bind_some, hE, Option.map_some] at f1
            have hkt := keyThatStays_rel (P := C.P) hs hk rK w
            have hil : i < l.size := by have := (List.getElem?_eq_some_iff.1 hE).1; simpa using this
            have hEl : l[i] = E := by have := (List.getElem?_eq_some_iff.1 hE).2; simpa using this
            obtain ⟨w', k1, k2⟩ := map_write (C := C) hC (lo := lo) hr hg hp g1 (es' := es.set i (k, v, e.2.2)) (l' := l.modify i fun e => { e with key := K, val := V }) (by
              have := g2.set i (e := (k, v, e.2.2)) (E := { key := K, val := V, born := E.born }) hk hv rb
              rw [Array.toList_modify]
              rw [show l.toList.modify i (fun e => { e with key := K, val := V }) = l.toList.set i { key := K, val := V, born := E.born } from by
                exact list_modify_eq_set hE]
              exact this) clock
            refine ⟨w', ?_, k2⟩
            have hEa : l[i]? = some E := by simp [hil, hEl]
            simp only [Instr.mapUpdate, Sem.run_bind, hd w, Result.andThen_ok, run_getObj_map g1, hck, f1, hEa, Option.map_some, Option.getD_some, hkt, k1]
      · cases hh
    · cases hh

theorem amapEntry_rel {lo : Nat → Prop} {h h' : AH} {w : World} (hr : Rel μ h w) {t : TypeId} {m k q : AV} (hh : amapEntry C h t m k = some (q, h')) {M K : Value} (hm : VRel μ m M) (hk : VRel μ k K) :
    OpOk C.P lo μ h w (Instr.mapEntry t M K) q h' := by
  unfold amapEntry at hh
  cases hT : C.T t with
  | none => rw [hT] at hh; cases hh
  | some ti =>
    rw [hT] at hh
    cases m <;> (try simp only at hh) <;> try (cases hh; done)
    rename_i id
    obtain ⟨ds, hd, hkk, _⟩ := run_und hC hT
    split at hh
    · rename_i kt et es clock hkd hg
      rw [hkd] at hkk
      have e := mkTK_map hkk; subst e
      split at hh
      · rename_i hko
        have hKt : ∃ i, C.T kt = some i := by
          unfold keyOk at hko
          cases hx : C.T kt with
          | none => rw [hx] at hko; simp at hko
          | some i => exact ⟨i, rfl⟩
        obtain ⟨ki, hKi⟩ := hKt
        simp only [VRel] at hm
        obtain ⟨p, hp, rfl⟩ := hm
        obtain ⟨l, g1, g2⟩ := map_obj hr hg hp
        have hck := checkKey_rel hC false 1000 hko hk 10000 (by omega) w
        split at hh
        · rename_i i hf
          obtain ⟨f1, f2⟩ := findKey_rel hC hk g2 hf hKi w
          obtain ⟨e, he, hs⟩ := f2 i rfl
          simp only [he, Option.map_some, Option.some.injEq, Prod.mk.injEq] at hh
          obtain ⟨rfl, rfl⟩ := hh
          obtain ⟨E, hE, rK, rV, rb⟩ := g2.get he
          simp only [Option.bind_some, hE, Option.map_some] at f1
          have hkt := keyThatStays_rel (P := C.P) hs hk rK w
          have hil : i < l.size := by have := (List.getElem?_eq_some_iff.1 hE).1; simpa using this
          have hEl : l[i] = E := by have := (List.getElem?_eq_some_iff.1 hE).2; simpa using this
          obtain ⟨w', k1, k2⟩ := map_write (C := C) hC (lo := lo) hr hg hp g1 (es' := es.set i (k, e.2.1, e.2.2)) (l' := l.modify i fun e => { e with key := K }) (by
            have := g2.set i (e := (k, e.2.1, e.2.2)) (E := { E with key := K }) hk rV rb
            rw [Array.toList_modify]
            rw [show l.toList.modify i (fun e => { e with key := K }) = l.toList.set i { E with key := K } from list_modify_eq_set hE]
            exact this) clock
          have hEa : l[i]? = some E := by simp [hil, hEl]
          refine ⟨.tuple #[E.val, .int .i64 E.born], w', μ, ?_, ?_, k2⟩
          · simp only [Instr.mapEntry, Sem.run_bind, hd w, Result.andThen_ok, run_getObj_map g1, hck, f1, hEa, Option.map_some, Option.getD_some, hkt, k1, Sem.run_pure, goInt]
          · simp only [VRel]
            exact ⟨_, rfl, VRelL.cons rV (VRelL.single (by simp only [VRel]; rw [rb]))⟩
        · rename_i z hf hz
          obtain ⟨f1, _⟩ := findKey_rel hC hk g2 hf hKi w
          simp only [Option.some.injEq, Prod.mk.injEq] at hh
          obtain ⟨rfl, rfl⟩ := hh
          simp only [Option.bind_none] at f1
          cases hTe : C.T et with
          | none => rw [hTe] at hz; cases hz
          | some te =>
            rw [hTe] at hz; simp only [Option.bind_some] at hz
            obtain ⟨Z, hZr, hZv⟩ := azero_rel (μ := μ) hC hTe hz (zok hC hTe) w
            obtain ⟨w', k1, k2⟩ := map_write (C := C) hC (lo := lo) hr hg hp g1 (es' := es ++ [(k, z, clock)]) (l' := l.push { key := K, val := Z, born := clock }) (by simpa using g2.append (e := (k, z, clock)) (E := { key := K, val := Z, born := clock }) hk hZv rfl) (clock + 1)
            refine ⟨.tuple #[Z, .int .i64 clock], w', μ, ?_, ?_, k2⟩
            · simp [Instr.mapEntry, hd w, run_getObj_map g1, hck, f1, hZr, k1, goInt]
            · simp only [VRel]
              exact ⟨_, rfl, VRelL.cons hZv (VRelL.single (by simp only [VRel]))⟩
        · cases hh
      · cases hh
    · cases hh

omit hC in
theorem aborn_rel {n : Int} : ∀ {es : List (AV × AV × Nat)} {l : List MapEntry}, MRel μ es l → ∀ {i j : Nat}, aborn n es i = some j → i ≤ j ∧ l.findIdx? (fun e => (e.born : Int) == n) = some (j - i)
  | [], l, hm, i, j, h => by simp [aborn] at h
  | (k, v, b) :: es, l, hm, i, j, h => by
    simp only [MRel] at hm
    obtain ⟨k', v', l', rfl, _, _, h3⟩ := hm
    simp only [aborn] at h
    split at h
    · rename_i hb
      injection h with h; subst h
      refine ⟨Nat.le_refl _, ?_⟩
      rw [List.findIdx?_cons]; simp only [hb, if_true]; simp
    · rename_i hb
      obtain ⟨g1, g2⟩ := aborn_rel h3 h
      refine ⟨by omega, ?_⟩
      rw [List.findIdx?_cons]
      simp only [hb, Bool.false_eq_true, if_false, g2, Option.map_some]
      congr 1; omega

theorem aentryStore_rel {lo : Nat → Prop} {h h' : AH} {w : World} (hr : Rel μ h w) (t : TypeId) {m s v : AV} (hh : aentryStore h m s v = some h') {M S V : Value} (hm : VRel μ m M) (hs : VRel μ s S) (hv : VRel μ v V) :
    ∃ w', (Instr.entryStore t M S V).run C.P w = .ok () w' ∧ Post lo μ h w μ h' w' := by
  unfold aentryStore at hh
  split at hh
  · rename_i id k n
    split at hh
    · rename_i es clock hg
      cases hb : aborn n es 0 with
      | none => rw [hb] at hh; cases hh
      | some i =>
        rw [hb] at hh; simp only [Option.bind_some] at hh
        cases he : es[i]? with
        | none => rw [he] at hh; cases hh
        | some e =>
          rw [he] at hh; simp only [Option.map_some, Option.some.injEq] at hh; subst hh
          simp only [VRel] at hm hs
          obtain ⟨p, hp, rfl⟩ := hm
          subst hs
          obtain ⟨l, g1, g2⟩ := map_obj hr hg hp
          obtain ⟨_, f1⟩ := aborn_rel g2 hb
          obtain ⟨E, hE, rK, rV, rb⟩ := g2.get he
          obtain ⟨w', k1, k2⟩ := map_write (C := C) hC (lo := lo) hr hg hp g1 (es' := es.set i (e.1, v, e.2.2)) (l' := l.modify i fun e => { e with val := V }) (by
            have := g2.set i (e := (e.1, v, e.2.2)) (E := { E with val := V }) rK hv rb
            rw [Array.toList_modify]
            rw [show l.toList.modify i (fun e => { e with val := V }) = l.toList.set i { E with val := V } from list_modify_eq_set hE]
            exact this) clock
          refine ⟨w', ?_, k2⟩
          have f2 : l.findIdx? (fun e => (e.born : Int) == n) = some i := by
            have := f1
            rw [Nat.sub_zero] at this
            rw [← this, ← List.findIdx?_toArray]
          simp only [Instr.entryStore, Sem.run_bind, run_getObj_map g1, Result.andThen_ok, asInt, asIntOf, Sem.run_pure, f2, k1, pure_bind]
    · cases hh
  · cases hh

theorem amapDelete_rel {lo : Nat → Prop} {h h' : AH} {w : World} (hr : Rel μ h w) {t : TypeId} {m k : AV} (hh : amapDelete C h t m k = some h') {M K : Value} (hm : VRel μ m M) (hk : VRel μ k K) (ts : Array TypeId) (ht : ts[0]? = some t) (ty : TypeId) :
    ∃ w', (Builtin.delete_ ts ty #[M, K]).run C.P w = .ok (.tuple #[]) w' ∧ Post lo μ h w μ h' w' := by
  unfold amapDelete at hh
  cases hT : C.T t with
  | none => rw [hT] at hh; cases hh
  | some ti =>
    rw [hT] at hh; simp only at hh
    obtain ⟨ds, hd, hkk, _⟩ := run_und hC hT
    cases hkd : ti.k <;> rw [hkd] at hh hkk <;> (try simp only at hh) <;> try (cases hh; done)
    rename_i kt et
    have e := mkTK_map hkk; subst e
    split at hh
    · rename_i hko
      have hKt : ∃ i, C.T kt = some i := by
        unfold keyOk at hko
        cases hx : C.T kt with
        | none => rw [hx] at hko; simp at hko
        | some i => exact ⟨i, rfl⟩
      obtain ⟨ki, hKi⟩ := hKt
      cases m <;> (try simp only at hh) <;> try (cases hh; done)
      · rename_i id
        split at hh
        · rename_i es clock hg
          simp only [VRel] at hm
          obtain ⟨p, hp, rfl⟩ := hm
          obtain ⟨l, g1, g2⟩ := map_obj hr hg hp
          have hck := checkKey_rel hC l.isEmpty 1000 hko hk 10000 (by omega) w
          cases hf : afind C kt k es 0 with
          | none => rw [hf] at hh; simp at hh
          | some r =>
            rw [hf] at hh
            obtain ⟨f1, f2⟩ := findKey_rel hC hk g2 hf hKi w
            cases r with
            | none =>
              simp only [Option.some.injEq] at hh; subst hh
              simp only [Option.bind_none] at f1
              obtain ⟨w', k1, k2⟩ := map_write (C := C) hC (lo := lo) hr hg hp g1 (es' := es) (l' := l) g2 clock
              refine ⟨w', by simp [Builtin.delete_, ht, hd w, run_getObj_map g1, hck, f1, k1], k2.sub (Nat.le_refl _) fun i x hx => ?_⟩
              by_cases e : i = id
              · subst e; rw [hg] at hx; simpa using hx
              · rw [AH.get_set_ne _ _ e]; exact hx
            | some i =>
              simp only [Option.some.injEq] at hh; subst hh
              obtain ⟨e, he, hs⟩ := f2 i rfl
              obtain ⟨E, hE, rK, rV, rb⟩ := g2.get he
              simp only [Option.bind_some, hE, Option.map_some] at f1
              obtain ⟨w', k1, k2⟩ := map_write (C := C) hC (lo := lo) hr hg hp g1 (es' := es.eraseIdx i) (l' := l.eraseIdxIfInBounds i) (by simpa using g2.erase i) clock
              exact ⟨w', by simp [Builtin.delete_, ht, hd w, run_getObj_map g1, hck, f1, k1], k2⟩
        · cases hh
      · injection hh with hh; subst hh
        simp only [VRel] at hm; subst hm
        have hck := checkKey_rel hC true 1000 hko hk 10000 (by omega) w
        exact ⟨w, by simp [Builtin.delete_, ht, hd w, hck], Post.refl lo hr⟩
    · cases hh
end
end Go.Am
