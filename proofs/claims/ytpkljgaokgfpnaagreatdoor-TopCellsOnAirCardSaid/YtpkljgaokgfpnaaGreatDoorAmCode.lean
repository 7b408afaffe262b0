/- What it is that a piece of code, or a call, comes to in the abstract machine, and the rules for code. -/
import Derived.Test.YtpkljgaokgfpnaaGreatDoorAmF
import Derived.RangeFuncLeaves
import Derived.RangeFuncRecord
set_option linter.unusedVariables false
set_option linter.unusedSimpArgs false
set_option linter.unusedSectionVars false
namespace Go.Am
open Go

inductive AX where
  | normal
  | exit (id : Nat)
  | ret
  | panic (v : AV)

def XRel (μ : Mu) : AX → Exit → Prop
  | .normal, x => x = .normal
  | .exit i, x => x = .exit i
  | .ret, x => x = .ret
  | .panic v, x => ∃ V, x = .panic [{ v := V, recovered := false }] ∧ VRel μ v V
theorem XRel.mono {μ μ' : Mu} (h : μ.le μ') : ∀ {x : AX} {y : Exit}, XRel μ x y → XRel μ' x y
  | .normal, _, hx | .exit _, _, hx | .ret, _, hx => hx
  | .panic _, _, ⟨V, e, hv⟩ => ⟨V, e, VRel.mono h _ hv⟩

/-- The marks among the deferred calls. -/
def DRel (μ : Mu) : List Nat → List Deferred → Prop
  | [], l => l = []
  | id :: ds, l => ∃ p l', μ.obj id = some p ∧ l = { target := .collected p.block, args := #[] } :: l' ∧ DRel μ ds l'
theorem DRel.mono {μ μ' : Mu} (h : μ.le μ') : ∀ {ds : List Nat} {l : List Deferred}, DRel μ ds l → DRel μ' ds l
  | [], _, hd => hd
  | _ :: _, _, ⟨p, l', hp, e, hd⟩ => ⟨p, l', h.obj _ _ hp, e, hd.mono h⟩

abbrev AQ := AX → Env → AH → Prop

/-- The fence in which code of a frame is walked: of a round, or of none. -/
def fenceOf (μ : Mu) (ro : Option Nat) : Fence :=
  match ro with
  | none => Fence.wide
  | some id => match μ.obj id with
    | some p => Fence.wide.inRound p.block
    | none => Fence.wide
theorem fenceOf_fn (μ : Mu) (ro : Option Nat) (f : FuncId) : (fenceOf μ ro).fn f := by
  unfold fenceOf; split
  · trivial
  · split <;> trivial
theorem fenceOf_depth (μ : Mu) (ro : Option Nat) : (fenceOf μ ro).depth = none := by
  unfold fenceOf; split
  · rfl
  · split <;> rfl
theorem fenceOf_mono {μ μ' : Mu} (h : μ.le μ') {ro : Option Nat} (hro : ∀ id, ro = some id → ∃ p, μ.obj id = some p) : fenceOf μ' ro = fenceOf μ ro := by
  unfold fenceOf
  cases ro with
  | none => rfl
  | some id =>
    obtain ⟨p, hp⟩ := hro id rfl
    simp only [hp, h.obj _ _ hp]
def RoOk (μ : Mu) (ro : Option Nat) : Prop := ∀ id, ro = some id → ∃ p, μ.obj id = some p
theorem RoOk.mono {μ μ' : Mu} (h : μ.le μ') {ro : Option Nat} (hr : RoOk μ ro) : RoOk μ' ro := fun id hid => let ⟨p, hp⟩ := hr id hid; ⟨p, h.obj _ _ hp⟩

/-- Behind a piece of code. -/
def AAfter (μ : Mu) (h : AH) (w : World) (Q : AQ) (x : Exit) (a' : Act) (w' : World) : Prop :=
  ∃ ax e' h' μ', XRel μ' ax x ∧ Post (· < h.next) μ h w μ' h' w' ∧ ERel μ' e'.v e'.n a'.tmps ∧ DRel μ' e'.ds a'.defers ∧ Q ax e' h'
/-- **A piece of code, from temporaries and a heap: it ends in a way that Q takes.** -/
def ASem (C : Ctx) (ro : Option Nat) (c : Code) (Q : AQ) (e : Env) (h : AH) : Prop :=
  ∀ (μ : Mu) (w : World) (a : Act), Rel μ h w → GOk C μ → RoOk μ ro → ERel μ e.v e.n a.tmps → DRel μ e.ds a.defers → c.wpIn (fenceOf μ ro) 0 C.P (AAfter μ h w Q) a w

inductive AEnd where
  | ret (v : AV)
  | pan (v : AV)
def EndRel (μ : Mu) : AEnd → Ending → Prop
  | .ret v, e => ∃ V, e = .returned V ∧ VRel μ v V
  | .pan v, e => ∃ V, e = .panicked [{ v := V, recovered := false }] ∧ VRel μ v V
abbrev AR := AEnd → AH → Prop
def RAfter (μ : Mu) (h : AH) (w : World) (R : AR) (e : Ending) (w' : World) : Prop :=
  ∃ x h' μ', EndRel μ' x e ∧ Post (· < h.next) μ h w μ' h' w' ∧ R x h'
/-- **A call.** -/
def ACalls (C : Ctx) (f : FuncId) (args : List AV) (h : AH) (R : AR) : Prop :=
  ∀ (μ : Mu) (w : World) (as : Array Value), Rel μ h w → GOk C μ → VRelL μ args as.toList → CallsIn Fence.wide 0 C.P f as w (RAfter μ h w R)

theorem AAfter.mono {μ : Mu} {h : AH} {w : World} {Q Q' : AQ} (hq : ∀ x e h, Q x e h → Q' x e h) {x : Exit} {a' : Act} {w' : World} (ha : AAfter μ h w Q x a' w') : AAfter μ h w Q' x a' w' := by
  obtain ⟨ax, e', h', μ', h1, h2, h3, h4, h5⟩ := ha
  exact ⟨ax, e', h', μ', h1, h2, h3, h4, hq _ _ _ h5⟩
theorem ASem.mono {C : Ctx} {ro : Option Nat} {c : Code} {Q Q' : AQ} {e : Env} {h : AH} (hs : ASem C ro c Q e h) (hq : ∀ x e h, Q x e h → Q' x e h) : ASem C ro c Q' e h :=
  fun μ w a h1 h2 h3 h4 h5 => wpIn_mono (hs μ w a h1 h2 h3 h4 h5) fun x a' w' => AAfter.mono hq
theorem ACalls.mono {C : Ctx} {f : FuncId} {args : List AV} {h : AH} {R R' : AR} (hs : ACalls C f args h R) (hq : ∀ x h, R x h → R' x h) : ACalls C f args h R' :=
  fun μ w as h1 h2 h3 => (hs μ w as h1 h2 h3).mono fun e w' ⟨x, h', μ', g1, g2, g3⟩ => ⟨x, h', μ', g1, g2, hq _ _ g3⟩

section
variable {C : Ctx} {ro : Option Nat} {Q : AQ} {e : Env} {h : AH}

theorem AAfter.here {μ : Mu} {w : World} {a : Act} (hr : Rel μ h w) (he : ERel μ e.v e.n a.tmps) (hd : DRel μ e.ds a.defers) {ax : AX} {x : Exit} (hx : XRel μ ax x) (hq : Q ax e h) : AAfter μ h w Q x a w :=
  ⟨ax, e, h, μ, hx, Post.refl _ hr, he, hd, hq⟩
theorem asem_skip (hq : Q .normal e h) : ASem C ro .skip Q e h := fun μ w a hr _ _ he hd => wpIn_skip (.here hr he hd (ax := .normal) rfl hq)
theorem asem_label {l : Nat} (hq : Q .normal e h) : ASem C ro (.label l) Q e h := fun μ w a hr _ _ he hd => wpIn_label (.here hr he hd (ax := .normal) rfl hq)
theorem asem_exit {id : Nat} (hq : Q (.exit id) e h) : ASem C ro (.exit id) Q e h := fun μ w a hr _ _ he hd => wpIn_exit (.here hr he hd (ax := .exit id) rfl hq)
theorem asem_ret (hq : Q .ret e h) : ASem C ro .ret Q e h := fun μ w a hr _ _ he hd => wpIn_ret (.here hr he hd (ax := .ret) rfl hq)

/-- What comes behind what has come. -/
theorem AAfter.trans {μ μ₁ : Mu} {h₁ : AH} {w w₁ : World} (hp : Post (· < h.next) μ h w μ₁ h₁ w₁) {x : Exit} {a' : Act} {w' : World} (ha : AAfter μ₁ h₁ w₁ Q x a' w') : AAfter μ h w Q x a' w' := by
  obtain ⟨ax, e', h', μ', g1, g2, g3, g4, g5⟩ := ha
  exact ⟨ax, e', h', μ', g1, hp.trans (g2.lower fun _ hi => Nat.lt_of_lt_of_le hi hp.next), g3, g4, g5⟩
/-- Code, walked on from what has come. -/
theorem ASem.run {c : Code} (hs : ASem C ro c Q e h) {μ₀ μ : Mu} {h₀ : AH} {w₀ w : World} {a : Act} (hp : Post (· < h₀.next) μ₀ h₀ w₀ μ h w) (hG : GOk C μ₀) (hro : RoOk μ₀ ro) (he : ERel μ e.v e.n a.tmps) (hd : DRel μ e.ds a.defers) :
    c.wpIn (fenceOf μ₀ ro) 0 C.P (AAfter μ₀ h₀ w₀ Q) a w := by
  have := hs μ w a hp.rel (hG.mono hp.le) (hro.mono hp.le) he hd
  rw [fenceOf_mono hp.le hro] at this
  exact wpIn_mono this fun x a' w' ha => ha.trans hp

def AX.seq (K : Env → AH → Prop) (Q : AQ) : AQ := fun x e h => match x with | .normal => K e h | x => Q x e h
theorem asem_seq {x y : Code} (hs : ASem C ro x (AX.seq (ASem C ro y Q) Q) e h) : ASem C ro (.seq x y) Q e h := by
  intro μ w a hr hG hro he hd
  refine wpIn_seq (wpIn_mono (hs μ w a hr hG hro he hd) ?_)
  rintro xx a' w' ⟨ax, e', h', μ', g1, g2, g3, g4, g5⟩
  cases ax with
  | normal => simp only [XRel] at g1; subst g1; exact g5.run g2 hG hro g3 g4
  | exit i => simp only [XRel] at g1; subst g1; exact ⟨.exit i, e', h', μ', rfl, g2, g3, g4, g5⟩
  | ret => simp only [XRel] at g1; subst g1; exact ⟨.ret, e', h', μ', rfl, g2, g3, g4, g5⟩
  | panic v => obtain ⟨V, rfl, hv⟩ := g1; exact ⟨.panic v, e', h', μ', ⟨V, rfl, hv⟩, g2, g3, g4, g5⟩
theorem asem_cond {c : Operand} {x y : Code} {b : Bool} (hc : aeval C e c = some (.bool b)) (hs : ASem C ro (if b then x else y) Q e h) : ASem C ro (.cond c x y) Q e h := by
  intro μ w a hr hG hro he hd
  have := aeval_rel hG he hc
  simp only [VRel] at this
  exact wpIn_cond this (hs μ w a hr hG hro he hd)
def AX.block (id : Nat) (Q : AQ) : AQ := fun x e h => match x with | .exit i => if i = id then Q .normal e h else Q (.exit i) e h | x => Q x e h
theorem asem_block {id : Nat} {c : Code} (hs : ASem C ro c (AX.block id Q) e h) : ASem C ro (.block id c) Q e h := by
  intro μ w a hr hG hro he hd
  refine wpIn_block (wpIn_mono (hs μ w a hr hG hro he hd) ?_)
  rintro xx a' w' ⟨ax, e', h', μ', g1, g2, g3, g4, g5⟩
  cases ax with
  | normal => simp only [XRel] at g1; subst g1; exact ⟨.normal, e', h', μ', rfl, g2, g3, g4, g5⟩
  | exit i =>
    simp only [XRel] at g1; subst g1
    simp only [AX.block] at g5
    simp only [Exit.inBlock]
    split
    · rename_i hi; rw [if_pos hi] at g5; exact ⟨.normal, e', h', μ', rfl, g2, g3, g4, g5⟩
    · rename_i hi; rw [if_neg hi] at g5; exact ⟨.exit i, e', h', μ', rfl, g2, g3, g4, g5⟩
  | ret => simp only [XRel] at g1; subst g1; exact ⟨.ret, e', h', μ', rfl, g2, g3, g4, g5⟩
  | panic v => obtain ⟨V, rfl, hv⟩ := g1; exact ⟨.panic v, e', h', μ', ⟨V, rfl, hv⟩, g2, g3, g4, g5⟩
end

/-! ### Loops: a round, and then the loop -/
theorem steps_peel {I : Machine → Prop} {P : Program} {m m₁ m' : Machine} (hs : step P m = .next m₁) (h : StepsIn I P m m') (hne : m ≠ m') : StepsIn I P m₁ m' := by
  cases h with
  | refl => exact absurd rfl hne
  | head _ h1 h2 => rw [hs] at h1; injection h1 with h1; subst h1; exact h2
theorem lone_inj {fr fr' : Frame} {cs cs' : List Frame} {w w' : World} (h : lone fr cs w = lone fr' cs' w') : fr = fr' := by
  simp only [lone, Machine.mk.injEq] at h
  obtain ⟨_, h, _⟩ := h
  simp at h
  exact h.1
theorem atR_inj {b : Frame} {a a' : Act} {k k' : List Item} (h : b.atR a k = b.atR a' k') : k = k' := by
  simp only [Frame.atR, Frame.mk.injEq] at h
  exact h.2.2.1
theorem exitTo_lt {id : Nat} : ∀ {k k' : List Item}, exitTo id k = some k' → k'.length ≤ k.length
  | [], k', h => by simp [exitTo] at h
  | x :: k, k', h => by
    cases x <;> simp only [exitTo] at h <;> try (have := exitTo_lt h; simp; omega)
    rename_i i
    split at h
    · injection h with h; subst h; simp
    · have := exitTo_lt h; simp; omega

theorem arrives_peel {I : Machine → Prop} {P : Program} {c : Code} {b : Frame} {a₀ : Act} {w₀ : World} {k : List Item} {cs : List Frame} {m₁ : Machine} {x : Exit} {a : Act} {w : World} (hs : step P (lone (b.atR a₀ (.code (.loop c) :: k)) cs w₀) = .next m₁)
    (hx : (∀ l, x ≠ .goto l) ∧ x ≠ .outgrown) (h : ArrivesIn I P (lone (b.atR a₀ (.code (.loop c) :: k)) cs w₀) b k cs x a w) : ArrivesIn I P m₁ b k cs x a w := by
  have ne : ∀ (k' : List Item) (a' : Act) (w' : World) (cs' : List Frame), k' ≠ .code (.loop c) :: k → lone (b.atR a₀ (.code (.loop c) :: k)) cs w₀ ≠ lone (b.atR a' k') cs' w' := fun k' a' w' cs' hk e => hk (atR_inj (lone_inj e)).symm
  cases x with
  | normal => exact steps_peel hs h (ne _ _ _ _ fun e => by have := congrArg List.length e; simp at this)
  | exit id =>
    refine ⟨fun k' hk => steps_peel hs (h.1 k' hk) (ne _ _ _ _ fun e => ?_), fun hr hk => ?_⟩
    · have := exitTo_lt hk
      rw [e] at this
      simp at this
      omega
    · obtain ⟨k₁, h1, h2⟩ := h.2 hr hk
      exact ⟨k₁, h1, steps_peel hs h2 (ne _ _ _ _ fun e => by simp at e)⟩
  | goto l => exact absurd rfl (hx.1 l)
  | ret =>
    refine ⟨fun hn => ?_, fun hr => ?_⟩
    · obtain ⟨todo, h1⟩ := h.1 hn
      exact ⟨todo, steps_peel hs h1 fun e => by
        have := congrArg Frame.mode (lone_inj e)
        simp [Frame.atR] at this⟩
    · obtain ⟨k₁, h1⟩ := h.2 hr
      exact ⟨k₁, steps_peel hs h1 (ne _ _ _ _ fun e => by simp at e)⟩
  | panic ch =>
    obtain ⟨todo, h1⟩ := h
    exact ⟨todo, steps_peel hs h1 fun e => by
      have := congrArg Frame.mode (lone_inj e)
      simp [Frame.atR] at this⟩
  | outgrown => exact absurd rfl hx.2

theorem XRel.ne {μ : Mu} {ax : AX} {x : Exit} (h : XRel μ ax x) : (∀ l, x ≠ .goto l) ∧ x ≠ .outgrown := by
  cases ax with
  | normal => simp only [XRel] at h; subst h; exact ⟨fun _ => by simp, by simp⟩
  | exit i => simp only [XRel] at h; subst h; exact ⟨fun _ => by simp, by simp⟩
  | ret => simp only [XRel] at h; subst h; exact ⟨fun _ => by simp, by simp⟩
  | panic v => obtain ⟨V, rfl, _⟩ := h; exact ⟨fun _ => by simp, by simp⟩

/-- **A loop: a round, and then the loop again.** -/
theorem asem_loop {C : Ctx} {ro : Option Nat} {Q : AQ} {e : Env} {h : AH} {c : Code} (hs : ASem C ro c (AX.seq (ASem C ro (.loop c) Q) Q) e h) : ASem C ro (.loop c) Q e h := by
  intro μ w a hr hG hro he hd b k cs hb1 hb2 hb3
  obtain ⟨x, a₁, w₁, ⟨ax, e', h', μ', g1, g2, g3, g4, g5⟩, harr⟩ := hs μ w a hr hG hro he hd b (.inLoop c :: k) cs hb1 hb2 hb3
  have hcalm : ∀ (a : Act) (todo : List Item) (w : World), (b.atR a todo).about C.P w = none → (lone (b.atR a todo) cs w).fenced C.P (fenceOf μ ro) := fun a todo w ha => fenced_calm (fr := b.atR a todo) hb2 hb3 ha
  have s0 : StepsIn (Machine.fenced C.P (fenceOf μ ro)) C.P (lone (b.atR a (.code (.loop c) :: k)) cs w) (lone (b.atR a (.code c :: .inLoop c :: k)) cs w) := .one (hcalm _ _ _ rfl) stepR_loop
  cases ax with
  | normal =>
    simp only [XRel] at g1; subst g1
    obtain ⟨x₂, a₂, w₂, q₂, arr₂⟩ := g5.run g2 hG hro g3 g4 b k cs hb1 hb2 hb3
    have hne := (show ∃ ax, XRel _ ax x₂ from ⟨_, q₂.choose_spec.choose_spec.choose_spec.choose_spec.1⟩)
    obtain ⟨ax₂, hax⟩ := hne
    exact ⟨x₂, a₂, w₂, q₂, .of_steps (StepsIn.trans s0 (StepsIn.trans harr (.one (hcalm _ _ _ rfl) stepR_inLoop))) (arrives_peel stepR_loop hax.ne arr₂)⟩
  | exit i =>
    simp only [XRel] at g1; subst g1
    exact ⟨_, a₁, w₁, ⟨.exit i, e', h', μ', rfl, g2, g3, g4, g5⟩, .of_steps s0 (.pass (x := .inLoop c) rfl (fun _ _ => .inl (by simp)) harr)⟩
  | ret =>
    simp only [XRel] at g1; subst g1
    exact ⟨_, a₁, w₁, ⟨.ret, e', h', μ', rfl, g2, g3, g4, g5⟩, .of_steps s0 (.pass (x := .inLoop c) rfl (fun _ _ => .inl (by simp)) harr)⟩
  | panic v =>
    obtain ⟨V, rfl, hv⟩ := g1
    exact ⟨_, a₁, w₁, ⟨.panic v, e', h', μ', ⟨V, rfl, hv⟩, g2, g3, g4, g5⟩, .of_steps s0 (.pass (x := .inLoop c) rfl (fun _ _ => .inl (by simp)) harr)⟩

theorem stepR_scope {P : Program} {b : Frame} {a : Act} {k : List Item} {cs : List Frame} {w : World} {c : Code} :
    step P (lone (b.atR a (.code (.scope c) :: k)) cs w) = .next (lone (b.atR a (.code c :: .inScope c :: k)) cs w) :=
  step_lone_go (by simp [stepG, stepG.exec, Frame.atR])
theorem stepR_inScope {P : Program} {b : Frame} {a : Act} {k : List Item} {cs : List Frame} {w : World} {c : Code} :
    step P (lone (b.atR a (.inScope c :: k)) cs w) = .next (lone (b.atR a k) cs w) :=
  step_lone_go (by simp [stepG, stepG.exec, Frame.atR])
/-- A scope out of which nobody jumps. -/
theorem asem_scope {C : Ctx} {ro : Option Nat} {Q : AQ} {e : Env} {h : AH} {c : Code} (hs : ASem C ro c Q e h) : ASem C ro (.scope c) Q e h := by
  intro μ w a hr hG hro he hd b k cs hb1 hb2 hb3
  obtain ⟨x, a₁, w₁, hq, harr⟩ := hs μ w a hr hG hro he hd b (.inScope c :: k) cs hb1 hb2 hb3
  have hcalm : ∀ (a : Act) (todo : List Item) (w : World), (b.atR a todo).about C.P w = none → (lone (b.atR a todo) cs w).fenced C.P (fenceOf μ ro) := fun a todo w ha => fenced_calm (fr := b.atR a todo) hb2 hb3 ha
  have s0 : StepsIn (Machine.fenced C.P (fenceOf μ ro)) C.P (lone (b.atR a (.code (.scope c) :: k)) cs w) (lone (b.atR a (.code c :: .inScope c :: k)) cs w) := .one (hcalm _ _ _ rfl) stepR_scope
  refine ⟨x, a₁, w₁, hq, .of_steps s0 ?_⟩
  obtain ⟨ax, e', h', μ', g1, g2, g3, g4, g5⟩ := hq
  cases ax with
  | normal => simp only [XRel] at g1; subst g1; exact StepsIn.trans harr (.one (hcalm _ _ _ rfl) stepR_inScope)
  | exit i => simp only [XRel] at g1; subst g1; exact ⟨fun k' hk => harr.1 k' hk, fun hr hk => harr.2 hr hk⟩
  | ret => simp only [XRel] at g1; subst g1; exact harr
  | panic v => obtain ⟨V, rfl, hv⟩ := g1; exact harr

/-! ### Operations in their order -/
/-- The outcome of a region's operations, one behind the other. -/
def wantedA (e : Env) (o : Oper) (ops : Array Oper) : Option Bool :=
  match o.guard with
  | none => some true
  | some (j, want) => match (ops[j]?).bind (·.dst) with
    | some t => match e.v.get t with
      | some (.bool b) => some (b == want)
      | some (.tup []) => some false
      | _ => none
    | none => none

theorem wantedA_rel {μ : Mu} {e : Env} {a : Act} {o : Oper} {ops : Array Oper} {b : Bool} (he : ERel μ e.v e.n a.tmps) (h : wantedA e o ops = some b) : Region.wanted o (yielded ops a.tmps) = b := by
  unfold wantedA at h
  unfold Region.wanted
  cases hg : o.guard with
  | none => rw [hg] at h; simp only [Option.some.injEq] at h; exact h
  | some jw =>
    obtain ⟨j, want⟩ := jw
    rw [hg] at h; simp only at h ⊢
    unfold yielded
    cases ht : (ops[j]?).bind (·.dst) with
    | none => rw [ht] at h; cases h
    | some t =>
      rw [ht] at h; simp only at h
      split at h
      · rename_i bb hb
        injection h with h; subst h
        have hv := he.2 t _ hb
        simp only [VRel] at hv
        have hget : a.tmps[t]? = some (.bool bb) := by
          rw [Array.getD_eq_getD_getElem?] at hv
          cases hx : a.tmps[t]? with
          | none => rw [hx] at hv; cases hv
          | some y => rw [hx] at hv; rw [← hv]; rfl
        simp only [Option.bind_some, hget]
        cases bb <;> cases want <;> rfl
      · rename_i hb
        injection h with h; subst h
        have hv := he.2 t _ hb
        simp only [VRel] at hv
        obtain ⟨ar, hv, _⟩ := hv
        simp only [Option.bind_some]
        cases hx : a.tmps[t]? with
        | none => rfl
        | some y =>
          rw [Array.getD_eq_getD_getElem?, hx] at hv
          simp only [Option.getD_some] at hv
          subst hv
          rfl
      · cases h

/-! ### Calls of function values -/
def envWith (ps : List Tmp) (args : List AV) (v : TE) : TE :=
  (ps.zip args).foldl (fun v p => v.put p.1 p.2) v
/-- The end of a round of a range over a function. -/
def roundQ (id : Nat) (R : AR) : AQ := fun x _ h =>
  ∃ st pend n env ps assign body dfr, h.get id = some (.loop st pend n env ps assign body dfr) ∧
    match x with
    | .normal => R (.ret (.bool true)) (h.set id (.loop .ready none n env ps assign body dfr))
    | .ret => R (.ret (.bool false)) (h.set id (.loop .done (some .ret) n env ps assign body dfr))
    | .exit i => R (.ret (.bool false)) (h.set id (.loop .done (some (.exit i)) n env ps assign body dfr))
    | .panic _ => False
/-- A round. -/
def AYield (C : Ctx) (id : Nat) (args : List AV) (h : AH) (R : AR) : Prop :=
  ∃ pend n env ps assign body dfr, h.get id = some (.loop .ready pend n env ps assign body dfr) ∧ args.length = ps.size ∧ (∀ t ∈ ps.toList, t < n) ∧
    ASem C (some id) assign (AX.seq (fun e₁ h₁ => ∃ pend₁ n₁ env₁ ps₁ as₁ bd₁ dfr₁, h₁.get id = some (.loop .ready pend₁ n₁ env₁ ps₁ as₁ bd₁ dfr₁) ∧
      ASem C (some id) body (roundQ id R) e₁ (h₁.set id (.loop .busy pend₁ n₁ env₁ ps₁ as₁ bd₁ dfr₁))) (fun _ _ _ => False)) ⟨n, envWith ps.toList args env, []⟩ h
def ACallV (C : Ctx) (v : AV) (args : List AV) (h : AH) (R : AR) : Prop :=
  match v with
  | .func (.func f) fi ca => (C.F f).isSome = true ∧ ACalls C f (fi ++ args ++ ca) h R
  | .yield id => AYield C id args h R
  | _ => False

theorem envWith_rel {μ : Mu} {n : Nat} : ∀ {ps : List Tmp} {args : List AV} {v : TE} {tm : Array Value} {as : List Value}, ERel μ v n tm → VRelL μ args as → (∀ t ∈ ps, t < n) →
    ERel μ (envWith ps args v) n ((ps.zip as).foldl (fun tmps (p : Tmp × Value) => tmps.setIfInBounds p.1 p.2) tm)
  | [], _, _, _, _, he, _, _ => by simpa [envWith] using he
  | t :: ps, [], _, _, as, he, ha, _ => by simp only [VRelL] at ha; subst ha; simpa [envWith] using he
  | t :: ps, x :: args, v, tm, as, he, ha, ht => by
    simp only [VRelL] at ha
    obtain ⟨X, l, rfl, hx, hl⟩ := ha
    have h1 : ERel μ (v.put t x) n (tm.setIfInBounds t X) := by
      have := ERel.put (e := ⟨n, v, []⟩) (a := ⟨tm, []⟩) he (d := some t) hx (fun s hs => by injection hs with hs; subst hs; exact ht _ (by simp))
      simpa [Env.put, Act.put] using this
    have := envWith_rel (ps := ps) h1 hl (fun s hs => ht s (by simp [hs]))
    simpa [envWith] using this

theorem resolve_value {P : Program} {ρ : Operand → Value} {c : Call} {f : Operand} (hc : c.callee = .value f) (t : TypeId) (w : World) {fn : Fn} {fi ca : Array Value} (hf : ρ f = .func fn fi ca) :
    (resolve ρ c t).run P w = .ok { target := .fn fn ca, args := fi ++ c.args.map ρ } w := by
  simp [resolve, hc, Deferred.ofValue, hf]

theorem run_callFunc {C : Ctx} (hC : CtxOk C) {f : FuncId} (hf : (C.F f).isSome = true) (args : Array Value) (w : World) : (callFunc f args).run C.P w = .ok (.enter f args) w := by
  cases hx : C.F f with
  | none => rw [hx] at hf; cases hf
  | some fn =>
    obtain ⟨h1, h2, h3⟩ := hC.F f fn hx
    have hb : fn.body ≠ none := by intro hb; rw [hb] at h2; cases h2
    have h3' : fn.name ≠ "runtime.NumGoroutine" := by simpa using h3
    simp [callFunc, h1, h3', hb]

/-- What the machine does at a call of a value. -/
theorem acallV_rel {C : Ctx} (hC : CtxOk C) {v : AV} {args : List AV} {h : AH} {R : AR} (hc : ACallV C v args h R) {μ : Mu} {w : World} (hr : Rel μ h w) (hG : GOk C μ) {V : Value} (hv : VRel μ v V) {as : Array Value} (ha : VRelL μ args as.toList) (F : Fence) (hF : F = Fence.wide ∨ ∃ l, F = Fence.wide.inRound l) :
    ∃ fn fi ca, V = .func fn fi ca ∧
      ((∃ f A, (invoke (.fn fn ca) (fi ++ as)).run C.P w = .ok (.enter f A) w ∧ CallsIn F 0 C.P f A w (RAfter μ h w R)) ∨
       (∃ l f tm assign body, (invoke (.fn fn ca) (fi ++ as)).run C.P w = .ok (.round l f tm assign body) w ∧ RoundIn F 0 C.P l f tm assign body w (RAfter μ h w R))) := by
  have toF : ∀ {f A R}, CallsIn Fence.wide 0 C.P f A w R → CallsIn F 0 C.P f A w R := fun hc => by
    rcases hF with rfl | ⟨l, rfl⟩
    · exact hc
    · exact hc
  unfold ACallV at hc
  split at hc
  · rename_i f fi ca
    obtain ⟨hf, hcall⟩ := hc
    simp only [VRel] at hv
    obtain ⟨_, fi', ca', rfl, h1, h2⟩ := hv
    refine ⟨.func f, fi', ca', rfl, .inl ⟨f, fi' ++ as ++ ca', ?_, toF (hcall μ w _ hr hG ?_)⟩⟩
    · simp only [invoke]; exact run_callFunc hC hf _ w
    · simpa [List.append_assoc] using (h1.append ha).append h2
  · rename_i id
    obtain ⟨pend, n, env, ps, assign, body, dfr, hg, hlen, hps, hs⟩ := hc
    simp only [VRel] at hv
    obtain ⟨p, hp, rfl⟩ := hv
    obtain ⟨q, hq, hqf, ho⟩ := hr.obj id _ hg
    rw [hp] at hq; injection hq with hq; subst hq
    simp only [ORel] at ho
    obtain ⟨fn, tm, d, hw, he, hd⟩ := ho
    refine ⟨.yield p.block, #[], #[], rfl, .inr ⟨p.block, fn, (ps.zip as).foldl (fun tmps (x : Tmp × Value) => tmps.setIfInBounds x.1 x.2) tm, assign, body, ?_, ?_⟩⟩
    · simp only [invoke, Array.empty_append]
      exact run_yield hw (by have := ha.length; simp at this ⊢; omega)
    · -- the round
      have hfence : F.inRound p.block = fenceOf μ (some id) := by
        simp only [fenceOf, hp]
        rcases hF with rfl | ⟨l, rfl⟩ <;> rfl
      refine roundIn_of_wpIn (by rcases hF with rfl | ⟨l, rfl⟩ <;> trivial) ?_
      rw [hfence]
      have hro : RoOk μ (some id) := fun i hi => by injection hi with hi; subst hi; exact ⟨p, hp⟩
      have hpz : (ps.zip as).toList = ps.toList.zip as.toList := by simp
      have he0 : ERel μ (envWith ps.toList args env) n ((ps.zip as).foldl (fun tmps (x : Tmp × Value) => tmps.setIfInBounds x.1 x.2) tm) := by
        rw [← Array.foldl_toList, hpz]
        exact envWith_rel he ha hps
      refine wpIn_mono (hs μ w ⟨_, []⟩ hr hG hro he0 (by simp [DRel])) ?_
      rintro x a₁ w₁ ⟨ax, e₁, h₁, μ₁, g1, g2, g3, g4, g5⟩
      cases ax with
      | normal =>
        simp only [XRel] at g1; subst g1
        obtain ⟨pend₁, n₁, env₁, ps₁, as₁, bd₁, dfr₁, k1, k2⟩ := g5
        have hp1 := g2.le.obj _ _ hp
        obtain ⟨q₁, hq₁, hqf₁, ho₁⟩ := g2.rel.obj id _ k1
        rw [hp1] at hq₁; injection hq₁ with hq₁; subst hq₁
        simp only [ORel] at ho₁
        obtain ⟨fn₁, tm₁, d₁, hw₁, he₁, hd₁⟩ := ho₁
        have hbr := run_beginRound (P := C.P) hw₁ rfl
        refine ⟨_, hbr, ?_⟩
        have hlt₁ : p.block < w₁.heap.size := (Array.getElem?_eq_some_iff.1 hw₁).1
        have hpost : Post (· < h.next) μ₁ h₁ w₁ μ₁ (h₁.set id (.loop .busy pend₁ n₁ env₁ ps₁ as₁ bd₁ dfr₁)) (w₁.putObj p.block (.loop { state := .busy, pending := pend₁, fn := fn₁, tmps := tm₁, params := ps₁, assign := as₁, body := bd₁, defers := d₁.block })) := by
          refine Post.write g2.rel k1 hp1 _ (fun b hb => World.putObj_heap_other hb) rfl rfl rfl (by simp) ?_
          simp only [ORel]
          exact ⟨fn₁, tm₁, d₁, World.putObj_heap_same hlt₁, he₁, hd₁⟩
        refine wpIn_mono (k2.run (g2.trans hpost) hG hro g3 g4) ?_
        rintro x₂ a₂ w₂ ⟨ax₂, e₂, h₂, μ₂, m1, m2, m3, m4, st, pend₂, n₂, env₂, ps₂, as₂, bd₂, dfr₂, m5, m6⟩
        have hp2 := m2.le.obj _ _ hp
        obtain ⟨q₂, hq₂, _, ho₂⟩ := m2.rel.obj id _ m5
        rw [hp2] at hq₂; injection hq₂ with hq₂; subst hq₂
        simp only [ORel] at ho₂
        obtain ⟨fn₂, tm₂, d₂, hw₂, he₂, hd₂⟩ := ho₂
        have hlt₂ : p.block < w₂.heap.size := (Array.getElem?_eq_some_iff.1 hw₂).1
        have fin : ∀ (jump : Option Code) (st' : LoopState), st' = (if jump.isNone then .ready else .done) → R (.ret (.bool jump.isNone)) (h₂.set id (.loop st' jump n₂ env₂ ps₂ as₂ bd₂ dfr₂)) →
            ∃ v w', (Instr.endRound p.block jump).run C.P w₂ = .ok v w' ∧ RAfter μ h w R (.returned v) w' := by
          intro jump st' hst hR
          refine ⟨_, _, run_endRound jump hw₂, .ret (.bool jump.isNone), _, μ₂, ⟨_, rfl, by simp only [VRel]⟩, m2.trans (Post.write (lo := (· < h.next)) m2.rel m5 hp2 (.loop st' jump n₂ env₂ ps₂ as₂ bd₂ dfr₂) (fun b hb => World.putObj_heap_other hb) rfl rfl rfl (by simp) ?_), hR⟩
          simp only [ORel]
          subst hst
          exact ⟨fn₂, tm₂, d₂, World.putObj_heap_same hlt₂, he₂, hd₂⟩
        cases ax₂ with
        | normal => simp only [XRel] at m1; subst m1; exact fin none .ready rfl m6
        | ret => simp only [XRel] at m1; subst m1; exact fin (some .ret) .done rfl m6
        | exit i => simp only [XRel] at m1; subst m1; exact fin (some (.exit i)) .done rfl m6
        | panic v => exact m6.elim
      | exit i => exact g5.elim
      | ret => exact g5.elim
      | panic v => exact g5.elim
  · exact hc.elim
end Go.Am
