/- What a piece of code asks for is enough: the soundness of the walk over symbolic values. -/
import Derived.Test.YtpkljgaokgfpnaaGreatDoorAmWp
set_option linter.unusedVariables false
set_option linter.unusedSimpArgs false
namespace Go.Am
open Go

def child : Code → Bool → Option Code
  | .seq x _, false => some x
  | .seq _ y, true => some y
  | .cond _ x _, false => some x
  | .cond _ _ y, true => some y
  | .block _ c, false => some c
  | .scope c, false => some c
  | .loop c, false => some c
  | _, _ => none
def codeAt (body : Code) : List Bool → Option Code
  | [] => some body
  | b :: p => (codeAt body p).bind (child · b)
def LocOk (C : Ctx) (loc : Loc) (c : Code) : Prop := ∀ f p, loc = some (f, p) → ∃ fn body, C.F f = some fn ∧ fn.body = some body ∧ codeAt body p = some c
theorem LocOk.none {C : Ctx} {c : Code} : LocOk C none c := fun _ _ h => by cases h
theorem LocOk.go {C : Ctx} {loc : Loc} {c c' : Code} {b : Bool} (h : LocOk C loc c) (hc : child c b = some c') : LocOk C (loc.go b) c' := by
  intro f p hl
  cases loc with
  | none => cases hl
  | some fp =>
    obtain ⟨f', p'⟩ := fp
    simp only [Loc.go, Option.some.injEq, Prod.mk.injEq] at hl
    obtain ⟨rfl, rfl⟩ := hl
    obtain ⟨fn, body, h1, h2, h3⟩ := h _ _ rfl
    exact ⟨fn, body, h1, h2, by simp [codeAt, h3, hc]⟩

/-- A function whose value is told: memory is behind the call what it was. -/
def APure (C : Ctx) (f : FuncId) (args : List AV) (v : AV) : Prop := ∀ h, ACalls C f args h (fun r h' => r = .ret v ∧ h' = h)
/-- A function of whose value something is told. -/
def ATold (C : Ctx) (f : FuncId) (args : List AV) (K : AV → Prop) : Prop := ∀ h, ACalls C f args h (fun r h' => (∃ v, r = .ret v ∧ K v) ∧ h' = h)
structure SpecsOk (C : Ctx) (S : Specs) : Prop where
  P : ∀ f spec, S.P f = some spec → ∀ args K, spec args K → ATold C f args K
  L0 : S.L none = none
  L : ∀ f p spec, S.L (some (f, p)) = some spec → ∀ fn body c, C.F f = some fn → fn.body = some body → codeAt body p = some (.loop c) → ∀ ro e h Q, spec ro e h Q → ASem C ro (.loop c) Q e h
  R0 : S.R none = none
  R : ∀ f p spec, S.R (some (f, p)) = some spec → ∀ fn body g ps a b, C.F f = some fn → fn.body = some body → codeAt body p = some (.rangeFunc g ps a b) → ∀ ro e h Q, spec ro e h Q → ASem C ro (.rangeFunc g ps a b) Q e h
theorem SpecsOk.of {C : Ctx} {S : Specs} (hP : ∀ f spec, S.P f = some spec → ∀ args K, spec args K → ATold C f args K) (hL0 : S.L none = none) (hR : S.R = fun _ => none)
    (hL : ∀ f p spec, S.L (some (f, p)) = some spec → ∀ fn body c, C.F f = some fn → fn.body = some body → codeAt body p = some (.loop c) → ∀ ro e h Q, spec ro e h Q → ASem C ro (.loop c) Q e h) : SpecsOk C S :=
  ⟨hP, hL0, hL, by rw [hR], fun f p spec h => by rw [hR] at h; cases h⟩

structure WpOk (C : Ctx) (S : Specs) (n : Nat) : Prop where
  c : ∀ ro loc c Q e h, LocOk C loc c → wpC C S n ro loc c Q e h → ASem C ro c Q e h
  l : ∀ ops base i l Q e h, (∀ j, l[j]? = ops[i + j]?) → wpL C S n ops base i l Q e h → AOps C ops base Q (List.range' i l.length) e h
  d : ∀ ops base f listed wt K e h, (∀ p ∈ wt, QV C ops p.2.1 p.2.2 e h) → wpD C S n ops base f listed wt K e h → ACanon C ops base K f listed wt e h
  o : ∀ ops base i o K Q e h, ops[i]? = some o → wpO C S n ops base i o K Q e h → AOp C ops base i K Q e h
  k : ∀ c R e h, wpK C S n c R e h → ACall C c e h R
  f : ∀ f args R h, wpF C S n f args R h → ACalls C f args h R
  y : ∀ id args R h, wpY C S n id args R h → AYield C id args h R

/-! ### What is watched -/
inductive Eff (C : Ctx) (S : Specs) (o : Op) (nid : Nat) (e : Env) (h : AH) : AH → Prop where
  | same : Eff C S o nid e h h
  | fresh (x : AObj) : Op.fresh o = true → Eff C S o nid e h (h.set nid x)
  | store (t : TypeId) (r x : Operand) (id off : Nat) (ob : AObj) : o = .store t r x → aeval C e r = some (.ptr id off) → Eff C S o nid e h (h.set id ob)
  | other (h' : AH) : Op.quiet o = false → pureCall C S o e = false → Op.fresh o = false → (∀ t r x, o ≠ .store t r x) → Eff C S o nid e h h'

theorem keepsOne_ok {C : Ctx} {S : Specs} {o : Op} {nid : Nat} {e : Env} {h h' : AH} (he : Eff C S o nid e h h') {p : Op} {v : AV} (hk : keepsOne C S o nid e p = true) (hs : astep C p e h 0 = some (v, h)) (hq : Op.quiet p = true) : astep C p e h' 0 = some (v, h') := by
  unfold keepsOne at hk
  split at hk
  · rename_i hb
    simp only [Bool.or_eq_true] at hb
    rcases hb with (hb | hb) | hb
    · exact (astep_still hb hs h' 0).2
    · cases he with
      | same => exact hs
      | fresh x hf => cases o <;> simp [Op.quiet, Op.fresh] at hb hf
      | store t r x id off ob ho => subst ho; simp [Op.quiet] at hb
      | other _ hn => rw [hn] at hb; cases hb
    · cases he with
      | same => exact hs
      | fresh x hf => cases o <;> simp [Op.fresh, pureCall, Op.enters] at hb hf
      | store t r x id off ob ho => subst ho; simp [pureCall, Op.enters] at hb
      | other _ _ hn => rw [hn] at hb; cases hb
  · split at hk
    · rename_i t q _
      have key : ∀ {p}, aeval C e q = some p → (∃ cs, p = .kptr cs) ∨ (∃ id off, p = .ptr id off ∧ h'.get id = h.get id) → astep C (.load t q) e h' 0 = some (v, h') := by
        intro p hp hc
        simp only [astep, hp, Option.bind_some] at hs ⊢
        have : aload C h' t p = aload C h t p := by
          unfold aload
          have hr : ∀ n, areads h' p n = areads h p n := by
            intro n
            rcases hc with ⟨cs, rfl⟩ | ⟨id, off, rfl, hg⟩
            · rfl
            · simp only [areads, hg]
          simp only [hr]
        rw [this]
        cases hl : aload C h t p with
        | none => rw [hl] at hs; cases hs
        | some x => rw [hl] at hs; simp at hs ⊢; exact hs
      split at hk
      · rename_i cs hq'
        exact key hq' (.inl ⟨cs, rfl⟩)
      · rename_i id off hq'
        refine key hq' (.inr ⟨id, off, rfl, ?_⟩)
        cases he with
        | same => rfl
        | fresh x hf =>
          split at hk
          · simp [Op.fresh] at hf
          · simp only [Bool.and_eq_true, Bool.not_eq_true'] at hk
            exact AH.get_set_ne _ _ (not_beq hk.2)
        | store t' r x id' off' ob ho hr =>
          subst ho
          simp only [hr] at hk
          simp only [Bool.not_eq_true'] at hk
          exact AH.get_set_ne _ _ (not_beq hk)
        | other _ h1 h2 h3 h4 =>
          split at hk
          · rename_i t' r x; exact absurd rfl (h4 _ _ _)
          · rw [h3] at hk; simp at hk
      · cases hk
    · cases hk
theorem keepsP_ok {C : Ctx} {S : Specs} {ops : Array Oper} {o : Oper} {nid : Nat} {e : Env} {h h' : AH} (he : Eff C S o.op nid e h h') (u : AV) {P : Prop} : ∀ {wt : List (Nat × Oper × AV)}, keepsP C S ops o nid e (e.put o.dst u) h' P wt → (∀ p ∈ wt, QV C ops p.2.1 p.2.2 e h) → (∀ p ∈ wt, QV C ops p.2.1 p.2.2 (e.put o.dst u) h') ∧ P
  | [], hk, _ => ⟨fun p hp => (by cases hp), hk⟩
  | q :: wt, hk, hw => by
    unfold keepsP at hk
    split at hk
    · rename_i hb
      simp only [Bool.and_eq_true] at hb
      obtain ⟨i1, i2⟩ := keepsP_ok he u hk (fun q hq => hw q (List.mem_cons_of_mem _ hq))
      refine ⟨fun p hp => ?_, i2⟩
      rcases List.mem_cons.1 hp with rfl | hp
      · have hd : ∀ t, o.dst = some t → t ∉ p.2.1.looksAt ops := by
          intro t ht
          have := hb.1
          simp only [apartD, ht, Bool.not_eq_true'] at this
          simpa using this
        rw [QV.congr _ _ hd]
        obtain ⟨h1, h2, h3⟩ := hw p (by simp)
        refine ⟨h1, h2, ?_⟩
        cases hwa : wantedA e p.2.1 ops with
        | none => rw [hwa] at h3; exact h3
        | some b =>
          rw [hwa] at h3
          cases b with
          | false => exact h3
          | true => exact keepsOne_ok he hb.2 h3 h2
      · exact i1 p hp
    · unfold reqv at hk
      split at hk
      · rename_i d1 d2 d3
        obtain ⟨i1, i2⟩ := keepsP_ok he u hk.2 (fun q hq => hw q (List.mem_cons_of_mem _ hq))
        refine ⟨fun p hp => ?_, i2⟩
        rcases List.mem_cons.1 hp with rfl | hp
        · exact ⟨dstB_ok d1, d2, by rw [d3]; exact hk.1⟩
        · exact i1 p hp
      · rename_i d1 d2 d3
        obtain ⟨v, h1, hs, hv, hk⟩ := pstep_ok hk
        obtain ⟨i1, i2⟩ := keepsP_ok he u hk (fun q hq => hw q (List.mem_cons_of_mem _ hq))
        refine ⟨fun p hp => ?_, i2⟩
        rcases List.mem_cons.1 hp with rfl | hp
        · exact ⟨dstB_ok d1, d2, by rw [d3, ← hv]; exact (astep_quiet d2 hs 0).2⟩
        · exact i1 p hp
      · exact hk.elim

/-- An operation that enters no function: what it does to memory. -/
theorem astep_eff {C : Ctx} {S : Specs} {o : Op} {nid : Nat} {e : Env} {h h' : AH} {v : AV} (hs : astep C o e h nid = some (v, h')) : Eff C S o nid e h h' := by
  by_cases hq : Op.quiet o = true
  · obtain ⟨rfl, _⟩ := astep_quiet hq hs nid; exact .same
  by_cases hf : Op.fresh o = true
  · obtain ⟨x, rfl, _⟩ := astep_fresh hf hs; exact .fresh x hf
  by_cases hst : ∃ t r x, o = .store t r x
  · obtain ⟨t, r, x, rfl⟩ := hst
    simp only [astep] at hs
    cases hr : aeval C e r with
    | none => rw [hr] at hs; cases hs
    | some p =>
      cases hx : aeval C e x with
      | none => rw [hr, hx] at hs; cases hs
      | some y =>
        rw [hr, hx] at hs
        simp only [Option.bind_some] at hs
        cases hst : astore C h t p y with
        | none => rw [hst] at hs; cases hs
        | some h1 =>
          rw [hst] at hs
          simp only [Option.map_some, Option.some.injEq, Prod.mk.injEq] at hs
          obtain ⟨_, rfl⟩ := hs
          unfold astore at hst
          split at hst
          · rename_i i id off hT
            split at hst
            · unfold awrites at hst
              split at hst
              · split at hst
                · injection hst with hst; subst hst
                  exact .store t r x id off _ rfl hr
                · cases hst
              · cases hst
            · cases hst
          · cases hst
  · by_cases hp : pureCall C S o e = true
    · unfold pureCall at hp
      split at hp
      · rename_i c hc
        unfold Op.enters at hc
        split at hc
        · rename_i c' 
          split at hc
          · cases hc
          · injection hc with hc; subst hc
            rename_i hcb
            simp only [astep] at hs
            first
              | (cases hs; done)
              | (split at hs
                 · rename_i b hb; exact absurd hb (hcb b)
                 · cases hs)
        · cases hc
      · cases hp
    · exact .other h' (by simpa using hq) (by simpa using hp) (by simpa using hf) (fun t r x hx => hst ⟨t, r, x, hx⟩)

theorem sub_list {ops : Array Oper} {i : Nat} {o : Oper} {l : List Oper} (h : ∀ j, (o :: l)[j]? = ops[i + j]?) : ops[i]? = some o ∧ ∀ j, l[j]? = ops[i + 1 + j]? :=
  ⟨by have := h 0; simpa using this.symm, fun j => by have := h (j + 1); simpa [Nat.add_assoc, Nat.add_comm 1 j] using this⟩

theorem wpF_pure {C : Ctx} {S : Specs} (hS : SpecsOk C S) {n : Nat} {f : FuncId} {args : List AV} {R : AR} {h : AH} (hf : (S.P f).isSome = true) (hw : wpF C S n f args R h) : ACalls C f args h (fun r h' => R r h' ∧ h' = h) := by
  cases n with
  | zero => simp only [wpF] at hw
  | succ n =>
    simp only [wpF] at hw
    cases hp : S.P f with
    | none => rw [hp] at hf; cases hf
    | some spec =>
      rw [hp] at hw
      simp only at hw
      exact (hS.P f spec hp args _ hw h).mono fun r h' ⟨⟨v, h1, h3⟩, h2⟩ => by subst h1; subst h2; exact ⟨h3, rfl⟩

/-- An operation, and what it does to memory. -/
theorem wpO_eff {C : Ctx} {S : Specs} (hS : SpecsOk C S) {n : Nat} (ih : ∀ c R e h, wpK C S n c R e h → ACall C c e h R) {ops : Array Oper} {base i : Nat} {o : Oper} {K : Env → AH → Prop} {Q : AQ} {e : Env} {h : AH} (ho : ops[i]? = some o) (hw : wpO C S (n + 1) ops base i o K Q e h) :
    AOp C ops base i (fun e' h' => K e' h' ∧ ∃ u, e' = e.put o.dst u ∧ Eff C S o.op (base + i) e h h') Q e h := by
  simp only [wpO] at hw
  unfold AOp
  rw [ho]
  split at hw
  · rename_i h1 h2
    refine ⟨dstB_ok h1, ?_⟩
    rw [h2]
    rw [Env.putS_eq] at hw
    exact ⟨hw, _, rfl, .same⟩
  · rename_i h1 h2
    refine ⟨dstB_ok h1, ?_⟩
    rw [h2]
    simp only
    split at hw
    · rename_i x hx
      rw [hx]
      simp only
      split at hw
      · rename_i t v hv; exact ⟨t, v, hv, hw⟩
      · exact hw.elim
    · exact hw.elim
    · rename_i op hnp hnn
      split
      · rename_i y hy; exact absurd hy (hnp y)
      · rename_i y hy; exact absurd hy (hnn y _)
      · cases hent : Op.enters o.op with
        | none =>
          rw [hent] at hw
          simp only at hw ⊢
          obtain ⟨v, h', hs, hk⟩ := pstep_ok hw
          have hk := spl_ok hk
          rw [Env.putS_eq] at hk
          exact ⟨v, h', hs, hk, v, rfl, astep_eff hs⟩
        | some c =>
          rw [hent] at hw
          simp only at hw ⊢
          have hmono : ∀ (P : AH → Prop) (r : AEnd) (h' : AH), (match r with | .ret v => spl (isGuard ops i) v fun v => K (e.putS o.dst v) h' | .pan v => Q (.panic v) e h' : Prop) ∧ P h' → (match r with
            | .ret v => K (e.put o.dst v) h' ∧ P h'
            | .pan v => Q (.panic v) e h') := by
            intro P r h' ⟨hr, hp⟩
            cases r with
            | ret v => have := spl_ok hr; rw [Env.putS_eq] at this; exact ⟨this, hp⟩
            | pan v => exact hr
          by_cases hpc : pureCall C S o.op e = true
          · -- a call whose value is told
            have hpc' := hpc
            unfold pureCall at hpc'
            rw [hent] at hpc'
            simp only at hpc'
            split at hpc'
            · rename_i f hcf
              split at hpc'
              · rename_i g fi ca hg
                cases n with
                | zero => simp only [wpK] at hw
                | succ n =>
                  simp only [wpK, hcf, hg] at hw
                  split at hw
                  · rename_i args h3 h4
                    split at hw
                    · rename_i hF
                      simp only [Option.some.injEq, AV.func.injEq, Fn.func.injEq] at h3
                      obtain ⟨rfl, rfl, rfl⟩ := h3
                      unfold ACall
                      rw [hcf]
                      refine ⟨_, _, hg, h4, hF, (wpF_pure hS hpc' hw).mono fun r h' hr => ?_⟩
                      have := hmono (fun h' => h' = h) r h' hr
                      cases r with
                      | ret v => exact ⟨this.1, v, rfl, by rw [this.2]; exact .same⟩
                      | pan v => exact this
                    · exact hw.elim
                  · rename_i h3 _; simp at h3
                  · exact hw.elim
              · cases hpc'
            · cases hpc'
          · have hpc : pureCall C S o.op e = false := by simpa using hpc
            have heff : ∀ h', Eff C S o.op (base + i) e h h' := fun h' => by
              unfold Op.enters at hent
              split at hent
              · rename_i c' hc'
                refine .other h' ?_ hpc (by rw [hc']; rfl) (fun t r x hx => by rw [hc'] at hx; cases hx)
                rw [hc']
                split at hent
                · cases hent
                · rename_i hb
                  simp only [Op.quiet]
                  all_goals (split <;> first | rfl | (rename_i hb'; exact absurd hb' (hb _)))
              · cases hent
            refine (ACall.mono (C := C) ?_ (ih _ _ _ _ hw))
            intro r h' hr
            have := hmono (fun _ => True) r h' ⟨hr, trivial⟩
            cases r with
            | ret v => exact ⟨this.1, v, rfl, heff h'⟩
            | pan v => exact this
  · exact hw.elim
end Go.Am
