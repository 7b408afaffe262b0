/- Regions in the abstract machine. -/
import Derived.Test.YtpkljgaokgfpnaaGreatDoorAmCode
import Derived.OrdersIn
set_option linter.unusedVariables false
set_option linter.unusedSimpArgs false
set_option linter.unusedSectionVars false
namespace Go.Am
open Go

theorem run_method {C : Ctx} (hC : CtxOk C) {t : TypeId} {name : String} {f : FuncId} (h : C.M t name = some f) (fuel : Nat) (v : Value) (w : World) :
    (method (fuel + 1) t v name).run C.P w = .ok (f, v) w := by
  have h := hC.M t name f h
  unfold mkM at h
  split at h
  · rename_i i d hi hd
    split at h
    · rename_i m hm
      have ht : (typeInfo t).run C.P w = .ok i w := by simp [typeInfo, hi]
      have hu : (underlying t).run C.P w = .ok d w := by simp [underlying, hd]
      cases hp : m.path.toList with
      | cons a l => rw [hp] at h; simp at h
      | nil =>
        cases hf : m.func with
        | none => rw [hp, hf] at h; simp at h
        | some fp =>
          obtain ⟨g, pr⟩ := fp
          rw [hp, hf] at h
          cases pr <;> cases d <;> simp only [Option.some.injEq, reduceCtorEq] at h <;> subst h <;> simp [method, ht, hm, hp, hf, follow, receiverAt, hu, Go.Place.get]
    · cases h
  · cases h
/-- What an operation calls, if it calls. -/
def ACall (C : Ctx) (c : Call) (e : Env) (h : AH) (R : AR) : Prop :=
  match c.callee with
  | .value f => ∃ v args, aeval C e f = some v ∧ aevals C e c.args.toList = some args ∧ ACallV C v args h R
  | .invoke r name => ∃ t x f args, aeval C e r = some (.iface t x) ∧ aevals C e c.args.toList = some args ∧ C.M t name = some f ∧ (C.F f).isSome = true ∧ ACalls C f (x :: args) h R
  | .builtin _ => False

def Op.enters : Op → Option Call
  | .call c => match c.callee with
    | .builtin _ => none
    | _ => some c
  | _ => none
def dstOk (e : Env) (d : Option Tmp) : Prop := ∀ t, d = some t → t < e.n

/-- **One operation of a region**, its number told: 'K' takes what comes behind it, 'Q' a panic. -/
def AOp (C : Ctx) (ops : Array Oper) (base i : Nat) (K : Env → AH → Prop) (Q : AQ) (e : Env) (h : AH) : Prop :=
  match ops[i]? with
  | none => K e h
  | some o => dstOk e o.dst ∧ match wantedA e o ops with
    | some false => K (e.put o.dst .undef) h
    | some true =>
      match o.op with
      | .panic x => ∃ t v, aeval C e x = some (.iface t v) ∧ Q (.panic (.iface t v)) e h
      | .next x false => ∃ it, aeval C e x = some (.ptr it 0) ∧ nextOk h it ∧ ∀ v h', ANext h it v h' → K (e.put o.dst v) h'
      | op => match Op.enters op with
        | some c => ACall C c e h fun r h' => match r with
          | .ret v => K (e.put o.dst v) h'
          | .pan v => Q (.panic v) e h'
        | none => ∃ v h', astep C op e h (base + i) = some (v, h') ∧ K (e.put o.dst v) h'
    | none => False

theorem AOp.mono {C : Ctx} {ops : Array Oper} {base i : Nat} {K K' : Env → AH → Prop} {Q Q' : AQ} {e : Env} {h : AH} (hk : ∀ e h, K e h → K' e h) (hq : ∀ x e h, Q x e h → Q' x e h) (ha : AOp C ops base i K Q e h) : AOp C ops base i K' Q' e h := by
  unfold AOp at *
  split
  · exact hk _ _ (by simpa [*] using ha)
  · rename_i o ho
    simp only [ho] at ha
    refine ⟨ha.1, ?_⟩
    have ha := ha.2
    split
    · rename_i hw; simp only [hw] at ha; exact hk _ _ ha
    · rename_i hw
      simp only [hw] at ha
      split
      · rename_i x hx; rw [hx] at ha; obtain ⟨t, v, h1, h2⟩ := ha; exact ⟨t, v, h1, hq _ _ _ h2⟩
      · rename_i x hx; rw [hx] at ha; obtain ⟨it, h1, h2, h3⟩ := ha; exact ⟨it, h1, h2, fun v h' hn => hk _ _ (h3 v h' hn)⟩
      · rename_i op hnp hnn
        split at ha
        · rename_i x hx; exact absurd hx (hnp x)
        · rename_i x hx; exact absurd hx (hnn x)
        split
        · rename_i c hc
          simp only [hc] at ha
          have hR : ∀ (R R' : AR), (∀ r h, R r h → R' r h) → ACall C c e h R → ACall C c e h R' := by
            intro R R' hR hc
            unfold ACall at *
            split at hc
            · obtain ⟨v, args, h1, h2, h3⟩ := hc
              refine ⟨v, args, h1, h2, ?_⟩
              unfold ACallV at *
              split at h3
              · exact ⟨h3.1, h3.2.mono hR⟩
              · rename_i id
                obtain ⟨pend, n, env, ps, assign, body, dfr, g1, g2, g3, g4⟩ := h3
                refine ⟨pend, n, env, ps, assign, body, dfr, g1, g2, g3, g4.mono ?_⟩
                intro x e₁ h₁ hx
                cases x <;> try exact hx
                obtain ⟨pend₁, n₁, env₁, ps₁, as₁, bd₁, dfr₁, hx1, hx2⟩ := hx
                refine ⟨pend₁, n₁, env₁, ps₁, as₁, bd₁, dfr₁, hx1, hx2.mono ?_⟩
                rintro x e₂ h₂ ⟨st, pend, n, env, ps, assign, body, dfr, k1, k2⟩
                refine ⟨st, pend, n, env, ps, assign, body, dfr, k1, ?_⟩
                cases x <;> first | exact hR _ _ k2 | exact k2
              · exact h3.elim
            · obtain ⟨t, x, f, args, h1, h2, h3, h4, h5⟩ := hc
              exact ⟨t, x, f, args, h1, h2, h3, h4, h5.mono hR⟩
            · exact hc.elim
          refine hR _ _ ?_ ha
          rintro (v | v) h' hr
          · exact hk _ _ hr
          · exact hq _ _ _ hr
        · rename_i hc
          simp only [hc] at ha
          obtain ⟨v, h', h1, h2⟩ := ha
          exact ⟨v, h', h1, hk _ _ h2⟩
    · rename_i hw; simp only [hw] at ha

theorem VRelL.toList_map {μ : Mu} {vs : List AV} {xs : Array Operand} {ρ : Operand → Value} (h : VRelL μ vs (xs.toList.map ρ)) : VRelL μ vs (xs.map ρ).toList := by simpa using h

/-- What follows a call. -/
theorem upon_call {C : Ctx} {F : Fence} (hF : F = Fence.wide ∨ ∃ l, F = Fence.wide.inRound l) {o : Oper} {μ : Mu} {h : AH} {w : World} {R : AR} {a : Act} {KK : Act → World → Prop} {QQ : Exit → Act → World → Prop}
    (hK : ∀ μ' w' h' v V, Post (· < h.next) μ h w μ' h' w' → VRel μ' v V → R (.ret v) h' → KK (a.put o.dst V) w')
    (hQ : ∀ μ' w' h' v V, Post (· < h.next) μ h w μ' h' w' → VRel μ' v V → R (.pan v) h' → QQ (.panic [{ v := V, recovered := false }]) a w')
    {e : Ending} {w' : World} (hr : RAfter μ h w R e w') : (fun (x : Ending) (y : World) => match x, y with
      | .returned v, w'' => KK (a.put o.dst v) w''
      | .panicked chain, w'' => QQ (.panic chain) a w''
      | .outgrown, _ => LetsOut QQ) e w' := by
  obtain ⟨x, h', μ', h1, h2, h3⟩ := hr
  cases x with
  | ret v => obtain ⟨V, rfl, hv⟩ := h1; exact hK μ' w' h' v V h2 hv h3
  | pan v => obtain ⟨V, rfl, hv⟩ := h1; exact hQ μ' w' h' v V h2 hv h3

theorem aop_rel {C : Ctx} (hC : CtxOk C) {F : Fence} (hF : F = Fence.wide ∨ ∃ l, F = Fence.wide.inRound l) {ops : Array Oper} {base i : Nat} {K : Env → AH → Prop} {Q : AQ} {e : Env} {h : AH} (ha : AOp C ops base i K Q e h)
    {μ : Mu} {w : World} {a : Act} (hr : Rel μ h w) (hG : GOk C μ) (he : ERel μ e.v e.n a.tmps) (hd : DRel μ e.ds a.defers) (hid : i < ops.size → μ.obj (base + i) = none) (hlt : i < ops.size → base + i < h.next)
    {KK : Act → World → Prop} {QQ : Exit → Act → World → Prop}
    (hK : ∀ μ' w' a' e' h', Post (fun id => id ≠ base + i ∧ id < h.next) μ h w μ' h' w' → ERel μ' e'.v e'.n a'.tmps → DRel μ' e'.ds a'.defers → K e' h' → KK a' w')
    (hQ : ∀ μ' w' e' h' v V, Post (fun id => id ≠ base + i ∧ id < h.next) μ h w μ' h' w' → ERel μ' e'.v e'.n a.tmps → DRel μ' e'.ds a.defers → VRel μ' v V → Q (.panic v) e' h' → QQ (.panic [{ v := V, recovered := false }]) a w') :
    wpOpIn F 0 C.P ops QQ i KK a w := by
  have hfn : ∀ f, F.fn f := fun f => by rcases hF with rfl | ⟨l, rfl⟩ <;> trivial
  have hdep : F.depth.isSome = true → 1 ≤ 0 := fun hx => by rcases hF with rfl | ⟨l, rfl⟩ <;> cases hx
  unfold AOp at ha
  unfold wpOpIn
  cases ho : ops[i]? with
  | none => rw [ho] at ha; exact hK μ w a e h (Post.refl _ hr) he hd ha
  | some o =>
    rw [ho] at ha
    obtain ⟨hdst, ha⟩ := ha
    simp only at ha ⊢
    have hlt' : base + i < h.next := hlt (Array.getElem?_eq_some_iff.1 ho).1
    have hid := hid (Array.getElem?_eq_some_iff.1 ho).1
    have hput : ∀ {μ' : Mu} {x : AV} {V : Value}, μ.le μ' → VRel μ' x V → ERel μ' (e.put o.dst x).v (e.put o.dst x).n (a.put o.dst V).tmps := fun hle hx => ERel.put (he.mono hle) hx hdst
    have hds : ∀ (x : AV), (e.put o.dst x).ds = e.ds := fun x => by unfold Env.put; split <;> rfl
    have hadf : ∀ (V : Value), (a.put o.dst V).defers = a.defers := fun V => by unfold Act.put; split <;> rfl
    have hdput : ∀ {μ' : Mu} {x : AV} {V : Value}, μ.le μ' → DRel μ' (e.put o.dst x).ds (a.put o.dst V).defers := fun hle => by rw [hds, hadf]; exact hd.mono hle
    cases hw : wantedA e o ops with
    | none => rw [hw] at ha; exact ha.elim
    | some b =>
      rw [hw] at ha
      rw [wantedA_rel he hw]
      cases b with
      | false =>
        simp only [Bool.false_eq_true, if_false] at ha ⊢
        exact ⟨fun f _ => hfn f, hK μ w _ _ _ (Post.refl _ hr) (hput (Mu.le.refl μ) (by simp [VRel, VRelL, Go.undef])) (hdput (x := .undef) (V := Go.undef) (Mu.le.refl μ)) ha⟩
      | true =>
        simp only [if_true] at ha ⊢
        refine ⟨fun f _ => hfn f, ?_⟩
        have hstep : ∀ {v h'}, (∀ c, o.op ≠ .defer c) → astep C o.op e h (base + i) = some (v, h') → K (e.put o.dst v) h' → o.uponIn F 0 C.P a KK QQ ((o.semAt F.round a.eval).run C.P w) := by
          intro v h' hnd h1 h2
          rw [Oper.semAt_eq _ _ _ hnd]
          rcases astep_rel hC hr hG hid hlt' (lo := fun id => id ≠ base + i ∧ id < h.next) (by simp) he o h1 with ⟨V, w', μ', g1, g2, g3⟩ | ⟨w', μ', g1, g2, g3⟩
          · rw [g1, Oper.uponIn_value]
            exact hK μ' w' _ _ _ g3 (hput g3.le g2) (hdput (x := v) g3.le) h2
          · rw [g1, Oper.uponIn_skip]
            subst g2
            exact hK μ' w' _ _ _ g3 (hput g3.le (by simp [VRel, VRelL, Go.undef])) (hdput (x := .undef) g3.le) h2
        split at ha
        · rename_i x hx
          obtain ⟨t, v, h1, h2⟩ := ha
          have hv := aeval_rel hG he h1
          have hv' := hv
          simp only [VRel] at hv
          obtain ⟨V, hv1, hv2⟩ := hv
          have hrun : (o.semAt F.round a.eval).run C.P w = .halt (.panic (a.eval x)) w := by
            rw [Oper.semAt_eq _ _ _ (by intro c hc; rw [hx] at hc; cases hc)]
            simp [execOp, hx, hv1, Instr.panic, goPanic]
          rw [hrun, Oper.uponIn_panic]
          exact hQ μ w e h _ _ (Post.refl _ hr) he hd hv' h2
        · rename_i x hx
          obtain ⟨it, h1, h2, h3⟩ := ha
          have hv := aeval_rel hG he h1
          rw [Oper.semAt_eq _ _ _ (by intro c hc; rw [hx] at hc; cases hc)]
          obtain ⟨v, h', V, w', g1, g2, g3, g4⟩ := anext_rel (lo := fun id => id ≠ base + i ∧ id < h.next) hC hr h2 hv o.type
          have hexec : (execOp a.eval o).run C.P w = .ok (.value V) w' := by simp [execOp, hx, g1]
          rw [hexec, Oper.uponIn_value]
          exact hK μ w' _ _ _ g4 (hput (Mu.le.refl μ) g3) (hdput (x := v) (Mu.le.refl μ)) (h3 v h' g2)
        · rename_i op hnp hnn
          cases hent : Op.enters o.op with
          | none =>
            rw [hent] at ha
            obtain ⟨v, h', h1, h2⟩ := ha
            refine hstep ?_ h1 h2
            intro c hc; rw [hc] at h1; simp [astep] at h1
          | some c =>
            rw [hent] at ha
            simp only at ha
            have hop : o.op = .call c := by
              generalize o.op = op at *
              unfold Op.enters at hent
              split at hent
              · split at hent
                · cases hent
                · injection hent with hent; subst hent; rfl
              · cases hent
            rw [Oper.semAt_eq _ _ _ (by intro c hc; rw [hop] at hc; cases hc)]
            have hexec : (execOp a.eval o).run C.P w = (do let d ← resolve a.eval c o.type; invoke d.target d.args : Sem Next).run C.P w := by simp [execOp, hop]
            rw [hexec]
            have hlow : ∀ {μ' w' h'}, Post (· < h.next) μ h w μ' h' w' → Post (fun id => id ≠ base + i ∧ id < h.next) μ h w μ' h' w' := fun hp => hp.lower fun id hid => hid.2
            have K1 : ∀ μ' w' h' v V, Post (· < h.next) μ h w μ' h' w' → VRel μ' v V → (match AEnd.ret v with
              | .ret v => K (e.put o.dst v) h'
              | .pan v => Q (.panic v) e h') → KK (a.put o.dst V) w' := fun μ' w' h' v V hp hv hk => hK μ' w' _ _ _ (hlow hp) (hput hp.le hv) (hdput (x := v) hp.le) hk
            have Q1 : ∀ μ' w' h' v V, Post (· < h.next) μ h w μ' h' w' → VRel μ' v V → (match AEnd.pan v with
              | .ret v => K (e.put o.dst v) h'
              | .pan v => Q (.panic v) e h') → QQ (.panic [{ v := V, recovered := false }]) a w' := fun μ' w' h' v V hp hv hk => hQ μ' w' _ _ _ _ (hlow hp) (he.mono hp.le) (hd.mono hp.le) hv hk
            unfold ACall at ha
            split at ha
            · rename_i f hf
              obtain ⟨v, args, h1, h2, h3⟩ := ha
              have hv := aeval_rel hG he h1
              have has := VRelL.toList_map (aevals_rel hG he h2)
              obtain ⟨fn, fi, ca, e1, hcase⟩ := acallV_rel hC h3 hr hG hv has F hF
              have hres := resolve_value (P := C.P) hf o.type w (ρ := a.eval) e1
              rcases hcase with ⟨f', A, g1, g2⟩ | ⟨l, f', tm, assign, body, g1, g2⟩
              · simp only [Sem.run_bind, hres, Result.andThen, g1]
                exact ⟨hdep, g2.mono fun e' w' hh => upon_call (C := C) hF (o := o) K1 Q1 hh⟩
              · simp only [Sem.run_bind, hres, Result.andThen, g1]
                exact ⟨hdep, g2.mono fun e' w' hh => upon_call (C := C) hF (o := o) K1 Q1 hh⟩
            · rename_i r name hf
              obtain ⟨t, x, f, args, h1, h2, h3, h4, h5⟩ := ha
              have hv := aeval_rel hG he h1
              simp only [VRel] at hv
              obtain ⟨X, hv1, hv2⟩ := hv
              have has := VRelL.toList_map (aevals_rel hG he h2)
              have hm := run_method hC h3 (C.P.types.size + 99) X w
              have hrun : (do let d ← resolve a.eval c o.type; invoke d.target d.args : Sem Next).run C.P w = .ok (.enter f (#[X] ++ c.args.map a.eval)) w := by
                have hcf := run_callFunc hC h4 (#[X] ++ c.args.map a.eval) w
                have hext : (#[Value.iface t X] ++ c.args.map a.eval).extract 1 (#[Value.iface t X] ++ c.args.map a.eval).size = c.args.map a.eval := by
                  apply Array.ext'
                  rw [Array.toList_extract, Array.toList_append]
                  simp [List.extract, List.take_of_length_le]
                have h0 : (#[Value.iface t X] ++ c.args.map a.eval)[0]? = some (.iface t X) := by simp [Array.getElem?_append]
                have hres : (resolve a.eval c o.type).run C.P w = .ok { target := .fn (.method name) #[], args := #[Value.iface t X] ++ c.args.map a.eval } w := by
                  simp [resolve, hf, hv1]
                simp only [Sem.run_bind, hres, Result.andThen, invoke, h0, hext, callMethod, run_program]
                rw [show C.P.types.size + Made.depth = C.P.types.size + 99 + 1 from rfl, hm]
                exact hcf
              rw [hrun]
              refine ⟨hdep, ?_⟩
              have hcalls := h5 μ w (#[X] ++ c.args.map a.eval) hr hG (by
                simp only [Array.toList_append, List.cons_append, List.nil_append]
                simp only [VRelL]
                exact ⟨X, _, rfl, hv2, has⟩)
              have hcalls' : CallsIn F 0 C.P f (#[X] ++ c.args.map a.eval) w (RAfter μ h w (fun r h' => match r with
                | .ret v => K (e.put o.dst v) h'
                | .pan v => Q (.panic v) e h')) := by
                rcases hF with rfl | ⟨l, rfl⟩
                · exact hcalls
                · exact hcalls
              exact hcalls'.mono fun e' w' hh => upon_call (C := C) hF (o := o) K1 Q1 hh
            · exact ha.elim

/-! ### Regions whose operations keep their order -/
def AOps (C : Ctx) (ops : Array Oper) (base : Nat) (Q : AQ) : List Nat → Env → AH → Prop
  | [] => fun e h => Q .normal e h
  | i :: l => AOp C ops base i (AOps C ops base Q l) Q

theorem fenceOf_cases (μ : Mu) (ro : Option Nat) : fenceOf μ ro = Fence.wide ∨ ∃ l, fenceOf μ ro = Fence.wide.inRound l := by
  unfold fenceOf; split
  · exact .inl rfl
  · split
    · exact .inr ⟨_, rfl⟩
    · exact .inl rfl

theorem aops_rel {C : Ctx} (hC : CtxOk C) {F : Fence} (hF : F = Fence.wide ∨ ∃ l, F = Fence.wide.inRound l) {ops : Array Oper} {base : Nat} {Q : AQ} {μ₀ : Mu} {h₀ : AH} {w₀ : World} (hG : GOk C μ₀) (hb : h₀.next ≤ base) :
    ∀ (l : List Nat) {e : Env} {h : AH}, AOps C ops base Q l e h → ∀ {μ : Mu} {w : World} {a : Act}, l.Nodup → Post (· < h₀.next) μ₀ h₀ w₀ μ h w → ERel μ e.v e.n a.tmps → DRel μ e.ds a.defers → (∀ k ∈ l, k < ops.size → μ.obj (base + k) = none) → base + ops.size ≤ h.next →
      wpOpsIn F 0 C.P ops (AAfter μ₀ h₀ w₀ Q) l a w
  | [], e, h, ha, μ, w, a, _, hp, he, hd, _, _ => ⟨.normal, e, h, μ, rfl, hp, he, hd, ha⟩
  | i :: l, e, h, ha, μ, w, a, hn, hp, he, hd, hfr, hnx => by
    rw [wpOpsIn_cons]
    refine aop_rel hC hF ha hp.rel (hG.mono hp.le) he hd (hfr i (by simp)) (fun hi => by omega) ?_ ?_
    · intro μ' w' a' e' h' hp' he' hd' hk
      refine aops_rel hC hF hG hb l hk (List.nodup_cons.1 hn).2 (hp.trans (hp'.lower fun id hid => ⟨by omega, Nat.lt_of_lt_of_le hid hp.next⟩)) he' hd' ?_ (Nat.le_trans hnx hp'.next)
      intro k hk' hks
      have hne : k ≠ i := fun x => (List.nodup_cons.1 hn).1 (x ▸ hk')
      rw [hp'.res (base + k) ⟨by omega, by omega⟩]; exact hfr k (List.mem_cons_of_mem _ hk') hks
    · intro μ' w' e' h' v V hp' he' hd' hv hq
      exact ⟨.panic v, e', h', μ', ⟨V, rfl, hv⟩, hp.trans (hp'.lower fun id hid => ⟨by omega, Nat.lt_of_lt_of_le hid hp.next⟩), he', hd', hq⟩
theorem asem_region {C : Ctx} (hC : CtxOk C) {ro : Option Nat} {id : Nat} {ops : Array Oper} {Q : AQ} {e : Env} {h : AH} (ha : AOps C ops h.next Q (List.range ops.size) e (h.up (h.next + ops.size))) :
    ASem C ro (.region id ops false) Q e h := by
  intro μ w a hr hG hro he hd
  refine wpIn_region ?_
  refine aops_rel hC (fenceOf_cases μ ro) hG (Nat.le_refl _) _ ha (List.nodup_range) (Post.up _ hr (by omega)) he hd ?_ (Nat.le_refl _)
  intro k _ _
  cases hx : μ.obj (h.next + k) with
  | none => rfl
  | some p => exact absurd (hr.dom _ _ hx) (by omega)
end Go.Am
