/- The abstract machine, run. -/
import Derived.Test.YtpkljgaokgfpnaaGreatDoorAmSame
set_option linter.unusedVariables false
set_option linter.unusedSimpArgs false
namespace Go.Am
open Go

/-- 'Env.put', its parts taken at once (the kernel then walks no chain of puts). -/
def Env.putS (e : Env) (d : Option Tmp) (x : AV) : Env :=
  match e with
  | ⟨n, v, ds⟩ => match d with
    | some t => ⟨n, v.put t x, ds⟩
    | none => ⟨n, v, ds⟩
theorem Env.putS_eq (e : Env) (d : Option Tmp) (x : AV) : e.putS d x = e.put d x := by cases e; cases d <;> rfl
abbrev Orac := FuncId → List AV → AH → Option (AEnd × AH)
def dstB (e : Env) : Option Tmp → Bool
  | some t => Nat.blt t e.n
  | none => true
/-- The value of a quiet operation. -/
def evQ (C : Ctx) (ops : Array Oper) (o : Oper) (e : Env) (h : AH) : Option AV :=
  match dstB e o.dst, Op.quiet o.op, wantedA e o ops with
  | true, true, some false => some .undef
  | true, true, some true => match astep C o.op e h 0 with
    | some (v, _) => some v
    | none => none
  | _, _, _ => none
def evW (C : Ctx) (ops : Array Oper) (e : Env) (h : AH) : List (Nat × Oper × AV) → Bool
  | [] => true
  | p :: wt => (match evQ C ops p.2.1 e h with | some v => AV.same v p.2.2 | none => false) && evW C ops e h wt
def selfB (ops : Array Oper) (o : Oper) (wt : List (Nat × Oper × AV)) : Bool :=
  match o.dst with
  | none => true
  | some d => !(o.looksAt ops).contains d && wt.all fun p => !(p.2.1.looksAt ops).contains d
def afterCall (ops : Array Oper) (o : Oper) (e : Env) : Option (AEnd × AH) → Option (AX × Env × AH)
  | some (.ret v, h') => some (.normal, e.putS o.dst v, h')
  | some (.pan v, h') => some (.panic v, e, h')
  | none => none
def afterStep (o : Oper) (e : Env) : Option (AV × AH) → Option (AX × Env × AH)
  | some (v, h') => some (.normal, e.putS o.dst v, h')
  | none => none
def afterBody (C : Ctx) (fn : Func) : Option (AX × Env × AH) → Option (AEnd × AH)
  | some (.normal, e', h') | some (.ret, e', h') => match ashut e'.ds h' with
    | some h'' => match aresults C e' h'' fn with
      | some v => some (.ret v, h'')
      | none => none
    | none => none
  | some (.panic v, e', h') => match ashut e'.ds h' with
    | some h'' => some (.pan v, h'')
    | none => none
  | _ => none
def afterRange (lp : Nat) (e' : Env) : Option (AEnd × AH) → Option (AX × Env × AH)
  | some (.pan v, h2) => some (.panic v, e', h2)
  | some (.ret _, h2) => match h2.get lp with
    | some (.loop .busy _ _ _ _ _ _ _) => none
    | some (.loop _ none _ _ _ _ _ _) => some (.normal, e', h2.del lp)
    | some (.loop _ (some .ret) _ _ _ _ _ _) => some (.ret, e', h2.del lp)
    | some (.loop _ (some (.exit i)) _ _ _ _ _ _) => some (.exit i, e', h2.del lp)
    | _ => none
  | none => none
def afterRound (id : Nat) : Option (AX × Env × AH) → Option (AEnd × AH)
  | some (x, _, h2) => match h2.get id with
    | some (.loop st pend n env ps assign body dfr) => match x with
      | .normal => some (.ret (.bool true), h2.set id (.loop .ready none n env ps assign body dfr))
      | .ret => some (.ret (.bool false), h2.set id (.loop .done (some .ret) n env ps assign body dfr))
      | .exit i => some (.ret (.bool false), h2.set id (.loop .done (some (.exit i)) n env ps assign body dfr))
      | .panic _ => none
    | _ => none
  | none => none

mutual
def evC (C : Ctx) (O : Orac) : Nat → Option Nat → Code → Env → AH → Option (AX × Env × AH)
  | 0, _, _, _, _ => none
  | n + 1, ro, c, e, h =>
    match c with
    | .skip => some (.normal, e, h)
    | .label _ => some (.normal, e, h)
    | .exit i => some (.exit i, e, h)
    | .ret => some (.ret, e, h)
    | .seq x y => match evC C O n ro x e h with
      | some (.normal, e', h') => evC C O n ro y e' h'
      | r => r
    | .cond c x y => match aeval C e c with
      | some (.bool b) => evC C O n ro (if b then x else y) e h
      | _ => none
    | .block id c => match evC C O n ro c e h with
      | some (.exit i, e', h') => some (if i = id then .normal else .exit i, e', h')
      | r => r
    | .scope c => evC C O n ro c e h
    | .loop c => match evC C O n ro c e h with
      | some (.normal, e', h') => evC C O n ro (.loop c) e' h'
      | r => r
    | .region _ ops false => evL C O n ops h.next 0 ops.toList e (h.up (h.next + ops.size))
    | .region _ ops true => match evD C O n ops h.next ops.size (Array.replicate ops.size false) [] e (h.up (h.next + ops.size)) with
      | some (e', h') => some (.normal, e', h')
      | none => none
    | .rangeFunc g ps assign body => match aeval C e g, aenter ro ps assign body e h with
      | some (.func (.func f) fi ca), some (lp, e', h1) => match (C.F f).isSome with
        | true => afterRange lp e' (evF C O n f (fi ++ [.yield lp] ++ ca) h1)
        | false => none
      | _, _ => none
    | _ => none
termination_by structural x => x
def evL (C : Ctx) (O : Orac) : Nat → Array Oper → Nat → Nat → List Oper → Env → AH → Option (AX × Env × AH)
  | 0, _, _, _, _, _, _ => none
  | n + 1, ops, base, i, l, e, h => match l with
    | [] => some (.normal, e, h)
    | o :: l => match evO C O n ops base i o e h with
      | some (.normal, e', h') => evL C O n ops base (i + 1) l e' h'
      | r => r
termination_by structural x => x
def evD (C : Ctx) (O : Orac) : Nat → Array Oper → Nat → Nat → Array Bool → List (Nat × Oper × AV) → Env → AH → Option (Env × AH)
  | 0, _, _, _, _, _, _, _ => none
  | n + 1, ops, base, f, listed, wt, e, h =>
    match f with
    | 0 => match Region.ready .any ops listed with
      | [] => some (e, h)
      | _ => none
    | f + 1 => match Region.ready .any ops listed with
      | [] => some (e, h)
      | [j] => match ops[j]? with
        | some o => match evO C O n ops base j o e h with
          | some (.normal, e', h') => match evW C ops e' h' (dropW ops j wt) with
            | true => evD C O n ops base f (listed.setIfInBounds j true) (dropW ops j wt) e' h'
            | false => none
          | _ => none
        | none => none
      | j :: js => match firstQuiet ops (j :: js) with
        | some i => match ops[i]? with
          | some o => match Region.free .any ops listed i && selfB ops o wt, evQ C ops o e h with
            | true, some v => evD C O n ops base f (listed.setIfInBounds i true) ((i, o, v) :: wt) (e.putS o.dst v) h
            | _, _ => none
          | none => none
        | none => match ops[j]? with
          | some o => match freshB ops listed wt j o && selfB ops o wt && dstB e o.dst, wantedA e o ops, astep C o.op e h (base + j) with
            | true, some true, some (v, h') => match h'.get (base + j) with
              | some x => evD C O n ops base f (listed.setIfInBounds j true) wt (e.putS o.dst v) (h.set (base + j) x)
              | none => none
            | _, _, _ => match js, Op.enters o.op with
              | [i], some c => match ops[i]? with
                | some oi => match noYield C c e && Op.fresh oi.op && oi.apart ops o && dstB e oi.dst && (h.get (base + i)).isNone && Nat.blt (base + i) h.next &&
                      decide (Region.ready .any ops (listed.setIfInBounds j true) = [i]) && decide (Region.ready .any ops (listed.setIfInBounds i true) = [j]) && Nat.ble 1 f, wantedA e oi ops, astep C oi.op e h (base + i) with
                  | true, some true, some (v, h1) => match h1.get (base + i) with
                    | some x => match evW C ops (e.putS oi.dst v) (h.set (base + i) x) (dropW ops i wt) with
                      | true => match evO C O n ops base j o e h with
                        | some (.normal, e', h') => match evW C ops e' h' (dropW ops j wt) && evW C ops (e'.putS oi.dst v) (h'.set (base + i) x) (dropW ops i (dropW ops j wt)) with
                          | true => evD C O n ops base (f - 1) ((listed.setIfInBounds j true).setIfInBounds i true) (dropW ops i (dropW ops j wt)) (e'.putS oi.dst v) (h'.set (base + i) x)
                          | false => none
                        | _ => none
                      | false => none
                    | none => none
                  | _, _, _ => none
                | none => none
              | _, _ => none
          | none => none
termination_by structural x => x
def evO (C : Ctx) (O : Orac) : Nat → Array Oper → Nat → Nat → Oper → Env → AH → Option (AX × Env × AH)
  | 0, _, _, _, _, _, _ => none
  | n + 1, ops, base, i, o, e, h =>
    match dstB e o.dst, wantedA e o ops with
    | true, some false => some (.normal, e.putS o.dst .undef, h)
    | true, some true => match o.op with
      | .panic x => match aeval C e x with
        | some (.iface t v) => some (.panic (.iface t v), e, h)
        | _ => none
      | .next _ _ => none
      | op => match Op.enters op with
        | some c => afterCall ops o e (evK C O n c e h)
        | none => afterStep o e (astep C op e h (base + i))
    | _, _ => none
termination_by structural x => x
def evK (C : Ctx) (O : Orac) : Nat → Call → Env → AH → Option (AEnd × AH)
  | 0, _, _, _ => none
  | n + 1, c, e, h => match c.callee with
    | .value f => match aeval C e f, aevals C e c.args.toList with
      | some (.func (.func f) fi ca), some args => match (C.F f).isSome with
        | true => evF C O n f (fi ++ args ++ ca) h
        | false => none
      | some (.yield id), some args => evY C O n id args h
      | _, _ => none
    | .invoke r name => match aeval C e r, aevals C e c.args.toList with
      | some (.iface t x), some args => match C.M t name with
        | some f => match (C.F f).isSome with
          | true => evF C O n f (x :: args) h
          | false => none
        | none => none
      | _, _ => none
    | .builtin _ => none
termination_by structural x => x
def evF (C : Ctx) (O : Orac) : Nat → FuncId → List AV → AH → Option (AEnd × AH)
  | 0, _, _, _ => none
  | n + 1, f, args, h =>
    match O f args h with
    | some r => some r
    | none => match C.F f with
      | some fn => match fn.body with
        | some c => match Nat.ble args.length fn.ntmps with
          | true => afterBody C fn (evC C O n none c (envOf args fn.ntmps) h)
          | false => none
        | none => none
      | none => none
termination_by structural x => x
def evY (C : Ctx) (O : Orac) : Nat → Nat → List AV → AH → Option (AEnd × AH)
  | 0, _, _, _ => none
  | m + 1, id, args, h =>
    match h.get id with
    | some (.loop .ready pend n env ps assign body dfr) => match Nat.beq args.length ps.size && ps.toList.all (Nat.blt · n) with
      | true => match evC C O m (some id) assign ⟨n, envWith ps.toList args env, []⟩ h with
        | some (.normal, e1, h1) => match h1.get id with
          | some (.loop .ready pend₁ n₁ env₁ ps₁ as₁ bd₁ dfr₁) => afterRound id (evC C O m (some id) body e1 (h1.set id (.loop .busy pend₁ n₁ env₁ ps₁ as₁ bd₁ dfr₁)))
          | _ => none
        | _ => none
      | false => none
    | _ => none
termination_by structural x => x
end
theorem dstB_ok {e : Env} {d : Option Tmp} (h : dstB e d = true) : dstOk e d := by
  intro t ht; subst ht; simpa [dstB] using h
theorem evQ_ok {C : Ctx} {ops : Array Oper} {o : Oper} {e : Env} {h : AH} {v : AV} (hv : evQ C ops o e h = some v) : QV C ops o v e h := by
  unfold evQ at hv
  split at hv
  · rename_i h1 h2 h3
    injection hv with hv; subst hv
    exact ⟨dstB_ok h1, h2, by rw [h3]⟩
  · rename_i h1 h2 h3
    split at hv
    · rename_i x hh hs
      injection hv with hv; subst hv
      exact ⟨dstB_ok h1, h2, by rw [h3]; exact (astep_quiet h2 hs 0).2⟩
    · cases hv
  · cases hv
theorem evW_ok {C : Ctx} {ops : Array Oper} {e : Env} {h : AH} : ∀ {wt : List (Nat × Oper × AV)}, evW C ops e h wt = true → ∀ p ∈ wt, QV C ops p.2.1 p.2.2 e h
  | [], _, p, hp => by cases hp
  | q :: wt, hw, p, hp => by
    simp only [evW, Bool.and_eq_true] at hw
    rcases List.mem_cons.1 hp with rfl | hp
    · have h1 := hw.1
      split at h1
      · rename_i v hv; rw [AV.same_eq h1] at hv; exact evQ_ok hv
      · cases h1
    · exact evW_ok hw.2 p hp
theorem selfB_ok {ops : Array Oper} {o : Oper} {wt : List (Nat × Oper × AV)} (h : selfB ops o wt = true) : ∀ d, o.dst = some d → d ∉ o.looksAt ops ∧ ∀ p ∈ wt, d ∉ p.2.1.looksAt ops := by
  intro d hd
  simp only [selfB, hd, Bool.and_eq_true, Bool.not_eq_true', List.all_eq_true] at h
  exact ⟨by simpa using h.1, fun p hp => by simpa using h.2 p hp⟩

structure EvOk (C : Ctx) (O : Orac) (n : Nat) : Prop where
  c : ∀ ro c e h x e' h' (Q : AQ), evC C O n ro c e h = some (x, e', h') → Q x e' h' → ASem C ro c Q e h
  l : ∀ ops base i l e h x e' h' (Q : AQ), (∀ j, l[j]? = ops[i + j]?) → evL C O n ops base i l e h = some (x, e', h') → Q x e' h' → AOps C ops base Q (List.range' i l.length) e h
  d : ∀ ops base f listed wt e h e' h' (K : Env → AH → Prop), evD C O n ops base f listed wt e h = some (e', h') → K e' h' → ACanon C ops base K f listed wt e h
  o : ∀ ops base i o e h x e' h' (K : Env → AH → Prop) (Q : AQ), ops[i]? = some o → evO C O n ops base i o e h = some (x, e', h') → (x = .normal → K e' h') → (∀ v, x = .panic v → Q x e' h') → AOp C ops base i K Q e h
  k : ∀ c e h r h' (R : AR), evK C O n c e h = some (r, h') → R r h' → ACall C c e h R
  f : ∀ f args h r h' (R : AR), evF C O n f args h = some (r, h') → R r h' → ACalls C f args h R
  y : ∀ id args h r h' (R : AR), evY C O n id args h = some (r, h') → R r h' → AYield C id args h R

theorem evOk {C : Ctx} (hC : CtxOk C) (hm : C.P.follows .mixedOrders = true) {O : Orac} (hO : ∀ f args h r h' (R : AR), O f args h = some (r, h') → R r h' → ACalls C f args h R) : ∀ n, EvOk C O n
  | 0 => by
    refine ⟨?_, ?_, ?_, ?_, ?_, ?_, ?_⟩ <;> intros <;> simp only [evC, evL, evD, evO, evK, evF, evY] at * <;> contradiction
  | n + 1 => by
    have ih := evOk hC hm hO n
    refine ⟨?_, ?_, ?_, ?_, ?_, ?_, ?_⟩
    · intro ro c e h x e' h' Q hev hq
      cases c <;> (try simp only [evC] at hev) <;> try (cases hev; done)
      case skip => simp only [Option.some.injEq, Prod.mk.injEq] at hev; obtain ⟨rfl, rfl, rfl⟩ := hev; exact asem_skip hq
      case label => simp only [Option.some.injEq, Prod.mk.injEq] at hev; obtain ⟨rfl, rfl, rfl⟩ := hev; exact asem_label hq
      case exit => simp only [Option.some.injEq, Prod.mk.injEq] at hev; obtain ⟨rfl, rfl, rfl⟩ := hev; exact asem_exit hq
      case ret => simp only [Option.some.injEq, Prod.mk.injEq] at hev; obtain ⟨rfl, rfl, rfl⟩ := hev; exact asem_ret hq
      case seq a b =>
        refine asem_seq ?_
        split at hev
        · rename_i e1 h1 h2
          exact ih.c _ _ _ _ _ _ _ _ h2 (ih.c _ _ _ _ _ _ _ _ hev hq)
        · rename_i r hne
          refine ih.c _ _ _ _ _ _ _ _ hev ?_
          cases x <;> first | exact hq | exact absurd hev (hne _ _)
      case cond c a b =>
        split at hev
        · rename_i b hb
          exact asem_cond hb (ih.c _ _ _ _ _ _ _ _ hev hq)
        · cases hev
      case block id c =>
        refine asem_block ?_
        split at hev
        · rename_i i e1 h1 h2
          simp only [Option.some.injEq, Prod.mk.injEq] at hev
          obtain ⟨h3, rfl, rfl⟩ := hev
          refine ih.c _ _ _ _ _ _ _ _ h2 ?_
          simp only [AX.block]
          split at h3 <;> simp_all
        · rename_i r hne
          refine ih.c _ _ _ _ _ _ _ _ hev ?_
          cases x <;> first | exact hq | exact absurd hev (hne _ _ _)
      case scope c => exact asem_scope (ih.c _ _ _ _ _ _ _ _ hev hq)
      case loop c =>
        refine asem_loop ?_
        split at hev
        · rename_i e1 h1 h2
          exact ih.c _ _ _ _ _ _ _ _ h2 (ih.c _ _ _ _ _ _ _ _ hev hq)
        · rename_i r hne
          refine ih.c _ _ _ _ _ _ _ _ hev ?_
          cases x <;> first | exact hq | exact absurd hev (hne _ _)
      case region id ops dr =>
        cases dr with
        | false =>
          simp only [evC] at hev
          refine asem_region hC ?_
          have := ih.l ops h.next 0 ops.toList e _ x e' h' Q (by intro j; simp) hev hq
          rwa [Array.length_toList, ← List.range_eq_range'] at this
        | true =>
          simp only [evC] at hev
          cases hd : evD C O n ops h.next ops.size (Array.replicate ops.size false) [] e (h.up (h.next + ops.size)) with
          | none => simp only [hd] at hev; cases hev
          | some p =>
            obtain ⟨e1, h1⟩ := p
            simp only [hd, Option.some.injEq, Prod.mk.injEq] at hev
            obtain ⟨rfl, rfl, rfl⟩ := hev
            exact asem_draw hC hm (ih.d _ _ _ _ _ _ _ _ _ _ hd hq)
      case rangeFunc g ps assign body =>
        split at hev
        · rename_i f fi ca lp e1 h1 hg hen
          split at hev
          · rename_i hf
            refine asem_rangeFunc hC hg hf hen ?_
            cases hr : evF C O n f (fi ++ [.yield lp] ++ ca) h1 with
            | none => rw [hr] at hev; simp [afterRange] at hev
            | some rh =>
              obtain ⟨r, h2⟩ := rh
              rw [hr] at hev
              refine ih.f _ _ _ _ _ _ hr ?_
              cases r with
              | pan v => simp only [afterRange, Option.some.injEq, Prod.mk.injEq] at hev; obtain ⟨rfl, rfl, rfl⟩ := hev; exact hq
              | ret v =>
                simp only [afterRange] at hev
                simp only [rangeR]
                split at hev <;> simp only [Option.some.injEq, Prod.mk.injEq, reduceCtorEq] at hev
                · rename_i hb hl
                  obtain ⟨rfl, rfl, rfl⟩ := hev
                  exact ⟨_, _, _, _, _, _, _, _, hl, fun x => hb x, hq⟩
                · rename_i hb hl
                  obtain ⟨rfl, rfl, rfl⟩ := hev
                  exact ⟨_, _, _, _, _, _, _, _, hl, fun x => hb x, hq⟩
                · rename_i hb hl
                  obtain ⟨rfl, rfl, rfl⟩ := hev
                  exact ⟨_, _, _, _, _, _, _, _, hl, fun x => hb x, hq⟩
          · cases hev
        · cases hev
    · intro ops base i l e h x e' h' Q hl hev hq
      cases l with
      | nil =>
        simp only [evL, Option.some.injEq, Prod.mk.injEq] at hev; obtain ⟨rfl, rfl, rfl⟩ := hev
        exact hq
      | cons o l =>
        simp only [evL] at hev
        have ho : ops[i]? = some o := by have := hl 0; simpa using this.symm
        have hl' : ∀ j, l[j]? = ops[i + 1 + j]? := fun j => by have := hl (j + 1); simpa [Nat.add_assoc, Nat.add_comm 1 j] using this
        simp only [List.length_cons, List.range'_succ, AOps]
        split at hev
        · rename_i e1 h1 h2
          exact ih.o _ _ _ _ _ _ _ _ _ _ _ ho h2 (fun _ => ih.l _ _ _ _ _ _ _ _ _ _ hl' hev hq) (fun v hv => by cases hv)
        · rename_i r hne
          refine ih.o _ _ _ _ _ _ _ _ _ _ _ ho hev (fun hx => ?_) (fun _ _ => hq)
          subst hx; exact absurd hev (hne _ _)
    · intro ops base f listed wt e h e' h' K hev hk
      cases f with
      | zero =>
        simp only [evD] at hev
        split at hev
        · rename_i hr
          simp only [Option.some.injEq, Prod.mk.injEq] at hev; obtain ⟨rfl, rfl⟩ := hev
          unfold ACanon; exact ⟨hr, hk⟩
        · cases hev
      | succ f =>
        simp only [evD] at hev
        simp only [ACanon]
        split at hev
        · rename_i hr
          rw [hr]
          simp only [Option.some.injEq, Prod.mk.injEq] at hev; obtain ⟨rfl, rfl⟩ := hev
          exact hk
        · rename_i j hr
          rw [hr]
          split at hev
          · rename_i o ho
            split at hev
            · rename_i e1 h1 h2
              split at hev
              · rename_i hw
                exact ih.o _ _ _ _ _ _ _ _ _ _ _ ho h2 (fun _ => ⟨evW_ok hw, ih.d _ _ _ _ _ _ _ _ _ _ hev hk⟩) (fun v hv => by cases hv)
              · cases hev
            · cases hev
          · cases hev
        · rename_i j js hne hr
          rw [hr]
          cases js with
          | nil => exact absurd rfl hne
          | cons a js =>
            simp only
            split at hev
            · rename_i i hf
              rw [hf]
              split at hev
              · rename_i o ho
                split at hev
                · rename_i v hfs hv
                  simp only [Bool.and_eq_true] at hfs
                  exact ⟨o, v, ho, evQ_ok hv, hfs.1, selfB_ok hfs.2, ih.d _ _ _ _ _ _ _ _ _ _ hev hk⟩
                · cases hev
              · cases hev
            · rename_i hf
              rw [hf]
              split at hev
              · rename_i o ho
                split at hev
                · rename_i v h1 hB hw hs
                  simp only [Bool.and_eq_true] at hB
                  have hfr : Op.fresh o.op = true := by
                    have := hB.1.1
                    simp only [freshB, Bool.and_eq_true] at this
                    exact this.1.1.1
                  obtain ⟨x, e1, hall⟩ := astep_fresh hfr hs
                  rw [e1, AH.get_set_same] at hev
                  have := ih.d _ _ _ _ _ _ _ _ _ _ hev hk
                  exact .inl ⟨o, v, x, ho, ⟨dstB_ok hB.2, hw, hfr, hall⟩, hB.1.1, selfB_ok hB.1.2, this⟩
                · split at hev
                  · rename_i i c hjs hent
                    split at hev
                    · rename_i oi hoi
                      split at hev
                      · rename_i v h1 hB hw hs
                        simp only [Bool.and_eq_true, decide_eq_true_eq, Option.isNone_iff_eq_none] at hB
                        obtain ⟨⟨⟨⟨⟨⟨⟨⟨b1, b2⟩, b3⟩, b4⟩, b5⟩, b6⟩, b7⟩, b8⟩, b9⟩ := hB
                        obtain ⟨x, e1, hall⟩ := astep_fresh b2 hs
                        rw [e1, AH.get_set_same] at hev
                        simp only at hev
                        split at hev
                        · rename_i w1
                          split at hev
                          · rename_i e2 h2 hrun
                            split at hev
                            · rename_i w2
                              simp only [Bool.and_eq_true] at w2
                              refine .inr ⟨i, o, oi, c, v, x, (by assumption), ho, hoi, hent, b1, ⟨dstB_ok b4, hw, b2, hall⟩, b3, b5, by simpa using b6, b7, b8, evW_ok w1, ?_, by simpa using b9⟩
                              exact ih.o _ _ _ _ _ _ _ _ _ _ _ ho hrun (fun _ => ⟨evW_ok w2.1, evW_ok w2.2, ih.d _ _ _ _ _ _ _ _ _ _ hev hk⟩) (fun v hv => by cases hv)
                            · cases hev
                          · cases hev
                        · cases hev
                      · cases hev
                    · cases hev
                  · cases hev
              · cases hev
    · intro ops base i o e h x e' h' K Q ho hev hk hq
      simp only [evO] at hev
      unfold AOp
      rw [ho]
      split at hev
      · rename_i h1 h2
        simp only [Option.some.injEq, Prod.mk.injEq] at hev; obtain ⟨rfl, rfl, rfl⟩ := hev
        refine ⟨dstB_ok h1, ?_⟩
        rw [h2]; exact hk rfl
      · rename_i h1 h2
        refine ⟨dstB_ok h1, ?_⟩
        rw [h2]
        simp only
        split at hev
        · rename_i y hy
          split at hev
          · rename_i t v hv
            simp only [Option.some.injEq, Prod.mk.injEq] at hev; obtain ⟨rfl, rfl, rfl⟩ := hev
            rw [hy]; exact ⟨t, v, hv, hq _ rfl⟩
          · cases hev
        · cases hev
        · rename_i op hnp hnn
          split
          · rename_i y hy; exact absurd hy (hnp y)
          · rename_i y hy; exact absurd hy (hnn y _)
          · cases hent : Op.enters o.op with
            | none =>
              rw [hent] at hev
              simp only at hev ⊢
              cases hs : astep C o.op e h (base + i) with
              | none => rw [hs] at hev; simp [afterStep] at hev
              | some p =>
                obtain ⟨v, h1⟩ := p
                rw [hs] at hev
                simp only [afterStep, Env.putS_eq, Option.some.injEq, Prod.mk.injEq] at hev; obtain ⟨rfl, rfl, rfl⟩ := hev
                exact ⟨v, _, rfl, hk rfl⟩
            | some c =>
              rw [hent] at hev
              simp only at hev ⊢
              cases hs : evK C O n c e h with
              | none => rw [hs] at hev; simp [afterCall] at hev
              | some p =>
                obtain ⟨r, h1⟩ := p
                rw [hs] at hev
                refine ih.k _ _ _ _ _ _ hs ?_
                cases r with
                | ret v => simp only [afterCall, Env.putS_eq, Option.some.injEq, Prod.mk.injEq] at hev; obtain ⟨rfl, rfl, rfl⟩ := hev; exact hk rfl
                | pan v => simp only [afterCall, Env.putS_eq, Option.some.injEq, Prod.mk.injEq] at hev; obtain ⟨rfl, rfl, rfl⟩ := hev; exact hq _ rfl
      · cases hev
    · intro c e h r h' R hev hq
      simp only [evK] at hev
      unfold ACall
      split at hev
      · rename_i f hf
        split at hev
        · rename_i g fi ca args h1 h2
          split at hev
          · rename_i hg
            rw [hf]
            exact ⟨_, _, h1, h2, hg, ih.f _ _ _ _ _ _ hev hq⟩
          · cases hev
        · rename_i id args h1 h2
          rw [hf]
          exact ⟨_, _, h1, h2, ih.y _ _ _ _ _ _ hev hq⟩
        · cases hev
      · rename_i rr name hf
        split at hev
        · rename_i t y args h1 h2
          split at hev
          · rename_i f hM
            split at hev
            · rename_i hg
              rw [hf]
              exact ⟨_, _, _, _, h1, h2, hM, hg, ih.f _ _ _ _ _ _ hev hq⟩
            · cases hev
          · cases hev
        · cases hev
      · cases hev
    · intro f args h r h' R hev hq
      simp only [evF] at hev
      split at hev
      · rename_i p hp
        injection hev with hev; subst hev
        exact hO _ _ _ _ _ _ hp hq
      · split at hev
        · rename_i fn hfn
          split at hev
          · rename_i c hb
            split at hev
            · rename_i hlen
              refine acalls_fun hC hfn hb (by simpa using hlen) ?_
              cases hs : evC C O n none c (envOf args fn.ntmps) h with
              | none => rw [hs] at hev; simp [afterBody] at hev
              | some p =>
                obtain ⟨x, e1, h1⟩ := p
                rw [hs] at hev
                refine ih.c _ _ _ _ _ _ _ _ hs ?_
                cases x with
                | normal =>
                  simp only [afterBody] at hev
                  split at hev
                  · rename_i h2 hsh
                    split at hev
                    · rename_i v hv
                      simp only [Option.some.injEq, Prod.mk.injEq] at hev; obtain ⟨rfl, rfl⟩ := hev
                      exact ⟨_, _, hsh, hv, hq⟩
                    · cases hev
                  · cases hev
                | ret =>
                  simp only [afterBody] at hev
                  split at hev
                  · rename_i h2 hsh
                    split at hev
                    · rename_i v hv
                      simp only [Option.some.injEq, Prod.mk.injEq] at hev; obtain ⟨rfl, rfl⟩ := hev
                      exact ⟨_, _, hsh, hv, hq⟩
                    · cases hev
                  · cases hev
                | exit i => simp [afterBody] at hev
                | panic v =>
                  simp only [afterBody] at hev
                  split at hev
                  · rename_i h2 hsh
                    simp only [Option.some.injEq, Prod.mk.injEq] at hev; obtain ⟨rfl, rfl⟩ := hev
                    exact ⟨_, hsh, hq⟩
                  · cases hev
            · cases hev
          · cases hev
        · cases hev
    · intro id args h r h' R hev hq
      simp only [evY] at hev
      split at hev
      · rename_i pend m env ps assign body dfr hg
        split at hev
        · rename_i hc
          simp only [Bool.and_eq_true, Nat.beq_eq_true_eq, List.all_eq_true] at hc
          split at hev
          · rename_i e1 h1 hs
            split at hev
            · rename_i pend₁ n₁ env₁ ps₁ as₁ bd₁ dfr₁ hg1
              refine ⟨pend, m, env, ps, assign, body, dfr, hg, Nat.eq_of_beq_eq_true hc.1, fun t ht => by simpa using hc.2 t ht, ih.c _ _ _ _ _ _ _ _ hs ?_⟩
              refine ⟨pend₁, n₁, env₁, ps₁, as₁, bd₁, dfr₁, hg1, ?_⟩
              cases hb : evC C O n (some id) body e1 (h1.set id (.loop .busy pend₁ n₁ env₁ ps₁ as₁ bd₁ dfr₁)) with
              | none => rw [hb] at hev; simp [afterRound] at hev
              | some p =>
                obtain ⟨x, e2, h2⟩ := p
                rw [hb] at hev
                refine ih.c _ _ _ _ _ _ _ _ hb ?_
                simp only [afterRound] at hev
                split at hev
                · rename_i st pend₂ n₂ env₂ ps₂ as₂ bd₂ dfr₂ hg2
                  refine ⟨st, pend₂, n₂, env₂, ps₂, as₂, bd₂, dfr₂, hg2, ?_⟩
                  cases x <;> simp only [Option.some.injEq, Prod.mk.injEq, reduceCtorEq] at hev <;> obtain ⟨rfl, rfl⟩ := hev <;> exact hq
                · cases hev
            · cases hev
          · cases hev
        · cases hev
      · cases hev
end Go.Am
