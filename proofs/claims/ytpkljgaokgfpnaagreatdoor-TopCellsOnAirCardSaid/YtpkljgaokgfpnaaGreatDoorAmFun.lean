/- Functions, and ranges over functions, in the abstract machine. -/
import Derived.Test.YtpkljgaokgfpnaaGreatDoorAmRegion
set_option linter.unusedVariables false
set_option linter.unusedSimpArgs false
set_option linter.unusedSectionVars false
namespace Go.Am
open Go

/-- An object is given up, its block written as one likes. -/
theorem Post.wreck {lo : Nat → Prop} {μ : Mu} {h : AH} {w w' : World} (hr : Rel μ h w) {id : Nat} {o : AObj} {p : Place} (hg : h.get id = some o) (hp : μ.obj id = some p)
    (hb : ∀ b, b ≠ p.block → w'.heap[b]? = w.heap[b]?) (hos : w'.os = w.os) (ht : w'.tape = w.tape) (hout : w'.output = w.output) (hs : w.heap.size ≤ w'.heap.size) : Post lo μ h w μ (h.del id) w' := by
  have hpf : μ.fro p.block = none := by
    obtain ⟨q, h1, h2, _⟩ := hr.obj id o hg
    rw [hp] at h1; injection h1 with h1; subst h1; exact h2
  have get : ∀ k x, (h.del id).get k = some x → k ≠ id ∧ h.get k = some x := fun k x hk => by
    rw [AH.get_del] at hk
    split at hk
    · cases hk
    · exact ⟨by assumption, hk⟩
  refine ⟨⟨?_, hr.dom, ?_, ?_⟩, Mu.le.refl μ, hos, ht, hout, hs, Nat.le_refl _, fun _ _ => rfl, ?_⟩
  · intro b x hx
    rw [hb b (fun e => by rw [e, hpf] at hx; cases hx)]
    exact hr.fro b x hx
  · intro i x hx
    obtain ⟨e, hx⟩ := get i x hx
    obtain ⟨q, h1, h2, h3⟩ := hr.obj i x hx
    refine ⟨q, h1, h2, h3.mono (Mu.le.refl μ) (hb _ fun eq => e ?_)⟩
    exact hr.inj i id x o q p hx hg h1 hp eq
  · intro i j oi oj qi qj hi hj hqi hqj he
    exact hr.inj i j oi oj qi qj (get i oi hi).2 (get j oj hj).2 hqi hqj he
  · intro b hbs hf hno
    refine ⟨hb b fun e => hno ⟨id, o, p, hg, hp, e.symm⟩, hf, ?_⟩
    rintro ⟨i, x, q, hi, hq, e⟩
    exact hno ⟨i, x, q, (get i x hi).2, hq, e⟩

/-! ### Leaving a function -/
/-- The blocks for the rounds' deferred calls are shut. -/
def ashut : List Nat → AH → Option AH
  | [], h => some h
  | id :: ds, h => match h.get id with
    | some .deferred => ashut ds (h.del id)
    | _ => none
def aresult (C : Ctx) (e : Env) (h : AH) : ResultVar → Option AV
  | .tmp t => e.v.get t
  | .cell a t => (e.v.get a).bind (aload C h t)
def aresultL (C : Ctx) (e : Env) (h : AH) : List ResultVar → Option (List AV)
  | [] => some []
  | x :: xs => match aresult C e h x, aresultL C e h xs with
    | some v, some l => some (v :: l)
    | _, _ => none
def aresults (C : Ctx) (e : Env) (h : AH) (fn : Func) : Option AV :=
  match aresultL C e h fn.results.toList with
  | some [v] => some v
  | some l => some (.tup l)
  | none => none

def rvGet (tm : Array Value) : ResultVar → Sem Value
  | .tmp t => pure (tm.getD t undef)
  | .cell a t => do loadVar t (← asAddr (tm.getD a undef))
theorem aresultL_rel {C : Ctx} (hC : CtxOk C) {μ : Mu} {h : AH} {w : World} {e : Env} {tm : Array Value} (hr : Rel μ h w) (he : ERel μ e.v e.n tm) : ∀ {xs : List ResultVar} {l : List AV}, aresultL C e h xs = some l →
    ∃ vs, (xs.mapM (rvGet tm)).run C.P w = .ok vs w ∧ VRelL μ l vs
  | [], l, hl => by simp only [aresultL, Option.some.injEq] at hl; subst hl; exact ⟨[], by simp, by simp [VRelL]⟩
  | x :: xs, l, hl => by
    simp only [aresultL] at hl
    split at hl
    · rename_i v l' h1 h2
      injection hl with hl; subst hl
      obtain ⟨vs, g1, g2⟩ := aresultL_rel hC hr he h2
      have : ∃ V, ((rvGet tm) x).run C.P w = .ok V w ∧ VRel μ v V := by
        cases x with
        | tmp t => exact ⟨_, rfl, he.2 t _ h1⟩
        | cell a t =>
          simp only [aresult] at h1
          cases hx : e.v.get a with
          | none => rw [hx] at h1; cases h1
          | some y =>
            rw [hx] at h1
            obtain ⟨ad, X, e1, e2, e3⟩ := loadVar_rel hC hr h1 (he.2 a _ hx)
            exact ⟨X, by simp only [rvGet, e1]; simp [asAddr, e2], e3⟩
      obtain ⟨V, k1, k2⟩ := this
      refine ⟨V :: vs, ?_, by simp only [VRelL]; exact ⟨V, vs, rfl, k2, g2⟩⟩
      rw [List.mapM_cons]
      simp only [Sem.run_bind, k1, Result.andThen, g1, Sem.run_pure]
    · cases hl

theorem aresults_rel {C : Ctx} (hC : CtxOk C) {μ : Mu} {h : AH} {w : World} {e : Env} {tm : Array Value} (hr : Rel μ h w) (he : ERel μ e.v e.n tm) {fn : Func} {v : AV} (hv : aresults C e h fn = some v) :
    ∃ V, (results fn tm).run C.P w = .ok V w ∧ VRel μ v V := by
  unfold aresults at hv
  have key : ∀ l, aresultL C e h fn.results.toList = some l → ∃ vs : Array Value, (results fn tm).run C.P w = .ok (if h : vs.size = 1 then vs[0] else .tuple vs) w ∧ VRelL μ l vs.toList := by
    intro l hl
    obtain ⟨vs, g1, g2⟩ := aresultL_rel hC hr he hl
    refine ⟨vs.toArray, ?_, by simpa using g2⟩
    have hf : results fn tm = (do let vs ← fn.results.mapM (rvGet tm); pure (if h : vs.size = 1 then vs[0] else .tuple vs)) := by
      unfold results
      congr 1
    rw [hf, Array.mapM_eq_mapM_toList]
    simp only [Sem.run_bind, Sem.run_map, g1, Result.andThen, Sem.run_pure]
    try rfl
  split at hv
  · rename_i x hx
    injection hv with hv; subst hv
    obtain ⟨vs, g1, g2⟩ := key _ hx
    simp only [VRelL] at g2
    obtain ⟨X, l, e1, e2, e3⟩ := g2
    subst e3
    have hs : vs.size = 1 := by rw [← Array.length_toList, e1]; rfl
    refine ⟨X, ?_, e2⟩
    rw [g1]
    have : vs[0] = X := by
      have : vs.toList[0]? = some X := by rw [e1]; rfl
      simpa [hs] using this
    simp [hs, this]
  · rename_i l hl hx
    injection hv with hv; subst hv
    obtain ⟨vs, g1, g2⟩ := key _ hx
    have hs : ¬ vs.size = 1 := by
      intro hs
      have := g2.length
      have h1 : l.length = 1 := by rw [this]; simpa using hs
      match l, h1 with
      | [y], _ => exact hl y rfl
    exact ⟨.tuple vs, by rw [g1]; simp [hs], by simp only [VRel]; exact ⟨vs, rfl, g2⟩⟩
  · cases hv
theorem leaves_ret {C : Ctx} (hC : CtxOk C) {fn : Func} {tm : Array Value} {R : Ending → World → Prop} {v : AV} {e : Env} :
    ∀ {ds : List Nat} {l : List Deferred} {μ : Mu} {h h' : AH} {w : World}, Rel μ h w → ERel μ e.v e.n tm → DRel μ ds l → ashut ds h = some h' → aresults C e h' fn = some v →
      (∀ w' V, Post (fun _ => True) μ h w μ h' w' → VRel μ v V → R (.returned V) w') → LeavesInM Fence.wide 0 C.P fn tm R l .returning w
  | [], l, μ, h, h', w, hr, he, hd, hs, hv, hR => by
    simp only [DRel] at hd; subst hd
    simp only [ashut, Option.some.injEq] at hs; subst hs
    obtain ⟨V, g1, g2⟩ := aresults_rel hC hr he hv
    exact ⟨V, g1, hR w V (Post.refl _ hr) g2⟩
  | id :: ds, l, μ, h, h', w, hr, he, hd, hs, hv, hR => by
    obtain ⟨p, l', hp, e, hd⟩ := hd
    subst e
    simp only [ashut] at hs
    split at hs
    · rename_i hg
      obtain ⟨q, hq, _, ho⟩ := hr.obj id _ hg
      rw [hp] at hq; injection hq with hq; subst hq
      simp only [ORel] at ho
      have hpost : Post (fun _ => True) μ h w μ (h.del id) (w.putObj p.block (.deferred none)) := Post.wreck hr hg hp (fun b hb => World.putObj_heap_other hb) rfl rfl rfl (by simp)
      refine ⟨by simp, .inl ⟨p.block, _, rfl, run_takeDeferred ho, ?_⟩⟩
      refine leaves_ret hC hpost.rel he hd hs hv ?_
      intro w' V hp' hV
      exact hR w' V (hpost.trans hp') hV
    · cases hs
theorem leaves_pan {C : Ctx} (hC : CtxOk C) {fn : Func} {tm : Array Value} {R : Ending → World → Prop} {chain} :
    ∀ {ds : List Nat} {l : List Deferred} {μ : Mu} {h h' : AH} {w : World}, Rel μ h w → DRel μ ds l → ashut ds h = some h' →
      (∀ w', Post (fun _ => True) μ h w μ h' w' → R (.panicked chain) w') → LeavesInM Fence.wide 0 C.P fn tm R l (.panicking chain) w
  | [], l, μ, h, h', w, hr, hd, hs, hR => by
    simp only [DRel] at hd; subst hd
    simp only [ashut, Option.some.injEq] at hs; subst hs
    exact hR w (Post.refl _ hr)
  | id :: ds, l, μ, h, h', w, hr, hd, hs, hR => by
    obtain ⟨p, l', hp, e, hd⟩ := hd
    subst e
    simp only [ashut] at hs
    split at hs
    · rename_i hg
      obtain ⟨q, hq, _, ho⟩ := hr.obj id _ hg
      rw [hp] at hq; injection hq with hq; subst hq
      simp only [ORel] at ho
      have hpost : Post (fun _ => True) μ h w μ (h.del id) (w.putObj p.block (.deferred none)) := Post.wreck hr hg hp (fun b hb => World.putObj_heap_other hb) rfl rfl rfl (by simp)
      refine ⟨by simp, .inl ⟨p.block, _, rfl, run_takeDeferred ho, ?_⟩⟩
      refine leaves_pan hC hpost.rel hd hs ?_
      intro w' hp'
      exact hR w' (hpost.trans hp')
    · cases hs

/-- What is asked where a function's body ends. -/
def bodyQ (C : Ctx) (fn : Func) (R : AR) : AQ := fun x e h =>
  match x with
  | .normal | .ret => ∃ h' v, ashut e.ds h = some h' ∧ aresults C e h' fn = some v ∧ R (.ret v) h'
  | .panic v => ∃ h', ashut e.ds h = some h' ∧ R (.pan v) h'
  | .exit _ => False

def teOf : List AV → Nat → TE → TE
  | [], _, t => t
  | x :: xs, i, t => teOf xs (i + 1) (t.put i x)
theorem get_teOf : ∀ (xs : List AV) (i : Nat) (t : TE) (j : Nat), (teOf xs i t).get j = if i ≤ j ∧ j < i + xs.length then xs[j - i]? else t.get j
  | [], i, t, j => by simp only [teOf, List.length_nil]; rw [if_neg (by omega)]
  | x :: xs, i, t, j => by
    simp only [teOf, List.length_cons]
    rw [get_teOf xs (i + 1) _ j, Tr.get_put]
    by_cases e : j = i
    · subst e; rw [if_neg (by omega), if_pos rfl, if_pos (by omega)]; simp
    · by_cases h : i + 1 ≤ j ∧ j < i + 1 + xs.length
      · rw [if_pos h, if_pos (by omega), show j - i = (j - (i + 1)) + 1 by omega]; rfl
      · rw [if_neg h, if_neg e, if_neg (by omega)]
def envOf (args : List AV) (n : Nat) : Env := { n := n, v := teOf args 0 .nil, ds := [] }
theorem get_envOf (args : List AV) (n j : Nat) : (envOf args n).v.get j = args[j]? := by
  simp only [envOf, get_teOf]
  split
  · rfl
  · rw [List.getElem?_eq_none (by omega)]; rfl

theorem VRelL.getD {μ : Mu} : ∀ {xs : List AV} {vs : List Value}, VRelL μ xs vs → ∀ j, VRel μ (xs.getD j .undef) (vs.getD j Go.undef)
  | [], vs, h, j => by simp only [VRelL] at h; subst h; simp [VRel, VRelL, Go.undef]
  | x :: xs, vs, h, j => by
    simp only [VRelL] at h
    obtain ⟨X, l, rfl, hx, hl⟩ := h
    cases j with
    | zero => simpa using hx
    | succ j => simpa using hl.getD j

/-- **A call, out of its function's body.** -/
theorem acalls_fun {C : Ctx} (hC : CtxOk C) {f : FuncId} {fn : Func} {c : Code} {args : List AV} {h : AH} {R : AR} (hf : C.F f = some fn) (hb : fn.body = some c) (hlen : args.length ≤ fn.ntmps)
    (hs : ASem C none c (bodyQ C fn R) (envOf args fn.ntmps) h) : ACalls C f args h R := by
  intro μ w as hr hG ha
  obtain ⟨h1, h2, h3⟩ := hC.F f fn hf
  have hsz : as.size = args.length := by rw [← Array.length_toList]; exact ha.length.symm
  refine callsIn_of_wp_marks h1 hb trivial ?_
  have he : ERel μ (envOf args fn.ntmps).v (envOf args fn.ntmps).n (as ++ Array.replicate (fn.ntmps - as.size) undef) := by
    refine ⟨by simp [envOf]; omega, fun t x ht => ?_⟩
    have := ha.getD t
    rw [get_envOf] at ht
    rw [List.getD_eq_getElem?_getD, ht] at this
    simp only [Option.getD_some] at this
    have e : (as ++ Array.replicate (fn.ntmps - as.size) undef).getD t Go.undef = as.toList.getD t Go.undef := by
      simp only [Array.getD_eq_getD_getElem?, Array.getElem?_append, List.getD_eq_getElem?_getD, Array.getElem?_toList]
      split
      · rfl
      · rename_i hge
        rw [Array.getElem?_eq_none (by omega : as.size ≤ t)]
        simp only [Array.getElem?_replicate]
        split <;> rfl
    rw [e]; exact this
  refine wpIn_mono (hs μ w _ hr hG (fun _ hx => by cases hx) he (by simp [DRel, envOf])) ?_
  rintro x a' w' ⟨ax, e', h', μ', g1, g2, g3, g4, g5⟩
  have hlow : ∀ {h'' w''}, Post (fun _ => True) μ' h' w' μ' h'' w'' → Post (· < h.next) μ h w μ' h'' w'' := fun hp => g2.trans (hp.lower fun _ _ => trivial)
  have hret : (∃ h'' v, ashut e'.ds h' = some h'' ∧ aresults C e' h'' fn = some v ∧ R (.ret v) h'') → LeavesInM Fence.wide 0 C.P fn a'.tmps (RAfter μ h w R) a'.defers .returning w' := by
    rintro ⟨h'', v, k1, k2, k3⟩
    exact leaves_ret hC g2.rel g3 g4 k1 k2 fun w'' V hp hV => ⟨.ret v, h'', μ', ⟨V, rfl, hV⟩, hlow hp, k3⟩
  cases ax with
  | normal => simp only [XRel] at g1; subst g1; exact hret g5
  | ret => simp only [XRel] at g1; subst g1; exact hret g5
  | exit i => exact g5.elim
  | panic v =>
    obtain ⟨V, rfl, hv⟩ := g1
    obtain ⟨h'', k1, k3⟩ := g5
    exact leaves_pan hC g2.rel g4 k1 fun w'' hp => ⟨.pan v, h'', μ', ⟨V, rfl, hv⟩, hlow hp, k3⟩
/-! ### Ranges over functions -/
def rangeR (lp : Nat) (Q : AQ) (e : Env) : AR := fun r h =>
  match r with
  | .pan v => Q (.panic v) e h
  | .ret _ => ∃ st pend n env ps as bd dfr, h.get lp = some (.loop st pend n env ps as bd dfr) ∧ st ≠ .busy ∧ match pend with
    | none => Q .normal e (h.del lp)
    | some .ret => Q .ret e (h.del lp)
    | some (.exit i) => Q (.exit i) e (h.del lp)
    | _ => False
/-- The loop's record is laid: its number, the deferred calls' marks, the heap. -/
def aenter (ro : Option Nat) (ps : Array Tmp) (assign body : Code) (e : Env) (h : AH) : Option (Nat × Env × AH) :=
  match ro with
  | none => some (h.next + 1, { e with ds := h.next :: e.ds }, ((h.up (h.next + 2)).set h.next .deferred).set (h.next + 1) (.loop .ready none e.n e.v ps assign body h.next))
  | some id => match h.get id with
    | some (.loop _ _ _ _ _ _ _ dfr) => some (h.next, e, (h.up (h.next + 1)).set h.next (.loop .ready none e.n e.v ps assign body dfr))
    | _ => none

theorem Rel.none_of_le {μ : Mu} {h : AH} {w : World} (hr : Rel μ h w) {id : Nat} (hle : h.next ≤ id) : μ.obj id = none := by
  cases hx : μ.obj id with
  | none => rfl
  | some p => exact absurd (hr.dom _ _ hx) (by omega)

theorem aenter_rel {C : Ctx} {ro : Option Nat} {ps : Array Tmp} {assign body : Code} {e e' : Env} {h h' : AH} {lp : Nat} (hen : aenter ro ps assign body e h = some (lp, e', h')) {μ : Mu} {w : World} {a : Act} (hr : Rel μ h w) (hro : RoOk μ ro)
    (he : ERel μ e.v e.n a.tmps) (hd : DRel μ e.ds a.defers) (fn : FuncId) :
    ∃ mark w' μ' p, (Instr.enterLoop fn a.tmps ps assign body (fenceOf μ ro).round).run C.P w = .ok (p.block, mark) w' ∧ Post (· < h.next) μ h w μ' h' w' ∧ μ'.obj lp = some p ∧ e'.v = e.v ∧ e'.n = e.n ∧ DRel μ' e'.ds (mark ++ a.defers) := by
  unfold aenter at hen
  split at hen
  · simp only [Option.some.injEq, Prod.mk.injEq] at hen
    obtain ⟨rfl, rfl, rfl⟩ := hen
    have hr0 := hr.up (n := h.next + 2) (by omega)
    have P1 : Post (· < h.next) μ (h.up (h.next + 2)) w (μ.put h.next ⟨w.heap.size, 0, 0⟩) ((h.up (h.next + 2)).set h.next .deferred) (w.alloc (.deferred (some []))) := by
      refine Post.alloc hr0 (hr.none_of_le (Nat.le_refl _)) (by simp) (by simp) _ _ _ rfl ?_
      simp only [ORel]
      exact World.alloc_heap_new w _
    have hne : (μ.put h.next ⟨w.heap.size, 0, 0⟩).obj (h.next + 1) = none := by
      simp only [Mu.put]; rw [if_neg (by omega)]; exact hr.none_of_le (by omega)
    have P2 := Post.alloc (lo := (· < h.next)) P1.rel hne (by simp) (by simp)
      (.loop { state := .ready, pending := none, fn, tmps := a.tmps, params := ps, assign, body, defers := w.heap.size }) (.loop .ready none e.n e.v ps assign body h.next) ⟨(w.alloc (.deferred (some []))).heap.size, 0, 0⟩ rfl (by
        simp only [ORel]
        refine ⟨fn, a.tmps, ⟨w.heap.size, 0, 0⟩, World.alloc_heap_new _ _, ?_, ?_⟩
        · exact (he.mono P1.le).mono (Mu.le_put hne _)
        · simp only [Mu.put]; rw [if_neg (by omega)]; simp)
    refine ⟨[{ target := .collected w.heap.size, args := #[] }], _, _, ⟨(w.alloc (.deferred (some []))).heap.size, 0, 0⟩, ?_, (Post.up _ hr (by omega)).trans (P1.trans P2), by simp [Mu.put], rfl, rfl, ?_⟩
    · simp only [fenceOf, Fence.wide]
      rw [run_enterLoop_outer]; simp only [World.size_alloc]
    · exact ⟨⟨w.heap.size, 0, 0⟩, a.defers, by simp only [Mu.put]; rw [if_neg (by omega)]; simp, rfl, hd.mono (P1.le.trans P2.le)⟩
  · rename_i id
    split at hen
    · rename_i st pend n env ps' as' bd' dfr hg
      simp only [Option.some.injEq, Prod.mk.injEq] at hen
      obtain ⟨rfl, rfl, rfl⟩ := hen
      obtain ⟨q, hq, _, ho⟩ := hr.obj id _ hg
      simp only [ORel] at ho
      obtain ⟨fn', tm', d', hw, hee, hdd⟩ := ho
      have hr0 := hr.up (n := h.next + 1) (by omega)
      have hne : μ.obj h.next = none := hr.none_of_le (Nat.le_refl _)
      have P1 := Post.alloc (lo := (· < h.next)) hr0 hne (by simp) (by simp)
        (.loop { state := .ready, pending := none, fn, tmps := a.tmps, params := ps, assign, body, defers := d'.block }) (.loop .ready none e.n e.v ps assign body dfr) ⟨w.heap.size, 0, 0⟩ rfl (by
          simp only [ORel]
          refine ⟨fn, a.tmps, d', World.alloc_heap_new _ _, he.mono (Mu.le_put hne _), (Mu.le_put hne _).obj _ _ hdd⟩)
      refine ⟨[], _, _, ⟨w.heap.size, 0, 0⟩, ?_, (Post.up _ hr (by omega)).trans P1, by simp [Mu.put], rfl, rfl, hd.mono P1.le⟩
      have hround : (fenceOf μ (some id)).round = some q.block := by simp only [fenceOf, hq]; rfl
      rw [hround]
      unfold Instr.enterLoop
      simp only [Sem.run_bind, run_getLoop hw, run_newObj_alloc, Result.andThen, Sem.run_pure]
    · cases hen

theorem asem_rangeFunc {C : Ctx} (hC : CtxOk C) {ro : Option Nat} {g : Operand} {ps : Array Tmp} {assign body : Code} {Q : AQ} {e e' : Env} {h h' : AH} {lp : Nat} {f : FuncId} {fi ca : List AV}
    (hg : aeval C e g = some (.func (.func f) fi ca)) (hf : (C.F f).isSome = true) (hen : aenter ro ps assign body e h = some (lp, e', h')) (hc : ACalls C f (fi ++ [.yield lp] ++ ca) h' (rangeR lp Q e')) :
    ASem C ro (.rangeFunc g ps assign body) Q e h := by
  intro μ w a hr hG hro he hd
  refine wpIn_rangeFunc fun fn hfn => ?_
  obtain ⟨mark, w', μ', p, h1, h2, h3, h4, h5, h6⟩ := aenter_rel (C := C) hen hr hro he hd fn
  have hv := aeval_rel hG he hg
  simp only [VRel] at hv
  obtain ⟨_, fi', ca', hv, hfi, hca⟩ := hv
  have hres := resolve_value (P := C.P) (ρ := a.eval) (c := rangeCall g p.block) rfl 0 w' hv
  refine ⟨p.block, mark, w', _, w', f, fi' ++ #[.func (.yield p.block) #[] #[]] ++ ca', w', h1, hres, fun f' _ => fenceOf_fn μ ro f', ?_, (fun hx => by rw [fenceOf_depth] at hx; cases hx), ?_⟩
  · simp only [invoke]
    have := run_callFunc hC hf (fi' ++ #[.func (.yield p.block) #[] #[]] ++ ca') w'
    simpa [Act.eval] using this
  · have hargs : VRelL μ' (fi ++ [.yield lp] ++ ca) (fi' ++ #[Value.func (.yield p.block) #[] #[]] ++ ca').toList := by
      simp only [Array.toList_append]
      refine ((VRelL.mono h2.le _ hfi).append ?_).append (VRelL.mono h2.le _ hca)
      simp only [VRelL, VRel]
      exact ⟨_, _, rfl, ⟨p, h3, rfl⟩, rfl⟩
    have hcall := hc μ' w' _ h2.rel (hG.mono h2.le) hargs
    have hcall' : CallsIn (fenceOf μ ro) 0 C.P f (fi' ++ #[.func (.yield p.block) #[] #[]] ++ ca') w' (RAfter μ' h' w' (rangeR lp Q e')) := by
      rcases fenceOf_cases μ ro with hF | ⟨l, hF⟩
      · rw [hF]; exact hcall
      · rw [hF]; exact hcall
    refine hcall'.mono ?_
    rintro en w₂ ⟨x, h₂, μ₂, k1, k2, k3⟩
    have hp2 := h2.trans (k2.lower fun id hid => Nat.lt_of_lt_of_le hid h2.next)
    have he2 : ERel μ₂ e'.v e'.n a.tmps := by rw [h4, h5]; exact he.mono hp2.le
    have hd2 : DRel μ₂ e'.ds (mark ++ a.defers) := h6.mono k2.le
    cases x with
    | pan v =>
      obtain ⟨V, rfl, hV⟩ := k1
      exact ⟨.panic v, e', h₂, μ₂, ⟨V, rfl, hV⟩, hp2, he2, hd2, k3⟩
    | ret v =>
      obtain ⟨V, rfl, hV⟩ := k1
      obtain ⟨st, pend, n, env, ps', as', bd', dfr, m1, m2, m3⟩ := k3
      have hpl := k2.le.obj _ _ h3
      obtain ⟨q, hq, _, ho⟩ := k2.rel.obj lp _ m1
      rw [hpl] at hq; injection hq with hq; subst hq
      simp only [ORel] at ho
      obtain ⟨fn', tm', d', hw, hee, hdd⟩ := ho
      refine ⟨_, _, run_endLoop hw m2, ?_⟩
      have hfin := hp2.trans (Post.wreck (lo := (· < h.next)) k2.rel m1 hpl (w' := w₂.putObj p.block (.loop { state := .exhausted, pending := pend, fn := fn', tmps := tm', params := ps', assign := as', body := bd', defers := d'.block })) (fun b hb => World.putObj_heap_other hb) rfl rfl rfl (by simp))
      simp only
      split at m3
      · exact ⟨.normal, e', _, μ₂, rfl, hfin, he2, hd2, m3⟩
      · exact wpIn_ret ⟨.ret, e', _, μ₂, rfl, hfin, he2, hd2, m3⟩
      · rename_i i
        exact wpIn_exit ⟨.exit i, e', _, μ₂, rfl, hfin, he2, hd2, m3⟩
      · exact m3.elim
end Go.Am
