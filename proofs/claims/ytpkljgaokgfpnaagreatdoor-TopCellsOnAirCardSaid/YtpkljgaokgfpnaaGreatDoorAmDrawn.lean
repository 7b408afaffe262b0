/- Regions whose operations keep no order, in the abstract machine. -/
import Derived.Test.YtpkljgaokgfpnaaGreatDoorAmCongr
set_option linter.unusedVariables false
set_option linter.unusedSimpArgs false
set_option linter.unusedSectionVars false
namespace Go.Am
open Go

/-- Operations that leave memory alone. -/
def Op.quiet : Op → Bool
  | .move _ | .assign _ | .pick .. | .build .. | .load .. | .nilCheck _ | .binOp .. | .unOp .. | .convert .. | .makeInterface .. | .makeFunc .. | .slice .. | .fieldAddr .. | .field .. | .indexAddr .. | .index .. | .lookup .. | .extract .. | .typeAssert .. => true
  | .call c => match c.callee with
    | .builtin .len | .builtin .cap | .builtin .min | .builtin .max => true
    | _ => false
  | _ => false

theorem Op.quiet_spec {op : Op} (hq : Op.quiet op = true) : Op.enters op = none ∧ (∀ x, op ≠ .panic x) ∧ (∀ x b, op ≠ .next x b) := by
  cases op <;> simp [Op.quiet, Op.enters] at hq ⊢
  rename_i c
  cases hc : c.callee <;> rw [hc] at hq <;> simp at hq ⊢

theorem abuiltin_quiet {C : Ctx} {h h' : AH} {nid nid' : Nat} {b : Builtin} {ts : Array TypeId} {args : List AV} {v : AV} (hb : b = .len ∨ b = .cap ∨ b = .min ∨ b = .max) (hh : abuiltin C h nid b ts args = some (v, h')) :
    h' = h ∧ abuiltin C h nid' b ts args = some (v, h) := by
  rcases hb with rfl | rfl | rfl | rfl <;> unfold abuiltin at hh ⊢
  all_goals (split at hh <;> simp_all <;> (obtain ⟨a, g1, rfl, rfl⟩ := hh; exact ⟨rfl, g1⟩))

theorem astep_quiet {C : Ctx} {op : Op} (hq : Op.quiet op = true) {e : Env} {h h' : AH} {nid : Nat} {v : AV} (hh : astep C op e h nid = some (v, h')) (nid' : Nat) : h' = h ∧ astep C op e h nid' = some (v, h) := by
  have key : ∀ {o : Option AV}, (o.map fun v => (v, h)) = some (v, h') → h' = h ∧ (o.map fun v => (v, h)) = some (v, h) := fun {o} ho => by
    cases o with
    | none => cases ho
    | some x => simp only [Option.map_some, Option.some.injEq, Prod.mk.injEq] at ho ⊢; obtain ⟨rfl, rfl⟩ := ho; simp
  have bindk : ∀ {α : Type} {o : Option α} {f : α → Option AV}, (o.bind fun x => (f x).map fun v => (v, h)) = some (v, h') → h' = h ∧ (o.bind fun x => (f x).map fun v => (v, h)) = some (v, h) := fun {α o f} ho => by
    cases o with
    | none => cases ho
    | some x => exact key ho
  cases op <;> simp only [Op.quiet, Bool.false_eq_true] at hq <;> simp only [astep] at hh ⊢
  case move x => exact key hh
  case assign x => exact key hh
  case pick c a b => split at hh <;> first | exact key hh | cases hh
  case build t ps => exact bindk hh
  case load t p => exact bindk hh
  case nilCheck x => exact bindk hh
  case binOp op t x y t2 =>
    cases h1 : aeval C e x with
    | none => rw [h1] at hh; cases hh
    | some a => rw [h1] at hh; exact bindk hh
  case unOp op t x => exact bindk hh
  case convert s d x => exact bindk hh
  case makeInterface t x =>
    cases h1 : aeval C e x with
    | none => rw [h1] at hh; cases hh
    | some a =>
      rw [h1] at hh
      cases h2 : C.T t with
      | none => rw [h2] at hh; cases hh
      | some i =>
        rw [h2] at hh
        simp only [Option.bind_some] at hh ⊢
        split at hh
        · cases hh
        · simp only [Option.some.injEq, Prod.mk.injEq] at hh; obtain ⟨rfl, rfl⟩ := hh
          exact ⟨rfl, rfl⟩
  case makeFunc fn fi ca =>
    cases h1 : aevals C e fi.toList with
    | none => rw [h1] at hh; cases hh
    | some a =>
      rw [h1] at hh
      cases h2 : aevals C e ca.toList with
      | none => rw [h2] at hh; cases hh
      | some i =>
        rw [h2] at hh
        simp only [Option.bind_some] at hh ⊢
        split at hh
        · cases hh
        · simp only [Option.some.injEq, Prod.mk.injEq] at hh; obtain ⟨rfl, rfl⟩ := hh
          exact ⟨rfl, rfl⟩
  case slice t x lo hi mx =>
    cases h1 : aeval C e x with
    | none => rw [h1] at hh; cases hh
    | some a =>
      rw [h1] at hh
      cases h2 : aevalO C e lo with
      | none => rw [h2] at hh; cases hh
      | some a2 =>
        rw [h2] at hh
        cases h3 : aevalO C e hi with
        | none => rw [h3] at hh; cases hh
        | some a3 => rw [h3] at hh; exact bindk hh
  case fieldAddr s p f => exact bindk hh
  case field s x f => exact bindk hh
  case indexAddr t x i =>
    cases h1 : aeval C e x with
    | none => rw [h1] at hh; cases hh
    | some a => rw [h1] at hh; exact bindk hh
  case index t x i =>
    cases h1 : aeval C e x with
    | none => rw [h1] at hh; cases hh
    | some a => rw [h1] at hh; exact bindk hh
  case lookup t m k ok =>
    cases h1 : aeval C e m with
    | none => rw [h1] at hh; cases hh
    | some a => rw [h1] at hh; exact bindk hh
  case extract t i =>
    cases h1 : aeval C e t with
    | none => rw [h1] at hh; cases hh
    | some a =>
      rw [h1] at hh
      cases a <;> first | (cases hh; done) | exact key hh
  case typeAssert x s t ok => exact bindk hh
  case call c =>
    cases hc : c.callee with
    | value f => rw [hc] at hq; cases hq
    | invoke r n => rw [hc] at hq; cases hq
    | builtin b =>
      rw [hc] at hh hq
      simp only at hh hq ⊢
      cases h1 : aevals C e c.args.toList with
      | none => rw [h1] at hh; cases hh
      | some a =>
        rw [h1] at hh
        refine abuiltin_quiet ?_ hh
        cases b <;> simp at hq ⊢

/-- What a quiet operation yields, told. -/
def QV (C : Ctx) (ops : Array Oper) (o : Oper) (v : AV) (e : Env) (h : AH) : Prop :=
  dstOk e o.dst ∧ Op.quiet o.op = true ∧ match wantedA e o ops with
    | some false => v = .undef
    | some true => astep C o.op e h 0 = some (v, h)
    | none => False

theorem QV.aop {C : Ctx} {ops : Array Oper} {o : Oper} {v : AV} {e : Env} {h : AH} (hq : QV C ops o v e h) {i base : Nat} (hi : ops[i]? = some o) {K : Env → AH → Prop} {Q : AQ} (hk : K (e.put o.dst v) h) : AOp C ops base i K Q e h := by
  obtain ⟨h1, h2, h3⟩ := hq
  unfold AOp
  rw [hi]
  refine ⟨h1, ?_⟩
  cases hw : wantedA e o ops with
  | none => rw [hw] at h3; exact h3
  | some b =>
    rw [hw] at h3
    cases b with
    | false => simp only at h3; subst h3; exact hk
    | true =>
      simp only at h3 ⊢
      obtain ⟨q1, q2, q3⟩ := Op.quiet_spec h2
      split
      · rename_i x hx; exact absurd hx (q2 x)
      · rename_i x hx; exact absurd hx (q3 x _)
      · rw [q1]
        exact ⟨v, h, (astep_quiet h2 h3 _).2, hk⟩

theorem QV.congr {C : Ctx} {ops : Array Oper} {o : Oper} {v : AV} {e : Env} {h : AH} (d : Option Tmp) (u : AV) (hd : ∀ t, d = some t → t ∉ o.looksAt ops) : QV C ops o v (e.put d u) h ↔ QV C ops o v e h := by
  unfold QV dstOk
  rw [wantedA_put e d u o hd, astep_put e d u o hd, Env.put_n]

theorem ACall_congr {C : Ctx} {c : Call} {e e' : Env} {h : AH} {R : AR} (hx : ∀ x ∈ c.operands, aeval C e x = aeval C e' x) (hc : ACall C c e h R) : ACall C c e' h R := by
  unfold ACall at *
  split at hc
  · rename_i f hf
    obtain ⟨v, args, h1, h2, h3⟩ := hc
    refine ⟨v, args, ?_, ?_, h3⟩
    · rw [← hx f (by simp [Call.operands, hf])]; exact h1
    · rw [← aevals_congr fun x hx' => hx x (by simp only [Call.operands]; simp; exact .inr (by simpa using hx'))]; exact h2
  · rename_i r name hf
    obtain ⟨t, x, f, args, h1, h2, h3⟩ := hc
    refine ⟨t, x, f, args, ?_, ?_, h3⟩
    · rw [← hx r (by simp [Call.operands, hf])]; exact h1
    · rw [← aevals_congr fun x hx' => hx x (by simp only [Call.operands]; simp; exact .inr (by simpa using hx'))]; exact h2
  · exact hc.elim

theorem aop_put {C : Ctx} {ops : Array Oper} {base j : Nat} {oi oj : Oper} (hj : ops[j]? = some oj) (hap : oi.apart ops oj = true) {v : AV} {K : Env → AH → Prop} {e : Env} {h : AH}
    (ha : AOp C ops base j K (fun _ _ _ => False) (e.put oi.dst v) h) : AOp C ops base j (fun e' h' => K (e'.put oi.dst v) h') (fun _ _ _ => False) e h := by
  obtain ⟨p1, p2, p3⟩ := Oper.apart_spec hap
  unfold AOp at *
  rw [hj] at *
  simp only at ha ⊢
  obtain ⟨hdst, ha⟩ := ha
  refine ⟨by unfold dstOk at *; rw [Env.put_n] at hdst; exact hdst, ?_⟩
  rw [wantedA_put e oi.dst v oj p1] at ha
  have hcomm : ∀ u, (e.put oi.dst v).put oj.dst u = (e.put oj.dst u).put oi.dst v := fun u => Env.put_comm e v u p2
  cases hw : wantedA e oj ops with
  | none => rw [hw] at ha; exact ha
  | some b =>
    rw [hw] at ha
    have hlook := aeval_put_looks (C := C) e oi.dst v oj p1
    cases b with
    | false => simp only at ha ⊢; rw [hcomm] at ha; exact ha
    | true =>
      simp only at ha ⊢
      split
      · rename_i x hx
        rw [hx] at ha; obtain ⟨t, u, h1, h2⟩ := ha; exact h2.elim
      · rename_i x hx
        rw [hx] at ha
        obtain ⟨it, h1, h2, h3⟩ := ha
        refine ⟨it, ?_, h2, fun u h' hn => ?_⟩
        · rw [← hlook x (by rw [hx]; simp [Op.operands])]; exact h1
        · rw [← hcomm]; exact h3 u h' hn
      · rename_i op hnp hnn
        split at ha
        · rename_i x hx; exact absurd hx (hnp x)
        · rename_i x hx; exact absurd hx (hnn x)
        cases hent : Op.enters oj.op with
        | none =>
          rw [hent] at ha
          obtain ⟨u, h', h1, h2⟩ := ha
          refine ⟨u, h', ?_, ?_⟩
          · rw [← astep_put e oi.dst v oj p1]; exact h1
          · rw [← hcomm]; exact h2
        | some c =>
          rw [hent] at ha
          simp only at ha ⊢
          have hop : oj.op = .call c := by
            generalize oj.op = op at *
            unfold Op.enters at hent
            split at hent
            · split at hent
              · cases hent
              · injection hent with hent; subst hent; rfl
            · cases hent
          have := ACall_congr (e' := e) (fun x hx => hlook x (by rw [hop]; exact hx)) ha
          refine cast (congrArg (ACall C c e h) ?_) this
          funext r h'
          cases r with
          | ret u => simp only; rw [hcomm]
          | pan u => rfl

/-- Operations that do not look at memory; operations that lay one new object, whatever memory holds. -/
def Op.still : Op → Bool
  | .move _ | .assign _ | .pick .. | .build .. | .nilCheck _ | .binOp .. | .unOp .. | .convert .. | .fieldAddr .. | .field .. | .indexAddr .. | .index .. | .extract .. => true
  | _ => false
def Op.fresh : Op → Bool
  | .alloc _ | .box .. | .buildSlice .. | .makeSlice .. => true
  | _ => false
theorem astep_still {C : Ctx} {op : Op} (hq : Op.still op = true) {e : Env} {h h' : AH} {nid : Nat} {v : AV} (hh : astep C op e h nid = some (v, h')) (h2 : AH) (nid2 : Nat) : h' = h ∧ astep C op e h2 nid2 = some (v, h2) := by
  have key : ∀ {o : Option AV}, (o.map fun v => (v, h)) = some (v, h') → h' = h ∧ (o.map fun v => (v, h2)) = some (v, h2) := fun {o} ho => by
    cases o with
    | none => cases ho
    | some x => simp only [Option.map_some, Option.some.injEq, Prod.mk.injEq] at ho ⊢; obtain ⟨rfl, rfl⟩ := ho; simp
  have bindk : ∀ {α : Type} {o : Option α} {f : α → Option AV}, (o.bind fun x => (f x).map fun v => (v, h)) = some (v, h') → h' = h ∧ (o.bind fun x => (f x).map fun v => (v, h2)) = some (v, h2) := fun {α o f} ho => by
    cases o with
    | none => cases ho
    | some x => exact key ho
  cases op <;> simp only [Op.still, Bool.false_eq_true] at hq <;> simp only [astep] at hh ⊢
  case move x => exact key hh
  case assign x => exact key hh
  case pick c a b => split at hh <;> first | exact key hh | cases hh
  case build t ps => exact bindk hh
  case nilCheck x => exact bindk hh
  case binOp op t x y t2 =>
    cases h1 : aeval C e x with
    | none => rw [h1] at hh; cases hh
    | some a => rw [h1] at hh; exact bindk hh
  case unOp op t x => exact bindk hh
  case convert s d x => exact bindk hh
  case fieldAddr s p f => exact bindk hh
  case field s x f => exact bindk hh
  case indexAddr t x i =>
    cases h1 : aeval C e x with
    | none => rw [h1] at hh; cases hh
    | some a => rw [h1] at hh; exact bindk hh
  case index t x i =>
    cases h1 : aeval C e x with
    | none => rw [h1] at hh; cases hh
    | some a => rw [h1] at hh; exact bindk hh
  case extract t i =>
    cases h1 : aeval C e t with
    | none => rw [h1] at hh; cases hh
    | some a =>
      rw [h1] at hh
      cases a <;> first | (cases hh; done) | exact key hh

theorem astep_fresh {C : Ctx} {op : Op} (hq : Op.fresh op = true) {e : Env} {h h' : AH} {nid : Nat} {v : AV} (hh : astep C op e h nid = some (v, h')) : ∃ x, h' = h.set nid x ∧ ∀ h2, astep C op e h2 nid = some (v, h2.set nid x) := by
  cases op <;> simp only [Op.fresh, Bool.false_eq_true] at hq <;> simp only [astep] at hh ⊢
  case alloc t =>
    cases h1 : C.T t with
    | none => rw [h1] at hh; cases hh
    | some i =>
      rw [h1] at hh; simp only [Option.map_some, Option.some.injEq, Prod.mk.injEq] at hh; obtain ⟨rfl, rfl⟩ := hh
      exact ⟨_, rfl, fun _ => rfl⟩
  case box t x =>
    cases h1 : aeval C e x with
    | none => rw [h1] at hh; cases hh
    | some i =>
      rw [h1] at hh; simp only [Option.map_some, Option.some.injEq, Prod.mk.injEq] at hh; obtain ⟨rfl, rfl⟩ := hh
      exact ⟨_, rfl, fun _ => rfl⟩
  case buildSlice t n ps =>
    cases h1 : aevalP C e ps.toList with
    | none => rw [h1] at hh; cases hh
    | some qs =>
      rw [h1] at hh; simp only [Option.bind_some, abuildSlice] at hh ⊢
      cases h2 : C.T t with
      | none => rw [h2] at hh; cases hh
      | some ti =>
        rw [h2] at hh; simp only at hh ⊢
        cases h3 : ti.k <;> rw [h3] at hh <;> (try simp only at hh) <;> try (cases hh; done)
        rename_i el
        simp only
        cases h4 : C.T el with
        | none => rw [h4] at hh; cases hh
        | some te =>
          rw [h4] at hh; simp only at hh ⊢
          split at hh
          · rename_i hc
            simp only [if_pos hc]
            cases h5 : afill (fun i => some (i * te.size, te.size)) (repl n te.zero) qs with
            | none => rw [h5] at hh; cases hh
            | some c =>
              rw [h5] at hh; simp only [Option.map_some, Option.some.injEq, Prod.mk.injEq] at hh; obtain ⟨rfl, rfl⟩ := hh
              exact ⟨_, rfl, fun _ => rfl⟩
          · cases hh
  case makeSlice t l c =>
    cases h1 : aeval C e l with
    | none => rw [h1] at hh; cases hh
    | some lv =>
      cases h2 : aeval C e c with
      | none => rw [h1, h2] at hh; cases hh
      | some cv =>
        rw [h1, h2] at hh; simp only [Option.bind_some, amakeSlice] at hh ⊢
        split at hh
        · rename_i ti ln cn hT
          split at hh
          · rename_i el hk
            cases h4 : C.T el with
            | none => rw [h4] at hh; cases hh
            | some te =>
              rw [h4] at hh; simp only at hh
              split at hh
              · rename_i hc
                simp only [Option.some.injEq, Prod.mk.injEq] at hh; obtain ⟨rfl, rfl⟩ := hh
                exact ⟨_, rfl, fun _ => by simp only [if_pos hc]⟩
              · cases hh
          · cases hh
        · cases hh

theorem Op.still_spec {op : Op} (hq : Op.still op = true) : Op.enters op = none ∧ (∀ x, op ≠ .panic x) ∧ (∀ x b, op ≠ .next x b) := by
  cases op <;> simp [Op.still, Op.enters] at hq ⊢
theorem Op.fresh_spec {op : Op} (hq : Op.fresh op = true) : Op.enters op = none ∧ (∀ x, op ≠ .panic x) ∧ (∀ x b, op ≠ .next x b) := by
  cases op <;> simp [Op.fresh, Op.enters] at hq ⊢
/-- What is no longer watched once operation j has come up: what j comes behind. -/
def dropW (ops : Array Oper) (j : Nat) (wt : List (Nat × Oper × AV)) : List (Nat × Oper × AV) :=
  wt.filter fun p => !((ops[j]?).any fun o => o.after.any fun x => Region.binds .any x && x.on == p.1)
theorem mem_dropW {ops : Array Oper} {j : Nat} {wt : List (Nat × Oper × AV)} {p : Nat × Oper × AV} (h : p ∈ dropW ops j wt) : p ∈ wt := (List.mem_filter.1 h).1
theorem dropW_sub {ops : Array Oper} {j : Nat} {wt wt' : List (Nat × Oper × AV)} (h : ∀ p ∈ wt', p ∈ wt) : ∀ p ∈ dropW ops j wt', p ∈ dropW ops j wt := fun p hp => by
  rw [dropW, List.mem_filter] at hp ⊢; exact ⟨h p hp.1, hp.2⟩
theorem dropW_cons {ops : Array Oper} {j : Nat} {oj : Oper} (hj : ops[j]? = some oj) {i : Nat} {o : Oper} {v : AV} {wt : List (Nat × Oper × AV)} (h : ∀ x ∈ oj.after, Region.binds .any x = true → x.on ≠ i) : dropW ops j ((i, o, v) :: wt) = (i, o, v) :: dropW ops j wt := by
  rw [dropW, List.filter_cons, if_pos]
  · rfl
  · simp only [hj, Option.any_some, Bool.not_eq_true']
    rw [← Array.any_toList, List.any_eq_false]
    intro x hx
    simp only [Bool.and_eq_true, beq_iff_eq, not_and]
    exact fun hb => h x (by simpa using hx) hb
def firstQuiet (ops : Array Oper) (r : List Nat) : Option Nat := r.find? (fun i => match ops[i]? with | some o => Op.quiet o.op | none => false)
section
variable (C : Ctx) (ops : Array Oper) (base : Nat) (K : Env → AH → Prop)
/-- Every order in which the operations may come up; behind each, what is watched yields what it yielded. -/
def AAny : Nat → Array Bool → List (Nat × Oper × AV) → Env → AH → Prop
  | 0, listed, _, e, h => Region.ready .any ops listed = [] ∧ K e h
  | f + 1, listed, wt, e, h => (Region.ready .any ops listed = [] → K e h) ∧
    ∀ i ∈ Region.ready .any ops listed, AOp C ops base i (fun e' h' => (∀ p ∈ dropW ops i wt, QV C ops p.2.1 p.2.2 e' h') ∧ AAny f (listed.setIfInBounds i true) (dropW ops i wt) e' h') (fun _ _ _ => False) e h
/-- The one order that is walked: the one operation that may come up; else what is quiet; else a new object. -/
def noYield (c : Call) (e : Env) : Bool :=
  match c.callee with
  | .value f => match aeval C e f with
    | some (.func _ _ _) => true
    | _ => false
  | .invoke _ _ => true
  | .builtin _ => false
def closeW (i : Nat) : Nat → Array Bool → Array Bool
  | 0, l => l
  | f + 1, l => match (Region.ready .any ops l).find? (· != i) with
    | some j => closeW i f (l.setIfInBounds j true)
    | none => l
/-- Nothing that may come up as long as operation i has not looks at memory, but for new objects. -/
def freshB (listed : Array Bool) (wt : List (Nat × Oper × AV)) (i : Nat) (oi : Oper) : Bool :=
  let L := closeW ops i ops.size listed
  Op.fresh oi.op && (Region.ready .any ops L).all (· == i) && (List.range ops.size).all (fun k => (!listed.getD k false || L.getD k false) &&
    (listed.getD k true || !L.getD k false || (match ops[k]? with | some o => (Op.still o.op || Op.fresh o.op) && oi.apart ops o | none => true))) &&
  wt.all fun p => Op.still p.2.1.op
/-- A new object, told. -/
def FV (base i : Nat) (o : Oper) (v : AV) (x : AObj) (e : Env) : Prop := dstOk e o.dst ∧ wantedA e o ops = some true ∧ Op.fresh o.op = true ∧ ∀ h, astep C o.op e h (base + i) = some (v, h.set (base + i) x)
def ACanon : Nat → Array Bool → List (Nat × Oper × AV) → Env → AH → Prop
  | 0, listed, _, e, h => Region.ready .any ops listed = [] ∧ K e h
  | f + 1, listed, wt, e, h =>
    match Region.ready .any ops listed with
    | [] => K e h
    | [j] => AOp C ops base j (fun e' h' => (∀ p ∈ dropW ops j wt, QV C ops p.2.1 p.2.2 e' h') ∧ ACanon f (listed.setIfInBounds j true) (dropW ops j wt) e' h') (fun _ _ _ => False) e h
    | j :: js => match firstQuiet ops (j :: js) with
      | some i => ∃ o v, ops[i]? = some o ∧ QV C ops o v e h ∧ Region.free .any ops listed i = true ∧ (∀ d, o.dst = some d → d ∉ o.looksAt ops ∧ ∀ p ∈ wt, d ∉ p.2.1.looksAt ops) ∧
        ACanon f (listed.setIfInBounds i true) ((i, o, v) :: wt) (e.put o.dst v) h
      | none => (∃ o v x, ops[j]? = some o ∧ FV C ops base j o v x e ∧ freshB ops listed wt j o = true ∧ (∀ d, o.dst = some d → d ∉ o.looksAt ops ∧ ∀ p ∈ wt, d ∉ p.2.1.looksAt ops) ∧
          ACanon f (listed.setIfInBounds j true) wt (e.put o.dst v) (h.set (base + j) x)) ∨
        (∃ i oj oi c v x, js = [i] ∧ ops[j]? = some oj ∧ ops[i]? = some oi ∧ Op.enters oj.op = some c ∧ noYield C c e = true ∧ FV C ops base i oi v x e ∧ oi.apart ops oj = true ∧ h.get (base + i) = none ∧ base + i < h.next ∧
          Region.ready .any ops (listed.setIfInBounds j true) = [i] ∧ Region.ready .any ops (listed.setIfInBounds i true) = [j] ∧
          (∀ p ∈ dropW ops i wt, QV C ops p.2.1 p.2.2 (e.put oi.dst v) (h.set (base + i) x)) ∧
          AOp C ops base j (fun e' h' => (∀ p ∈ dropW ops j wt, QV C ops p.2.1 p.2.2 e' h') ∧ (∀ p ∈ dropW ops i (dropW ops j wt), QV C ops p.2.1 p.2.2 (e'.put oi.dst v) (h'.set (base + i) x)) ∧
            ACanon (f - 1) ((listed.setIfInBounds j true).setIfInBounds i true) (dropW ops i (dropW ops j wt)) (e'.put oi.dst v) (h'.set (base + i) x)) (fun _ _ _ => False) e h ∧ 1 ≤ f)
end

section
variable {C : Ctx} {ops : Array Oper} {base : Nat} {K : Env → AH → Prop}
theorem AAny.sub : ∀ {f : Nat} {listed : Array Bool} {wt wt' : List (Nat × Oper × AV)} {e : Env} {h : AH}, (∀ p ∈ wt', p ∈ wt) → AAny C ops base K f listed wt e h → AAny C ops base K f listed wt' e h
  | 0, _, _, _, _, _, _, ha => ha
  | f + 1, _, _, _, _, _, hs, ha => ⟨ha.1, fun i hi => (ha.2 i hi).mono (fun e h hk => ⟨fun p hp => hk.1 p (dropW_sub hs p hp), hk.2.sub (dropW_sub hs)⟩) (fun _ _ _ hq => hq)⟩

theorem AAny.first {i : Nat} {oi : Oper} {v : AV} (hi : ops[i]? = some oi) (hself : ∀ d, oi.dst = some d → d ∉ oi.looksAt ops) :
    ∀ (f : Nat) (listed : Array Bool) (wt : List (Nat × Oper × AV)) (e : Env) (h : AH),
      (∀ j oj, ops[j]? = some oj → j ≠ i → listed.getD j true = false → (∀ x ∈ oj.after, Region.binds .any x = true → x.on ≠ i) → oi.apart ops oj = true) →
      (∀ p ∈ wt, ∀ d, oi.dst = some d → d ∉ p.2.1.looksAt ops) → (∀ p ∈ wt, QV C ops p.2.1 p.2.2 e h) →
      i ∈ Region.ready .any ops listed → QV C ops oi v e h →
      AAny C ops base K f (listed.setIfInBounds i true) ((i, oi, v) :: wt) (e.put oi.dst v) h → AAny C ops base K (f + 1) listed wt e h := by
  intro f
  have hsub : ∀ (wt : List (Nat × Oper × AV)), ∀ p ∈ dropW ops i wt, p ∈ (i, oi, v) :: wt := fun wt p hp => List.mem_cons_of_mem _ (mem_dropW hp)
  induction f with
  | zero =>
    intro listed wt e h _ hwt hw hr hy H
    refine ⟨fun hx => (by rw [hx] at hr; cases hr), fun j hj => ?_⟩
    by_cases hji : j = i
    · subst hji
      exact hy.aop hi ⟨fun p hp => (QV.congr _ _ (hwt p (mem_dropW hp))).2 (hw p (mem_dropW hp)), H.sub (hsub wt)⟩
    · have := ready_mono hj hji
      rw [H.1] at this
      cases this
  | succ f ih =>
    intro listed wt e h hfree hwt hw hr hy H
    refine ⟨fun hx => (by rw [hx] at hr; cases hr), fun j hj => ?_⟩
    by_cases hji : j = i
    · subst hji
      exact hy.aop hi ⟨fun p hp => (QV.congr _ _ (hwt p (mem_dropW hp))).2 (hw p (mem_dropW hp)), H.sub (hsub wt)⟩
    · have h1 := H.2 j (ready_mono hj hji)
      obtain ⟨hjun, oj, hoj, hall⟩ := mem_ready.1 hj
      have hnot : ∀ x ∈ oj.after, Region.binds .any x = true → x.on ≠ i := fun x hx hb heq => by
        have h1 := hall x hx hb
        have h0 := (mem_ready.1 hr).1
        rw [heq] at h1
        rcases Nat.lt_or_ge i listed.size with h' | h'
        · simp [h'] at h0 h1; rw [h0] at h1; cases h1
        · simp [Array.getElem?_eq_none h'] at h1
      rw [dropW_cons hoj hnot] at h1
      have h2 := aop_put hoj (hfree j oj hoj hji hjun hnot) h1
      refine h2.mono (fun e' h' hk => ?_) (fun _ _ _ hq => hq)
      obtain ⟨k1, k2⟩ := hk
      have w' : ∀ p ∈ dropW ops j wt, QV C ops p.2.1 p.2.2 e' h' := fun p hp => (QV.congr _ _ (hwt p (mem_dropW hp))).1 (k1 p (List.mem_cons_of_mem _ hp))
      refine ⟨w', ih (listed.setIfInBounds j true) (dropW ops j wt) e' h' ?_ (fun p hp => hwt p (mem_dropW hp)) w' (ready_mono hr (Ne.symm hji)) ((QV.congr _ _ hself).1 (k1 (i, oi, v) (by simp))) ?_⟩
      · intro k ok hk hki hun hno
        refine hfree k ok hk hki ?_ hno
        by_cases hjk : j = k
        · subst hjk; exact hjun
        · rw [getD_set_ne true hjk] at hun; exact hun
      · rw [Array.setIfInBounds_comm _ _ hji]; exact k2

theorem QV.still {o : Oper} {v : AV} {e : Env} {h : AH} (hs : Op.still o.op = true) (hq : QV C ops o v e h) (h2 : AH) : QV C ops o v e h2 := by
  obtain ⟨h1, h3, h4⟩ := hq
  refine ⟨h1, h3, ?_⟩
  cases hw : wantedA e o ops with
  | none => rw [hw] at h4; exact h4
  | some b =>
    rw [hw] at h4
    cases b with
    | false => exact h4
    | true => exact (astep_still hs h4 h2 0).2

theorem AH.set_comm (h : AH) {a b : Nat} (x y : AObj) (hne : a ≠ b) : (h.set a x).set b y = (h.set b y).set a x := by
  simp only [AH.set]; rw [Tr.set_comm _ _ _ hne]

/-- An operation that does not look at memory, before a new object is laid. -/
theorem aop_before {i j : Nat} {oi oj : Oper} (hij : i ≠ j) (hj : ops[j]? = some oj) (hap : oi.apart ops oj = true) (hs : Op.still oj.op = true ∨ Op.fresh oj.op = true) {v : AV} {x : AObj} {K : Env → AH → Prop} {e : Env} {h : AH}
    (ha : AOp C ops base j K (fun _ _ _ => False) (e.put oi.dst v) (h.set (base + i) x)) : AOp C ops base j (fun e' h' => K (e'.put oi.dst v) (h'.set (base + i) x)) (fun _ _ _ => False) e h := by
  obtain ⟨p1, p2, p3⟩ := Oper.apart_spec hap
  unfold AOp at *
  rw [hj] at *
  simp only at ha ⊢
  obtain ⟨hdst, ha⟩ := ha
  refine ⟨by unfold dstOk at *; rw [Env.put_n] at hdst; exact hdst, ?_⟩
  rw [wantedA_put e oi.dst v oj p1] at ha
  have hcomm : ∀ u, (e.put oi.dst v).put oj.dst u = (e.put oj.dst u).put oi.dst v := fun u => Env.put_comm e v u p2
  obtain ⟨q1, q2, q3⟩ : Op.enters oj.op = none ∧ (∀ x, oj.op ≠ .panic x) ∧ (∀ x b, oj.op ≠ .next x b) := by
    rcases hs with hs | hs
    · exact Op.still_spec hs
    · exact Op.fresh_spec hs
  cases hw : wantedA e oj ops with
  | none => rw [hw] at ha; exact ha
  | some b =>
    rw [hw] at ha
    cases b with
    | false => simp only at ha ⊢; rw [hcomm] at ha; exact ha
    | true =>
      simp only at ha ⊢
      split
      · rename_i y hy; exact absurd hy (q2 y)
      · rename_i y hy; exact absurd hy (q3 y _)
      · split at ha
        · rename_i y hy; exact absurd hy (q2 y)
        · rename_i y hy; exact absurd hy (q3 y _)
        rw [q1] at ha ⊢
        obtain ⟨u, h', h1, h2⟩ := ha
        rw [astep_put e oi.dst v oj p1] at h1
        rcases hs with hs | hs
        · obtain ⟨rfl, hst⟩ := astep_still hs h1 h (base + j)
          exact ⟨u, h, hst, by rw [← hcomm]; exact h2⟩
        · obtain ⟨y, rfl, hst⟩ := astep_fresh hs h1
          refine ⟨u, h.set (base + j) y, hst h, ?_⟩
          rw [← hcomm, AH.set_comm h y x (by omega)]; exact h2

theorem FV.aop {i : Nat} {o : Oper} {v : AV} {x : AObj} {e : Env} (hq : FV C ops base i o v x e) (hi : ops[i]? = some o) {K : Env → AH → Prop} {Q : AQ} {h : AH} (hk : K (e.put o.dst v) (h.set (base + i) x)) : AOp C ops base i K Q e h := by
  obtain ⟨h1, h2, h3, h4⟩ := hq
  obtain ⟨q1, q2, q3⟩ := Op.fresh_spec h3
  unfold AOp
  rw [hi]
  refine ⟨h1, ?_⟩
  rw [h2]
  simp only
  split
  · rename_i x hx; exact absurd hx (q2 x)
  · rename_i x hx; exact absurd hx (q3 x _)
  · rw [q1]
    exact ⟨v, _, h4 h, hk⟩
theorem FV.congr {i : Nat} {o : Oper} {v : AV} {x : AObj} {e : Env} (d : Option Tmp) (u : AV) (hd : ∀ t, d = some t → t ∉ o.looksAt ops) (hq : FV C ops base i o v x (e.put d u)) : FV C ops base i o v x e := by
  obtain ⟨h1, h2, h3, h4⟩ := hq
  refine ⟨by unfold dstOk at *; rw [Env.put_n] at h1; exact h1, by rw [← wantedA_put e d u o hd]; exact h2, h3, fun h => by rw [← astep_put e d u o hd]; exact h4 h⟩
theorem FV.congr' {i : Nat} {o : Oper} {v : AV} {x : AObj} {e : Env} (d : Option Tmp) (u : AV) (hd : ∀ t, d = some t → t ∉ o.looksAt ops) (hq : FV C ops base i o v x e) : FV C ops base i o v x (e.put d u) := by
  obtain ⟨h1, h2, h3, h4⟩ := hq
  exact ⟨by unfold dstOk at *; rw [Env.put_n]; exact h1, by rw [wantedA_put e d u o hd]; exact h2, h3, fun h => by rw [astep_put e d u o hd]; exact h4 h⟩

/-- Behind an operation that is still or fresh the environment is the old one, one temporary put. -/
theorem aop_env {j : Nat} {oj : Oper} (hj : ops[j]? = some oj) (hs : Op.still oj.op = true ∨ Op.fresh oj.op = true) {K : Env → AH → Prop} {e : Env} {h : AH} (ha : AOp C ops base j K (fun _ _ _ => False) e h) :
    AOp C ops base j (fun e' h' => K e' h' ∧ ∃ u, e' = e.put oj.dst u) (fun _ _ _ => False) e h := by
  unfold AOp at *
  rw [hj] at *
  simp only at ha ⊢
  obtain ⟨hdst, ha⟩ := ha
  refine ⟨hdst, ?_⟩
  obtain ⟨q1, q2, q3⟩ : Op.enters oj.op = none ∧ (∀ x, oj.op ≠ .panic x) ∧ (∀ x b, oj.op ≠ .next x b) := by
    rcases hs with hs | hs
    · exact Op.still_spec hs
    · exact Op.fresh_spec hs
  cases hw : wantedA e oj ops with
  | none => rw [hw] at ha; exact ha
  | some b =>
    rw [hw] at ha
    cases b with
    | false => exact ⟨ha, _, rfl⟩
    | true =>
      simp only at ha ⊢
      split
      · rename_i y hy; exact absurd hy (q2 y)
      · rename_i y hy; exact absurd hy (q3 y _)
      · split at ha
        · rename_i y hy; exact absurd hy (q2 y)
        · rename_i y hy; exact absurd hy (q3 y _)
        rw [q1] at ha ⊢
        obtain ⟨u, h', h1, h2⟩ := ha
        exact ⟨u, h', h1, h2, _, rfl⟩

theorem ACall.mono {c : Call} {e : Env} {h : AH} {R R' : AR} (hR : ∀ r h, R r h → R' r h) (hc : ACall C c e h R) : ACall C c e h R' := by
  unfold ACall at *
  split at hc
  · obtain ⟨v, args, h1, h2, h3⟩ := hc
    refine ⟨v, args, h1, h2, ?_⟩
    unfold ACallV at *
    split at h3
    · exact ⟨h3.1, h3.2.mono hR⟩
    · rename_i id
      obtain ⟨pend, n, env, ps, assign, body, dfr, g1, g2, g3, g4⟩ := h3
      refine ⟨pend, n, env, ps, assign, body, dfr, g1, g2, g3, g4.mono ?_⟩
      intro x e₁ h₁ hx
      cases x <;> try exact hx
      obtain ⟨pend₁, n₁, env₁, ps₁, as₁, bd₁, dfr₁, hx1, hx2⟩ := hx
      refine ⟨pend₁, n₁, env₁, ps₁, as₁, bd₁, dfr₁, hx1, hx2.mono ?_⟩
      rintro x e₂ h₂ ⟨st, pend, n, env, ps, assign, body, dfr, k1, k2⟩
      refine ⟨st, pend, n, env, ps, assign, body, dfr, k1, ?_⟩
      cases x <;> first | exact hR _ _ k2 | exact k2
    · exact h3.elim
  · obtain ⟨t, x, f, args, h1, h2, h3, h4, h5⟩ := hc
    exact ⟨t, x, f, args, h1, h2, h3, h4, h5.mono hR⟩
  · exact hc.elim

theorem aop_env' {j : Nat} {oj : Oper} (hj : ops[j]? = some oj) {K : Env → AH → Prop} {e : Env} {h : AH} (ha : AOp C ops base j K (fun _ _ _ => False) e h) :
    AOp C ops base j (fun e' h' => K e' h' ∧ ∃ u, e' = e.put oj.dst u) (fun _ _ _ => False) e h := by
  unfold AOp at *
  rw [hj] at *
  simp only at ha ⊢
  obtain ⟨hdst, ha⟩ := ha
  refine ⟨hdst, ?_⟩
  cases hw : wantedA e oj ops with
  | none => rw [hw] at ha; exact ha
  | some b =>
    rw [hw] at ha
    cases b with
    | false => exact ⟨ha, _, rfl⟩
    | true =>
      simp only at ha ⊢
      split
      · rename_i y hy; rw [hy] at ha; exact ha
      · rename_i y hy; rw [hy] at ha; obtain ⟨it, h1, h2, h3⟩ := ha; exact ⟨it, h1, h2, fun v h' hn => ⟨h3 v h' hn, _, rfl⟩⟩
      · rename_i op hnp hnn
        split at ha
        · rename_i y hy; exact absurd hy (hnp y)
        · rename_i y hy; exact absurd hy (hnn y)
        cases hent : Op.enters oj.op with
        | none =>
          rw [hent] at ha
          obtain ⟨u, h', h1, h2⟩ := ha
          exact ⟨u, h', h1, h2, _, rfl⟩
        | some c =>
          rw [hent] at ha
          simp only at ha ⊢
          refine ACall.mono ?_ ha
          intro r h' hr
          cases r with
          | ret v => exact ⟨hr, _, rfl⟩
          | pan v => exact hr

theorem AAny.firstFresh {i : Nat} {oi : Oper} {v : AV} {x : AObj} (hi : ops[i]? = some oi) (hself : ∀ d, oi.dst = some d → d ∉ oi.looksAt ops) {L : Array Bool} (hL : ∀ j ∈ Region.ready .any ops L, j = i) {l₀ : Array Bool}
    (hap : ∀ j oj, ops[j]? = some oj → L.getD j false = true → l₀.getD j true = false → (Op.still oj.op = true ∨ Op.fresh oj.op = true) ∧ oi.apart ops oj = true) :
    ∀ (f : Nat) (listed : Array Bool) (wt : List (Nat × Oper × AV)) (e : Env) (h : AH), (∀ p ∈ wt, Op.still p.2.1.op = true ∧ ∀ d, oi.dst = some d → d ∉ p.2.1.looksAt ops) →
      (∀ k, listed.getD k false = true → L.getD k false = true) → (∀ k, listed.getD k true = false → l₀.getD k true = false) → L.size = listed.size →
      (∀ p ∈ wt, QV C ops p.2.1 p.2.2 e h) → i ∈ Region.ready .any ops listed → FV C ops base i oi v x e →
      AAny C ops base K f (listed.setIfInBounds i true) wt (e.put oi.dst v) (h.set (base + i) x) → AAny C ops base K (f + 1) listed wt e h := by
  intro f
  induction f with
  | zero =>
    intro listed wt e h hwt hle hle0 hsz hw hr hy H
    refine ⟨fun hx => (by rw [hx] at hr; cases hr), fun j hj => ?_⟩
    by_cases hji : j = i
    · subst hji
      exact hy.aop hi ⟨fun p hp => ((QV.congr _ _ (hwt p (mem_dropW hp)).2).2 (hw p (mem_dropW hp))).still (hwt p (mem_dropW hp)).1 _, H.sub fun p hp => mem_dropW hp⟩
    · have := ready_mono hj hji
      rw [H.1] at this
      cases this
  | succ f ih =>
    intro listed wt e h hwt hle hle0 hsz hw hr hy H
    refine ⟨fun hx => (by rw [hx] at hr; cases hr), fun j hj => ?_⟩
    by_cases hji : j = i
    · subst hji
      exact hy.aop hi ⟨fun p hp => ((QV.congr _ _ (hwt p (mem_dropW hp)).2).2 (hw p (mem_dropW hp))).still (hwt p (mem_dropW hp)).1 _, H.sub fun p hp => mem_dropW hp⟩
    · have h1 := H.2 j (ready_mono hj hji)
      obtain ⟨hjun, oj, hoj, hall⟩ := mem_ready.1 hj
      have hjs : j < listed.size := by
        rcases Nat.lt_or_ge j listed.size with h' | h'
        · exact h'
        · simp [Array.getElem?_eq_none h'] at hjun
      have hLj : L.getD j false = true := by
        cases hx : L.getD j false with
        | true => rfl
        | false =>
          refine absurd (hL j (mem_ready.2 ⟨?_, oj, hoj, fun y hy hb => hle _ (hall y hy hb)⟩)) hji
          have : j < L.size := by omega
          simpa [this] using hx
      obtain ⟨hs, hapj⟩ := hap j oj hoj hLj (hle0 j hjun)
      obtain ⟨p1, p2, p3⟩ := Oper.apart_spec hapj
      have h2 := aop_before (Ne.symm hji) hoj hapj hs h1
      refine (aop_env hoj hs h2).mono (fun e' h' hk => ?_) (fun _ _ _ hq => hq)
      obtain ⟨⟨k1, k2⟩, u, rfl⟩ := hk
      have w' : ∀ p ∈ dropW ops j wt, QV C ops p.2.1 p.2.2 (e.put oj.dst u) h' := fun p hp => (QV.congr _ _ (hwt p (mem_dropW hp)).2).1 ((k1 p hp).still (hwt p (mem_dropW hp)).1 _)
      refine ⟨w', ih (listed.setIfInBounds j true) (dropW ops j wt) _ h' (fun p hp => hwt p (mem_dropW hp)) ?_ ?_ ?_ w' (ready_mono hr (Ne.symm hji)) (hy.congr' _ _ p3) ?_⟩
      · intro k hk
        by_cases hjk : j = k
        · subst hjk; exact hLj
        · rw [getD_set_ne false hjk] at hk; exact hle k hk
      · intro k hk
        by_cases hjk : j = k
        · subst hjk; simp [hjs] at hk
        · rw [getD_set_ne true hjk] at hk; exact hle0 k hk
      · simpa using hsz
      · rw [Array.setIfInBounds_comm _ _ hji]; exact k2

theorem closeW_size (i : Nat) : ∀ (f : Nat) (l : Array Bool), (closeW ops i f l).size = l.size
  | 0, l => rfl
  | f + 1, l => by
    simp only [closeW]
    split
    · rw [closeW_size i f]; simp
    · rfl

theorem closeW_mono (i k : Nat) : ∀ (f : Nat) (l : Array Bool), l.getD k false = true → (closeW ops i f l).getD k false = true
  | 0, l, h => h
  | f + 1, l, h => by
    simp only [closeW]
    split
    · exact closeW_mono i k f _ (getD_set_true h)
    · exact h

/-- What lies aside stays aside. -/
theorem Post.aside {μ μ' : Mu} {h h' : AH} {w w' : World} {a : Nat} {x : AObj} (hr : Rel μ (h.set a x) w) (hg : h.get a = none) (ha : a < h.next) (hp : Post (· < h.next) μ h w μ' h' w') : Post (· < h.next) μ (h.set a x) w μ' (h'.set a x) w' := by
  obtain ⟨p, hpa, hfa, hoa⟩ := hr.obj a x (by simp)
  have hlt := hoa.lt
  have hno : ¬ Own μ h p.block := by
    rintro ⟨id, o, q, h1, h2, h3⟩
    have hne : id ≠ a := fun e => by subst e; rw [hg] at h1; cases h1
    exact hne (hr.inj id a o x q p (by rw [AH.get_set_ne _ _ hne]; exact h1) (by simp) h2 hpa h3)
  obtain ⟨f1, f2, f3⟩ := hp.frame p.block hlt hfa hno
  have hpa' : μ'.obj a = some p := hp.le.obj _ _ hpa
  refine ⟨⟨hp.rel.fro, fun id q hq => hp.rel.dom id q hq, ?_, ?_⟩, hp.le, hp.os, hp.tape, hp.output, hp.size, hp.next, hp.res, ?_⟩
  · intro id o ho
    by_cases e : id = a
    · subst e
      simp only [AH.get_set_same, Option.some.injEq] at ho; subst ho
      exact ⟨p, hpa', f2, hoa.mono hp.le f1⟩
    · rw [AH.get_set_ne _ _ e] at ho; exact hp.rel.obj id o ho
  · intro i j oi oj pi pj hi hj hpi hpj hb
    by_cases ei : i = a
    · by_cases ej : j = a
      · rw [ei, ej]
      · subst ei
        rw [hpa'] at hpi; injection hpi with hpi; subst hpi
        rw [AH.get_set_ne _ _ ej] at hj
        exact absurd ⟨j, oj, pj, hj, hpj, hb.symm⟩ f3
    · by_cases ej : j = a
      · subst ej
        rw [hpa'] at hpj; injection hpj with hpj; subst hpj
        rw [AH.get_set_ne _ _ ei] at hi
        exact absurd ⟨i, oi, pi, hi, hpi, hb⟩ f3
      · rw [AH.get_set_ne _ _ ei] at hi
        rw [AH.get_set_ne _ _ ej] at hj
        exact hp.rel.inj i j oi oj pi pj hi hj hpi hpj hb
  · intro b hb hf hno'
    have hno2 : ¬ Own μ h b := by
      rintro ⟨id, o, q, h1, h2, h3⟩
      have hne : id ≠ a := fun e => by subst e; rw [hg] at h1; cases h1
      exact hno' ⟨id, o, q, by rw [AH.get_set_ne _ _ hne]; exact h1, h2, h3⟩
    obtain ⟨g1, g2, g3⟩ := hp.frame b hb hf hno2
    refine ⟨g1, g2, ?_⟩
    rintro ⟨id, o, q, h1, h2, h3⟩
    by_cases e : id = a
    · subst e
      rw [hpa'] at h2; injection h2 with h2; subst h2
      exact hno' ⟨id, x, p, by simp, hpa, h3⟩
    · rw [AH.get_set_ne _ _ e] at h1
      exact g3 ⟨id, o, q, h1, h2, h3⟩

theorem ACalls.aside {f : FuncId} {args : List AV} {h : AH} {R : AR} {a : Nat} {x : AObj} (hg : h.get a = none) (ha : a < h.next) (hc : ACalls C f args h R) : ACalls C f args (h.set a x) (fun r h' => ∃ h1, h' = h1.set a x ∧ R r h1) := by
  intro μ w as hr hG hv
  have hr0 : Rel μ h w := hr.sub (Nat.le_refl _) fun id o ho => by
    have hne : id ≠ a := fun e => by subst e; rw [hg] at ho; cases ho
    rw [AH.get_set_ne _ _ hne]; exact ho
  refine (hc μ w as hr0 hG hv).mono ?_
  rintro e w' ⟨r, h', μ', g1, g2, g3⟩
  exact ⟨r, h'.set a x, μ', g1, Post.aside hr hg ha g2, h', rfl, g3⟩

theorem aop_aside {i j : Nat} {oi oj : Oper} {c : Call} (hj : ops[j]? = some oj) (hc : Op.enters oj.op = some c) (hap : oi.apart ops oj = true) {v : AV} {x : AObj} {K : Env → AH → Prop} {e : Env} {h : AH} (hny : noYield C c e = true) (hg : h.get (base + i) = none) (hlt : base + i < h.next)
    (ha : AOp C ops base j K (fun _ _ _ => False) e h) : AOp C ops base j (fun e' h' => ∃ e1 h1, e' = e1.put oi.dst v ∧ h' = h1.set (base + i) x ∧ K e1 h1) (fun _ _ _ => False) (e.put oi.dst v) (h.set (base + i) x) := by
  obtain ⟨p1, p2, p3⟩ := Oper.apart_spec hap
  have hop : oj.op = .call c := by
    generalize oj.op = op at *
    unfold Op.enters at hc
    split at hc
    · split at hc
      · cases hc
      · injection hc with hc; subst hc; rfl
    · cases hc
  unfold AOp at *
  rw [hj] at *
  simp only at ha ⊢
  obtain ⟨hdst, ha⟩ := ha
  refine ⟨by unfold dstOk at *; rw [Env.put_n]; exact hdst, ?_⟩
  rw [wantedA_put e oi.dst v oj p1]
  have hcomm : ∀ u, (e.put oi.dst v).put oj.dst u = (e.put oj.dst u).put oi.dst v := fun u => Env.put_comm e v u p2
  cases hw : wantedA e oj ops with
  | none => rw [hw] at ha; exact ha
  | some b =>
    rw [hw] at ha
    cases b with
    | false => exact ⟨_, _, hcomm _, rfl, ha⟩
    | true =>
      rw [hop] at ha ⊢
      have hent : Op.enters (.call c) = some c := by rw [← hop]; exact hc
      simp only [hent] at ha ⊢
      have hlook := aeval_put_looks (C := C) e oi.dst v oj p1
      refine ACall_congr (e := e) (fun y hy => (hlook y (by rw [hop]; exact hy)).symm) ?_
      unfold ACall at ha ⊢
      unfold noYield at hny
      have hR : ∀ {f : FuncId} {args : List AV}, ACalls C f args h (fun r h' => match r with | .ret v => K (e.put oj.dst v) h' | .pan v => False) →
          ACalls C f args (h.set (base + i) x) (fun r h' => match r with
            | .ret u => ∃ e1 h1, (e.put oi.dst v).put oj.dst u = e1.put oi.dst v ∧ h' = h1.set (base + i) x ∧ K e1 h1
            | .pan u => False) := fun hcall => (hcall.aside hg hlt).mono fun r h' hr => by
        obtain ⟨h1, rfl, hr⟩ := hr
        cases r with
        | ret u => exact ⟨_, _, hcomm u, rfl, hr⟩
        | pan u => exact hr
      split at ha
      · rename_i f hf
        obtain ⟨fv, args, h1, h2, h3⟩ := ha
        rw [hf] at hny
        simp only at hny
        rw [h1] at hny
        refine ⟨fv, args, h1, h2, ?_⟩
        unfold ACallV at h3 ⊢
        split at h3
        · exact ⟨h3.1, hR h3.2⟩
        · cases hny
        · exact h3.elim
      · rename_i r name hf
        obtain ⟨t, y, f, args, h1, h2, h3, h4, h5⟩ := ha
        exact ⟨t, y, f, args, h1, h2, h3, h4, hR h5⟩
      · exact ha.elim

theorem dropW_comm (i j : Nat) (wt : List (Nat × Oper × AV)) : dropW ops i (dropW ops j wt) = dropW ops j (dropW ops i wt) := by
  simp only [dropW, List.filter_filter]
  congr 1
  funext p
  exact Bool.and_comm _ _

theorem ACanon.any : ∀ (f : Nat) (listed : Array Bool) (wt : List (Nat × Oper × AV)) (e : Env) (h : AH), (∀ p ∈ wt, QV C ops p.2.1 p.2.2 e h) → ACanon C ops base K f listed wt e h → AAny C ops base K f listed wt e h := by
  intro f
  induction f using Nat.strongRecOn with
  | ind f ihs =>
  cases f with
  | zero => exact fun listed wt e h _ hc => by unfold ACanon at hc; exact hc
  | succ f =>
    have ih := ihs f (Nat.lt_succ_self f)
    intro listed wt e h hw hc
    unfold ACanon at hc
    split at hc
    · rename_i hr
      exact ⟨fun _ => hc, fun i hi => by rw [hr] at hi; cases hi⟩
    · rename_i j hr
      refine ⟨fun hx => (by rw [hr] at hx; cases hx), fun i hi => ?_⟩
      rw [hr] at hi
      have : i = j := by simpa using hi
      subst this
      exact hc.mono (fun e' h' hk => ⟨hk.1, ih _ _ _ _ hk.1 hk.2⟩) (fun _ _ _ hq => hq)
    · rename_i j js hne hr
      split at hc
      · rename_i i hf
        obtain ⟨o, v, hi, hy, hfree, hd, hrest⟩ := hc
        have hr' : i ∈ Region.ready .any ops listed := by rw [hr]; exact List.mem_of_find?_eq_some hf
        refine AAny.first hi (fun d hd' => (hd d hd').1) f listed wt e h (Region.free_spec hi hfree) (fun p hp d hd' => (hd d hd').2 p hp) hw hr' hy (ih _ _ _ _ ?_ hrest)
        intro p hp
        rcases List.mem_cons.1 hp with rfl | hp
        · exact (QV.congr _ _ fun d hd' => (hd d hd').1).2 hy
        · exact (QV.congr _ _ fun d hd' => (hd d hd').2 p hp).2 (hw p hp)
      · rcases hc with hc | hc
        case inr =>
          obtain ⟨i, oj, oi, c, v, x, rfl, hj, hi, hcall, hny, hy, hap, hg, hlt, r1, r2, w1, hrun, hf1⟩ := hc
          obtain ⟨f, rfl⟩ : ∃ g, f = g + 1 := ⟨f - 1, by omega⟩
          simp only [Nat.add_sub_cancel] at hrun
          obtain ⟨p1, p2, p3⟩ := Oper.apart_spec hap
          refine ⟨fun hx => (by rw [hr] at hx; cases hx), fun k hk => ?_⟩
          rw [hr] at hk
          rcases List.mem_cons.1 hk with rfl | hk
          · -- the call, then the object
            have hrun' : AOp C ops base k (fun e' h' => ((∀ p ∈ dropW ops k wt, QV C ops p.2.1 p.2.2 e' h') ∧ (∀ p ∈ dropW ops i (dropW ops k wt), QV C ops p.2.1 p.2.2 (e'.put oi.dst v) (h'.set (base + i) x)) ∧
                ACanon C ops base K f ((listed.setIfInBounds k true).setIfInBounds i true) (dropW ops i (dropW ops k wt)) (e'.put oi.dst v) (h'.set (base + i) x)) ∧ FV C ops base i oi v x e') (fun _ _ _ => False) e h := by
              refine (aop_env' hj hrun).mono (fun e' h' hk' => ?_) (fun _ _ _ hq => hq)
              obtain ⟨k1, u, rfl⟩ := hk'
              exact ⟨k1, hy.congr' _ _ p3⟩
            refine hrun'.mono (fun e' h' hk' => ?_) (fun _ _ _ hq => hq)
            obtain ⟨⟨k1, k2, k3⟩, k4⟩ := hk'
            refine ⟨k1, fun hx => (by rw [r1] at hx; cases hx), fun m hm => ?_⟩
            rw [r1] at hm
            have : m = i := by simpa using hm
            subst this
            exact k4.aop hi ⟨k2, ihs f (by omega) _ _ _ _ k2 k3⟩
          · -- the object, then the call
            have : k = i := by simpa using hk
            subst this
            refine hy.aop hi ⟨w1, fun hx => (by rw [r2] at hx; cases hx), fun m hm => ?_⟩
            rw [r2] at hm
            have : m = j := by simpa using hm
            subst this
            refine (aop_aside (v := v) (x := x) hj hcall hap hny hg hlt hrun).mono (fun e' h' hk' => ?_) (fun _ _ _ hq => hq)
            obtain ⟨e1, h1, rfl, rfl, k1, k2, k3⟩ := hk'
            rw [dropW_comm] at k2 k3
            refine ⟨k2, ihs f (by omega) _ _ _ _ k2 ?_⟩
            rw [Array.setIfInBounds_comm] at k3
            · exact k3
            · rintro rfl
              have := (mem_ready.1 (show m ∈ Region.ready .any ops (listed.setIfInBounds m true) by rw [r1]; simp)).1
              simp at this
        obtain ⟨o, v, x, hi, hy, hfr, hd, hrest⟩ := hc
        simp only [freshB, Bool.and_eq_true, List.all_eq_true, beq_iff_eq, List.mem_range, Bool.or_eq_true, Bool.not_eq_true'] at hfr
        obtain ⟨⟨⟨_, f2⟩, f3⟩, f4⟩ := hfr
        have hwt : ∀ p ∈ wt, Op.still p.2.1.op = true ∧ ∀ d, o.dst = some d → d ∉ p.2.1.looksAt ops := fun p hp => ⟨f4 p hp, fun d hd' => (hd d hd').2 p hp⟩
        refine AAny.firstFresh hi (fun d hd' => (hd d hd').1) (L := closeW ops j ops.size listed) f2 (l₀ := listed) ?_ f listed wt e h hwt ?_ (fun _ hk => hk) (closeW_size _ _ _) hw (by rw [hr]; simp) hy (ih _ _ _ _ (fun p hp => ((QV.congr _ _ (hwt p hp).2).2 (hw p hp)).still (hwt p hp).1 _) hrest)
        · intro k ok hk hL hl
          have hlt := (Array.getElem?_eq_some_iff.1 hk).1
          have := (f3 k hlt).2
          rw [hk] at this
          simp only [Bool.and_eq_true, Bool.or_eq_true] at this
          rcases this with (h1 | h1) | h1
          · rw [hl] at h1; cases h1
          · rw [hL] at h1; cases h1
          · exact h1
        · intro k hk
          exact closeW_mono j k _ _ hk

theorem aany_rel (hC : CtxOk C) {F : Fence} (hF : F = Fence.wide ∨ ∃ l, F = Fence.wide.inRound l) {Q : AQ} (hK : ∀ e h, K e h → Q .normal e h) {μ₀ : Mu} {h₀ : AH} {w₀ : World} (hG : GOk C μ₀) (hb : h₀.next ≤ base) :
    ∀ (f : Nat) (listed : Array Bool) {wt : List (Nat × Oper × AV)} {e : Env} {h : AH}, AAny C ops base K f listed wt e h → ∀ {μ : Mu} {w : World} {a : Act}, Post (· < h₀.next) μ₀ h₀ w₀ μ h w → ERel μ e.v e.n a.tmps → DRel μ e.ds a.defers →
      (∀ k, k < ops.size → listed.getD k true = false → μ.obj (base + k) = none) → base + ops.size ≤ h.next →
      wpAnyIn F 0 C.P .any ops (AAfter μ₀ h₀ w₀ Q) f listed a w
  | 0, listed, wt, e, h, ha, μ, w, a, hp, he, hd, _, _ => ⟨ha.1, .normal, e, h, μ, rfl, hp, he, hd, hK _ _ ha.2⟩
  | f + 1, listed, wt, e, h, ha, μ, w, a, hp, he, hd, hfr, hnx => by
    refine ⟨fun hr => ⟨.normal, e, h, μ, rfl, hp, he, hd, hK _ _ (ha.1 hr)⟩, fun i hi => ?_⟩
    have hun := (mem_ready.1 hi).1
    refine aop_rel hC hF (ha.2 i hi) hp.rel (hG.mono hp.le) he hd (fun hlt => hfr i hlt hun) (fun hi => by omega) ?_ ?_
    · intro μ' w' a' e' h' hp' he' hd' hk
      refine aany_rel hC hF hK hG hb f _ hk.2 (hp.trans (hp'.lower fun id hid => ⟨by omega, Nat.lt_of_lt_of_le hid hp.next⟩)) he' hd' ?_ (Nat.le_trans hnx hp'.next)
      intro k hks hkun
      have hlt : i < listed.size := by
        rcases Nat.lt_or_ge i listed.size with h' | h'
        · exact h'
        · simp [Array.getElem?_eq_none h'] at hun
      have hne : i ≠ k := fun x => by subst x; simp [hlt] at hkun
      rw [getD_set_ne true hne] at hkun
      rw [hp'.res (base + k) ⟨by omega, by omega⟩]; exact hfr k hks hkun
    · intro μ' w' e' h' v V hp' he' hd' hv hq
      exact hq.elim
end

/-- **A region that draws its order.** -/
theorem asem_draw {C : Ctx} (hC : CtxOk C) (hm : C.P.follows .mixedOrders = true) {ro : Option Nat} {id : Nat} {ops : Array Oper} {Q : AQ} {e : Env} {h : AH}
    (ha : ACanon C ops h.next (fun e h => Q .normal e h) ops.size (Array.replicate ops.size false) [] e (h.up (h.next + ops.size))) : ASem C ro (.region id ops true) Q e h := by
  intro μ w a hr hG hro he hd
  refine wpIn_region_any hm ?_
  have hp : Post (· < h.next) μ h w μ (h.up (h.next + ops.size)) { w with drawn := w.drawn + 1 } := (Post.drew _ hr).trans (Post.up _ hr.drew (by omega))
  refine aany_rel hC (fenceOf_cases μ ro) (fun _ _ hk => hk) hG (Nat.le_refl _) _ _ (ACanon.any _ _ _ _ _ (by simp) ha) hp he hd ?_ (Nat.le_refl _)
  intro k _ _
  exact hr.none_of_le (by omega)
end Go.Am
