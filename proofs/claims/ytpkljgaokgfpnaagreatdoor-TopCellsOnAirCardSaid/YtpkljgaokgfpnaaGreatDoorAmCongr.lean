/- What an operation looks at, and that it looks at no more. -/
import Derived.Test.YtpkljgaokgfpnaaGreatDoorAmFun
set_option linter.unusedVariables false
set_option linter.unusedSimpArgs false
set_option linter.unusedSectionVars false
namespace Go.Am
open Go

theorem Tr.setF_comm {α : Type} (a b : Option α) : ∀ (f g : Nat) (t : Tr α) (n m : Nat), n < f → m < g → n ≠ m → (t.setF a f n).setF b g m = (t.setF b g m).setF a f n
  | 0, _, _, _, _, h, _, _ => absurd h (by omega)
  | _, 0, _, _, _, _, h, _ => absurd h (by omega)
  | f + 1, g + 1, t, n, m, hn, hm, hne => by
    simp only [Tr.setF_succ]
    by_cases n0 : n = 0
    · subst n0
      rw [if_pos rfl]
      have m0 : m ≠ 0 := fun e => hne e.symm
      rw [if_neg m0, if_neg m0]
      split <;> simp [Tr.here, Tr.left, Tr.right]
    · by_cases m0 : m = 0
      · subst m0
        simp only [n0, if_false, if_true]
        split <;> simp [Tr.here, Tr.left, Tr.right, n0, *]
      · simp only [n0, m0, if_false]
        by_cases n1 : n % 2 = 1
        · by_cases m1 : m % 2 = 1
          · simp only [n1, m1, if_true, Tr.here, Tr.left, Tr.right]
            exact congrArg (fun x => Tr.node t.here x t.right) (Tr.setF_comm a b f g t.left (n / 2) (m / 2) (by omega) (by omega) (by omega))
          · simp only [n1, m1, if_true, if_false, Tr.here, Tr.left, Tr.right]
        · by_cases m1 : m % 2 = 1
          · simp only [n1, m1, if_true, if_false, Tr.here, Tr.left, Tr.right]
          · simp only [n1, m1, if_false, Tr.here, Tr.left, Tr.right]
            exact congrArg (fun x => Tr.node t.here t.left x) (Tr.setF_comm a b f g t.right (n / 2 - 1) (m / 2 - 1) (by omega) (by omega) (by omega))
theorem Tr.set_comm {α : Type} (t : Tr α) {n m : Nat} (a b : Option α) (h : n ≠ m) : (t.set n a).set m b = (t.set m b).set n a := Tr.setF_comm a b _ _ t n m (by omega) (by omega) h

theorem Env.put_comm (e : Env) {x y : Option Tmp} (v u : AV) (h : ∀ d, x = some d → y ≠ some d) : (e.put x v).put y u = (e.put y u).put x v := by
  cases x with
  | none => cases y <;> rfl
  | some d =>
    cases y with
    | none => rfl
    | some c =>
      have hne : d ≠ c := fun he => h d rfl (he ▸ rfl)
      simp only [Env.put, Tr.put]
      rw [Tr.set_comm _ _ _ hne]
@[simp] theorem Env.put_n (e : Env) (x : Option Tmp) (v : AV) : (e.put x v).n = e.n := by unfold Env.put; split <;> rfl
@[simp] theorem Env.put_ds (e : Env) (x : Option Tmp) (v : AV) : (e.put x v).ds = e.ds := by unfold Env.put; split <;> rfl
theorem Env.put_get (e : Env) (d : Option Tmp) (v : AV) (t : Nat) (h : d ≠ some t) : (e.put d v).v.get t = e.v.get t := by
  unfold Env.put
  split
  · rename_i s; simp only [Tr.get_put]; rw [if_neg (fun x => h (by rw [x]))]
  · rfl

section
variable {C : Ctx} {e e' : Env}
theorem aevals_congr : ∀ {xs : List Operand}, (∀ x ∈ xs, aeval C e x = aeval C e' x) → aevals C e xs = aevals C e' xs
  | [], _ => rfl
  | x :: xs, h => by
    simp only [aevals]
    rw [h x (by simp), aevals_congr fun y hy => h y (by simp [hy])]
theorem aevalP_congr : ∀ {xs : List (Nat × Operand)}, (∀ x ∈ xs, aeval C e x.2 = aeval C e' x.2) → aevalP C e xs = aevalP C e' xs
  | [], _ => rfl
  | (i, x) :: xs, h => by
    simp only [aevalP]
    rw [h (i, x) (by simp), aevalP_congr fun y hy => h y (by simp [hy])]
theorem aevalO_congr {x : Option Operand} (h : ∀ y, x = some y → aeval C e y = aeval C e' y) : aevalO C e x = aevalO C e' x := by
  cases x with
  | none => rfl
  | some y => simp only [aevalO]; rw [h y rfl]

theorem astep_congr (o : Op) (h : AH) (nid : Nat) (hx : ∀ x ∈ o.operands, aeval C e x = aeval C e' x) : astep C o e h nid = astep C o e' h nid := by
  cases o <;> simp only [astep] <;> simp only [Op.operands] at hx
  case move x => rw [hx x (by simp)]
  case assign x => rw [hx x (by simp)]
  case pick c a b => rw [hx c (by simp), hx a (by simp), hx b (by simp)]
  case box t x => rw [hx x (by simp)]
  case build t ps => rw [aevalP_congr fun x h => hx x.2 (by simp; exact ⟨x.1, by simpa using h⟩)]
  case buildSlice t n ps => rw [aevalP_congr fun x h => hx x.2 (by simp; exact ⟨x.1, by simpa using h⟩)]
  case load t p => rw [hx p (by simp)]
  case store t p x => rw [hx p (by simp), hx x (by simp)]
  case nilCheck x => rw [hx x (by simp)]
  case binOp op t x y t2 => rw [hx x (by simp), hx y (by simp)]
  case unOp op t x => rw [hx x (by simp)]
  case convert s d x => rw [hx x (by simp)]
  case makeInterface t x => rw [hx x (by simp)]
  case makeFunc fn fi ca => rw [aevals_congr fun x h => hx x (by simp; exact .inl (by simpa using h)), aevals_congr fun x h => hx x (by simp; exact .inr (by simpa using h))]
  case makeMap t r =>
    cases r with
    | none => rfl
    | some x => simp only; rw [hx x (by simp)]
  case makeSlice t l c => rw [hx l (by simp), hx c (by simp)]
  case slice t x lo hi mx =>
    rw [hx x (by simp), aevalO_congr (x := lo) fun y h => hx y (by simp [h]), aevalO_congr (x := hi) fun y h => hx y (by simp [h]), aevalO_congr (x := mx) fun y h => hx y (by simp [h])]
  case fieldAddr s p f => rw [hx p (by simp)]
  case field s x f => rw [hx x (by simp)]
  case indexAddr t x i => rw [hx x (by simp), hx i (by simp)]
  case index t x i => rw [hx x (by simp), hx i (by simp)]
  case lookup t m k ok => rw [hx m (by simp), hx k (by simp)]
  case mapUpdate t m k x => rw [hx m (by simp), hx k (by simp), hx x (by simp)]
  case insert t m k x => rw [hx m (by simp), hx k (by simp), hx x (by simp)]
  case mapEntry t m k => rw [hx m (by simp), hx k (by simp)]
  case entryStore t m s x => rw [hx m (by simp), hx s (by simp), hx x (by simp)]
  case range t x => rw [hx x (by simp)]
  case entry x => rw [hx x (by simp)]
  case extract t i => rw [hx t (by simp)]
  case typeAssert x s t ok => rw [hx x (by simp)]
  case call c =>
    cases hc : c.callee <;> simp only
    rw [aevals_congr fun x h => hx x (by simp only [Call.operands]; simp; exact .inr (by simpa using h))]
end

theorem aeval_put {C : Ctx} (e : Env) (d : Option Tmp) (v : AV) (x : Operand) (h : ∀ t, x = .tmp t → d ≠ some t) : aeval C (e.put d v) x = aeval C e x := by
  cases x with
  | tmp t => simp only [aeval]; exact Env.put_get e d v t (h t rfl)
  | _ => rfl
theorem looks_operand {ops : Array Oper} {o : Oper} {t : Tmp} (h : .tmp t ∈ o.op.operands) : t ∈ o.looksAt ops :=
  List.mem_append_left _ (List.mem_filterMap.2 ⟨.tmp t, by simpa using h, rfl⟩)
theorem aeval_put_looks {C : Ctx} {ops : Array Oper} (e : Env) (d : Option Tmp) (v : AV) (o : Oper) (h : ∀ t, d = some t → t ∉ o.looksAt ops) : ∀ x ∈ o.op.operands, aeval C (e.put d v) x = aeval C e x :=
  fun x hx => aeval_put e d v x fun t ht hd => h t hd (looks_operand (ht ▸ hx))
theorem astep_put {C : Ctx} {ops : Array Oper} (e : Env) (d : Option Tmp) (v : AV) (o : Oper) (h : ∀ t, d = some t → t ∉ o.looksAt ops) (hp : AH) (nid : Nat) : astep C o.op (e.put d v) hp nid = astep C o.op e hp nid :=
  astep_congr o.op hp nid (aeval_put_looks e d v o h)
theorem wantedA_put {ops : Array Oper} (e : Env) (d : Option Tmp) (v : AV) (o : Oper) (h : ∀ t, d = some t → t ∉ o.looksAt ops) : wantedA (e.put d v) o ops = wantedA e o ops := by
  unfold wantedA
  cases hg : o.guard with
  | none => rfl
  | some gw =>
    obtain ⟨g, want⟩ := gw
    simp only
    cases ht : (ops[g]?).bind (·.dst) with
    | none => rfl
    | some t =>
      simp only
      rw [Env.put_get e d v t fun hd => h t hd (by simp [Oper.looksAt, hg, ht])]
end Go.Am
