/- The abstract machine over symbolic values: what a piece of code asks for, as a statement that the kernel computes. -/
import Derived.Test.YtpkljgaokgfpnaaGreatDoorAmPstep2
set_option linter.unusedVariables false
set_option linter.unusedSimpArgs false
namespace Go.Am
open Go

abbrev Loc := Option (FuncId × List Bool)
def Loc.go (l : Loc) (b : Bool) : Loc := match l with
  | some (f, p) => some (f, b :: p)
  | none => none
/-- What is known: of functions whose values are told by their arguments; of loops (by where they stand: the path from the body's root, its last step first). -/
structure Specs where
  P : FuncId → Option (List AV → (AV → Prop) → Prop)
  L : Loc → Option (Option Nat → Env → AH → AQ → Prop)
  R : Loc → Option (Option Nat → Env → AH → AQ → Prop) := fun _ => none

def Specs.plain (P : FuncId → Option (List AV → (AV → Prop) → Prop)) (L : Loc → Option (Option Nat → Env → AH → AQ → Prop)) : Specs := { P := P, L := L }
/-- The value of a guard is settled as soon as it is known. -/
def spl (g : Bool) (v : AV) (f : AV → Prop) : Prop :=
  match g, v with
  | true, .bool b => cas b (f (.bool true)) (f (.bool false))
  | _, v => f v
theorem spl_ok {g : Bool} {v : AV} {f : AV → Prop} (h : spl g v f) : f v := by
  unfold spl at h
  split at h
  · rename_i b
    rw [cas_iff] at h
    cases b
    · exact h.2 rfl
    · exact h.1 rfl
  · exact h
def isGuard (ops : Array Oper) (i : Nat) : Bool := ops.any fun o => match o.guard with
  | some (j, _) => Nat.beq j i
  | none => false

def bodyP (C : Ctx) (fn : Func) (R : AR) : AQ := fun x e h =>
  match x with
  | .normal | .ret => match ashut e.ds h with
    | some h' => match aresults C e h' fn with
      | some v => R (.ret v) h'
      | none => False
    | none => False
  | .panic v => match ashut e.ds h with
    | some h' => R (.pan v) h'
    | none => False
  | .exit _ => False
theorem bodyP_ok {C : Ctx} {fn : Func} {R : AR} {x : AX} {e : Env} {h : AH} (hp : bodyP C fn R x e h) : bodyQ C fn R x e h := by
  cases x <;> simp only [bodyP] at hp <;> simp only [bodyQ]
  case normal =>
    split at hp
    · rename_i h' h1
      split at hp
      · rename_i v h2; exact ⟨_, _, h1, h2, hp⟩
      · exact hp.elim
    · exact hp.elim
  case ret =>
    split at hp
    · rename_i h' h1
      split at hp
      · rename_i v h2; exact ⟨_, _, h1, h2, hp⟩
      · exact hp.elim
    · exact hp.elim
  case panic =>
    split at hp
    · rename_i h' h1; exact ⟨_, h1, hp⟩
    · exact hp.elim

def seqQ (K : Env → AH → Prop) (Q : AQ) : AQ := fun x e h => match x with
  | .normal => K e h
  | .exit i => Q (.exit i) e h
  | .ret => Q .ret e h
  | .panic v => Q (.panic v) e h
theorem seqQ_ok {K : Env → AH → Prop} {Q : AQ} {x : AX} {e : Env} {h : AH} (hs : seqQ K Q x e h) : AX.seq K Q x e h := by cases x <;> exact hs
def blockQ (id : Nat) (Q : AQ) : AQ := fun x e h => match x with
  | .exit i => match Nat.beq i id with
    | true => Q .normal e h
    | false => Q (.exit i) e h
  | .normal => Q .normal e h
  | .ret => Q .ret e h
  | .panic v => Q (.panic v) e h
theorem blockQ_ok {id : Nat} {Q : AQ} {x : AX} {e : Env} {h : AH} (hs : blockQ id Q x e h) : AX.block id Q x e h := by
  cases x <;> simp only [blockQ] at hs <;> simp only [AX.block] <;> try exact hs
  split at hs
  · rename_i hb; rw [if_pos (Nat.eq_of_beq_eq_true hb)]; exact hs
  · rename_i hb; rw [if_neg (not_beq hb)]; exact hs
def rangeP (lp : Nat) (Q : AQ) (e : Env) : AR := fun r h =>
  match r with
  | .pan v => Q (.panic v) e h
  | .ret _ => match h.get lp with
    | some (.loop .busy _ _ _ _ _ _ _) => False
    | some (.loop _ none _ _ _ _ _ _) => Q .normal e (h.del lp)
    | some (.loop _ (some .ret) _ _ _ _ _ _) => Q .ret e (h.del lp)
    | some (.loop _ (some (.exit i)) _ _ _ _ _ _) => Q (.exit i) e (h.del lp)
    | _ => False
theorem rangeP_ok {lp : Nat} {Q : AQ} {e : Env} {r : AEnd} {h : AH} (hp : rangeP lp Q e r h) : rangeR lp Q e r h := by
  cases r with
  | pan v => exact hp
  | ret v =>
    simp only [rangeP] at hp
    simp only [rangeR]
    split at hp
    · exact hp.elim
    · rename_i hb hl; exact ⟨_, _, _, _, _, _, _, _, hl, fun x => hb x, hp⟩
    · rename_i hb hl; exact ⟨_, _, _, _, _, _, _, _, hl, fun x => hb x, hp⟩
    · rename_i hb hl; exact ⟨_, _, _, _, _, _, _, _, hl, fun x => hb x, hp⟩
    · exact hp.elim
def roundP (id : Nat) (R : AR) : AQ := fun x _ h =>
  match h.get id with
  | some (.loop _ _ n env ps assign body dfr) => match x with
    | .normal => R (.ret (.bool true)) (h.set id (.loop .ready none n env ps assign body dfr))
    | .ret => R (.ret (.bool false)) (h.set id (.loop .done (some .ret) n env ps assign body dfr))
    | .exit i => R (.ret (.bool false)) (h.set id (.loop .done (some (.exit i)) n env ps assign body dfr))
    | .panic _ => False
  | _ => False

/-! ### Drawn regions: what is watched stays what it was -/
/-- Does this operation call a function whose value is told by its arguments? -/
def pureCall (C : Ctx) (S : Specs) (o : Op) (e : Env) : Bool :=
  match Op.enters o with
  | some c => match c.callee with
    | .value f => match aeval C e f with
      | some (.func (.func f) _ _) => (S.P f).isSome
      | _ => false
    | _ => false
  | none => false
def keepsOne (C : Ctx) (S : Specs) (o : Op) (nid : Nat) (e : Env) (p : Op) : Bool :=
  match Op.still p || Op.quiet o || pureCall C S o e with
  | true => true
  | false => match p with
    | .load _ q => match aeval C e q with
      | some (.kptr _) => true
      | some (.ptr id _) => match o with
        | .store _ r _ => match aeval C e r with
          | some (.ptr id' _) => !Nat.beq id id'
          | _ => false
        | _ => Op.fresh o && !Nat.beq id nid
      | _ => false
    | _ => false
def apartD (ops : Array Oper) (d : Option Tmp) (p : Oper) : Bool :=
  match d with
  | none => true
  | some t => !(p.looksAt ops).contains t
/-- What is watched yields what it yielded. -/
def reqv (C : Ctx) (ops : Array Oper) (p : Nat × Oper × AV) (e : Env) (h : AH) (P : Prop) : Prop :=
  match dstB e p.2.1.dst, Op.quiet p.2.1.op, wantedA e p.2.1 ops with
  | true, true, some false => p.2.2 = .undef ∧ P
  | true, true, some true => pstep C p.2.1.op e h 0 fun v _ => v = p.2.2 ∧ P
  | _, _, _ => False
def keepsP (C : Ctx) (S : Specs) (ops : Array Oper) (o : Oper) (nid : Nat) (e e' : Env) (h' : AH) (P : Prop) : List (Nat × Oper × AV) → Prop
  | [] => P
  | p :: wt => match apartD ops o.dst p.2.1 && keepsOne C S o.op nid e p.2.1.op with
    | true => keepsP C S ops o nid e e' h' P wt
    | false => reqv C ops p e' h' (keepsP C S ops o nid e e' h' P wt)

mutual
def wpC (C : Ctx) (S : Specs) : Nat → Option Nat → Loc → Code → AQ → Env → AH → Prop
  | 0, _, _, _, _, _, _ => False
  | n + 1, ro, loc, c, Q, e, h =>
    match c with
    | .skip => Q .normal e h
    | .label _ => Q .normal e h
    | .exit i => Q (.exit i) e h
    | .ret => Q .ret e h
    | .seq x y => wpC C S n ro (loc.go false) x (seqQ (wpC C S n ro (loc.go true) y Q) Q) e h
    | .cond c x y => match aeval C e c with
      | some (.bool b) => cas b (wpC C S n ro (loc.go false) x Q e h) (wpC C S n ro (loc.go true) y Q e h)
      | _ => False
    | .block id c => wpC C S n ro (loc.go false) c (blockQ id Q) e h
    | .scope c => wpC C S n ro (loc.go false) c Q e h
    | .loop c => match S.L loc with
      | some spec => spec ro e h Q
      | none => wpC C S n ro (loc.go false) c (seqQ (wpC C S n ro loc (.loop c) Q) Q) e h
    | .region _ ops false => wpL C S n ops h.next 0 ops.toList Q e (h.up (h.next + ops.size))
    | .region _ ops true => wpD C S n ops h.next ops.size (Array.replicate ops.size false) [] (fun e h => Q .normal e h) e (h.up (h.next + ops.size))
    | .rangeFunc g ps assign body => match S.R loc with
      | some spec => spec ro e h Q
      | none => match aeval C e g, aenter ro ps assign body e h with
        | some (.func (.func f) fi ca), some (lp, e', h1) => match (C.F f).isSome with
          | true => wpF C S n f (fi ++ [.yield lp] ++ ca) (rangeP lp Q e') h1
          | false => False
        | _, _ => False
    | _ => False
termination_by structural x => x
def wpL (C : Ctx) (S : Specs) : Nat → Array Oper → Nat → Nat → List Oper → AQ → Env → AH → Prop
  | 0, _, _, _, _, _, _, _ => False
  | n + 1, ops, base, i, l, Q, e, h => match l with
    | [] => Q .normal e h
    | o :: l => wpO C S n ops base i o (wpL C S n ops base (i + 1) l Q) Q e h
termination_by structural x => x
def wpD (C : Ctx) (S : Specs) : Nat → Array Oper → Nat → Nat → Array Bool → List (Nat × Oper × AV) → (Env → AH → Prop) → Env → AH → Prop
  | 0, _, _, _, _, _, _, _, _ => False
  | n + 1, ops, base, f, listed, wt, K, e, h =>
    match f with
    | 0 => match Region.ready .any ops listed with
      | [] => K e h
      | _ => False
    | f + 1 => match Region.ready .any ops listed with
      | [] => K e h
      | [j] => match ops[j]? with
        | some o => wpO C S n ops base j o (fun e' h' => keepsP C S ops o (base + j) e e' h' (wpD C S n ops base f (listed.setIfInBounds j true) (dropW ops j wt) K e' h') (dropW ops j wt)) (fun _ _ _ => False) e h
        | none => False
      | j :: js => match firstQuiet ops (j :: js) with
        | some i => match ops[i]? with
          | some o => match Region.free .any ops listed i && selfB ops o wt && dstB e o.dst, wantedA e o ops with
            | true, some false => wpD C S n ops base f (listed.setIfInBounds i true) ((i, o, .undef) :: wt) K (e.putS o.dst .undef) h
            | true, some true => pstep C o.op e h 0 fun v _ => spl (isGuard ops i) v fun v => wpD C S n ops base f (listed.setIfInBounds i true) ((i, o, v) :: wt) K (e.putS o.dst v) h
            | _, _ => False
          | none => False
        | none => match ops[j]? with
          | some o => match freshB ops listed wt j o && selfB ops o wt && dstB e o.dst, wantedA e o ops with
            | true, some true => pstep C o.op e h (base + j) fun v h' => match h'.get (base + j) with
              | some x => wpD C S n ops base f (listed.setIfInBounds j true) wt K (e.putS o.dst v) (h.set (base + j) x)
              | none => False
            | _, _ => False
          | none => False
termination_by structural x => x
def wpO (C : Ctx) (S : Specs) : Nat → Array Oper → Nat → Nat → Oper → (Env → AH → Prop) → AQ → Env → AH → Prop
  | 0, _, _, _, _, _, _, _, _ => False
  | n + 1, ops, base, i, o, K, Q, e, h =>
    match dstB e o.dst, wantedA e o ops with
    | true, some false => K (e.putS o.dst .undef) h
    | true, some true => match o.op with
      | .panic x => match aeval C e x with
        | some (.iface t v) => Q (.panic (.iface t v)) e h
        | _ => False
      | .next _ _ => False
      | op => match Op.enters op with
        | some c => wpK C S n c (fun r h' => match r with
          | .ret v => spl (isGuard ops i) v fun v => K (e.putS o.dst v) h'
          | .pan v => Q (.panic v) e h') e h
        | none => pstep C op e h (base + i) fun v h' => spl (isGuard ops i) v fun v => K (e.putS o.dst v) h'
    | _, _ => False
termination_by structural x => x
def wpK (C : Ctx) (S : Specs) : Nat → Call → AR → Env → AH → Prop
  | 0, _, _, _, _ => False
  | n + 1, c, R, e, h => match c.callee with
    | .value f => match aeval C e f, aevals C e c.args.toList with
      | some (.func (.func f) fi ca), some args => match (C.F f).isSome with
        | true => wpF C S n f (fi ++ args ++ ca) R h
        | false => False
      | some (.yield id), some args => wpY C S n id args R h
      | _, _ => False
    | .invoke r name => match aeval C e r, aevals C e c.args.toList with
      | some (.iface t x), some args => match C.M t name with
        | some f => match (C.F f).isSome with
          | true => wpF C S n f (x :: args) R h
          | false => False
        | none => False
      | _, _ => False
    | .builtin _ => False
termination_by structural x => x
def wpF (C : Ctx) (S : Specs) : Nat → FuncId → List AV → AR → AH → Prop
  | 0, _, _, _, _ => False
  | n + 1, f, args, R, h =>
    match S.P f with
    | some spec => spec args fun v => R (.ret v) h
    | none => match C.F f with
      | some fn => match fn.body with
        | some c => match Nat.ble args.length fn.ntmps with
          | true => wpC C S n none (some (f, [])) c (bodyP C fn R) (envOf args fn.ntmps) h
          | false => False
        | none => False
      | none => False
termination_by structural x => x
def wpY (C : Ctx) (S : Specs) : Nat → Nat → List AV → AR → AH → Prop
  | 0, _, _, _, _ => False
  | m + 1, id, args, R, h =>
    match h.get id with
    | some (.loop .ready pend n env ps assign body dfr) => match Nat.beq args.length ps.size && ps.toList.all (Nat.blt · n) with
      | true => wpC C S m (some id) none assign (fun x e1 h1 => match x with
        | .normal => match h1.get id with
          | some (.loop .ready pend₁ n₁ env₁ ps₁ as₁ bd₁ dfr₁) => wpC C S m (some id) none body (roundP id R) e1 (h1.set id (.loop .busy pend₁ n₁ env₁ ps₁ as₁ bd₁ dfr₁))
          | _ => False
        | _ => False) ⟨n, envWith ps.toList args env, []⟩ h
      | false => False
    | _ => False
termination_by structural x => x
end
end Go.Am
