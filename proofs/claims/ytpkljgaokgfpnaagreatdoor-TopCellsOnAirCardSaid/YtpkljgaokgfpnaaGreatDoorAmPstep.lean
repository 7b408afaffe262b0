/- One operation over symbolic values: what has to hold is asked for as a Bool, so that the kernel walks on with what is not known yet. -/
import Derived.Test.YtpkljgaokgfpnaaGreatDoorAmEval
set_option linter.unusedVariables false
set_option linter.unusedSimpArgs false
namespace Go.Am
open Go

/-- b holds, and then P. -/
def req (b : Bool) (P : Prop) : Prop := match b with
  | true => P
  | false => False
/-- P if b holds, else Q. -/
def cas (b : Bool) (P Q : Prop) : Prop := match b with
  | true => P
  | false => Q
theorem req_iff {b : Bool} {P : Prop} : req b P ↔ b = true ∧ P := by cases b <;> simp [req]
theorem cas_iff {b : Bool} {P Q : Prop} : cas b P Q ↔ (b = true → P) ∧ (b = false → Q) := by cases b <;> simp [cas]

/-! ### Values, seen by their kinds -/
def intOf : AV → Int
  | .int _ n => n
  | _ => 0
def boolOf : AV → Bool
  | .bool b => b
  | _ => false
def strOf : AV → ByteArray
  | .str s => s
  | _ => ByteArray.empty
def lstOf : AV → List (List AV)
  | .lst es _ => es
  | _ => []
def fullOf : AV → Bool
  | .lst _ f => f
  | _ => true
def isInt (k : IntKind) : AV → Bool
  | .int k' _ => decide (k' = k)
  | _ => false
def isBool : AV → Bool
  | .bool _ => true
  | _ => false
def isStr : AV → Bool
  | .str _ => true
  | _ => false
def isLst : AV → Bool
  | .lst _ _ => true
  | _ => false
/-- A cell of memory that lies still, by the kind of the type's zero. -/
def rety (z x : AV) : AV :=
  match z with
  | .int k _ => .int k (intOf x)
  | .bool _ => .bool (boolOf x)
  | .str _ => .str (strOf x)
  | .snil => .lst (lstOf x) (fullOf x)
  | _ => x
def okTy (z x : AV) : Bool :=
  match z with
  | .int k _ => isInt k x
  | .bool _ => isBool x
  | .str _ => isStr x
  | .snil => isLst x
  | _ => true
/-- A cell of memory that is owned. -/
def retyO (z x : AV) : AV :=
  match z with
  | .int k _ => .int k (intOf x)
  | .bool _ => .bool (boolOf x)
  | .str _ => .str (strOf x)
  | _ => x
def okTyO (z x : AV) : Bool :=
  match z with
  | .int k _ => isInt k x
  | .bool _ => isBool x
  | .str _ => isStr x
  | _ => true
theorem rety_eq {z x : AV} (h : okTy z x = true) : rety z x = x := by
  cases z <;> simp only [okTy] at h <;> simp only [rety]
  case bool => cases x <;> simp_all [isBool, boolOf]
  case int => cases x <;> simp_all [isInt, intOf]
  case str => cases x <;> simp_all [isStr, strOf]
  case snil => cases x <;> simp_all [isLst, lstOf, fullOf]
theorem retyO_eq {z x : AV} (h : okTyO z x = true) : retyO z x = x := by
  cases z <;> simp only [okTyO] at h <;> simp only [retyO]
  case bool => cases x <;> simp_all [isBool, boolOf]
  case int => cases x <;> simp_all [isInt, intOf]
  case str => cases x <;> simp_all [isStr, strOf]
def retyL (f : AV → AV → AV) (cs : List AV) : List AV → Nat → List AV
  | [], _ => []
  | z :: zs, j => f z (cs.getD j .undef) :: retyL f cs zs (j + 1)
def okTyL (f : AV → AV → Bool) (cs : List AV) : List AV → Nat → Bool
  | [], _ => true
  | z :: zs, j => f z (cs.getD j .undef) && okTyL f cs zs (j + 1)
theorem retyL_eq {f : AV → AV → AV} {g : AV → AV → Bool} (hfg : ∀ z x, g z x = true → f z x = x) (cs : List AV) : ∀ (zs : List AV) (j : Nat), okTyL g cs zs j = true → j + zs.length ≤ cs.length → retyL f cs zs j = (cs.drop j).take zs.length
  | [], j, _, _ => by simp [retyL]
  | z :: zs, j, h, hl => by
    simp only [okTyL, Bool.and_eq_true] at h
    simp only [List.length_cons] at hl
    have h1 := retyL_eq hfg cs zs (j + 1) h.2 (by omega)
    have hj : j < cs.length := by omega
    simp only [retyL, List.length_cons, h1, hfg _ _ h.1]
    rw [List.drop_eq_getElem_cons hj, List.take_succ_cons]
    simp [List.getD_eq_getElem?_getD, hj]

/-! ### The operations that ask -/
def pload (C : Ctx) (h : AH) (t : TypeId) (p : AV) (K : AV → Prop) : Prop :=
  match C.T t with
  | none => False
  | some i =>
    match Nat.beq i.zero.length i.size with
    | false => False
    | true => match p with
      | .kptr cs => req (Nat.ble i.size cs.length) (req (okTyL okTy cs i.zero 0) (match i.agg with
        | true => K (.agg (retyL rety cs i.zero 0))
        | false => match retyL rety cs i.zero 0 with
          | [x] => K x
          | _ => False))
      | .ptr id off => match h.get id with
        | some (.cells c) => req (Nat.ble (off + i.size) c.length) (req (okTyL okTyO c i.zero off) (match i.agg with
          | true => K (.agg (retyL retyO c i.zero off))
          | false => match retyL retyO c i.zero off with
            | [x] => K x
            | _ => False))
        | _ => False
      | _ => False
theorem pload_ok {C : Ctx} {h : AH} {t : TypeId} {p : AV} {K : AV → Prop} (hp : pload C h t p K) : ∃ v, aload C h t p = some v ∧ K v := by
  unfold pload at hp
  unfold aload
  cases hT : C.T t with
  | none => rw [hT] at hp; exact hp.elim
  | some i =>
    rw [hT] at hp
    simp only at hp ⊢
    split at hp
    · exact hp.elim
    · rename_i hz
      have hz := Nat.eq_of_beq_eq_true hz
      cases p <;> simp only at hp <;> try exact hp.elim
      case kptr cs =>
        simp only [req_iff] at hp
        obtain ⟨h1, h2, h3⟩ := hp
        have h1 := Nat.le_of_ble_eq_true h1
        have e := retyL_eq (fun z x hx => rety_eq hx) cs i.zero 0 h2 (by omega)
        rw [e] at h3
        simp only [List.drop_zero, hz] at h3
        cases ha : i.agg with
        | true =>
          rw [ha] at h3
          simp only [if_true, areads, if_pos h1, Option.map_some]
          exact ⟨_, rfl, h3⟩
        | false =>
          rw [ha] at h3
          simp only at h3
          split at h3
          · rename_i x hx
            simp only [Bool.false_eq_true, if_false, areads]
            have hs : i.size = 1 := by
              have := congrArg List.length hx
              simp at this
              omega
            rw [hs] at hx h1
            rw [if_pos h1, hx]
            exact ⟨x, rfl, h3⟩
          · exact h3.elim
      case ptr id off =>
        split at hp
        · rename_i c hg
          simp only [req_iff] at hp
          obtain ⟨h1, h2, h3⟩ := hp
          have h1 := Nat.le_of_ble_eq_true h1
          have e := retyL_eq (fun z x hx => retyO_eq hx) c i.zero off h2 (by omega)
          rw [e] at h3
          simp only [hz] at h3
          cases ha : i.agg with
          | true =>
            rw [ha] at h3
            simp only [if_true, areads, hg, if_pos h1, Option.map_some]
            exact ⟨_, rfl, h3⟩
          | false =>
            rw [ha] at h3
            simp only at h3
            split at h3
            · rename_i x hx
              simp only [Bool.false_eq_true, if_false, areads, hg]
              have hs : i.size = 1 := by
                have := congrArg List.length hx
                simp at this
                omega
              rw [hs] at hx h1
              rw [if_pos h1, hx]
              exact ⟨x, rfl, h3⟩
            · exact h3.elim
        · exact hp.elim

def pstore (C : Ctx) (h : AH) (t : TypeId) (p x : AV) (K : AH → Prop) : Prop :=
  match C.T t, p with
  | some i, .ptr id off => match h.get id with
    | some (.cells c) => req (Nat.beq x.cells.length i.size) (req (Nat.ble (off + x.cells.length) c.length) (req (allOne x.cells) (K (h.set id (.cells (splice c off x.cells))))))
    | _ => False
  | _, _ => False
theorem pstore_ok {C : Ctx} {h : AH} {t : TypeId} {p x : AV} {K : AH → Prop} (hp : pstore C h t p x K) : ∃ h', astore C h t p x = some h' ∧ K h' := by
  unfold pstore at hp
  unfold astore
  split at hp
  · rename_i i id off hT
    split at hp
    · rename_i c hg
      simp only [req_iff] at hp
      obtain ⟨h1, h2, h3, h4⟩ := hp
      rw [hT]
      simp only [awrites, hg, if_pos (Nat.eq_of_beq_eq_true h1), if_pos (And.intro (Nat.le_of_ble_eq_true h2) h3)]
      exact ⟨_, rfl, h4⟩
    · exact hp.elim
  · exact hp.elim

def pindexAddr (C : Ctx) (t : TypeId) (x i : AV) (K : AV → Prop) : Prop :=
  match C.T t, i with
  | some ti, .int _ n =>
    match ti.k, x with
    | .slice e, .sl id off len _ _ => match C.T e with
      | some te => req (decide (0 ≤ n) && decide (n < len)) (K (.ptr id (off + n.toNat * te.size)))
      | none => False
    | .slice e, .lst es _ => match C.T e with
      | some te => req (decide (0 ≤ n) && decide (n < es.length)) (req (Nat.beq (es.getD n.toNat []).length te.size) (K (.kptr (es.getD n.toNat []))))
      | none => False
    | .arr m e, p => match C.T e, p with
      | some te, .ptr id off => req (decide (0 ≤ n) && decide (n < m)) (K (.ptr id (off + n.toNat * te.size)))
      | some te, .kptr cs => req (decide (0 ≤ n) && decide (n < m)) (K (.kptr (cs.drop (n.toNat * te.size))))
      | _, _ => False
    | _, _ => False
  | _, _ => False
theorem pindexAddr_ok {C : Ctx} {t : TypeId} {x i : AV} {K : AV → Prop} (hp : pindexAddr C t x i K) : ∃ v, aindexAddr C t x i = some v ∧ K v := by
  unfold pindexAddr at hp
  unfold aindexAddr
  split at hp
  · rename_i ti k n hT
    rw [hT]
    simp only
    split at hp
    · rename_i e id off len cap sp hk
      rw [hk]
      split at hp
      · rename_i te hTe
        simp only [req_iff, Bool.and_eq_true, decide_eq_true_eq] at hp
        simp only [if_pos hp.1, hTe, Option.map_some]
        exact ⟨_, rfl, hp.2⟩
      · exact hp.elim
    · rename_i e es full hk
      rw [hk]
      split at hp
      · rename_i te hTe
        simp only [req_iff, Bool.and_eq_true, decide_eq_true_eq] at hp
        obtain ⟨⟨h1, h2⟩, h3, h4⟩ := hp
        have hlt : n.toNat < es.length := by omega
        have hg : es[n.toNat]? = some (es.getD n.toNat []) := by simp [List.getD_eq_getElem?_getD, hlt]
        simp only [if_pos h1, hg, hTe, if_pos (Nat.eq_of_beq_eq_true h3)]
        exact ⟨_, rfl, h4⟩
      · exact hp.elim
    · rename_i m e p hk
      rw [hk]
      split at hp
      · rename_i te id off hTe
        simp only [req_iff, Bool.and_eq_true, decide_eq_true_eq] at hp
        simp only [if_pos hp.1, hTe, Option.bind_some, pad]
        exact ⟨_, rfl, hp.2⟩
      · rename_i te cs hTe
        simp only [req_iff, Bool.and_eq_true, decide_eq_true_eq] at hp
        simp only [if_pos hp.1, hTe, Option.bind_some, pad]
        exact ⟨_, rfl, hp.2⟩
      · exact hp.elim
    · exact hp.elim
  · exact hp.elim

/-! ### Equality -/
def peqF (C : Ctx) (eq : TypeId → AV → AV → Option Bool) : List FI → List AV → List AV → Option Bool
  | [], _, _ => some true
  | f :: fs, xs, ys =>
    match f.blank with
    | true => peqF C eq fs xs ys
    | false => match apart C f.ty xs f.off, apart C f.ty ys f.off with
      | some a, some b => match eq f.ty a b, peqF C eq fs xs ys with
        | some u, some v => some (u && v)
        | _, _ => none
      | _, _ => none
def peqA (C : Ctx) (eq : TypeId → AV → AV → Option Bool) (e : TypeId) (sz : Nat) : Nat → Nat → List AV → List AV → Option Bool
  | 0, _, _, _ => some true
  | n + 1, i, xs, ys =>
    match apart C e xs (i * sz), apart C e ys (i * sz) with
    | some a, some b => match eq e a b, peqA C eq e sz n (i + 1) xs ys with
      | some u, some v => some (u && v)
      | _, _ => none
    | _, _ => none
def peq (C : Ctx) : Nat → TypeId → AV → AV → Option Bool
  | 0, _, _, _ => none
  | d + 1, t, x, y =>
    match C.T t with
    | none => none
    | some ti =>
      match ti.k, x, y with
      | .struct fs, .agg xs, .agg ys => match C.P.stoodInHeld t with
        | true => none
        | false => peqF C (peq C d) fs xs ys
      | .arr n e, .agg xs, .agg ys => match C.T e with
        | some te => peqA C (peq C d) e te.size n 0 xs ys
        | none => none
      | _, _, _ => aeq C (d + 1) t x y
theorem peqF_ok {C : Ctx} {eq eq' : TypeId → AV → AV → Option Bool} (hq : ∀ t x y b, eq t x y = some b → eq' t x y = some b) : ∀ (fs : List FI) (xs ys : List AV) (b : Bool), peqF C eq fs xs ys = some b → aeqF C eq' fs xs ys = some b
  | [], _, _, b, h => by simpa [peqF, aeqF] using h
  | f :: fs, xs, ys, b, h => by
    unfold peqF at h
    unfold aeqF
    split at h
    · rename_i hb; rw [if_pos hb]; exact peqF_ok hq fs xs ys b h
    · rename_i hb
      rw [if_neg (by simp [hb])]
      split at h
      · rename_i a c h1 h2
        rw [h1, h2]
        simp only
        split at h
        · rename_i u v h3 h4
          injection h with h; subst h
          rw [hq _ _ _ _ h3]
          cases u
          · simp
          · simpa using peqF_ok hq fs xs ys _ h4
        · cases h
      · cases h
theorem peqA_ok {C : Ctx} {eq eq' : TypeId → AV → AV → Option Bool} (hq : ∀ t x y b, eq t x y = some b → eq' t x y = some b) (e : TypeId) (sz : Nat) : ∀ (n i : Nat) (xs ys : List AV) (b : Bool), peqA C eq e sz n i xs ys = some b → aeqA C eq' e sz n i xs ys = some b
  | 0, _, _, _, b, h => by simpa [peqA, aeqA] using h
  | n + 1, i, xs, ys, b, h => by
    unfold peqA at h
    unfold aeqA
    split at h
    · rename_i a c h1 h2
      rw [h1, h2]
      simp only
      split at h
      · rename_i u v h3 h4
        injection h with h; subst h
        rw [hq _ _ _ _ h3]
        cases u
        · simp
        · simpa using peqA_ok hq e sz n (i + 1) xs ys _ h4
      · cases h
    · cases h
theorem peq_ok {C : Ctx} : ∀ (d : Nat) (t : TypeId) (x y : AV) (b : Bool), peq C d t x y = some b → aeq C d t x y = some b
  | 0, _, _, _, _, h => by cases h
  | d + 1, t, x, y, b, h => by
    unfold peq at h
    cases hT : C.T t with
    | none => rw [hT] at h; cases h
    | some ti =>
      rw [hT] at h
      simp only at h
      split at h
      · rename_i fs xs ys hk
        unfold aeq
        rw [hT]
        simp only [hk]
        split at h
        · cases h
        · rename_i hs
          rw [if_neg (by simp [hs])]
          exact peqF_ok (peq_ok d) _ _ _ _ h
      · rename_i n e xs ys hk
        unfold aeq
        rw [hT]
        simp only [hk]
        split at h
        · rename_i te hTe
          simp only [hTe, Option.bind_some]
          exact peqA_ok (peq_ok d) _ _ _ _ _ _ _ h
        · cases h
      · exact h

def pbin (C : Ctx) (op : BinOp) (t : TypeId) (x y : Operand) (a b : AV) (K : AV → Prop) : Prop :=
  match op, a, b with
  | .shl, .int k m, .int _ n => req (decide (0 ≤ n)) (K (.int k (k.wrap (m * 2 ^ (min n.toNat k.bits)))))
  | .shr, .int k m, .int _ n => req (decide (0 ≤ n)) (K (.int k (m.fdiv (2 ^ (min n.toNat k.bits)))))
  | .quo, .int k m, .int k' n => req (decide (k = k')) (req (!(n == 0)) (K (.int k (k.wrap (m.tdiv n)))))
  | .rem, .int k m, .int k' n => req (decide (k = k')) (req (!(n == 0)) (K (.int k (m.tmod n))))
  | .eql, .agg m, .agg n => match eqFine C t x y (.agg m) (.agg n) with
    | true => match peq C 1000 t (.agg m) (.agg n) with
      | some r => K (.bool r)
      | none => False
    | false => False
  | .neq, .agg m, .agg n => match eqFine C t x y (.agg m) (.agg n) with
    | true => match peq C 1000 t (.agg m) (.agg n) with
      | some r => K (.bool !r)
      | none => False
    | false => False
  | .add, .str m, .str n => req (decide (((m.size + n.size : Nat) : Int) ≤ IntKind.i64.max)) (K (.str (m ++ n)))
  | op, a, b => match abin C op t x y a b with
    | some v => K v
    | none => False
theorem pbin_ok {C : Ctx} {op : BinOp} {t : TypeId} {x y : Operand} {a b : AV} {K : AV → Prop} (hp : pbin C op t x y a b K) : ∃ v, abin C op t x y a b = some v ∧ K v := by
  unfold pbin at hp
  split at hp
  · simp only [req_iff, decide_eq_true_eq] at hp
    exact ⟨_, by simp only [abin, if_pos hp.1], hp.2⟩
  · simp only [req_iff, decide_eq_true_eq] at hp
    exact ⟨_, by simp only [abin, if_pos hp.1], hp.2⟩
  · rename_i k m k' n
    simp only [req_iff, decide_eq_true_eq, Bool.not_eq_true', beq_eq_false_iff_ne, ne_eq] at hp
    exact ⟨_, by simp only [abin, if_pos hp.1, aint, if_neg hp.2.1], hp.2.2⟩
  · rename_i k m k' n
    simp only [req_iff, decide_eq_true_eq, Bool.not_eq_true', beq_eq_false_iff_ne, ne_eq] at hp
    exact ⟨_, by simp only [abin, if_pos hp.1, aint, if_neg hp.2.1], hp.2.2⟩
  · rename_i m n
    split at hp
    · rename_i hf
      split at hp
      · rename_i r hr
        exact ⟨_, by simp only [abin, if_pos hf, peq_ok _ _ _ _ _ hr, Option.map_some], hp⟩
      · exact hp.elim
    · exact hp.elim
  · rename_i m n
    split at hp
    · rename_i hf
      split at hp
      · rename_i r hr
        exact ⟨_, by simp only [abin, if_pos hf, peq_ok _ _ _ _ _ hr, Option.map_some], hp⟩
      · exact hp.elim
    · exact hp.elim
  · simp only [req_iff, decide_eq_true_eq] at hp
    exact ⟨_, by simp only [abin, astr]; rw [if_neg (by omega)], hp.2⟩
  · split at hp
    · rename_i v hv; exact ⟨v, hv, hp⟩
    · exact hp.elim
end Go.Am
