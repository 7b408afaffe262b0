/- The loop over a map in which nothing is found. -/
import Derived.Test.YtpkljgaokgfpnaaGreatDoorAmEval
set_option linter.unusedVariables false
set_option linter.unusedSimpArgs false
set_option linter.unusedSectionVars false
namespace Go.Am
open Go

theorem asem_weaken {C : Ctx} {ro : Option Nat} {c : Code} {Q Q' : AQ} {e : Env} {h : AH} (hs : ASem C ro c Q' e h)
    (hq : ∀ x e1 h1, Q' x e1 h1 → ∃ e2 h2, e2.n = e1.n ∧ e2.ds = e1.ds ∧ (∀ t y, e2.v.get t = some y → e1.v.get t = some y) ∧ h1.next ≤ h2.next ∧ (∀ id o, h2.get id = some o → h1.get id = some o) ∧ Q x e2 h2) : ASem C ro c Q e h := by
  intro μ w a hr hG hro he hd
  refine wpIn_mono (hs μ w a hr hG hro he hd) ?_
  rintro x a' w' ⟨ax, e1, h1, μ', g1, g2, g3, g4, g5⟩
  obtain ⟨e2, h2, k1, k2, k3, k4, k5, k6⟩ := hq _ _ _ g5
  exact ⟨ax, e2, h2, μ', g1, g2.sub k4 k5, ⟨k1 ▸ g3.1, fun t y ht => g3.2 t y (k3 t y ht)⟩, k2 ▸ g4, k6⟩

/-- One temporary forgotten. -/
def forget (ts : List Nat) (v : TE) : TE := ts.foldl (fun v t => v.set t none) v
theorem get_forget : ∀ (ts : List Nat) (v : TE) (t : Nat), (forget ts v).get t = if t ∈ ts then none else v.get t
  | [], v, t => by simp [forget]
  | s :: ts, v, t => by
    have := get_forget ts (v.set s none) t
    simp only [forget, List.foldl_cons] at this ⊢
    rw [this, Tr.get_set]
    by_cases h1 : t ∈ ts
    · simp [h1]
    · by_cases h2 : t = s
      · subst h2; simp
      · simp [h1, h2]

theorem find_born : ∀ {es : List (AV × AV × Nat)}, (es.map (·.2.2)).Nodup → ∀ {x : AV × AV × Nat}, x ∈ es → es.find? (fun e => e.2.2 == x.2.2) = some x
  | [], _, _, hx => by cases hx
  | y :: es, hn, x, hx => by
    simp only [List.map_cons, List.nodup_cons] at hn
    rcases List.mem_cons.1 hx with rfl | hx
    · simp
    · rw [List.find?_cons]
      have hne : y.2.2 ≠ x.2.2 := fun e => hn.1 (by rw [e]; exact List.mem_map_of_mem hx)
      have : (y.2.2 == x.2.2) = false := by simpa using hne
      rw [this]
      exact find_born hn.2 hx

section
variable {C : Ctx} {ro : Option Nat}

theorem aop_step {ops : Array Oper} {base i : Nat} {o : Oper} {K : Env → AH → Prop} {Q : AQ} {e : Env} {h h' : AH} {v : AV} (ho : ops[i]? = some o) (hg : o.guard = none) (hd : dstOk e o.dst) (hent : Op.enters o.op = none) (hp : ∀ x, o.op ≠ .panic x) (hn : ∀ x b, o.op ≠ .next x b)
    (hs : astep C o.op e h (base + i) = some (v, h')) (hk : K (e.put o.dst v) h') : AOp C ops base i K Q e h := by
  unfold AOp
  rw [ho]
  refine ⟨hd, ?_⟩
  have hw : wantedA e o ops = some true := by simp [wantedA, hg]
  rw [hw]
  simp only
  split
  · rename_i x hx; exact absurd hx (hp x)
  · rename_i x hx; exact absurd hx (hn x _)
  · rw [hent]; exact ⟨v, h', hs, hk⟩

/-- Nothing in the map is greater than 1: the loop ends. -/
theorem valid_loop (hC : CtxOk C) {i7 i8 i9 b0 b1 : Nat} {o70 o71 o80 o81 o82 o90 o91 : Oper} {X : Code} {t3 t4 : TypeId}
    (h70 : o70.op = .next (.tmp 69) false ∧ o70.dst = some 70 ∧ o70.guard = none) (h71 : o71.op = .extract (.tmp 70) 0 ∧ o71.dst = some 71 ∧ o71.guard = none)
    (h80 : o80.op = .entry (.tmp 69) ∧ o80.dst = some 72 ∧ o80.guard = none) (h81 : o81.op = .extract (.tmp 72) 1 ∧ o81.dst = some 73 ∧ o81.guard = none) (h82 : o82.op = .assign (.tmp 73) ∧ o82.dst = some 7 ∧ o82.guard = none)
    (h90 : o90.op = .move (.tmp 7) ∧ o90.dst = some 74 ∧ o90.guard = none) (h91 : o91.op = .binOp .gtr t3 (.tmp 74) (.const (.int .i64 1)) t4 ∧ o91.dst = some 75 ∧ o91.guard = none)
    {m it clock : Nat} {es : List (AV × AV × Nat)} (hes : ∀ e ∈ es, e.2.2 < clock ∧ ∃ n : Int, e.2.1 = .int .i64 n ∧ n ≤ 1) (hnd : (es.map (·.2.2)).Nodup) (hmi : m ≠ it)
    {Q : AQ} {e₀ : Env} {h₀ : AH} {N : Nat} (hn : 75 < e₀.n) (hq : Q .normal { e₀ with v := forget [7, 70, 71, 72, 73, 74, 75] e₀.v } ((h₀.del it).up N)) :
    ∀ (k : Nat) (seen : Array Nat) (e : Env) (h : AH), (es.filter fun x => !seen.contains x.2.2).length = k → h.next + 7 * k + 2 ≤ N → e.n = e₀.n → e.ds = e₀.ds → e.v.get 69 = some (.ptr it 0) → (∀ t, t ∉ [7, 70, 71, 72, 73, 74, 75] → e.v.get t = e₀.v.get t) →
      h.get it = some (.mapIter m clock seen clock) → h.get m = some (.map es clock) → (∀ id, id ≠ it → h.get id = h₀.get id) →
      ASem C ro (.loop (.seq (.region i7 #[o70, o71] false) (.seq (.cond (.tmp 71) .skip (.exit b0)) (.block b1 (.seq (.region i8 #[o80, o81, o82] false) (.seq (.region i9 #[o90, o91] false) (.cond (.tmp 75) X .skip))))))) (AX.block b0 Q) e h := by
  obtain ⟨p1, p2, p3⟩ := h70
  obtain ⟨p4, p5, p6⟩ := h71
  obtain ⟨q1, q2, q3⟩ := h80
  obtain ⟨q4, q5, q6⟩ := h81
  obtain ⟨q7, q8, q9⟩ := h82
  obtain ⟨r1, r2, r3⟩ := h90
  obtain ⟨r4, r5, r6⟩ := h91
  intro k
  induction k using Nat.strongRecOn with
  | ind k ih =>
  intro seen e h hcount hN hen hds hit hsame hgi hgm hoth
  have hdst : ∀ {e' : Env} {d : Nat} {o : Option Tmp}, o = some d → d ≤ 75 → e'.n = e₀.n → dstOk e' o := fun {e' d o} ho hd hn' t ht => by rw [ho] at ht; injection ht with ht; exact ht ▸ Nat.lt_of_le_of_lt hd (hn' ▸ hn)
  refine asem_loop (asem_seq (asem_region hC ?_))
  show AOp C #[o70, o71] h.next 0 (AOps C #[o70, o71] h.next _ [1]) _ e (h.up (h.next + 2))
  unfold AOp
  simp only [List.getElem?_toArray, List.getElem?_cons_zero]
  refine ⟨hdst p2 (by omega) hen, ?_⟩
  have hw : wantedA e o70 #[o70, o71] = some true := by simp [wantedA, p3]
  rw [hw, p1]
  simp only
  refine ⟨it, by simpa [aeval] using hit, ⟨m, _, _, _, _, _, by simpa using hgi, by simpa using hgm, ?_⟩, ?_⟩
  · by_cases he : es = []
    · exact .inr (.inl he)
    · obtain ⟨x, hx⟩ := List.exists_mem_of_ne_nil es he
      exact .inr (.inr ⟨x, hx, (hes x hx).1⟩)
  · intro v h' hnx
    generalize hhu : h.up (h.next + 2) = hu at hnx
    have hgiu : hu.get it = some (.mapIter m clock seen clock) := by subst hhu; simpa using hgi
    have hgmu : hu.get m = some (.map es clock) := by subst hhu; simpa using hgm
    cases hnx with
    | over g1 g2 g3 =>
      refine aop_step (o := o71) (v := .bool false) (h' := h') rfl p6 (hdst p5 (by omega) (by simpa using hen)) (by rw [p4]; rfl) (by intro x hx; rw [p4] at hx; cases hx) (by intro x b hx; rw [p4] at hx; cases hx) ?_ ?_
      · rw [p4]; simp [astep, aeval, p2, Env.put, Tr.get_put]
      · simp only [AOps, AX.seq]
        refine asem_seq (asem_cond (b := false) (by simp [aeval, p5, Env.put, Tr.get_put]) ?_)
        simp only [Bool.false_eq_true, if_false]
        refine asem_weaken (asem_exit (Q := fun x e1 h1 => x = .exit b0 ∧ e1 = ((e.put o70.dst (.tup [.bool false])).put o71.dst (.bool false)) ∧ h1 = h') ⟨rfl, rfl, rfl⟩) ?_
        rintro x e1 h1 ⟨rfl, rfl, rfl⟩
        refine ⟨{ e₀ with v := forget [7, 70, 71, 72, 73, 74, 75] e₀.v }, (h₀.del it).up N, by simp [hen], by simp [hds], ?_, ?_, ?_, ?_⟩
        · intro t y ht
          simp only [get_forget] at ht
          split at ht
          · cases ht
          · rename_i hnt
            simp only [List.mem_cons, List.not_mem_nil, or_false, not_or] at hnt
            have := hsame t (by simp; omega)
            simp only [p2, p5, Env.put, Tr.get_put]
            rw [if_neg (by omega), if_neg (by omega), this]; exact ht
        · subst hhu; simp; omega
        · intro id o ho
          rw [AH.get_up, AH.get_del] at ho
          split at ho
          · cases ho
          · rename_i hne; subst hhu; rw [AH.get_up, hoth id hne]; exact ho
        · simp [AX.seq, AX.block, hq]
    | one g1 g2 g3 g4 =>
      rename_i m' since' seen' stepped' es' clock' x
      rw [hgiu] at g1; simp only [Option.some.injEq, AObj.mapIter.injEq] at g1
      obtain ⟨rfl, rfl, rfl, rfl⟩ := g1
      rw [hgmu] at g2; simp only [Option.some.injEq, AObj.map.injEq] at g2
      obtain ⟨rfl, rfl⟩ := g2
      obtain ⟨kx, vx, bx⟩ := x
      obtain ⟨hbx, n, hvx, hn1⟩ := hes _ g3
      simp only at hbx hvx g4 ⊢
      subst hvx
      generalize hh1 : hu.set it (.mapIter m clock (seen.push bx) clock) = h1
      have hgi1 : h1.get it = some (.mapIter m clock (seen.push bx) clock) := by subst hh1; simp
      have hgm1 : h1.get m = some (.map es clock) := by subst hh1; rw [AH.get_set_ne _ _ hmi]; exact hgmu
      generalize he1 : (e.put o70.dst (.tup [.bool true, kx, .int .i64 n])).put o71.dst (.bool true) = e1
      refine aop_step (o := o71) (v := .bool true) (h' := h1) rfl p6 (hdst p5 (by omega) (by simpa using hen)) (by rw [p4]; rfl) (by intro x hx; rw [p4] at hx; cases hx) (by intro x b hx; rw [p4] at hx; cases hx) ?_ ?_
      · rw [p4]; simp [astep, aeval, p2, Env.put, Tr.get_put]
      rw [he1]
      simp only [AOps, AX.seq]
      have he1n : e1.n = e₀.n := by subst he1; simp [hen]
      have he171 : e1.v.get 71 = some (.bool true) := by subst he1; simp [p5, Env.put, Tr.get_put]
      have he169 : e1.v.get 69 = some (.ptr it 0) := by subst he1; simp [p2, p5, Env.put, Tr.get_put]; exact hit
      refine asem_seq (asem_cond (b := true) (by simp [aeval, he171]) ?_)
      simp only [if_true]
      refine asem_skip ?_
      simp only [AX.seq]
      refine asem_block (asem_seq (asem_region hC ?_))
      -- the entry
      show AOps C #[o80, o81, o82] h1.next _ [0, 1, 2] e1 (h1.up (h1.next + 3))
      have hent : aentry (h1.up (h1.next + 3)) (.ptr it 0) = some (.tup [kx, .int .i64 n]) := by
        have hf := find_born hnd g3
        simp only at hf
        simp [aentry, hgi1, hgm1, hf]
      refine aop_step (o := o80) (v := .tup [kx, .int .i64 n]) (h' := h1.up (h1.next + 3)) rfl q3 (hdst q2 (by omega) he1n) (by rw [q1]; rfl) (by intro x hx; rw [q1] at hx; cases hx) (by intro x b hx; rw [q1] at hx; cases hx) ?_ ?_
      · rw [q1]; simp [astep, aeval, he169, hent]
      refine aop_step (o := o81) (v := .int .i64 n) (h' := h1.up (h1.next + 3)) rfl q6 (hdst q5 (by omega) (by simpa using he1n)) (by rw [q4]; rfl) (by intro x hx; rw [q4] at hx; cases hx) (by intro x b hx; rw [q4] at hx; cases hx) ?_ ?_
      · rw [q4]; simp [astep, aeval, q2, Env.put, Tr.get_put]
      refine aop_step (o := o82) (v := .int .i64 n) (h' := h1.up (h1.next + 3)) rfl q9 (hdst q8 (by omega) (by simpa using he1n)) (by rw [q7]; rfl) (by intro x hx; rw [q7] at hx; cases hx) (by intro x b hx; rw [q7] at hx; cases hx) ?_ ?_
      · rw [q7]; simp [astep, aeval, q5, Env.put, Tr.get_put]
      generalize he2 : ((e1.put o80.dst (.tup [kx, .int .i64 n])).put o81.dst (.int .i64 n)).put o82.dst (.int .i64 n) = e2
      generalize hh2 : h1.up (h1.next + 3) = h2
      simp only [AOps, AX.seq]
      have he2n : e2.n = e₀.n := by subst he2; simp [he1n]
      have he27 : e2.v.get 7 = some (.int .i64 n) := by subst he2; simp [q8, Env.put, Tr.get_put]
      refine asem_seq (asem_region hC ?_)
      show AOps C #[o90, o91] h2.next _ [0, 1] e2 (h2.up (h2.next + 2))
      refine aop_step (o := o90) (v := .int .i64 n) (h' := h2.up (h2.next + 2)) rfl r3 (hdst r2 (by omega) he2n) (by rw [r1]; rfl) (by intro x hx; rw [r1] at hx; cases hx) (by intro x b hx; rw [r1] at hx; cases hx) ?_ ?_
      · rw [r1]; simp [astep, aeval, he27]
      refine aop_step (o := o91) (v := .bool false) (h' := h2.up (h2.next + 2)) rfl r6 (hdst r5 (by omega) (by simpa using he2n)) (by rw [r4]; rfl) (by intro x hx; rw [r4] at hx; cases hx) (by intro x b hx; rw [r4] at hx; cases hx) ?_ ?_
      · rw [r4]
        have hgt : ¬ (n > 1) := by omega
        simp [astep, aeval, r2, Env.put, Tr.get_put, mkVal, mkCell, abin, aint, hgt]
      generalize he3 : (e2.put o90.dst (.int .i64 n)).put o91.dst (.bool false) = e3
      generalize hh3 : h2.up (h2.next + 2) = h3
      simp only [AOps, AX.seq]
      refine asem_cond (b := false) (by subst he3; simp [aeval, r5, Env.put, Tr.get_put]) ?_
      simp only [Bool.false_eq_true, if_false]
      refine asem_skip ?_
      simp only [AX.seq, AX.block]
      have hlt : (es.filter fun x => !(seen.push bx).contains x.2.2).length < k := by
        rw [← hcount]
        have e1 : (es.filter fun x => !(seen.push bx).contains x.2.2) = (es.filter fun x => !seen.contains x.2.2).filter fun x => x.2.2 != bx := by
          rw [List.filter_filter]
          congr 1
          funext x
          simp only [Array.contains_push]
          cases seen.contains x.2.2 <;> simp [bne]
        rw [e1]
        refine List.length_filter_lt_length_iff_exists.2 ⟨(kx, .int .i64 n, bx), ?_, by simp⟩
        exact List.mem_filter.2 ⟨g3, by rw [g4]; rfl⟩
      have hn1' : h1.next = h.next + 2 := by subst hh1; subst hhu; simp
      obtain ⟨k', hk'⟩ : ∃ k', (es.filter fun x => !(seen.push bx).contains x.2.2).length = k' := ⟨_, rfl⟩
      rw [hk'] at hlt
      refine ih k' hlt (seen.push bx) e3 h3 hk' ?_ ?_ ?_ ?_ ?_ ?_ ?_ ?_
      · have : h3.next = h1.next + 5 := by subst hh3; subst hh2; simp
        omega
      · subst he3; simpa using he2n
      · subst he3; subst he2; subst he1; simpa using hds
      · subst he3; subst he2
        simp only [q2, q5, q8, r2, r5, Env.put, Tr.get_put]
        simpa using he169
      · intro t ht
        simp only [List.mem_cons, List.not_mem_nil, or_false, not_or] at ht
        subst he3; subst he2; subst he1
        simp only [p2, p5, q2, q5, q8, r2, r5, Env.put, Tr.get_put]
        rw [if_neg ht.2.2.2.2.2.2, if_neg ht.2.2.2.2.2.1, if_neg ht.1, if_neg ht.2.2.2.2.1, if_neg ht.2.2.2.1, if_neg ht.2.2.1, if_neg ht.2.1]
        exact hsame t (by simp; omega)
      · subst hh3; subst hh2; simpa using hgi1
      · subst hh3; subst hh2; simpa using hgm1
      · intro id hid
        subst hh3; subst hh2; subst hh1; subst hhu
        simp only [AH.get_up]
        rw [AH.get_set_ne _ _ hid]
        simpa using hoth id hid
end

/-! ### A function that is: straight code, the loop over a map, straight code -/
def isNext (o : Oper) : Bool := match o.op, o.dst, o.guard with | .next (.tmp 69) false, some 70, none => true | _, _, _ => false
def isExt1 (o : Oper) : Bool := match o.op, o.dst, o.guard with | .extract (.tmp 70) 0, some 71, none => true | _, _, _ => false
def isEntry (o : Oper) : Bool := match o.op, o.dst, o.guard with | .entry (.tmp 69), some 72, none => true | _, _, _ => false
def isExt2 (o : Oper) : Bool := match o.op, o.dst, o.guard with | .extract (.tmp 72) 1, some 73, none => true | _, _, _ => false
def isAsg (o : Oper) : Bool := match o.op, o.dst, o.guard with | .assign (.tmp 73), some 7, none => true | _, _, _ => false
def isMove (o : Oper) : Bool := match o.op, o.dst, o.guard with | .move (.tmp 7), some 74, none => true | _, _, _ => false
def isGtr (o : Oper) : Bool := match o.op, o.dst, o.guard with | .binOp .gtr _ (.tmp 74) (.const (.int .i64 (Int.ofNat 1))) _, some 75, none => true | _, _, _ => false
def vshape (b0 : Nat) : Code → Bool
  | .loop (.seq (.region _ ⟨[o70, o71]⟩ false) (.seq (.cond (.tmp 71) .skip (.exit b)) (.block _ (.seq (.region _ ⟨[o80, o81, o82]⟩ false) (.seq (.region _ ⟨[o90, o91]⟩ false) (.cond (.tmp 75) _ .skip)))))) =>
    Nat.beq b b0 && isNext o70 && isExt1 o71 && isEntry o80 && isExt2 o81 && isAsg o82 && isMove o90 && isGtr o91
  | _ => false
def valsOk (clock : Nat) : List (AV × AV × Nat) → Bool
  | [] => true
  | (_, .int .i64 n, b) :: es => Nat.blt b clock && decide (n ≤ 1) && !(es.any fun x => Nat.beq x.2.2 b) && valsOk clock es
  | _ => false
def evVLoop (e : Env) (h : AH) : Option (AX × Env × AH) :=
  match e.v.get 69 with
  | some (.ptr it 0) => match h.get it with
    | some (.mapIter m since ⟨[]⟩ stepped) => match h.get m with
      | some (.map es clock) => match Nat.beq since clock && Nat.beq stepped clock && !Nat.beq m it && valsOk clock es && Nat.blt 75 e.n with
        | true => some (.normal, { e with v := forget [7, 70, 71, 72, 73, 74, 75] e.v }, (h.del it).up (h.next + 7 * es.length + 2))
        | false => none
      | _ => none
    | _ => none
  | _ => none

theorem valsOk_spec {clock : Nat} : ∀ {es : List (AV × AV × Nat)}, valsOk clock es = true → (∀ e ∈ es, e.2.2 < clock ∧ ∃ n : Int, e.2.1 = .int .i64 n ∧ n ≤ 1) ∧ (es.map (·.2.2)).Nodup
  | [], _ => ⟨fun _ h => (by cases h), by simp⟩
  | (k, v, b) :: es, h => by
    unfold valsOk at h
    split at h
    · rename_i hx; cases hx
    · rename_i k' n b' es' hx
      simp only [List.cons.injEq, Prod.mk.injEq] at hx
      obtain ⟨⟨rfl, rfl, rfl⟩, rfl⟩ := hx
      simp only [Bool.and_eq_true, decide_eq_true_eq, Bool.not_eq_true', List.any_eq_false] at h
      obtain ⟨⟨⟨h1, h2⟩, h3⟩, h4⟩ := h
      obtain ⟨i1, i2⟩ := valsOk_spec h4
      refine ⟨fun e he => ?_, ?_⟩
      · rcases List.mem_cons.1 he with rfl | he
        · exact ⟨by simpa using h1, n, rfl, h2⟩
        · exact i1 e he
      · simp only [List.map_cons, List.nodup_cons]
        refine ⟨fun hm => ?_, i2⟩
        obtain ⟨x, hx, e⟩ := List.mem_map.1 hm
        exact h3 x hx (by simp [e])
    · cases h

/-- What is yielded is what the code does. -/
def Does (C : Ctx) (ro : Option Nat) (c : Code) (e : Env) (h : AH) (r : Option (AX × Env × AH)) : Prop := ∀ x e' h' (Q : AQ), r = some (x, e', h') → Q x e' h' → ASem C ro c Q e h
def evThen (r : Option (AX × Env × AH)) (k : Env → AH → Option (AX × Env × AH)) : Option (AX × Env × AH) :=
  match r with
  | some (.normal, e, h) => k e h
  | r => r
theorem Does.seq {C : Ctx} {ro : Option Nat} {a b : Code} {e : Env} {h : AH} {r : Option (AX × Env × AH)} {k : Env → AH → Option (AX × Env × AH)} (ha : Does C ro a e h r) (hb : ∀ e h, Does C ro b e h (k e h)) : Does C ro (.seq a b) e h (evThen r k) := by
  intro x e' h' Q hev hq
  refine asem_seq ?_
  unfold evThen at hev
  split at hev
  · rename_i e1 h1
    exact ha _ _ _ _ rfl (hb _ _ _ _ _ _ hev hq)
  · rename_i hne
    refine ha _ _ _ _ hev ?_
    cases x <;> first | exact hq | exact absurd hev (hne _ _)

theorem evVLoop_does {C : Ctx} (hC : CtxOk C) {ro : Option Nat} {b0 : Nat} {lp : Code} (hs : vshape b0 lp = true) (e : Env) (h : AH) : Does C ro (.block b0 lp) e h (evVLoop e h) := by
  intro x e' h' Q hev hq
  unfold vshape at hs
  split at hs
  · rename_i i7 o70 o71 b b1 i8 o80 o81 o82 i9 o90 o91 X
    simp only [Bool.and_eq_true] at hs
    obtain ⟨⟨⟨⟨⟨⟨⟨s0, s1⟩, s2⟩, s3⟩, s4⟩, s5⟩, s6⟩, s7⟩ := hs
    have s0 := Nat.eq_of_beq_eq_true s0
    subst s0
    have d1 : o70.op = .next (.tmp 69) false ∧ o70.dst = some 70 ∧ o70.guard = none := by unfold isNext at s1; split at s1 <;> simp_all
    have d2 : o71.op = .extract (.tmp 70) 0 ∧ o71.dst = some 71 ∧ o71.guard = none := by unfold isExt1 at s2; split at s2 <;> simp_all
    have d3 : o80.op = .entry (.tmp 69) ∧ o80.dst = some 72 ∧ o80.guard = none := by unfold isEntry at s3; split at s3 <;> simp_all
    have d4 : o81.op = .extract (.tmp 72) 1 ∧ o81.dst = some 73 ∧ o81.guard = none := by unfold isExt2 at s4; split at s4 <;> simp_all
    have d5 : o82.op = .assign (.tmp 73) ∧ o82.dst = some 7 ∧ o82.guard = none := by unfold isAsg at s5; split at s5 <;> simp_all
    have d6 : o90.op = .move (.tmp 7) ∧ o90.dst = some 74 ∧ o90.guard = none := by unfold isMove at s6; split at s6 <;> simp_all
    have d7 : ∃ t3 t4, o91.op = .binOp .gtr t3 (.tmp 74) (.const (.int .i64 1)) t4 ∧ o91.dst = some 75 ∧ o91.guard = none := by
      unfold isGtr at s7; split at s7
      · rename_i t3 t4 a1 a2 a3; exact ⟨t3, t4, a1, a2, a3⟩
      · cases s7
    obtain ⟨t3, t4, d7⟩ := d7
    unfold evVLoop at hev
    split at hev
    · rename_i it hit
      split at hev
      · rename_i m since stepped hgi
        split at hev
        · rename_i es clock hgm
          split at hev
          · rename_i hc
            simp only [Bool.and_eq_true, Bool.not_eq_true'] at hc
            obtain ⟨⟨⟨⟨c1, c2⟩, c3⟩, c4⟩, c5⟩ := hc
            have c1 := Nat.eq_of_beq_eq_true c1
            have c2 := Nat.eq_of_beq_eq_true c2
            subst c1; subst c2
            have hmi : m ≠ it := fun x => by subst x; simp at c3
            obtain ⟨v1, v2⟩ := valsOk_spec c4
            simp only [Option.some.injEq, Prod.mk.injEq] at hev
            obtain ⟨rfl, rfl, rfl⟩ := hev
            refine asem_block ?_
            exact valid_loop hC d1 d2 d3 d4 d5 d6 d7 v1 v2 hmi (Q := Q) (e₀ := e) (h₀ := h) (N := h.next + 7 * es.length + 2) (by simpa using c5) hq es.length #[] e h (by simp) (by omega) rfl rfl hit (fun _ _ => rfl) hgi hgm (fun _ _ => rfl)
          · cases hev
        · cases hev
      · cases hev
    · cases hev
  · cases hs

/-- 'Valid': two pieces, the loop, the rest. -/
def evValid (C : Ctx) (O : Orac) (n : Nat) (f : FuncId) (args : List AV) (h : AH) : Option (AEnd × AH) :=
  match C.F f with
  | some fn => match fn.body with
    | some (.seq c0 (.seq c1 (.seq c3 (.seq c4 (.seq (.seq c6 (.block b0 lp)) c11))))) => match Nat.ble args.length fn.ntmps && vshape b0 lp with
      | true => afterBody C fn (evThen (evC C O n none c0 (envOf args fn.ntmps) h) fun e h => evThen (evC C O n none c1 e h) fun e h => evThen (evC C O n none c3 e h) fun e h => evThen (evC C O n none c4 e h) fun e h =>
          evThen (evThen (evC C O n none c6 e h) evVLoop) fun e h => evC C O n none c11 e h)
      | false => none
    | _ => none
  | none => none

theorem evValid_ok {C : Ctx} (hC : CtxOk C) (hm : C.P.follows .mixedOrders = true) {O : Orac} (hO : ∀ f args h r h' (R : AR), O f args h = some (r, h') → R r h' → ACalls C f args h R) {n : Nat} {f : FuncId} {args : List AV} {h : AH} {r : AEnd} {h' : AH} {R : AR}
    (hev : evValid C O n f args h = some (r, h')) (hR : R r h') : ACalls C f args h R := by
  have ev := evOk hC hm hO n
  unfold evValid at hev
  split at hev
  · rename_i fn hfn
    split at hev
    · rename_i c0 c1 c3 c4 c6 b0 lp c11 hb
      split at hev
      · rename_i hc
        simp only [Bool.and_eq_true] at hc
        refine acalls_fun hC hfn hb (by simpa using hc.1) ?_
        have hdoes : Does C none (.seq c0 (.seq c1 (.seq c3 (.seq c4 (.seq (.seq c6 (.block b0 lp)) c11))))) (envOf args fn.ntmps) h (evThen (evC C O n none c0 (envOf args fn.ntmps) h) fun e h => evThen (evC C O n none c1 e h) fun e h => evThen (evC C O n none c3 e h) fun e h => evThen (evC C O n none c4 e h) fun e h =>
          evThen (evThen (evC C O n none c6 e h) evVLoop) fun e h => evC C O n none c11 e h) :=
          .seq (ev.c _ _ _ _ · · · · · ·) fun e h => .seq (ev.c _ _ _ _ · · · · · ·) fun e h => .seq (ev.c _ _ _ _ · · · · · ·) fun e h => .seq (ev.c _ _ _ _ · · · · · ·) fun e h =>
            .seq (.seq (ev.c _ _ _ _ · · · · · ·) fun e h => evVLoop_does hC hc.2 e h) fun e h => (ev.c _ _ _ _ · · · · · ·)
        generalize hg : (evThen (evC C O n none c0 (envOf args fn.ntmps) h) fun e h => evThen (evC C O n none c1 e h) fun e h => evThen (evC C O n none c3 e h) fun e h => evThen (evC C O n none c4 e h) fun e h =>
          evThen (evThen (evC C O n none c6 e h) evVLoop) fun e h => evC C O n none c11 e h) = res at hev hdoes
        cases res with
        | none => simp [afterBody] at hev
        | some p =>
          obtain ⟨x, e1, h1⟩ := p
          refine hdoes _ _ _ _ rfl ?_
          cases x with
          | normal =>
            simp only [afterBody] at hev
            split at hev
            · rename_i h2 hsh
              split at hev
              · rename_i v hv
                simp only [Option.some.injEq, Prod.mk.injEq] at hev; obtain ⟨rfl, rfl⟩ := hev
                exact ⟨_, _, hsh, hv, hR⟩
              · cases hev
            · cases hev
          | ret =>
            simp only [afterBody] at hev
            split at hev
            · rename_i h2 hsh
              split at hev
              · rename_i v hv
                simp only [Option.some.injEq, Prod.mk.injEq] at hev; obtain ⟨rfl, rfl⟩ := hev
                exact ⟨_, _, hsh, hv, hR⟩
              · cases hev
            · cases hev
          | exit i => simp [afterBody] at hev
          | panic v =>
            simp only [afterBody] at hev
            split at hev
            · rename_i h2 hsh
              simp only [Option.some.injEq, Prod.mk.injEq] at hev; obtain ⟨rfl, rfl⟩ := hev
              exact ⟨_, hsh, hR⟩
            · cases hev
      · cases hev
    · cases hev
  · cases hev
end Go.Am
