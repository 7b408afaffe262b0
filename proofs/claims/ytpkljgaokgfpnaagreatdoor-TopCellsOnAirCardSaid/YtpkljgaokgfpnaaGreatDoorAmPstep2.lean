/- One operation over symbolic values: slices, appending, new slices, and all operations together. -/
import Derived.Test.YtpkljgaokgfpnaaGreatDoorAmPstep
set_option linter.unusedVariables false
set_option linter.unusedSimpArgs false
namespace Go.Am
open Go

/-- A bound, and whether it is one. -/
def boundP (x : Option AV) (d : Nat) : Bool × Nat :=
  match x with
  | none => (true, d)
  | some (.int _ n) => (decide (0 ≤ n), n.toNat)
  | _ => (false, 0)
theorem boundP_ok {x : Option AV} {d : Nat} (h : (boundP x d).1 = true) : abound x d = some (boundP x d).2 := by
  cases x with
  | none => rfl
  | some v =>
    cases v <;> simp only [boundP, decide_eq_true_eq, Bool.false_eq_true] at h
    simp only [abound, if_pos h, boundP]

def pslice (C : Ctx) (t : TypeId) (x : AV) (lo hi mx : Option AV) (K : AV → Prop) : Prop :=
  match C.T t with
  | none => False
  | some ti =>
    match ti.k, x with
    | .slice e, .sl id off len cap sp =>
      match C.T e with
      | none => False
      | some te =>
        let l := boundP lo 0
        let h := boundP hi len
        let m := boundP mx cap
        req (l.1 && h.1 && m.1) (req (Nat.ble l.2 h.2 && Nat.ble h.2 m.2 && Nat.ble m.2 cap) (req (match sp with
          | none => true
          | some sz => Nat.beq sz te.size) (req (!mx.isSome || hi.isSome)
            (cas (Nat.beq m.2 l.2) (K (.lst [] (mx.isSome || sp.isNone))) (K (.sl id (off + l.2 * te.size) (h.2 - l.2) (m.2 - l.2) (if mx.isSome then none else sp)))))))
    | .slice e, .lst es full =>
      match C.T e with
      | none => False
      | some te =>
        let l := boundP lo 0
        let h := boundP hi es.length
        let m := boundP mx es.length
        req (l.1 && h.1 && m.1) (req (Nat.ble l.2 h.2 && Nat.ble h.2 m.2 && Nat.ble m.2 es.length) (req (es.all (·.length == te.size)) (req (!mx.isSome || hi.isSome)
          (K (.lst ((es.take h.2).drop l.2) (if mx.isSome then m.2 == h.2 else (full && h.2 == es.length)))))))
    | _, _ => match aslice C t x lo hi mx with
      | some v => K v
      | none => False
theorem pslice_ok {C : Ctx} {t : TypeId} {x : AV} {lo hi mx : Option AV} {K : AV → Prop} (hp : pslice C t x lo hi mx K) : ∃ v, aslice C t x lo hi mx = some v ∧ K v := by
  unfold pslice at hp
  cases hT : C.T t with
  | none => rw [hT] at hp; exact hp.elim
  | some ti =>
    rw [hT] at hp
    simp only at hp
    split at hp
    · rename_i e id off len cap sp hk
      cases hTe : C.T e with
      | none => rw [hTe] at hp; exact hp.elim
      | some te =>
        rw [hTe] at hp
        simp only [req_iff, Bool.and_eq_true, Bool.or_eq_true, Bool.not_eq_true'] at hp
        obtain ⟨⟨⟨l1, l2⟩, l3⟩, ⟨⟨m1, m2⟩, m3⟩, hsp, hmx, hk2⟩ := hp
        have m1 := Nat.le_of_ble_eq_true m1
        have m2 := Nat.le_of_ble_eq_true m2
        have m3 := Nat.le_of_ble_eq_true m3
        have hsp' : sp = none ∨ sp = some te.size := by
          cases sp with
          | none => exact .inl rfl
          | some sz => exact .inr (congrArg some (Nat.eq_of_beq_eq_true hsp))
        have hmx' : mx.isSome = true → hi.isSome = true := fun h => hmx.resolve_left (by simp [h])
        unfold aslice
        rw [hT]
        simp only [hk, hTe, boundP_ok l1, boundP_ok l2, boundP_ok l3, if_pos (And.intro m1 (And.intro m2 (And.intro m3 (And.intro hsp' hmx'))))]
        rw [cas_iff] at hk2
        by_cases hml : (boundP mx cap).2 = (boundP lo 0).2
        · rw [if_pos hml]
          exact ⟨_, rfl, hk2.1 (by rw [hml]; simp)⟩
        · rw [if_neg hml]
          exact ⟨_, rfl, hk2.2 (by
            cases hb : Nat.beq (boundP mx cap).2 (boundP lo 0).2
            · rfl
            · exact absurd (Nat.eq_of_beq_eq_true hb) hml)⟩
    · rename_i e es full hk
      cases hTe : C.T e with
      | none => rw [hTe] at hp; exact hp.elim
      | some te =>
        rw [hTe] at hp
        simp only [req_iff, Bool.and_eq_true, Bool.or_eq_true, Bool.not_eq_true'] at hp
        obtain ⟨⟨⟨l1, l2⟩, l3⟩, ⟨⟨m1, m2⟩, m3⟩, hall, hmx, hk2⟩ := hp
        have m1 := Nat.le_of_ble_eq_true m1
        have m2 := Nat.le_of_ble_eq_true m2
        have m3 := Nat.le_of_ble_eq_true m3
        have hmx' : mx.isSome = true → hi.isSome = true := fun h => hmx.resolve_left (by simp [h])
        unfold aslice
        rw [hT]
        simp only [hk, hTe, boundP_ok l1, boundP_ok l2, boundP_ok l3, if_pos (And.intro m1 (And.intro m2 (And.intro m3 (And.intro hall hmx'))))]
        exact ⟨_, rfl, hk2⟩
    · split at hp
      · rename_i v hv; exact ⟨v, hv, hp⟩
      · exact hp.elim

/-- The rows of a slice that is looked at as a whole. -/
def prows (h : AH) (x : AV) (sz : Nat) (K : Nat → List AV → Prop) : Prop :=
  match x with
  | .sl id off len _ _ => match h.get id with
    | some (.cells c) => req (Nat.ble (off + len * sz) c.length) (K len ((c.drop off).take (len * sz)))
    | _ => False
  | .lst es _ => req (es.all (·.length == sz)) (K es.length es.flatten)
  | x => match arows h x sz with
    | some (n, xs) => K n xs
    | none => False
theorem prows_ok {h : AH} {x : AV} {sz : Nat} {K : Nat → List AV → Prop} (hp : prows h x sz K) : ∃ n xs, arows h x sz = some (n, xs) ∧ K n xs := by
  unfold prows at hp
  split at hp
  · split at hp
    · rename_i c hg
      rw [req_iff] at hp
      exact ⟨_, _, by simp only [arows, hg, if_pos (Nat.le_of_ble_eq_true hp.1)], hp.2⟩
    · exact hp.elim
  · rw [req_iff] at hp
    exact ⟨_, _, by simp only [arows]; rw [if_pos hp.1], hp.2⟩
  · split at hp
    · rename_i n xs hx; exact ⟨n, xs, hx, hp⟩
    · exact hp.elim

def isCellsO : Option AObj → Bool
  | some (.cells _) => true
  | _ => false
def cellsOf : Option AObj → List AV
  | some (.cells c) => c
  | _ => []
theorem isCellsO_iff {o : Option AObj} (h : isCellsO o = true) : ∃ c, o = some (.cells c) := by
  cases o with
  | none => cases h
  | some o => cases o <;> simp [isCellsO] at h; exact ⟨_, rfl⟩
def pwrites (h : AH) (id off : Nat) (xs : List AV) (K : AH → Prop) : Prop :=
  req (isCellsO (h.get id)) (req (Nat.ble (off + xs.length) (cellsOf (h.get id)).length) (req (allOne xs) (K (h.set id (.cells (splice (cellsOf (h.get id)) off xs))))))
theorem pwrites_ok {h : AH} {id off : Nat} {xs : List AV} {K : AH → Prop} (hp : pwrites h id off xs K) : ∃ h', awrites h id off xs = some h' ∧ K h' := by
  unfold pwrites at hp
  simp only [req_iff] at hp
  obtain ⟨h1, h2, h3, h4⟩ := hp
  obtain ⟨c, hg⟩ := isCellsO_iff h1
  rw [hg] at h2 h4
  simp only [cellsOf] at h2 h4
  exact ⟨_, by simp only [awrites, hg, if_pos (And.intro (Nat.le_of_ble_eq_true h2) h3)], h4⟩

theorem not_beq {a b : Nat} (h : Nat.beq a b = false) : a ≠ b := fun e => by subst e; simp at h
theorem not_ble {a b : Nat} (h : Nat.ble a b = false) : ¬ a ≤ b := fun e => by rw [Nat.ble_eq_true_of_le e] at h; cases h
def pappend (C : Ctx) (h : AH) (nid : Nat) (t : TypeId) (s x : AV) (K : AV → AH → Prop) : Prop :=
  match C.T t with
  | none => False
  | some ti =>
    match ti.k with
    | .slice e => match C.T e with
      | none => False
      | some te =>
        req (!Nat.beq te.size 0 && !Nat.beq te.bytes 0 && Nat.beq te.zero.length te.size) (prows h x te.size fun n xs =>
          match s with
          | .snil => cas (Nat.beq n 0) (K .snil h) (req (Nat.ble (n * te.bytes) room) (K (.sl nid 0 n n (some te.size)) (h.set nid (.cells xs))))
          | .lst es full => cas (Nat.beq n 0) (K (.lst es full) h)
              (req full (req (es.all (·.length == te.size)) (req (Nat.ble ((es.length + n) * te.bytes) room) (K (.sl nid 0 (es.length + n) (es.length + n) (some te.size)) (h.set nid (.cells (es.flatten ++ xs)))))))
          | .sl id off len cap sp =>
            cas (Nat.ble (len + n) cap)
              (cas (Nat.beq n 0) (K (.sl id off len cap sp) h) (pwrites h id (off + len * te.size) xs fun h' => K (.sl id off (len + n) cap sp) h'))
              (req (isCellsO (h.get id)) (req (Nat.ble (off + len * te.size) (cellsOf (h.get id)).length) (req (Nat.ble ((len + n) * te.bytes) room) (match sp with
                  | none => K (.sl nid 0 (len + n) (len + n) (some te.size)) (h.set nid (.cells (((cellsOf (h.get id)).drop off).take (len * te.size) ++ xs)))
                  | some sz => req (Nat.beq sz te.size) (req (Nat.beq (off + len * te.size) (cellsOf (h.get id)).length) (req (allOne xs)
                      (K (.sl nid 0 (len + n) (len + n) (some te.size)) ((h.del id).set nid (.cells (((cellsOf (h.get id)).drop off).take (len * te.size) ++ xs))))))))))
          | _ => False)
    | _ => False
theorem pappend_ok {C : Ctx} {h : AH} {nid : Nat} {t : TypeId} {s x : AV} {K : AV → AH → Prop} (hp : pappend C h nid t s x K) : ∃ v h', aappend C h nid t s x = some (v, h') ∧ K v h' := by
  unfold pappend at hp
  cases hT : C.T t with
  | none => rw [hT] at hp; exact hp.elim
  | some ti =>
    rw [hT] at hp
    simp only at hp
    split at hp
    · rename_i e hk
      cases hTe : C.T e with
      | none => rw [hTe] at hp; exact hp.elim
      | some te =>
        rw [hTe] at hp
        simp only [req_iff, Bool.and_eq_true, Bool.not_eq_true'] at hp
        obtain ⟨⟨⟨s0, b0⟩, z0⟩, hp⟩ := hp
        have s0 := not_beq s0
        have b0 := not_beq b0
        have z0 := Nat.eq_of_beq_eq_true z0
        have hp0 := prows_ok hp
        clear hp
        obtain ⟨n, xs, hr, hp⟩ := hp0
        unfold aappend
        rw [hT]
        simp only [hk, hTe, hr, if_neg s0]
        cases s <;> simp only at hp <;> try exact hp.elim
        case snil =>
          rw [cas_iff] at hp
          simp only
          cases hn : Nat.beq n 0 with
          | true => rw [if_pos (Nat.eq_of_beq_eq_true hn)]; exact ⟨_, _, rfl, hp.1 hn⟩
          | false =>
            have := hp.2 hn
            rw [if_neg (not_beq hn), if_pos ⟨b0, Nat.le_of_ble_eq_true this.1, z0⟩]
            exact ⟨_, _, rfl, this.2⟩
        case lst es full =>
          rw [cas_iff] at hp
          simp only
          cases hn : Nat.beq n 0 with
          | true => rw [if_pos (Nat.eq_of_beq_eq_true hn)]; exact ⟨_, _, rfl, hp.1 hn⟩
          | false =>
            have := hp.2 hn
            obtain ⟨k1, k2, k3, k4⟩ := this
            rw [if_neg (not_beq hn), if_pos ⟨k1, k2, b0, Nat.le_of_ble_eq_true k3, z0⟩]
            exact ⟨_, _, rfl, k4⟩
        case sl id off len cap sp =>
          rw [cas_iff] at hp
          simp only
          cases hc : Nat.ble (len + n) cap with
          | true =>
            have := hp.1 hc
            rw [cas_iff] at this
            rw [if_pos (Nat.le_of_ble_eq_true hc)]
            cases hn : Nat.beq n 0 with
            | true => rw [if_pos (Nat.eq_of_beq_eq_true hn)]; exact ⟨_, _, rfl, this.1 hn⟩
            | false =>
              rw [if_neg (not_beq hn)]
              obtain ⟨h', hw, hk'⟩ := pwrites_ok (this.2 hn)
              rw [hw]
              exact ⟨_, _, rfl, hk'⟩
          | false =>
            have := hp.2 hc
            rw [if_neg (not_ble hc)]
            obtain ⟨kc, this⟩ := this
            obtain ⟨c, hg⟩ := isCellsO_iff kc
            rw [hg] at this
            simp only [cellsOf] at this
            · simp only [hg]
              obtain ⟨k1, k2, k3⟩ := this
              rw [if_pos ⟨Nat.le_of_ble_eq_true k1, b0, Nat.le_of_ble_eq_true k2, z0⟩]
              cases sp with
              | none => exact ⟨_, _, rfl, k3⟩
              | some sz =>
                simp only [req_iff] at k3 ⊢
                obtain ⟨k4, k5, k6, k7⟩ := k3
                rw [if_pos ⟨Nat.eq_of_beq_eq_true k4, Nat.eq_of_beq_eq_true k5, k6⟩]
                exact ⟨_, _, rfl, k7⟩
    · exact hp.elim

def pmakeSlice (C : Ctx) (h : AH) (nid : Nat) (t : TypeId) (l c : AV) (K : AV → AH → Prop) : Prop :=
  match C.T t, l, c with
  | some ti, .int .i64 l, .int .i64 c =>
    match ti.k with
    | .slice e => match C.T e with
      | none => False
      | some te => req (Nat.beq te.zero.length te.size) (req (decide (0 ≤ l) && decide (l ≤ c)) (req (decide (te.bytes * c ≤ 2 ^ 48) && decide (c ≤ 2 ^ 62)) (K (.sl nid 0 l.toNat c.toNat none) (h.set nid (.cells (repl c.toNat te.zero))))))
    | _ => False
  | _, _, _ => False
theorem pmakeSlice_ok {C : Ctx} {h : AH} {nid : Nat} {t : TypeId} {l c : AV} {K : AV → AH → Prop} (hp : pmakeSlice C h nid t l c K) : ∃ v h', amakeSlice C h nid t l c = some (v, h') ∧ K v h' := by
  unfold pmakeSlice at hp
  unfold amakeSlice
  split at hp
  · rename_i ti l c hT
    rw [hT]
    simp only
    split at hp
    · rename_i e hk
      cases hTe : C.T e with
      | none => rw [hTe] at hp; exact hp.elim
      | some te =>
        rw [hTe] at hp
        simp only [req_iff, Bool.and_eq_true, decide_eq_true_eq] at hp
        obtain ⟨k1, ⟨k2, k3⟩, ⟨k4, k5⟩, k6⟩ := hp
        simp only [hk, hTe, if_pos (And.intro k2 (And.intro k3 (And.intro k4 (And.intro k5 (Nat.eq_of_beq_eq_true k1)))))]
        exact ⟨_, _, rfl, k6⟩
    · exact hp.elim
  · exact hp.elim

def pindex (C : Ctx) (t : TypeId) (x i : AV) (K : AV → Prop) : Prop :=
  match C.T t, x, i with
  | some ti, .agg cs, .int _ n => match ti.k with
    | .arr m e => match C.T e with
      | some te => match te.agg with
        | false => req (decide (0 ≤ n) && decide (n < m)) (req (Nat.blt (n.toNat * te.size) cs.length) (match te.zero with
          | [z] => req (okTyO z (cs.getD (n.toNat * te.size) .undef)) (K (retyO z (cs.getD (n.toNat * te.size) .undef)))
          | _ => False))
        | true => match aindex C t x i with
          | some v => K v
          | none => False
      | none => False
    | _ => False
  | some ti, .str s, .int _ n => match ti.k with
    | .str => req (decide (0 ≤ n) && Nat.blt n.toNat s.size) (K (.int .u8 (s.data.getD n.toNat 0).toNat))
    | _ => False
  | _, _, _ => False
theorem pindex_ok {C : Ctx} {t : TypeId} {x i : AV} {K : AV → Prop} (hp : pindex C t x i K) : ∃ v, aindex C t x i = some v ∧ K v := by
  unfold pindex at hp
  split at hp
  · rename_i ti cs k n hT
    split at hp
    · rename_i m e hk
      split at hp
      · rename_i te hTe
        split at hp
        · rename_i hag
          simp only [req_iff, Bool.and_eq_true, decide_eq_true_eq] at hp
          obtain ⟨k1, k2, k3⟩ := hp
          have k2 : n.toNat * te.size < cs.length := by simpa using k2
          split at k3
          · rename_i z hz
            unfold aindex
            rw [hT]
            simp only [hk, if_pos k1, hTe, Option.bind_some, apart, hag, Bool.false_eq_true, if_false]
            refine ⟨_, ?_, k3.2⟩
            rw [retyO_eq k3.1]
            simp [List.getD_eq_getElem?_getD, k2]
          · exact k3.elim
        · split at hp
          · rename_i v hv; exact ⟨v, hv, hp⟩
          · exact hp.elim
      · exact hp.elim
    · exact hp.elim
  · rename_i ti s k n hT
    split at hp
    · rename_i hk
      simp only [req_iff, Bool.and_eq_true, decide_eq_true_eq] at hp
      obtain ⟨⟨k1, k2⟩, k3⟩ := hp
      have k2 : n.toNat < s.size := by simpa using k2
      unfold aindex
      rw [hT]
      simp only [hk, if_pos k1]
      refine ⟨_, ?_, k3⟩
      have : s[n.toNat]? = some (s.data.getD n.toNat 0) := by
        rw [getElem?_pos s n.toNat k2]
        congr 1
        simp only [Array.getD, show n.toNat < s.data.size from k2, dif_pos]
        rfl
      rw [this]
      rfl
    · exact hp.elim
  · exact hp.elim

/-! ### Maps, that may not be known -/
def isMapO : Option AObj → Bool
  | some (.map _ _) => true
  | _ => false
def esOf : Option AObj → List (AV × AV × Nat)
  | some (.map es _) => es
  | _ => []
def clkOf : Option AObj → Nat
  | some (.map _ n) => n
  | _ => 0
theorem isMapO_iff {o : Option AObj} (h : isMapO o = true) : ∃ es n, o = some (.map es n) := by
  cases o with
  | none => cases h
  | some o => cases o <;> simp [isMapO] at h; exact ⟨_, _, rfl⟩
def isM : AV → Bool
  | .nilmap | .map _ => true
  | _ => false
def isNilM : AV → Bool
  | .nilmap => true
  | _ => false
def midOf : AV → Nat
  | .map id => id
  | _ => 0
def findOk (C : Ctx) (kt : TypeId) (k : AV) (es : List (AV × AV × Nat)) : Bool := match afind C kt k es 0 with
  | some none => true
  | some (some i) => Nat.blt i es.length
  | none => false
def findVal (C : Ctx) (kt : TypeId) (k : AV) (es : List (AV × AV × Nat)) (z : AV) : AV := match afind C kt k es 0 with
  | some (some i) => (es.getD i (.undef, .undef, 0)).2.1
  | _ => z
def updEs (C : Ctx) (kt : TypeId) (k v : AV) (es : List (AV × AV × Nat)) (n : Nat) : List (AV × AV × Nat) := match afind C kt k es 0 with
  | some (some i) => es.set i (k, v, (es.getD i (.undef, .undef, 0)).2.2)
  | _ => es ++ [(k, v, n)]
def updN (C : Ctx) (kt : TypeId) (k : AV) (es : List (AV × AV × Nat)) (n : Nat) : Nat := match afind C kt k es 0 with
  | some (some _) => n
  | _ => n + 1
/-- A map's value, by the kind of the type's zero. -/
def pview (z v : AV) (K : AV → Prop) : Prop := match z with
  | .nilmap => req (isM v) (cas (isNilM v) (K .nilmap) (K (.map (midOf v))))
  | .bool _ => req (isBool v) (K (.bool (boolOf v)))
  | .int k _ => req (isInt k v) (K (.int k (intOf v)))
  | _ => K v
theorem pview_ok {z v : AV} {K : AV → Prop} (h : pview z v K) : K v := by
  unfold pview at h
  split at h
  · simp only [req_iff, cas_iff] at h
    obtain ⟨h1, h2, h3⟩ := h
    cases v <;> simp [isM] at h1
    · exact h3 rfl
    · exact h2 rfl
  · simp only [req_iff] at h
    obtain ⟨h1, h2⟩ := h
    cases v <;> simp [isBool] at h1
    exact h2
  · simp only [req_iff] at h
    obtain ⟨h1, h2⟩ := h
    cases v <;> simp [isInt] at h1
    subst h1
    exact h2
  · exact h
def plookup (C : Ctx) (h : AH) (t : TypeId) (m k : AV) (K : AV → Prop) : Prop :=
  match C.T t with
  | some ti => match ti.k with
    | .map kt et => match C.T et with
      | some te => match azero te with
        | some z => req (keyOk C 1000 kt k) (match m with
          | .nilmap => K z
          | .map id => req (isMapO (h.get id)) (req (findOk C kt k (esOf (h.get id))) (pview z (findVal C kt k (esOf (h.get id)) z) K))
          | _ => False)
        | none => False
      | none => False
    | _ => False
  | none => False
theorem plookup_ok {C : Ctx} {h : AH} {t : TypeId} {m k : AV} {K : AV → Prop} (hp : plookup C h t m k K) : ∃ v, alookup C h t m k false = some v ∧ K v := by
  unfold plookup at hp
  unfold alookup
  cases hT : C.T t with
  | none => rw [hT] at hp; exact hp.elim
  | some ti =>
    rw [hT] at hp
    simp only at hp ⊢
    split at hp
    · rename_i kt et hk
      simp only [hk]
      cases hTe : C.T et with
      | none => rw [hTe] at hp; exact hp.elim
      | some te =>
        rw [hTe] at hp
        simp only at hp
        cases hz : azero te with
        | none => rw [hz] at hp; exact hp.elim
        | some z =>
          rw [hz] at hp
          simp only [req_iff] at hp
          rw [if_pos hp.1]
          obtain ⟨_, hp⟩ := hp
          split at hp
          · simp only [afind, hz]
            exact ⟨_, rfl, hp⟩
          · rename_i id
            obtain ⟨h1, h2, h3⟩ := hp
            obtain ⟨es, n, hg⟩ := isMapO_iff h1
            rw [hg] at h2 h3
            simp only [esOf] at h2 h3
            have h3 := pview_ok h3
            unfold findVal at h3
            unfold findOk at h2
            simp only [hg, hz]
            split at h3
            · rename_i i hf
              rw [hf] at h2
              simp only [Nat.blt_eq] at h2
              rw [hf]
              have : es[i]? = some (es.getD i (.undef, .undef, 0)) := by simp [List.getD_eq_getElem?_getD, h2]
              simp only [this, Option.map_some]
              exact ⟨_, rfl, h3⟩
            · rename_i hne
              cases hf : afind C kt k es 0 with
              | none => rw [hf] at h2; cases h2
              | some o =>
                cases o with
                | none => exact ⟨_, rfl, h3⟩
                | some i => exact absurd hf (hne i)
          · exact hp.elim
    · exact hp.elim
def pmapUpdate (C : Ctx) (h : AH) (t : TypeId) (m k v : AV) (K : AH → Prop) : Prop :=
  match C.T t, m with
  | some ti, .map id => match ti.k with
    | .map kt _ => req (keyOk C 1000 kt k) (req (isMapO (h.get id)) (req (findOk C kt k (esOf (h.get id))) (K (h.set id (.map (updEs C kt k v (esOf (h.get id)) (clkOf (h.get id))) (updN C kt k (esOf (h.get id)) (clkOf (h.get id))))))))
    | _ => False
  | _, _ => False
theorem pmapUpdate_ok {C : Ctx} {h : AH} {t : TypeId} {m k v : AV} {K : AH → Prop} (hp : pmapUpdate C h t m k v K) : ∃ h', amapUpdate C h t m k v = some h' ∧ K h' := by
  unfold pmapUpdate at hp
  split at hp
  · rename_i ti id hT
    split at hp
    · rename_i kt et hk
      simp only [req_iff] at hp
      obtain ⟨h1, h2, h3, h4⟩ := hp
      obtain ⟨es, n, hg⟩ := isMapO_iff h2
      rw [hg] at h3 h4
      simp only [esOf, clkOf] at h3 h4
      unfold amapUpdate
      simp only [hT, hk, hg, if_pos h1]
      unfold findOk at h3
      unfold updEs updN at h4
      split at h3
      · rename_i hf
        rw [hf] at h4
        rw [hf]
        exact ⟨_, rfl, h4⟩
      · rename_i i hf
        rw [hf] at h4
        rw [hf]
        simp only [Nat.blt_eq] at h3
        have : es[i]? = some (es.getD i (.undef, .undef, 0)) := by simp [List.getD_eq_getElem?_getD, h3]
        simp only [this, Option.map_some]
        exact ⟨_, rfl, h4⟩
      · cases h3
    · exact hp.elim
  · exact hp.elim

/-! ### All operations -/
def isAppendOf (C : Ctx) (ts : Array TypeId) : Bool := (ts[1]?).bind C.T |>.any (fun i => match i.k with | .slice _ | .str => true | _ => false)
def pstep (C : Ctx) (o : Op) (e : Env) (h : AH) (nid : Nat) (K : AV → AH → Prop) : Prop :=
  match o with
  | .load t p => match aeval C e p with
    | some p => pload C h t p fun v => K v h
    | none => False
  | .store t p x => match aeval C e p, aeval C e x with
    | some p, some x => pstore C h t p x fun h' => K .undef h'
    | _, _ => False
  | .indexAddr t x i => match aeval C e x, aeval C e i with
    | some x, some i => pindexAddr C t x i fun v => K v h
    | _, _ => False
  | .index t x i => match aeval C e x, aeval C e i with
    | some x, some i => pindex C t x i fun v => K v h
    | _, _ => False
  | .binOp op t x y _ => match aeval C e x, aeval C e y with
    | some a, some b => pbin C op t x y a b fun v => K v h
    | _, _ => False
  | .slice t x lo hi mx => match aeval C e x, aevalO C e lo, aevalO C e hi, aevalO C e mx with
    | some x, some lo, some hi, some mx => pslice C t x lo hi mx fun v => K v h
    | _, _, _, _ => False
  | .makeSlice t l c => match aeval C e l, aeval C e c with
    | some l, some c => pmakeSlice C h nid t l c K
    | _, _ => False
  | .lookup t m k false => match aeval C e m, aeval C e k with
    | some m, some k => plookup C h t m k fun v => K v h
    | _, _ => False
  | .mapUpdate t m k x => match aeval C e m, aeval C e k, aeval C e x with
    | some m, some k, some x => pmapUpdate C h t m k x fun h' => K .undef h'
    | _, _, _ => False
  | .call c => match c.callee, aevals C e c.args.toList, c.argTypes[0]? with
    | .builtin .append, some [s, x], some t => match isAppendOf C c.argTypes with
      | true => pappend C h nid t s x K
      | false => match astep C o e h nid with
        | some (v, h') => K v h'
        | none => False
    | _, _, _ => match astep C o e h nid with
      | some (v, h') => K v h'
      | none => False
  | o => match astep C o e h nid with
    | some (v, h') => K v h'
    | none => False
theorem pstep_ok {C : Ctx} {o : Op} {e : Env} {h : AH} {nid : Nat} {K : AV → AH → Prop} (hp : pstep C o e h nid K) : ∃ v h', astep C o e h nid = some (v, h') ∧ K v h' := by
  have dflt : ∀ {o}, (match astep C o e h nid with | some (v, h') => K v h' | none => False) → ∃ v h', astep C o e h nid = some (v, h') ∧ K v h' := by
    intro o hd
    split at hd
    · rename_i v h' hs; exact ⟨v, h', hs, hd⟩
    · exact hd.elim
  unfold pstep at hp
  split at hp
  · rename_i t p
    split at hp
    · rename_i p' hp'
      obtain ⟨v, h1, h2⟩ := pload_ok hp
      exact ⟨v, h, by simp [astep, hp', h1], h2⟩
    · exact hp.elim
  · rename_i t p x
    split at hp
    · rename_i p' x' hp' hx'
      obtain ⟨h', h1, h2⟩ := pstore_ok hp
      exact ⟨_, h', by simp [astep, hp', hx', h1], h2⟩
    · exact hp.elim
  · split at hp
    · rename_i x' i' hx' hi'
      obtain ⟨v, h1, h2⟩ := pindexAddr_ok hp
      exact ⟨v, h, by simp [astep, hx', hi', h1], h2⟩
    · exact hp.elim
  · split at hp
    · rename_i x' i' hx' hi'
      obtain ⟨v, h1, h2⟩ := pindex_ok hp
      exact ⟨v, h, by simp [astep, hx', hi', h1], h2⟩
    · exact hp.elim
  · split at hp
    · rename_i x' i' hx' hi'
      obtain ⟨v, h1, h2⟩ := pbin_ok hp
      exact ⟨v, h, by simp [astep, hx', hi', h1], h2⟩
    · exact hp.elim
  · split at hp
    · rename_i x' lo' hi' mx' h1 h2 h3 h4
      obtain ⟨v, k1, k2⟩ := pslice_ok hp
      exact ⟨v, h, by simp [astep, h1, h2, h3, h4, k1], k2⟩
    · exact hp.elim
  · split at hp
    · rename_i l' c' h1 h2
      obtain ⟨v, h', k1, k2⟩ := pmakeSlice_ok hp
      exact ⟨v, h', by simp [astep, h1, h2, k1], k2⟩
    · exact hp.elim
  · split at hp
    · rename_i m' k' h1 h2
      obtain ⟨v, k1, k2⟩ := plookup_ok hp
      exact ⟨v, h, by simp [astep, h1, h2, k1], k2⟩
    · exact hp.elim
  · split at hp
    · rename_i m' k' x' h1 h2 h3
      obtain ⟨h', k1, k2⟩ := pmapUpdate_ok hp
      exact ⟨_, h', by simp [astep, h1, h2, h3, k1], k2⟩
    · exact hp.elim
  · rename_i c
    split at hp
    · rename_i s x t hc ha ht
      split at hp
      · rename_i hap
        obtain ⟨v, h', k1, k2⟩ := pappend_ok hp
        refine ⟨v, h', ?_, k2⟩
        simp only [astep, hc, ha, Option.bind_some, abuiltin, ht]
        exact (if_pos hap).trans k1
      · exact dflt hp
    · exact dflt hp
  · exact dflt hp
end Go.Am
