/- Objects by other numbers: what a piece of code does is the same. -/
import Derived.Test.YtpkljgaokgfpnaaGreatDoorAmWpAll
set_option linter.unusedVariables false
set_option linter.unusedSimpArgs false
namespace Go.Am
open Go

/-! ### Values by other numbers -/
mutual
def mapV (ρ : Nat → Nat) : AV → AV
  | .ptr id off => .ptr (ρ id) off
  | .sl id off len cap sp => .sl (ρ id) off len cap sp
  | .map id => .map (ρ id)
  | .func fn fi ca => .func fn (mapVL ρ fi) (mapVL ρ ca)
  | .yield id => .yield (ρ id)
  | .iface t v => .iface t (mapV ρ v)
  | .agg cs => .agg (mapVL ρ cs)
  | .tup vs => .tup (mapVL ρ vs)
  | .bool b => .bool b
  | .int k n => .int k n
  | .str s => .str s
  | .nilptr => .nilptr
  | .kptr cs => .kptr cs
  | .snil => .snil
  | .lst es f => .lst es f
  | .nilmap => .nilmap
  | .nilfunc => .nilfunc
  | .niliface => .niliface
def mapVL (ρ : Nat → Nat) : List AV → List AV
  | [] => []
  | x :: xs => mapV ρ x :: mapVL ρ xs
end
def Mu.pull (μ : Mu) (ρ : Nat → Nat) : Mu := { μ with obj := fun j => μ.obj (ρ j) }
theorem mapVL_eq (ρ : Nat → Nat) : ∀ xs, mapVL ρ xs = xs.map (mapV ρ)
  | [] => rfl
  | x :: xs => by simp only [mapVL, List.map_cons, mapVL_eq ρ xs]
mutual
theorem VRel_map (μ : Mu) (ρ : Nat → Nat) : ∀ (x : AV) (v : Value), VRel μ (mapV ρ x) v ↔ VRel (μ.pull ρ) x v
  | .ptr id off, v | .sl id off len cap sp, v | .map id, v | .yield id, v => by simp only [mapV, VRel, Mu.pull]
  | .func fn fi ca, v => by
    simp only [mapV, VRel]
    constructor
    · rintro ⟨h1, fi', ca', h2, h3, h4⟩; exact ⟨h1, fi', ca', h2, (VRelL_map μ ρ fi _).1 h3, (VRelL_map μ ρ ca _).1 h4⟩
    · rintro ⟨h1, fi', ca', h2, h3, h4⟩; exact ⟨h1, fi', ca', h2, (VRelL_map μ ρ fi _).2 h3, (VRelL_map μ ρ ca _).2 h4⟩
  | .iface t x, v => by
    simp only [mapV, VRel]
    constructor
    · rintro ⟨x', h1, h2⟩; exact ⟨x', h1, (VRel_map μ ρ x _).1 h2⟩
    · rintro ⟨x', h1, h2⟩; exact ⟨x', h1, (VRel_map μ ρ x _).2 h2⟩
  | .agg cs, v => by
    simp only [mapV, VRel]
    constructor
    · rintro ⟨x', h1, h2⟩; exact ⟨x', h1, (VRelL_map μ ρ cs _).1 h2⟩
    · rintro ⟨x', h1, h2⟩; exact ⟨x', h1, (VRelL_map μ ρ cs _).2 h2⟩
  | .tup cs, v => by
    simp only [mapV, VRel]
    constructor
    · rintro ⟨x', h1, h2⟩; exact ⟨x', h1, (VRelL_map μ ρ cs _).1 h2⟩
    · rintro ⟨x', h1, h2⟩; exact ⟨x', h1, (VRelL_map μ ρ cs _).2 h2⟩
  | .bool _, _ | .int _ _, _ | .str _, _ | .nilptr, _ | .kptr _, _ | .snil, _ | .lst _ _, _ | .nilmap, _ | .nilfunc, _ | .niliface, _ => by
    simp only [mapV, VRel, Mu.pull, Mu.still, FroAt, Mu.cell]
theorem VRelL_map (μ : Mu) (ρ : Nat → Nat) : ∀ (xs : List AV) (l : List Value), VRelL μ (mapVL ρ xs) l ↔ VRelL (μ.pull ρ) xs l
  | [], l => by simp only [mapVL, VRelL]
  | x :: xs, l => by
    simp only [mapVL, VRelL]
    constructor
    · rintro ⟨v, l', h1, h2, h3⟩; exact ⟨v, l', h1, (VRel_map μ ρ x _).1 h2, (VRelL_map μ ρ xs _).1 h3⟩
    · rintro ⟨v, l', h1, h2, h3⟩; exact ⟨v, l', h1, (VRel_map μ ρ x _).2 h2, (VRelL_map μ ρ xs _).2 h3⟩
end
mutual
theorem mapV_mapV (ρ σ : Nat → Nat) : ∀ x, mapV ρ (mapV σ x) = mapV (fun j => ρ (σ j)) x
  | .ptr id off | .sl id off len cap sp | .map id | .yield id => by simp only [mapV]
  | .func fn fi ca => by simp only [mapV, mapVL_mapVL ρ σ fi, mapVL_mapVL ρ σ ca]
  | .iface t x => by simp only [mapV, mapV_mapV ρ σ x]
  | .agg cs => by simp only [mapV, mapVL_mapVL ρ σ cs]
  | .tup cs => by simp only [mapV, mapVL_mapVL ρ σ cs]
  | .bool _ | .int _ _ | .str _ | .nilptr | .kptr _ | .snil | .lst _ _ | .nilmap | .nilfunc | .niliface => by simp only [mapV]
theorem mapVL_mapVL (ρ σ : Nat → Nat) : ∀ xs, mapVL ρ (mapVL σ xs) = mapVL (fun j => ρ (σ j)) xs
  | [] => rfl
  | x :: xs => by simp only [mapVL, mapV_mapV ρ σ x, mapVL_mapVL ρ σ xs]
end

def Tr.map {α β : Type} (f : α → β) : Tr α → Tr β
  | .nil => .nil
  | .node v l r => .node (v.map f) (l.map f) (r.map f)
theorem Tr.get_map {α β : Type} (f : α → β) : ∀ (t : Tr α) (n : Nat), (t.map f).get n = (t.get n).map f
  | .nil, n => by simp [Tr.map, Tr.get]
  | .node v l r, n => by
    simp only [Tr.map, Tr.get_node, Tr.get_map f l, Tr.get_map f r]
    split
    · rfl
    · split <;> rfl
theorem Tr.map_map {α β γ : Type} (f : α → β) (g : β → γ) : ∀ t : Tr α, (t.map f).map g = t.map (fun x => g (f x))
  | .nil => rfl
  | .node v l r => by simp [Tr.map, Tr.map_map f g l, Tr.map_map f g r, Function.comp_def]

def mapO (ρ : Nat → Nat) : AObj → AObj
  | .cells c => .cells (c.map (mapV ρ))
  | .map es clock => .map (es.map fun e => (mapV ρ e.1, mapV ρ e.2.1, e.2.2)) clock
  | .loop st pend n env ps assign body dfr => .loop st pend n (env.map (mapV ρ)) ps assign body (ρ dfr)
  | .deferred => .deferred
  | .mapIter m since seen stepped => .mapIter (ρ m) since seen stepped
  | .strIter s pos => .strIter s pos
theorem mapO_mapO (ρ σ : Nat → Nat) (o : AObj) : mapO ρ (mapO σ o) = mapO (fun j => ρ (σ j)) o := by
  have hf : (mapV ρ ∘ mapV σ) = mapV (fun j => ρ (σ j)) := by funext x; exact mapV_mapV ρ σ x
  cases o <;> simp only [mapO]
  case cells c => rw [List.map_map, hf]
  case map es clock => simp only [List.map_map]; congr 1; apply List.map_congr_left; intro e _; simp [mapV_mapV]
  case loop => simp only [Tr.map_map, mapV_mapV]
theorem ERel_map (μ : Mu) (ρ : Nat → Nat) (v : TE) (n : Nat) (tm : Array Value) : ERel μ (v.map (mapV ρ)) n tm ↔ ERel (μ.pull ρ) v n tm := by
  constructor
  · rintro ⟨h1, h2⟩
    refine ⟨h1, fun t x hx => (VRel_map μ ρ x _).1 (h2 t _ ?_)⟩
    rw [Tr.get_map, hx]; rfl
  · rintro ⟨h1, h2⟩
    refine ⟨h1, fun t x hx => ?_⟩
    rw [Tr.get_map] at hx
    cases hg : v.get t with
    | none => rw [hg] at hx; cases hx
    | some y =>
      rw [hg] at hx
      simp only [Option.map_some, Option.some.injEq] at hx
      subst hx
      exact (VRel_map μ ρ y _).2 (h2 t y hg)
theorem MRel_map (μ : Mu) (ρ : Nat → Nat) : ∀ (es : List (AV × AV × Nat)) (l : List MapEntry), MRel μ (es.map fun e => (mapV ρ e.1, mapV ρ e.2.1, e.2.2)) l ↔ MRel (μ.pull ρ) es l
  | [], l => by simp only [List.map_nil, MRel]
  | (k, v, n) :: es, l => by
    simp only [List.map_cons, MRel]
    constructor
    · rintro ⟨k', v', l', e, h1, h2, h3⟩; exact ⟨k', v', l', e, (VRel_map μ ρ _ _).1 h1, (VRel_map μ ρ _ _).1 h2, (MRel_map μ ρ es l').1 h3⟩
    · rintro ⟨k', v', l', e, h1, h2, h3⟩; exact ⟨k', v', l', e, (VRel_map μ ρ _ _).2 h1, (VRel_map μ ρ _ _).2 h2, (MRel_map μ ρ es l').2 h3⟩
theorem ORel_map (μ : Mu) (ρ : Nat → Nat) (o : AObj) (p : Place) (w : World) : ORel μ (mapO ρ o) p w ↔ ORel (μ.pull ρ) o p w := by
  cases o <;> simp only [mapO, ORel]
  case cells c =>
    rw [← mapVL_eq]
    have hl : (mapVL ρ c).length = c.length := by rw [mapVL_eq]; simp
    rw [hl]
    constructor
    · rintro ⟨C, el, vs, h1, h2, h3, h4, h5⟩; exact ⟨C, el, vs, h1, h2, h3, (VRelL_map μ ρ c _).1 h4, h5⟩
    · rintro ⟨C, el, vs, h1, h2, h3, h4, h5⟩; exact ⟨C, el, vs, h1, h2, h3, (VRelL_map μ ρ c _).2 h4, h5⟩
  case map es clock =>
    constructor
    · rintro ⟨es', h1, h2⟩; exact ⟨es', h1, (MRel_map μ ρ es _).1 h2⟩
    · rintro ⟨es', h1, h2⟩; exact ⟨es', h1, (MRel_map μ ρ es _).2 h2⟩
  case loop =>
    constructor
    · rintro ⟨fn, tm, q, h1, h2, h3⟩; exact ⟨fn, tm, q, h1, (ERel_map μ ρ _ _ _).1 h2, h3⟩
    · rintro ⟨fn, tm, q, h1, h2, h3⟩; exact ⟨fn, tm, q, h1, (ERel_map μ ρ _ _ _).2 h2, h3⟩
  case mapIter => simp only [Mu.pull]
theorem DRel_map (μ : Mu) (ρ : Nat → Nat) : ∀ (ds : List Nat) (l : List Deferred), DRel μ (ds.map ρ) l ↔ DRel (μ.pull ρ) ds l
  | [], l => by simp only [List.map_nil, DRel]
  | d :: ds, l => by
    simp only [List.map_cons, DRel]
    constructor
    · rintro ⟨p, l', h1, h2, h3⟩; exact ⟨p, l', h1, h2, (DRel_map μ ρ ds l').1 h3⟩
    · rintro ⟨p, l', h1, h2, h3⟩; exact ⟨p, l', h1, h2, (DRel_map μ ρ ds l').2 h3⟩
def mapX (ρ : Nat → Nat) : AX → AX
  | .panic v => .panic (mapV ρ v)
  | .normal => .normal
  | .ret => .ret
  | .exit i => .exit i
theorem XRel_map (μ : Mu) (ρ : Nat → Nat) (x : AX) (y : Exit) : XRel μ (mapX ρ x) y ↔ XRel (μ.pull ρ) x y := by
  cases x <;> simp only [mapX, XRel, VRel_map]
theorem mapX_mapX (ρ σ : Nat → Nat) (x : AX) : mapX ρ (mapX σ x) = mapX (fun j => ρ (σ j)) x := by
  cases x <;> simp only [mapX, mapV_mapV]

/-- The numbers of a list, and behind them fresh ones from N on. -/
def ext (l : List Nat) (N : Nat) (j : Nat) : Nat :=
  match l[j]? with
  | some i => i
  | none => N + (j - l.length)
theorem ext_lt {l : List Nat} {N j : Nat} (h : j < l.length) : ext l N j = l[j] := by simp [ext, h]
theorem ext_ge {l : List Nat} {N j : Nat} (h : l.length ≤ j) : ext l N j = N + (j - l.length) := by simp [ext, List.getElem?_eq_none h]

/-- One state is another one, by other numbers. -/
structure Mt (l : List Nat) (e0 : Env) (h0 : AH) (e : Env) (h : AH) : Prop where
  n : e.n = e0.n
  ds : e.ds = e0.ds.map (ext l h.next)
  v : ∀ t x, e0.v.get t = some x → e.v.get t = some (mapV (ext l h.next) x)
  o : ∀ j o, h0.get j = some o → h.get (ext l h.next j) = some (mapO (ext l h.next) o)
  next : h0.next = l.length
  nd : l.Nodup
  lt : ∀ i ∈ l, i < h.next
theorem Mt.inj {l : List Nat} {N : Nat} (hnd : l.Nodup) (hlt : ∀ i ∈ l, i < N) {i j : Nat} (h : ext l N i = ext l N j) : i = j := by
  by_cases hi : i < l.length <;> by_cases hj : j < l.length
  · rw [ext_lt hi, ext_lt hj] at h
    have hp := List.pairwise_iff_getElem.1 hnd
    rcases Nat.lt_trichotomy i j with h1 | h1 | h1
    · exact absurd h (hp i j hi hj h1)
    · exact h1
    · exact absurd h.symm (hp j i hj hi h1)
  · rw [ext_lt hi, ext_ge (by omega)] at h
    have := hlt _ (List.getElem_mem hi)
    omega
  · rw [ext_lt hj, ext_ge (by omega)] at h
    have := hlt _ (List.getElem_mem hj)
    omega
  · rw [ext_ge (by omega), ext_ge (by omega)] at h
    omega
def FixL (k : Nat) (l : List Nat) : Prop := k ≤ l.length ∧ ∀ j, j < k → l[j]? = some j
/-- A state that is, by other numbers, one that X takes; numbers below k are as they are. -/
def QM (k : Nat) (X : AQ) : AQ := fun x e h => ∃ l x0 e0 h0, FixL k l ∧ Mt l e0 h0 e h ∧ x = mapX (ext l h.next) x0 ∧ X x0 e0 h0

/-! ### The heap by other numbers -/
def mapHF (ρ : Nat → Nat) (h : AH) (N : Nat) : Nat → AH
  | 0 => ⟨N, .nil⟩
  | j + 1 => match h.get j with
    | some o => (mapHF ρ h N j).set (ρ j) (mapO ρ o)
    | none => mapHF ρ h N j
theorem mapHF_next (ρ : Nat → Nat) (h : AH) (N : Nat) : ∀ m, (mapHF ρ h N m).next = N
  | 0 => rfl
  | j + 1 => by
    simp only [mapHF]
    split
    · simp [mapHF_next ρ h N j]
    · exact mapHF_next ρ h N j
theorem mapHF_get {ρ : Nat → Nat} (hi : ∀ i j, ρ i = ρ j → i = j) (h : AH) (N : Nat) : ∀ m id o', (mapHF ρ h N m).get id = some o' ↔ ∃ j o, j < m ∧ id = ρ j ∧ h.get j = some o ∧ o' = mapO ρ o
  | 0, id, o' => by
    constructor
    · intro hg; simp [mapHF, AH.get, Tr.get] at hg
    · rintro ⟨j, o, hj, _⟩; omega
  | m + 1, id, o' => by
    simp only [mapHF]
    split
    · rename_i o ho
      rw [AH.get_set]
      split
      · rename_i e
        constructor
        · intro hx; injection hx with hx; exact ⟨m, o, by omega, e, ho, hx.symm⟩
        · rintro ⟨j, o1, hj, e1, h1, h2⟩
          have : j = m := hi _ _ (by rw [← e1, e])
          subst this
          rw [ho] at h1; injection h1 with h1; subst h1
          rw [h2]
      · rename_i e
        rw [mapHF_get hi h N m id o']
        constructor
        · rintro ⟨j, o1, hj, r⟩; exact ⟨j, o1, by omega, r⟩
        · rintro ⟨j, o1, hj, e1, r⟩
          refine ⟨j, o1, ?_, e1, r⟩
          have : j ≠ m := fun x => e (by rw [e1, x])
          omega
    · rename_i ho
      rw [mapHF_get hi h N m id o']
      constructor
      · rintro ⟨j, o1, hj, r⟩; exact ⟨j, o1, by omega, r⟩
      · rintro ⟨j, o1, hj, e1, h1, r⟩
        refine ⟨j, o1, ?_, e1, h1, r⟩
        have : j ≠ m := fun x => by rw [x, ho] at h1; cases h1
        omega

theorem Rel.lt {μ : Mu} {h : AH} {w : World} (hr : Rel μ h w) {j : Nat} {o : AObj} (hg : h.get j = some o) : j < h.next := by
  obtain ⟨p, hp, _⟩ := hr.obj j o hg
  exact hr.dom j p hp

theorem pull_still (μ : Mu) (ρ : Nat → Nat) : (μ.pull ρ).still = μ.still := rfl
theorem GOk.pull {C : Ctx} {μ : Mu} (h : GOk C μ) (ρ : Nat → Nat) : GOk C (μ.pull ρ) := fun g cs hg => by
  have := h g cs hg
  rw [show AV.kptr cs = mapV ρ (.kptr cs) from rfl, VRel_map] at this
  exact this
theorem Mu.ext' {μ μ' : Mu} (h1 : ∀ j, μ.obj j = μ'.obj j) (h2 : μ.fro = μ'.fro) : μ = μ' := by
  cases μ; cases μ'; simp only at h1 h2; subst h2; congr; funext j; exact h1 j

/-- **The same by other numbers, at a piece of code's start.** -/
theorem asem_canon {C : Ctx} {ro ro0 : Option Nat} {c : Code} {k : Nat} {X : AQ} {l : List Nat} {e0 e : Env} {h0 h : AH} (hl : FixL k l) (hm : Mt l e0 h0 e h) (hro : ro = ro0.map (ext l h.next)) (hs : ASem C ro0 c (QM k X) e0 h0) : ASem C ro c (QM k X) e h := by
  intro μ w a hr hG hroOk he hd
  obtain ⟨ρ, hρ⟩ : ∃ ρ, ρ = ext l h.next := ⟨_, rfl⟩
  have hinj : ∀ i j, ρ i = ρ j → i = j := fun i j hij => by subst hρ; exact Mt.inj hm.nd hm.lt hij
  have hlo : ∀ j, j < l.length → ρ j < h.next := fun j hj => by subst hρ; rw [ext_lt hj]; exact hm.lt _ (List.getElem_mem hj)
  have hhi : ∀ j, l.length ≤ j → ρ j = h.next + (j - l.length) := fun j hj => by subst hρ; exact ext_ge hj
  have hdom0 : ∀ j p, (μ.pull ρ).obj j = some p → j < l.length := fun j p hp => by
    rcases Nat.lt_or_ge j l.length with h1 | h1
    · exact h1
    · have := hr.dom _ _ hp
      rw [hhi j h1] at this
      omega
  have hmo : ∀ j o, h0.get j = some o → h.get (ρ j) = some (mapO ρ o) := by subst hρ; exact hm.o
  have hmv : ∀ t x, e0.v.get t = some x → e.v.get t = some (mapV ρ x) := by subst hρ; exact hm.v
  have hmd : e.ds = e0.ds.map ρ := by subst hρ; exact hm.ds
  have hr0 : Rel (μ.pull ρ) h0 w := by
    refine ⟨hr.fro, fun j p hp => by rw [hm.next]; exact hdom0 j p hp, fun j o ho => ?_, fun i j oi oj pi pj hi hj hpi hpj hb => hinj _ _ (hr.inj _ _ _ _ _ _ (hmo i oi hi) (hmo j oj hj) hpi hpj hb)⟩
    obtain ⟨p, h1, h2, h3⟩ := hr.obj _ _ (hmo j o ho)
    exact ⟨p, h1, h2, (ORel_map μ ρ o p w).1 h3⟩
  have hro0 : RoOk (μ.pull ρ) ro0 := fun id hid => by
    obtain ⟨p, hp⟩ := hroOk (ρ id) (by rw [hro, hid, hρ]; rfl)
    exact ⟨p, hp⟩
  have he0 : ERel (μ.pull ρ) e0.v e0.n a.tmps := ⟨by rw [he.1, hm.n], fun t x hx => (VRel_map μ ρ x _).1 (he.2 t _ (hmv t x hx))⟩
  have hd0 : DRel (μ.pull ρ) e0.ds a.defers := (DRel_map μ ρ _ _).1 (by rw [← hmd]; exact hd)
  have hf : fenceOf (μ.pull ρ) ro0 = fenceOf μ ro := by
    rw [hro]
    cases ro0 with
    | none => rfl
    | some id => simp only [fenceOf, Option.map_some, Mu.pull, hρ]
  have := hs (μ.pull ρ) w a hr0 (hG.pull ρ) hro0 he0 hd0
  rw [hf] at this
  refine wpIn_mono this ?_
  rintro x a' w' ⟨ax, e1, h1, μ1, g1, g2, g3, g4, l1, x2, e2, h2, f1, f2, f3, f4⟩
  -- the numbers behind
  obtain ⟨μ', hμ'⟩ : ∃ μ' : Mu, μ' = ⟨fun id => if id < h.next then μ.obj id else μ1.obj (id - h.next + l.length), μ1.fro⟩ := ⟨_, rfl⟩
  have hk1 : l.length ≤ h1.next := by rw [← hm.next]; exact g2.next
  have hpull : μ'.pull ρ = μ1 := by
    refine Mu.ext' (fun j => ?_) (by subst hμ'; rfl)
    subst hμ'
    simp only [Mu.pull]
    rcases Nat.lt_or_ge j l.length with hj | hj
    · rw [if_pos (hlo j hj)]
      exact (g2.res j (by rw [hm.next]; exact hj)).symm
    · rw [hhi j hj, if_neg (by omega)]
      congr 1
      omega
  obtain ⟨H, hH⟩ : ∃ H, H = mapHF ρ h1 (h.next + (h1.next - l.length)) h1.next := ⟨_, rfl⟩
  have hHn : H.next = h.next + (h1.next - l.length) := by subst hH; exact mapHF_next _ _ _ _
  have hHg : ∀ id o', H.get id = some o' ↔ ∃ j o, j < h1.next ∧ id = ρ j ∧ h1.get j = some o ∧ o' = mapO ρ o := by subst hH; exact mapHF_get hinj h1 _ _
  have hrel : Rel μ' H w' := by
    refine ⟨fun b o hb => g2.rel.fro b o (by rw [hμ'] at hb; exact hb), fun id p hp => ?_, fun id o' ho' => ?_, fun i j oi oj pi pj hi hj hpi hpj hb => ?_⟩
    · rw [hμ'] at hp
      simp only at hp
      rw [hHn]
      split at hp
      · omega
      · have := g2.rel.dom _ _ hp
        omega
    · obtain ⟨j, o, hj, rfl, hg, rfl⟩ := (hHg _ _).1 ho'
      obtain ⟨p, k1, k2, k3⟩ := g2.rel.obj j o hg
      have hfro : μ'.fro = μ1.fro := by rw [hμ']
      rw [← hpull] at k1 k3
      exact ⟨p, k1, by rw [hfro]; exact k2, (ORel_map μ' ρ o p w').2 k3⟩
    · obtain ⟨i', oi', _, rfl, hgi, rfl⟩ := (hHg _ _).1 hi
      obtain ⟨j', oj', _, rfl, hgj, rfl⟩ := (hHg _ _).1 hj
      rw [g2.rel.inj i' j' oi' oj' pi pj hgi hgj (by rw [← hpull]; exact hpi) (by rw [← hpull]; exact hpj) hb]
  have hle : μ.le μ' := by
    refine ⟨fun id p hp => ?_, fun b o hb => ?_⟩
    · rw [hμ']; simp only; rw [if_pos (hr.dom _ _ hp)]; exact hp
    · rw [hμ']; exact g2.le.fro b o hb
  have hown : ∀ b, Own (μ.pull ρ) h0 b → Own μ h b := fun b ⟨j, o, p, k1, k2, k3⟩ => ⟨ρ j, _, p, hmo j o k1, k2, k3⟩
  have hown' : ∀ b, Own μ' H b → Own μ1 h1 b := fun b ⟨id, o', p, k1, k2, k3⟩ => by
    obtain ⟨j, o, _, rfl, hg, rfl⟩ := (hHg _ _).1 k1
    exact ⟨j, o, p, hg, by rw [← hpull]; exact k2, k3⟩
  have hpost : Post (· < h.next) μ h w μ' H w' := by
    refine ⟨hrel, hle, g2.os, g2.tape, g2.output, g2.size, by rw [hHn]; omega, fun id hid => by rw [hμ']; simp only; rw [if_pos hid], fun b hb hfb hno => ?_⟩
    obtain ⟨k1, k2, k3⟩ := g2.frame b hb hfb (fun ho => hno (hown b ho))
    exact ⟨k1, by rw [hμ']; exact k2, fun ho => k3 (hown' b ho)⟩
  refine ⟨mapX ρ ax, ⟨e1.n, e1.v.map (mapV ρ), e1.ds.map ρ⟩, H, μ', (XRel_map μ' ρ ax x).2 (by rw [hpull]; exact g1), hpost, (ERel_map μ' ρ _ _ _).2 (by rw [hpull]; exact g3), (DRel_map μ' ρ _ _).2 (by rw [hpull]; exact g4), ?_⟩
  have hcomp : ∀ j, ρ (ext l1 h1.next j) = ext (l1.map ρ) H.next j := fun j => by
    rcases Nat.lt_or_ge j l1.length with hj | hj
    · rw [ext_lt hj, ext_lt (by simpa using hj)]
      simp
    · rw [ext_ge hj, ext_ge (by simpa using hj), hhi _ (by omega), hHn, List.length_map]
      omega
  have hcompf : (fun j => ρ (ext l1 h1.next j)) = ext (l1.map ρ) H.next := funext hcomp
  refine ⟨l1.map ρ, x2, e2, h2, ⟨by simpa using f1.1, fun j hj => ?_⟩, ⟨f2.n, ?_, ?_, ?_, by simpa using f2.next, ?_, ?_⟩, ?_, f4⟩
  · have := f1.2 j hj
    have hjl := hl.2 j hj
    have hlt : j < l.length := by have := hl.1; omega
    simp only [List.getElem?_map, this, Option.map_some, Option.some.injEq]
    rw [hρ, ext_lt hlt]
    simpa [hlt] using hjl
  · simp only [f2.ds, List.map_map]
    congr 1
  · intro t x hx
    simp only [Tr.get_map, f2.v t x hx, Option.map_some, mapV_mapV, hcompf]
  · intro j o ho
    have h3 := f2.o j o ho
    rw [← hcompf, ← mapO_mapO]
    exact (hHg _ _).2 ⟨_, _, g2.rel.lt h3, rfl, h3, rfl⟩
  · refine List.Pairwise.map ρ (fun a b hab => ?_) f2.nd
    exact fun hh => hab (hinj _ _ hh)
  · intro i hi
    obtain ⟨j, hj, rfl⟩ := List.mem_map.1 hi
    have := f2.lt j hj
    rw [hHn]
    rcases Nat.lt_or_ge j l.length with h3 | h3
    · have := hlo j h3; omega
    · rw [hhi j h3]; omega
  · rw [f3, mapX_mapX, hcompf]

/-- **Numbers that came up in a piece of code may be chosen behind it.** -/
theorem asem_post {C : Ctx} {ro : Option Nat} {c : Code} {X Q : AQ} {e : Env} {h : AH} (hs : ASem C ro c (QM h.next X) e h) (hq : ∀ x e0 h0, X x e0 h0 → h.next ≤ h0.next → Q x e0 h0) : ASem C ro c Q e h := by
  intro μ w a hr hG hroOk he hd
  refine wpIn_mono (hs μ w a hr hG hroOk he hd) ?_
  rintro x a' w' ⟨ax, e1, h1, μ1, g1, g2, g3, g4, l, x0, e0, h0, f1, f2, f3, f4⟩
  obtain ⟨ρ, hρ⟩ : ∃ ρ, ρ = ext l h1.next := ⟨_, rfl⟩
  have hinj : ∀ i j, ρ i = ρ j → i = j := fun i j hij => by subst hρ; exact Mt.inj f2.nd f2.lt hij
  have hhi : ∀ j, l.length ≤ j → ρ j = h1.next + (j - l.length) := fun j hj => by subst hρ; exact ext_ge hj
  have hfix : ∀ j, j < h.next → ρ j = j := fun j hj => by
    have := f1.2 j hj
    subst hρ
    simp only [ext, this]
  have hmo : ∀ j o, h0.get j = some o → h1.get (ρ j) = some (mapO ρ o) := by subst hρ; exact f2.o
  have hmv : ∀ t x, e0.v.get t = some x → e1.v.get t = some (mapV ρ x) := by subst hρ; exact f2.v
  have hdom : ∀ j p, (μ1.pull ρ).obj j = some p → j < l.length := fun j p hp => by
    rcases Nat.lt_or_ge j l.length with h3 | h3
    · exact h3
    · have := g2.rel.dom _ _ hp
      rw [hhi j h3] at this
      omega
  have hrel : Rel (μ1.pull ρ) h0 w' := by
    refine ⟨g2.rel.fro, fun j p hp => by rw [f2.next]; exact hdom j p hp, fun j o ho => ?_, fun i j oi oj pi pj hi hj hpi hpj hb => hinj _ _ (g2.rel.inj _ _ _ _ _ _ (hmo i oi hi) (hmo j oj hj) hpi hpj hb)⟩
    obtain ⟨p, k1, k2, k3⟩ := g2.rel.obj _ _ (hmo j o ho)
    exact ⟨p, k1, k2, (ORel_map μ1 ρ o p w').1 k3⟩
  have hnx : h.next ≤ h0.next := by rw [f2.next]; exact f1.1
  refine ⟨x0, e0, h0, μ1.pull ρ, (XRel_map μ1 ρ x0 x).1 (by rw [hρ, ← f3]; exact g1), ⟨hrel, ⟨fun id p hp => ?_, g2.le.fro⟩, g2.os, g2.tape, g2.output, g2.size, hnx, fun id hid => ?_, fun b hb hfb hno => ?_⟩, ?_, ?_, hq _ _ _ f4 hnx⟩
  · show μ1.obj (ρ id) = some p
    rw [hfix id (hr.dom _ _ hp)]
    exact g2.le.obj _ _ hp
  · show μ1.obj (ρ id) = μ.obj id
    rw [hfix id hid]
    exact g2.res id hid
  · obtain ⟨k1, k2, k3⟩ := g2.frame b hb hfb hno
    exact ⟨k1, k2, fun ⟨j, o, p, m1, m2, m3⟩ => k3 ⟨ρ j, _, p, hmo j o m1, m2, m3⟩⟩
  · exact ⟨by rw [g3.1, f2.n], fun t x hx => (VRel_map μ1 ρ x _).1 (g3.2 t _ (hmv t x hx))⟩
  · refine (DRel_map μ1 ρ _ _).1 ?_
    have := f2.ds
    rw [← hρ] at this
    rw [← this]
    exact g4

/-- **A loop**: its rounds lead from states to states, by whatever numbers. -/
theorem asem_rounds {C : Ctx} {ro : Option Nat} {c : Code} {σ : Type} (St : σ → Env × AH) (m : σ → Nat) (k : Nat) (X : AQ) (hro : ∀ id, ro = some id → id < k)
    (round : ∀ s, ASem C ro c (fun x e h => match x with
      | .normal => ∃ s' l, m s' < m s ∧ FixL k l ∧ Mt l (St s').1 (St s').2 e h
      | x => QM k X x e h) (St s).1 (St s).2) : ∀ s, ASem C ro (.loop c) (QM k X) (St s).1 (St s).2 := by
  have key : ∀ n s, m s < n → ASem C ro (.loop c) (QM k X) (St s).1 (St s).2 := by
    intro n
    induction n with
    | zero => intro s hs; omega
    | succ n ih =>
      intro s hs
      refine asem_loop ((round s).mono fun x e h hx => ?_)
      cases x with
      | normal =>
        obtain ⟨s', l, h1, h2, h3⟩ := hx
        refine asem_canon h2 h3 ?_ (ih s' (by omega))
        cases ro with
        | none => rfl
        | some id =>
          have := h2.2 id (hro id rfl)
          simp only [Option.map_some, ext, this]
      | exit i => exact hx
      | ret => exact hx
      | panic v => exact hx
  exact fun s => key (m s + 1) s (by omega)
end Go.Am
/- Functions of values: what is made in a call lies still behind it. -/
namespace Go.Am
open Go

mutual
def idfree : AV → Bool
  | .ptr _ _ | .sl _ _ _ _ _ | .map _ | .yield _ => false
  | .func _ fi ca => idfreeL fi && idfreeL ca
  | .iface _ v => idfree v
  | .agg cs => idfreeL cs
  | .tup vs => idfreeL vs
  | _ => true
def idfreeL : List AV → Bool
  | [] => true
  | x :: xs => idfree x && idfreeL xs
end
mutual
theorem VRel.free {μ μ' : Mu} (hf : ∀ b o, μ.fro b = some o → μ'.fro b = some o) : ∀ {x : AV} {v : Value}, idfree x = true → VRel μ x v → VRel μ' x v
  | .ptr _ _, _, h, _ | .sl _ _ _ _ _, _, h, _ | .map _, _, h, _ | .yield _, _, h, _ => by simp [idfree] at h
  | .func fn fi ca, _, h, hv => by
    simp only [idfree, Bool.and_eq_true] at h
    simp only [VRel] at *
    obtain ⟨h1, fi', ca', h2, h3, h4⟩ := hv
    exact ⟨h1, fi', ca', h2, VRelL.free hf h.1 h3, VRelL.free hf h.2 h4⟩
  | .iface t x, _, h, hv => by
    simp only [idfree] at h
    simp only [VRel] at *
    obtain ⟨x', h1, h2⟩ := hv
    exact ⟨x', h1, VRel.free hf h h2⟩
  | .agg cs, _, h, hv => by
    simp only [idfree] at h
    simp only [VRel] at *
    obtain ⟨x', h1, h2⟩ := hv
    exact ⟨x', h1, VRelL.free hf h h2⟩
  | .tup cs, _, h, hv => by
    simp only [idfree] at h
    simp only [VRel] at *
    obtain ⟨x', h1, h2⟩ := hv
    exact ⟨x', h1, VRelL.free hf h h2⟩
  | .kptr cs, _, _, hv => by
    have hle : μ.still.le μ'.still := ⟨fun _ _ h => (by cases h), hf⟩
    simp only [VRel] at *
    obtain ⟨b, o, vs, h1, h2, h3⟩ := hv
    exact ⟨b, o, vs, h1, VRelL.mono hle _ h2, fun j v hj => hle.cell (h3 j v hj)⟩
  | .lst es f, _, _, hv => by
    have hle : μ.still.le μ'.still := ⟨fun _ _ h => (by cases h), hf⟩
    simp only [VRel] at *
    rcases hv with hv | ⟨b, o, c, sz, vss, h1, h2, h3, h4, h5, h6⟩
    · exact .inl hv
    · exact .inr ⟨b, o, c, sz, vss, h1, h2, h3, VRelLL.mono hle _ h4, h5, fun j v hj => hle.cell (h6 j v hj)⟩
  | .bool _, _, _, hv | .int _ _, _, _, hv | .str _, _, _, hv | .nilptr, _, _, hv | .snil, _, _, hv | .nilmap, _, _, hv | .nilfunc, _, _, hv | .niliface, _, _, hv => by simpa only [VRel] using hv
theorem VRelL.free {μ μ' : Mu} (hf : ∀ b o, μ.fro b = some o → μ'.fro b = some o) : ∀ {xs : List AV} {l : List Value}, idfreeL xs = true → VRelL μ xs l → VRelL μ' xs l
  | [], _, _, hl => by simpa only [VRelL] using hl
  | x :: xs, _, h, hl => by
    simp only [idfreeL, Bool.and_eq_true] at h
    simp only [VRelL] at *
    obtain ⟨v, l', e, hx, hxs⟩ := hl
    exact ⟨v, l', e, VRel.free hf h.1 hx, VRelL.free hf h.2 hxs⟩
end
mutual
theorem mapV_free (ρ : Nat → Nat) : ∀ {x : AV}, idfree x = true → mapV ρ x = x
  | .ptr _ _, h | .sl _ _ _ _ _, h | .map _, h | .yield _, h => by simp [idfree] at h
  | .func fn fi ca, h => by
    simp only [idfree, Bool.and_eq_true] at h
    simp only [mapV, mapVL_free ρ h.1, mapVL_free ρ h.2]
  | .iface t x, h => by simp only [idfree] at h; simp only [mapV, mapV_free ρ h]
  | .agg cs, h => by simp only [idfree] at h; simp only [mapV, mapVL_free ρ h]
  | .tup cs, h => by simp only [idfree] at h; simp only [mapV, mapVL_free ρ h]
  | .bool _, _ | .int _ _, _ | .str _, _ | .nilptr, _ | .kptr _, _ | .snil, _ | .lst _ _, _ | .nilmap, _ | .nilfunc, _ | .niliface, _ => by simp only [mapV]
theorem mapVL_free (ρ : Nat → Nat) : ∀ {xs : List AV}, idfreeL xs = true → mapVL ρ xs = xs
  | [], _ => rfl
  | x :: xs, h => by
    simp only [idfreeL, Bool.and_eq_true] at h
    simp only [mapVL, mapV_free ρ h.1, mapVL_free ρ h.2]
end
theorem idfreeL_iff : ∀ {xs : List AV}, idfreeL xs = true ↔ ∀ x ∈ xs, idfree x = true
  | [] => by simp [idfreeL]
  | x :: xs => by simp [idfreeL, idfreeL_iff (xs := xs)]
theorem mapO_free (ρ : Nat → Nat) {c : List AV} (h : idfreeL c = true) : mapO ρ (.cells c) = .cells c := by
  simp only [mapO]; rw [← mapVL_eq, mapVL_free ρ h]

mutual
/-- What a value is once all that it refers to lies still. -/
inductive Snap (h : AH) : AV → AV → Prop where
  | free (x : AV) : idfree x = true → Snap h x x
  | nil : Snap h .snil (.lst [] true)
  | agg (cs cs' : List AV) : SnapL h cs cs' → Snap h (.agg cs) (.agg cs')
  | tup (cs cs' : List AV) : SnapL h cs cs' → Snap h (.tup cs) (.tup cs')
  | iface (t : TypeId) (x y : AV) : Snap h x y → Snap h (.iface t x) (.iface t y)
  | sl (id off len cap : Nat) (sp : Option Nat) (c : List AV) (sz : Nat) (rows : List (List AV)) : h.get id = some (.cells c) → off + len * sz ≤ c.length → rows.length = len → (∀ r ∈ rows, r.length = sz) →
      SnapL h ((c.drop off).take (len * sz)) rows.flatten → Snap h (.sl id off len cap sp) (.lst rows (sp.isNone && cap == len))
  | ptr (id off : Nat) (c cs' : List AV) : h.get id = some (.cells c) → SnapL h (c.drop off) cs' → Snap h (.ptr id off) (.kptr cs')
inductive SnapL (h : AH) : List AV → List AV → Prop where
  | nil : SnapL h [] []
  | cons (x y : AV) (xs ys : List AV) : Snap h x y → SnapL h xs ys → SnapL h (x :: xs) (y :: ys)
end
theorem SnapL.free {h : AH} : ∀ {xs : List AV}, idfreeL xs = true → SnapL h xs xs
  | [], _ => .nil
  | x :: xs, hx => by
    simp only [idfreeL, Bool.and_eq_true] at hx
    exact .cons _ _ _ _ (.free x hx.1) (SnapL.free hx.2)
theorem SnapL.of {h : AH} {xs ys : List AV} (e : xs = ys) (hx : idfreeL ys = true) : SnapL h xs ys := by subst e; exact .free hx

open Classical in
/-- All that is owned lies still. -/
noncomputable def Mu.calm (μ : Mu) (h : AH) (w : World) (obj : Nat → Option Place) : Mu := ⟨obj, fun b => if Own μ h b then w.heap[b]? else μ.fro b⟩

theorem unflatten {μ : Mu} : ∀ {rows : List (List AV)} {l : List Value}, VRelL μ rows.flatten l → ∃ vss, VRelLL μ rows vss ∧ vss.flatten = l ∧ vss.map List.length = rows.map List.length
  | [], l, h => by simp only [List.flatten_nil, VRelL] at h; subst h; exact ⟨[], by simp [VRelLL]⟩
  | r :: rows, l, h => by
    simp only [List.flatten_cons] at h
    have h1 : VRelL μ r (l.take r.length) := by have := h.take r.length; rwa [List.take_left] at this
    have h2 : VRelL μ rows.flatten (l.drop r.length) := by have := h.drop r.length; rwa [List.drop_left] at this
    obtain ⟨vss, k1, k2, k3⟩ := unflatten h2
    refine ⟨l.take r.length :: vss, by simp only [VRelLL]; exact ⟨_, _, rfl, h1, k1⟩, by simp [k2], ?_⟩
    simp only [List.map_cons, k3]; rw [← h1.length]

theorem calm_fro {μ : Mu} {h : AH} {w : World} {obj : Nat → Option Place} (hr : Rel μ h w) : ∀ b o, μ.fro b = some o → (μ.calm h w obj).fro b = some o := by
  intro b o hb
  simp only [Mu.calm]
  rw [if_neg]
  · exact hb
  · rintro ⟨id, x, p, h1, h2, rfl⟩
    obtain ⟨q, k1, k2, _⟩ := hr.obj id x h1
    rw [h2] at k1; injection k1 with k1; subst k1
    rw [k2] at hb; cases hb
mutual
theorem Snap.rel {μ : Mu} {h : AH} {w : World} (hr : Rel μ h w) (obj : Nat → Option Place) : ∀ {x y : AV}, Snap h x y → ∀ {v : Value}, VRel μ x v → VRel (μ.calm h w obj).still y v
  | _, _, .free x hx, v, hv => VRel.free (calm_fro hr) hx hv
  | _, _, .nil, v, hv => by
    simp only [VRel] at hv ⊢
    exact .inl ⟨trivial, none, hv⟩
  | _, _, .agg cs cs' hs, v, hv => by
    simp only [VRel] at hv ⊢
    obtain ⟨a, h1, h2⟩ := hv
    exact ⟨a, h1, SnapL.rel hr obj hs h2⟩
  | _, _, .tup cs cs' hs, v, hv => by
    simp only [VRel] at hv ⊢
    obtain ⟨a, h1, h2⟩ := hv
    exact ⟨a, h1, SnapL.rel hr obj hs h2⟩
  | _, _, .iface t x y hs, v, hv => by
    simp only [VRel] at hv ⊢
    obtain ⟨a, h1, h2⟩ := hv
    exact ⟨a, h1, Snap.rel hr obj hs h2⟩
  | _, _, .sl id off len cap sp c sz rows hg hle hlen hrow hs, v, hv => by
    simp only [VRel] at hv ⊢
    obtain ⟨p, cc, hp, rfl, g1, g2, g3, g4⟩ := hv
    obtain ⟨q, k1, k2, k3⟩ := hr.obj id _ hg
    rw [hp] at k1; injection k1 with k1; subst k1
    simp only [ORel] at k3
    obtain ⟨Cs, el, vs, m1, m2, m3, m4, m5⟩ := k3
    have hsub := SnapL.rel hr obj hs ((m4.drop off).take (len * sz))
    obtain ⟨vss, n1, n2, n3⟩ := unflatten hsub
    refine .inr ⟨p.block, p.off + off, cc, sz, vss, by rw [hlen], by omega, ?_, n1, ?_, ?_⟩
    · intro hf
      simp only [Bool.and_eq_true, Option.isNone_iff_eq_none, beq_iff_eq] at hf
      rw [g3 hf.1, hf.2, hlen]
    · intro l hl
      obtain ⟨i, hi, rfl⟩ := List.mem_iff_getElem.1 hl
      have e1 : (vss.map List.length)[i]? = some vss[i].length := by simp [hi]
      rw [n3] at e1
      have hi' : i < rows.length := by
        have := congrArg List.length n3
        simp at this
        omega
      simp only [List.getElem?_map, hi', getElem?_pos, Option.map_some, Option.some.injEq] at e1
      rw [← e1]
      exact hrow _ (List.getElem_mem _)
    · intro j u hj
      rw [n2] at hj
      have hown : Own μ h p.block := ⟨id, _, p, hg, hp, rfl⟩
      simp only [Mu.cell, Mu.calm, Mu.still]
      rw [if_pos hown, m1]
      simp only
      rw [List.getElem?_take] at hj
      split at hj
      · rw [List.getElem?_drop] at hj
        have := m5 _ _ hj
        rwa [show p.off + off + j = p.off + (off + j) from by omega]
      · cases hj
  | _, _, .ptr id off c cs' hg hs, v, hv => by
    simp only [VRel] at hv ⊢
    obtain ⟨p, hp, rfl⟩ := hv
    obtain ⟨q, k1, k2, k3⟩ := hr.obj id _ hg
    rw [hp] at k1; injection k1 with k1; subst k1
    simp only [ORel] at k3
    obtain ⟨Cs, el, vs, m1, m2, m3, m4, m5⟩ := k3
    have hsub := SnapL.rel hr obj hs (m4.drop off)
    refine ⟨p.block, p.off + off, _, rfl, hsub, ?_⟩
    intro j u hj
    have hown : Own μ h p.block := ⟨id, _, p, hg, hp, rfl⟩
    simp only [Mu.cell, Mu.calm, Mu.still]
    rw [if_pos hown, m1]
    simp only
    rw [List.getElem?_drop] at hj
    have := m5 _ _ hj
    rwa [show p.off + off + j = p.off + (off + j) from by omega]
theorem SnapL.rel {μ : Mu} {h : AH} {w : World} (hr : Rel μ h w) (obj : Nat → Option Place) : ∀ {xs ys : List AV}, SnapL h xs ys → ∀ {l : List Value}, VRelL μ xs l → VRelL (μ.calm h w obj).still ys l
  | _, _, .nil, l, hl => by simpa only [VRelL] using hl
  | _, _, .cons x y xs ys h1 h2, l, hl => by
    simp only [VRelL] at hl ⊢
    obtain ⟨v, l', e, hx, hxs⟩ := hl
    exact ⟨v, l', e, Snap.rel hr obj h1 hx, SnapL.rel hr obj h2 hxs⟩
end

/-- **A function of values.** -/
theorem atold_snap {C : Ctx} {f : FuncId} {args : List AV} {K : AV → Prop} (ha : idfreeL args = true) (hc : ACalls C f args ⟨0, .nil⟩ (fun r h' => ∃ u v, r = .ret u ∧ Snap h' u v ∧ K v)) : ATold C f args K := by
  intro h μ w as hr hG hargs
  have hnone : ∀ id, AH.get ⟨0, .nil⟩ id = none := fun id => rfl
  have hr0 : Rel μ.still ⟨0, .nil⟩ w := ⟨hr.fro, fun _ _ hp => (by cases hp), fun id o hg => (by rw [hnone] at hg; cases hg), fun i j oi oj pi pj hi => (by rw [hnone] at hi; cases hi)⟩
  have hG0 : GOk C μ.still := fun g cs hg => VRel.free (μ := μ) (μ' := μ.still) (fun _ _ h => h) rfl (hG g cs hg)
  refine (hc μ.still w as hr0 hG0 (VRelL.free (μ := μ) (μ' := μ.still) (fun _ _ h => h) ha hargs)).mono ?_
  rintro e w' ⟨x, h1, μ1, g1, g2, u, v, rfl, hsn, hK⟩
  obtain ⟨V, rfl, hV⟩ := g1
  have hnown : ∀ b, ¬ Own μ.still ⟨0, .nil⟩ b := fun b ⟨id, o, p, hg, _⟩ => by rw [hnone] at hg; cases hg
  have hfr : ∀ b, b < w.heap.size → μ.fro b = none → w'.heap[b]? = w.heap[b]? ∧ (μ1.calm h1 w' μ.obj).fro b = none := fun b hb hf => by
    obtain ⟨k1, k2, k3⟩ := g2.frame b hb hf (hnown b)
    refine ⟨k1, ?_⟩
    simp only [Mu.calm]
    rw [if_neg k3]; exact k2
  have hle : μ.le (μ1.calm h1 w' μ.obj) := ⟨fun _ _ hp => hp, fun b o hb => calm_fro g2.rel b o (g2.le.fro b o hb)⟩
  refine ⟨.ret v, h, μ1.calm h1 w' μ.obj, ⟨V, rfl, VRel.mono (Mu.still_le _) _ (hsn.rel g2.rel μ.obj hV)⟩, ⟨⟨fun b o hb => ?_, hr.dom, fun id o hg => ?_, hr.inj⟩, hle, g2.os, g2.tape, g2.output, g2.size, Nat.le_refl _, fun _ _ => rfl, fun b hb hf hno => ?_⟩, ⟨v, rfl, hK⟩, rfl⟩
  · simp only [Mu.calm] at hb
    split at hb
    · exact hb
    · exact g2.rel.fro b o hb
  · obtain ⟨p, k1, k2, k3⟩ := hr.obj id o hg
    obtain ⟨m1, m2⟩ := hfr p.block k3.lt k2
    exact ⟨p, k1, m2, k3.mono hle m1⟩
  · obtain ⟨m1, m2⟩ := hfr b hb hf
    exact ⟨m1, m2, hno⟩
theorem apure_snap {C : Ctx} {f : FuncId} {args : List AV} {v : AV} (ha : idfreeL args = true) (hc : ACalls C f args ⟨0, .nil⟩ (fun r h' => ∃ u, r = .ret u ∧ Snap h' u v)) : APure C f args v := fun h =>
  (atold_snap (K := (· = v)) ha (hc.mono fun r h' ⟨u, h1, h2⟩ => ⟨u, v, h1, h2, rfl⟩) h).mono fun r h' ⟨⟨u, h1, h2⟩, h3⟩ => by subst h2; exact ⟨h1, h3⟩
/-- The value is told by what is asked of the walk. -/
def retR (K : AV → AH → Prop) : AR := fun r h => match r with
  | .ret v => K v h
  | .pan _ => False
theorem apure_wp {C : Ctx} (hC : CtxOk C) (hm : C.P.follows .mixedOrders = true) {S : Specs} (hS : SpecsOk C S) {n : Nat} {f : FuncId} {args : List AV} {v : AV} (ha : idfreeL args = true) (hw : wpF C S n f args (retR fun u h => Snap h u v) ⟨0, .nil⟩) : APure C f args v := by
  refine apure_snap ha (((wpOk hC hm hS n).f _ _ _ _ hw).mono fun r h hr => ?_)
  cases r with
  | ret u => exact ⟨u, rfl, hr⟩
  | pan u => exact hr.elim
/-- A function whose value refers to no memory. -/
theorem apure_val {C : Ctx} (hC : CtxOk C) (hm : C.P.follows .mixedOrders = true) {S : Specs} (hS : SpecsOk C S) {n : Nat} {f : FuncId} {args : List AV} {v : AV} (ha : idfreeL args = true) (hv : idfree v = true) (hw : wpF C S n f args (retR fun u _ => u = v) ⟨0, .nil⟩) : APure C f args v := by
  refine apure_snap ha (((wpOk hC hm hS n).f _ _ _ _ hw).mono fun r h hr => ?_)
  cases r with
  | ret u => simp only [retR] at hr; subst hr; exact ⟨u, rfl, .free _ hv⟩
  | pan u => exact hr.elim
theorem atold_wp {C : Ctx} (hC : CtxOk C) (hm : C.P.follows .mixedOrders = true) {S : Specs} (hS : SpecsOk C S) {n : Nat} {f : FuncId} {args : List AV} {K : AV → Prop} (ha : idfreeL args = true) (hw : wpF C S n f args (retR fun u h => ∃ v, Snap h u v ∧ K v) ⟨0, .nil⟩) : ATold C f args K := by
  refine atold_snap ha (((wpOk hC hm hS n).f _ _ _ _ hw).mono fun r h hr => ?_)
  cases r with
  | ret u => obtain ⟨v, h1, h2⟩ := hr; exact ⟨u, v, rfl, h1, h2⟩
  | pan u => exact hr.elim
theorem atold_val {C : Ctx} (hC : CtxOk C) (hm : C.P.follows .mixedOrders = true) {S : Specs} (hS : SpecsOk C S) {n : Nat} {f : FuncId} {args : List AV} {K : AV → Prop} (ha : idfreeL args = true) (hw : wpF C S n f args (retR fun u _ => idfree u = true ∧ K u) ⟨0, .nil⟩) : ATold C f args K := by
  refine atold_snap ha (((wpOk hC hm hS n).f _ _ _ _ hw).mono fun r h hr => ?_)
  cases r with
  | ret u => exact ⟨u, u, rfl, .free _ hr.1, hr.2⟩
  | pan u => exact hr.elim
/-- What is told of a value that is known. -/
def dsp (f : List AV → Option (Bool × AV)) : List AV → (AV → Prop) → Prop := fun args K => match f args with
  | some (b, v) => req b (K v)
  | none => False
theorem dsp_ok {C : Ctx} {g : FuncId} {f : List AV → Option (Bool × AV)} (hf : ∀ args b v, f args = some (b, v) → b = true → APure C g args v) (args : List AV) (K : AV → Prop) (h : dsp f args K) : ATold C g args K := by
  unfold dsp at h
  split at h
  · rename_i b v hs
    rw [req_iff] at h
    exact fun hp => (hf args b v hs h.1 hp).mono fun r h' ⟨h1, h2⟩ => ⟨⟨v, h1, h.2⟩, h2⟩
  · exact h.elim
end Go.Am
