/- Loops, by lists of what the temporaries and the objects are. -/
import Derived.Test.YtpkljgaokgfpnaaGreatDoorAmP
set_option linter.unusedVariables false
set_option linter.unusedSimpArgs false
namespace Go.Am
open Go

def mkTE : List (Nat × AV) → TE
  | [] => .nil
  | (t, x) :: l => (mkTE l).put t x
def mkE (n : Nat) (l : List (Nat × AV)) : Env := ⟨n, mkTE l, []⟩
def mkHT : List (Nat × AObj) → Tr AObj
  | [] => .nil
  | (i, o) :: l => (mkHT l).set i (some o)
def mkH (N : Nat) (l : List (Nat × AObj)) : AH := ⟨N, mkHT l⟩
def AllE (ρ : Nat → Nat) (e : Env) : List (Nat × AV) → Prop
  | [] => True
  | (t, x) :: l => e.v.get t = some (mapV ρ x) ∧ AllE ρ e l
def AllH (ρ : Nat → Nat) (h : AH) : List (Nat × AObj) → Prop
  | [] => True
  | (i, o) :: l => h.get (ρ i) = some (mapO ρ o) ∧ AllH ρ h l
theorem AllE.get {ρ : Nat → Nat} {e : Env} : ∀ {l : List (Nat × AV)}, AllE ρ e l → ∀ t x, (mkTE l).get t = some x → e.v.get t = some (mapV ρ x)
  | [], _, t, x, h => by simp [mkTE, Tr.get] at h
  | (s, y) :: l, ha, t, x, h => by
    simp only [mkTE, Tr.get_put] at h
    split at h
    · rename_i e1; injection h with h; subst h; subst e1; exact ha.1
    · exact AllE.get ha.2 t x h
theorem AllH.get {ρ : Nat → Nat} {h : AH} {N : Nat} : ∀ {l : List (Nat × AObj)}, AllH ρ h l → ∀ j o, (mkH N l).get j = some o → h.get (ρ j) = some (mapO ρ o)
  | [], _, t, x, hg => by simp [mkH, mkHT, AH.get, Tr.get] at hg
  | (s, y) :: l, ha, t, x, hg => by
    simp only [mkH, mkHT, AH.get, Tr.get_set] at hg
    split at hg
    · rename_i e1; injection hg with hg; subst hg; subst e1; exact ha.1
    · exact AllH.get (N := N) ha.2 t x hg
theorem Mt.of {l : List Nat} {n N : Nat} {vs : List (Nat × AV)} {os : List (Nat × AObj)} {e : Env} {h : AH} (hn : e.n = n) (hds : e.ds = []) (hv : AllE (ext l h.next) e vs) (ho : AllH (ext l h.next) h os) (hN : N = l.length) (hnd : l.Nodup) (hlt : ∀ i ∈ l, i < h.next) : Mt l (mkE n vs) (mkH N os) e h :=
  ⟨hn, by rw [hds]; rfl, hv.get, ho.get (N := N), hN, hnd, hlt⟩

/-- What is known before a piece of code may be less. -/
theorem asem_pre {C : Ctx} {ro : Option Nat} {c : Code} {Q : AQ} {e e0 : Env} {h h0 : AH} (hn : e0.n = e.n) (hds : e0.ds = e.ds) (hv : ∀ t x, e0.v.get t = some x → e.v.get t = some x) (ho : ∀ j o, h0.get j = some o → h.get j = some o) (hnx : h0.next = h.next) (hs : ASem C ro c Q e0 h0) : ASem C ro c Q e h := by
  intro μ w a hr hG hro he hd
  have hr0 : Rel μ h0 w := hr.sub (by omega) ho
  refine wpIn_mono (hs μ w a hr0 hG hro ⟨by rw [he.1, hn], fun t x hx => he.2 t x (hv t x hx)⟩ (by rw [hds]; exact hd)) ?_
  rintro x a' w' ⟨ax, e1, h1, μ1, g1, g2, g3, g4, g5⟩
  refine ⟨ax, e1, h1, μ1, g1, ⟨g2.rel, g2.le, g2.os, g2.tape, g2.output, g2.size, by rw [← hnx]; exact g2.next, fun id hid => g2.res id (by rw [hnx]; exact hid), fun b hb hf hno => g2.frame b hb hf fun hown => hno (hown.sub ho)⟩, g3, g4, g5⟩

def obs (e : Env) (ts : List Nat) : List (Option AV) := ts.map (e.v.get ·)
abbrev KT := AX → Nat → List Nat → List (Option AV) → AH → Prop
/-- Behind a piece of code: how it ends, temporaries that are looked at, the heap. -/
def kobs (ts : List Nat) (K : KT) : AQ := fun x e h => K x e.n e.ds (obs e ts) h
theorem AllE.of_obs {ρ : Nat → Nat} {e : Env} : ∀ {ts : List Nat} {vs : List AV}, (obs e ts).take vs.length = vs.map (fun x => some (mapV ρ x)) → AllE ρ e (ts.zip vs)
  | [], _, _ => by simp [AllE]
  | _ :: _, [], _ => by simp [AllE]
  | t :: ts, x :: vs, h => by
    simp only [obs, List.map_cons, List.length_cons, List.take_succ_cons, List.cons.injEq] at h
    exact ⟨h.1, AllE.of_obs (ts := ts) (vs := vs) h.2⟩
/-- A state, by lists, by other numbers. -/
structure Met (n : Nat) (l : List Nat) (vs : List AV) (os : List (Nat × AObj)) (n' : Nat) (ds : List Nat) (ob : List (Option AV)) (h : AH) : Prop where
  n : n' = n
  ds : ds = []
  v : ob.take vs.length = vs.map fun x => some (mapV (ext l h.next) x)
  o : AllH (ext l h.next) h os
  nd : l.Nodup
  lt : ∀ i ∈ l, i < h.next
theorem Met.mt {n : Nat} {l ts : List Nat} {vs : List AV} {os : List (Nat × AObj)} {e : Env} {h : AH} {N : Nat} (hm : Met n l vs os e.n e.ds (obs e ts) h) (hN : N = l.length) : Mt l (mkE n (ts.zip vs)) (mkH N os) e h :=
  Mt.of hm.n hm.ds (AllE.of_obs hm.v) hm.o hN hm.nd hm.lt

/-- **A loop, by lists**: states s, outcomes y. -/
theorem loop_lists {C : Ctx} {ro : Option Nat} {c : Code} {σ τ : Type} (n N : Nat) (ts : List Nat) (vs : σ → List AV) (hs : σ → List (Nat × AObj)) (m : σ → Nat)
    (xx : τ → AX) (vx : τ → List AV) (hx : τ → List (Nat × AObj)) (Nx : τ → Nat) (hNx : ∀ y, N ≤ Nx y) (hxx : ∀ ρ y, mapX ρ (xx y) = xx y) (hro : ∀ id, ro = some id → id < N)
    (round : ∀ s, ASem C ro c (kobs ts fun x n' ds ob h => match x with
      | .normal => ∃ s' l, m s' < m s ∧ FixL N l ∧ l.length = N ∧ Met n l (vs s') (hs s') n' ds ob h
      | x => ∃ y l, xx y = x ∧ FixL N l ∧ l.length = Nx y ∧ Met n l (vx y) (hx y) n' ds ob h) (mkE n (ts.zip (vs s))) (mkH N (hs s)))
    {Q : AQ} (hQ : ∀ y, Q (xx y) (mkE n (ts.zip (vx y))) (mkH (Nx y) (hx y))) (s : σ) : ASem C ro (.loop c) Q (mkE n (ts.zip (vs s))) (mkH N (hs s)) := by
  refine asem_post (X := fun x e h => ∃ y, x = xx y ∧ e = mkE n (ts.zip (vx y)) ∧ h = mkH (Nx y) (hx y)) ?_ ?_
  · refine asem_rounds (fun s => (mkE n (ts.zip (vs s)), mkH N (hs s))) m N _ hro (fun s => (round s).mono fun x e h hk => ?_) s
    simp only [kobs] at hk
    have ext' : ∀ x, (∃ y l, xx y = x ∧ FixL N l ∧ l.length = Nx y ∧ Met n l (vx y) (hx y) e.n e.ds (obs e ts) h) → QM N (fun x e h => ∃ y, x = xx y ∧ e = mkE n (ts.zip (vx y)) ∧ h = mkH (Nx y) (hx y)) x e h := by
      rintro x ⟨y, l, rfl, h2, h3, h4⟩
      exact ⟨l, xx y, _, _, h2, h4.mt h3.symm, (hxx _ y).symm, y, rfl, rfl, rfl⟩
    cases x with
    | normal =>
      obtain ⟨s', l, h1, h2, h3, h4⟩ := hk
      exact ⟨s', l, h1, h2, h4.mt h3.symm⟩
    | exit i => exact ext' _ hk
    | ret => exact ext' _ hk
    | panic v => exact ext' _ hk
  · rintro x e0 h0 ⟨y, rfl, rfl, rfl⟩ _
    exact hQ y

/-- The start of a loop, out of a state that is known better. -/
theorem asem_start {C : Ctx} {ro : Option Nat} {c : Code} {Q : AQ} {e : Env} {h : AH} {n : Nat} {ts : List Nat} {vs : List AV} {os : List (Nat × AObj)} (hn : e.n = n) (hds : e.ds = []) (hv : obs e ts = vs.map some) (ho : ∀ j o, (mkH h.next os).get j = some o → h.get j = some o)
    (hs : ASem C ro c Q (mkE n (ts.zip vs)) (mkH h.next os)) : ASem C ro c Q e h := by
  refine asem_pre (e0 := mkE n (ts.zip vs)) (h0 := mkH h.next os) hn.symm hds.symm ?_ ho rfl hs
  have : ∀ {ts : List Nat} {vs : List AV}, obs e ts = vs.map some → ∀ t x, (mkTE (ts.zip vs)).get t = some x → e.v.get t = some x := by
    intro ts
    induction ts with
    | nil => intro vs _ t x hx; simp [mkTE, Tr.get] at hx
    | cons s ts ih =>
      intro vs hv t x hx
      cases vs with
      | nil => simp [mkTE, Tr.get] at hx
      | cons y vs =>
        simp only [obs, List.map_cons, List.cons.injEq] at hv
        simp only [List.zip_cons_cons, mkTE, Tr.get_put] at hx
        split at hx
        · rename_i e1; injection hx with hx; subst hx; subst e1; exact hv.1
        · exact ih hv.2 t x hx
  exact this hv
theorem fix_range (N : Nat) : FixL N (List.range N) := ⟨by simp, fun j hj => by simp [hj]⟩
theorem ext_range {N M j : Nat} (h : j < N) : ext (List.range N) M j = j := by simp [ext, h]
end Go.Am
/- Loops by an index. -/
namespace Go.Am
open Go

/-- More numbers are set aside. -/
theorem asem_up {C : Ctx} {ro : Option Nat} {c : Code} {Q : AQ} {e : Env} {h : AH} {N : Nat} (hN : h.next ≤ N) (hs : ASem C ro c Q e (h.up N)) : ASem C ro c Q e h := by
  intro μ w a hr hG hroo hE hD
  refine wpIn_mono (hs μ w a (hr.up hN) hG hroo hE hD) ?_
  rintro x a' w' ⟨ax, e1, h1, μ1, g1, g2, g3, g4, g5⟩
  exact ⟨ax, e1, h1, μ1, g1, ⟨g2.rel, g2.le, g2.os, g2.tape, g2.output, g2.size, Nat.le_trans hN g2.next, fun id hid => g2.res id (by simp; omega), g2.frame⟩, g3, g4, g5⟩

/-- **A loop by an index**, from 0 to L; what else changes: a. Numbers below k are as they are. -/
theorem loop_idx {C : Ctx} {ro : Option Nat} {c : Code} {α τ : Type} (n k N b L : Nat) (hk : k ≤ N) (ts : List Nat) (vs : Nat → α → List AV) (os : Nat → α → List (Nat × AObj)) (Inv : Nat → α → Prop)
    (vr : τ → List AV) (orr : τ → List (Nat × AObj)) (PR : τ → Prop) (hro : ∀ id, ro = some id → id < k)
    (round : ∀ i a, i ≤ L → Inv i a → ASem C ro c (kobs ts fun x n' ds ob h => match x with
      | .normal => i < L ∧ ∃ a' l, Inv (i + 1) a' ∧ FixL k l ∧ l.length = N ∧ Met n l (vs (i + 1) a') (os (i + 1) a') n' ds ob h
      | .exit j => j = b ∧ ∃ l, Inv L a ∧ FixL k l ∧ l.length = N ∧ Met n l (vs L a) (os L a) n' ds ob h
      | .ret => ∃ y l, PR y ∧ FixL k l ∧ l.length = N ∧ Met n l (vr y) (orr y) n' ds ob h
      | .panic _ => False) (mkE n (ts.zip (vs i a))) (mkH N (os i a)))
    {Q : AQ} {h0 : AH} (hh : h0.next = k) (e0 : Env) (a0 : α) (h0i : Inv 0 a0) (he : ∀ t x, (mkTE (ts.zip (vs 0 a0))).get t = some x → e0.v.get t = some x) (hn : e0.n = n) (hds : e0.ds = []) (ho : ∀ j o, (mkH N (os 0 a0)).get j = some o → h0.get j = some o)
    (hQ1 : ∀ a, Inv L a → Q (.exit b) (mkE n (ts.zip (vs L a))) (mkH N (os L a))) (hQ2 : ∀ y, PR y → Q .ret (mkE n (ts.zip (vr y))) (mkH N (orr y))) :
    ASem C ro (.loop c) Q e0 h0 := by
  -- the states
  let σ := { p : Nat × α // p.1 ≤ L ∧ Inv p.1 p.2 }
  let ρ := { p : α // Inv L p } ⊕ { y : τ // PR y }
  let xx : ρ → AX := fun y => match y with | .inl _ => .exit b | .inr _ => .ret
  let vx : ρ → List AV := fun y => match y with | .inl a => vs L a.1 | .inr y => vr y.1
  let hx : ρ → List (Nat × AObj) := fun y => match y with | .inl a => os L a.1 | .inr y => orr y.1
  have main : ASem C ro (.loop c) (QM k fun x e h => ∃ y : ρ, x = xx y ∧ e = mkE n (ts.zip (vx y)) ∧ h = mkH N (hx y)) (mkE n (ts.zip (vs 0 a0))) (mkH N (os 0 a0)) := by
    refine asem_rounds (fun s : σ => (mkE n (ts.zip (vs s.1.1 s.1.2)), mkH N (os s.1.1 s.1.2))) (fun s => L - s.1.1) k _ hro (fun s => (round s.1.1 s.1.2 s.2.1 s.2.2).mono fun x e h hq => ?_) ⟨(0, a0), Nat.zero_le _, h0i⟩
    simp only [kobs] at hq
    cases x with
    | normal =>
      obtain ⟨hlt, a', l, h1, h2, h3, h4⟩ := hq
      exact ⟨⟨(s.1.1 + 1, a'), hlt, h1⟩, l, by show L - (s.1.1 + 1) < L - s.1.1; omega, h2, h4.mt h3.symm⟩
    | exit j =>
      obtain ⟨rfl, l, h1, h2, h3, h4⟩ := hq
      exact ⟨l, .exit j, _, _, h2, h4.mt h3.symm, rfl, .inl ⟨_, h1⟩, rfl, rfl, rfl⟩
    | ret =>
      obtain ⟨y, l, h1, h2, h3, h4⟩ := hq
      exact ⟨l, .ret, _, _, h2, h4.mt h3.symm, rfl, .inr ⟨y, h1⟩, rfl, rfl, rfl⟩
    | panic v => exact hq.elim
  refine asem_post (X := fun x e h => ∃ y : ρ, x = xx y ∧ e = mkE n (ts.zip (vx y)) ∧ h = mkH N (hx y)) ?_ ?_
  · rw [hh]
    refine asem_up (N := N) (by omega) ?_
    exact asem_pre (e0 := mkE n (ts.zip (vs 0 a0))) (h0 := mkH N (os 0 a0)) hn.symm hds.symm he ho rfl main
  · rintro x e1 h1 ⟨y, rfl, rfl, rfl⟩ _
    rcases y with ⟨a, ha⟩ | ⟨y, hy⟩
    · exact hQ1 a ha
    · exact hQ2 y hy

/-- The list of what is looked at, out of what is known. -/
theorem he_of_obs {e : Env} : ∀ {ts : List Nat} {vs : List AV}, (obs e ts).take vs.length = vs.map some → ∀ t x, (mkTE (ts.zip vs)).get t = some x → e.v.get t = some x
  | [], _, _, t, x, hx => by simp [mkTE, Tr.get] at hx
  | _ :: _, [], _, t, x, hx => by simp [mkTE, Tr.get] at hx
  | s :: ts, y :: vs, hv, t, x, hx => by
    simp only [obs, List.map_cons, List.length_cons, List.take_succ_cons, List.cons.injEq] at hv
    simp only [List.zip_cons_cons, mkTE, Tr.get_put] at hx
    split at hx
    · rename_i e1; injection hx with hx; subst hx; subst e1; exact hv.1
    · exact he_of_obs hv.2 t x hx
/-- No object is looked at. -/
theorem ho_nil {N : Nat} {h : AH} : ∀ j o, (mkH N []).get j = some o → h.get j = some o := fun j o hg => by simp [mkH, mkHT, AH.get, Tr.get] at hg
theorem ho_cons {N i : Nat} {ob : AObj} {os : List (Nat × AObj)} {h : AH} (h1 : h.get i = some ob) (h2 : ∀ j o, (mkH N os).get j = some o → h.get j = some o) : ∀ j o, (mkH N ((i, ob) :: os)).get j = some o → h.get j = some o := fun j o hg => by
  simp only [mkH, mkHT, AH.get, Tr.get_set] at hg
  split at hg
  · rename_i e; injection hg with hg; subst hg; subst e; exact h1
  · exact h2 j o hg
/-- Nothing new is alive. -/
theorem met_same {n k : Nat} {vs : List AV} {os : List (Nat × AObj)} {n' : Nat} {ds : List Nat} {ob : List (Option AV)} {h : AH} (h1 : n' = n) (h2 : ds = []) (hN : k ≤ h.next) (h3 : ob.take vs.length = vs.map fun x => some (mapV (ext (List.range k) h.next) x)) (h4 : AllH (ext (List.range k) h.next) h os) :
    FixL k (List.range k) ∧ (List.range k).length = k ∧ Met n (List.range k) vs os n' ds ob h :=
  ⟨fix_range k, by simp, h1, h2, h3, h4, List.nodup_range, fun i hi => Nat.lt_of_lt_of_le (List.mem_range.1 hi) hN⟩
mutual
/-- All numbers are below k. -/
def below (k : Nat) : AV → Bool
  | .ptr id _ | .sl id _ _ _ _ | .map id | .yield id => Nat.blt id k
  | .func _ fi ca => belowL k fi && belowL k ca
  | .iface _ v => below k v
  | .agg cs => belowL k cs
  | .tup vs => belowL k vs
  | _ => true
def belowL (k : Nat) : List AV → Bool
  | [] => true
  | x :: xs => below k x && belowL k xs
end
mutual
theorem mapV_below {k : Nat} {ρ : Nat → Nat} (hρ : ∀ j, j < k → ρ j = j) : ∀ {x : AV}, below k x = true → mapV ρ x = x
  | .ptr id _, h | .sl id _ _ _ _, h | .map id, h | .yield id, h => by
    simp only [below] at h
    simp only [mapV, hρ id (by simpa using h)]
  | .func fn fi ca, h => by
    simp only [below, Bool.and_eq_true] at h
    simp only [mapV, mapVL_below hρ h.1, mapVL_below hρ h.2]
  | .iface t x, h => by simp only [below] at h; simp only [mapV, mapV_below hρ h]
  | .agg cs, h => by simp only [below] at h; simp only [mapV, mapVL_below hρ h]
  | .tup cs, h => by simp only [below] at h; simp only [mapV, mapVL_below hρ h]
  | .bool _, _ | .int _ _, _ | .str _, _ | .nilptr, _ | .kptr _, _ | .snil, _ | .lst _ _, _ | .nilmap, _ | .nilfunc, _ | .niliface, _ => by simp only [mapV]
theorem mapVL_below {k : Nat} {ρ : Nat → Nat} (hρ : ∀ j, j < k → ρ j = j) : ∀ {xs : List AV}, belowL k xs = true → mapVL ρ xs = xs
  | [], _ => rfl
  | x :: xs, h => by
    simp only [belowL, Bool.and_eq_true] at h
    simp only [mapVL, mapV_below hρ h.1, mapVL_below hρ h.2]
end
theorem belowL_iff {k : Nat} : ∀ {xs : List AV}, belowL k xs = true ↔ ∀ x ∈ xs, below k x = true
  | [] => by simp [belowL]
  | x :: xs => by simp [belowL, belowL_iff (xs := xs)]
mutual
theorem below_free {k : Nat} : ∀ {x : AV}, idfree x = true → below k x = true
  | .ptr _ _, h | .sl _ _ _ _ _, h | .map _, h | .yield _, h => by simp [idfree] at h
  | .func fn fi ca, h => by
    simp only [idfree, Bool.and_eq_true] at h
    simp only [below, belowL_free h.1, belowL_free h.2, Bool.and_self]
  | .iface t x, h => by simp only [idfree] at h; simp only [below, below_free h]
  | .agg cs, h => by simp only [idfree] at h; simp only [below, belowL_free h]
  | .tup cs, h => by simp only [idfree] at h; simp only [below, belowL_free h]
  | .bool _, _ | .int _ _, _ | .str _, _ | .nilptr, _ | .kptr _, _ | .snil, _ | .lst _ _, _ | .nilmap, _ | .nilfunc, _ | .niliface, _ => rfl
theorem belowL_free {k : Nat} : ∀ {xs : List AV}, idfreeL xs = true → belowL k xs = true
  | [], _ => rfl
  | x :: xs, h => by
    simp only [idfreeL, Bool.and_eq_true] at h
    simp only [belowL, below_free h.1, belowL_free h.2, Bool.and_self]
end
def belowT (k : Nat) : TE → Bool
  | .nil => true
  | .node v l r => (match v with | some x => below k x | none => true) && belowT k l && belowT k r
theorem mapT_below {k : Nat} {ρ : Nat → Nat} (hρ : ∀ j, j < k → ρ j = j) : ∀ {t : TE}, belowT k t = true → t.map (mapV ρ) = t
  | .nil, _ => rfl
  | .node v l r, h => by
    simp only [belowT, Bool.and_eq_true] at h
    simp only [Tr.map, mapT_below hρ h.1.2, mapT_below hρ h.2]
    cases v with
    | none => rfl
    | some x => simp only [Option.map_some, mapV_below hρ h.1.1]
def belowO (k : Nat) : AObj → Bool
  | .cells c => belowL k c
  | .map es _ => es.all fun e => below k e.1 && below k e.2.1
  | .loop _ _ _ env _ _ _ dfr => belowT k env && Nat.blt dfr k
  | .deferred => true
  | .mapIter m _ _ _ => Nat.blt m k
  | .strIter _ _ => true
theorem mapO_below {k : Nat} {ρ : Nat → Nat} (hρ : ∀ j, j < k → ρ j = j) {o : AObj} (h : belowO k o = true) : mapO ρ o = o := by
  cases o <;> simp only [belowO] at h <;> simp only [mapO]
  case loop => simp only [Bool.and_eq_true] at h; rw [mapT_below hρ h.1, hρ _ (by simpa using h.2)]
  case cells c => rw [← mapVL_eq, mapVL_below hρ h]
  case map es clock =>
    congr 1
    have : ∀ e ∈ es, (mapV ρ e.1, mapV ρ e.2.1, e.2.2) = e := fun e he => by
      have := List.all_eq_true.1 h e he
      simp only [Bool.and_eq_true] at this
      rw [mapV_below hρ this.1, mapV_below hρ this.2]
    exact (List.map_congr_left this).trans (List.map_id' es)
  case mapIter m a b c => rw [hρ m (by simpa using h)]
/-- Objects, as they are. -/
def AllG (k : Nat) (h : AH) : List (Nat × AObj) → Prop
  | [] => True
  | (i, o) :: l => (h.get i = some o ∧ Nat.blt i k = true ∧ belowO k o = true) ∧ AllG k h l
theorem AllG.allH {k : Nat} {h : AH} {ρ : Nat → Nat} (hρ : ∀ j, j < k → ρ j = j) : ∀ {os : List (Nat × AObj)}, AllG k h os → AllH ρ h os
  | [], _ => trivial
  | (i, o) :: l, ⟨⟨h1, h2, h3⟩, h4⟩ => ⟨by rw [hρ i (by simpa using h2), mapO_below hρ h3]; exact h1, AllG.allH hρ h4⟩
/-- Nothing new is alive: all is as it is written. -/
theorem met_here {n k : Nat} {vs : List AV} {os : List (Nat × AObj)} {n' : Nat} {ds : List Nat} {ob : List (Option AV)} {h : AH} (h1 : n' = n) (h2 : ds = []) (hN : k ≤ h.next) (h3 : ob.take vs.length = vs.map some) (b3 : belowL k vs = true) (h4 : AllG k h os) :
    FixL k (List.range k) ∧ (List.range k).length = k ∧ Met n (List.range k) vs os n' ds ob h := by
  have hρ : ∀ j, j < k → ext (List.range k) h.next j = j := fun j hj => ext_range hj
  refine met_same h1 h2 hN ?_ (h4.allH hρ)
  rw [h3]
  apply List.map_congr_left
  intro x hx
  rw [mapV_below hρ (belowL_iff.1 b3 x hx)]
end Go.Am
/- What a value is once all lies still, computed. -/
namespace Go.Am
open Go

def chunk (sz : Nat) : Nat → List AV → List (List AV)
  | 0, _ => []
  | n + 1, l => l.take sz :: chunk sz n (l.drop sz)
mutual
def snapF (h : AH) : Nat → AV → Option AV
  | 0, _ => none
  | d + 1, x => match x with
    | .sl id 0 len cap sp => match h.get id with
      | some (.cells c) => match Nat.ble (len * (c.length / cap)) c.length, snapFL h d (c.take (len * (c.length / cap))) with
        | true, some cs => some (.lst (chunk (c.length / cap) len cs) (sp.isNone && cap == len))
        | _, _ => none
      | _ => none
    | .agg cs => match snapFL h d cs with
      | some cs => some (.agg cs)
      | none => none
    | .tup cs => match snapFL h d cs with
      | some cs => some (.tup cs)
      | none => none
    | .iface t y => match snapF h d y with
      | some y => some (.iface t y)
      | none => none
    | .snil => some (.lst [] true)
    | .bool b => some (.bool b)
    | .int k n => some (.int k n)
    | .str s => some (.str s)
    | .lst es f => some (.lst es f)
    | .nilptr => some .nilptr
    | .kptr cs => some (.kptr cs)
    | .nilmap => some .nilmap
    | .nilfunc => some .nilfunc
    | .niliface => some .niliface
    | _ => none
termination_by structural x => x
def snapFL (h : AH) : Nat → List AV → Option (List AV)
  | 0, _ => none
  | d + 1, l => match l with
    | [] => some []
    | x :: xs => match snapF h d x, snapFL h d xs with
      | some y, some ys => some (y :: ys)
      | _, _ => none
termination_by structural x => x
end
theorem SnapL.length {h : AH} : ∀ {xs ys : List AV}, SnapL h xs ys → xs.length = ys.length
  | _, _, .nil => rfl
  | _, _, .cons _ _ _ _ _ hl => by simp [SnapL.length hl]
theorem chunk_len (sz : Nat) : ∀ (n : Nat) (l : List AV), (chunk sz n l).length = n
  | 0, _ => rfl
  | n + 1, l => by simp [chunk, chunk_len sz n]
theorem chunk_flat (sz : Nat) : ∀ (n : Nat) (l : List AV), l.length = n * sz → (chunk sz n l).flatten = l ∧ ∀ r ∈ chunk sz n l, r.length = sz
  | 0, l, h => by simp at h; subst h; simp [chunk]
  | n + 1, l, h => by
    have h1 : (l.drop sz).length = n * sz := by rw [List.length_drop, h, Nat.add_mul]; omega
    obtain ⟨i1, i2⟩ := chunk_flat sz n _ h1
    refine ⟨by simp [chunk, i1], fun r hr => ?_⟩
    simp only [chunk, List.mem_cons] at hr
    rcases hr with rfl | hr
    · rw [List.length_take, h, Nat.add_mul]; omega
    · exact i2 r hr
mutual
theorem snapF_ok {h : AH} : ∀ (d : Nat) {x y : AV}, snapF h d x = some y → Snap h x y
  | 0, x, y, hs => by simp [snapF] at hs
  | d + 1, x, y, hs => by
    cases x <;> simp only [snapF] at hs <;> (try (cases hs; done))
    case sl id off len cap sp =>
      cases off with
      | succ o => simp at hs
      | zero =>
        simp only at hs
        split at hs
        · rename_i c hg
          split at hs
          · rename_i cs h1 h2
            injection hs with hs; subst hs
            have h1 := Nat.le_of_ble_eq_true h1
            have hl := snapFL_ok d h2
            have hlen := hl.length
            rw [List.length_take] at hlen
            obtain ⟨k1, k2⟩ := chunk_flat (c.length / cap) len cs (by omega)
            exact .sl id 0 len cap sp c (c.length / cap) _ hg (by omega) (chunk_len _ _ _) k2 (by rw [k1]; simpa using hl)
          · cases hs
        · cases hs
    case agg cs =>
      split at hs
      · rename_i cs' h1; injection hs with hs; subst hs; exact .agg _ _ (snapFL_ok d h1)
      · cases hs
    case tup cs =>
      split at hs
      · rename_i cs' h1; injection hs with hs; subst hs; exact .tup _ _ (snapFL_ok d h1)
      · cases hs
    case iface t v =>
      split at hs
      · rename_i y' h1; injection hs with hs; subst hs; exact .iface _ _ _ (snapF_ok d h1)
      · cases hs
    case snil => injection hs with hs; subst hs; exact .nil
    all_goals (injection hs with hs; subst hs; exact .free _ rfl)
theorem snapFL_ok {h : AH} : ∀ (d : Nat) {xs ys : List AV}, snapFL h d xs = some ys → SnapL h xs ys
  | 0, _, _, hs => by simp [snapFL] at hs
  | d + 1, xs, ys, hs => by
    cases xs with
    | nil => simp only [snapFL] at hs; injection hs with hs; subst hs; exact .nil
    | cons x xs =>
      simp only [snapFL] at hs
      split at hs
      · rename_i y ys' h1 h2
        injection hs with hs; subst hs
        exact .cons _ _ _ _ (snapF_ok d h1) (snapFL_ok d h2)
      · cases hs
end
theorem apure_snapF {C : Ctx} (hC : CtxOk C) (hm : C.P.follows .mixedOrders = true) {S : Specs} (hS : SpecsOk C S) {n d : Nat} {f : FuncId} {args : List AV} {v : AV} (ha : idfreeL args = true) (hw : wpF C S n f args (retR fun u h => snapF h d u = some v) ⟨0, .nil⟩) : APure C f args v := by
  refine apure_snap ha (((wpOk hC hm hS n).f _ _ _ _ hw).mono fun r h hr => ?_)
  cases r with
  | ret u => exact ⟨u, rfl, snapF_ok d hr⟩
  | pan u => exact hr.elim
theorem atold_snapF {C : Ctx} (hC : CtxOk C) (hm : C.P.follows .mixedOrders = true) {S : Specs} (hS : SpecsOk C S) {n d : Nat} {f : FuncId} {args : List AV} {K : AV → Prop} (ha : idfreeL args = true) (hw : wpF C S n f args (retR fun u h => ∃ v, snapF h d u = some v ∧ K v) ⟨0, .nil⟩) : ATold C f args K := by
  refine atold_snap ha (((wpOk hC hm hS n).f _ _ _ _ hw).mono fun r h hr => ?_)
  cases r with
  | ret u => obtain ⟨v, h1, h2⟩ := hr; exact ⟨u, v, rfl, snapF_ok d h1, h2⟩
  | pan u => exact hr.elim
end Go.Am
