/- Loops by an index in which nothing new stays alive. -/
import Derived.Test.YtpkljgaokgfpnaaGreatDoorAmL
import Derived.Test.YtpkljgaokgfpnaaGreatDoorAmMapLoop
set_option linter.unusedVariables false
set_option linter.unusedSimpArgs false
namespace Go.Am
open Go

abbrev KT2 := AX → Nat → List Nat → List (Option AV) → List (Option AObj) → Nat → Prop
/-- Behind a piece of code: how it ends, temporaries and objects that are looked at. -/
def kobs2 (ts ids : List Nat) (K : KT2) : AQ := fun x e h => K x e.n e.ds (obs e ts) (ids.map h.get) h.next
structure Here (n k : Nat) (vs : List AV) (os : List AObj) (n' : Nat) (ds : List Nat) (ob : List (Option AV)) (oh : List (Option AObj)) (nx : Nat) : Prop where
  n : n' = n
  ds : ds = []
  nx : k ≤ nx
  v : ob.take vs.length = vs.map some
  bv : belowL k vs = true
  o : oh.take os.length = os.map some
  bo : os.all (belowO k) = true
theorem here_allG {k : Nat} {h : AH} : ∀ {ids : List Nat} {os : List AObj}, (∀ id ∈ ids, id < k) → (ids.map h.get).take os.length = os.map some → os.all (belowO k) = true → AllG k h (ids.zip os)
  | [], _, _, _, _ => by simp [AllG]
  | _ :: _, [], _, _, _ => by simp [AllG]
  | i :: ids, o :: os, hi, ho, hb => by
    simp only [List.map_cons, List.length_cons, List.take_succ_cons, List.cons.injEq] at ho
    simp only [List.all_cons, Bool.and_eq_true] at hb
    exact ⟨⟨ho.1, by simpa using hi i (by simp), hb.1⟩, here_allG (fun j hj => hi j (List.mem_cons_of_mem _ hj)) ho.2 hb.2⟩
theorem Here.met {n k : Nat} {vs : List AV} {ids : List Nat} {os : List AObj} {n' : Nat} {ds : List Nat} {ob : List (Option AV)} {h : AH} (hh : Here n k vs os n' ds ob (ids.map h.get) h.next) (hi : ∀ id ∈ ids, id < k) :
    FixL k (List.range k) ∧ (List.range k).length = k ∧ Met n (List.range k) vs (ids.zip os) n' ds ob h :=
  met_here hh.n hh.ds hh.nx hh.v hh.bv (here_allG hi hh.o hh.bo)

theorem ho_zip {N : Nat} {h : AH} : ∀ {ids : List Nat} {os : List AObj}, (ids.map h.get).take os.length = os.map some → ∀ j o, (mkH N (ids.zip os)).get j = some o → h.get j = some o
  | [], _, _, j, o, hg => by simp [mkH, mkHT, AH.get, Tr.get] at hg
  | _ :: _, [], _, j, o, hg => by simp [mkH, mkHT, AH.get, Tr.get] at hg
  | i :: ids, ob :: os, ho, j, o, hg => by
    simp only [List.map_cons, List.length_cons, List.take_succ_cons, List.cons.injEq] at ho
    rw [List.zip_cons_cons] at hg
    exact ho_cons ho.1 (ho_zip (N := N) ho.2) j o hg

/-- **A loop by an index in which nothing new stays alive.** -/
theorem loop_here {C : Ctx} {ro : Option Nat} {c : Code} {α τ : Type} (n k b L : Nat) (ts ids : List Nat) (hids : ∀ id ∈ ids, id < k) (vs : Nat → α → List AV) (os : Nat → α → List AObj) (Inv : Nat → α → Prop)
    (vr : τ → List AV) (orr : τ → List AObj) (PR : τ → Prop) (hro : ∀ id, ro = some id → id < k)
    (round : ∀ i a, i ≤ L → Inv i a → ASem C ro c (kobs2 ts ids fun x n' ds ob oh nx => match x with
      | .normal => i < L ∧ ∃ a', Inv (i + 1) a' ∧ Here n k (vs (i + 1) a') (os (i + 1) a') n' ds ob oh nx
      | .exit j => j = b ∧ Inv L a ∧ Here n k (vs L a) (os L a) n' ds ob oh nx
      | .ret => ∃ y, PR y ∧ Here n k (vr y) (orr y) n' ds ob oh nx
      | .panic _ => False) (mkE n (ts.zip (vs i a))) (mkH k (ids.zip (os i a))))
    {Q : AQ} {h0 : AH} (hh : h0.next = k) (e0 : Env) (a0 : α) (h0i : Inv 0 a0) (he : (obs e0 ts).take (vs 0 a0).length = (vs 0 a0).map some) (hn : e0.n = n) (hds : e0.ds = []) (ho : (ids.map h0.get).take (os 0 a0).length = (os 0 a0).map some)
    (hQ1 : ∀ a, Inv L a → Q (.exit b) (mkE n (ts.zip (vs L a))) (mkH k (ids.zip (os L a)))) (hQ2 : ∀ y, PR y → Q .ret (mkE n (ts.zip (vr y))) (mkH k (ids.zip (orr y)))) :
    ASem C ro (.loop c) Q e0 h0 := by
  refine loop_idx n k k b L (Nat.le_refl _) ts vs (fun i a => ids.zip (os i a)) Inv vr (fun y => ids.zip (orr y)) PR hro (fun i a hi ha => (round i a hi ha).mono fun x e h hk => ?_) hh e0 a0 h0i (he_of_obs he) hn hds (ho_zip ho) hQ1 hQ2
  simp only [kobs2] at hk
  simp only [kobs]
  cases x with
  | normal =>
    obtain ⟨h1, a', h2, h3⟩ := hk
    exact ⟨h1, a', _, h2, h3.met hids⟩
  | exit j =>
    obtain ⟨h1, h2, h3⟩ := hk
    exact ⟨h1, _, h2, h3.met hids⟩
  | ret =>
    obtain ⟨y, h2, h3⟩ := hk
    exact ⟨y, _, h2, h3.met hids⟩
  | panic v => exact hk
/-- Behind a piece of code: a state by lists. -/
theorem asem_list {C : Ctx} {ro : Option Nat} {c : Code} {ts ids : List Nat} {K : KT2} {Q : AQ} {e : Env} {h : AH} (hs : ASem C ro c (kobs2 ts ids K) e h)
    (hq : ∀ x n ds ob oh nx, K x n ds ob oh nx → ∃ vs os N, ob.take vs.length = vs.map some ∧ oh.take os.length = os.map some ∧ nx ≤ N ∧ Q x ⟨n, mkTE (ts.zip vs), ds⟩ (mkH N (ids.zip os))) : ASem C ro c Q e h :=
  asem_weaken hs fun x e1 h1 hk => by
    obtain ⟨vs, os, N, h2, h3, h4, h5⟩ := hq _ _ _ _ _ _ hk
    exact ⟨⟨e1.n, mkTE (ts.zip vs), e1.ds⟩, mkH N (ids.zip os), rfl, rfl, he_of_obs h2, h4, ho_zip h3, h5⟩
end Go.Am
/- Many objects: a heap of which only a part is told by numbers that are known. -/
namespace Go.Am
open Go

/-- Objects of which the numbers are 256 x + 255: X tells them. -/
def spX (X : Tr AObj) : Tr AObj := .node none (.node none (.node none (.node none (.node none (.node none (.node none (.node none X .nil) .nil) .nil) .nil) .nil) .nil) .nil) .nil
def mkXT (X : Tr AObj) : List (Nat × AObj) → Tr AObj
  | [] => spX X
  | (i, o) :: l => (mkXT X l).set i (some o)
def mkX (N : Nat) (X : Tr AObj) (l : List (Nat × AObj)) : AH := ⟨N, mkXT X l⟩
theorem Tr.get_odd {α : Type} (v : Option α) (l r : Tr α) (n : Nat) : (Tr.node v l r).get (2 * n + 1) = l.get n := by
  rw [Tr.get_node, if_neg (by omega), if_pos (by omega)]
  congr 1
  omega
theorem spX_hit (X : Tr AObj) (x : Nat) : (spX X).get (256 * x + 255) = X.get x := by
  unfold spX
  rw [show 256 * x + 255 = 2 * (2 * (2 * (2 * (2 * (2 * (2 * (2 * x + 1) + 1) + 1) + 1) + 1) + 1) + 1) + 1 by omega]
  simp only [Tr.get_odd]
theorem Tr.get_nil {α : Type} (n : Nat) : (Tr.nil : Tr α).get n = none := rfl
theorem sp_one {l : Tr AObj} {n : Nat} {o : AObj} (h : (Tr.node none l .nil).get n = some o) : ∃ m, n = 2 * m + 1 ∧ l.get m = some o := by
  rw [Tr.get_node] at h
  split at h
  · cases h
  · split at h
    · exact ⟨n / 2, by omega, h⟩
    · cases h
theorem spX_some {X : Tr AObj} {j : Nat} {o : AObj} (h : (spX X).get j = some o) : ∃ x, j = 256 * x + 255 ∧ X.get x = some o := by
  unfold spX at h
  obtain ⟨a1, e1, h⟩ := sp_one h
  obtain ⟨a2, e2, h⟩ := sp_one h
  obtain ⟨a3, e3, h⟩ := sp_one h
  obtain ⟨a4, e4, h⟩ := sp_one h
  obtain ⟨a5, e5, h⟩ := sp_one h
  obtain ⟨a6, e6, h⟩ := sp_one h
  obtain ⟨a7, e7, h⟩ := sp_one h
  obtain ⟨a8, e8, h⟩ := sp_one h
  exact ⟨a8, by omega, h⟩
/-- What a heap holds of such numbers. -/
def lf8 (T : Tr AObj) : Tr AObj := T.left.left.left.left.left.left.left.left
theorem left_get {α : Type} (T : Tr α) (n : Nat) : T.left.get n = T.get (2 * n + 1) := by
  rw [Tr.get_parts T (2 * n + 1), if_neg (by omega), if_pos (by omega)]
  congr 1
  omega
theorem lf8_get (T : Tr AObj) (x : Nat) : (lf8 T).get x = T.get (256 * x + 255) := by
  unfold lf8
  simp only [left_get]
  congr 1
  omega
theorem mkXT_hit {X : Tr AObj} {x : Nat} : ∀ {l : List (Nat × AObj)}, l.lookup (256 * x + 255) = none → (mkXT X l).get (256 * x + 255) = X.get x
  | [], _ => spX_hit X x
  | (i, o) :: l, h => by
    rw [List.lookup_cons] at h
    split at h
    · cases h
    · rename_i hb
      simp only [mkXT, Tr.get_set]
      rw [if_neg (by simpa using hb)]
      exact mkXT_hit h
theorem mkXT_get {X : Tr AObj} {j : Nat} {o : AObj} : ∀ {l : List (Nat × AObj)}, l.lookup j = some o → (mkXT X l).get j = some o
  | [], h => by cases h
  | (i, o') :: l, h => by
    rw [List.lookup_cons] at h
    simp only [mkXT, Tr.get_set]
    split at h
    · rename_i hb
      rw [if_pos (by simpa using hb)]; exact h
    · rename_i hb
      rw [if_neg (by simpa using hb)]
      exact mkXT_get h
theorem mkXT_some {X : Tr AObj} {j : Nat} {o : AObj} : ∀ {l : List (Nat × AObj)}, (mkXT X l).get j = some o → l.lookup j = some o ∨ (∃ x, j = 256 * x + 255 ∧ X.get x = some o)
  | [], h => .inr (spX_some h)
  | (i, o') :: l, h => by
    simp only [mkXT, Tr.get_set] at h
    rw [List.lookup_cons]
    split at h
    · rename_i hb
      subst hb
      simp only [BEq.rfl]
      exact .inl h
    · rename_i hb
      rw [show (j == i) = false by simpa using hb]
      exact mkXT_some h
theorem mkHT_get {j : Nat} : ∀ {l : List (Nat × AObj)}, (mkHT l).get j = l.lookup j
  | [] => rfl
  | (i, o) :: l => by
    simp only [mkHT, Tr.get_set, List.lookup_cons]
    split
    · rename_i h; subst h; simp
    · rename_i h
      rw [show (j == i) = false by simpa using h]
      exact mkHT_get
/-- A heap, told by what is known of it. -/
theorem asem_toX {C : Ctx} {ro : Option Nat} {c : Code} {Q : AQ} {e : Env} {N : Nat} {os fs : List (Nat × AObj)} (hf : ∀ j o, fs.lookup j = some o → os.lookup j = some o) (hs : ASem C ro c Q e (mkX N (lf8 (mkHT os)) fs)) : ASem C ro c Q e (mkH N os) := by
  refine asem_pre (e0 := e) (h0 := mkX N (lf8 (mkHT os)) fs) rfl rfl (fun _ _ h => h) (fun j o hg => ?_) rfl hs
  rcases mkXT_some hg with h | ⟨x, rfl, h⟩
  · exact (mkHT_get (l := os)).trans (hf j o h)
  · rw [lf8_get] at h
    exact h

/-! ### Numbers by a rule -/
def rl (N : Nat) (f : Nat → Nat) : List Nat := (List.range N).map f
theorem rl_len (N : Nat) (f : Nat → Nat) : (rl N f).length = N := by simp [rl]
theorem rl_fix {N k : Nat} {f : Nat → Nat} (hk : k ≤ N) (hf : ∀ j, j < k → f j = j) : FixL k (rl N f) := by
  refine ⟨by rw [rl_len]; exact hk, fun j hj => ?_⟩
  simp only [rl, List.getElem?_map, List.getElem?_range (show j < N by omega), Option.map_some, hf j hj]
theorem rl_nd {N : Nat} {f : Nat → Nat} (hf : ∀ i j, i < N → j < N → f i = f j → i = j) : (rl N f).Nodup := by
  unfold rl
  refine List.pairwise_map.2 (List.Pairwise.imp_of_mem (fun {a b} ha hb hne he => ?_) List.nodup_range)
  exact hne (hf a b (List.mem_range.1 ha) (List.mem_range.1 hb) he)
theorem ext_rl {N M j : Nat} {f : Nat → Nat} (hj : j < N) : ext (rl N f) M j = f j := by
  simp only [ext, rl, List.getElem?_map, List.getElem?_range hj, Option.map_some]
theorem met_rl {n N k : Nat} {f : Nat → Nat} {vs : List AV} {os : List (Nat × AObj)} {n' : Nat} {ds : List Nat} {ob : List (Option AV)} {h : AH} (hk : k ≤ N) (hf : ∀ j, j < k → f j = j) (hi : ∀ i j, i < N → j < N → f i = f j → i = j) (hlt : ∀ i, i < N → f i < h.next)
    (h1 : n' = n) (h2 : ds = []) (h3 : ob.take vs.length = vs.map some) (b3 : belowL k vs = true) (h4 : AllH (ext (rl N f) h.next) h os) : FixL k (rl N f) ∧ (rl N f).length = N ∧ Met n (rl N f) vs os n' ds ob h := by
  refine ⟨rl_fix hk hf, rl_len N f, h1, h2, ?_, h4, rl_nd hi, fun i hi => ?_⟩
  · rw [h3]
    apply List.map_congr_left
    intro x hx
    rw [mapV_below (k := k) (fun j hj => by rw [ext_rl (by omega)]; exact hf j hj) (belowL_iff.1 b3 x hx)]
  · obtain ⟨j, hj, rfl⟩ := List.mem_map.1 hi
    exact hlt j (List.mem_range.1 hj)
theorem allH_iff {ρ : Nat → Nat} {h : AH} : ∀ {os : List (Nat × AObj)}, AllH ρ h os ↔ ∀ p ∈ os, h.get (ρ p.1) = some (mapO ρ p.2)
  | [] => by simp [AllH]
  | (i, o) :: l => by simp [AllH, allH_iff (os := l)]
end Go.Am
/- All that is owned may lie still from some point on. -/
namespace Go.Am
open Go

def notPanic : AX → Prop
  | .panic _ => False
  | _ => True
/-- **Behind a piece of code all that is owned lies still.** -/
theorem asem_freeze {C : Ctx} {c : Code} {Q : AQ} {e0 : Env} {h0 : AH} (hs : ASem C none c (fun x e h => notPanic x ∧ e.ds = [] ∧ ∃ e' : Env, e'.n = e.n ∧ e'.ds = [] ∧ (∀ t y, e'.v.get t = some y → ∃ x, e.v.get t = some x ∧ Snap h x y) ∧ Q x e' ⟨h.next, .nil⟩) e0 h0) : ASem C none c Q e0 h0 := by
  intro μ w a hr hG hro hE hD
  refine wpIn_mono (hs μ w a hr hG hro hE hD) ?_
  rintro x a' w' ⟨ax, e1, h1, μ1, g1, g2, g3, g4, hx, hds, e', k1, k2, k3, k4⟩
  have hnone : ∀ id, AH.get ⟨h1.next, .nil⟩ id = none := fun id => rfl
  refine ⟨ax, e', ⟨h1.next, .nil⟩, μ1.calm h1 w' μ1.obj, ?_, ⟨⟨fun b o hb => ?_, g2.rel.dom, fun id o hg => (by rw [hnone] at hg; cases hg), fun i j oi oj pi pj hi => (by rw [hnone] at hi; cases hi)⟩, ⟨g2.le.obj, fun b o hb => calm_fro g2.rel b o (g2.le.fro b o hb)⟩, g2.os, g2.tape, g2.output, g2.size, g2.next, g2.res, fun b hb hf hno => ?_⟩, ⟨by rw [g3.1, k1], fun t y hy => ?_⟩, ?_, k4⟩
  · cases ax <;> first | exact g1 | exact hx.elim
  · simp only [Mu.calm] at hb
    split at hb
    · exact hb
    · exact g2.rel.fro b o hb
  · obtain ⟨m1, m2, m3⟩ := g2.frame b hb hf hno
    refine ⟨m1, ?_, ?_⟩
    · simp only [Mu.calm]
      rw [if_neg m3]; exact m2
    · rintro ⟨id, o, p, hg, _⟩
      rw [hnone] at hg; cases hg
  · obtain ⟨z, hz, hsn⟩ := k3 t y hy
    exact VRel.mono (Mu.still_le _) _ (hsn.rel g2.rel μ1.obj (g3.2 t z hz))
  · rw [hds] at g4
    rw [k2]
    simpa only [DRel] using g4
end Go.Am
