/- TopCellsOnAir: who sends in a cell, kept in maps of maps. -/
import Derived.Test.YtpkljgaokgfpnaaGreatDoorCatch3
import Derived.Test.YtpkljgaokgfpnaaGreatDoorAmM
set_option maxRecDepth 1000000
set_option linter.unusedVariables false
set_option linter.unusedSimpArgs false
set_option linter.unusedSectionVars false
namespace Go.Am.Cells
open Go Go.Am
/-- A cell's senders: the cell, when it came, its map's number, the senders, that map's clock. -/
structure Snd where
  s : Int
  o : Int
  b : Nat
  x : Nat
  m : List (Int × Nat)
  c : Nat
abbrev cellK (s o : Int) : AV := .agg [.i s, .i o]
def Snd.id (g : Snd) : Nat := 256 * g.x + 255
def Snd.ent (g : Snd) : AV × AV × Nat := (cellK g.s g.o, .map g.id, g.b)
def memE (p : Int × Nat) : AV × AV × Nat := (.i p.1, .bool true, p.2)
def Snd.obj (g : Snd) : AObj := .map (g.m.map memE) g.c
def isC (s o : Int) (g : Snd) : Bool := (s == g.s) && ((o == g.o) && true)
def look (s o : Int) (G : List Snd) : Option Snd := (G.findIdx? (isC s o)).bind (G[·]?)
theorem peq45 (a b c d : Int) : peq C 1000 45 (cellK a b) (cellK c d) = some ((a == c) && ((b == d) && true)) := by kernel_rfl
theorem aeq45 (a b c d : Int) : aeq C 1000 45 (cellK a b) (cellK c d) = some ((a == c) && ((b == d) && true)) := peq_ok _ _ _ _ _ (peq45 a b c d)
theorem aeq3 (a b : Int) : aeq C 1000 3 (.i a) (.i b) = some (a == b) := by kernel_rfl
theorem afind45 (s o : Int) : ∀ (G : List Snd) (n : Nat), afind C 45 (cellK s o) (G.map Snd.ent) n = some ((G.findIdx? (isC s o)).map (· + n))
  | [], n => rfl
  | g :: G, n => by
    have ih := afind45 s o G (n + 1)
    simp only [List.map_cons, Snd.ent, afind, aeq45, List.findIdx?_cons]
    cases h : isC s o g with
    | true =>
      have h' := h
      simp only [isC] at h
      rw [h]
      simp only [isC, Bool.and_eq_true, beq_iff_eq, and_true] at h'
      simp [sameKey, sameCells, h'.1, h'.2]
    | false =>
      simp only [isC] at h
      rw [h]
      simp only [ih]
      cases List.findIdx? (isC s o) G <;> simp <;> omega
theorem afind3 (a : Int) : ∀ (m : List (Int × Nat)) (n : Nat), afind C 3 (.i a) (m.map memE) n = some ((m.findIdx? fun p => a == p.1).map (· + n))
  | [], n => rfl
  | p :: m, n => by
    have ih := afind3 a m (n + 1)
    simp only [List.map_cons, memE, afind, aeq3, List.findIdx?_cons]
    cases h : a == p.1 with
    | true => simp [sameKey, h]
    | false =>
      simp only [ih]
      cases List.findIdx? (fun p : Int × Nat => a == p.1) m <;> simp <;> omega
theorem findIdx_lt {α : Type} {p : α → Bool} {l : List α} {i : Nat} (h : l.findIdx? p = some i) : i < l.length := by
  rw [List.findIdx?_eq_some_iff_getElem] at h
  exact h.1
theorem findIdx_at {α : Type} {p : α → Bool} {l : List α} {i : Nat} (h : l.findIdx? p = some i) : ∃ hi : i < l.length, p l[i] = true := by
  rw [List.findIdx?_eq_some_iff_getElem] at h
  exact ⟨h.1, h.2.1⟩
theorem findOk45 (s o : Int) (G : List Snd) : findOk C 45 (cellK s o) (G.map Snd.ent) = true := by
  unfold findOk
  rw [afind45]
  cases h : G.findIdx? (isC s o) with
  | none => rfl
  | some i => simpa using findIdx_lt h
theorem findOk3 (a : Int) (m : List (Int × Nat)) : findOk C 3 (.i a) (m.map memE) = true := by
  unfold findOk
  rw [afind3]
  cases h : m.findIdx? (fun p => a == p.1) with
  | none => rfl
  | some i => simpa using findIdx_lt h
theorem findVal45 (s o : Int) (G : List Snd) (z : AV) : findVal C 45 (cellK s o) (G.map Snd.ent) z = match look s o G with
  | some g => .map g.id
  | none => z := by
  unfold findVal look
  rw [afind45]
  cases h : G.findIdx? (isC s o) with
  | none => rfl
  | some i =>
    have := findIdx_lt h
    simp [List.getD_eq_getElem?_getD, this, Snd.ent]
theorem findVal3 (a : Int) (m : List (Int × Nat)) : findVal C 3 (.i a) (m.map memE) (.bool false) = .bool (m.any fun p => a == p.1) := by
  unfold findVal
  rw [afind3]
  cases h : m.findIdx? (fun p => a == p.1) with
  | none =>
    rw [List.findIdx?_eq_none_iff] at h
    simp only [Option.map_none]
    congr 1
    symm
    rw [List.any_eq_false]
    intro x hx
    simp [h x hx]
  | some i =>
    obtain ⟨hi, hp⟩ := findIdx_at h
    simp only [Option.map_some, Nat.add_zero]
    have : m.any (fun p => a == p.1) = true := List.any_eq_true.2 ⟨_, List.getElem_mem hi, hp⟩
    rw [this]
    simp [List.getD_eq_getElem?_getD, hi, memE]
/-- A new cell. -/
theorem upd45 (s o : Int) (G : List Snd) (v : AV) (n : Nat) (h : look s o G = none) : updEs C 45 (cellK s o) v (G.map Snd.ent) n = G.map Snd.ent ++ [(cellK s o, v, n)] ∧ updN C 45 (cellK s o) (G.map Snd.ent) n = n + 1 := by
  unfold updEs updN
  rw [afind45]
  cases hf : G.findIdx? (isC s o) with
  | none => exact ⟨rfl, rfl⟩
  | some i =>
    have := findIdx_lt hf
    simp [look, hf, this] at h
def addM (a : Int) (c : Nat) (m : List (Int × Nat)) : List (Int × Nat) := match m.findIdx? (fun p => a == p.1) with
  | some _ => m
  | none => m ++ [(a, c)]
theorem upd3 (a : Int) (m : List (Int × Nat)) (n : Nat) : updEs C 3 (.i a) (.bool true) (m.map memE) n = (addM a n m).map memE := by
  unfold updEs addM
  rw [afind3]
  cases h : m.findIdx? (fun p => a == p.1) with
  | none => simp [memE]
  | some i =>
    obtain ⟨hi, hp⟩ := findIdx_at h
    simp only [Option.map_some, Nat.add_zero]
    apply List.ext_getElem
    · simp
    · intro j h1 h2
      rw [List.getElem_set]
      split
      · rename_i hij
        subst hij
        have : a = m[i].1 := by simpa using hp
        simp [List.getD_eq_getElem?_getD, hi, memE, this]
      · rfl
theorem addM_old {a : Int} {c : Nat} {m : List (Int × Nat)} {n : Int} (h : m.any (fun p => n == p.1) = true) : (addM a c m).any (fun p => n == p.1) = true := by
  unfold addM
  split
  · exact h
  · rw [List.any_append, h]; rfl
theorem addM_new {a : Int} {c : Nat} {m : List (Int × Nat)} : (addM a c m).any (fun p => a == p.1) = true := by
  unfold addM
  split
  · rename_i i h
    obtain ⟨hi, hp⟩ := findIdx_at h
    exact List.any_eq_true.2 ⟨_, List.getElem_mem hi, hp⟩
  · simp
/-- Node n sends in the cell. -/
def hasS (G : List Snd) (s o n : Int) : Prop := ∃ g, look s o G = some g ∧ g.m.any (fun p => n == p.1) = true
theorem look_some {s o : Int} {G : List Snd} {g : Snd} (h : look s o G = some g) : ∃ i, G.findIdx? (isC s o) = some i ∧ G[i]? = some g ∧ isC s o g = true := by
  unfold look at h
  cases hf : G.findIdx? (isC s o) with
  | none => rw [hf] at h; cases h
  | some i =>
    rw [hf] at h
    obtain ⟨hi, hp⟩ := findIdx_at hf
    refine ⟨i, rfl, h, ?_⟩
    simp only [Option.bind_some, List.getElem?_eq_getElem hi, Option.some.injEq] at h
    rw [← h]; exact hp
theorem look_append {s o : Int} {G G' : List Snd} {g : Snd} (h : look s o G = some g) : look s o (G ++ G') = some g := by
  obtain ⟨i, h1, h2, _⟩ := look_some h
  unfold look
  rw [List.findIdx?_append, h1]
  have := findIdx_lt h1
  simp [List.getElem?_append_left this, h2]
theorem look_new {s o : Int} {G : List Snd} {g : Snd} (h : look s o G = none) (hg : isC s o g = true) : look s o (G ++ [g]) = some g := by
  have hn : G.findIdx? (isC s o) = none := by
    cases hf : G.findIdx? (isC s o) with
    | none => rfl
    | some i =>
      have := findIdx_lt hf
      simp [look, hf, this] at h
  unfold look
  rw [List.findIdx?_append, hn]
  simp [hg]
theorem look_set {s o : Int} {G : List Snd} {i : Nat} {g g' : Snd} (hi : G[i]? = some g) (hs : g'.s = g.s) (ho : g'.o = g.o) : look s o (G.set i g') = if G.findIdx? (isC s o) = some i then some g' else look s o G := by
  have hl : i < G.length := by
    rcases Nat.lt_or_ge i G.length with h | h
    · exact h
    · rw [List.getElem?_eq_none h] at hi; cases hi
  have hgi : G[i] = g := by simpa [List.getElem?_eq_getElem hl] using hi
  have key : (G.set i g').findIdx? (isC s o) = G.findIdx? (isC s o) := by
    have hm : ∀ j (h1 : j < (G.set i g').length) (h2 : j < G.length), isC s o (G.set i g')[j] = isC s o G[j] := by
      intro j h1 h2
      rw [List.getElem_set]
      split
      · rename_i hij; subst hij; rw [hgi]; simp only [isC, hs, ho]
      · rfl
    cases hf : G.findIdx? (isC s o) with
    | none =>
      rw [List.findIdx?_eq_none_iff] at hf ⊢
      intro x hx
      obtain ⟨j, hj, rfl⟩ := List.mem_iff_getElem.1 hx
      rw [hm j hj (by simpa using hj)]
      exact hf _ (List.getElem_mem _)
    | some k =>
      rw [List.findIdx?_eq_some_iff_getElem] at hf ⊢
      obtain ⟨hk, h1, h2⟩ := hf
      refine ⟨by simpa using hk, by rw [hm k _ hk]; exact h1, fun j hj => ?_⟩
      rw [hm j _ (by omega)]
      exact h2 j hj
  unfold look
  rw [key]
  split
  · rename_i hf
    rw [hf]
    simp [hl]
  · rename_i hf
    cases hx : G.findIdx? (isC s o) with
    | none => rfl
    | some k =>
      simp only [Option.bind_some]
      rw [List.getElem?_set, if_neg (fun e => hf (by rw [hx, e]))]
/-- The senders after one more. -/
noncomputable def addS (s o n : Int) (x b : Nat) (G : List Snd) : List Snd := match G.findIdx? (isC s o) with
  | some i => match G[i]? with
    | some g => G.set i { g with m := addM n g.c g.m, c := updN C 3 (.i n) (g.m.map memE) g.c }
    | none => G
  | none => G ++ [⟨s, o, b, x, [(n, 0)], 1⟩]
theorem addS_old {s o n : Int} {x b : Nat} {G : List Snd} {s' o' n' : Int} (h : hasS G s' o' n') : hasS (addS s o n x b G) s' o' n' := by
  obtain ⟨g', h1, h2⟩ := h
  unfold addS
  split
  · rename_i i hi
    split
    · rename_i g hg
      unfold hasS
      rw [look_set hg (by rfl) (by rfl)]
      split
      · rename_i hf
        obtain ⟨i', k1, k2, k3⟩ := look_some h1
        rw [hf] at k1
        injection k1 with k1; subst k1
        rw [hg] at k2; injection k2 with k2; subst k2
        exact ⟨_, rfl, addM_old h2⟩
      · exact ⟨g', h1, h2⟩
    · exact ⟨g', h1, h2⟩
  · exact ⟨g', look_append h1, h2⟩
theorem addS_new {s o n : Int} {x b : Nat} {G : List Snd} : hasS (addS s o n x b G) s o n := by
  unfold addS
  split
  · rename_i i hi
    obtain ⟨hl, hp⟩ := findIdx_at hi
    split
    · rename_i g hg
      unfold hasS
      rw [look_set hg (by rfl) (by rfl), if_pos hi]
      exact ⟨_, rfl, addM_new⟩
    · rename_i hg
      rw [List.getElem?_eq_getElem hl] at hg; cases hg
  · rename_i hn
    exact ⟨_, look_new (by unfold look; rw [hn]; rfl) (by simp [isC]), by simp⟩
theorem look_none {s o : Int} {G : List Snd} (h : look s o G = none) : G.findIdx? (isC s o) = none := by
  cases hf : G.findIdx? (isC s o) with
  | none => rfl
  | some i =>
    have := findIdx_lt hf
    simp [look, hf, this] at h
theorem afind_app {C : Ctx} {kt : TypeId} {k : AV} {l2 : List (AV × AV × Nat)} : ∀ {l1 : List (AV × AV × Nat)} {n : Nat}, afind C kt k l1 n = some none → afind C kt k (l1 ++ l2) n = afind C kt k l2 (n + l1.length)
  | [], n, _ => by simp
  | (k', v, b) :: l, n, h => by
    simp only [afind] at h
    simp only [List.cons_append, afind]
    split at h
    · split at h <;> cases h
    · rename_i hq
      rw [afind_app h]
      congr 1
      simp only [List.length_cons]
      omega
    · cases h
theorem find_app (s o : Int) (G : List Snd) (v : AV) (n : Nat) (z : AV) (h : look s o G = none) : findOk C 45 (cellK s o) (G.map Snd.ent ++ [(cellK s o, v, n)]) = true ∧ findVal C 45 (cellK s o) (G.map Snd.ent ++ [(cellK s o, v, n)]) z = v := by
  have h1 : afind C 45 (cellK s o) (G.map Snd.ent) 0 = some none := by rw [afind45, look_none h]; rfl
  have h2 : afind C 45 (cellK s o) (G.map Snd.ent ++ [(cellK s o, v, n)]) 0 = some (some G.length) := by
    rw [afind_app h1]
    simp [afind, aeq45, sameKey, sameCells]
  unfold findOk findVal
  rw [h2]
  simp [List.getD_eq_getElem?_getD]

/-! ### The senders' objects -/
def sObjs (G : List Snd) (clk : Nat) : List (Nat × AObj) := (6, .map (G.map Snd.ent) clk) :: G.map fun g => (g.id, g.obj)
def Holds (h : AH) (l : List (Nat × AObj)) : Prop := ∀ p ∈ l, h.get p.1 = some p.2
theorem lookup_mem {α : Type} {j : Nat} {o : α} : ∀ {l : List (Nat × α)}, l.lookup j = some o → (j, o) ∈ l
  | [], h => by cases h
  | (i, x) :: l, h => by
    rw [List.lookup_cons] at h
    split at h
    · rename_i hb
      injection h with h
      have : j = i := by simpa using hb
      subst this; subst h
      simp
    · exact List.mem_cons_of_mem _ (lookup_mem h)
theorem Holds.sub {h : AH} {l : List (Nat × AObj)} {N : Nat} (hh : Holds h l) : ∀ j o, (mkH N l).get j = some o → h.get j = some o := fun j o hg => by
  have : l.lookup j = some o := (mkHT_get (l := l)).symm.trans hg
  exact hh (j, o) (lookup_mem this)
/-- Each cell has its own map. -/
def Own1 (G : List Snd) : Prop := ∀ (i j : Nat) (a b : Snd), G[i]? = some a → G[j]? = some b → a.x = b.x → i = j
theorem lookup_obj {G : List Snd} {clk : Nat} (hd : Own1 G) {g : Snd} (hg : g ∈ G) : (sObjs G clk).lookup g.id = some g.obj := by
  have key : ∀ l : List Snd, (∀ a ∈ l, a.x = g.x → a = g) → g ∈ l → (l.map fun g => (g.id, g.obj)).lookup g.id = some g.obj := by
    intro l
    induction l with
    | nil => intro _ h; cases h
    | cons a l ih =>
      intro ha hm
      rw [List.map_cons, List.lookup_cons]
      split
      · rename_i hb
        have : g.id = a.id := by simpa using hb
        have : a.x = g.x := by unfold Snd.id at this; omega
        rw [ha a (by simp) this]
      · rename_i hb
        refine ih (fun b hb => ha b (List.mem_cons_of_mem _ hb)) ?_
        rcases List.mem_cons.1 hm with rfl | h
        · simp at hb
        · exact h
  unfold sObjs
  rw [List.lookup_cons, show (g.id == 6) = false by simp [Snd.id]]
  refine key G (fun a ha he => ?_) hg
  obtain ⟨i, hi, rfl⟩ := List.mem_iff_getElem.1 ha
  obtain ⟨j, hj, rfl⟩ := List.mem_iff_getElem.1 hg
  have := hd i j _ _ (List.getElem?_eq_getElem hi) (List.getElem?_eq_getElem hj) he
  subst this; rfl
theorem ent_map {ρ : Nat → Nat} (g : Snd) (h : ρ g.id = g.id) : (mapV ρ g.ent.1, mapV ρ g.ent.2.1, g.ent.2.2) = g.ent := by
  simp only [Snd.ent, mapV, mapVL, h]
theorem obj_map (ρ : Nat → Nat) (g : Snd) : mapO ρ g.obj = g.obj := by
  have : (fun e : AV × AV × Nat => (mapV ρ e.1, mapV ρ e.2.1, e.2.2)) ∘ memE = memE := by
    funext p
    simp only [Function.comp, memE, mapV]
  simp only [Snd.obj, mapO, List.map_map, this]
theorem ents_map {ρ : Nat → Nat} {G : List Snd} (h : ∀ g ∈ G, ρ g.id = g.id) : (G.map Snd.ent).map (fun e => (mapV ρ e.1, mapV ρ e.2.1, e.2.2)) = G.map Snd.ent := by
  rw [List.map_map]
  apply List.map_congr_left
  intro g hg
  exact ent_map g (h g hg)
theorem met_old {k N n : Nat} (hk : k ≤ N) {vs : List AV} {ob : List (Option AV)} {n' : Nat} {ds : List Nat} {h : AH} (G : List Snd) (c : Nat) (hid : ∀ g ∈ G, g.id < N) (h6 : 6 < k) (hN : N ≤ h.next)
    (g6 : h.get 6 = some (.map (G.map Snd.ent) c)) (gg : ∀ g ∈ G, h.get g.id = some g.obj)
    (e1 : n' = n) (e2 : ds = []) (e3 : ob.take vs.length = vs.map some) (b3 : belowL k vs = true) : ∃ l, FixL k l ∧ l.length = N ∧ Met n l vs (sObjs G c) n' ds ob h := by
  refine ⟨_, met_rl (f := fun j => j) hk (fun _ _ => rfl) (fun _ _ _ _ h => h) (fun i hi => Nat.lt_of_lt_of_le hi hN) e1 e2 e3 b3 (allH_iff.2 fun p hp => ?_)⟩
  have hr : ∀ j, j < N → ext (rl N fun j => j) h.next j = j := fun j hj => ext_rl hj
  rcases List.mem_cons.1 hp with rfl | hp
  · simp only [mapO]
    rw [hr 6 (by omega), ents_map fun g hg => hr _ (hid g hg)]
    exact g6
  · obtain ⟨g, hg, rfl⟩ := List.mem_map.1 hp
    rw [hr _ (hid g hg), obj_map]
    exact gg g hg
theorem met_new {k N n : Nat} (hk : k ≤ N) {vs : List AV} {ob : List (Option AV)} {n' : Nat} {ds : List Nat} {h : AH} (G : List Snd) (c : Nat) (s o i : Int) (x' nid : Nat)
    (hx : ∀ g ∈ G, g.x ≠ x') (hid : ∀ g ∈ G, g.id < N) (hxN : 256 * x' + 255 < N) (hxk : k ≤ 256 * x' + 255) (h6 : 6 < k) (hnid : N ≤ nid) (hn2 : nid < h.next)
    (g6 : h.get 6 = some (.map (G.map Snd.ent ++ [(cellK s o, .map nid, c)]) (c + 1))) (gn : h.get nid = some (.map [(.i i, .bool true, 0)] 1)) (gg : ∀ g ∈ G, h.get g.id = some g.obj)
    (e1 : n' = n) (e2 : ds = []) (e3 : ob.take vs.length = vs.map some) (b3 : belowL k vs = true) : ∃ l, FixL k l ∧ l.length = N ∧ Met n l vs (sObjs (G ++ [⟨s, o, c, x', [(i, 0)], 1⟩]) (c + 1)) n' ds ob h := by
  let f : Nat → Nat := fun j => if j = 256 * x' + 255 then nid else j
  have hf : ∀ j, j ≠ 256 * x' + 255 → f j = j := fun j hj => if_neg hj
  have hf' : f (256 * x' + 255) = nid := if_pos rfl
  refine ⟨_, met_rl (f := f) hk (fun j hj => hf j (by omega)) (fun a b ha hb hab => ?_) (fun a ha => ?_) e1 e2 e3 b3 (allH_iff.2 fun p hp => ?_)⟩
  · by_cases h1 : a = 256 * x' + 255 <;> by_cases h2 : b = 256 * x' + 255
    · omega
    · rw [h1, hf', hf b h2] at hab; omega
    · rw [h2, hf', hf a h1] at hab; omega
    · rw [hf a h1, hf b h2] at hab; exact hab
  · by_cases h1 : a = 256 * x' + 255
    · rw [h1, hf']; exact hn2
    · rw [hf a h1]; omega
  have hr : ∀ j, j < N → ext (rl N f) h.next j = f j := fun j hj => ext_rl hj
  have hg : ∀ g ∈ G, ext (rl N f) h.next g.id = g.id := fun g hg => by
    rw [hr _ (hid g hg)]
    exact hf _ fun e => hx g hg (by unfold Snd.id at e; omega)
  rcases List.mem_cons.1 hp with rfl | hp
  · simp only [mapO]
    rw [hr 6 (by omega), hf 6 (by omega), List.map_append, List.map_append, ents_map hg]
    simp only [List.map_cons, List.map_nil, Snd.ent, Snd.id, mapV, mapVL, hr _ hxN, hf']
    exact g6
  · rw [List.map_append] at hp
    rcases List.mem_append.1 hp with hp | hp
    · obtain ⟨g, hgG, rfl⟩ := List.mem_map.1 hp
      rw [hg g hgG, obj_map]
      exact gg g hgG
    · simp only [List.map_cons, List.map_nil, List.mem_singleton] at hp
      subst hp
      rw [obj_map]
      simp only [Snd.id, hr _ hxN, hf']
      exact gn

/-! ### The senders as they grow -/
def xo (m0 j : Nat) : Nat := if j < m0 then j else 16777216 + (j - m0)
def grown (i : Int) (us : List (List AV)) (k : Nat) (G G' : List Snd) : Prop := G.length ≤ G'.length ∧ G'.length ≤ G.length + k ∧ (∀ j (g : Snd), G'[j]? = some g → g.x = xo G.length j) ∧ (∀ s o n, hasS G s o n → hasS G' s o n) ∧ (∀ j, j < k → hasS G' (fld (us.getD j []) 0) (fld (us.getD j []) 1) i)
theorem xo_inj {m0 i j : Nat} (h : m0 ≤ 16777216) (e : xo m0 i = xo m0 j) : i = j := by
  unfold xo at e
  split at e <;> split at e <;> omega
theorem grown.own {i : Int} {us : List (List AV)} {k : Nat} {G G' : List Snd} (h : grown i us k G G') (hm : G.length ≤ 16777216) : Own1 G' := fun a b ga gb h1 h2 e => by
  rw [h.2.2.1 a ga h1, h.2.2.1 b gb h2] at e
  exact xo_inj hm e
theorem grown.step {i : Int} {us : List (List AV)} {k : Nat} {G G' : List Snd} (h : grown i us k G G') {b : Nat} : grown i us (k + 1) G (addS (fld (us.getD k []) 0) (fld (us.getD k []) 1) i (xo G.length G'.length) b G') := by
  obtain ⟨h1, h2, h3, h4, h5⟩ := h
  refine ⟨?_, ?_, ?_, fun s o n hs => addS_old (h4 s o n hs), fun j hj => ?_⟩
  · unfold addS
    split
    · split
      · rw [List.length_set]; omega
      · omega
    · rw [List.length_append, List.length_singleton]; omega
  · unfold addS
    split
    · split
      · rw [List.length_set]; omega
      · omega
    · rw [List.length_append, List.length_singleton]; omega
  · intro j g hg
    unfold addS at hg
    split at hg
    · split at hg
      · rename_i i' hi g' hg'
        rw [List.getElem?_set] at hg
        split at hg
        · rename_i e
          subst e
          split at hg
          · injection hg with hg; subst hg
            exact h3 _ g' hg'
          · cases hg
        · exact h3 j g hg
      · exact h3 j g hg
    · rcases Nat.lt_or_ge j G'.length with hj | hj
      · rw [List.getElem?_append_left hj] at hg
        exact h3 j g hg
      · rw [List.getElem?_append_right hj] at hg
        have : j - G'.length = 0 := by
          rcases Nat.eq_zero_or_pos (j - G'.length) with h | h
          · exact h
          · rw [List.getElem?_eq_none (by simp; omega)] at hg; cases hg
        rw [this] at hg
        injection hg with hg; subst hg
        simp only
        congr 1
        omega
  · rcases Nat.lt_or_ge j k with h | h
    · exact addS_old (h5 j h)
    · obtain rfl : j = k := by omega
      exact addS_new
def far : List (Nat × AObj) → Bool
  | [] => true
  | (i, _) :: l => !Nat.beq (i % 256) 255 && far l
theorem lookup_far {x : Nat} : ∀ {l : List (Nat × AObj)}, far l = true → l.lookup (256 * x + 255) = none
  | [], _ => rfl
  | (i, o) :: l, h => by
    simp only [far, Bool.and_eq_true, Bool.not_eq_true'] at h
    have h1 := not_beq h.1
    rw [List.lookup_cons, show (256 * x + 255 == i) = false by simp only [beq_eq_false_iff_ne]; omega]
    exact lookup_far h.2
theorem get_far {X : Tr AObj} {l : List (Nat × AObj)} {g : Snd} {o : AObj} (h : far l = true) (hx : X.get g.x = some o) : (mkXT X l).get g.id = some o :=
  (mkXT_hit (lookup_far h)).trans hx
theorem set_ents {G : List Snd} {i : Nat} {g g' : Snd} (hg : G[i]? = some g) (h : g'.ent = g.ent) : (G.set i g').map Snd.ent = G.map Snd.ent := by
  apply List.ext_getElem?
  intro j
  rw [List.getElem?_map, List.getElem?_map, List.getElem?_set]
  split
  · rename_i hij
    subst hij
    have hl : i < G.length := by
      rcases Nat.lt_or_ge i G.length with h1 | h1
      · exact h1
      · rw [List.getElem?_eq_none h1] at hg; cases hg
    rw [if_pos hl, hg]
    simp [h]
  · rfl

/-! ### The senders, with their maps' numbers in a row -/
def compact (G : List Snd) : List Snd := G.mapIdx fun j g => { g with x := j }
theorem compact_len (G : List Snd) : (compact G).length = G.length := by simp [compact]
theorem compact_get {G : List Snd} {j : Nat} {g : Snd} (h : (compact G)[j]? = some g) : ∃ g', G[j]? = some g' ∧ g = { g' with x := j } := by
  unfold compact at h
  rw [List.getElem?_mapIdx] at h
  cases hg : G[j]? with
  | none => rw [hg] at h; cases h
  | some g' =>
    rw [hg] at h
    injection h with h
    exact ⟨g', rfl, h.symm⟩
theorem compact_idx (s o : Int) (G : List Snd) : (compact G).findIdx? (isC s o) = G.findIdx? (isC s o) := by
  have hm : ∀ j (h1 : j < (compact G).length) (h2 : j < G.length), isC s o (compact G)[j] = isC s o G[j] := by
    intro j h1 h2
    simp only [compact, List.getElem_mapIdx, isC]
  cases hf : G.findIdx? (isC s o) with
  | none =>
    rw [List.findIdx?_eq_none_iff] at hf ⊢
    intro x hx
    obtain ⟨j, hj, rfl⟩ := List.mem_iff_getElem.1 hx
    rw [hm j hj (by rw [compact_len] at hj; exact hj)]
    exact hf _ (List.getElem_mem _)
  | some k =>
    rw [List.findIdx?_eq_some_iff_getElem] at hf ⊢
    obtain ⟨hk, h1, h2⟩ := hf
    refine ⟨by rw [compact_len]; exact hk, by rw [hm k _ hk]; exact h1, fun j hj => ?_⟩
    rw [hm j _ (by omega)]
    exact h2 j hj
theorem compact_has {G : List Snd} {s o n : Int} (h : hasS G s o n) : hasS (compact G) s o n := by
  obtain ⟨g, h1, h2⟩ := h
  obtain ⟨i, k1, k2, k3⟩ := look_some h1
  refine ⟨{ g with x := i }, ?_, h2⟩
  unfold look
  rw [compact_idx, k1]
  simp only [Option.bind_some, compact, List.getElem?_mapIdx, k2, Option.map_some]
theorem met_ren {k N n m0 : Nat} (hk : k ≤ N) (hk2 : k ≤ 255) (hN0 : N = 4294967296) {vs : List AV} {ob : List (Option AV)} {n' : Nat} {ds : List Nat} {h : AH} (G : List Snd) (c : Nat) (hG : ∀ j (g : Snd), G[j]? = some g → g.x = xo m0 j) (hm0 : G.length < 16777216) (hle : m0 ≤ G.length) (h6 : 6 < k) (hN : 8589934592 ≤ h.next)
    (hH : h.tr = mkHT (sObjs G c)) (e1 : n' = n) (e2 : ds = []) (e3 : ob.take vs.length = vs.map some) (b3 : belowL k vs = true) : ∃ l, FixL k l ∧ l.length = N ∧ Met n l vs (sObjs (compact G) c) n' ds ob h := by
  subst hN0
  let f : Nat → Nat := fun j => if j % 256 = 255 ∧ j / 256 < G.length then 256 * xo m0 (j / 256) + 255 else j
  have hf1 : ∀ x, x < G.length → f (256 * x + 255) = 256 * xo m0 x + 255 := fun x hx => by
    simp only [f]
    rw [if_pos ⟨by omega, by omega⟩, show (256 * x + 255) / 256 = x by omega]
  have hf2 : ∀ j, j < 255 → f j = j := fun j hj => if_neg (by omega)
  have hxo : ∀ x, x < G.length → (xo m0 x = x ∨ 16777216 ≤ xo m0 x) ∧ xo m0 x < 33554432 := fun x hx => by
    unfold xo
    split
    · exact ⟨.inl rfl, by omega⟩
    · exact ⟨.inr (by omega), by omega⟩
  have hcase : ∀ j, (f j = j) ∨ (∃ x, x < G.length ∧ j = 256 * x + 255 ∧ f j = 256 * xo m0 x + 255) := fun j => by
    by_cases hj : j % 256 = 255 ∧ j / 256 < G.length
    · refine .inr ⟨j / 256, hj.2, by omega, ?_⟩
      simp only [f, if_pos hj]
    · exact .inl (if_neg hj)
  refine ⟨_, met_rl (f := f) hk (fun j hj => hf2 j (by omega)) (fun a b ha hb hab => ?_) (fun a ha => ?_) e1 e2 e3 b3 (allH_iff.2 fun p hp => ?_)⟩
  · rcases hcase a with h1 | ⟨x, hx, rfl, h1⟩ <;> rcases hcase b with h2 | ⟨y, hy, rfl, h2⟩
    · omega
    · have := hxo y hy
      rw [h1, h2] at hab
      rcases this.1 with h5 | h5 <;> omega
    · have := hxo x hx
      rw [h1, h2] at hab
      rcases this.1 with h5 | h5 <;> omega
    · rw [h1, h2] at hab
      have := xo_inj (m0 := m0) (i := x) (j := y) (by omega) (by omega)
      omega
  · rcases hcase a with h1 | ⟨x, hx, rfl, h1⟩
    · omega
    · have := (hxo x hx).2
      omega
  · have hr : ∀ j, j < 4294967296 → ext (rl 4294967296 f) h.next j = f j := fun j hj => ext_rl hj
    have hown : Own1 G := fun i j a b ha hb e => by
      rw [hG i a ha, hG j b hb] at e
      exact xo_inj (by omega) e
    have hget : ∀ g ∈ G, h.get g.id = some g.obj := fun g hg => by
      show h.tr.get _ = _
      rw [hH, mkHT_get]
      exact lookup_obj hown hg
    rcases List.mem_cons.1 hp with rfl | hp
    · simp only [mapO]
      rw [hr 6 (by omega), hf2 6 (by omega)]
      show h.tr.get 6 = _
      rw [hH, mkHT_get]
      simp only [sObjs, List.lookup_cons, BEq.rfl]
      congr 2
      apply List.ext_getElem?
      intro j
      simp only [List.getElem?_map, compact, List.getElem?_mapIdx]
      cases hgj : G[j]? with
      | none => rfl
      | some g =>
        have hjl : j < G.length := by
          rcases Nat.lt_or_ge j G.length with h1 | h1
          · exact h1
          · rw [List.getElem?_eq_none h1] at hgj; cases hgj
        simp only [Option.map_some, Snd.ent, Snd.id, mapV, mapVL, hr _ (show 256 * j + 255 < 4294967296 by omega), hf1 j hjl, hG j g hgj]
    · obtain ⟨g, hg, rfl⟩ := List.mem_map.1 hp
      obtain ⟨j, hj, hgj⟩ := List.mem_iff_getElem.1 hg
      obtain ⟨g', k1, k2⟩ := compact_get ((List.getElem?_eq_getElem hj).trans (congrArg some hgj))
      have hjl : j < G.length := by rw [compact_len] at hj; exact hj
      have hx : g.x = j := by rw [k2]
      have ho : g.obj = g'.obj := by rw [k2]; rfl
      rw [obj_map, ho]
      simp only [Snd.id, hx, hr _ (show 256 * j + 255 < 4294967296 by omega), hf1 j hjl, ← hG j g' k1]
      exact hget g' (List.mem_of_getElem? k1)
end Go.Am.Cells
