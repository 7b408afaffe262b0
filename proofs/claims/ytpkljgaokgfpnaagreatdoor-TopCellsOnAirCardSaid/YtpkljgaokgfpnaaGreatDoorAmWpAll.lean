/- The soundness of the walk over symbolic values, all of it. -/
import Derived.Test.YtpkljgaokgfpnaaGreatDoorAmWpOk
set_option linter.unusedVariables false
set_option linter.unusedSimpArgs false
namespace Go.Am
open Go

theorem selfB_ok' {ops : Array Oper} {o : Oper} {wt : List (Nat × Oper × AV)} (h : selfB ops o wt = true) (u v : AV) {C : Ctx} {e : Env} {hp : AH} (hw : ∀ p ∈ wt, QV C ops p.2.1 p.2.2 e hp) : ∀ p ∈ wt, QV C ops p.2.1 p.2.2 (e.put o.dst u) hp :=
  fun p hp' => (QV.congr _ _ fun d hd => (selfB_ok h d hd).2 p hp').2 (hw p hp')

theorem wpOk {C : Ctx} (hC : CtxOk C) (hm : C.P.follows .mixedOrders = true) {S : Specs} (hS : SpecsOk C S) : ∀ n, WpOk C S n
  | 0 => by
    refine ⟨?_, ?_, ?_, ?_, ?_, ?_, ?_⟩ <;> intros <;> simp only [wpC, wpL, wpD, wpO, wpK, wpF, wpY] at * <;> contradiction
  | n + 1 => by
    have ih := wpOk hC hm hS n
    refine ⟨?_, ?_, ?_, ?_, ?_, ?_, ?_⟩
    · intro ro loc c Q e h hl hw
      cases c <;> (try simp only [wpC] at hw) <;> try (exact hw.elim)
      case skip => exact asem_skip hw
      case label => exact asem_label hw
      case exit => exact asem_exit hw
      case ret => exact asem_ret hw
      case seq a b =>
        refine asem_seq ((ih.c _ _ _ _ _ _ (hl.go rfl) hw).mono fun x e1 h1 hx => ?_)
        refine seqQ_ok ?_
        cases x <;> simp only [seqQ] at hx ⊢ <;> first | exact ih.c _ _ _ _ _ _ (hl.go rfl) hx | exact hx
      case cond c a b =>
        split at hw
        · rename_i v hv
          rw [cas_iff] at hw
          refine asem_cond hv ?_
          cases v
          · exact ih.c _ _ _ _ _ _ (hl.go rfl) (hw.2 rfl)
          · exact ih.c _ _ _ _ _ _ (hl.go rfl) (hw.1 rfl)
        · exact hw.elim
      case block id c => exact asem_block ((ih.c _ _ _ _ _ _ (hl.go rfl) hw).mono fun x e1 h1 hx => blockQ_ok hx)
      case scope c => exact asem_scope (ih.c _ _ _ _ _ _ (hl.go rfl) hw)
      case loop c =>
        split at hw
        · rename_i spec hs
          cases loc with
          | none => rw [hS.L0] at hs; cases hs
          | some fp =>
            obtain ⟨f, p⟩ := fp
            obtain ⟨fn, body, h1, h2, h3⟩ := hl _ _ rfl
            exact hS.L _ _ _ hs _ _ _ h1 h2 h3 _ _ _ _ hw
        · refine asem_loop ((ih.c _ _ _ _ _ _ (hl.go rfl) hw).mono fun x e1 h1 hx => ?_)
          refine seqQ_ok ?_
          cases x <;> simp only [seqQ] at hx ⊢ <;> first | exact ih.c _ _ _ _ _ _ hl hx | exact hx
      case region id ops dr =>
        cases dr with
        | false =>
          simp only [wpC] at hw
          refine asem_region hC ?_
          have := ih.l ops h.next 0 ops.toList Q e _ (by intro j; simp) hw
          rwa [Array.length_toList, ← List.range_eq_range'] at this
        | true =>
          simp only [wpC] at hw
          exact asem_draw hC hm (ih.d _ _ _ _ _ _ _ _ (by simp) hw)
      case rangeFunc g ps assign body =>
        split at hw
        · rename_i spec hs
          cases loc with
          | none => rw [hS.R0] at hs; cases hs
          | some fp =>
            obtain ⟨f, p⟩ := fp
            obtain ⟨fn, body, h1, h2, h3⟩ := hl _ _ rfl
            exact hS.R _ _ _ hs _ _ _ _ _ _ h1 h2 h3 _ _ _ _ hw
        · split at hw
          · rename_i f fi ca lp e1 h1 hg hen
            split at hw
            · rename_i hf
              exact asem_rangeFunc hC hg hf hen ((ih.f _ _ _ _ hw).mono fun r h hr => rangeP_ok hr)
            · exact hw.elim
          · exact hw.elim
    · intro ops base i l Q e h hl hw
      cases l with
      | nil => simp only [wpL] at hw; exact hw
      | cons o l =>
        simp only [wpL] at hw
        obtain ⟨ho, hl'⟩ := sub_list hl
        simp only [List.length_cons, List.range'_succ, AOps]
        exact (ih.o _ _ _ _ _ _ _ _ ho hw).mono (fun e1 h1 hk => ih.l _ _ _ _ _ _ _ hl' hk) (fun _ _ _ hq => hq)
    · intro ops base f listed wt K e h hwt hw
      cases f with
      | zero =>
        simp only [wpD] at hw
        split at hw
        · rename_i hr; unfold ACanon; exact ⟨hr, hw⟩
        · exact hw.elim
      | succ f =>
        simp only [wpD] at hw
        simp only [ACanon]
        split at hw
        · rename_i hr; rw [hr]; exact hw
        · rename_i j hr
          rw [hr]
          split at hw
          · rename_i o ho
            have hsub : ∀ p ∈ dropW ops j wt, QV C ops p.2.1 p.2.2 e h := fun p hp => hwt p (mem_dropW hp)
            cases n with
            | zero => simp only [wpO] at hw
            | succ n =>
              refine (wpO_eff hS (fun c R e h hk => ?_) ho hw).mono (fun e1 h1 hk => ?_) (fun _ _ _ hq => hq)
              · -- one level less of fuel: the walk of a call
                cases n with
                | zero => simp only [wpK] at hk
                | succ n => exact (wpOk hC hm hS (n + 1)).k _ _ _ _ hk
              · obtain ⟨hk, u, rfl, heff⟩ := hk
                obtain ⟨hq, hk⟩ := keepsP_ok heff u hk hsub
                exact ⟨hq, ih.d _ _ _ _ _ _ _ _ hq hk⟩
          · exact hw.elim
        · rename_i j js hne hr
          rw [hr]
          cases js with
          | nil => exact absurd rfl hne
          | cons a js =>
            simp only
            split at hw
            · rename_i i hf
              rw [hf]
              split at hw
              · rename_i o ho
                split at hw
                · rename_i hfs hwa
                  simp only [Bool.and_eq_true] at hfs
                  have hq : Op.quiet o.op = true := by
                    have := List.find?_some hf
                    simpa [ho] using this
                  have hqv : QV C ops o .undef e h := ⟨dstB_ok hfs.2, hq, by rw [hwa]⟩
                  rw [Env.putS_eq] at hw
                  refine ⟨o, _, ho, hqv, hfs.1.1, selfB_ok hfs.1.2, ih.d _ _ _ _ _ _ _ _ ?_ hw⟩
                  intro p hp
                  rcases List.mem_cons.1 hp with rfl | hp
                  · exact (QV.congr _ _ fun d hd => (selfB_ok hfs.1.2 d hd).1).2 hqv
                  · exact selfB_ok' hfs.1.2 .undef .undef hwt p hp
                · rename_i hfs hwa
                  simp only [Bool.and_eq_true] at hfs
                  have hq : Op.quiet o.op = true := by
                    have := List.find?_some hf
                    simpa [ho] using this
                  obtain ⟨v, h', hs, hk⟩ := pstep_ok hw
                  have hk := spl_ok hk
                  have hqv : QV C ops o v e h := ⟨dstB_ok hfs.2, hq, by rw [hwa]; exact (astep_quiet hq hs 0).2⟩
                  rw [Env.putS_eq] at hk
                  refine ⟨o, v, ho, hqv, hfs.1.1, selfB_ok hfs.1.2, ih.d _ _ _ _ _ _ _ _ ?_ hk⟩
                  intro p hp
                  rcases List.mem_cons.1 hp with rfl | hp
                  · exact (QV.congr _ _ fun d hd => (selfB_ok hfs.1.2 d hd).1).2 hqv
                  · exact selfB_ok' hfs.1.2 v v hwt p hp
                · exact hw.elim
              · exact hw.elim
            · rename_i hf
              rw [hf]
              split at hw
              · rename_i o ho
                split at hw
                · rename_i hfs hwa
                  simp only [Bool.and_eq_true] at hfs
                  obtain ⟨v, h', hs, hk⟩ := pstep_ok hw
                  have hfr : Op.fresh o.op = true := by
                    have := hfs.1.1
                    simp only [freshB, Bool.and_eq_true] at this
                    exact this.1.1.1
                  obtain ⟨x, rfl, hall⟩ := astep_fresh hfr hs
                  rw [AH.get_set_same] at hk
                  simp only at hk
                  rw [Env.putS_eq] at hk
                  have hwt' : ∀ p ∈ wt, QV C ops p.2.1 p.2.2 (e.put o.dst v) (h.set (base + j) x) := by
                    intro p hp
                    have hst : Op.still p.2.1.op = true := by
                      have := hfs.1.1
                      simp only [freshB, Bool.and_eq_true, List.all_eq_true] at this
                      exact this.2 p hp
                    exact (selfB_ok' hfs.1.2 v v hwt p hp).still hst _
                  exact .inl ⟨o, v, x, ho, ⟨dstB_ok hfs.2, hwa, hfr, hall⟩, hfs.1.1, selfB_ok hfs.1.2, ih.d _ _ _ _ _ _ _ _ hwt' hk⟩
                · exact hw.elim
              · exact hw.elim
    · intro ops base i o K Q e h ho hw
      exact (wpO_eff hS ih.k ho hw).mono (fun _ _ hk => hk.1) (fun _ _ _ hq => hq)
    · intro c R e h hw
      simp only [wpK] at hw
      unfold ACall
      split at hw
      · rename_i f hf
        split at hw
        · rename_i g fi ca args h1 h2
          split at hw
          · rename_i hg
            rw [hf]
            exact ⟨_, _, h1, h2, hg, ih.f _ _ _ _ hw⟩
          · exact hw.elim
        · rename_i id args h1 h2
          rw [hf]
          exact ⟨_, _, h1, h2, ih.y _ _ _ _ hw⟩
        · exact hw.elim
      · rename_i rr name hf
        split at hw
        · rename_i t y args h1 h2
          split at hw
          · rename_i f hM
            split at hw
            · rename_i hg
              rw [hf]
              exact ⟨_, _, _, _, h1, h2, hM, hg, ih.f _ _ _ _ hw⟩
            · exact hw.elim
          · exact hw.elim
        · exact hw.elim
      · exact hw.elim
    · intro f args R h hw
      simp only [wpF] at hw
      split at hw
      · rename_i spec hp
        exact (hS.P f spec hp args _ hw h).mono fun r h' ⟨⟨v, h1, h3⟩, h2⟩ => by subst h1; subst h2; exact h3
      · split at hw
        · rename_i fn hfn
          split at hw
          · rename_i c hb
            split at hw
            · rename_i hlen
              refine acalls_fun hC hfn hb (by simpa using hlen) ((ih.c _ _ _ _ _ _ ?_ hw).mono fun x e h hx => bodyP_ok hx)
              intro f' p' hl
              simp only [Option.some.injEq, Prod.mk.injEq] at hl
              obtain ⟨rfl, rfl⟩ := hl
              exact ⟨fn, c, hfn, hb, rfl⟩
            · exact hw.elim
          · exact hw.elim
        · exact hw.elim
    · intro id args R h hw
      simp only [wpY] at hw
      split at hw
      · rename_i pend m env ps assign body dfr hg
        split at hw
        · rename_i hc
          simp only [Bool.and_eq_true, Nat.beq_eq_true_eq, List.all_eq_true] at hc
          refine ⟨pend, m, env, ps, assign, body, dfr, hg, Nat.eq_of_beq_eq_true hc.1, fun t ht => by simpa using hc.2 t ht, (ih.c _ _ _ _ _ _ .none hw).mono fun x e1 h1 hx => ?_⟩
          cases x <;> simp only at hx <;> try exact hx.elim
          split at hx
          · rename_i pend₁ n₁ env₁ ps₁ as₁ bd₁ dfr₁ hg1
            refine ⟨pend₁, n₁, env₁, ps₁, as₁, bd₁, dfr₁, hg1, (ih.c _ _ _ _ _ _ .none hx).mono fun x e2 h2 hr => ?_⟩
            unfold roundP at hr
            split at hr
            · rename_i st pend₂ n₂ env₂ ps₂ as₂ bd₂ dfr₂ hg2
              refine ⟨st, pend₂, n₂, env₂, ps₂, as₂, bd₂, dfr₂, hg2, ?_⟩
              cases x <;> first | exact hr | exact hr.elim
            · exact hr.elim
          · exact hx.elim
        · exact hw.elim
      · exact hw.elim
end Go.Am
