/- TopCellsOnAir: the machine's context. -/
import Derived.Test.YtpkljgaokgfpnaaGreatDoorProg
import Derived.Test.YtpkljgaokgfpnaaGreatDoorAmL
import Derived.KernelRfl
set_option maxRecDepth 1000000
set_option linter.unusedVariables false
set_option linter.unusedSimpArgs false
set_option linter.unusedSectionVars false
namespace Go.Am.Cells
open Go Go.Am
noncomputable def P : Program := Go.Proofs.Tryz.prog
def table : List AV := [.i 0, .i 5, .i 10, .i 15, .i 4, .i 9, .i 14, .i 3, .i 8, .i 13, .i 2, .i 7, .i 12, .i 1, .i 6, .i 11]
noncomputable def C : Ctx := { P := P, T := mkTI P, G := fun g => (match g with | 0 => some table | _ => none), F := fun f => (match P.funcs[f]? with | some fn => (match fn.body with | some _ => some fn | none => none) | none => none), M := mkM P }
theorem names : ((List.range P.funcs.size).all fun f => match P.funcs[f]? with | some fn => !(fn.name == "runtime.NumGoroutine") | none => true) = true := by kernel_rfl
theorem mixed : C.P.follows .mixedOrders = true := by kernel_rfl
theorem hC : CtxOk C := by
  refine ⟨fun t i h => h, fun f fn h => ?_, fun t n f h => h⟩
  simp only [C] at h ⊢
  cases hf : P.funcs[f]? with
  | none => rw [hf] at h; cases h
  | some g =>
    rw [hf] at h
    simp only at h
    cases hb : g.body with
    | none => rw [hb] at h; cases h
    | some c =>
      rw [hb] at h
      injection h with h; subst h
      refine ⟨rfl, by rw [hb]; rfl, ?_⟩
      have hlt : f < P.funcs.size := (Array.getElem?_eq_some_iff.1 hf).1
      have := List.all_eq_true.1 names f (List.mem_range.2 hlt)
      rw [hf] at this
      simpa using this
noncomputable def bodyOf (f : FuncId) : Code := match C.F f with
  | some fn => (match fn.body with | some c => c | none => .skip)
  | none => .skip
noncomputable def loopAt (f : FuncId) (p : List Bool) : Code := match codeAt (bodyOf f) p with
  | some (.loop c) => c
  | _ => .skip
theorem loopAt_eq {f : FuncId} {p : List Bool} {fn : Func} {body c : Code} (h1 : C.F f = some fn) (h2 : fn.body = some body) (h3 : codeAt body p = some (.loop c)) : c = loopAt f p := by
  simp only [loopAt, bodyOf, h1, h2, h3]
end Go.Am.Cells
