/- A part of the engine that walks a function of the given program: sound rules, no statement of its own. -/
import Derived.Test.YtdcbbmnihcfdlaaEng25
set_option linter.unusedVariables false
set_option linter.unusedSimpArgs false
set_option linter.unnecessarySimpa false
set_option linter.constructorNameAsVariable false
set_option linter.all false
set_option linter.unusedVariables false
set_option linter.unusedSimpArgs false
namespace Go.Eng
theorem subRows_setmap {O : Heap} {σ : Ren} {fz : Nat → Bool} {α : Type} {f : α → List SV} (hp : ∀ a, pureL (f a) = true) {r : List SV} {a : α} : ∀ {l : List α} {i : Nat}, subL O σ fz r (f a) → subRows O σ fz ((l.map f).set i r) ((l.set i a).map f)
  | [], i, h => by simp only [List.map_nil, List.set_nil]; unfold subRows; rfl
  | b :: l, 0, h => by
    simp only [List.map_cons, List.set_cons_zero]
    unfold subRows
    exact ⟨h, subRows_pure _ (pureRows_map hp _)⟩
  | b :: l, i + 1, h => by
    simp only [List.map_cons, List.set_cons_succ]
    unfold subRows
    exact ⟨subL_pure _ (hp b), subRows_setmap hp h⟩
end Go.Eng
