/- A part of the engine that walks a function of the given program: sound rules, no statement of its own. -/
import Derived.Test.YtdcbbmnihcfdlaaEng24
set_option linter.unusedVariables false
set_option linter.unusedSimpArgs false
set_option linter.unnecessarySimpa false
set_option linter.constructorNameAsVariable false
set_option linter.all false
set_option linter.unusedVariables false
set_option linter.unusedSimpArgs false
namespace Go.Eng
theorem SWP.to {c : Cx} {b : Code} {nx nx' n0 : Nat} {T T' : Tab} {O O' : Heap} {K : AbsPost} (σ : Ren) (hr : c.r0.length = n0) (hk : keep n0 σ = true) (hw : Later (Wk nx T O σ nx' T' O')) (h : SWP c b nx' T' O' K) : SWP c b nx T O K := SWP.next h σ hr hk hw
end Go.Eng
