/- CheckRuns holds of every input: trips that were committed one behind the other, each of which read what was there, are a history that can be, and with one version that is another one they are not. -/
import Derived.Test.YtdcbbmnihcfdlaaO18
import Derived.Test.YtdcbbmnihcfdlaaA23
import Derived.Test.YtdcbbmnihcfdlaaRows
import Derived.WalkKit
import Derived.ProofKit
import Derived.OpenShut
import Derived.ShutString
import Derived.ChangeOld
import Derived.Below
import Derived.SizedLaws
set_option linter.unusedVariables false
set_option linter.unusedSimpArgs false
set_option linter.unnecessarySimpa false
set_option linter.constructorNameAsVariable false
set_option linter.all false
open Go.Eng Go.Eng.Tab
open Go.ChangeShapes Go.WideShapes Go.ChangeAt Go.RowKit
set_option maxRecDepth 100000
namespace Go.Proofs.Ytdcbbmnihcfdlaa.checkRuns
theorem own : ownKnob Try.prog.godebug = none := by kernel_rfl
theorem laidOut : laidOutB Try.prog = true := by kernel_rfl
theorem shapes : ∀ t ∈ Try.f4.params.toList, (shOf Try.prog 10 t).isSome = true ∧ Try.prog.readableRec t = true ∧ t < Try.prog.types.size := by
  intro t ht
  have e : Try.f4.params.toList = [22, 5] := by kernel_rfl
  rw [e] at ht
  simp only [List.mem_cons, List.not_mem_nil, or_false] at ht
  rcases ht with rfl | rfl <;> exact ⟨by kernel_rfl, by kernel_rfl, of_decide_eq_true (by kernel_rfl)⟩
theorem gives : ∀ xs, OkPars Try.prog 10 Try.f4.params.toList xs → Fun Try.prog 4 xs (.v (.bool true)) := by
  intro xs h
  have e : Try.f4.params.toList = [22, 5] := by kernel_rfl
  rw [e] at h
  obtain ⟨x0, xs0, rfl, h0, h⟩ := h
  obtain ⟨x1, xs1, rfl, h1, rfl⟩ := h
  obtain ⟨ts, rfl, hl⟩ := par22 h0
  obtain ⟨n, rfl, hn⟩ := par5 h1
  exact t4 ts n hn
theorem lifted (os : Os) (started : os.Started) (H : Type) (enc : TypeId × Value → H) :
    ReturnsInHanded {} Try.checked os 4 .any (Rows.checkRunsSpec.pre6 enc Try.prog Try.f4 Rows.checkRunsRow.domain false) (Rows.checkRunsSpec.post enc Try.prog Try.f4 false true false false) := by
  refine returnsInHanded_of_change_sized (C := Try.checked) own started (by kernel_rfl) Try.func4
    (ChangeSpec.witness6 (enc := enc) (C := Try.checked) false ⟨#[], #[.slice none 0 0, .int .u8 0], []⟩ 8 (by kernel_rfl) (by kernel_rfl) (by kernel_rfl) (by kernel_rfl)) ?_
  intro W base args ds gs before hval hW _ _ _
  refine law_post (rt := 4) laidOut rfl shapes (by kernel_rfl) (by kernel_rfl) (fun ds hd => ?_) gives hval hW
  have hd' : ds.length = 2 := hd.trans (by kernel_rfl)
  match ds, hd' with
  | [_, _], _ => rfl
theorem over : Rows.checkRunsRow.holds Try.pinned (OpenSpec.ofChange Rows.checkRunsSpec) :=
  OpenClaim.holds_of_wide 4 Try.f4 rfl rfl rfl rfl rfl rfl rfl ⟨rfl, rfl, rfl, rfl, rfl⟩ rfl rfl rfl rfl rfl (by kernel_rfl) Try.func4 (by kernel_rfl)
    (of_decide_eq_true (by kernel_rfl)) (by unfold Func.isWrapper; first | (rw [if_pos (by decide +kernel)]; kernel_rfl) | (rw [if_neg (by decide +kernel)]; exact ⟨rfl, rfl⟩))
    (fun os started H enc _ => lifted os started H enc)
end Go.Proofs.Ytdcbbmnihcfdlaa.checkRuns
namespace Go.Proofs.Ytdcbbmnihcfdlaa
theorem checkRuns_holds : Rows.CheckRunsSaid := checkRuns.over
#print axioms checkRuns_holds
end Go.Proofs.Ytdcbbmnihcfdlaa
