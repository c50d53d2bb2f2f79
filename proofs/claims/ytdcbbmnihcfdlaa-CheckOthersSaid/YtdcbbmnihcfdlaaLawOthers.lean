/- CheckOthers holds of every input: what aborted and unknown trips wrote, and read, changes nothing of whether the others are a history that can be. -/
import Derived.Test.YtdcbbmnihcfdlaaO18
import Derived.Test.YtdcbbmnihcfdlaaA21
import Derived.Test.YtdcbbmnihcfdlaaRows
import Derived.WalkKit
import Derived.ProofKit
import Derived.OpenShut
import Derived.ShutString
import Derived.ChangeOld
import Derived.Below
import Derived.SizedLaws
set_option linter.unusedVariables false
set_option linter.unusedSimpArgs false
set_option linter.unnecessarySimpa false
set_option linter.constructorNameAsVariable false
set_option linter.all false
open Go.Eng Go.Eng.Tab
open Go.ChangeShapes Go.WideShapes Go.ChangeAt Go.RowKit
set_option maxRecDepth 100000
namespace Go.Proofs.Ytdcbbmnihcfdlaa.checkOthers
theorem own : ownKnob Try.prog.godebug = none := by kernel_rfl
theorem laidOut : laidOutB Try.prog = true := by kernel_rfl
theorem shapes : ∀ t ∈ Try.f5.params.toList, (shOf Try.prog 10 t).isSome = true ∧ Try.prog.readableRec t = true ∧ t < Try.prog.types.size := by
  intro t ht
  have e : Try.f5.params.toList = [22, 41, 5] := by kernel_rfl
  rw [e] at ht
  simp only [List.mem_cons, List.not_mem_nil, or_false] at ht
  rcases ht with rfl | rfl | rfl <;> exact ⟨by kernel_rfl, by kernel_rfl, of_decide_eq_true (by kernel_rfl)⟩
theorem gives : ∀ xs, OkPars Try.prog 10 Try.f5.params.toList xs → Fun Try.prog 5 xs (.v (.bool true)) := by
  intro xs h
  have e : Try.f5.params.toList = [22, 41, 5] := by kernel_rfl
  rw [e] at h
  obtain ⟨x0, xs0, rfl, h0, h⟩ := h
  obtain ⟨x1, xs1, rfl, h1, h⟩ := h
  obtain ⟨x2, xs2, rfl, h2, rfl⟩ := h
  obtain ⟨ts, rfl, hl⟩ := par22 h0
  obtain ⟨t, rfl⟩ := par41 h1
  obtain ⟨n, rfl, hn⟩ := par5 h2
  exact t5 ts t n hn hl
theorem lifted (os : Os) (started : os.Started) (H : Type) (enc : TypeId × Value → H) :
    ReturnsInHanded {} Try.checked os 5 .any (Rows.checkOthersSpec.pre6 enc Try.prog Try.f5 Rows.checkOthersRow.domain false) (Rows.checkOthersSpec.post enc Try.prog Try.f5 false true false false) := by
  refine returnsInHanded_of_change_sized (C := Try.checked) own started (by kernel_rfl) Try.func5
    (ChangeSpec.witness6 (enc := enc) (C := Try.checked) false ⟨#[], #[.slice none 0 0, .agg #[.int .i64 0, .int .i64 0, .int .i64 0, .int .i64 0, .slice none 0 0, .slice none 0 0, .int .i64 0], .int .u8 0], []⟩ 8 (by kernel_rfl) (by kernel_rfl) (by kernel_rfl) (by kernel_rfl)) ?_
  intro W base args ds gs before hval hW _ _ _
  refine law_post (rt := 4) laidOut rfl shapes (by kernel_rfl) (by kernel_rfl) (fun ds hd => ?_) gives hval hW
  have hd' : ds.length = 3 := hd.trans (by kernel_rfl)
  match ds, hd' with
  | [_, _, _], _ => rfl
theorem over : Rows.checkOthersRow.holds Try.pinned (OpenSpec.ofChange Rows.checkOthersSpec) :=
  OpenClaim.holds_of_wide 5 Try.f5 rfl rfl rfl rfl rfl rfl rfl ⟨rfl, rfl, rfl, rfl, rfl⟩ rfl rfl rfl rfl rfl (by kernel_rfl) Try.func5 (by kernel_rfl)
    (of_decide_eq_true (by kernel_rfl)) (by unfold Func.isWrapper; first | (rw [if_pos (by decide +kernel)]; kernel_rfl) | (rw [if_neg (by decide +kernel)]; exact ⟨rfl, rfl⟩))
    (fun os started H enc _ => lifted os started H enc)
end Go.Proofs.Ytdcbbmnihcfdlaa.checkOthers
namespace Go.Proofs.Ytdcbbmnihcfdlaa
theorem checkOthers_holds : Rows.CheckOthersSaid := checkOthers.over
#print axioms checkOthers_holds
end Go.Proofs.Ytdcbbmnihcfdlaa
