/- Contracts of functions of the given program, and the plain laws that they lean on. -/
import Derived.Test.YtdcbbmnihcfdlaaTab18
set_option linter.unusedVariables false
set_option linter.unusedSimpArgs false
set_option linter.unnecessarySimpa false
set_option linter.constructorNameAsVariable false
set_option linter.all false
open Go.Proofs Go.Eng.Tab
namespace Go.Eng
set_option maxRecDepth 100000
attribute [local irreducible] SWP LWP CallOK Spec Gives Bd
abbrev I (n : Int) : SV := .v (.int .i64 n)
abbrev B (b : Bool) : SV := .v (.bool b)
def ordr (a b c d : Int) : Int := if a < c ∨ a = c ∧ b < d then -1 else if a = c ∧ b = d then 0 else 1
theorem t24 (a b x d : Int) : Fun Try.prog 24 [I a, I b, I x, I d] (I (ordr a b x d)) := by
  refine Fun.walk pf24 rfl (Nat.le_of_ble_eq_true rfl) fun c hP hn hr => ?_
  obtain ⟨P_, n_, w0_, F_, Y_, r0_⟩ := c; subst hP; subst hn
  repeat' (conv => whnf); first | refine And.intro rfl ?_ | ((refine And.intro (?_ : (_ + _) * _ ≤ 140737488355328) ?_); (focus (simp only [List.length_nil, List.length_map, List.length_take, List.length_append, List.length_cons, List.length_nil]; omega))) | refine And.intro (Nat.le_of_ble_eq_true rfl) ?_ | refine And.intro ⟨rfl, rfl⟩ ?_ | refine And.intro ⟨rfl, Nat.le_of_ble_eq_true rfl⟩ ?_ | refine And.intro ⟨rfl, rfl, Nat.le_of_ble_eq_true rfl⟩ ?_ | refine And.intro ⟨Nat.le_of_ble_eq_true rfl, Nat.le_of_ble_eq_true rfl, rfl, rfl, rfl⟩ ?_ | refine And.intro ⟨Nat.le_of_ble_eq_true rfl, rfl, rfl, rfl, Nat.le_of_ble_eq_true rfl, rfl⟩ ?_ | refine SWP.go [] rfl ?_ | ((refine And.intro (fun h => ?_) (fun h => ?_)) <;> try (exfalso; omega)) | (refine And.intro ?_ ?_; (focus (first | omega | (simp only [Eng.lo, Eng.hi, List.length_map] at *; omega) | (refine ⟨?_, ?_⟩ <;> first | rfl | omega | (simp only [Eng.lo, Eng.hi, List.length_map] at *; omega)) | (simp only [List.length_nil, List.length_map, List.length_take, List.length_append, List.length_cons, List.length_nil]; omega)))) | refine And.intro ?_ ?_ | fail
  all_goals (refine Gives.pure rfl ⟨⟨congrArg I ?_, rfl, rfl⟩⟩)
  all_goals (simp only [ordr]; split <;> omega)
theorem t36 (a b x d : Int) : Fun Try.prog 36 [I a, I b, I x, I d] (I (ordr a b x d)) := by
  refine Fun.walk pf36 rfl (Nat.le_of_ble_eq_true rfl) fun c hP hn hr => ?_
  obtain ⟨P_, n_, w0_, F_, Y_, r0_⟩ := c; subst hP; subst hn
  repeat' (conv => whnf); first | refine And.intro rfl ?_ | ((refine And.intro (?_ : (_ + _) * _ ≤ 140737488355328) ?_); (focus (simp only [List.length_nil, List.length_map, List.length_take, List.length_append, List.length_cons, List.length_nil]; omega))) | refine And.intro (Nat.le_of_ble_eq_true rfl) ?_ | refine And.intro ⟨rfl, rfl⟩ ?_ | refine And.intro ⟨rfl, Nat.le_of_ble_eq_true rfl⟩ ?_ | refine And.intro ⟨rfl, rfl, Nat.le_of_ble_eq_true rfl⟩ ?_ | refine And.intro ⟨Nat.le_of_ble_eq_true rfl, Nat.le_of_ble_eq_true rfl, rfl, rfl, rfl⟩ ?_ | refine And.intro ⟨Nat.le_of_ble_eq_true rfl, rfl, rfl, rfl, Nat.le_of_ble_eq_true rfl, rfl⟩ ?_ | refine SWP.go [] rfl ?_ | ((refine And.intro (fun h => ?_) (fun h => ?_)) <;> try (exfalso; omega)) | (refine And.intro ?_ ?_; (focus (first | omega | (simp only [Eng.lo, Eng.hi, List.length_map] at *; omega) | (refine ⟨?_, ?_⟩ <;> first | rfl | omega | (simp only [Eng.lo, Eng.hi, List.length_map] at *; omega)) | (simp only [List.length_nil, List.length_map, List.length_take, List.length_append, List.length_cons, List.length_nil]; omega)))) | refine And.intro ?_ ?_ | fail
  all_goals (refine Gives.pure rfl ⟨⟨congrArg I ?_, rfl, rfl⟩⟩)
  all_goals (simp only [ordr]; split <;> omega)
theorem t37 (a b x : Int) : Fun Try.prog 37 [I a, I b, I x] (B (decide (b ≤ a ∧ a ≤ x))) := by
  refine Fun.walk pf37 rfl (Nat.le_of_ble_eq_true rfl) fun c hP hn hr => ?_
  obtain ⟨P_, n_, w0_, F_, Y_, r0_⟩ := c; subst hP; subst hn
  repeat' (conv => whnf); first | refine And.intro rfl ?_ | ((refine And.intro (?_ : (_ + _) * _ ≤ 140737488355328) ?_); (focus (simp only [List.length_nil, List.length_map, List.length_take, List.length_append, List.length_cons, List.length_nil]; omega))) | refine And.intro (Nat.le_of_ble_eq_true rfl) ?_ | refine And.intro ⟨rfl, rfl⟩ ?_ | refine And.intro ⟨rfl, Nat.le_of_ble_eq_true rfl⟩ ?_ | refine And.intro ⟨rfl, rfl, Nat.le_of_ble_eq_true rfl⟩ ?_ | refine And.intro ⟨Nat.le_of_ble_eq_true rfl, Nat.le_of_ble_eq_true rfl, rfl, rfl, rfl⟩ ?_ | refine And.intro ⟨Nat.le_of_ble_eq_true rfl, rfl, rfl, rfl, Nat.le_of_ble_eq_true rfl, rfl⟩ ?_ | refine SWP.go [] rfl ?_ | ((refine And.intro (fun h => ?_) (fun h => ?_)) <;> try (exfalso; omega)) | (refine And.intro ?_ ?_; (focus (first | omega | (simp only [Eng.lo, Eng.hi, List.length_map] at *; omega) | (refine ⟨?_, ?_⟩ <;> first | rfl | omega | (simp only [Eng.lo, Eng.hi, List.length_map] at *; omega)) | (simp only [List.length_nil, List.length_map, List.length_take, List.length_append, List.length_cons, List.length_nil]; omega)))) | refine And.intro ?_ ?_ | fail
  all_goals (refine Gives.pure rfl ⟨⟨congrArg B ?_, rfl, rfl⟩⟩)
  all_goals (simp; omega)
theorem t23 (a b x d : Int) : Fun Try.prog 23 [.agg [I a, I b], .agg [I x, I d]] (I (ordr a b x d)) := by
  refine Fun.walk pf23 rfl (Nat.le_of_ble_eq_true rfl) fun c hP hn hr => ?_
  obtain ⟨P_, n_, w0_, F_, Y_, r0_⟩ := c; subst hP; subst hn
  repeat' (conv => whnf); first | refine And.intro rfl ?_ | ((refine And.intro (?_ : (_ + _) * _ ≤ 140737488355328) ?_); (focus (simp only [List.length_nil, List.length_map, List.length_take, List.length_append, List.length_cons, List.length_nil]; omega))) | refine And.intro (Nat.le_of_ble_eq_true rfl) ?_ | refine And.intro ⟨rfl, rfl⟩ ?_ | refine And.intro ⟨rfl, Nat.le_of_ble_eq_true rfl⟩ ?_ | refine And.intro ⟨rfl, rfl, Nat.le_of_ble_eq_true rfl⟩ ?_ | refine And.intro ⟨Nat.le_of_ble_eq_true rfl, Nat.le_of_ble_eq_true rfl, rfl, rfl, rfl⟩ ?_ | refine And.intro ⟨Nat.le_of_ble_eq_true rfl, rfl, rfl, rfl, Nat.le_of_ble_eq_true rfl, rfl⟩ ?_ | refine And.intro ⟨rfl, bd36⟩ ?_ | refine SWP.go [] rfl ?_ | refine Fun.call (t36 _ _ _ _) rfl rfl ?_ | ((refine And.intro (fun h => ?_) (fun h => ?_)) <;> try (exfalso; omega)) | (refine And.intro ?_ ?_; (focus (first | omega | (simp only [Eng.lo, Eng.hi, List.length_map] at *; omega) | (refine ⟨?_, ?_⟩ <;> first | rfl | omega | (simp only [Eng.lo, Eng.hi, List.length_map] at *; omega)) | (simp only [List.length_nil, List.length_map, List.length_take, List.length_append, List.length_cons, List.length_nil]; omega)))) | refine And.intro ?_ ?_ | fail
  all_goals (refine Gives.pure rfl ⟨⟨rfl, rfl, rfl⟩⟩)
end Go.Eng
