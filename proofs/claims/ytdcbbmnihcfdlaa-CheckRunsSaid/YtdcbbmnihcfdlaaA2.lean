/- Contracts of functions of the given program, and the plain laws that they lean on. -/
import Derived.Test.YtdcbbmnihcfdlaaA1
set_option linter.unusedVariables false
set_option linter.unusedSimpArgs false
set_option linter.unnecessarySimpa false
set_option linter.constructorNameAsVariable false
set_option linter.all false
open Go.Proofs Go.Eng.Tab
namespace Go.Eng
set_option maxRecDepth 100000
attribute [local irreducible] SWP LWP CallOK Spec Gives Bd
abbrev S (b : ByteArray) : SV := .v (.string b)
def okKey (k : ByteArray) : Bool := decide (1 ≤ k.size ∧ k.size ≤ 8)
theorem t38 (k : ByteArray) : Fun Try.prog 38 [S k] (B (okKey k)) := by
  refine Fun.walk pf38 rfl (Nat.le_of_ble_eq_true rfl) fun c hP hn hr => ?_
  obtain ⟨P_, n_, w0_, F_, Y_, r0_⟩ := c; subst hP; subst hn
  repeat' (conv => whnf); first | refine And.intro rfl ?_ | ((refine And.intro (?_ : (_ + _) * _ ≤ 140737488355328) ?_); (focus (simp only [List.length_nil, List.length_map, List.length_take, List.length_append, List.length_cons, List.length_nil]; omega))) | refine And.intro (Nat.le_of_ble_eq_true rfl) ?_ | refine And.intro ⟨rfl, rfl⟩ ?_ | refine And.intro ⟨rfl, Nat.le_of_ble_eq_true rfl⟩ ?_ | refine And.intro ⟨rfl, rfl, Nat.le_of_ble_eq_true rfl⟩ ?_ | refine And.intro ⟨Nat.le_of_ble_eq_true rfl, Nat.le_of_ble_eq_true rfl, rfl, rfl, rfl⟩ ?_ | refine And.intro ⟨Nat.le_of_ble_eq_true rfl, rfl, rfl, rfl, Nat.le_of_ble_eq_true rfl, rfl⟩ ?_ | refine SWP.go [] rfl ?_ | ((refine And.intro (fun h => ?_) (fun h => ?_)) <;> try (exfalso; omega)) | (refine And.intro ?_ ?_; (focus (first | omega | (simp only [Eng.lo, Eng.hi, List.length_map] at *; omega) | (refine ⟨?_, ?_⟩ <;> first | rfl | omega | (simp only [Eng.lo, Eng.hi, List.length_map] at *; omega)) | (simp only [List.length_nil, List.length_map, List.length_take, List.length_append, List.length_cons, List.length_nil]; omega)))) | refine And.intro ?_ ?_ | fail
  all_goals (refine Gives.pure rfl ⟨⟨congrArg B ?_, rfl, rfl⟩⟩)
  all_goals (simp only [okKey]; simp; omega)
def skey (k : ByteArray) : List SV := [S k]
def lessB (a b : ByteArray) : Bool := Op.bytesLess a.data.toList b.data.toList
def badKey (l : List ByteArray) (i : Nat) : Bool := !okKey (l.getD i default) || (decide (0 < i) && !lessB (l.getD (i - 1) default) (l.getD i default))
def rights (l : List ByteArray) : Bool := ((List.range l.length).all fun i => !badKey l i) && decide (l.length ≤ 8)
theorem rights_bad {l : List ByteArray} {i : Nat} (hi : i < l.length) (h : badKey l i = true) : rights l = false := by
  unfold rights
  rw [Bool.and_eq_false_iff]
  left
  rw [List.all_eq_false]
  exact ⟨i, List.mem_range.2 hi, by simp [h]⟩
theorem rights_good {l : List ByteArray} (h : ∀ j, j < l.length → badKey l j = false) : rights l = decide (l.length ≤ 8) := by
  unfold rights
  have : ((List.range l.length).all fun i => !badKey l i) = true := by
    rw [List.all_eq_true]
    intro j hj
    simp [h j (List.mem_range.1 hj)]
  simp [this]
theorem t28 (l : List ByteArray) (hl : l.length < 4611686018427387904) : Fun Try.prog 28 [.rd 1 (l.map skey)] (B (rights l)) := by
  refine Fun.walk pf28 rfl (Nat.le_of_ble_eq_true rfl) fun c hP hn hr => ?_
  obtain ⟨P_, n_, w0_, F_, Y_, r0_⟩ := c; subst hP; subst hn
  repeat' (conv => whnf); first | refine And.intro rfl ?_ | ((refine And.intro (?_ : (_ + _) * _ ≤ 140737488355328) ?_); (focus (simp only [List.length_nil, List.length_map, List.length_take, List.length_append, List.length_cons, List.length_nil]; omega))) | refine And.intro (Nat.le_of_ble_eq_true rfl) ?_ | refine And.intro ⟨rfl, rfl⟩ ?_ | refine And.intro ⟨rfl, Nat.le_of_ble_eq_true rfl⟩ ?_ | refine And.intro ⟨rfl, rfl, Nat.le_of_ble_eq_true rfl⟩ ?_ | refine And.intro ⟨Nat.le_of_ble_eq_true rfl, Nat.le_of_ble_eq_true rfl, rfl, rfl, rfl⟩ ?_ | refine And.intro ⟨Nat.le_of_ble_eq_true rfl, rfl, rfl, rfl, Nat.le_of_ble_eq_true rfl, rfl⟩ ?_ | refine And.intro ⟨rfl, bd38⟩ ?_ | refine SWP.go [] rfl ?_ | ((refine And.intro (fun h => ?_) (fun h => ?_)) <;> try (exfalso; omega)) | (refine And.intro ?_ ?_; (focus (first | omega | (simp only [Eng.lo, Eng.hi, List.length_map] at *; omega) | (refine ⟨?_, ?_⟩ <;> first | rfl | omega | (simp only [Eng.lo, Eng.hi, List.length_map] at *; omega)) | (simp only [List.length_nil, List.length_map, List.length_take, List.length_append, List.length_cons, List.length_nil]; omega)))) | refine And.intro ?_ ?_ | fail
  refine SWP.loop (n0 := 0) [] hr rfl (T' := [(7, I ((0:Nat):Int)), (6, I (l.length : Int)), (5, .rd 1 (l.map skey)), (0, .rd 1 (l.map skey)), (2, B false)]) (O' := []) ⟨⟨rfl, rfl, trivial, ?_⟩⟩ ?_
  · repeat' first | exact rfl | exact trivial | (conv => whnf); first | refine And.intro ?_ ?_ | (simp only [List.length_map]; done) | (congr 1; omega) | (congr 1; simp; done) | fail
  refine LWP.ind (fun i : Nat => l.length - i) (fun _ => 0) (fun i => [(7, I (i:Int)), (6, I (l.length : Int)), (5, .rd 1 (l.map skey)), (0, .rd 1 (l.map skey)), (2, B false)]) (fun _ => []) (fun i => i ≤ l.length ∧ ∀ j, j < i → badKey l j = false) (fun i hi ih => ?_) 0 ⟨Nat.zero_le _, fun j hj => absurd hj (Nat.not_lt_zero _)⟩
  repeat' (conv => whnf); first | refine And.intro rfl ?_ | ((refine And.intro (?_ : (_ + _) * _ ≤ 140737488355328) ?_); (focus (simp only [List.length_nil, List.length_map, List.length_take, List.length_append, List.length_cons, List.length_nil]; omega))) | refine And.intro (Nat.le_of_ble_eq_true rfl) ?_ | refine And.intro ⟨rfl, rfl⟩ ?_ | refine And.intro ⟨rfl, Nat.le_of_ble_eq_true rfl⟩ ?_ | refine And.intro ⟨rfl, rfl, Nat.le_of_ble_eq_true rfl⟩ ?_ | refine And.intro ⟨Nat.le_of_ble_eq_true rfl, Nat.le_of_ble_eq_true rfl, rfl, rfl, rfl⟩ ?_ | refine And.intro ⟨Nat.le_of_ble_eq_true rfl, rfl, rfl, rfl, Nat.le_of_ble_eq_true rfl, rfl⟩ ?_ | refine And.intro ⟨rfl, bd38⟩ ?_ | refine SWP.go [] rfl ?_ | refine Fun.callb (t38 _) rfl (fun h => ?_) (fun h => ?_) | refine Exists.intro _ (And.intro (row_get (by omega) (by omega)) ?_) | refine LWP.next (ih (i+1) ?_) [] hr rfl ?_ | refine Gives.pure rfl ?_ | ((refine And.intro (fun h => ?_) (fun h => ?_)) <;> try (exfalso; omega)) | (refine And.intro ?_ ?_; (focus (first | omega | (simp only [Eng.lo, Eng.hi, List.length_map] at *; omega) | (refine ⟨?_, ?_⟩ <;> first | rfl | omega | (simp only [Eng.lo, Eng.hi, List.length_map] at *; omega)) | (simp only [List.length_nil, List.length_map, List.length_take, List.length_append, List.length_cons, List.length_nil]; omega)))) | refine And.intro ?_ ?_ | fail
  all_goals constructor
  all_goals first | refine ⟨by omega, by omega, fun j hj => ?_⟩ | refine ⟨congrArg B ?_, rfl, rfl⟩ | refine ⟨rfl, rfl, trivial, ?_⟩
  all_goals try (repeat' first | exact rfl | exact trivial | (conv => whnf); first | refine And.intro ?_ ?_ | (simp only [List.length_map]; done) | (congr 1; omega) | (congr 1; simp; done) | fail; done)
  all_goals simp only [List.length_map] at *
  all_goals have e1 : ((i : Int) - 1).toNat = i - 1 := by omega
  all_goals have e2 : ((i : Int)).toNat = i := by omega
  all_goals simp only [e1, e2] at *
  all_goals first
    | (refine (rights_bad (i := i) (by omega) ?_).symm; simp_all [badKey, lessB]; done)
    | (rcases Nat.lt_or_eq_of_le (Nat.le_of_lt_succ hj) with h1 | rfl <;> first | exact hi.2 _ h1 | (simp_all [badKey, lessB]; done) | (simp_all [badKey, lessB]; omega))
    | (rw [rights_good fun j hj => hi.2 j (by omega)]; simp; omega)
end Go.Eng
