/- Contracts of functions of the given program, and the plain laws that they lean on. -/
import Derived.Test.YtdcbbmnihcfdlaaA16
import Derived.Test.YtdcbbmnihcfdlaaA11
set_option linter.unusedVariables false
set_option linter.unusedSimpArgs false
set_option linter.unnecessarySimpa false
set_option linter.constructorNameAsVariable false
set_option linter.all false
open Go.Proofs Go.Eng.Tab
namespace Go.Eng
set_option maxRecDepth 100000
set_option maxHeartbeats 4000000
attribute [local irreducible] SWP LWP CallOK Spec Gives Bd EqT
def tA : Trip := ⟨0, 1, 3, 0, [], [⟨⟨#[97]⟩, ⟨#[49]⟩⟩], 1⟩
def tB : Trip := ⟨0, 2, 5, 0, [⟨⟨#[97]⟩, 0, 0, ⟨#[]⟩⟩], [], 1⟩
def tC : Trip := ⟨0, 2, 2, 0, [⟨⟨#[97]⟩, 0, 0, ⟨#[]⟩⟩], [], 1⟩
theorem ab_all : [tA, tB].all okTrip = true := by rfl
theorem ac_all : [tA, tC].all okTrip = true := by rfl
theorem two_twice {a b : Trip} (h1 : kN a ≠ kN b) (h2 : kT a ≠ kT b) : twice [a, b] = false := by
  refine (twice_false ?_).symm
  rintro ⟨j, t, hj, hd⟩
  match j, hj with
  | 0, hj => simp at hj; subst hj; rcases hd with ⟨x, hx, _⟩ | ⟨_, x, hx, _⟩ <;> simp [com] at hx
  | 1, hj =>
    simp at hj; subst hj
    rcases hd with ⟨x, hx, he⟩ | ⟨_, x, hx, he⟩
    · simp at hx; subst hx; exact h1 he
    · simp [com] at hx; obtain ⟨rfl, _⟩ := hx; exact h2 he
  | j + 2, hj => simp at hj
theorem kNne {a b : Trip} (h : a.txn ≠ b.txn) : kN a ≠ kN b := by
  intro hh; unfold kN at hh; simp at hh; exact h hh.2
theorem kTne {a b : Trip} (h : a.time ≠ b.time) : kT a ≠ kT b := by
  intro hh; unfold kT at hh; simp at hh; exact h hh.1
theorem ab_there : there [tA, tB] ⟨#[97]⟩ 5 0 = ⟨3, 0, ⟨#[49]⟩⟩ := by
  simp [there, comm, tA, tB, sortT, insT, insR, lessT, ordr, step1, putAllW, put1, nobody]
theorem ac_there : there [tA, tC] ⟨#[97]⟩ 2 0 = ⟨0, 0, ⟨#[]⟩⟩ := by
  simp [there, comm, tA, tC, sortT, insT, insR, lessT, ordr, step1, putAllW, put1, nobody]
theorem ab_check : check [tA, tB] = (1, 16) := by
  refine check_wrong ab_all (two_twice (kNne (by decide)) (kTne (by decide))) (i := 1) (t := tB) rfl ?_ ?_
  · refine ⟨_, List.mem_cons_self, rfl, .inr ?_⟩
    show ¬ (there [tA, tB] ⟨#[97]⟩ 5 0).val = ⟨#[]⟩
    rw [ab_there]; simp
  · intro j t hj ht
    have : j = 0 := by omega
    subst this
    simp at ht; subst ht
    rintro ⟨s, hs, _⟩
    simp [tA] at hs
theorem ac_check : check [tA, tC] = (-1, 0) := by
  refine check_ok ac_all (two_twice (kNne (by decide)) (kTne (by decide))) ?_
  intro j t ht
  match j, ht with
  | 0, ht => simp at ht; subst ht; rintro ⟨s, hs, _⟩; simp [tA] at hs
  | 1, ht =>
    simp at ht; subst ht
    rintro ⟨s, hs, hw⟩
    simp [tC] at hs; subst hs
    have e : there [tA, tC] ⟨#[97]⟩ tC.time tC.cl = ⟨0, 0, ⟨#[]⟩⟩ := ac_there
    rcases hw.2 with h | h
    · exact h ⟨by rw [e], by rw [e]⟩
    · exact h (by rw [e])
  | j + 2, ht => simp at ht
theorem t9 : Fun Try.prog 9 [] (B true) := by
  refine Fun.walk pf9 rfl (Nat.le_of_ble_eq_true rfl) fun c hP hn hr => ?_
  obtain ⟨P_, n_, w0_, F_, Y_, r0_⟩ := c; subst hP; subst hn
  have c1 : Fun Try.prog 15 [.rd 7 ([tA, tB].map cTrip)] (.tup [I 1, I 16]) := by
    have c1 := t15 [tA, tB] (by decide) (by intro t ht; simp at ht; rcases ht with rfl | rfl <;> exact ⟨by decide, by decide⟩)
    rw [ab_check] at c1
    exact c1
  have c2 : Fun Try.prog 15 [.rd 7 ([tA, tC].map cTrip)] (.tup [I (-1), I 0]) := by
    have c2 := t15 [tA, tC] (by decide) (by intro t ht; simp at ht; rcases ht with rfl | rfl <;> exact ⟨by decide, by decide⟩)
    rw [ac_check] at c2
    exact c2
  repeat' (conv => whnf); first | refine And.intro rfl ?_ | ((refine And.intro (?_ : (_ + _) * _ ≤ 140737488355328) ?_); (focus (simp only [List.length_nil, List.length_map, List.length_take, List.length_drop, List.length_append, List.length_cons, List.length_nil]; omega))) | refine And.intro (Nat.le_of_ble_eq_true rfl) ?_ | refine And.intro ⟨rfl, rfl⟩ ?_ | refine And.intro ⟨rfl, Nat.le_of_ble_eq_true rfl⟩ ?_ | refine And.intro ⟨rfl, rfl, Nat.le_of_ble_eq_true rfl⟩ ?_ | refine And.intro ⟨Nat.le_of_ble_eq_true rfl, Nat.le_of_ble_eq_true rfl, rfl, rfl, rfl⟩ ?_ | refine And.intro ⟨Nat.le_of_ble_eq_true rfl, rfl, rfl, rfl, Nat.le_of_ble_eq_true rfl, rfl⟩ ?_ | refine And.intro trivial ?_ | refine And.intro ⟨Nat.le_of_ble_eq_true rfl, Nat.le_of_ble_eq_true rfl, rfl, oneRows_map (fun _ => rfl) _, rfl⟩ ?_ | refine And.intro ⟨Nat.le_of_ble_eq_true rfl, Nat.le_of_ble_eq_true rfl, rfl, oneRows_dt (fun _ => rfl) _ _ _, rfl⟩ ?_ | refine And.intro ⟨rfl, bd15⟩ ?_ | refine And.intro ⟨rfl, bd18⟩ ?_ | refine SWP.go [] rfl ?_ | refine Fun.call (t18 _ _) rfl rfl ?_ | (refine Fun.callv c1 ⟨?_⟩ rfl rfl ?_; (focus ((repeat' (first | exact rfl | exact trivial | exact pureRows_map (fun _ => rfl) _ | (refine subRows_of ?_ (pureRows_map (fun _ => rfl) _); first | rfl | (simp; done)) | refine subRows_app _ _ _ (pureRows_map (fun _ => rfl) _) ?_ | (conv => whnf); first | refine And.intro ?_ ?_ | (simp only [List.length_map]; done) | (congr 1; omega) | (congr 1; simp; done) | fail)); done))) | (refine Fun.callv c2 ⟨?_⟩ rfl rfl ?_; (focus ((repeat' (first | exact rfl | exact trivial | exact pureRows_map (fun _ => rfl) _ | (refine subRows_of ?_ (pureRows_map (fun _ => rfl) _); first | rfl | (simp; done)) | refine subRows_app _ _ _ (pureRows_map (fun _ => rfl) _) ?_ | (conv => whnf); first | refine And.intro ?_ ?_ | (simp only [List.length_map]; done) | (congr 1; omega) | (congr 1; simp; done) | fail)); done))) | refine Gives.pure rfl ?_ | ((refine And.intro (fun h => ?_) (fun h => ?_)) <;> try (exfalso; omega)) | (refine And.intro ?_ ?_; (focus (first | omega | (simp only [Eng.lo, Eng.hi, List.length_map] at *; omega) | (refine ⟨?_, ?_⟩ <;> first | rfl | omega | (simp only [Eng.lo, Eng.hi, List.length_map] at *; omega)) | (simp only [List.length_nil, List.length_map, List.length_take, List.length_drop, List.length_append, List.length_cons, List.length_nil]; omega)))) | refine And.intro ?_ ?_ | fail
  all_goals exact ⟨⟨rfl, rfl, rfl⟩⟩
end Go.Eng
