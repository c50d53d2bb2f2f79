/- Contracts of functions of the given program, and the plain laws that they lean on. -/
import Derived.Test.YtdcbbmnihcfdlaaA4
set_option linter.unusedVariables false
set_option linter.unusedSimpArgs false
set_option linter.unnecessarySimpa false
set_option linter.constructorNameAsVariable false
set_option linter.all false
open Go.Proofs Go.Eng.Tab
namespace Go.Eng
set_option maxRecDepth 100000
set_option maxHeartbeats 4000000
attribute [local irreducible] SWP LWP CallOK Spec Gives Bd EqT
def kN (t : Trip) : Value := .agg [.int .i64 t.txc, .int .i64 t.txn].toArray
def kT (t : Trip) : Value := .agg [.int .i64 t.time, .int .i64 t.cl].toArray
def eN (t : Trip) : Value × SV := (kN t, I 1)
def eT (t : Trip) : Value × SV := (kT t, I 1)
def com (l : List Trip) : List Trip := l.filter fun t => t.out == 1
theorem mem_perm {α : Type} {x : α} {l : List α} (h : x ∈ l) : ∃ rest, l.Perm (x :: rest) := by
  obtain ⟨a, b, rfl⟩ := List.append_of_mem h
  exact ⟨a ++ b, List.perm_middle⟩
abbrev goodP : Value → Prop := fun v => ∃ us : List Value, v = .agg us.toArray ∧ LfVs [.i .i64, .i .i64] us
theorem goodP_mk (a b : Int) : goodP (.agg [.int .i64 a, .int .i64 b].toArray) := ⟨_, rfl, _, _, rfl, ⟨_, rfl⟩, _, _, rfl, ⟨_, rfl⟩, rfl⟩
theorem goodN (l : List Trip) : ∀ e ∈ l.map eN, goodP e.1 := by
  intro e he
  obtain ⟨t, _, rfl⟩ := List.mem_map.1 he
  exact goodP_mk _ _
theorem goodT (l : List Trip) : ∀ e ∈ l.map eT, goodP e.1 := by
  intro e he
  obtain ⟨t, _, rfl⟩ := List.mem_map.1 he
  exact goodP_mk _ _
def dup (l : List Trip) (t : Trip) : Prop := (∃ x ∈ l, kN x = kN t) ∨ (t.out = 1 ∧ ∃ x ∈ com l, kT x = kT t)
open Classical in
noncomputable def twice (ts : List Trip) : Bool := decide (∃ j t, ts[j]? = some t ∧ dup (ts.take j) t)
open Classical in
theorem twice_true {ts : List Trip} (h : ∃ j t, ts[j]? = some t ∧ dup (ts.take j) t) : true = twice ts := by
  unfold twice; rw [eq_comm, decide_eq_true_eq]; exact h
open Classical in
theorem twice_false {ts : List Trip} (h : ¬ ∃ j t, ts[j]? = some t ∧ dup (ts.take j) t) : false = twice ts := by
  unfold twice; rw [eq_comm, decide_eq_false_iff_not]; exact h
theorem hitN {l : List Trip} {t : Trip} (h : ∃ x ∈ l, kN x = kN t) : ∃ rest, (l.reverse.map eN).Perm ((kN t, I 1) :: rest) ∧ ∀ e ∈ rest, goodP e.1 := by
  obtain ⟨x, hx, e⟩ := h
  obtain ⟨rest, hp⟩ := mem_perm (x := eN x) (l := l.reverse.map eN) (List.mem_map.2 ⟨x, by simpa using hx, rfl⟩)
  have e2 : eN x = (kN t, I 1) := by simp [eN, e]
  rw [e2] at hp
  exact ⟨rest, hp, fun y hy => goodN _ y (hp.symm.subset (List.mem_cons_of_mem _ hy))⟩
theorem hitT {l : List Trip} {t : Trip} (h : ∃ x ∈ com l, kT x = kT t) : ∃ rest, ((com l).reverse.map eT).Perm ((kT t, I 1) :: rest) ∧ ∀ e ∈ rest, goodP e.1 := by
  obtain ⟨x, hx, e⟩ := h
  obtain ⟨rest, hp⟩ := mem_perm (x := eT x) (l := (com l).reverse.map eT) (List.mem_map.2 ⟨x, by simpa using hx, rfl⟩)
  have e2 : eT x = (kT t, I 1) := by simp [eT, e]
  rw [e2] at hp
  exact ⟨rest, hp, fun y hy => goodT _ y (hp.symm.subset (List.mem_cons_of_mem _ hy))⟩
theorem missN {l : List Trip} {t : Trip} (h : ¬ ∃ x ∈ l, kN x = kN t) : ∀ e ∈ l.reverse.map eN, e.1 ≠ kN t := by
  intro e he hk
  obtain ⟨x, hx, rfl⟩ := List.mem_map.1 he
  exact h ⟨x, by simpa using hx, hk⟩
theorem missT {l : List Trip} {t : Trip} (h : ¬ ∃ x ∈ com l, kT x = kT t) : ∀ e ∈ (com l).reverse.map eT, e.1 ≠ kT t := by
  intro e he hk
  obtain ⟨x, hx, rfl⟩ := List.mem_map.1 he
  exact h ⟨x, by simpa using hx, hk⟩
theorem good_cons {a b : Int} {s : SV} {r : List (Value × SV)} (h : ∀ e ∈ r, goodP e.1) : ∀ e ∈ ((Value.agg [.int .i64 a, .int .i64 b].toArray, s) :: r), goodP e.1 := by
  intro e he
  rcases List.mem_cons.1 he with rfl | he
  · exact goodP_mk _ _
  · exact h e he
theorem t29 (ts : List Trip) (hl : ts.length ≤ 1000) : Fun Try.prog 29 [.rd 7 (ts.map cTrip)] (B (twice ts)) := by
  refine Fun.walk pf29 rfl (Nat.le_of_ble_eq_true rfl) fun c hP hn hr => ?_
  obtain ⟨P_, n_, w0_, F_, Y_, r0_⟩ := c; subst hP; subst hn
  repeat' (conv => whnf); first | refine And.intro rfl ?_ | ((refine And.intro (?_ : (_ + _) * _ ≤ 140737488355328) ?_); (focus (simp only [List.length_nil, List.length_map, List.length_take, List.length_drop, List.length_append, List.length_cons, List.length_nil]; omega))) | refine And.intro (Nat.le_of_ble_eq_true rfl) ?_ | refine And.intro ⟨rfl, rfl⟩ ?_ | refine And.intro ⟨rfl, Nat.le_of_ble_eq_true rfl⟩ ?_ | refine And.intro ⟨rfl, rfl, Nat.le_of_ble_eq_true rfl⟩ ?_ | refine And.intro ⟨Nat.le_of_ble_eq_true rfl, Nat.le_of_ble_eq_true rfl, rfl, rfl, rfl⟩ ?_ | refine And.intro ⟨Nat.le_of_ble_eq_true rfl, rfl, rfl, rfl, Nat.le_of_ble_eq_true rfl, rfl⟩ ?_ | refine And.intro trivial ?_ | refine And.intro ⟨Nat.le_of_ble_eq_true rfl, Nat.le_of_ble_eq_true rfl, rfl, oneRows_map (fun _ => rfl) _, rfl⟩ ?_ | refine And.intro ⟨Nat.le_of_ble_eq_true rfl, Nat.le_of_ble_eq_true rfl, rfl, oneRows_dt (fun _ => rfl) _ _ _, rfl⟩ ?_ | refine region_ok (id := 5) (.qp 0 <| .qp 1 <| .qt 2 <| .two 3 5 true true (.qp 4 <| .one 5 true <| .qp 6 <| .one 7 true <| .done) (.qp 6 <| .one 3 true <| .qp 4 <| .one 7 true <| .done)) [3, 5, 7] mixed (by kernel_rfl) ?_ | refine region_ok (id := 7) (.qp 0 <| .qp 1 <| .qt 2 <| .two 3 5 true true (.qp 4 <| .one 5 true <| .qp 6 <| .one 7 true <| .done) (.qp 6 <| .one 3 true <| .qp 4 <| .one 7 true <| .done)) [3, 5, 7] mixed (by kernel_rfl) ?_ | refine SWP.go [] rfl ?_ | ((refine And.intro (fun h => ?_) (fun h => ?_)) <;> try (exfalso; omega)) | (refine And.intro ?_ ?_; (focus (first | omega | (simp only [Eng.lo, Eng.hi, List.length_map] at *; omega) | (refine ⟨?_, ?_⟩ <;> first | rfl | omega | (simp only [Eng.lo, Eng.hi, List.length_map] at *; omega)) | (simp only [List.length_nil, List.length_map, List.length_take, List.length_drop, List.length_append, List.length_cons, List.length_nil]; omega)))) | refine And.intro ?_ ?_ | fail
  conv => whnf
  refine SWP.loop (n0 := 0) [some 0, some 1] hr rfl (T' := [(11, I ((0:Nat):Int)), (10, I (ts.length : Int)), (9, .rd 7 (ts.map cTrip)), (2, B false), (3, .own 0), (4, .own 1)]) (O' := [(0, .mp ((ts.take 0).reverse.map eN)), (1, .mp ((com (ts.take 0)).reverse.map eT))]) ⟨⟨rfl, rfl, ⟨⟨[], List.Perm.refl _, rfl⟩, ⟨[], List.Perm.refl _, rfl⟩, trivial⟩, ?_⟩⟩ ?_
  · (repeat' (first | exact rfl | exact trivial | exact pureRows_map (fun _ => rfl) _ | (refine subRows_of ?_ (pureRows_map (fun _ => rfl) _); first | rfl | (simp; done)) | refine subRows_app _ _ _ (pureRows_map (fun _ => rfl) _) ?_ | (conv => whnf); first | refine And.intro ?_ ?_ | (simp only [List.length_map]; done) | (congr 1; omega) | (congr 1; simp; done) | fail))
  refine LWP.ind (fun i : Nat => ts.length - i) (fun _ => 2) (fun i => [(11, I (i:Int)), (10, I (ts.length : Int)), (9, .rd 7 (ts.map cTrip)), (2, B false), (3, .own 0), (4, .own 1)]) (fun i => [(0, .mp ((ts.take i).reverse.map eN)), (1, .mp ((com (ts.take i)).reverse.map eT))]) (fun i => i ≤ ts.length ∧ ∀ j t, j < i → ts[j]? = some t → ¬ dup (ts.take j) t) (fun i hi ih => ?_) 0 ⟨Nat.zero_le _, fun j t hj => absurd hj (Nat.not_lt_zero _)⟩
  rcases Nat.lt_or_ge i ts.length with hlt | hge
  · obtain ⟨t, ht⟩ : ∃ t, ts[i]? = some t := ⟨_, List.getElem?_eq_getElem hlt⟩
    have hrow : (ts.map cTrip)[((i:Nat):Int).toNat]? = some (cTrip t) := by rw [Int.toNat_natCast, List.getElem?_map, ht]; rfl
    have hdupN : (∃ x ∈ ts.take i, kN x = kN t) → true = twice ts := fun h => twice_true ⟨i, t, ht, .inl h⟩
    have hdupT : t.out = 1 → (∃ x ∈ com (ts.take i), kT x = kT t) → true = twice ts := fun h0 h => twice_true ⟨i, t, ht, .inr ⟨h0, h⟩⟩
    have htake : ts.take (i + 1) = ts.take i ++ [t] := by rw [List.take_succ, ht]; rfl
    have hnext : ¬ dup (ts.take i) t → ∀ j t', j < i + 1 → ts[j]? = some t' → ¬ dup (ts.take j) t' := fun hd j t' hj ht' => by
      rcases Nat.lt_or_eq_of_le (Nat.le_of_lt_succ hj) with h3 | rfl
      · exact hi.2 j t' h3 ht'
      · rw [ht] at ht'; cases ht'; exact hd
    have hrevN : (ts.take (i + 1)).reverse.map eN = (kN t, I 1) :: (ts.take i).reverse.map eN := by rw [htake]; simp [eN]
    have hrevT1 : t.out = 1 → (com (ts.take (i + 1))).reverse.map eT = (kT t, I 1) :: (com (ts.take i)).reverse.map eT := fun h => by rw [htake]; simp [com, h, eT]
    have hrevT0 : ¬ t.out = 1 → (com (ts.take (i + 1))).reverse.map eT = (com (ts.take i)).reverse.map eT := fun h => by rw [htake]; simp [com, h]
    by_cases hN : ∃ x ∈ ts.take i, kN x = kN t
    · obtain ⟨rN, hpN, hgN⟩ := hitN hN
      by_cases hT : ∃ x ∈ com (ts.take i), kT x = kT t
      · obtain ⟨rT, hpT, hgT⟩ := hitT hT
        repeat' (conv => whnf); first | refine And.intro rfl ?_ | ((refine And.intro (?_ : (_ + _) * _ ≤ 140737488355328) ?_); (focus (simp only [List.length_nil, List.length_map, List.length_take, List.length_drop, List.length_append, List.length_cons, List.length_nil]; omega))) | refine And.intro (Nat.le_of_ble_eq_true rfl) ?_ | refine And.intro ⟨rfl, rfl⟩ ?_ | refine And.intro ⟨rfl, Nat.le_of_ble_eq_true rfl⟩ ?_ | refine And.intro ⟨rfl, rfl, Nat.le_of_ble_eq_true rfl⟩ ?_ | refine And.intro ⟨Nat.le_of_ble_eq_true rfl, Nat.le_of_ble_eq_true rfl, rfl, rfl, rfl⟩ ?_ | refine And.intro ⟨Nat.le_of_ble_eq_true rfl, rfl, rfl, rfl, Nat.le_of_ble_eq_true rfl, rfl⟩ ?_ | refine And.intro trivial ?_ | refine And.intro ⟨Nat.le_of_ble_eq_true rfl, Nat.le_of_ble_eq_true rfl, rfl, oneRows_map (fun _ => rfl) _, rfl⟩ ?_ | refine And.intro ⟨Nat.le_of_ble_eq_true rfl, Nat.le_of_ble_eq_true rfl, rfl, oneRows_dt (fun _ => rfl) _ _ _, rfl⟩ ?_ | refine region_ok (id := 5) (.qp 0 <| .qp 1 <| .qt 2 <| .two 3 5 true true (.qp 4 <| .one 5 true <| .qp 6 <| .one 7 true <| .done) (.qp 6 <| .one 3 true <| .qp 4 <| .one 7 true <| .done)) [3, 5, 7] mixed (by kernel_rfl) ?_ | refine region_ok (id := 7) (.qp 0 <| .qp 1 <| .qt 2 <| .two 3 5 true true (.qp 4 <| .one 5 true <| .qp 6 <| .one 7 true <| .done) (.qp 6 <| .one 3 true <| .qp 4 <| .one 7 true <| .done)) [3, 5, 7] mixed (by kernel_rfl) ?_ | refine SWP.go [] rfl ?_ | refine Exists.intro _ (And.intro hrow ?_) | refine ⟨_, ⟨key29, goodP_mk _ _, goodN _⟩, Or.inl ⟨_, _, hpN, ?_⟩⟩ | refine ⟨_, ⟨key29, goodP_mk _ _, good_cons hgN⟩, Or.inl ⟨_, _, List.Perm.refl _, ?_⟩⟩ | refine ⟨_, ⟨key31, goodP_mk _ _, goodT _⟩, Or.inl ⟨_, _, hpT, ?_⟩⟩ | refine ⟨_, ⟨key31, goodP_mk _ _, good_cons hgT⟩, Or.inl ⟨_, _, List.Perm.refl _, ?_⟩⟩ | refine fun (n : Nat) => ?_ | refine LWP.next (ih (i+1) ?_) [some 0, some 1] hr rfl ?_ | refine Gives.pure rfl ?_ | ((refine And.intro (fun h => ?_) (fun h => ?_)) <;> try (exfalso; omega)) | (refine And.intro ?_ ?_; (focus (first | omega | (simp only [Eng.lo, Eng.hi, List.length_map] at *; omega) | (refine ⟨?_, ?_⟩ <;> first | rfl | omega | (simp only [Eng.lo, Eng.hi, List.length_map] at *; omega)) | (simp only [List.length_nil, List.length_map, List.length_take, List.length_drop, List.length_append, List.length_cons, List.length_nil]; omega)))) | refine And.intro ?_ ?_ | fail
        all_goals exact ⟨congrArg B (hdupN hN), rfl, rfl⟩
      · have hmT := missT hT
        repeat' (conv => whnf); first | refine And.intro rfl ?_ | ((refine And.intro (?_ : (_ + _) * _ ≤ 140737488355328) ?_); (focus (simp only [List.length_nil, List.length_map, List.length_take, List.length_drop, List.length_append, List.length_cons, List.length_nil]; omega))) | refine And.intro (Nat.le_of_ble_eq_true rfl) ?_ | refine And.intro ⟨rfl, rfl⟩ ?_ | refine And.intro ⟨rfl, Nat.le_of_ble_eq_true rfl⟩ ?_ | refine And.intro ⟨rfl, rfl, Nat.le_of_ble_eq_true rfl⟩ ?_ | refine And.intro ⟨Nat.le_of_ble_eq_true rfl, Nat.le_of_ble_eq_true rfl, rfl, rfl, rfl⟩ ?_ | refine And.intro ⟨Nat.le_of_ble_eq_true rfl, rfl, rfl, rfl, Nat.le_of_ble_eq_true rfl, rfl⟩ ?_ | refine And.intro trivial ?_ | refine And.intro ⟨Nat.le_of_ble_eq_true rfl, Nat.le_of_ble_eq_true rfl, rfl, oneRows_map (fun _ => rfl) _, rfl⟩ ?_ | refine And.intro ⟨Nat.le_of_ble_eq_true rfl, Nat.le_of_ble_eq_true rfl, rfl, oneRows_dt (fun _ => rfl) _ _ _, rfl⟩ ?_ | refine region_ok (id := 5) (.qp 0 <| .qp 1 <| .qt 2 <| .two 3 5 true true (.qp 4 <| .one 5 true <| .qp 6 <| .one 7 true <| .done) (.qp 6 <| .one 3 true <| .qp 4 <| .one 7 true <| .done)) [3, 5, 7] mixed (by kernel_rfl) ?_ | refine region_ok (id := 7) (.qp 0 <| .qp 1 <| .qt 2 <| .two 3 5 true true (.qp 4 <| .one 5 true <| .qp 6 <| .one 7 true <| .done) (.qp 6 <| .one 3 true <| .qp 4 <| .one 7 true <| .done)) [3, 5, 7] mixed (by kernel_rfl) ?_ | refine SWP.go [] rfl ?_ | refine Exists.intro _ (And.intro hrow ?_) | refine ⟨_, ⟨key29, goodP_mk _ _, goodN _⟩, Or.inl ⟨_, _, hpN, ?_⟩⟩ | refine ⟨_, ⟨key29, goodP_mk _ _, good_cons hgN⟩, Or.inl ⟨_, _, List.Perm.refl _, ?_⟩⟩ | refine ⟨_, ⟨key31, goodP_mk _ _, goodT _⟩, Or.inr ⟨hmT, ?_⟩⟩ | refine ⟨_, ⟨key31, goodP_mk _ _, good_cons (goodT _)⟩, Or.inl ⟨_, _, List.Perm.refl _, ?_⟩⟩ | refine fun (n : Nat) => ?_ | refine LWP.next (ih (i+1) ?_) [some 0, some 1] hr rfl ?_ | refine Gives.pure rfl ?_ | ((refine And.intro (fun h => ?_) (fun h => ?_)) <;> try (exfalso; omega)) | (refine And.intro ?_ ?_; (focus (first | omega | (simp only [Eng.lo, Eng.hi, List.length_map] at *; omega) | (refine ⟨?_, ?_⟩ <;> first | rfl | omega | (simp only [Eng.lo, Eng.hi, List.length_map] at *; omega)) | (simp only [List.length_nil, List.length_map, List.length_take, List.length_drop, List.length_append, List.length_cons, List.length_nil]; omega)))) | refine And.intro ?_ ?_ | fail
        all_goals exact ⟨congrArg B (hdupN hN), rfl, rfl⟩
    · have hmN := missN hN
      by_cases hT : ∃ x ∈ com (ts.take i), kT x = kT t
      · obtain ⟨rT, hpT, hgT⟩ := hitT hT
        repeat' (conv => whnf); first | refine And.intro rfl ?_ | ((refine And.intro (?_ : (_ + _) * _ ≤ 140737488355328) ?_); (focus (simp only [List.length_nil, List.length_map, List.length_take, List.length_drop, List.length_append, List.length_cons, List.length_nil]; omega))) | refine And.intro (Nat.le_of_ble_eq_true rfl) ?_ | refine And.intro ⟨rfl, rfl⟩ ?_ | refine And.intro ⟨rfl, Nat.le_of_ble_eq_true rfl⟩ ?_ | refine And.intro ⟨rfl, rfl, Nat.le_of_ble_eq_true rfl⟩ ?_ | refine And.intro ⟨Nat.le_of_ble_eq_true rfl, Nat.le_of_ble_eq_true rfl, rfl, rfl, rfl⟩ ?_ | refine And.intro ⟨Nat.le_of_ble_eq_true rfl, rfl, rfl, rfl, Nat.le_of_ble_eq_true rfl, rfl⟩ ?_ | refine And.intro trivial ?_ | refine And.intro ⟨Nat.le_of_ble_eq_true rfl, Nat.le_of_ble_eq_true rfl, rfl, oneRows_map (fun _ => rfl) _, rfl⟩ ?_ | refine And.intro ⟨Nat.le_of_ble_eq_true rfl, Nat.le_of_ble_eq_true rfl, rfl, oneRows_dt (fun _ => rfl) _ _ _, rfl⟩ ?_ | refine region_ok (id := 5) (.qp 0 <| .qp 1 <| .qt 2 <| .two 3 5 true true (.qp 4 <| .one 5 true <| .qp 6 <| .one 7 true <| .done) (.qp 6 <| .one 3 true <| .qp 4 <| .one 7 true <| .done)) [3, 5, 7] mixed (by kernel_rfl) ?_ | refine region_ok (id := 7) (.qp 0 <| .qp 1 <| .qt 2 <| .two 3 5 true true (.qp 4 <| .one 5 true <| .qp 6 <| .one 7 true <| .done) (.qp 6 <| .one 3 true <| .qp 4 <| .one 7 true <| .done)) [3, 5, 7] mixed (by kernel_rfl) ?_ | refine SWP.go [] rfl ?_ | refine Exists.intro _ (And.intro hrow ?_) | refine ⟨_, ⟨key29, goodP_mk _ _, goodN _⟩, Or.inr ⟨hmN, ?_⟩⟩ | refine ⟨_, ⟨key29, goodP_mk _ _, good_cons (goodN _)⟩, Or.inl ⟨_, _, List.Perm.refl _, ?_⟩⟩ | refine ⟨_, ⟨key31, goodP_mk _ _, goodT _⟩, Or.inl ⟨_, _, hpT, ?_⟩⟩ | refine ⟨_, ⟨key31, goodP_mk _ _, good_cons hgT⟩, Or.inl ⟨_, _, List.Perm.refl _, ?_⟩⟩ | refine fun (n : Nat) => ?_ | refine LWP.next (ih (i+1) ?_) [some 0, some 1] hr rfl ?_ | refine Gives.pure rfl ?_ | ((refine And.intro (fun h => ?_) (fun h => ?_)) <;> try (exfalso; omega)) | (refine And.intro ?_ ?_; (focus (first | omega | (simp only [Eng.lo, Eng.hi, List.length_map] at *; omega) | (refine ⟨?_, ?_⟩ <;> first | rfl | omega | (simp only [Eng.lo, Eng.hi, List.length_map] at *; omega)) | (simp only [List.length_nil, List.length_map, List.length_take, List.length_drop, List.length_append, List.length_cons, List.length_nil]; omega)))) | refine And.intro ?_ ?_ | fail
        all_goals constructor
        all_goals first
          | exact ⟨congrArg B (hdupT (by assumption) hT), rfl, rfl⟩
          | exact ⟨by omega, by omega, hnext fun hd => hd.elim hN fun h2 => absurd h2.1 (by assumption)⟩
          | exact ⟨by omega, by omega, hnext fun hd => hd.elim hN fun h2 => hT h2.2⟩
          | (refine ⟨rfl, rfl, ⟨osub_mp (List.Perm.of_eq hrevN.symm) (pureE_map (fun _ => rfl) _), osub_mp (by first | exact List.Perm.of_eq (hrevT1 (by assumption)).symm | exact List.Perm.of_eq (hrevT0 (by assumption)).symm) (pureE_map (fun _ => rfl) _), trivial⟩, ?_⟩; (repeat' (first | exact rfl | exact trivial | exact pureRows_map (fun _ => rfl) _ | (refine subRows_of ?_ (pureRows_map (fun _ => rfl) _); first | rfl | (simp; done)) | refine subRows_app _ _ _ (pureRows_map (fun _ => rfl) _) ?_ | (conv => whnf); first | refine And.intro ?_ ?_ | (simp only [List.length_map]; done) | (congr 1; omega) | (congr 1; simp; done) | fail)); done)
      · have hmT := missT hT
        repeat' (conv => whnf); first | refine And.intro rfl ?_ | ((refine And.intro (?_ : (_ + _) * _ ≤ 140737488355328) ?_); (focus (simp only [List.length_nil, List.length_map, List.length_take, List.length_drop, List.length_append, List.length_cons, List.length_nil]; omega))) | refine And.intro (Nat.le_of_ble_eq_true rfl) ?_ | refine And.intro ⟨rfl, rfl⟩ ?_ | refine And.intro ⟨rfl, Nat.le_of_ble_eq_true rfl⟩ ?_ | refine And.intro ⟨rfl, rfl, Nat.le_of_ble_eq_true rfl⟩ ?_ | refine And.intro ⟨Nat.le_of_ble_eq_true rfl, Nat.le_of_ble_eq_true rfl, rfl, rfl, rfl⟩ ?_ | refine And.intro ⟨Nat.le_of_ble_eq_true rfl, rfl, rfl, rfl, Nat.le_of_ble_eq_true rfl, rfl⟩ ?_ | refine And.intro trivial ?_ | refine And.intro ⟨Nat.le_of_ble_eq_true rfl, Nat.le_of_ble_eq_true rfl, rfl, oneRows_map (fun _ => rfl) _, rfl⟩ ?_ | refine And.intro ⟨Nat.le_of_ble_eq_true rfl, Nat.le_of_ble_eq_true rfl, rfl, oneRows_dt (fun _ => rfl) _ _ _, rfl⟩ ?_ | refine region_ok (id := 5) (.qp 0 <| .qp 1 <| .qt 2 <| .two 3 5 true true (.qp 4 <| .one 5 true <| .qp 6 <| .one 7 true <| .done) (.qp 6 <| .one 3 true <| .qp 4 <| .one 7 true <| .done)) [3, 5, 7] mixed (by kernel_rfl) ?_ | refine region_ok (id := 7) (.qp 0 <| .qp 1 <| .qt 2 <| .two 3 5 true true (.qp 4 <| .one 5 true <| .qp 6 <| .one 7 true <| .done) (.qp 6 <| .one 3 true <| .qp 4 <| .one 7 true <| .done)) [3, 5, 7] mixed (by kernel_rfl) ?_ | refine SWP.go [] rfl ?_ | refine Exists.intro _ (And.intro hrow ?_) | refine ⟨_, ⟨key29, goodP_mk _ _, goodN _⟩, Or.inr ⟨hmN, ?_⟩⟩ | refine ⟨_, ⟨key29, goodP_mk _ _, good_cons (goodN _)⟩, Or.inl ⟨_, _, List.Perm.refl _, ?_⟩⟩ | refine ⟨_, ⟨key31, goodP_mk _ _, goodT _⟩, Or.inr ⟨hmT, ?_⟩⟩ | refine ⟨_, ⟨key31, goodP_mk _ _, good_cons (goodT _)⟩, Or.inl ⟨_, _, List.Perm.refl _, ?_⟩⟩ | refine fun (n : Nat) => ?_ | refine LWP.next (ih (i+1) ?_) [some 0, some 1] hr rfl ?_ | refine Gives.pure rfl ?_ | ((refine And.intro (fun h => ?_) (fun h => ?_)) <;> try (exfalso; omega)) | (refine And.intro ?_ ?_; (focus (first | omega | (simp only [Eng.lo, Eng.hi, List.length_map] at *; omega) | (refine ⟨?_, ?_⟩ <;> first | rfl | omega | (simp only [Eng.lo, Eng.hi, List.length_map] at *; omega)) | (simp only [List.length_nil, List.length_map, List.length_take, List.length_drop, List.length_append, List.length_cons, List.length_nil]; omega)))) | refine And.intro ?_ ?_ | fail
        all_goals constructor
        all_goals first
          | exact ⟨congrArg B (hdupT (by assumption) hT), rfl, rfl⟩
          | exact ⟨by omega, by omega, hnext fun hd => hd.elim hN fun h2 => absurd h2.1 (by assumption)⟩
          | exact ⟨by omega, by omega, hnext fun hd => hd.elim hN fun h2 => hT h2.2⟩
          | (refine ⟨rfl, rfl, ⟨osub_mp (List.Perm.of_eq hrevN.symm) (pureE_map (fun _ => rfl) _), osub_mp (by first | exact List.Perm.of_eq (hrevT1 (by assumption)).symm | exact List.Perm.of_eq (hrevT0 (by assumption)).symm) (pureE_map (fun _ => rfl) _), trivial⟩, ?_⟩; (repeat' (first | exact rfl | exact trivial | exact pureRows_map (fun _ => rfl) _ | (refine subRows_of ?_ (pureRows_map (fun _ => rfl) _); first | rfl | (simp; done)) | refine subRows_app _ _ _ (pureRows_map (fun _ => rfl) _) ?_ | (conv => whnf); first | refine And.intro ?_ ?_ | (simp only [List.length_map]; done) | (congr 1; omega) | (congr 1; simp; done) | fail)); done)
  · repeat' (conv => whnf); first | refine And.intro rfl ?_ | ((refine And.intro (?_ : (_ + _) * _ ≤ 140737488355328) ?_); (focus (simp only [List.length_nil, List.length_map, List.length_take, List.length_drop, List.length_append, List.length_cons, List.length_nil]; omega))) | refine And.intro (Nat.le_of_ble_eq_true rfl) ?_ | refine And.intro ⟨rfl, rfl⟩ ?_ | refine And.intro ⟨rfl, Nat.le_of_ble_eq_true rfl⟩ ?_ | refine And.intro ⟨rfl, rfl, Nat.le_of_ble_eq_true rfl⟩ ?_ | refine And.intro ⟨Nat.le_of_ble_eq_true rfl, Nat.le_of_ble_eq_true rfl, rfl, rfl, rfl⟩ ?_ | refine And.intro ⟨Nat.le_of_ble_eq_true rfl, rfl, rfl, rfl, Nat.le_of_ble_eq_true rfl, rfl⟩ ?_ | refine And.intro trivial ?_ | refine And.intro ⟨Nat.le_of_ble_eq_true rfl, Nat.le_of_ble_eq_true rfl, rfl, oneRows_map (fun _ => rfl) _, rfl⟩ ?_ | refine And.intro ⟨Nat.le_of_ble_eq_true rfl, Nat.le_of_ble_eq_true rfl, rfl, oneRows_dt (fun _ => rfl) _ _ _, rfl⟩ ?_ | refine region_ok (id := 5) (.qp 0 <| .qp 1 <| .qt 2 <| .two 3 5 true true (.qp 4 <| .one 5 true <| .qp 6 <| .one 7 true <| .done) (.qp 6 <| .one 3 true <| .qp 4 <| .one 7 true <| .done)) [3, 5, 7] mixed (by kernel_rfl) ?_ | refine region_ok (id := 7) (.qp 0 <| .qp 1 <| .qt 2 <| .two 3 5 true true (.qp 4 <| .one 5 true <| .qp 6 <| .one 7 true <| .done) (.qp 6 <| .one 3 true <| .qp 4 <| .one 7 true <| .done)) [3, 5, 7] mixed (by kernel_rfl) ?_ | refine SWP.go [] rfl ?_ | refine Gives.pure rfl ?_ | ((refine And.intro (fun h => ?_) (fun h => ?_)) <;> try (exfalso; omega)) | (refine And.intro ?_ ?_; (focus (first | omega | (simp only [Eng.lo, Eng.hi, List.length_map] at *; omega) | (refine ⟨?_, ?_⟩ <;> first | rfl | omega | (simp only [Eng.lo, Eng.hi, List.length_map] at *; omega)) | (simp only [List.length_nil, List.length_map, List.length_take, List.length_drop, List.length_append, List.length_cons, List.length_nil]; omega)))) | refine And.intro ?_ ?_ | fail
    refine ⟨⟨congrArg B (twice_false fun hd => ?_), rfl, rfl⟩⟩
    obtain ⟨j, t, h1, h2⟩ := hd
    exact hi.2 j t (by have := (List.getElem?_eq_some_iff.1 h1).1; omega) h1 h2
end Go.Eng
