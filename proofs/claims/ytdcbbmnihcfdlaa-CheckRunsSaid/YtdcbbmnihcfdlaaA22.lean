/- Contracts of functions of the given program, and the plain laws that they lean on. -/
import Derived.Test.YtdcbbmnihcfdlaaA20
set_option linter.unusedVariables false
set_option linter.unusedSimpArgs false
set_option linter.unnecessarySimpa false
set_option linter.constructorNameAsVariable false
set_option linter.all false
set_option maxRecDepth 100000
namespace Go.Eng
/-! ### Trips one behind the other -/
def runS (run : List Trip) (i : Nat) (s : Seen) : Seen := ⟨s.key, (there run s.key (2 * (i : Int) + 1) 0).time, (there run s.key (2 * (i : Int) + 1) 0).cl, (there run s.key (2 * (i : Int) + 1) 0).val⟩
def runT (run : List Trip) (i : Nat) (t : Trip) : Trip := ⟨0, (i : Int) + 1, 2 * (i : Int) + 1, 0, t.reads.map (runS run i), t.writes, 1⟩
/-- What is run so far. -/
def isRun (ts R : List Trip) : Prop := R.length ≤ ts.length ∧ ∀ (j : Nat) (x : Trip), R[j]? = some x → ∃ t, ts[j]? = some t ∧ x = runT (R.take j) j t ∧ okTrip x = true
theorem isRun_snoc {ts R : List Trip} {t : Trip} (h : isRun ts R) (ht : ts[R.length]? = some t) (hk : okTrip (runT R R.length t) = true) : isRun ts (R ++ [runT R R.length t]) := by
  refine ⟨by have := lt_at ht; simp; omega, fun j x hx => ?_⟩
  have hl := lt_at hx
  simp only [List.length_append, List.length_singleton] at hl
  rcases Nat.lt_or_eq_of_le (Nat.le_of_lt_succ hl) with h1 | h1
  · rw [List.getElem?_append_left h1] at hx
    obtain ⟨t', h2, h3, h4⟩ := h.2 j x hx
    exact ⟨t', h2, by rw [List.take_append_of_le_length (by omega)]; exact h3, h4⟩
  · subst h1
    simp at hx
    subst hx
    exact ⟨t, ht, by simp, hk⟩
/-- Committed ones, by strictly rising times. -/
def rising (R : List Trip) : Prop := (∀ x ∈ R, x.out = 1) ∧ R.Pairwise ltT
theorem rising_sorted {R : List Trip} (h : rising R) : sortT (comm R) = R := by
  have e : comm R = R := List.filter_eq_self.2 fun x hx => by simp [h.1 x hx]
  rw [e]
  obtain ⟨p1, q1⟩ := sortT_both R
  refine List.Perm.eq_of_pairwise (le := upT) (fun x y hx hy h1 h2 => ?_) q1 (h.2.imp fun {a b} h => by unfold upT ltT at *; omega) p1
  have hx' := p1.mem_iff.1 hx
  refine Classical.byContradiction fun hne => ?_
  obtain ⟨i, hi, rfl⟩ := List.getElem_of_mem hx'
  obtain ⟨j, hj, rfl⟩ := List.getElem_of_mem hy
  have hpw := List.pairwise_iff_getElem.1 h.2
  rcases Nat.lt_trichotomy i j with hij | rfl | hij
  · exact h2 (hpw i j hi hj hij)
  · exact absurd rfl hne
  · exact h1 (hpw j i hj hi hij)
theorem rising_there {R : List Trip} (h : rising R) (key : ByteArray) (a c : Int) : there R key a c = R.foldl (step1 key a c) nobody := by
  unfold there
  rw [rising_sorted h]
theorem step1_late {key : ByteArray} {a c : Int} {st : At} {t : Trip} (h : ¬ (t.time < a ∨ t.time = a ∧ t.cl < c)) : step1 key a c st t = st := by
  unfold step1 ordr
  rw [if_neg]
  rw [if_neg h]
  split <;> omega
theorem fold_late {key : ByteArray} {a c : Int} : ∀ (l : List Trip) (st : At), (∀ t ∈ l, ¬ (t.time < a ∨ t.time = a ∧ t.cl < c)) → l.foldl (step1 key a c) st = st
  | [], st, _ => rfl
  | t :: l, st, h => by
    simp only [List.foldl_cons]
    rw [step1_late (h t List.mem_cons_self), fold_late l st fun t ht => h t (List.mem_cons_of_mem _ ht)]
theorem isRun_at {ts R : List Trip} (h : isRun ts R) {j : Nat} {x : Trip} (hx : R[j]? = some x) : x.txc = 0 ∧ x.txn = (j : Int) + 1 ∧ x.time = 2 * (j : Int) + 1 ∧ x.cl = 0 ∧ x.out = 1 ∧ okTrip x = true := by
  obtain ⟨t, _, rfl, h4⟩ := h.2 j x hx
  exact ⟨rfl, rfl, rfl, rfl, rfl, h4⟩
theorem isRun_rising {ts R : List Trip} (h : isRun ts R) : rising R := by
  refine ⟨fun x hx => ?_, ?_⟩
  · obtain ⟨j, hj⟩ := List.getElem?_of_mem hx
    exact (isRun_at h hj).2.2.2.2.1
  · rw [List.pairwise_iff_getElem]
    intro i j hi hj hij
    have h1 := (isRun_at h (List.getElem?_eq_getElem hi)).2.2.1
    have h2 := (isRun_at h (List.getElem?_eq_getElem hj)).2.2.1
    unfold ltT
    omega
theorem isRun_twice {ts R : List Trip} (h : isRun ts R) : twice R = false := by
  rw [twice_iff, List.pairwise_iff_getElem]
  intro i j hi hj hij
  have h1 := isRun_at h (List.getElem?_eq_getElem hi)
  have h2 := isRun_at h (List.getElem?_eq_getElem hj)
  refine ⟨fun e => ?_, fun _ _ e => ?_⟩
  · have := ((kN_iff _ _).1 e).2; omega
  · have := ((kT_iff _ _).1 e).1; omega
theorem rising_take {R : List Trip} (h : rising R) (j : Nat) : rising (R.take j) := ⟨fun x hx => h.1 x (List.mem_of_mem_take hx), h.2.sublist (List.take_sublist _ _)⟩
theorem isRun_there {ts R : List Trip} (h : isRun ts R) {j : Nat} (key : ByteArray) : there R key (2 * (j : Int) + 1) 0 = there (R.take j) key (2 * (j : Int) + 1) 0 := by
  have hr := isRun_rising h
  rw [rising_there hr, rising_there (rising_take hr j)]
  conv => lhs; rw [← List.take_append_drop j R, List.foldl_append]
  refine fold_late _ _ fun t ht => ?_
  obtain ⟨i, hi⟩ := List.getElem?_of_mem ht
  rw [List.getElem?_drop] at hi
  have h1 := isRun_at h hi
  push_cast at h1
  omega
theorem isRun_good {ts R : List Trip} (h : isRun ts R) {j : Nat} {x : Trip} (hx : R[j]? = some x) : ¬ badT R x := by
  rintro ⟨s, hs, _, hw⟩
  have h1 := isRun_at h hx
  obtain ⟨t, _, he, _⟩ := h.2 j x hx
  have hr : x.reads = t.reads.map (runS (R.take j) j) := by rw [he]; rfl
  rw [hr] at hs
  obtain ⟨s0, _, rfl⟩ := List.mem_map.1 hs
  rw [h1.2.2.1, h1.2.2.2.1, isRun_there h] at hw
  rcases hw with hw | hw
  · exact hw ⟨rfl, rfl⟩
  · exact hw rfl
theorem isRun_all {ts R : List Trip} (h : isRun ts R) : R.all okTrip = true := all_get fun j x hx => (isRun_at h hx).2.2.2.2.2
theorem isRun_check {ts R : List Trip} (h : isRun ts R) : check R = (-1, 0) := check_ok (isRun_all h) (isRun_twice h) fun _ _ hx => isRun_good h hx
/-- One that read a later version than was there. -/
def laterS (s : Seen) : Seen := { s with time := s.time + 1 }
def laterT (x : Trip) (s : Seen) (rest : List Seen) : Trip := { x with reads := laterS s :: rest }
theorem putAllW_time (t : Trip) (key : ByteArray) (st : At) : ∀ l : List Wr, (putAllW t key st l).time = st.time ∨ (putAllW t key st l).time = t.time := by
  intro l
  unfold putAllW
  induction l generalizing st with
  | nil => exact .inl rfl
  | cons w l ih =>
    simp only [List.foldl_cons]
    rcases ih (put1 t key st w) with h | h
    · rw [h]
      unfold put1
      split
      · exact .inr rfl
      · exact .inl rfl
    · exact .inr h
theorem fold_time {key : ByteArray} {a c : Int} : ∀ (l : List Trip) (st : At), (l.foldl (step1 key a c) st).time = st.time ∨ ∃ t ∈ l, (l.foldl (step1 key a c) st).time = t.time
  | [], st => .inl rfl
  | t :: l, st => by
    simp only [List.foldl_cons]
    rcases fold_time l (step1 key a c st t) with h | ⟨t', h1, h2⟩
    · rw [h]
      unfold step1
      split
      · rcases putAllW_time t key st t.writes with h3 | h3
        · exact .inl h3
        · exact .inr ⟨t, List.mem_cons_self, h3⟩
      · exact .inl rfl
    · exact .inr ⟨t', List.mem_cons_of_mem _ h1, h2⟩
theorem isRun_time {ts R : List Trip} (h : isRun ts R) (key : ByteArray) (a c : Int) : 0 ≤ (there R key a c).time ∧ (there R key a c).time ≤ 2 * (R.length : Int) := by
  rw [rising_there (isRun_rising h)]
  rcases fold_time R (key := key) (a := a) (c := c) nobody with h1 | ⟨t, h1, h2⟩
  · rw [h1]; simp [nobody]; omega
  · rw [h2]
    obtain ⟨j, hj⟩ := List.getElem?_of_mem h1
    have := isRun_at h hj
    have := lt_at hj
    omega
section
variable {ts R : List Trip} {k : Nat} {x : Trip} {s : Seen} {rest : List Seen} (h : isRun ts R) (hx : R[k]? = some x) (hr : x.reads = s :: rest) (hl : R.length ≤ 10)
include h hx hr hl
theorem later_s : s.time ≤ 20 ∧ 0 ≤ s.time ∧ (there R s.key x.time x.cl).time = s.time ∧ okSeen s = true := by
  have h1 := isRun_at h hx
  obtain ⟨t, _, he, _⟩ := h.2 k x hx
  have hr2 : x.reads = t.reads.map (runS (R.take k) k) := by rw [he]; rfl
  have hs : s ∈ x.reads := by rw [hr]; exact List.mem_cons_self
  have hok : okSeen s = true := by
    have := h1.2.2.2.2.2
    simp only [okTrip, Bool.and_eq_true] at this
    exact List.all_eq_true.1 this.1.1.1.2 s hs
  have hk := lt_at hx
  rw [hr2] at hs
  obtain ⟨s0, _, rfl⟩ := List.mem_map.1 hs
  have hb := isRun_time h s0.key (2 * (k : Int) + 1) 0
  have e : (runS (R.take k) k s0).time = (there R s0.key (2 * (k : Int) + 1) 0).time := by rw [isRun_there h]; rfl
  have e2 : (runS (R.take k) k s0).key = s0.key := rfl
  refine ⟨by rw [e]; omega, by rw [e]; omega, ?_, hok⟩
  rw [h1.2.2.1, h1.2.2.2.1, e, e2]
theorem later_check : check (R.set k (laterT x s rest)) = ((k : Int), 16) := by
  have hk := lt_at hx
  have hs := later_s h hx hr hl
  have h1 := isRun_at h hx
  have hget : ∀ (j : Nat), (R.set k (laterT x s rest))[j]? = if j = k then some (laterT x s rest) else R[j]? := by
    intro j
    rw [List.getElem?_set]
    by_cases hj : k = j
    · subst hj; simp [hk]
    · rw [if_neg hj, if_neg fun e => hj e.symm]
  have hokx : okTrip (laterT x s rest) = true := by
    have h2 := h1.2.2.2.2.2
    simp only [okTrip, laterT, hr, Bool.and_eq_true, List.all_cons, List.map_cons] at h2 ⊢
    refine ⟨⟨⟨⟨h2.1.1.1.1, ?_, h2.1.1.1.2.2⟩, h2.1.1.2⟩, h2.1.2⟩, h2.2⟩
    have h3 := hs.2.2.2
    simp only [okSeen, laterS, okStamp, Bool.and_eq_true, decide_eq_true_eq] at h3 ⊢
    exact ⟨decide_eq_true (by omega), decide_eq_true h3.2⟩
  have hall : (R.set k (laterT x s rest)).all okTrip = true := all_get fun j y hy => by
    rw [hget] at hy
    split at hy
    · cases hy; exact hokx
    · exact (isRun_at h hy).2.2.2.2.2
  have hname : ∀ (j : Nat) (y : Trip), (R.set k (laterT x s rest))[j]? = some y → y.txn = (j : Int) + 1 ∧ y.time = 2 * (j : Int) + 1 ∧ y.out = 1 := fun j y hy => by
    rw [hget] at hy
    split at hy
    · rename_i hj; subst hj; cases hy; exact ⟨h1.2.1, h1.2.2.1, h1.2.2.2.2.1⟩
    · have := isRun_at h hy; exact ⟨this.2.1, this.2.2.1, this.2.2.2.2.1⟩
  have htw : twice (R.set k (laterT x s rest)) = false := by
    rw [twice_iff, List.pairwise_iff_getElem]
    intro i j hi hj hij
    have a1 := hname i _ (List.getElem?_eq_getElem hi)
    have a2 := hname j _ (List.getElem?_eq_getElem hj)
    refine ⟨fun e => ?_, fun _ _ e => ?_⟩
    · have := ((kN_iff _ _).1 e).2; omega
    · have := ((kT_iff _ _).1 e).1; omega
  have hris : rising (R.set k (laterT x s rest)) := by
    refine ⟨fun y hy => ?_, ?_⟩
    · obtain ⟨j, hj⟩ := List.getElem?_of_mem hy
      exact (hname j y hj).2.2
    · rw [List.pairwise_iff_getElem]
      intro i j hi hj hij
      have a1 := hname i _ (List.getElem?_eq_getElem hi)
      have a2 := hname j _ (List.getElem?_eq_getElem hj)
      unfold ltT
      omega
  have hth : ∀ key a c, there (R.set k (laterT x s rest)) key a c = there R key a c := by
    intro key a c
    rw [rising_there hris, rising_there (isRun_rising h)]
    have e1 : R = R.take k ++ x :: R.drop (k + 1) := by
      conv => lhs; rw [← List.take_append_drop k R]
      congr 1
      rw [List.drop_eq_getElem_cons hk]
      congr 1
      rw [List.getElem?_eq_getElem hk] at hx; injection hx
    have e2 : R.set k (laterT x s rest) = R.take k ++ laterT x s rest :: R.drop (k + 1) := by
      rw [List.set_eq_take_append_cons_drop, if_pos hk]
    rw [e2]
    conv => rhs; rw [e1]
    simp only [List.foldl_append, List.foldl_cons]
    rfl
  refine check_wrong hall htw (t := laterT x s rest) (by rw [hget, if_pos rfl]) ⟨laterS s, List.mem_cons_self, h1.2.2.2.2.1, .inl fun hh => ?_⟩ fun j y hj hy hb => ?_
  · have e1 := hh.1
    rw [hth] at e1
    have e2 : (there R s.key x.time x.cl).time = s.time := hs.2.2.1
    have e3 : (there R (laterS s).key (laterT x s rest).time (laterT x s rest).cl).time = s.time := e2
    rw [e3] at e1
    simp only [laterS] at e1
    omega
  · rw [hget, if_neg (by omega)] at hy
    refine isRun_good h hy ?_
    obtain ⟨s', a1, a2, a3⟩ := hb
    rw [hth] at a3
    exact ⟨s', a1, a2, a3⟩
end
end Go.Eng
