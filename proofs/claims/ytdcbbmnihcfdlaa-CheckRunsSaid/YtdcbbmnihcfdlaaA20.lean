/- Contracts of functions of the given program, and the plain laws that they lean on. -/
import Derived.Test.YtdcbbmnihcfdlaaA19
set_option linter.unusedVariables false
set_option linter.unusedSimpArgs false
set_option linter.unnecessarySimpa false
set_option linter.constructorNameAsVariable false
set_option linter.all false
open Go.Proofs Go.Eng.Tab
namespace Go.Eng
set_option maxRecDepth 100000
set_option maxHeartbeats 4000000
/-! ### One more trip that was not committed -/
theorem check_cases (ts : List Trip) : (∃ (i : Nat) (t : Trip), ts[i]? = some t ∧ okTrip t = false) ∨ (ts.all okTrip = true ∧ twice ts = true) ∨
    (ts.all okTrip = true ∧ twice ts = false ∧ ∃ (i : Nat) (t : Trip), ts[i]? = some t ∧ badT ts t ∧ ∀ (j : Nat) (t : Trip), j < i → ts[j]? = some t → ¬ badT ts t) ∨
    (ts.all okTrip = true ∧ twice ts = false ∧ ∀ (j : Nat) (t : Trip), ts[j]? = some t → ¬ badT ts t) := by
  by_cases h1 : ts.all okTrip = true
  · right
    by_cases h2 : twice ts = true
    · exact .inl ⟨h1, h2⟩
    · right
      have h2' : twice ts = false := by simpa using h2
      by_cases h3 : ∃ (j : Nat) (t : Trip), ts[j]? = some t ∧ badT ts t
      · left
        refine ⟨h1, h2', ?_⟩
        let q : Nat → Prop := fun i => ∃ t, ts[i]? = some t ∧ badT ts t
        obtain ⟨i, ⟨t, ht, hb⟩, hmin⟩ : ∃ i, q i ∧ ∀ j, j < i → ¬ q j := by
          obtain ⟨n, hn⟩ := h3
          induction n using Nat.strongRecOn with
          | _ n ih =>
            by_cases hh : ∃ j, j < n ∧ q j
            · obtain ⟨j, hj, hq⟩ := hh
              exact ih j hj hq
            · exact ⟨n, hn, fun j hj hq => hh ⟨j, hj, hq⟩⟩
        exact ⟨i, t, ht, hb, fun j t hj ht' hb' => hmin j hj ⟨t, ht', hb'⟩⟩
      · exact .inr ⟨h1, h2', fun j t ht hb => h3 ⟨j, t, ht, hb⟩⟩
  · left
    have : ∃ t ∈ ts, okTrip t = false := by
      refine Classical.byContradiction fun hn => h1 (List.all_eq_true.2 fun t ht => ?_)
      cases hh : okTrip t
      · exact absurd ⟨t, ht, hh⟩ hn
      · rfl
    obtain ⟨t, ht, hb⟩ := this
    obtain ⟨i, hi⟩ := List.getElem?_of_mem ht
    exact ⟨i, t, hi, hb⟩
theorem check_bounds (ts : List Trip) : -1 ≤ (check ts).1 ∧ (check ts).1 < (ts.length : Int) + 1 := by
  rcases check_cases ts with ⟨i, t, h1, h2⟩ | ⟨h1, h2⟩ | ⟨h1, h2, i, t, h3, h4, h5⟩ | ⟨h1, h2, h3⟩
  · rw [check_arg h1 h2]; simp; omega
  · rw [check_there h1 h2]; simp; omega
  · rw [check_wrong h1 h2 h3 h4 h5]; have := lt_at h3; simp; omega
  · rw [check_ok h1 h2 h3]; simp; omega
section
variable {ts : List Trip} {t : Trip} {k : Nat} (hk : k ≤ ts.length) (ht : okTrip t = true) (ho : t.out ≠ 1) (hn : ∀ o ∈ ts, kN o ≠ kN t)
include hk ho hn
theorem more_perm : (ts.take k ++ t :: ts.drop k).Perm (t :: ts) := by
  have := List.perm_middle (a := t) (l₁ := ts.take k) (l₂ := ts.drop k)
  rwa [List.take_append_drop] at this
theorem more_twice : twice (ts.take k ++ t :: ts.drop k) = twice ts := by
  rw [twice_perm (more_perm hk ho hn)]
  have : twice (t :: ts) = false ↔ twice ts = false := by
    rw [twice_iff, twice_iff, List.pairwise_cons]
    exact ⟨fun h => h.2, fun h => ⟨fun o hm => ⟨fun e => hn o hm e.symm, fun h1 => absurd h1 ho⟩, h⟩⟩
  cases h1 : twice (t :: ts) <;> cases h2 : twice ts <;> simp_all
omit hk hn in
theorem more_comm : comm (ts.take k ++ t :: ts.drop k) = comm ts := by
  have e : comm ts = comm (ts.take k ++ ts.drop k) := by rw [List.take_append_drop]
  rw [e]
  have : (t.out == 1) = false := by simpa using ho
  simp only [comm, List.filter_append, List.filter_cons, this, Bool.false_eq_true, if_false]
omit hk hn in
theorem more_there (key : ByteArray) (a c : Int) : there (ts.take k ++ t :: ts.drop k) key a c = there ts key a c := by
  unfold there
  rw [more_comm ho]
omit hk hn in
theorem more_bad (x : Trip) : badT (ts.take k ++ t :: ts.drop k) x ↔ badT ts x := by
  unfold badT wrong
  simp only [more_there ho]
omit hn ho in
theorem more_get (j : Nat) : (ts.take k ++ t :: ts.drop k)[j]? = if j < k then ts[j]? else if j = k then some t else ts[j - 1]? := by
  have hl : (ts.take k).length = k := by rw [List.length_take]; omega
  rw [List.getElem?_append, hl]
  split
  · rename_i h; rw [List.getElem?_take, if_pos h]
  · rename_i h
    split
    · rename_i h2; subst h2; simp
    · rename_i h2
      rw [show j - k = (j - 1 - k) + 1 from by omega, List.getElem?_cons_succ, List.getElem?_drop]
      congr 1; omega
include ht in
theorem check_more : check (ts.take k ++ t :: ts.drop k) = (if (k : Int) ≤ (check ts).1 then (check ts).1 + 1 else (check ts).1, (check ts).2) := by
  have hall : (ts.take k ++ t :: ts.drop k).all okTrip = ts.all okTrip := by
    rw [Bool.eq_iff_iff, List.all_eq_true, List.all_eq_true]
    have hp := more_perm (t := t) hk ho hn
    refine ⟨fun h x hx => h x (hp.mem_iff.2 (List.mem_cons_of_mem _ hx)), fun h x hx => ?_⟩
    rcases List.mem_cons.1 (hp.mem_iff.1 hx) with rfl | hx
    · exact ht
    · exact h x hx
  have htw := more_twice hk ho hn
  have hnb : ¬ badT ts t := fun ⟨_, _, h, _⟩ => ho h
  rcases check_cases ts with ⟨i, x, h1, h2⟩ | ⟨h1, h2⟩ | ⟨h1, h2, i, x, h3, h4, h5⟩ | ⟨h1, h2, h3⟩
  · obtain ⟨j, hj⟩ := List.getElem?_of_mem ((more_perm (t := t) hk ho hn).mem_iff.2 (List.mem_cons_of_mem _ (List.mem_of_getElem? h1)))
    rw [check_arg hj h2, check_arg h1 h2, if_neg (by simp; omega)]
  · rw [check_there (hall.trans h1) (htw.trans h2), check_there h1 h2, if_neg (by simp; omega)]
  · rw [check_wrong h1 h2 h3 h4 h5]
    by_cases hik : i < k
    · rw [if_neg (by simp; omega)]
      refine check_wrong (hall.trans h1) (htw.trans h2) (t := x) (by rw [more_get hk, if_pos hik]; exact h3) ((more_bad ho x).2 h4) fun j y hj hy hb => ?_
      rw [more_get hk, if_pos (by omega)] at hy
      exact h5 j y hj hy ((more_bad ho y).1 hb)
    · rw [if_pos (by simp; omega)]
      have := check_wrong (hall.trans h1) (htw.trans h2) (i := i + 1) (t := x) (by rw [more_get hk, if_neg (by omega), if_neg (by omega)]; exact h3) ((more_bad ho x).2 h4) fun j y hj hy hb => ?_
      · rw [this]; rfl
      · have hb' := (more_bad ho y).1 hb
        rw [more_get hk] at hy
        split at hy
        · exact h5 j y (by omega) hy hb'
        · split at hy
          · cases hy; exact hnb hb'
          · exact h5 (j - 1) y (by omega) hy hb'
  · rw [check_ok h1 h2 h3, if_neg (by simp; omega)]
    refine check_ok (hall.trans h1) (htw.trans h2) fun j y hy hb => ?_
    have hb' := (more_bad ho y).1 hb
    rw [more_get hk] at hy
    split at hy
    · exact h3 j y hy hb'
    · split at hy
      · cases hy; exact hnb hb'
      · exact h3 (j - 1) y hy hb'
end
end Go.Eng
