/- Contracts of functions of the given program, and the plain laws that they lean on. -/
import Derived.Test.YtdcbbmnihcfdlaaA17
set_option linter.unusedVariables false
set_option linter.unusedSimpArgs false
set_option linter.unnecessarySimpa false
set_option linter.constructorNameAsVariable false
set_option linter.all false
set_option maxRecDepth 100000
namespace Go.Eng
/-! ### Plain laws of 'check' -/
def ltT (x y : Trip) : Prop := x.time < y.time ∨ x.time = y.time ∧ x.cl < y.cl
theorem lessT_iff (x y : Trip) : lessT x y = true ↔ ltT x y := by
  unfold lessT ltT ordr
  rw [decide_eq_true_eq]
  split
  · constructor <;> intro h <;> omega
  · split <;> constructor <;> intro h <;> omega
theorem kT_iff (x y : Trip) : kT x = kT y ↔ x.time = y.time ∧ x.cl = y.cl := by
  unfold kT; simp
theorem kN_iff (x y : Trip) : kN x = kN y ↔ x.txc = y.txc ∧ x.txn = y.txn := by
  unfold kN; simp
/-- As the insertion leaves them: nobody behind is less. -/
def upT (x y : Trip) : Prop := ¬ ltT y x
theorem insR_perm : ∀ (p : List Trip) (x : Trip) (mid : List Trip), (insR p x mid).Perm (p.reverse ++ x :: mid)
  | [], x, mid => by simp [insR]
  | y :: p, x, mid => by
    unfold insR
    split
    · refine (insR_perm p x (y :: mid)).trans ?_
      simp only [List.reverse_cons, List.append_assoc, List.singleton_append]
      exact List.Perm.append_left _ (List.Perm.swap _ _ _)
    · exact List.Perm.refl _
theorem insR_up : ∀ (p : List Trip) (x : Trip) (mid : List Trip), (p.reverse ++ mid).Pairwise upT → (∀ y ∈ mid, ltT x y) → (insR p x mid).Pairwise upT
  | [], x, mid, h, hm => by
    simp only [insR]
    refine List.pairwise_cons.2 ⟨fun y hy => ?_, by simpa using h⟩
    have := hm y hy
    unfold upT ltT at *; omega
  | y :: p, x, mid, h, hm => by
    simp only [List.reverse_cons, List.append_assoc, List.singleton_append] at h
    unfold insR
    split
    · rename_i hl
      refine insR_up p x (y :: mid) h fun z hz => ?_
      rcases List.mem_cons.1 hz with rfl | hz
      · exact (lessT_iff _ _).1 hl
      · exact hm z hz
    · rename_i hl
      have hl' : ¬ ltT x y := fun hh => hl ((lessT_iff _ _).2 hh)
      simp only [List.reverse_cons, List.append_assoc, List.singleton_append]
      obtain ⟨h1, h2, h3⟩ := List.pairwise_append.1 h
      obtain ⟨h4, h5⟩ := List.pairwise_cons.1 h2
      refine List.pairwise_append.2 ⟨h1, List.pairwise_cons.2 ⟨fun z hz => ?_, List.pairwise_cons.2 ⟨fun z hz => ?_, h5⟩⟩, fun a ha z hz => ?_⟩
      · rcases List.mem_cons.1 hz with rfl | hz
        · exact hl'
        · exact h4 z hz
      · have := hm z hz
        unfold upT ltT at *; omega
      · rcases List.mem_cons.1 hz with rfl | hz
        · exact h3 a ha z (List.mem_cons_self)
        · rcases List.mem_cons.1 hz with rfl | hz
          · have := h3 a ha y List.mem_cons_self
            unfold upT ltT at *; omega
          · exact h3 a ha z (List.mem_cons_of_mem _ hz)
theorem sortT_both (ts : List Trip) : (sortT ts).Perm ts ∧ (sortT ts).Pairwise upT := by
  have key : ∀ (l acc : List Trip), acc.Pairwise upT → (l.foldl insT acc).Perm (acc ++ l) ∧ (l.foldl insT acc).Pairwise upT := by
    intro l
    induction l with
    | nil => intro acc h; simpa using h
    | cons a l ih =>
      intro acc h
      have h1 : (insT acc a).Perm (acc ++ [a]) := by
        have := insR_perm acc.reverse a []
        simpa [insT] using this
      have h2 : (insT acc a).Pairwise upT := insR_up acc.reverse a [] (by simpa using h) (by simp)
      obtain ⟨h3, h4⟩ := ih (insT acc a) h2
      refine ⟨?_, h4⟩
      simp only [List.foldl_cons]
      refine h3.trans ?_
      have := h1.append_right l
      simpa using this
  have := key ts [] List.Pairwise.nil
  simpa [sortT] using this
/-- Two of one name, or two committed ones of one time. -/
def apartT (x y : Trip) : Prop := kN x ≠ kN y ∧ (x.out = 1 → y.out = 1 → kT x ≠ kT y)
theorem twice_iff0 (ts : List Trip) : twice ts = true ↔ ¬ ts.Pairwise apartT := by
  classical
  unfold twice
  rw [decide_eq_true_eq, List.pairwise_iff_getElem]
  constructor
  · rintro ⟨j, t, hj, hd⟩ hp
    have hjl := lt_at hj
    have htj : ts[j] = t := by rw [List.getElem?_eq_getElem hjl] at hj; injection hj
    have key : ∀ x ∈ ts.take j, apartT x t := by
      intro x hx
      obtain ⟨i, hi, rfl⟩ := List.getElem_of_mem hx
      rw [List.getElem_take]
      rw [List.length_take] at hi
      have := hp i j (by omega) hjl (by omega)
      rwa [htj] at this
    rcases hd with ⟨x, hx, he⟩ | ⟨h1, x, hx, he⟩
    · exact (key x hx).1 he
    · obtain ⟨hx1, hx2⟩ := List.mem_filter.1 hx
      exact (key x hx1).2 (by simpa using hx2) h1 he
  · intro h
    refine Classical.byContradiction fun hn => h fun i j hi hj hij => ?_
    refine Classical.byContradiction fun hna => hn ⟨j, ts[j], List.getElem?_eq_getElem hj, ?_⟩
    have hm : ts[i] ∈ ts.take j := List.mem_of_getElem? (i := i) (by rw [List.getElem?_take, if_pos hij, List.getElem?_eq_getElem hi])
    by_cases h1 : kN ts[i] = kN ts[j]
    · exact .inl ⟨_, hm, h1⟩
    · right
      have h2 : ¬ (ts[i].out = 1 → ts[j].out = 1 → kT ts[i] ≠ kT ts[j]) := fun h2 => hna ⟨h1, h2⟩
      by_cases h3 : ts[i].out = 1
      · by_cases h4 : ts[j].out = 1
        · refine ⟨h4, ts[i], List.mem_filter.2 ⟨hm, by simpa using h3⟩, ?_⟩
          exact Classical.byContradiction fun h5 => h2 fun _ _ => h5
        · exact absurd (fun _ h => absurd h h4) h2
      · exact absurd (fun h => absurd h h3) h2
theorem twice_iff (ts : List Trip) : twice ts = false ↔ ts.Pairwise apartT := by
  have := twice_iff0 ts
  cases h : twice ts
  · rw [h] at this
    exact ⟨fun _ => Classical.byContradiction fun hn => (by have := this.2 hn; cases this), fun _ => rfl⟩
  · rw [h] at this
    exact ⟨fun hh => (by cases hh), fun hp => absurd hp (this.1 rfl)⟩
theorem apartT_symm {x y : Trip} (h : apartT x y) : apartT y x := ⟨fun e => h.1 e.symm, fun h1 h2 e => h.2 h2 h1 e.symm⟩
theorem twice_perm {a b : List Trip} (h : a.Perm b) : twice a = twice b := by
  have : twice a = false ↔ twice b = false := by rw [twice_iff, twice_iff]; exact h.pairwise_iff apartT_symm
  cases h1 : twice a <;> cases h2 : twice b <;> simp_all
theorem sorted_perm {a b : List Trip} (h : a.Perm b) (ht : twice a = false) : sortT (comm a) = sortT (comm b) := by
  obtain ⟨p1, q1⟩ := sortT_both (comm a)
  obtain ⟨p2, q2⟩ := sortT_both (comm b)
  have hp : (comm a).Perm (comm b) := h.filter _
  refine List.Perm.eq_of_pairwise (le := upT) (fun x y hx hy h1 h2 => ?_) q1 q2 (p1.trans (hp.trans p2.symm))
  have hx' := p1.mem_iff.1 hx
  have hy' := hp.mem_iff.2 (p2.mem_iff.1 hy)
  obtain ⟨hxa, hxo⟩ := List.mem_filter.1 hx'
  obtain ⟨hya, hyo⟩ := List.mem_filter.1 hy'
  have hpw := (twice_iff a).1 ht
  refine Classical.byContradiction fun hne => ?_
  have hap : apartT x y := by
    rw [List.pairwise_iff_forall_sublist] at hpw
    obtain ⟨i, hi, rfl⟩ := List.getElem_of_mem hxa
    obtain ⟨j, hj, rfl⟩ := List.getElem_of_mem hya
    have hpw' := List.pairwise_iff_getElem.1 ((twice_iff a).1 ht)
    rcases Nat.lt_trichotomy i j with hij | rfl | hij
    · exact hpw' i j hi hj hij
    · exact absurd rfl hne
    · exact apartT_symm (hpw' j i hj hi hij)
  refine hap.2 (by simpa using hxo) (by simpa using hyo) ((kT_iff _ _).2 ?_)
  unfold upT ltT at h1 h2
  omega
theorem there_perm {a b : List Trip} (h : a.Perm b) (ht : twice a = false) (key : ByteArray) (x y : Int) : there a key x y = there b key x y := by
  unfold there
  rw [sorted_perm h ht]
open Classical in
theorem check_errno (ts : List Trip) : (check ts).2 = if ts.all okTrip = true then (if twice ts = true then 11 else if ∃ t ∈ ts, badT ts t then 16 else 0) else 1 := by
  by_cases h1 : ts.all okTrip = true
  · rw [if_pos h1]
    by_cases h2 : twice ts = true
    · rw [if_pos h2, check_there h1 h2]
    · rw [if_neg h2]
      have h2' : twice ts = false := by simpa using h2
      by_cases h3 : ∃ t ∈ ts, badT ts t
      · rw [if_pos h3]
        have : ∃ i : Nat, ∃ t, ts[i]? = some t ∧ badT ts t := by
          obtain ⟨t, ht, hb⟩ := h3
          obtain ⟨i, hi⟩ := List.getElem?_of_mem ht
          exact ⟨i, t, hi, hb⟩
        let q : Nat → Prop := fun i => ∃ t, ts[i]? = some t ∧ badT ts t
        obtain ⟨i, ⟨t, ht, hb⟩, hmin⟩ : ∃ i, q i ∧ ∀ j, j < i → ¬ q j := by
          obtain ⟨n, hn⟩ := this
          induction n using Nat.strongRecOn with
          | _ n ih =>
            by_cases hh : ∃ j, j < n ∧ q j
            · obtain ⟨j, hj, hq⟩ := hh
              exact ih j hj hq
            · exact ⟨n, hn, fun j hj hq => hh ⟨j, hj, hq⟩⟩
        rw [check_wrong h1 h2' ht hb fun j t hj ht' hb' => hmin j hj ⟨t, ht', hb'⟩]
      · rw [if_neg h3, check_ok h1 h2' fun j t ht hb => h3 ⟨t, List.mem_of_getElem? ht, hb⟩]
  · rw [if_neg h1]
    have : ∃ t ∈ ts, okTrip t = false := by
      refine Classical.byContradiction fun hn => h1 (List.all_eq_true.2 fun t ht => ?_)
      cases hh : okTrip t
      · exact absurd ⟨t, ht, hh⟩ hn
      · rfl
    obtain ⟨t, ht, hb⟩ := this
    obtain ⟨i, hi⟩ := List.getElem?_of_mem ht
    rw [check_arg hi hb]
theorem badT_perm {a b : List Trip} (h : a.Perm b) (ht : twice a = false) (t : Trip) : badT a t ↔ badT b t := by
  unfold badT wrong
  simp only [there_perm h ht]
theorem check_perm {a b : List Trip} (h : a.Perm b) : (check a).2 = (check b).2 := by
  classical
  rw [check_errno, check_errno, twice_perm h]
  have e1 : a.all okTrip = b.all okTrip := by
    rw [Bool.eq_iff_iff, List.all_eq_true, List.all_eq_true]
    exact ⟨fun hh x hx => hh x (h.mem_iff.2 hx), fun hh x hx => hh x (h.mem_iff.1 hx)⟩
  rw [e1]
  split
  · split
    · rfl
    · rename_i h2
      have h3 : twice a = false := by rw [twice_perm h]; simpa using h2
      have e2 : (∃ t ∈ a, badT a t) ↔ (∃ t ∈ b, badT b t) :=
        ⟨fun ⟨t, h4, h5⟩ => ⟨t, h.mem_iff.1 h4, (badT_perm h h3 t).1 h5⟩, fun ⟨t, h4, h5⟩ => ⟨t, h.mem_iff.2 h4, (badT_perm h h3 t).2 h5⟩⟩
      simp only [e2]
  · rfl
end Go.Eng
