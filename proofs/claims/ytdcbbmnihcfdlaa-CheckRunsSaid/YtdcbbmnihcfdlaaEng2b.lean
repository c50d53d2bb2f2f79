/- A part of the engine that walks a function of the given program: sound rules, no statement of its own. -/
import Derived.Test.YtdcbbmnihcfdlaaEng2
set_option linter.unusedVariables false
set_option linter.unusedSimpArgs false
set_option linter.unnecessarySimpa false
set_option linter.constructorNameAsVariable false
set_option linter.all false
set_option linter.unusedVariables false
set_option linter.unusedSimpArgs false
namespace Go.Eng

section
variable {w w' : World} {ρ : List Value} {A : Nat → Prop}

theorem DenAll.length : ∀ {l : List SV} {us : List Value}, DenAll w ρ A l us → us.length = l.length
  | [], us, h => by simp only [DenAll] at h; subst h; rfl
  | s :: ss, us, h => by
    simp only [DenAll] at h
    obtain ⟨u, us', rfl, _, h3⟩ := h
    simp [DenAll.length h3]
theorem DenAll.get : ∀ {l : List SV} {us : List Value} {j : Nat} {s : SV}, DenAll w ρ A l us → l[j]? = some s → ∃ u, us[j]? = some u ∧ Den w ρ A s u
  | [], us, j, s, h, hj => by simp at hj
  | s' :: ss, us, 0, s, h, hj => by
    simp only [DenAll] at h
    obtain ⟨u, us', rfl, h2, h3⟩ := h
    simp at hj; subst hj
    exact ⟨u, rfl, h2⟩
  | s' :: ss, us, j + 1, s, h, hj => by
    simp only [DenAll] at h
    obtain ⟨u, us', rfl, h2, h3⟩ := h
    simp only [List.getElem?_cons_succ] at hj ⊢
    exact DenAll.get h3 hj
theorem DenAll.drop : ∀ {l : List SV} {us : List Value} (n : Nat), DenAll w ρ A l us → DenAll w ρ A (l.drop n) (us.drop n)
  | l, us, 0, h => h
  | [], us, n + 1, h => by simp only [DenAll] at h; subst h; simp [DenAll]
  | s :: ss, us, n + 1, h => by
    simp only [DenAll] at h
    obtain ⟨u, us', rfl, h2, h3⟩ := h
    simpa using DenAll.drop n h3
theorem DenAll.take : ∀ {l : List SV} {us : List Value} (n : Nat), DenAll w ρ A l us → DenAll w ρ A (l.take n) (us.take n)
  | l, us, 0, h => by simp [DenAll]
  | [], us, n + 1, h => by simp only [DenAll] at h; subst h; simp [DenAll]
  | s :: ss, us, n + 1, h => by
    simp only [DenAll] at h
    obtain ⟨u, us', rfl, h2, h3⟩ := h
    simp only [List.take_succ_cons, DenAll]
    exact ⟨u, us'.take n, rfl, h2, DenAll.take n h3⟩
theorem DenAll.append : ∀ {l m : List SV} {us vs : List Value}, DenAll w ρ A l us → DenAll w ρ A m vs → DenAll w ρ A (l ++ m) (us ++ vs)
  | [], m, us, vs, h, hm => by simp only [DenAll] at h; subst h; simpa using hm
  | s :: ss, m, us, vs, h, hm => by
    simp only [DenAll] at h
    obtain ⟨u, us', rfl, h2, h3⟩ := h
    simp only [List.cons_append, DenAll]
    exact ⟨u, us' ++ vs, rfl, h2, DenAll.append h3 hm⟩
theorem DenAll.set : ∀ {l : List SV} {us : List Value} (n : Nat) {s : SV} {u : Value}, DenAll w ρ A l us → Den w ρ A s u → DenAll w ρ A (l.set n s) (us.set n u)
  | [], us, n, s, u, h, hs => by simp only [DenAll] at h; subst h; simp [DenAll]
  | s' :: ss, us, 0, s, u, h, hs => by
    simp only [DenAll] at h
    obtain ⟨u', us', rfl, h2, h3⟩ := h
    simp only [List.set_cons_zero, DenAll]
    exact ⟨u, us', rfl, hs, h3⟩
  | s' :: ss, us, n + 1, s, u, h, hs => by
    simp only [DenAll] at h
    obtain ⟨u', us', rfl, h2, h3⟩ := h
    simp only [List.set_cons_succ, DenAll]
    exact ⟨u', us'.set n u, rfl, h2, DenAll.set n h3 hs⟩

/-- Cells in memory, as a list of values. -/
theorem PdCells.vals : ∀ {l : List SV} {b o : Nat}, PdCells w A l b o → ∃ us, PdAll w A l us ∧ ∀ j u, us[j]? = some u → w.cell? ⟨b, o + j, none⟩ = some u
  | [], b, o, h => ⟨[], by simp [PdAll], by simp⟩
  | s :: ss, b, o, h => by
    simp only [PdCells] at h
    obtain ⟨⟨u, h1, h2⟩, h3⟩ := h
    obtain ⟨us, h4, h5⟩ := PdCells.vals h3
    refine ⟨u :: us, by simp only [PdAll]; exact ⟨u, us, rfl, h2, h4⟩, fun j v hj => ?_⟩
    cases j with
    | zero => simp at hj; subst hj; simpa using h1
    | succ j =>
      simp only [List.getElem?_cons_succ] at hj
      have := h5 j v hj
      rwa [show o + 1 + j = o + (j + 1) from by omega] at this
theorem PdCells.of_vals : ∀ {l : List SV} {us : List Value} {b o : Nat}, PdAll w A l us → (∀ j u, us[j]? = some u → w.cell? ⟨b, o + j, none⟩ = some u) → PdCells w A l b o
  | [], us, b, o, h, hc => by simp [PdCells]
  | s :: ss, us, b, o, h, hc => by
    simp only [PdAll] at h
    obtain ⟨u, us', rfl, h2, h3⟩ := h
    simp only [PdCells]
    refine ⟨⟨u, by simpa using hc 0 u rfl, h2⟩, PdCells.of_vals h3 fun j v hj => ?_⟩
    have := hc (j + 1) v (by simpa using hj)
    rwa [show o + (j + 1) = o + 1 + j from by omega] at this
theorem PdCells.drop : ∀ {l : List SV} {b o : Nat} (n : Nat), PdCells w A l b o → PdCells w A (l.drop n) b (o + n)
  | l, b, o, 0, h => h
  | [], b, o, n + 1, h => by simp [PdCells]
  | s :: ss, b, o, n + 1, h => by
    simp only [PdCells] at h
    simpa [Nat.add_assoc, Nat.add_comm 1 n] using PdCells.drop n h.2
theorem PdRows.get (sz : Nat) : ∀ {rs : List (List SV)} {b o i : Nat} {r : List SV}, PdRows w A sz rs b o → rs[i]? = some r → r.length = sz ∧ PdCells w A r b (o + i * sz)
  | [], b, o, i, r, h, hi => by simp at hi
  | r' :: rs, b, o, 0, r, h, hi => by
    simp only [PdRows] at h
    simp at hi; subst hi
    exact ⟨h.1, by simpa using h.2.1⟩
  | r' :: rs, b, o, i + 1, r, h, hi => by
    simp only [PdRows] at h
    simp only [List.getElem?_cons_succ] at hi
    have := PdRows.get sz h.2.2 hi
    rwa [show o + sz + i * sz = o + (i + 1) * sz from by rw [Nat.add_mul]; omega] at this
theorem DenVals.get (sz : Nat) : ∀ {rs : List (List SV)} {us : List Value} {i : Nat} {r : List SV}, DenVals w ρ A sz rs us → rs[i]? = some r → r.length = sz ∧ ∃ ui, DenAll w ρ A r ui ∧ ∀ j u, ui[j]? = some u → us[i * sz + j]? = some u
  | [], us, i, r, h, hi => by simp at hi
  | r' :: rs, us, 0, r, h, hi => by
    obtain ⟨u1, u2, rfl, h1, h2, h3⟩ := h
    simp at hi; subst hi
    refine ⟨h1, u1, h2, fun j u hj => ?_⟩
    have : j < u1.length := (List.getElem?_eq_some_iff.1 hj).1
    simpa [List.getElem?_append_left this] using hj
  | r' :: rs, us, i + 1, r, h, hi => by
    obtain ⟨u1, u2, rfl, h1, h2, h3⟩ := h
    simp only [List.getElem?_cons_succ] at hi
    obtain ⟨h4, ui, h5, h6⟩ := DenVals.get sz h3 hi
    refine ⟨h4, ui, h5, fun j u hj => ?_⟩
    have hl : u1.length = sz := by rw [h2.length, h1]
    have := h6 j u hj
    rw [List.getElem?_append_right (by rw [hl, Nat.add_mul]; omega)]
    rwa [show (i + 1) * sz + j - u1.length = i * sz + j from by rw [hl, Nat.add_mul]; omega]
theorem DenVals.length (sz : Nat) : ∀ {rs : List (List SV)} {us : List Value}, DenVals w ρ A sz rs us → us.length = rs.length * sz
  | [], us, h => by cases h; simp
  | r :: rs, us, h => by
    obtain ⟨u1, u2, rfl, h1, h2, h3⟩ := h
    rw [List.length_append, h2.length, h1, DenVals.length sz h3, List.length_cons, Nat.add_mul]
    omega
theorem DenVals.append (sz : Nat) : ∀ {rs rs' : List (List SV)} {us us' : List Value}, DenVals w ρ A sz rs us → DenVals w ρ A sz rs' us' → DenVals w ρ A sz (rs ++ rs') (us ++ us')
  | [], rs', us, us', h, h' => by cases h; simpa using h'
  | r :: rs, rs', us, us', h, h' => by
    obtain ⟨u1, u2, rfl, h1, h2, h3⟩ := h
    exact ⟨u1, u2 ++ us', by simp, h1, h2, DenVals.append sz h3 h'⟩
theorem DenVals.take (sz : Nat) : ∀ {rs : List (List SV)} {us : List Value} (n : Nat), DenVals w ρ A sz rs us → DenVals w ρ A sz (rs.take n) (us.take (n * sz))
  | rs, us, 0, h => by simp [DenVals]
  | [], us, n + 1, h => by cases h; simp [DenVals]
  | r :: rs, us, n + 1, h => by
    obtain ⟨u1, u2, rfl, h1, h2, h3⟩ := h
    have hl : u1.length = sz := by rw [h2.length, h1]
    refine ⟨u1, u2.take (n * sz), ?_, h1, h2, DenVals.take sz n h3⟩
    rw [List.take_append, List.take_of_length_le (by rw [hl, Nat.add_mul]; omega), show (n + 1) * sz - u1.length = n * sz from by rw [hl, Nat.add_mul]; omega]
theorem DenVals.drop (sz : Nat) : ∀ {rs : List (List SV)} {us : List Value} (n : Nat), DenVals w ρ A sz rs us → DenVals w ρ A sz (rs.drop n) (us.drop (n * sz))
  | rs, us, 0, h => by simpa using h
  | [], us, n + 1, h => by cases h; simp [DenVals]
  | r :: rs, us, n + 1, h => by
    obtain ⟨u1, u2, rfl, h1, h2, h3⟩ := h
    have hl : u1.length = sz := by rw [h2.length, h1]
    have e : u1.drop ((n + 1) * sz) = [] := List.drop_of_length_le (by rw [hl, Nat.add_mul]; omega)
    rw [List.drop_append, e, show (n + 1) * sz - u1.length = n * sz from by rw [hl, Nat.add_mul]; omega]
    simpa using DenVals.drop sz n h3
/-- Rows of cells that lead to nothing of one's own, as a list of values. -/
def PdVals (w : World) (A : Nat → Prop) (sz : Nat) : List (List SV) → List Value → Prop
  | [], us => us = []
  | r :: rs, us => ∃ u1 u2, us = u1 ++ u2 ∧ r.length = sz ∧ PdAll w A r u1 ∧ PdVals w A sz rs u2
theorem PdVals.den (sz : Nat) : ∀ {rs : List (List SV)} {us : List Value}, PdVals w A sz rs us → DenVals w ρ A sz rs us
  | [], us, h => h
  | r :: rs, us, h => by
    obtain ⟨u1, u2, h1, h2, h3, h4⟩ := h
    exact ⟨u1, u2, h1, h2, PdAll.den r u1 h3, PdVals.den sz h4⟩
/-- Rows in memory, as a list of values. -/
theorem PdRows.vals (sz : Nat) : ∀ {rs : List (List SV)} {b o : Nat}, PdRows w A sz rs b o → ∃ us, PdVals w A sz rs us ∧ ∀ j u, us[j]? = some u → w.cell? ⟨b, o + j, none⟩ = some u
  | [], b, o, h => ⟨[], rfl, by simp⟩
  | r :: rs, b, o, h => by
    simp only [PdRows] at h
    obtain ⟨h1, h2, h3⟩ := h
    obtain ⟨u1, h4, h5⟩ := PdCells.vals h2
    obtain ⟨u2, h6, h7⟩ := PdRows.vals sz h3
    have hl : u1.length = sz := by rw [(PdAll.den (ρ := []) _ _ h4).length, h1]
    refine ⟨u1 ++ u2, ⟨u1, u2, rfl, h1, h4, h6⟩, fun j u hj => ?_⟩
    rcases Nat.lt_or_ge j u1.length with hlt | hge
    · rw [List.getElem?_append_left hlt] at hj
      exact h5 j u hj
    · rw [List.getElem?_append_right hge] at hj
      have := h7 _ u hj
      rwa [show o + sz + (j - u1.length) = o + j from by omega] at this
theorem PdRows.of_vals (sz : Nat) : ∀ {rs : List (List SV)} {us : List Value} {b o : Nat}, PdVals w A sz rs us → (∀ j u, us[j]? = some u → w.cell? ⟨b, o + j, none⟩ = some u) → PdRows w A sz rs b o
  | [], us, b, o, h, hc => by simp [PdRows]
  | r :: rs, us, b, o, h, hc => by
    obtain ⟨u1, u2, rfl, h1, h2, h3⟩ := h
    have hl : u1.length = sz := by rw [(PdAll.den (ρ := []) _ _ h2).length, h1]
    simp only [PdRows]
    refine ⟨h1, PdCells.of_vals h2 fun j u hj => hc j u ?_, PdRows.of_vals sz h3 fun j u hj => ?_⟩
    · have : j < u1.length := (List.getElem?_eq_some_iff.1 hj).1
      rwa [List.getElem?_append_left this]
    · have := hc (sz + j) u (by rw [List.getElem?_append_right (by omega)]; rwa [show sz + j - u1.length = j from by omega])
      rwa [show o + (sz + j) = o + sz + j from by omega] at this
theorem PdRows.drop (sz : Nat) : ∀ {rs : List (List SV)} {b o : Nat} (n : Nat), PdRows w A sz rs b o → PdRows w A sz (rs.drop n) b (o + n * sz)
  | rs, b, o, 0, h => by simpa using h
  | [], b, o, n + 1, h => by simp [PdRows]
  | r :: rs, b, o, n + 1, h => by
    simp only [PdRows] at h
    have := PdRows.drop sz n h.2.2
    rw [show o + sz + n * sz = o + (n + 1) * sz from by rw [Nat.add_mul]; omega] at this
    simpa using this
theorem PdRows.take (sz : Nat) : ∀ {rs : List (List SV)} {b o : Nat} (n : Nat), PdRows w A sz rs b o → PdRows w A sz (rs.take n) b o
  | rs, b, o, 0, h => by simp [PdRows]
  | [], b, o, n + 1, h => by simp [PdRows]
  | r :: rs, b, o, n + 1, h => by
    simp only [PdRows] at h
    simp only [List.take_succ_cons, PdRows]
    exact ⟨h.1, h.2.1, PdRows.take sz n h.2.2⟩
end
theorem DenEnts.perm {w : World} {ρ : List Value} {A : Nat → Prop} {es es1 : List (Value × SV)} (hp : es.Perm es1) : ∀ {l : List MapEntry}, DenEnts w ρ A es l → ∃ l1, l.Perm l1 ∧ DenEnts w ρ A es1 l1 := by
  induction hp with
  | nil => intro l h; exact ⟨l, List.Perm.refl _, h⟩
  | cons x _ ih =>
    intro l h
    obtain ⟨e, l', rfl, h1, h2, h3⟩ := h
    obtain ⟨l1, h4, h5⟩ := ih h3
    exact ⟨e :: l1, h4.cons _, e, l1, rfl, h1, h2, h5⟩
  | swap x y r =>
    intro l h
    obtain ⟨e, l', rfl, h1, h2, e', l'', rfl, h3, h4, h5⟩ := h
    exact ⟨e' :: e :: l'', List.Perm.swap _ _ _, e', _, rfl, h3, h4, e, _, rfl, h1, h2, h5⟩
  | trans _ _ ih1 ih2 =>
    intro l h
    obtain ⟨l1, h1, h2⟩ := ih1 h
    obtain ⟨l2, h3, h4⟩ := ih2 h2
    exact ⟨l2, h1.trans h3, h4⟩
theorem DenEnts.keys {w : World} {ρ : List Value} {A : Nat → Prop} : ∀ {es : List (Value × SV)} {l : List MapEntry}, DenEnts w ρ A es l → l.map (·.key) = es.map (·.1)
  | [], l, h => by
    have : l = [] := h
    subst this; rfl
  | (k, s) :: es, l, h => by
    obtain ⟨e, l', rfl, h1, h2, h3⟩ := h
    simp [h1, h3.keys]
end Go.Eng
