/- A part of the engine that walks a function of the given program: sound rules, no statement of its own. -/
import Derived.Test.YtdcbbmnihcfdlaaEng20
set_option linter.unusedVariables false
set_option linter.unusedSimpArgs false
set_option linter.unnecessarySimpa false
set_option linter.constructorNameAsVariable false
set_option linter.all false
set_option linter.unusedVariables false
set_option linter.unusedSimpArgs false
namespace Go.Eng

/-! ### Structs of plain fields: their equality, and as keys -/
def leafD : Lf → TypeDesc
  | .i k => .int k
  | .s => .string
  | .b => .bool
def flatF (P : Program) : List Field → Nat → List Lf → Prop
  | [], _, [] => True
  | f :: fs, i, l :: ls => (f.name ≠ "_" ∧ f.offset = i ∧ P.underlying f.type = some (leafD l)) ∧ flatF P fs (i + 1) ls
  | _, _, _ => False

theorem eq_leaf {P : Program} {t : TypeId} {l : Lf} (h : P.underlying t = some (leafD l)) {u v : Value} (hu : LfV l u) (hv : LfV l v) (d : Nat) (w : World) : ∃ r : Bool, (r = true ↔ u = v) ∧ (Op.equalIn (d + 1) t u v).run P w = .ok r w := by
  cases l with
  | i k => obtain ⟨m, rfl⟩ := hu; obtain ⟨n, rfl⟩ := hv; exact ⟨m == n, by simp, run_equalIn_int w d t k k m n h⟩
  | s => obtain ⟨m, rfl⟩ := hu; obtain ⟨n, rfl⟩ := hv; exact ⟨m.toList == n.toList, by simp [beq_bytes], run_equalIn_string w d t m n h⟩
  | b => obtain ⟨m, rfl⟩ := hu; obtain ⟨n, rfl⟩ := hv; exact ⟨m == n, by simp, equalIn_bool h d m n w⟩
theorem part_leaf {P : Program} {t : TypeId} {l : Lf} (h : P.underlying t = some (leafD l)) {xs : Array Value} {i : Nat} {u : Value} (hi : xs[i]? = some u) (w : World) : (part t xs i).run P w = .ok u w := by
  have : (isAgg t).run P w = .ok false w := by
    unfold isAgg
    cases l <;> simp only [leafD] at h <;> simp [Sem.run_bind, run_underlying h]
  simp [part, Sem.run_bind, this, hi]
theorem eq_fields {P : Program} (d : Nat) : ∀ (fs : List Field) (i : Nat) (ls : List Lf), flatF P fs i ls → ∀ (xs ys : List Value) (pre pre' : List Value), pre.length = i → pre'.length = i → LfVs ls xs → LfVs ls ys → ∀ w,
    ∃ r : Bool, (r = true ↔ xs = ys) ∧ (Op.eqFields (d + 1) (pre ++ xs).toArray (pre' ++ ys).toArray fs).run P w = .ok r w
  | [], i, [], h, xs, ys, pre, pre', h1, h2, h3, h4, w => by
    have e1 : xs = [] := h3
    have e2 : ys = [] := h4
    subst e1 e2
    exact ⟨true, by simp, by simp [Op.eqFields]⟩
  | [], i, _ :: _, h, _, _, _, _, _, _, _, _, _ => h.elim
  | _ :: _, i, [], h, _, _, _, _, _, _, _, _, _ => h.elim
  | f :: fs, i, l :: ls, h, xs, ys, pre, pre', h1, h2, h3, h4, w => by
    obtain ⟨⟨hn, ho, hu⟩, hr⟩ := h
    obtain ⟨x, xs', rfl, hx, h3⟩ := h3
    obtain ⟨y, ys', rfl, hy, h4⟩ := h4
    obtain ⟨r, hrr, hrun⟩ := eq_leaf hu hx hy d w
    obtain ⟨r2, hr2, hrun2⟩ := eq_fields d fs (i + 1) ls hr xs' ys' (pre ++ [x]) (pre' ++ [y]) (by simp [h1]) (by simp [h2]) h3 h4 w
    have p1 := part_leaf hu (xs := (pre ++ x :: xs').toArray) (i := f.offset) (u := x) (by rw [ho]; simp [← h1]) w
    have p2 := part_leaf hu (xs := (pre' ++ y :: ys').toArray) (i := f.offset) (u := y) (by rw [ho]; simp [← h2]) w
    simp only [List.append_assoc, List.singleton_append] at hrun2
    refine ⟨r && r2, ?_, ?_⟩
    · simp only [Bool.and_eq_true, hrr, hr2, List.cons.injEq]
    · simp only [Op.eqFields, if_pos hn, Sem.run_bind, p1, p2, hrun, Result.andThen_ok]
      cases r
      · simp [Sem.run_ite, Sem.run_pure]
      · simp only [Bool.not_true, Bool.false_eq_true, if_false, Bool.true_and]
        exact hrun2

section
variable {P : Program} {t : TypeId} {ls : List Lf} (ht : P.underlying t = some (.struct (P.fieldsOf t))) (hp : P.stoodInHeld t = false) (hf : flatF P (P.fieldsOf t).toList 0 ls)
include ht hp hf
theorem eq_struct {xs ys : List Value} (h1 : LfVs ls xs) (h2 : LfVs ls ys) (w : World) : ∃ r : Bool, (r = true ↔ xs = ys) ∧ (Op.equalIn 10000 t (.agg xs.toArray) (.agg ys.toArray)).run P w = .ok r w := by
  obtain ⟨r, hr, hrun⟩ := eq_fields 9998 _ 0 ls hf xs ys [] [] rfl rfl h1 h2 w
  refine ⟨r, hr, ?_⟩
  rw [show (10000 : Nat) = 9999 + 1 from rfl, run_equalIn_struct w 9999 t _ _ ht hp]
  exact hrun
theorem EqT.flat (hm : P.eqGuardType P.depth t = false) : EqT P t ls := by
  intro x y xs ys w h1 h2
  obtain ⟨r, hr, hrun⟩ := eq_struct ht hp hf h1 h2 w
  refine ⟨r, hr, ?_, ?_⟩
  · simp only [Sem.run_bind, run_eqGuard_agg w _ t x y _ _ hm, Result.andThen_ok, run_eql_struct, hrun]
  · simp only [Sem.run_bind, run_eqGuard_agg w _ t x y _ _ hm, Result.andThen_ok, run_neq_struct, hrun]
end

theorem chk_leaf {P : Program} {t : TypeId} {l : Lf} (h : P.underlying t = some (leafD l)) {u : Value} (hu : LfV l u) (em : Bool) (n : Nat) (w : World) : (Instr.checkKey em (n + 1) t u).run P w = .ok () w := by
  cases l with
  | i k => obtain ⟨m, rfl⟩ := hu; simp only [leafD] at h; simp [Instr.checkKey, Sem.run_bind, run_underlying h]
  | s => obtain ⟨m, rfl⟩ := hu; simp only [leafD] at h; simp [Instr.checkKey, Sem.run_bind, run_underlying h]
  | b => obtain ⟨m, rfl⟩ := hu; simp only [leafD] at h; simp [Instr.checkKey, Sem.run_bind, run_underlying h]
theorem chk_fields {P : Program} (em : Bool) (n : Nat) : ∀ (fs : List Field) (i : Nat) (ls : List Lf), flatF P fs i ls → ∀ (xs pre : List Value), pre.length = i → LfVs ls xs → ∀ w,
    (forIn fs PUnit.unit fun (f : Field) (_ : PUnit) => if f.name ≠ "_" then (do
      let v ← part f.type (pre ++ xs).toArray f.offset
      Instr.checkKey em (n + 1) f.type v
      pure (ForInStep.yield PUnit.unit)) else (pure (ForInStep.yield PUnit.unit) : Sem (ForInStep PUnit))).run P w = .ok PUnit.unit w
  | [], i, [], h, xs, pre, h1, h3, w => by simp
  | [], i, _ :: _, h, _, _, _, _, _ => h.elim
  | _ :: _, i, [], h, _, _, _, _, _ => h.elim
  | f :: fs, i, l :: ls, h, xs, pre, h1, h3, w => by
    obtain ⟨⟨hn, ho, hu⟩, hr⟩ := h
    obtain ⟨x, xs', rfl, hx, h3⟩ := h3
    have p1 := part_leaf hu (xs := (pre ++ x :: xs').toArray) (i := f.offset) (u := x) (by rw [ho]; simp [← h1]) w
    have ih := chk_fields em n fs (i + 1) ls hr xs' (pre ++ [x]) (by simp [h1]) h3 w
    simp only [List.append_assoc, List.singleton_append] at ih
    simp only [List.forIn_cons, if_pos hn, Sem.run_bind, p1, Result.andThen_ok, chk_leaf hu hx em n w, Sem.run_pure]
    exact ih
theorem same_leaf {l : Lf} {u : Value} (hu : LfV l u) (n : Nat) : Instr.sameBits (n + 1) u u = true := by
  cases l with
  | i k => obtain ⟨m, rfl⟩ := hu; simp [Instr.sameBits]
  | s => obtain ⟨m, rfl⟩ := hu; simp [Instr.sameBits, beqB]
  | b => obtain ⟨m, rfl⟩ := hu; simp [Instr.sameBits]
theorem same_leaves : ∀ {ls : List Lf} {us : List Value}, LfVs ls us → ∀ n, ((us.zip us).all fun x => Instr.sameBits (n + 1) x.1 x.2) = true
  | [], us, h, n => by have e : us = [] := h; subst e; rfl
  | l :: ls, us, h, n => by
    obtain ⟨u, us', rfl, h1, h2⟩ := h
    simp only [List.zip_cons_cons, List.all_cons, same_leaf h1, same_leaves h2, Bool.and_self]

/-- A struct of plain fields as a key. -/
theorem KeyT.flat {P : Program} {t : TypeId} {ls : List Lf} (ht : P.underlying t = some (.struct (P.fieldsOf t))) (hp : P.stoodInHeld t = false) (hf : flatF P (P.fieldsOf t).toList 0 ls) : KeyT P t fun v => ∃ us, v = .agg us.toArray ∧ LfVs ls us := by
  refine ⟨fun em k w ⟨us, e, h⟩ => ?_, fun k ⟨us, e, h⟩ => ?_, fnd_of ht (fun a b ⟨us, e, h⟩ ⟨us', e', h'⟩ => ?_) (.inr fun a b ⟨us, e, h⟩ ⟨us', e', h'⟩ => ?_)⟩
  · subst e
    show (Instr.checkKey em (9998 + 1 + 1) t (.agg us.toArray)).run P w = _
    generalize 9998 = n
    have := chk_fields em n _ 0 ls hf us [] rfl h w
    rw [Instr.checkKey]
    simp only [Sem.run_bind, run_underlying ht, Result.andThen_ok]
    rw [← Array.forIn_toList]
    simp only [List.nil_append] at this

    rw [this]
    simp
  · subst e
    show Instr.sameBits (9998 + 1 + 1) (.agg us.toArray) (.agg us.toArray) = true
    generalize 9998 = n
    rw [Instr.sameBits]
    simp only [BEq.rfl, Bool.true_and]
    exact same_leaves h n
  · subst e e'
    have h0 : ∀ w, ∃ r : Bool, (r = true ↔ us = us') ∧ (Op.equalIn 10000 t (.agg us.toArray) (.agg us'.toArray)).run P w = .ok r w := eq_struct ht hp hf h h'
    by_cases hu : us = us'
    · refine ⟨true, by simp [hu], .inr ⟨rfl, fun w => ?_⟩⟩
      obtain ⟨r, hr, h1⟩ := h0 w
      rw [hr.2 hu] at h1
      exact h1
    · refine ⟨false, by simp [hu], .inr ⟨rfl, fun w => ?_⟩⟩
      obtain ⟨r, hr, h1⟩ := h0 w
      cases r with
      | true => exact absurd (hr.1 rfl) hu
      | false => exact h1
  · subst e e'; rfl

def leafB (P : Program) (t : TypeId) : Lf → Bool
  | .i k => match P.underlying t with | some (.int j) => decide (j = k) | _ => false
  | .s => match P.underlying t with | some .string => true | _ => false
  | .b => match P.underlying t with | some .bool => true | _ => false
def flatB (P : Program) : List Field → Nat → List Lf → Bool
  | [], _, [] => true
  | f :: fs, i, l :: ls => f.name != "_" && f.offset == i && leafB P f.type l && flatB P fs (i + 1) ls
  | _, _, _ => false
theorem leafB_spec {P : Program} {t : TypeId} {l : Lf} (h : leafB P t l = true) : P.underlying t = some (leafD l) := by
  unfold leafB at h
  cases l <;> (simp only at h; split at h <;> first | cases h | skip)
  · rename_i j hu; simp only [decide_eq_true_eq] at h; subst h; exact hu
  · assumption
  · assumption
theorem flatB_spec {P : Program} : ∀ {fs : List Field} {i : Nat} {ls : List Lf}, flatB P fs i ls = true → flatF P fs i ls
  | [], _, [], _ => trivial
  | [], _, _ :: _, h => by simp [flatB] at h
  | _ :: _, _, [], h => by simp [flatB] at h
  | f :: fs, i, l :: ls, h => by
    simp only [flatB, Bool.and_eq_true, bne_iff_ne, ne_eq, beq_iff_eq] at h
    exact ⟨⟨h.1.1.1, h.1.1.2, leafB_spec h.1.2⟩, flatB_spec h.2⟩

def pureE : List (Value × SV) → Bool
  | [] => true
  | x :: r => pure1 x.2 && pureE r
theorem subE_pure {O : Heap} {σ : Ren} {fz : Nat → Bool} : ∀ (es : List (Value × SV)), pureE es = true → subE O σ fz es es
  | [], _ => rfl
  | (k, s) :: r, h => by
    simp only [pureE, Bool.and_eq_true] at h
    exact ⟨rfl, sub_pure s h.1, subE_pure r h.2⟩
theorem osub_mp {O : Heap} {σ : Ren} {fz : Nat → Bool} {es es' : List (Value × SV)} (h : es.Perm es') (hp : pureE es' = true) : osub O σ fz (.mp es) (.mp es') := ⟨es', h, subE_pure es' hp⟩
theorem pureE_map {α : Type} {f : α → Value × SV} (h : ∀ a, pure1 (f a).2 = true) : ∀ l : List α, pureE (l.map f) = true
  | [] => rfl
  | a :: l => by simp only [List.map_cons, pureE, h a, pureE_map h l, Bool.and_self]
end Go.Eng
