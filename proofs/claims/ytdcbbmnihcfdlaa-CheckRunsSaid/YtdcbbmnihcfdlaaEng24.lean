/- A part of the engine that walks a function of the given program: sound rules, no statement of its own. -/
import Derived.Test.YtdcbbmnihcfdlaaEng23
set_option linter.unusedVariables false
set_option linter.unusedSimpArgs false
set_option linter.unnecessarySimpa false
set_option linter.constructorNameAsVariable false
set_option linter.all false
set_option linter.unusedVariables false
set_option linter.unusedSimpArgs false
namespace Go.Eng

theorem subRows_app {O : Heap} {σ : Ren} {fz : Nat → Bool} : ∀ (a b b' : List (List SV)), pureRows a = true → subRows O σ fz b b' → subRows O σ fz (a ++ b) (a ++ b')
  | [], b, b', _, h => h
  | x :: a, b, b', hp, h => by
    simp only [pureRows, Bool.and_eq_true] at hp
    simp only [List.cons_append]
    unfold subRows
    exact ⟨subL_pure x hp.1, subRows_app a b b' hp.2 h⟩
theorem subRows_one {O : Heap} {σ : Ren} {fz : Nat → Bool} {x x' : List SV} (h : subL O σ fz x x') : subRows O σ fz [x] [x'] := by
  unfold subRows
  exact ⟨h, by unfold subRows; rfl⟩
/-- A row to which one was appended that is another one now. -/
theorem osub_snoc {O : Heap} {σ : Ren} {fz : Nat → Bool} {e : TypeId} {sz : Nat} {a r' : List (List SV)} {x x' : List SV} (hr : r' = a ++ [x']) (hp : pureRows a = true) (h : subL O σ fz x x') : osub O σ fz (.row e sz (a ++ [x])) (.row e sz r') := by
  subst hr
  unfold osub
  exact ⟨⟨rfl, rfl⟩, subRows_app a _ _ hp (subRows_one h)⟩

theorem rows_model {α : Type} (f : α → List SV) {good : α → Prop} : ∀ {rows : List (List SV)}, (∀ r ∈ rows, ∃ a, r = f a ∧ good a) → ∃ l : List α, rows = l.map f ∧ ∀ a ∈ l, good a
  | [], _ => ⟨[], rfl, by simp⟩
  | r :: rows, h => by
    obtain ⟨a, h1, h2⟩ := h r List.mem_cons_self
    obtain ⟨l, h3, h4⟩ := rows_model f (rows := rows) fun r hr => h r (List.mem_cons_of_mem _ hr)
    refine ⟨a :: l, by rw [h1, h3]; rfl, fun b hb => ?_⟩
    rcases List.mem_cons.1 hb with rfl | hb
    · exact h2
    · exact h4 b hb
theorem lmap {α : Type} (l : List α) (f : α → List SV) : (l.map f).length = l.length := List.length_map _
theorem all_get {α : Type} {l : List α} {p : α → Bool} (h : ∀ (j : Nat) x, l[j]? = some x → p x = true) : l.all p = true := by
  rw [List.all_eq_true]; intro x hx
  obtain ⟨j, hj⟩ := List.getElem?_of_mem hx
  exact h j x hj
theorem row_at {α : Type} {l : List α} {i : Nat} {a : α} (f : α → List SV) (h : l[i]? = some a) : (l.map f)[((i:Nat):Int).toNat]? = some (f a) := by rw [Int.toNat_natCast, List.getElem?_map, h]; rfl
theorem take_at {α : Type} {l : List α} {i : Nat} {a : α} (f : α → List SV) (h : l[i]? = some a) : (l.take (i + 1)).map f = (l.take i).map f ++ [f a] := by rw [List.take_add_one, h]; simp
theorem get_at {α : Type} {l : List α} {i : Nat} (h : i < l.length) : ∃ a, l[i]? = some a := ⟨_, List.getElem?_eq_getElem h⟩
theorem lt_at {α : Type} {l : List α} {i : Nat} {a : α} (h : l[i]? = some a) : i < l.length := (List.getElem?_eq_some_iff.1 h).1
/-- What held of all ahead of i, and holds of i, holds of all up to i. -/
theorem upto_at {α : Type} {l : List α} {i : Nat} {a : α} {p : α → Prop} (hi : ∀ (j : Nat) x, j < i → l[j]? = some x → p x) (h : l[i]? = some a) (ha : p a) : ∀ (j : Nat) x, j < i + 1 → l[j]? = some x → p x := by
  intro j x hj hx
  rcases Nat.lt_or_eq_of_le (Nat.le_of_lt_succ hj) with h3 | rfl
  · exact hi j x h3 hx
  · rw [h] at hx; cases hx; exact ha
theorem upto_all {α : Type} {l : List α} {i : Nat} {p : α → Prop} (hi : ∀ (j : Nat) x, j < i → l[j]? = some x → p x) (h : l.length ≤ i) : ∀ (j : Nat) x, l[j]? = some x → p x := fun j x hx => hi j x (Nat.lt_of_lt_of_le (lt_at hx) h) hx
theorem upto_zero {α : Type} {l : List α} {p : α → Prop} : ∀ (j : Nat) x, j < 0 → l[j]? = some x → p x := fun j _ h => absurd h (Nat.not_lt_zero _)

theorem oneRows_map {α : Type} {f : α → List SV} (h : ∀ a, (f a).all one1 = true) (l : List α) : oneRows (l.map f) = true := by
  unfold oneRows
  rw [List.all_eq_true]
  intro r hr
  obtain ⟨a, _, rfl⟩ := List.mem_map.1 hr
  exact h a
theorem oneRows_dt {α : Type} {f : α → List SV} (h : ∀ a, (f a).all one1 = true) (l : List α) (m n : Nat) : oneRows (((l.map f).take n).drop m) = true := by
  rw [← List.map_take, ← List.map_drop]
  exact oneRows_map h _
/-! ### Rows of one's own, lent to be read -/
mutual
/-- It leads to no memory. -/
def scal1 : SV → Bool
  | .v _ => true
  | .agg l => scalL l
  | .tup l => scalL l
  | .fn _ l => scalL l
  | .ifc _ x => scal1 x
  | .any => true
  | _ => false
def scalL : List SV → Bool
  | [] => true
  | s :: ss => scal1 s && scalL ss
end
mutual
theorem den_scal {w w' : World} {ρ : List Value} {A A' : Nat → Prop} : ∀ (s : SV) (u : Value), scal1 s = true → Pd w A s u → Den w' ρ A' s u
  | .v x, u, _, h => by simpa only [Den, Pd] using h
  | .agg l, u, hp, h => by
    simp only [Den, Pd, scal1] at *
    obtain ⟨us, hu, hd⟩ := h
    exact ⟨us, hu, den_scalL l us hp hd⟩
  | .tup l, u, hp, h => by
    simp only [Den, Pd, scal1] at *
    obtain ⟨us, hu, hd⟩ := h
    exact ⟨us, hu, den_scalL l us hp hd⟩
  | .fn f l, u, hp, h => by
    simp only [Den, Pd, scal1] at *
    obtain ⟨us, hu, hd⟩ := h
    exact ⟨us, hu, den_scalL l us hp hd⟩
  | .ifc t x, u, hp, h => by
    simp only [Den, Pd, scal1] at *
    obtain ⟨y, hu, hd⟩ := h
    exact ⟨y, hu, den_scal x y hp hd⟩
  | .any, u, _, _ => by simp only [Den]
  | .rd _ _, u, hp, _ => by simp [scal1] at hp
  | .own _, u, hp, _ => by simp [scal1] at hp
  | .ptr _ _, u, hp, _ => by simp [scal1] at hp
  | .rptr _ _ _ _, u, hp, _ => by simp [scal1] at hp
  | .eptr _, u, hp, _ => by simp [scal1] at hp
  | .sub _ _ _ _ _, u, hp, _ => by simp [scal1] at hp
theorem den_scalL {w w' : World} {ρ : List Value} {A A' : Nat → Prop} : ∀ (l : List SV) (us : List Value), scalL l = true → PdAll w A l us → DenAll w' ρ A' l us
  | [], us, _, h => by simpa only [PdAll, DenAll] using h
  | s :: ss, us, hp, h => by
    simp only [PdAll, DenAll, scalL, Bool.and_eq_true] at *
    obtain ⟨u, us', hu, h1, h2⟩ := h
    exact ⟨u, us', hu, den_scal s u hp.1 h1, den_scalL ss us' hp.2 h2⟩
end
mutual
theorem scal_pure : ∀ (s : SV), scal1 s = true → pure1 s = true
  | .v x, _ => rfl
  | .agg l, h => by simpa only [scal1, pure1] using scalL_pure l (by simpa only [scal1] using h)
  | .tup l, h => by simpa only [scal1, pure1] using scalL_pure l (by simpa only [scal1] using h)
  | .fn f l, h => by simpa only [scal1, pure1] using scalL_pure l (by simpa only [scal1] using h)
  | .ifc t x, h => by simpa only [scal1, pure1] using scal_pure x (by simpa only [scal1] using h)
  | .any, _ => rfl
  | .rd _ _, hp => by simp [scal1] at hp
  | .own _, hp => by simp [scal1] at hp
  | .ptr _ _, hp => by simp [scal1] at hp
  | .rptr _ _ _ _, hp => by simp [scal1] at hp
  | .eptr _, hp => by simp [scal1] at hp
  | .sub _ _ _ _ _, hp => by simp [scal1] at hp
theorem scalL_pure : ∀ (l : List SV), scalL l = true → pureL l = true
  | [], _ => rfl
  | s :: ss, h => by
    simp only [scalL, pureL, Bool.and_eq_true] at *
    exact ⟨scal_pure s h.1, scalL_pure ss h.2⟩
end
/-- A call of a function of values alone, to which rows of one's own are lent; what it gives leads to no memory. -/
theorem Fun.callv {c : Cx} {f : FuncId} {args args' : List SV} {r : SV} {q : Bool} {nx : Nat} {O : Heap} {k : SV → Nat → Heap → Prop} (h : Fun c.P f args' r) (hv : Later (subL O [] (fun _ => true) args args')) (ha : pureL args' = true) (hr : scal1 r = true) (hk : k r nx O) : CallOK c f args q nx O k := by
  intro w ρ hS hl hF hO vs hD
  have hD1 := subL_den (σ := []) (fz := fun _ => true) (A' := fun _ => False) hS (fun b h => h.elim) (fun _ _ _ _ _ _ _ _ h => h) _ _ vs hv.out hD
  have hS0 : Sat w [] (fun _ => False) [] := Sat.nil (fun _ h => h.elim) []
  have hD0 : DenAll w [] (Av (fun _ => False) [] []) args' vs := PdAll.den _ _ (PdAll.tr (Tr.less (ρ := []) fun b hb => by
    rcases hb with hb | hb
    · exact hb
    · exact (ownB_nil hb).elim) _ _ (pdAll_of_pure _ _ ha hD1))
  refine (h _ w [] rfl hS0 vs hD0).mono fun e w' hh => ?_
  obtain ⟨u, s, ρ', nx', O', a1, a2, a3, a4, a5, a6, a7, ⟨rfl, rfl, rfl⟩, a9⟩ := hh
  have hsame := a9 rfl
  obtain ⟨h1, h2⟩ := hS.same hsame
  refine ⟨u, s, ρ, nx, O, a1, hl, h1, h2, hF.step a5.os a5.tape a5.output hsame.1 fun b hb _ => hsame.2 b (Nat.lt_of_lt_of_le hb hF.size), hO, ?_, hk, fun _ => hsame⟩
  exact den_scal _ _ hr (pd_of_pure _ _ (scal_pure _ hr) a7)
theorem Fun.callvb {c : Cx} {f : FuncId} {args args' : List SV} {b : Bool} {q : Bool} {nx : Nat} {O : Heap} {k : SV → Nat → Heap → Prop} (h : Fun c.P f args' (.v (.bool b))) (hv : Later (subL O [] (fun _ => true) args args')) (ha : pureL args' = true) (h1 : b = true → k (.v (.bool true)) nx O) (h0 : b = false → k (.v (.bool false)) nx O) : CallOK c f args q nx O k :=
  Fun.callv h hv ha rfl (by cases b <;> simp_all)
end Go.Eng
