/- A part of the engine that walks a function of the given program: sound rules, no statement of its own. -/
import Derived.Test.YtdcbbmnihcfdlaaEng19
set_option linter.unusedVariables false
set_option linter.unusedSimpArgs false
set_option linter.unnecessarySimpa false
set_option linter.constructorNameAsVariable false
set_option linter.all false
set_option linter.unusedVariables false
set_option linter.unusedSimpArgs false
namespace Go.Eng

theorem SWP.loop {c : Cx} {b : Code} {nx nx' n0 : Nat} {T T' : Tab} {O O' : Heap} {K : AbsPost} (σ : Ren) (hr : c.r0.length = n0) (hk : keep n0 σ = true) (hw : Later (Wk nx T O σ nx' T' O')) (h : LWP c b nx' T' O' K) : SWP c (.loop b) nx T O K :=
  SWP.wk σ (by rw [hr]; exact keep_spec hk) hw.out h.loop
theorem LWP.next {c : Cx} {b : Code} {nx nx' n0 : Nat} {T T' : Tab} {O O' : Heap} {K : AbsPost} (h : LWP c b nx' T' O' K) (σ : Ren) (hr : c.r0.length = n0) (hk : keep n0 σ = true) (hw : Later (Wk nx T O σ nx' T' O')) : LWP c b nx T O K :=
  LWP.wk σ (by rw [hr]; exact keep_spec hk) hw.out h
/-- Code that is walked without a word of the prover's; regions of 'stops' are not. -/
def easy (stops : List Nat) : Code → Bool
  | .seq (.region id _ _) _ => !stops.contains id
  | .seq (.seq (.region id _ _) _) _ => !stops.contains id
  | .region _ _ true => false
  | .loop _ => false
  | .scope _ => false
  | _ => true
theorem SWP.go (stops : List Nat) {c : Cx} {code : Code} {nx : Nat} {T : Tab} {O : Heap} {K : AbsPost} (he : easy stops code = true) (h : vc c code nx T O K) : SWP c code nx T O K := vc_sound h
theorem SWP.next {c : Cx} {b : Code} {nx nx' n0 : Nat} {T T' : Tab} {O O' : Heap} {K : AbsPost} (h : SWP c b nx' T' O' K) (σ : Ren) (hr : c.r0.length = n0) (hk : keep n0 σ = true) (hw : Later (Wk nx T O σ nx' T' O')) : SWP c b nx T O K :=
  SWP.wk σ (by rw [hr]; exact keep_spec hk) hw.out h
/-- A loop by a measure of its ghost. -/
theorem LWP.ind {c : Cx} {b : Code} {K : AbsPost} {α : Type} (m : α → Nat) (nx : α → Nat) (T : α → Tab) (O : α → Heap) (I : α → Prop)
    (step : ∀ a, I a → (∀ a', Later (m a' < m a ∧ I a') → LWP c b (nx a') (T a') (O a') K) → vc c b (nx a) (T a) (O a) (Rnd c b K)) : ∀ a, I a → LWP c b (nx a) (T a) (O a) K := by
  intro a
  induction h : m a using Nat.strongRecOn generalizing a with
  | _ n ih =>
    intro ha
    refine LWP.round (vc_sound (step a ha fun a' hh => ih (m a') (h ▸ hh.out.1) a' rfl hh.out.2))

theorem Fun.callb {c : Cx} {f : FuncId} {args : List SV} {b : Bool} {q : Bool} {nx : Nat} {O : Heap} {k : SV → Nat → Heap → Prop} (h : Fun c.P f args (.v (.bool b))) (ha : pureL args = true) (h1 : b = true → k (.v (.bool true)) nx O) (h0 : b = false → k (.v (.bool false)) nx O) : CallOK c f args q nx O k :=
  Fun.call h ha rfl (by cases b <;> simp_all)

theorem subRows_of {O : Heap} {σ : Ren} {fz : Nat → Bool} {r r' : List (List SV)} (h : r = r') (hp : pureRows r' = true) : subRows O σ fz r r' := by subst h; exact subRows_pure r hp
theorem osub_row {O : Heap} {σ : Ren} {fz : Nat → Bool} {e : TypeId} {sz : Nat} {r r' : List (List SV)} (h : r = r') (hp : pureRows r' = true) : osub O σ fz (.row e sz r) (.row e sz r') := by
  unfold osub; exact ⟨⟨rfl, rfl⟩, subRows_of h hp⟩
theorem pureRows_map {α : Type} {f : α → List SV} (h : ∀ a, pureL (f a) = true) : ∀ l : List α, pureRows (l.map f) = true
  | [] => rfl
  | a :: l => by simp only [List.map_cons, pureRows, h a, pureRows_map h l, Bool.and_self]
theorem take_getD {α : Type} [Inhabited α] {l : List α} {i : Nat} (h : i < l.length) : l.take (i + 1) = l.take i ++ [l.getD i default] := by
  rw [List.take_succ_eq_append_getElem h, List.getD_eq_getElem?_getD, List.getElem?_eq_getElem h]; rfl

theorem all_getD {α : Type} [Inhabited α] {l : List α} {p : α → Bool} (h : ∀ j, j < l.length → p (l.getD j default) = true) : l.all p = true := by
  rw [List.all_eq_true]
  intro x hx
  obtain ⟨j, hj, rfl⟩ := List.getElem_of_mem hx
  have := h j hj
  rwa [List.getD_eq_getElem?_getD, List.getElem?_eq_getElem hj] at this
theorem getD_all {α : Type} [Inhabited α] {l : List α} {p : α → Bool} (h : l.all p = true) (j : Nat) (hj : j < l.length) : p (l.getD j default) = true := by
  rw [List.getD_eq_getElem?_getD, List.getElem?_eq_getElem hj]
  exact List.all_eq_true.1 h _ (List.getElem_mem hj)
theorem bool_false {b : Bool} (h : b = true → False) : false = b := by cases b <;> simp_all

theorem row_get {α : Type} [Inhabited α] {l : List α} {f : α → List SV} {n : Int} (h0 : 0 ≤ n) (h : n < (l.length : Int)) : (l.map f)[n.toNat]? = some (f (l.getD n.toNat default)) := by
  have : n.toNat < l.length := by omega
  rw [List.getElem?_map, List.getElem?_eq_getElem this, List.getD_eq_getElem?_getD, List.getElem?_eq_getElem this]
  rfl
end Go.Eng
