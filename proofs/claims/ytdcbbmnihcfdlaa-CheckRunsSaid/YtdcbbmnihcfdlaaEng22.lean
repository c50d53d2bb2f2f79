/- A part of the engine that walks a function of the given program: sound rules, no statement of its own. -/
import Derived.Test.YtdcbbmnihcfdlaaEng21
set_option linter.unusedVariables false
set_option linter.unusedSimpArgs false
set_option linter.unnecessarySimpa false
set_option linter.constructorNameAsVariable false
set_option linter.all false
set_option linter.unusedVariables false
set_option linter.unusedSimpArgs false
namespace Go.Eng

/-- The one row that was handed in, handed back. -/
theorem Gives.row0 {nx : Nat} {O : Heap} {post : SV → Nat → Heap → Prop} {e : TypeId} {sz : Nat} {rows : List (List SV)} {s : SV} (hs : pure1 s = true) (hf : find O 0 = some (.row e sz rows)) (hp : pureRows rows = true) (hh : Later (post s 1 [(0, .row e sz rows)])) : Gives 1 nx O post s := by
  refine ⟨[some 0], 1, s, [(0, .row e sz rows)], rfl, ⟨rfl, rfl, ?_, ?_⟩, hh.out⟩
  · simp only [objsOK, List.getElem?_cons_zero, hf, osub, true_and, and_true]
    exact subRows_pure rows hp
  · simp only [tabOK, look, if_true, and_true]; exact sub_pure s hs
theorem Spec.walk' {P : Program} {f : FuncId} {fn : Func} {code : Code} {nx : Nat} {args : List SV} {O : Heap} {post : SV → Nat → Heap → Prop}
    (hf : P.funcs[f]? = some fn) (hb : fn.body = some code) (ha : args.length ≤ fn.ntmps)
    (h : ∀ c : Cx, c.P = P → c.n = fn.ntmps → c.r0.length = nx → vc c code nx (tabOf args 0) O (Ends P fn.results.toList nx post)) : Spec P f nx args O false post :=
  Spec.of_vc hf hb ha (by simp) fun c h1 h2 h3 => vc_sound (h c h1 h2 h3)

theorem getD_rev {α : Type} (p : List α) (x : α) (tl : List α) : (p.reverse ++ x :: tl)[p.length]? = some x := by
  rw [List.getElem?_append_right (by simp)]; simp
theorem swap_rev {α β : Type} (f : α → β) (p : List α) (x y : α) (tl : List α) : (((((y :: p).reverse ++ x :: tl).map f).set (p.length + 1) (f y)).set p.length (f x)) = (p.reverse ++ x :: y :: tl).map f := by
  have e : (y :: p).reverse ++ x :: tl = p.reverse ++ y :: x :: tl := by simp
  rw [e]
  simp only [List.map_append, List.map_cons, List.map_reverse]
  rw [List.set_append_right _ _ (by simp)]
  simp only [List.length_reverse, List.length_map, Nat.add_sub_cancel_left]
  rw [List.set_append_right _ _ (by simp)]
  simp
theorem Spec.callE {c : Cx} {f : FuncId} {args : List SV} {nx : Nat} {O : Heap} {post : SV → Nat → Heap → Prop} {k : SV → Nat → Heap → Prop} (h : Spec c.P f nx args O false post)
    (hids : ∀ s n O', post s n O' → ∀ x ∈ O', x.1 < nx → ∃ y ∈ O, y.1 = x.1) (hk : ∀ s n O', post s n O' → k s n O') : CallOK c f args false nx O k :=
  Spec.call (O2 := []) h (by simp) hids fun s n O' hp => by simpa using hk s n O' hp
theorem Gives.intro {n0 nx : Nat} {O : Heap} {post : SV → Nat → Heap → Prop} {s : SV} (σ : Ren) (nx' : Nat) (s' : SV) (O' : Heap) (hk : keep n0 σ = true) (hh : Later (Wk nx [(0, s)] O σ nx' [(0, s')] O' ∧ post s' nx' O')) : Gives n0 nx O post s :=
  ⟨σ, nx', s', O', hk, hh.out.1, hh.out.2⟩
/-- A call that is handed the objects 'ids'. -/
theorem Spec.callF {c : Cx} {f : FuncId} {args : List SV} {nx : Nat} {O : Heap} {post : SV → Nat → Heap → Prop} {k : SV → Nat → Heap → Prop} (ids : List Nat) (h : Spec c.P f nx args (O.filter fun x => ids.contains x.1) false post)
    (hids : ∀ s n O', post s n O' → ∀ x ∈ O', x.1 < nx → ∃ y ∈ (O.filter fun x => ids.contains x.1), y.1 = x.1) (hk : ∀ s n O', post s n O' → k s n (O' ++ O.filter fun x => !ids.contains x.1)) : CallOK c f args false nx O k :=
  Spec.call h (List.filter_append_perm _ _).symm hids hk
end Go.Eng
