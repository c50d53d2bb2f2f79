/- A part of the engine that walks a function of the given program: sound rules, no statement of its own. -/
import Derived.Test.YtdcbbmnihcfdlaaEng18
set_option linter.unusedVariables false
set_option linter.unusedSimpArgs false
set_option linter.unnecessarySimpa false
set_option linter.constructorNameAsVariable false
set_option linter.all false
set_option linter.unusedVariables false
set_option linter.unusedSimpArgs false
namespace Go.Eng

/-- Shown later. -/
structure Later (p : Prop) : Prop where
  out : p

mutual
theorem sub_pure {O : Heap} {σ : Ren} {fz : Nat → Bool} : ∀ (s : SV), pure1 s = true → sub O σ fz s s
  | .v x, _ => by unfold sub; rfl
  | .rd sz r, _ => by unfold sub; exact ⟨rfl, rfl⟩
  | .agg l, h => by unfold sub; exact subL_pure l (by simpa [pure1] using h)
  | .tup l, h => by unfold sub; exact subL_pure l (by simpa [pure1] using h)
  | .fn f l, h => by unfold sub; exact ⟨rfl, subL_pure l (by simpa [pure1] using h)⟩
  | .ifc t x, h => by unfold sub; exact ⟨rfl, sub_pure x (by simpa [pure1] using h)⟩
  | .any, _ => by unfold sub; trivial
  | .own _, h => by simp [pure1] at h
  | .ptr _ _, h => by simp [pure1] at h
  | .rptr _ _ _ _, h => by simp [pure1] at h
  | .eptr l, _ => by unfold sub; rfl
  | .sub _ _ _ _ _, h => by simp [pure1] at h
theorem subL_pure {O : Heap} {σ : Ren} {fz : Nat → Bool} : ∀ (s : List SV), pureL s = true → subL O σ fz s s
  | [], _ => by unfold subL; rfl
  | s :: ss, h => by
    simp only [pureL, Bool.and_eq_true] at h
    unfold subL
    exact ⟨sub_pure s h.1, subL_pure ss h.2⟩
end
theorem subRows_pure {O : Heap} {σ : Ren} {fz : Nat → Bool} : ∀ (s : List (List SV)), pureRows s = true → subRows O σ fz s s
  | [], _ => by unfold subRows; rfl
  | s :: ss, h => by
    simp only [pureRows, Bool.and_eq_true] at h
    unfold subRows
    exact ⟨subL_pure s h.1, subRows_pure ss h.2⟩

def idR (n : Nat) : Ren := (List.range n).map some
theorem keep_idR (n : Nat) (l : Ren) : keep n (idR n ++ l) = true := by
  unfold keep idR
  rw [List.take_append_of_le_length (by simp)]
  simp [List.take_of_length_le]
theorem idR_length (n : Nat) : (idR n).length = n := by simp [idR]
theorem idR_get {n i : Nat} (l : Ren) (h : i < n) : (idR n ++ l)[i]? = some (some i) := by
  rw [List.getElem?_append_left (by simpa [idR] using h)]
  simp [idR, h]
theorem idR_new {n : Nat} (x : Option Nat) (l : Ren) : (idR n ++ x :: l)[n]? = some x := by
  rw [List.getElem?_append_right (by simp [idR])]
  simp [idR]

/-- A result that leads to nothing of one's own. -/
theorem Gives.pure {n0 nx : Nat} {O : Heap} {post : SV → Nat → Heap → Prop} {s : SV} (hp : pure1 s = true) (hh : Later (post s n0 [])) : Gives n0 nx O post s :=
  ⟨idR n0, n0, s, [], by simpa using keep_idR n0 [], ⟨idR_length n0, by simp [distOK], by simp [objsOK], by simp only [tabOK, look, if_true, and_true]; exact sub_pure s hp⟩, hh.out⟩
/-- A row of one's own, handed over to be read. -/
theorem Gives.rows {n0 nx id : Nat} {O : Heap} {post : SV → Nat → Heap → Prop} {e : TypeId} {sz : Nat} {rows : List (List SV)} (hf : find O id = some (.row e sz rows)) (hp : pureRows rows = true) (hn : n0 ≤ id) (hh : Later (post (.rd sz rows) n0 [])) : Gives n0 nx O post (.own id) := by
  refine ⟨idR n0, n0, .rd sz rows, [], by simpa using keep_idR n0 [], ⟨idR_length n0, by simp [distOK], by simp [objsOK], ?_⟩, hh.out⟩
  simp only [tabOK, look, if_true, and_true]
  unfold sub
  refine ⟨?_, ?_⟩
  · simp only [fzOf, Bool.not_eq_true', idR]
    rw [← Bool.not_eq_true, List.contains_iff_mem]
    simp; omega
  · simp only [hf, hp, true_and]
    exact subRows_pure rows hp
/-- A nil slice as one that is read. -/
theorem Gives.nil {n0 nx sz : Nat} {O : Heap} {post : SV → Nat → Heap → Prop} (hh : Later (post (.rd sz []) n0 [])) : Gives n0 nx O post (.v (.slice none 0 0)) := by
  refine ⟨idR n0, n0, .rd sz [], [], by simpa using keep_idR n0 [], ⟨idR_length n0, by simp [distOK], by simp [objsOK], ?_⟩, hh.out⟩
  simp only [tabOK, look, if_true, and_true]
  unfold sub
  rfl
/-- A row of one's own, handed over. -/
theorem Gives.own {n0 nx id : Nat} {O : Heap} {post : SV → Nat → Heap → Prop} {e : TypeId} {sz : Nat} {rows : List (List SV)} (hf : find O id = some (.row e sz rows)) (hp : pureRows rows = true) (hh : Later (post (.own n0) (n0 + 1) [(n0, .row e sz rows)])) : Gives n0 nx O post (.own id) := by
  refine ⟨idR n0 ++ [some id], n0 + 1, .own n0, [(n0, .row e sz rows)], keep_idR n0 _, ⟨by simp [idR], by simp [distOK, idR_new], ?_, ?_⟩, hh.out⟩
  · simp only [objsOK, and_true, idR_new, hf, osub, true_and]
    exact subRows_pure rows hp
  · simp only [tabOK, look, if_true, and_true]
    unfold sub
    exact idR_new _ _

/-! ### Functions that read alone -/
theorem Sat.same {w w' : World} {ρ : List Value} {Y : Nat → Prop} {O : Heap} (h : Sat w ρ Y O) (hs : Same w w') : Sat w' ρ Y O ∧ Tr w ρ (Av Y ρ O) w' ρ (Av Y ρ O) :=
  h.change (fun _ => False) hs.1 (fun _ _ h => h) (fun b hb _ => hs.2 b hb) (fun _ h => h.elim) (fun b hb => ⟨.inl hb, Nat.lt_of_lt_of_le (h.lt b (.inr hb)) hs.1⟩) h.apart (fun x hx => .inl ⟨hx, fun _ _ _ _ h => h⟩)
theorem ownB_nil {ρ : List Value} {b : Nat} : ¬ OwnB ρ [] b := fun ⟨_, _, _, h, _⟩ => (by cases h)
theorem Sat.nil {w : World} {Y : Nat → Prop} (h : ∀ b, Y b → b < w.heap.size) (ρ : List Value) : Sat w ρ Y [] :=
  ⟨fun _ h => (by cases h), List.Pairwise.nil, fun b hb => hb.elim (h b) fun h => (ownB_nil h).elim, fun _ _ h => ownB_nil h⟩

/-- A function of values alone: what it gives. -/
def Fun (P : Program) (f : FuncId) (args : List SV) (r : SV) : Prop := Spec P f 0 args [] true fun s n O => s = r ∧ n = 0 ∧ O = []
theorem Fun.call {c : Cx} {f : FuncId} {args : List SV} {r : SV} {q : Bool} {nx : Nat} {O : Heap} {k : SV → Nat → Heap → Prop} (h : Fun c.P f args r) (ha : pureL args = true) (hr : pure1 r = true) (hk : k r nx O) : CallOK c f args q nx O k := by
  intro w ρ hS hl hF hO vs hD
  have hS0 : Sat w [] (Av c.Y ρ O) [] := Sat.nil hS.lt []
  have hD0 : DenAll w [] (Av (Av c.Y ρ O) [] []) args vs := PdAll.den _ _ (PdAll.tr (Tr.less (ρ := []) fun b hb => hb.elim id fun h => (ownB_nil h).elim) _ _ (pdAll_of_pure _ _ ha hD))
  refine (h _ w [] rfl hS0 vs hD0).mono fun e w' hh => ?_
  obtain ⟨u, s, ρ', nx', O', a1, a2, a3, a4, a5, a6, a7, ⟨rfl, rfl, rfl⟩, a9⟩ := hh
  have hsame := a9 rfl
  obtain ⟨h1, h2⟩ := hS.same hsame
  refine ⟨u, s, ρ, nx, O, a1, hl, h1, h2, hF.step a5.os a5.tape a5.output hsame.1 fun b hb _ => hsame.2 b (Nat.lt_of_lt_of_le hb hF.size), hO, ?_, hk, fun _ => hsame⟩
  exact Pd.den _ _ (Pd.tr (Tr.less (ρ := ρ) fun b hb => .inl hb) _ _ (pd_of_pure _ _ hr a7))
theorem Fun.walk {P : Program} {f : FuncId} {fn : Func} {code : Code} {args : List SV} {r : SV}
    (hf : P.funcs[f]? = some fn) (hb : fn.body = some code) (ha : args.length ≤ fn.ntmps)
    (h : ∀ c : Cx, c.P = P → c.n = fn.ntmps → c.r0.length = 0 → vc c code 0 (tabOf args 0) [] (Ends P fn.results.toList 0 fun s n O => s = r ∧ n = 0 ∧ O = [])) : Fun P f args r :=
  Spec.walk hf hb ha (fun _ => rfl) fun c h1 h2 h3 => h c h1 h2 h3
end Go.Eng
