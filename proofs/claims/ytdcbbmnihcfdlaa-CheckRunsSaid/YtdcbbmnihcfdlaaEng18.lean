/- A part of the engine that walks a function of the given program: sound rules, no statement of its own. -/
import Derived.Test.YtdcbbmnihcfdlaaEng17
set_option linter.unusedVariables false
set_option linter.unusedSimpArgs false
set_option linter.unnecessarySimpa false
set_option linter.constructorNameAsVariable false
set_option linter.all false
set_option linter.unusedVariables false
set_option linter.unusedSimpArgs false
namespace Go.Eng

/-! ### A function's contract from its code -/
def tabOf : List SV → Nat → Tab
  | [], _ => []
  | s :: ss, i => (i, s) :: tabOf ss (i + 1)
/-- The ids of the begin are kept. -/
def keep (n : Nat) (σ : Ren) : Bool := σ.take n == (List.range n).map some
theorem keep_spec {n : Nat} {σ : Ren} (h : keep n σ = true) : ∀ i, i < n → σ[i]? = some (some i) := by
  intro i hi
  have e : σ.take n = (List.range n).map some := by simpa [keep] using h
  have : (σ.take n)[i]? = some (some i) := by rw [e]; simp [hi]
  rw [List.getElem?_take, if_pos hi] at this
  exact this
/-- What a result comes to: ids renamed, rows handed over to be read. -/
def Gives (n0 : Nat) (nx : Nat) (O : Heap) (post : SV → Nat → Heap → Prop) (s : SV) : Prop :=
  ∃ (σ : Ren) (nx' : Nat) (s' : SV) (O' : Heap), keep n0 σ = true ∧ Wk nx [(0, s)] O σ nx' [(0, s')] O' ∧ post s' nx' O'
def Ends (P : Program) (r : List ResultVar) (n0 : Nat) (post : SV → Nat → Heap → Prop) : AbsPost := fun e nx T O => match e with
  | .normal | .ret => vresult P T O r (Gives n0 nx O post)
  | _ => False

theorem look_tabOf {w : World} {ρ : List Value} {A : Nat → Prop} : ∀ {args : List SV} {us : List Value} {i d : Nat} {s : SV}, DenAll w ρ A args us → look (tabOf args i) d = some s → ∃ u, i ≤ d ∧ us[d - i]? = some u ∧ Den w ρ A s u
  | [], us, i, d, s, h, hl => by simp [tabOf, look] at hl
  | a :: args, us, i, d, s, h, hl => by
    simp only [DenAll] at h
    obtain ⟨u, us', rfl, h1, h2⟩ := h
    simp only [tabOf, look] at hl
    split at hl
    · rename_i e
      subst e
      cases hl
      exact ⟨u, Nat.le_refl _, by simp, h1⟩
    · obtain ⟨v, h3, h4, h5⟩ := look_tabOf h2 hl
      exact ⟨v, by omega, by rw [show d - i = (d - (i + 1)) + 1 from by omega]; simpa using h4, h5⟩

theorem Spec.of_vc {P : Program} {f : FuncId} {fn : Func} {code : Code} {nx : Nat} {args : List SV} {O : Heap} {post : SV → Nat → Heap → Prop} {q : Bool}
    (hf : P.funcs[f]? = some fn) (hb : fn.body = some code) (ha : args.length ≤ fn.ntmps) (hq : q = true → O = [])
    (h : ∀ c : Cx, c.P = P → c.n = fn.ntmps → c.r0.length = nx → SWP c code nx (tabOf args 0) O (Ends P fn.results.toList nx post)) : Spec P f nx args O q post := by
  intro Y w ρ hl hS vs hD
  refine calls_of_wp hf hb ?_
  let c : Cx := ⟨P, fn.ntmps, w, OwnB ρ O, Y, ρ⟩
  have hlen := hD.length
  have hst : St c w ρ nx (tabOf args 0) O (vs.toArray ++ Array.replicate (fn.ntmps - vs.toArray.size) undef) := by
    refine ⟨hS, hl, by simp [c]; omega, fun d s hlk => ?_, Frm.refl _ _, fun b hb _ => hb, fun i v hi => hi⟩
    obtain ⟨u, _, h1, h2⟩ := look_tabOf hD hlk
    refine ⟨u, ?_, h2⟩
    have hd : d < vs.length := (List.getElem?_eq_some_iff.1 h1).1
    rw [Array.getElem?_append_left (by simpa using hd)]
    simpa using h1
  refine wp_mono (h c rfl rfl hl w ρ _ hst) fun e a w' hl' => ?_
  have key : ∀ {nx1 T1 O1 ρ1}, St c w' ρ1 nx1 T1 O1 a.tmps → a.defers = [] → vresult P T1 O1 fn.results.toList (Gives nx nx1 O1 post) → a.defers = [] ∧ ∃ v, (results fn a.tmps).run P w' = .ok v w' ∧ ∃ u s ρ' nx' O', Ending.returned v = .returned u ∧ ρ'.length = nx' ∧ Sat w' ρ' Y O' ∧ Tr w ρ (Av Y ρ O) w' ρ' (Av Y ρ' O') ∧ Frm w (OwnB ρ O) w' ∧
      (∀ b, OwnB ρ' O' b → b < w.heap.size → OwnB ρ O b) ∧ Den w' ρ' (Av Y ρ' O') s u ∧ post s nx' O' ∧ (q = true → Same w w') := by
    intro nx1 T1 O1 ρ1 hst1 hd hr
    obtain ⟨s, u, ⟨σ, nx', s', O', hk, hwk, hp⟩, h2, h3⟩ := vresult_sound (fn := fn) hst1 hr
    refine ⟨hd, u, h3, ?_⟩
    have hst2 : St { c with n := 1 } w' ρ1 nx1 [(0, s)] O1 #[u] := by
      refine ⟨hst1.sat, hst1.nx, rfl, fun d s1 hl1 => ?_, hst1.frm, hst1.own, hst1.pre⟩
      simp only [look] at hl1
      split at hl1
      · rename_i e0
        cases hl1
        subst e0
        exact ⟨u, rfl, h2⟩
      · cases hl1
    have hst3 := hst2.wk hwk (by rw [show ({ c with n := 1 } : Cx).r0.length = nx from hl]; exact keep_spec hk)
    obtain ⟨u', hu', hd'⟩ := hst3.tmps 0 s' (by simp [look])
    simp only [List.getElem?_toArray, List.getElem?_cons_zero, Option.some.injEq] at hu'
    subst hu'
    refine ⟨u, s', _, nx', O', rfl, hst3.nx, hst3.sat, ⟨fun b hb hn => ⟨hst3.frm.block b hb fun ho => hn (.inr ho), fun ha => ?_⟩, hst3.pre, hst3.frm.size⟩, hst3.frm, hst3.own, hd', hp, fun hq1 => ?_⟩
    · rcases ha with ha | ha
      · exact hn (.inl ha)
      · exact hn (.inr (hst3.own b ha hb))
    · have := hq hq1
      subst this
      exact ⟨hst3.frm.size, fun b hb => hst3.frm.block b hb fun ⟨_, _, _, hm, _⟩ => by cases hm⟩
  cases e with
  | normal => obtain ⟨hd, ρ1, nx1, T1, O1, hst1, hk⟩ := hl'; exact key hst1 hd hk
  | ret => obtain ⟨hd, ρ1, nx1, T1, O1, hst1, hk⟩ := hl'; exact key hst1 hd hk
  | panic => exact hl'.elim
  | outgrown => exact hl'.elim
  | exit i => obtain ⟨hd, ρ1, nx1, T1, O1, hst1, hk⟩ := hl'; exact hk.elim
  | goto i => obtain ⟨hd, ρ1, nx1, T1, O1, hst1, hk⟩ := hl'; exact hk.elim

/-- The same, the code being walked. -/
theorem Spec.walk {P : Program} {f : FuncId} {fn : Func} {code : Code} {nx : Nat} {args : List SV} {O : Heap} {post : SV → Nat → Heap → Prop} {q : Bool}
    (hf : P.funcs[f]? = some fn) (hb : fn.body = some code) (ha : args.length ≤ fn.ntmps) (hq : q = true → O = [])
    (h : ∀ c : Cx, c.P = P → c.n = fn.ntmps → c.r0.length = nx → vc c code nx (tabOf args 0) O (Ends P fn.results.toList nx post)) : Spec P f nx args O q post :=
  Spec.of_vc hf hb ha hq fun c h1 h2 h3 => vc_sound (h c h1 h2 h3)
end Go.Eng
