/- A part of the engine that walks a function of the given program: sound rules, no statement of its own. -/
import Derived.Test.YtdcbbmnihcfdlaaEng16
set_option linter.unusedVariables false
set_option linter.unusedSimpArgs false
set_option linter.unnecessarySimpa false
set_option linter.constructorNameAsVariable false
set_option linter.all false
set_option linter.unusedVariables false
set_option linter.unusedSimpArgs false
namespace Go.Eng

section
variable {c : Cx} {w : World} {ρ : List Value} {nx : Nat} {T : Tab} {O : Heap} {vals : Array Value}

/-! ### Weaker states -/
theorem SWP.wk {code : Code} {K : AbsPost} {nx' : Nat} {T' : Tab} {O' : Heap} (σ : Ren) (h0 : ∀ i, i < c.r0.length → σ[i]? = some (some i)) (hw : Wk nx T O σ nx' T' O') (h : SWP c code nx' T' O' K) : SWP c code nx T O K := fun w ρ vals hst => h w _ vals (hst.wk hw h0)
theorem LiftK.mono {K K' : AbsPost} (hk : ∀ e nx T O, K e nx T O → K' e nx T O) {e : Exit} {a : Act} {w : World} (h : LiftK c K e a w) : LiftK c K' e a w := by
  cases e <;> first | exact h.elim | exact ⟨h.1, h.2.imp fun ρ h => h.imp fun n h => h.imp fun T h => h.imp fun O h => ⟨h.1, hk _ _ _ _ h.2⟩⟩
theorem SWP.mono {code : Code} {K K' : AbsPost} (h : SWP c code nx T O K) (hk : ∀ e nx T O, K e nx T O → K' e nx T O) : SWP c code nx T O K' := fun w ρ vals hst => wp_mono (h w ρ vals hst) fun _ _ _ hl => hl.mono hk

/-! ### Loops -/
def LW (P : Program) (b : Code) (Q : Exit → Act → World → Prop) (a : Act) (w : World) : Prop :=
  ∀ (fr : Frame) (k : List Item) (cs : List Frame), ∃ e a' w', Q e a' w' ∧ Arrives P (lone (fr.at a (.code b :: .inLoop b :: k)) cs w) fr k cs e a' w'
theorem LW.loop {P : Program} {b : Code} {Q : Exit → Act → World → Prop} {a : Act} {w : World} (h : LW P b Q a w) : (Code.loop b).wp P Q a w := by
  intro fr k cs
  obtain ⟨e, a', w', hq, harr⟩ := h fr k cs
  exact ⟨e, a', w', hq, .of_steps (.one step_loop) harr⟩
theorem LW.step {P : Program} {b : Code} {Q : Exit → Act → World → Prop} {a : Act} {w : World} (h : b.wp P (Exit.then (LW P b Q) Q) a w) : LW P b Q a w := by
  intro fr k cs
  obtain ⟨e, a₁, w₁, hq, harr⟩ := h fr (.inLoop b :: k) cs
  cases e with
  | normal =>
    obtain ⟨e₂, a₂, w₂, hq₂, harr₂⟩ := hq fr k cs
    exact ⟨e₂, a₂, w₂, hq₂, .of_steps (Steps.trans harr (.one step_inLoop)) harr₂⟩
  | exit id => exact ⟨_, a₁, w₁, hq, .pass (x := .inLoop b) rfl (fun _ _ => .inl (by simp)) harr⟩
  | goto l => exact ⟨_, a₁, w₁, hq, .pass (x := .inLoop b) rfl (fun _ _ => .inl (by simp)) harr⟩
  | ret => exact ⟨_, a₁, w₁, hq, .pass (x := .inLoop b) rfl (fun _ _ => .inl (by simp)) harr⟩
  | panic ch => exact ⟨_, a₁, w₁, hq, .pass (x := .inLoop b) rfl (fun _ _ => .inl (by simp)) harr⟩
  | outgrown => exact ⟨_, a₁, w₁, hq, .pass (x := .inLoop b) rfl (fun _ _ => .inl (by simp)) harr⟩

/-- A loop from a state on, its body about to be run. -/
def LWP (c : Cx) (b : Code) (nx : Nat) (T : Tab) (O : Heap) (K : AbsPost) : Prop := ∀ w ρ vals, St c w ρ nx T O vals → LW c.P b (LiftK c K) ⟨vals, []⟩ w
theorem LWP.loop {b : Code} {K : AbsPost} (h : LWP c b nx T O K) : SWP c (.loop b) nx T O K := fun w ρ vals hst => (h w ρ vals hst).loop
theorem LWP.wk {b : Code} {K : AbsPost} {nx' : Nat} {T' : Tab} {O' : Heap} (σ : Ren) (h0 : ∀ i, i < c.r0.length → σ[i]? = some (some i)) (hw : Wk nx T O σ nx' T' O') (h : LWP c b nx' T' O' K) : LWP c b nx T O K := fun w ρ vals hst => h w _ vals (hst.wk hw h0)
/-- What a round's end comes to. -/
def Rnd (c : Cx) (b : Code) (K : AbsPost) : AbsPost := fun e nx T O => match e with | .normal => LWP c b nx T O K | e => K e nx T O
theorem LWP.round {b : Code} {K : AbsPost} (h : SWP c b nx T O (Rnd c b K)) : LWP c b nx T O K := by
  intro w ρ vals hst
  refine LW.step (wp_mono (h w ρ vals hst) fun e a w hl => ?_)
  cases e with
  | normal =>
    obtain ⟨hd, ρ', nx', T', O', hst', hk⟩ := hl
    have : a = ⟨a.tmps, []⟩ := by cases a; simp only at hd; subst hd; rfl
    rw [this]
    exact hk w ρ' _ hst'
  | panic => exact hl
  | outgrown => exact hl
  | exit i => exact hl
  | goto i => exact hl
  | ret => exact hl

/-! ### What a function gives -/
def vres (P : Program) (T : Tab) (O : Heap) : List ResultVar → (List SV → Prop) → Prop
  | [], k => k []
  | .tmp t :: r, k => vres P T O r fun l => k (ev T (.tmp t) :: l)
  | .cell a t :: r, k => vload P O t (ev T (.tmp a)) fun s => vres P T O r fun l => k (s :: l)
def vresult (P : Program) (T : Tab) (O : Heap) (r : List ResultVar) (k : SV → Prop) : Prop := vres P T O r fun l => match l with | [s] => k s | l => k (.tup l)

def resF (tmps : Array Value) (x : ResultVar) : Sem Value := match x with
  | .tmp t => pure (tmps.getD t undef)
  | .cell a t => do loadVar t (← asAddr (tmps.getD a undef))
theorem resF_cell {P : Program} {a : Tmp} {t : TypeId} {v : Value} (e : (Instr.loadAt t ((⟨vals, []⟩ : Act).eval (.tmp a))).run P w = .ok v w) : (resF vals (.cell a t)).run P w = .ok v w := by
  simp only [Act.eval] at e
  cases hx : vals.getD a undef with
  | pointer p =>
    rw [hx] at e
    cases p with
    | some p =>
      simp only [Instr.loadAt, Instr.sureAddr, Sem.run_bind, Sem.run_pure, Result.andThen_ok] at e
      simp only [resF, hx, asAddr, Sem.run_bind, Sem.run_pure, Result.andThen_ok, e]
    | none => simp [Instr.loadAt, Instr.sureAddr, Sem.run_bind] at e
  | _ => rw [hx] at e; simp [Instr.loadAt, Instr.sureAddr, Sem.run_bind] at e
theorem vres_sound (hst : St c w ρ nx T O vals) : ∀ (r : List ResultVar) {k : List SV → Prop}, vres c.P T O r k → ∃ l us, k l ∧ DenAll w ρ (Av c.Y ρ O) l us ∧ (r.mapM (resF vals)).run c.P w = .ok us w
  | [], k, h => ⟨[], [], h, rfl, by simp [Sem.run_pure]⟩
  | .tmp t :: r, k, h => by
    obtain ⟨l, us, h1, h2, h3⟩ := vres_sound hst r h
    refine ⟨_, vals.getD t undef :: us, h1, ?_, ?_⟩
    · simp only [DenAll]; exact ⟨_, _, rfl, hst.ev (.tmp t), h2⟩
    · simp [List.mapM_cons, resF, Sem.run_bind, h3]
  | .cell a t :: r, k, h => by
    obtain ⟨s, v, h0, hd, hrun⟩ := vload_sound hst.sat (hst.ev (.tmp a)) h
    obtain ⟨l, us, h1, h2, h3⟩ := vres_sound hst r h0
    refine ⟨_, v :: us, h1, ?_, ?_⟩
    · simp only [DenAll]; exact ⟨_, _, rfl, hd, h2⟩
    · simp [List.mapM_cons, Sem.run_bind, h3, resF_cell (hrun w (Same.refl w))]
theorem vresult_sound (hst : St c w ρ nx T O vals) {fn : Func} {k : SV → Prop} (h : vresult c.P T O fn.results.toList k) : ∃ s u, k s ∧ Den w ρ (Av c.Y ρ O) s u ∧ (results fn vals).run c.P w = .ok u w := by
  obtain ⟨l, us, h1, h2, h3⟩ := vres_sound hst _ h
  have hrun : (results fn vals).run c.P w = .ok (if h : us.toArray.size = 1 then us.toArray[0] else .tuple us.toArray) w := by
    have e : (results fn vals) = (do let vs ← fn.results.mapM (resF vals); pure (if h : vs.size = 1 then vs[0] else .tuple vs)) := rfl
    rw [e, ← Array.toArray_toList (xs := fn.results), List.mapM_toArray]
    simp only [Sem.run_bind, Sem.run_map, h3, Result.andThen_ok, Sem.run_pure]
  split at h1
  · rename_i s
    simp only [DenAll] at h2
    obtain ⟨u, us', rfl, h4, rfl⟩ := h2
    exact ⟨s, u, h1, h4, by simpa using hrun⟩
  · rename_i hne
    refine ⟨_, _, h1, by simp only [Den]; exact ⟨us, rfl, h2⟩, ?_⟩
    rw [hrun, dif_neg]
    intro h1
    have := h2.length
    simp only [List.size_toArray] at h1
    rw [h1] at this
    match l, this with
    | [s], _ => exact hne s rfl

end
end Go.Eng
