/- A part of the engine that walks a function of the given program: sound rules, no statement of its own. -/
import Derived.Test.YtdcbbmnihcfdlaaEng12
set_option linter.unusedVariables false
set_option linter.unusedSimpArgs false
set_option linter.unnecessarySimpa false
set_option linter.constructorNameAsVariable false
set_option linter.all false
set_option linter.unusedVariables false
set_option linter.unusedSimpArgs false
namespace Go.Eng

/-- A call: what comes of it. -/
def CallOK (c : Cx) (f : FuncId) (args : List SV) (q : Bool) (nx : Nat) (O : Heap) (k : SV → Nat → Heap → Prop) : Prop :=
  ∀ w ρ, Sat w ρ c.Y O → ρ.length = nx → Frm c.w0 c.F w → (∀ b, OwnB ρ O b → b < c.w0.heap.size → c.F b) → ∀ vs, DenAll w ρ (Av c.Y ρ O) args vs →
    Calls c.P f vs.toArray w fun e w' => ∃ u s ρ' nx' O', e = .returned u ∧ ρ'.length = nx' ∧ Sat w' ρ' c.Y O' ∧ Tr w ρ (Av c.Y ρ O) w' ρ' (Av c.Y ρ' O') ∧ Frm c.w0 c.F w' ∧
      (∀ b, OwnB ρ' O' b → b < c.w0.heap.size → c.F b) ∧ Den w' ρ' (Av c.Y ρ' O') s u ∧ k s nx' O' ∧ (q = true → Same w w')

/-- A function that may be called. -/
def Bd (P : Program) (f : FuncId) : Prop := ∃ fn, P.funcs[f]? = some fn ∧ (fn.name == "runtime.NumGoroutine") = false ∧ fn.body.isSome = true

theorem DenAll.map_ev {c : Cx} {w : World} {ρ : List Value} {nx : Nat} {T : Tab} {O : Heap} {vals : Array Value} (h : St c w ρ nx T O vals) (l : List Operand) : DenAll w ρ (Av c.Y ρ O) (l.map (ev T)) (l.map (⟨vals, []⟩ : Act).eval) := by
  induction l with
  | nil => simp [DenAll]
  | cons a l ih => simp only [List.map_cons, DenAll]; exact ⟨_, _, rfl, h.ev a, ih⟩

theorem call_ok {c : Cx} {nx : Nat} {T : Tab} {O : Heap} {o : Oper} {q : Bool} {k : Nat → Tab → Heap → Prop} {cl : Call} {fo : Operand} {f : FuncId} {caps : List SV} (ho : o.op = .call cl) (h1 : cl.callee = .value fo) (hf : ev T fo = .fn f caps) (hb : Bd c.P f) (hd : dok c.n o.dst = true)
    (h : CallOK c f (cl.args.toList.map (ev T) ++ caps) q nx O fun s nx' O' => k nx' (putT o.dst s T) O') : OpOK c o q nx T O k := by
  intro w ρ vals hst Q N hN
  have hfd := hst.ev fo
  rw [hf] at hfd
  simp only [Den] at hfd
  obtain ⟨us, hfv, hcaps⟩ := hfd
  obtain ⟨fn, hfn, hname, hbody⟩ := hb
  have hexec : (execOp (⟨vals, []⟩ : Act).eval o).run c.P w = .ok (.enter f (cl.args.toList.map (⟨vals, []⟩ : Act).eval ++ us).toArray) w := by
    have e : cl.args.map (⟨vals, []⟩ : Act).eval = (cl.args.toList.map (⟨vals, []⟩ : Act).eval).toArray := by rw [← List.map_toArray, Array.toArray_toList]
    have hbn : fn.body.isNone = false := by cases hh : fn.body <;> simp_all
    simp only [execOp, ho, resolve, h1, hfv, Deferred.ofValue, Sem.run_bind, Sem.run_pure, Result.andThen_ok, invoke, callFunc, e, List.append_toArray, List.nil_append]
    have hn' : ¬ fn.name = "runtime.NumGoroutine" := by simpa using hname
    have hb' : ¬ fn.body = none := by intro h0; rw [h0] at hbody; cases hbody
    simp [Sem.run_bind, hfn, hn', hb']
  unfold Oper.wp
  rw [hexec]
  simp only [Oper.upon]
  refine (h w ρ hst.sat hst.nx hst.frm hst.own _ ((DenAll.map_ev hst _).append hcaps)).mono fun e w' hh => ?_
  obtain ⟨u, s, ρ', nx', O', rfl, hl, hS, hT, hF, hO, hD, hk, hq⟩ := hh
  dsimp only
  rw [putAct]
  have := hst.next hS hT hF hO o.dst hD (dok_spec hd)
  rw [hl] at this
  exact hN _ _ _ _ _ _ this hk hq

/-! ### Contracts -/
def Spec (P : Program) (f : FuncId) (nx : Nat) (args : List SV) (O : Heap) (q : Bool) (post : SV → Nat → Heap → Prop) : Prop :=
  ∀ (Y : Nat → Prop) w ρ, ρ.length = nx → Sat w ρ Y O → ∀ vs, DenAll w ρ (Av Y ρ O) args vs →
    Calls P f vs.toArray w fun e w' => ∃ u s ρ' nx' O', e = .returned u ∧ ρ'.length = nx' ∧ Sat w' ρ' Y O' ∧ Tr w ρ (Av Y ρ O) w' ρ' (Av Y ρ' O') ∧ Frm w (OwnB ρ O) w' ∧
      (∀ b, OwnB ρ' O' b → b < w.heap.size → OwnB ρ O b) ∧ Den w' ρ' (Av Y ρ' O') s u ∧ post s nx' O' ∧ (q = true → Same w w')

theorem Spec.mono {P : Program} {f : FuncId} {nx : Nat} {args : List SV} {O : Heap} {q : Bool} {post post' : SV → Nat → Heap → Prop} (h : Spec P f nx args O q post) (hp : ∀ s n O', post s n O' → post' s n O') : Spec P f nx args O q post' :=
  fun Y w ρ h1 h2 vs h3 => (h Y w ρ h1 h2 vs h3).mono fun e w' ⟨u, s, ρ', nx', O', a1, a2, a3, a4, a5, a6, a7, a8, a9⟩ => ⟨u, s, ρ', nx', O', a1, a2, a3, a4, a5, a6, a7, hp _ _ _ a8, a9⟩

theorem Frm.refl (w : World) (F : Nat → Prop) : Frm w F w := ⟨rfl, rfl, rfl, Nat.le_refl _, fun _ _ _ => rfl⟩

section
variable {w : World} {ρ : List Value} {Y : Nat → Prop}
theorem ownB_append {O1 O2 : Heap} {b : Nat} : OwnB ρ (O1 ++ O2) b ↔ OwnB ρ O1 b ∨ OwnB ρ O2 b := by
  constructor
  · rintro ⟨id, obj, v, hm, hv, hb⟩
    rcases List.mem_append.1 hm with hm | hm
    · exact .inl ⟨id, obj, v, hm, hv, hb⟩
    · exact .inr ⟨id, obj, v, hm, hv, hb⟩
  · rintro (⟨id, obj, v, hm, hv, hb⟩ | ⟨id, obj, v, hm, hv, hb⟩)
    · exact ⟨id, obj, v, List.mem_append_left _ hm, hv, hb⟩
    · exact ⟨id, obj, v, List.mem_append_right _ hm, hv, hb⟩
theorem ownB_perm {O1 O2 : Heap} (h : O1.Perm O2) {b : Nat} : OwnB ρ O1 b ↔ OwnB ρ O2 b :=
  ⟨fun ⟨id, obj, v, hm, hv, hb⟩ => ⟨id, obj, v, h.mem_iff.1 hm, hv, hb⟩, fun ⟨id, obj, v, hm, hv, hb⟩ => ⟨id, obj, v, h.mem_iff.2 hm, hv, hb⟩⟩
theorem Apart.symm {x y : Nat × OObj} (h : Apart ρ x y) : Apart ρ y x := ⟨fun e => h.1 e.symm, fun v u b hv hu hb hub => h.2 u v b hu hv hub hb⟩
theorem SatObj.less {A A' : Nat → Prop} (h : ∀ b, A' b → A b) {obj : OObj} {v : Value} (hs : SatObj w ρ A obj v) : SatObj w ρ A' obj v := hs.tr (Tr.less h) fun _ _ => rfl

theorem Sat.perm {O1 O2 : Heap} (h : Sat w ρ Y O1) (hp : O1.Perm O2) : Sat w ρ Y O2 := by
  have e : ∀ b, Av Y ρ O2 b → Av Y ρ O1 b := fun b hb => hb.imp id (ownB_perm hp).2
  refine ⟨fun x hx => ?_, (hp.pairwise_iff fun h => Apart.symm h).1 h.apart, fun b hb => h.lt b (e b hb), fun b hy ho => h.out b hy ((ownB_perm hp).2 ho)⟩
  obtain ⟨v, hv, hs⟩ := h.objs x (hp.mem_iff.2 hx)
  exact ⟨v, hv, hs.less e⟩

/-- A part of the heap, the rest being others'. -/
theorem Sat.part {O1 O2 : Heap} (h : Sat w ρ Y (O1 ++ O2)) : Sat w ρ (fun b => Y b ∨ OwnB ρ O2 b) O1 := by
  have e : ∀ b, Av (fun b => Y b ∨ OwnB ρ O2 b) ρ O1 b → Av Y ρ (O1 ++ O2) b := by
    rintro b ((hb | hb) | hb)
    · exact .inl hb
    · exact .inr (ownB_append.2 (.inr hb))
    · exact .inr (ownB_append.2 (.inl hb))
  have hp := List.pairwise_append.1 h.apart
  refine ⟨fun x hx => ?_, hp.1, fun b hb => h.lt b (e b hb), fun b hy ho => ?_⟩
  · obtain ⟨v, hv, hs⟩ := h.objs x (List.mem_append_left _ hx)
    exact ⟨v, hv, hs.less e⟩
  · rcases hy with hy | ⟨id, obj, v, hm, hv, hb⟩
    · exact h.out b hy (ownB_append.2 (.inl ho))
    · obtain ⟨id', obj', v', hm', hv', hb'⟩ := ho
      exact (hp.2.2 _ hm' _ hm).2 v' v b hv' hv hb' hb

/-- Back: the part has changed, the rest is as it was. -/
theorem Sat.whole {O1 O2 O1' : Heap} {w' : World} {ρ' : List Value} (h : Sat w ρ Y (O1 ++ O2)) (h' : Sat w' ρ' (fun b => Y b ∨ OwnB ρ O2 b) O1') (ht : Tr w ρ (Av (fun b => Y b ∨ OwnB ρ O2 b) ρ O1) w' ρ' (Av (fun b => Y b ∨ OwnB ρ O2 b) ρ' O1'))
    (hf : Frm w (OwnB ρ O1) w') (ho : ∀ b, OwnB ρ' O1' b → b < w.heap.size → OwnB ρ O1 b) (hids : ∀ x ∈ O1', ∀ y ∈ O2, x.1 ≠ y.1) :
    Sat w' ρ' Y (O1' ++ O2) ∧ Tr w ρ (Av Y ρ (O1 ++ O2)) w' ρ' (Av Y ρ' (O1' ++ O2)) := by
  have hid2 : ∀ y ∈ O2, y.1 < ρ.length := fun y hy => h.ids y (List.mem_append_right _ hy)
  have hold2 : ∀ y ∈ O2, ∀ u, ρ'[y.1]? = some u → ρ[y.1]? = some u := by
    intro y hy u hu
    obtain ⟨v, hv, _⟩ := h.objs y (List.mem_append_right _ hy)
    have := ht.env _ _ hv
    rw [hu] at this
    rw [hv, ← this]
  have hown2 : ∀ b, OwnB ρ' O2 b ↔ OwnB ρ O2 b := by
    intro b
    constructor
    · rintro ⟨id, obj, v, hm, hv, hb⟩
      exact ⟨id, obj, v, hm, hold2 _ hm v hv, hb⟩
    · rintro ⟨id, obj, v, hm, hv, hb⟩
      exact ⟨id, obj, v, hm, ht.env _ _ hv, hb⟩
  have hp := List.pairwise_append.1 h.apart
  have eA : ∀ b, Av Y ρ' (O1' ++ O2) b ↔ Av (fun b => Y b ∨ OwnB ρ O2 b) ρ' O1' b := by
    intro b
    unfold Av
    rw [ownB_append, hown2]
    constructor
    · rintro (h1 | h1 | h1)
      · exact .inl (.inl h1)
      · exact .inr h1
      · exact .inl (.inr h1)
    · rintro ((h1 | h1) | h1)
      · exact .inl h1
      · exact .inr (.inr h1)
      · exact .inr (.inl h1)
  have eB : ∀ b, Av Y ρ (O1 ++ O2) b ↔ Av (fun b => Y b ∨ OwnB ρ O2 b) ρ O1 b := by
    intro b
    unfold Av
    rw [ownB_append]
    constructor
    · rintro (h1 | h1 | h1)
      · exact .inl (.inl h1)
      · exact .inr h1
      · exact .inl (.inr h1)
    · rintro ((h1 | h1) | h1)
      · exact .inl h1
      · exact .inr (.inr h1)
      · exact .inr (.inl h1)
  have tr : Tr w ρ (Av Y ρ (O1 ++ O2)) w' ρ' (Av Y ρ' (O1' ++ O2)) :=
    ⟨fun b hb hn => by
      have := ht.mem b hb (fun h1 => hn ((eB b).2 h1))
      exact ⟨this.1, fun h1 => this.2 ((eA b).1 h1)⟩, ht.env, ht.size⟩
  have hdis : ∀ b, OwnB ρ O2 b → ¬ OwnB ρ O1 b := by
    rintro b ⟨id, obj, v, hm, hv, hb⟩ ⟨id', obj', v', hm', hv', hb'⟩
    exact (hp.2.2 _ hm' _ hm).2 v' v b hv' hv hb' hb
  refine ⟨⟨fun x hx => ?_, ?_, fun b hb => h'.lt b ((eA b).1 hb), fun b hy hob => ?_⟩, tr⟩
  · rcases List.mem_append.1 hx with hx | hx
    · obtain ⟨v, hv, hs⟩ := h'.objs x hx
      exact ⟨v, hv, hs.less fun b hb => (eA b).1 hb⟩
    · obtain ⟨v, hv, hs⟩ := h.objs x (List.mem_append_right _ hx)
      refine ⟨v, ht.env _ _ hv, hs.tr tr fun b hb => ?_⟩
      have ho2 : OwnB ρ O2 b := ⟨x.1, x.2, v, hx, hv, hb⟩
      exact hf.block b (h.lt b (.inr (ownB_append.2 (.inr ho2)))) (hdis b ho2)
  · refine List.pairwise_append.2 ⟨h'.apart, hp.2.1.imp_of_mem fun {x y} hx hy hxy => ⟨hxy.1, fun v u b hv hu => hxy.2 v u b (hold2 x hx v hv) (hold2 y hy u hu)⟩, fun x hx y hy => ⟨hids x hx y hy, fun v u b hv hu hvb hub => ?_⟩⟩
    have hu' := hold2 y hy u hu
    exact h'.out b (.inr ⟨y.1, y.2, u, hy, hu', hub⟩) ⟨x.1, x.2, v, hx, hv, hvb⟩
  · rcases ownB_append.1 hob with h1 | h1
    · exact h'.out b (.inl hy) h1
    · exact h.out b hy (ownB_append.2 (.inr ((hown2 b).1 h1)))
end

/-- A call by its contract: 'O1' is what the call gets of the heap, 'O2' the rest. -/
theorem Spec.call {c : Cx} {f : FuncId} {args : List SV} {q : Bool} {nx : Nat} {O O1 O2 : Heap} {post : SV → Nat → Heap → Prop} {k : SV → Nat → Heap → Prop} (h : Spec c.P f nx args O1 q post) (hp : O.Perm (O1 ++ O2))
    (hids : ∀ s n O1', post s n O1' → ∀ x ∈ O1', x.1 < nx → ∃ y ∈ O1, y.1 = x.1) (hk : ∀ s n O1', post s n O1' → k s n (O1' ++ O2)) : CallOK c f args q nx O k := by
  intro w ρ hS hl hF hO vs hD
  have hS' := hS.perm hp
  have hP := hS'.part
  have eB : ∀ b, Av (fun b => c.Y b ∨ OwnB ρ O2 b) ρ O1 b → Av c.Y ρ O b := by
    rintro b ((h1 | h1) | h1)
    · exact .inl h1
    · exact .inr ((ownB_perm hp).2 (ownB_append.2 (.inr h1)))
    · exact .inr ((ownB_perm hp).2 (ownB_append.2 (.inl h1)))
  refine (h _ w ρ hl hP vs (DenAll.tr (Tr.less eB) _ _ hD)).mono fun e w' hh => ?_
  obtain ⟨u, s, ρ', nx', O', rfl, hl', hS1, hT, hF1, hO1, hD1, hpost, hq⟩ := hh
  have hid2 : ∀ x ∈ O', ∀ y ∈ O2, x.1 ≠ y.1 := by
    intro x hx y hy e
    have hy2 := hS'.ids y (List.mem_append_right _ hy)
    rw [hl] at hy2
    obtain ⟨z, hz, hze⟩ := hids _ _ _ hpost x hx (e ▸ hy2)
    exact ((List.pairwise_append.1 hS'.apart).2.2 z hz y hy).1 (hze.trans e)
  obtain ⟨hW, hT2⟩ := hS'.whole hS1 hT hF1 hO1 hid2
  refine ⟨u, s, ρ', nx', O' ++ O2, rfl, hl', hW, ?_, ?_, ?_, ?_, hk _ _ _ hpost, hq⟩
  · refine ⟨fun b hb hn => hT2.mem b hb fun h1 => hn (h1.imp id (ownB_perm hp).2), hT2.env, hT2.size⟩
  · refine hF.step hF1.os hF1.tape hF1.output hF1.size fun b hb hnF => hF1.block b (Nat.lt_of_lt_of_le hb hF.size) fun h1 => hnF (hO b ((ownB_perm hp).2 (ownB_append.2 (.inl h1))) hb)
  · intro b hb hlt
    rcases ownB_append.1 hb with h1 | h1
    · exact hO b ((ownB_perm hp).2 (ownB_append.2 (.inl (hO1 b h1 (Nat.lt_of_lt_of_le hlt hF.size))))) hlt
    · obtain ⟨id, obj, v, hm, hv, hvb⟩ := h1
      obtain ⟨v', hv', _⟩ := hS'.objs _ (List.mem_append_right _ hm)
      have := hT.env _ _ hv'
      rw [hv] at this
      injection this with this
      subst this
      exact hO b ((ownB_perm hp).2 (ownB_append.2 (.inr ⟨id, obj, v, hm, hv', hvb⟩))) hlt
  · refine Den.tr (Tr.less fun b hb => ?_) _ _ hD1
    rcases hb with h1 | h1
    · exact .inl (.inl h1)
    · rcases ownB_append.1 h1 with h1 | h1
      · exact .inr h1
      · refine .inl (.inr ?_)
        obtain ⟨id, obj, v, hm, hv, hvb⟩ := h1
        obtain ⟨v', hv', _⟩ := hS'.objs _ (List.mem_append_right _ hm)
        have := hT.env _ _ hv'
        rw [hv] at this
        injection this with this
        subst this
        exact ⟨id, obj, v, hm, hv', hvb⟩

end Go.Eng
