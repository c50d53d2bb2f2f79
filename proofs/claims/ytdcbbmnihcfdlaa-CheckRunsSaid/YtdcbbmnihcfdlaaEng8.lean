/- A part of the engine that walks a function of the given program: sound rules, no statement of its own. -/
import Derived.Test.YtdcbbmnihcfdlaaEng7
set_option linter.unusedVariables false
set_option linter.unusedSimpArgs false
set_option linter.unnecessarySimpa false
set_option linter.constructorNameAsVariable false
set_option linter.all false
set_option linter.unusedVariables false
set_option linter.unusedSimpArgs false
namespace Go.Eng

/-- A rule for one operation. 'q': all that was there is as it was. -/
def OpOK (c : Cx) (o : Oper) (q : Bool) (nx : Nat) (T : Tab) (O : Heap) (k : Nat → Tab → Heap → Prop) : Prop :=
  ∀ w ρ vals, St c w ρ nx T O vals → ∀ (Q : Exit → Act → World → Prop) (N : Act → World → Prop),
    (∀ ρ' nx' T' O' vals' w', St c w' ρ' nx' T' O' vals' → k nx' T' O' → (q = true → Same w w') → N ⟨vals', []⟩ w') → o.wp c.P ⟨vals, []⟩ w N Q

section
variable {c : Cx} {w : World} {ρ : List Value} {nx : Nat} {T : Tab} {O : Heap} {vals : Array Value}

theorem look_putT {d : Option Tmp} {s : SV} {T : Tab} {t : Nat} {r : SV} (h : look (putT d s T) t = some r) : (d = some t ∧ r = s) ∨ (d ≠ some t ∧ look T t = some r) := by
  cases d with
  | none => exact .inr ⟨by simp, h⟩
  | some d =>
    simp only [putT, look] at h
    split at h
    · rename_i e; subst e; cases h; exact .inl ⟨rfl, rfl⟩
    · rename_i e; exact .inr ⟨by simpa using e, h⟩

theorem St.next (h : St c w ρ nx T O vals) {w' : World} {ρ' : List Value} {O' : Heap} (hs : Sat w' ρ' c.Y O') (ht : Tr w ρ (Av c.Y ρ O) w' ρ' (Av c.Y ρ' O')) (hf : Frm c.w0 c.F w')
    (ho : ∀ b, OwnB ρ' O' b → b < c.w0.heap.size → c.F b) (dst : Option Tmp) {s : SV} {u : Value} (hd : Den w' ρ' (Av c.Y ρ' O') s u) (hn : ∀ d, dst = some d → d < c.n) :
    St c w' ρ' ρ'.length (putT dst s T) O' ((⟨vals, []⟩ : Act).put dst u).tmps := by
  refine ⟨hs, rfl, ?_, fun d r hl => ?_, hf, ho, fun i v hi => ht.env i v (h.pre i v hi)⟩
  · cases dst <;> simp [Act.put, h.size]
  · rcases look_putT hl with ⟨rfl, rfl⟩ | ⟨hne, hl⟩
    · refine ⟨u, ?_, hd⟩
      simp [Act.put, Array.getElem?_setIfInBounds, h.size, hn d rfl]
    · obtain ⟨v, hv, hdv⟩ := h.tmps d r hl
      refine ⟨v, ?_, Den.tr ht _ _ hdv⟩
      cases dst with
      | none => exact hv
      | some t =>
        simp only [Act.put]
        rw [Array.getElem?_setIfInBounds_ne (by simpa using hne)]
        exact hv

theorem St.put (h : St c w ρ nx T O vals) (dst : Option Tmp) {s : SV} {u : Value} (hd : Den w ρ (Av c.Y ρ O) s u) (hn : ∀ d, dst = some d → d < c.n) :
    St c w ρ nx (putT dst s T) O ((⟨vals, []⟩ : Act).put dst u).tmps := by
  have := h.next h.sat (Tr.refl _ _ _) h.frm h.own dst hd hn
  rwa [h.nx] at this

theorem putAct (vals : Array Value) (dst : Option Tmp) (u : Value) : (⟨vals, []⟩ : Act).put dst u = ⟨((⟨vals, []⟩ : Act).put dst u).tmps, []⟩ := by
  cases dst <;> rfl

/-- Does a slot lie in the frame? -/
def dok (n : Nat) (d : Option Tmp) : Bool := match d with | some d => decide (d < n) | none => true
theorem dok_spec {n : Nat} {d : Option Tmp} (h : dok n d = true) : ∀ t, d = some t → t < n := by
  intro t e; subst e; simpa [dok] using h

theorem quiet_ok {o : Oper} {q : Bool} {k : Nat → Tab → Heap → Prop} (hd : dok c.n o.dst = true) (h : vq c.P T O o.op fun s => k nx (putT o.dst s T) O) : OpOK c o q nx T O k := by
  intro w ρ vals hst Q N hN
  obtain ⟨r, z, h1, h2, h3⟩ := vq_sound hst h
  unfold Oper.wp
  rw [h3 w (fun _ => Same.refl w) o rfl]
  simp only [Oper.upon]
  rw [putAct]
  exact hN _ _ _ _ _ _ (hst.put o.dst h2 (dok_spec hd)) h1 fun _ => Same.refl w

/-! ### New objects -/
theorem Frm.step {w0 : World} {F : Nat → Prop} {w w' : World} (h : Frm w0 F w) (ho : w'.os = w.os) (ht : w'.tape = w.tape) (hp : w'.output = w.output) (hs : w.heap.size ≤ w'.heap.size) (hb : ∀ b, b < w0.heap.size → ¬ F b → w'.heap[b]? = w.heap[b]?) : Frm w0 F w' :=
  ⟨ho.trans h.os, ht.trans h.tape, hp.trans h.output, Nat.le_trans h.size hs, fun b hlt hf => (hb b hlt hf).trans (h.block b hlt hf)⟩

theorem getElem?_snoc_lt {ρ : List Value} {i : Nat} {v u : Value} (h : ρ[i]? = some v) : (ρ ++ [u])[i]? = some v := by
  rw [List.getElem?_append_left (List.getElem?_eq_some_iff.1 h).1]; exact h
theorem getElem?_snoc {ρ : List Value} {u : Value} : (ρ ++ [u])[ρ.length]? = some u := by simp

/-- An object of one's own, new: the world has one block more. -/
theorem Sat.new {Y : Nat → Prop} (h : Sat w ρ Y O) {w' : World} {o : Obj} (hw : w'.heap = w.heap.push o) {obj : OObj} {v : Value} (hb : blkOf v = some w.heap.size)
    (hs : Tr w ρ (Av Y ρ O) w' (ρ ++ [v]) (Av Y (ρ ++ [v]) ((ρ.length, obj) :: O)) → SatObj w' (ρ ++ [v]) (Av Y (ρ ++ [v]) ((ρ.length, obj) :: O)) obj v) (hin : ∀ x ∈ O, x.1 < ρ.length) :
    Sat w' (ρ ++ [v]) Y ((ρ.length, obj) :: O) ∧ Tr w ρ (Av Y ρ O) w' (ρ ++ [v]) (Av Y (ρ ++ [v]) ((ρ.length, obj) :: O)) := by
  have hsz : w'.heap.size = w.heap.size + 1 := by rw [hw]; simp
  have hold : ∀ x ∈ O, ∀ u, (ρ ++ [v])[x.1]? = some u → ρ[x.1]? = some u := by
    intro x hx u hu
    rwa [List.getElem?_append_left (hin x hx)] at hu
  have hownB : ∀ b, OwnB (ρ ++ [v]) ((ρ.length, obj) :: O) b → OwnB ρ O b ∨ b = w.heap.size := by
    rintro b ⟨id, obj', u, hm, hu, hbu⟩
    rcases List.mem_cons.1 hm with hm | hm
    · injection hm with h1 h2
      subst h1
      rw [getElem?_snoc] at hu
      injection hu with hu
      subst hu
      exact .inr (by rw [hb] at hbu; injection hbu with hbu; exact hbu.symm)
    · exact .inl ⟨id, obj', u, hm, hold _ hm u hu, hbu⟩
  refine h.change (fun _ => False) (by omega) (fun i u hu => getElem?_snoc_lt hu) (fun b hlt _ => ?_) (fun b hf => hf.elim) (fun b hob => ?_) ?_ (fun x hx => ?_)
  · rw [hw, Array.getElem?_push, if_neg (by omega)]
  · rcases hownB b hob with h1 | rfl
    · have := h.lt b (.inr h1)
      exact ⟨.inl h1, by omega⟩
    · exact ⟨.inr (Nat.le_refl _), by omega⟩
  · refine List.pairwise_cons.2 ⟨fun x hx => ⟨?_, ?_⟩, h.apart.imp_of_mem fun {x y} hx hy hxy => ⟨hxy.1, fun a b n ha hb' => hxy.2 a b n (hold x hx a ha) (hold y hy b hb')⟩⟩
    · have := hin x hx; simp; omega
    · intro a u b ha hu hab hub
      simp only at ha
      rw [getElem?_snoc] at ha
      injection ha with ha
      subst ha
      rw [hb] at hab
      injection hab with hab
      have := h.lt b (.inr ⟨x.1, x.2, u, hx, hold x hx u hu, hub⟩)
      omega
  · rcases List.mem_cons.1 hx with rfl | hx
    · exact .inr fun t => ⟨v, getElem?_snoc, hs t⟩
    · exact .inl ⟨hx, fun _ _ _ _ hf => hf⟩

/-- All ids of a heap are known. -/
theorem Sat.ids {Y : Nat → Prop} (h : Sat w ρ Y O) : ∀ x ∈ O, x.1 < ρ.length := by
  intro x hx
  obtain ⟨v, hv, _⟩ := h.objs x hx
  exact (List.getElem?_eq_some_iff.1 hv).1

theorem St.new (h : St c w ρ nx T O vals) {o : Obj} {obj : OObj} {v : Value} (hb : blkOf v = some w.heap.size)
    (hs : Tr w ρ (Av c.Y ρ O) (w.alloc o) (ρ ++ [v]) (Av c.Y (ρ ++ [v]) ((nx, obj) :: O)) → SatObj (w.alloc o) (ρ ++ [v]) (Av c.Y (ρ ++ [v]) ((nx, obj) :: O)) obj v)
    (dst : Option Tmp) {s : SV} {u : Value} (hd : ∀ A, Den (w.alloc o) (ρ ++ [v]) A s u) (hn : ∀ d, dst = some d → d < c.n) :
    St c (w.alloc o) (ρ ++ [v]) (nx + 1) (putT dst s T) ((nx, obj) :: O) ((⟨vals, []⟩ : Act).put dst u).tmps := by
  have e := h.nx
  subst e
  obtain ⟨h1, h2⟩ := h.sat.new (w' := w.alloc o) rfl hb hs h.sat.ids
  have := h.next h1 h2 (h.frm.step rfl rfl rfl (by show _ ≤ (w.heap.push o).size; simp) fun b hb' _ => RowKit.Below.heap_alloc _ _ _ (by have := h.frm.size; omega)) (fun b hob hlt => ?_) dst (hd _) hn
  · rwa [List.length_append, List.length_singleton] at this
  · obtain ⟨id, obj', u', hm, hu, hbu⟩ := hob
    rcases List.mem_cons.1 hm with hm | hm
    · injection hm with h1 h2
      subst h1
      rw [getElem?_snoc] at hu
      injection hu with hu
      subst hu
      rw [hb] at hbu
      injection hbu with hbu
      have := h.frm.size
      omega
    · refine h.own b ⟨id, obj', u', hm, ?_, hbu⟩ hlt
      rwa [List.getElem?_append_left (h.sat.ids _ hm)] at hu

theorem same_alloc (w : World) (o : Obj) : Same w (w.alloc o) := ⟨by show _ ≤ (w.heap.push o).size; simp, fun b hb => RowKit.Below.heap_alloc w o b hb⟩

end
end Go.Eng
