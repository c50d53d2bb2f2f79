/- A part of the engine that walks a function of the given program: sound rules, no statement of its own. -/
import Derived.Test.YtdcbbmnihcfdlaaEng8
set_option linter.unusedVariables false
set_option linter.unusedSimpArgs false
set_option linter.unnecessarySimpa false
set_option linter.constructorNameAsVariable false
set_option linter.all false
set_option linter.unusedVariables false
set_option linter.unusedSimpArgs false
namespace Go.Eng

/-- The cells of a value. -/
def vcells : SV → Option (List SV)
  | .agg l => some l
  | .tup _ => none
  | .any => none
  | .v (.agg _) => none
  | .v (.tuple _) => none
  | s => some [s]
/-- Of one cell? -/
def one1 : SV → Bool
  | .agg _ => false
  | .tup _ => false
  | .any => false
  | .v x => oneV x
  | _ => true
/-- Cells, some of them written. -/
def upd (cells : List SV) (off : Nat) (l : List SV) : List SV := cells.take off ++ l ++ cells.drop (off + l.length)

section
variable {P : Program} {w : World} {ρ : List Value} {A : Nat → Prop}
theorem one1_den {s : SV} {u : Value} (h : one1 s = true) (hd : Den w ρ A s u) : oneV u = true := by
  cases s <;> simp only [one1, Bool.false_eq_true] at h <;> simp only [Den, Pd] at hd
  · subst hd; exact h
  · obtain ⟨p, c, rfl, _⟩ := hd; rfl
  · exact hd.2
  · obtain ⟨b, _, rfl⟩ := hd; rfl
  · obtain ⟨b, n, c, _, rfl⟩ := hd; rfl
  · obtain ⟨b, o, rfl, _⟩ := hd; rfl
  · obtain ⟨p, n, c, _, _, rfl⟩ := hd; rfl
  · obtain ⟨us, rfl, _⟩ := hd; rfl
  · obtain ⟨y, rfl, _⟩ := hd; rfl
theorem ones_den : ∀ {l : List SV} {us : List Value}, l.all one1 = true → DenAll w ρ A l us → ∀ u ∈ us, oneV u = true
  | [], us, _, hd, u, hu => by simp only [DenAll] at hd; subst hd; cases hu
  | s :: ss, us, h, hd, u, hu => by
    simp only [DenAll] at hd
    obtain ⟨v, us', rfl, h2, h3⟩ := hd
    simp only [List.all_cons, Bool.and_eq_true] at h
    rcases List.mem_cons.1 hu with rfl | hu
    · exact one1_den h.1 h2
    · exact ones_den h.2 h3 u hu
theorem vcells_one {s : SV} {l : List SV} (h : vcells s = some l) (hna : ∀ m, s ≠ .agg m) : l = [s] ∧ one1 s = true := by
  unfold vcells at h
  split at h
  · exact absurd rfl (hna _)
  · cases h
  · cases h
  · cases h
  · cases h
  · rename_i h1 h2 h3 h4 h5
    cases h
    refine ⟨rfl, ?_⟩
    cases s <;> simp only [one1]
    · rename_i x
      cases x <;> first | rfl | exact absurd rfl (h4 _) | exact absurd rfl (h5 _)
    · exact absurd rfl (h1 _)
    · exact absurd rfl (h2 _)
    · exact absurd rfl h3
theorem vcells_den {s : SV} {l : List SV} {u : Value} (h : vcells s = some l) (hd : Den w ρ A s u) : DenAll w ρ A l u.cells.toList := by
  by_cases hs : ∃ m, s = .agg m
  · obtain ⟨m, rfl⟩ := hs
    simp only [vcells, Option.some.injEq] at h
    subst h
    simp only [Den] at hd
    obtain ⟨us, rfl, h2⟩ := hd
    simpa [Value.cells] using h2
  · obtain ⟨rfl, h1⟩ := vcells_one h (fun m e => hs ⟨m, e⟩)
    have := one1_den h1 hd
    have e : u.cells = #[u] := by cases u <;> simp [oneV] at this <;> rfl
    rw [e]
    simp only [DenAll]
    exact ⟨u, [], rfl, hd, rfl⟩
theorem den_map_v (l : List Value) : DenAll w ρ A (l.map SV.v) l := by
  induction l with
  | nil => simp [DenAll]
  | cons a l ih => simp only [List.map_cons, DenAll]; exact ⟨a, l, rfl, by simp [Den], ih⟩
theorem DenAll.upd {cells l : List SV} {us vs : List Value} {off : Nat} (h : DenAll w ρ A cells us) (hl : DenAll w ρ A l vs) : DenAll w ρ A (Eng.upd cells off l) (us.take off ++ vs ++ us.drop (off + l.length)) :=
  ((h.take off).append hl).append (h.drop _)

theorem zv_spec {t : TypeId} {zs : List Value} (h : zv P t = some zs) : ∃ z, z.cells.toList = zs ∧ ∀ w', (zeroValue t).run P w' = .ok z w' := by
  unfold zv at h
  obtain ⟨z, hz, rfl⟩ := Option.map_eq_some_iff.1 h
  obtain ⟨i, hi, hz⟩ := Option.bind_eq_some_iff.1 hz
  exact ⟨z, rfl, fun w' => by simp [zeroValue, typeInfo, Sem.run_bind, hi, hz]⟩
theorem run_newRow (e : TypeId) (cs : Array Value) (w : World) : (newRow e cs).run P w = .ok ⟨w.heap.size, 0, none⟩ (w.alloc (.cells cs e)) := rfl
end

section
variable {c : Cx} {nx : Nat} {T : Tab} {O : Heap} {o : Oper} {q : Bool} {k : Nat → Tab → Heap → Prop}

theorem box_sat {w : World} {ρ : List Value} {A : Nat → Prop} {t : TypeId} {cells : List SV} {us : Array Value} (h : DenAll w ρ A cells us.toList) {w' : World} {ρ' : List Value} {A' : Nat → Prop} (ht : Tr w ρ A w' ρ' A') {b : Nat} (hh : w'.heap[b]? = some (.cells us t (0, 0))) :
    SatObj w' ρ' A' (.box t cells) (.pointer (some ⟨b, 0, none⟩)) :=
  ⟨b, us.toList, rfl, by simpa using hh, DenAll.tr ht _ _ h⟩

theorem heap_new (w : World) (o : Obj) : (w.alloc o).heap[w.heap.size]? = some o := heap_alloc_new w o

theorem newbox_ok {t : TypeId} {cells : List SV} (hd : dok c.n o.dst = true)
    (hrun : ∀ w ρ vals, St c w ρ nx T O vals → ∃ us : Array Value, DenAll w ρ (Av c.Y ρ O) cells us.toList ∧ (execOp (⟨vals, []⟩ : Act).eval o).run c.P w = .ok (.value (.pointer (some ⟨w.heap.size, 0, none⟩))) (w.alloc (.cells us t)))
    (h : k (nx + 1) (putT o.dst (.ptr nx 0) T) ((nx, .box t cells) :: O)) : OpOK c o q nx T O k := by
  intro w ρ vals hst Q N hN
  obtain ⟨us, hda, hr⟩ := hrun w ρ vals hst
  unfold Oper.wp
  rw [hr]
  simp only [Oper.upon]
  rw [putAct]
  refine hN _ _ _ _ _ _ (hst.new (obj := .box t cells) (v := .pointer (some ⟨w.heap.size, 0, none⟩)) rfl (fun ht => box_sat hda ht (heap_new w _)) o.dst (s := .ptr nx 0) (fun A => ?_) (dok_spec hd)) h fun _ => same_alloc w _
  simp only [Den]
  exact ⟨w.heap.size, by rw [← hst.nx]; exact getElem?_snoc, rfl⟩

theorem alloc_ok {t : TypeId} {zs : List Value} (ho : o.op = .alloc t) (hz : zv c.P t = some zs) (hd : dok c.n o.dst = true) (h : k (nx + 1) (putT o.dst (.ptr nx 0) T) ((nx, .box t (zs.map .v)) :: O)) : OpOK c o q nx T O k := by
  refine newbox_ok hd (fun w ρ vals hst => ?_) h
  obtain ⟨z, rfl, hrun⟩ := zv_spec hz
  refine ⟨z.cells, den_map_v _, ?_⟩
  simp [execOp, ho, Instr.alloc, Sem.run_bind, hrun, newVar, run_newRow]

theorem boxop_ok {t : TypeId} {x : Operand} {l : List SV} (ho : o.op = .box t x) (hl : vcells (ev T x) = some l) (hd : dok c.n o.dst = true) (h : k (nx + 1) (putT o.dst (.ptr nx 0) T) ((nx, .box t l) :: O)) : OpOK c o q nx T O k := by
  refine newbox_ok hd (fun w ρ vals hst => ?_) h
  refine ⟨((⟨vals, []⟩ : Act).eval x).cells, vcells_den hl (hst.ev x), ?_⟩
  simp [execOp, ho, Instr.box, Sem.run_bind, newVar, run_newRow]

theorem makeMap_ok {t : TypeId} (ho : o.op = .makeMap t none) (hd : dok c.n o.dst = true) (h : k (nx + 1) (putT o.dst (.own nx) T) ((nx, .mp []) :: O)) : OpOK c o q nx T O k := by
  intro w ρ vals hst Q N hN
  have hr : (execOp (⟨vals, []⟩ : Act).eval o).run c.P w = .ok (.value (.map (some w.heap.size))) (w.alloc (.map #[] 0)) := by
    simp [execOp, ho, Instr.makeMap, Sem.run_bind, newObj, Sem.run, World.alloc_eq]
  unfold Oper.wp
  rw [hr]
  simp only [Oper.upon]
  rw [putAct]
  refine hN _ _ _ _ _ _ (hst.new (obj := .mp []) (v := .map (some w.heap.size)) rfl (fun ht => ⟨w.heap.size, #[], 0, [], rfl, heap_new w _, List.Perm.refl _, rfl, by simp, by simp, by simp⟩) o.dst (s := .own nx) (fun A => ?_) (dok_spec hd)) h fun _ => same_alloc w _
  simp only [Den]
  exact ⟨by rw [← hst.nx]; exact getElem?_snoc, rfl⟩

end
end Go.Eng
