/- A part of the engine that walks a function of the given program: sound rules, no statement of its own. -/
import Derived.Test.YtdcbbmnihcfdlaaEng9
import Derived.Laws.Tables
import Derived.Great.FillDense
import Derived.Great.BuildSlice
set_option linter.unusedVariables false
set_option linter.unusedSimpArgs false
set_option linter.unnecessarySimpa false
set_option linter.constructorNameAsVariable false
set_option linter.all false
set_option linter.unusedVariables false
set_option linter.unusedSimpArgs false
namespace Go.Eng

theorem oneV_eq (v : Value) : v.oneCell' = oneV v := by cases v <;> rfl

/-! ### build -/
def bplace (P : Program) (t : TypeId) : Option (List (Nat × Nat)) :=
  match P.underlying t with
  | some (.array n e) => (P.info? e).map fun i => (List.range n).map fun j => (j * i.size, i.size)
  | some (.struct fields) => fields.toList.mapM fun f => (P.info? f.type).map fun i => (f.offset, i.size)
  | _ => none
def bfold (pl : List (Nat × Nat)) (cells : List SV) : List (Nat × SV) → Option (List SV)
  | [] => some cells
  | (i, s) :: r => match pl[i]?, vcells s with
    | some (off, n), some l => if l.length = n ∧ off + n ≤ cells.length then bfold pl (upd cells off l) r else none
    | _, _ => none
def vbuild (P : Program) (T : Tab) (t : TypeId) (parts : Array (Nat × Operand)) (k : SV → Prop) : Prop :=
  match zv P t, bplace P t with
  | some zs, some pl => match bfold pl (zs.map .v) (parts.toList.map fun p => (p.1, ev T p.2)) with
    | some cells => k (.agg cells)
    | none => False
  | _, _ => False

theorem fold_set (off : Nat) (l : List Value) (cs : Array Value) (h : off + l.length ≤ cs.size) : ((l.zipIdx 0).foldl (fun cs (x : Value × Nat) => cs.setIfInBounds (off + x.2) x.1) cs).toList = cs.toList.take off ++ l ++ cs.toList.drop (off + l.length) := by
  obtain ⟨h1, h2⟩ := Great.foldl_set off l 0 cs
  apply List.ext_getElem?
  intro k
  rw [Array.getElem?_toList, h2 k]
  simp only [List.append_assoc, List.getElem?_append, List.length_take, Array.length_toList, List.getElem?_take, List.getElem?_drop, Nat.add_zero]
  by_cases hk : off ≤ k ∧ k < off + l.length
  · rw [if_pos ⟨hk.1, hk.2, by omega⟩, if_neg (by omega), if_pos (by omega)]
    congr 1; omega
  · rw [if_neg (by omega)]
    by_cases hk2 : k < off
    · rw [if_pos (by omega), if_pos hk2, Array.getElem?_toList]
    · rw [if_neg (by omega), if_neg (by omega)]
      rw [Array.getElem?_toList]
      congr 1; omega

def PV (w : World) (ρ : List Value) (A : Nat → Prop) : List (Nat × SV) → List (Nat × Value) → Prop
  | [], vs => vs = []
  | p :: ps, vs => ∃ v vs', vs = v :: vs' ∧ p.1 = v.1 ∧ Den w ρ A p.2 v.2 ∧ PV w ρ A ps vs'

theorem bfold_sound {w : World} {ρ : List Value} {A : Nat → Prop} {place : Nat → Option (Nat × Nat)} {pl : List (Nat × Nat)} (hp : ∀ i x, pl[i]? = some x → place i = some x) :
    ∀ (parts : List (Nat × SV)) (vs : List (Nat × Value)) (cells cells' : List SV) (us : Array Value), DenAll w ρ A cells us.toList → bfold pl cells parts = some cells' →
      PV w ρ A parts vs → ∃ us' : Array Value, Instr.fill place us vs = some us' ∧ DenAll w ρ A cells' us'.toList
  | [], vs, cells, cells', us, hd, hb, hf => by
    simp only [PV] at hf
    subst hf
    simp only [bfold, Option.some.injEq] at hb
    subst hb
    exact ⟨us, rfl, hd⟩
  | (i, s) :: r, vs, cells, cells', us, hd, hb, hf => by
    obtain ⟨⟨j, u⟩, vs, rfl, h1, hdv, h2⟩ := hf
    simp only at h1 hdv
    subst h1
    simp only [bfold] at hb
    split at hb
    · rename_i off n l hpl hl
      split at hb
      · rename_i hc
        have hda := vcells_den hl hdv
        have hlen := hda.length
        simp only [Array.length_toList] at hlen
        have hul := hd.length
        simp only [Array.length_toList] at hul
        have hfs := fold_set off u.cells.toList us (by simp; omega)
        have hda' := DenAll.upd (off := off) hd hda
        obtain ⟨us', h3, h4⟩ := bfold_sound hp r vs _ _ ((u.cells.toList.zipIdx 0).foldl (fun cs (x : Value × Nat) => cs.setIfInBounds (off + x.2) x.1) us) (by rw [hfs]; simpa [hlen] using hda') hb h2
        refine ⟨us', ?_, h4⟩
        unfold Instr.fill
        simp only [hp _ _ hpl]
        rw [if_neg (by simp; omega), ← h3]
        congr 1
        rw [← Array.foldl_toList, Array.toList_zipIdx]
      · cases hb
    · cases hb

theorem vbuild_sound {c : Cx} {w : World} {ρ : List Value} {nx : Nat} {T : Tab} {O : Heap} {vals : Array Value} (hst : St c w ρ nx T O vals) {t : TypeId} {parts : Array (Nat × Operand)} {k : SV → Prop} (h : vbuild c.P T t parts k) :
    QO c.P w ρ (Av c.Y ρ O) (⟨vals, []⟩ : Act).eval (.build t parts) k := by
  unfold vbuild at h
  split at h
  · rename_i zs pl hz hp
    split at h
    · rename_i cells hb
      have hparts : PV w ρ (Av c.Y ρ O) (parts.toList.map fun p => (p.1, ev T p.2)) (parts.toList.map fun p => (p.1, (⟨vals, []⟩ : Act).eval p.2)) := by
        clear h hb
        generalize parts.toList = l
        induction l with
        | nil => rfl
        | cons a l ih => exact ⟨_, _, rfl, rfl, hst.ev a.2, ih⟩
      have hz' := hz
      unfold zv at hz'
      obtain ⟨z, hzz, rfl⟩ := Option.map_eq_some_iff.1 hz'
      obtain ⟨it, hit, hzz⟩ := Option.bind_eq_some_iff.1 hzz
      have key : ∃ us : Array Value, DenAll w ρ (Av c.Y ρ O) cells us.toList ∧ c.P.built t (parts.toList.map fun p => (p.1, (⟨vals, []⟩ : Act).eval p.2)) = some us := by
        unfold bplace at hp
        unfold Program.built
        split at hp
        · rename_i n e hu
          obtain ⟨ie, hie, rfl⟩ := Option.map_eq_some_iff.1 hp
          simp only [hit, hu, hzz, hie]
          obtain ⟨us, h1, h2⟩ := bfold_sound (place := fun i => some (i * ie.size, ie.size)) (fun i x hx => by
            obtain ⟨j, hj, rfl⟩ := by simpa using List.getElem?_eq_some_iff.1 hx
            simp) _ _ _ _ z.cells (den_map_v _) hb hparts
          exact ⟨us, h2, h1⟩
        · rename_i fields hu
          simp only [hit, hu, hzz, hp]
          obtain ⟨us, h1, h2⟩ := bfold_sound (place := fun i => pl.toArray[i]?) (fun i x hx => by simpa using hx) _ _ _ _ z.cells (den_map_v _) hb hparts
          exact ⟨us, h2, h1⟩
        · cases hp
      obtain ⟨us, hda, hbt⟩ := key
      refine ⟨.agg cells, .agg us, h, by simp only [Den]; exact ⟨us.toList, by simp, hda⟩, fun w' _ o ho => ?_⟩
      have := run_build (P := c.P) w' t (parts.map fun (i, x) => (i, (⟨vals, []⟩ : Act).eval x)) us (by rw [Array.toList_map]; exact hbt)
      simp [execOp, ho, this]
    · exact h.elim
  · exact h.elim

theorem build_ok {c : Cx} {nx : Nat} {T : Tab} {O : Heap} {o : Oper} {q : Bool} {k : Nat → Tab → Heap → Prop} {t : TypeId} {parts : Array (Nat × Operand)} (ho : o.op = .build t parts) (hd : dok c.n o.dst = true) (h : vbuild c.P T t parts fun s => k nx (putT o.dst s T) O) : OpOK c o q nx T O k := by
  intro w ρ vals hst Q N hN
  obtain ⟨r, z, h1, h2, h3⟩ := vbuild_sound hst h
  unfold Oper.wp
  rw [h3 w (fun _ => Same.refl w) o ho]
  simp only [Oper.upon]
  rw [putAct]
  exact hN _ _ _ _ _ _ (hst.put o.dst h2 (dok_spec hd)) h1 fun _ => Same.refl w

/-! ### buildSlice: every part written, in order -/
def vrows (T : Tab) : List (Nat × Operand) → Nat → Option (List (List SV))
  | [], _ => some []
  | (j, x) :: r, i => if j = i then match vcells (ev T x), vrows T r (i + 1) with
    | some l, some ls => some (l :: ls)
    | _, _ => none
    else none

theorem vrows_sound {c : Cx} {w : World} {ρ : List Value} {nx : Nat} {T : Tab} {O : Heap} {vals : Array Value} (hst : St c w ρ nx T O vals) {sz : Nat} : ∀ (parts : List (Nat × Operand)) (i : Nat) (rows : List (List SV)), vrows T parts i = some rows → (∀ r ∈ rows, r.length = sz) →
    ∃ vs : List Value, (parts.map fun (p : Nat × Operand) => (p.1, (⟨vals, []⟩ : Act).eval p.2)) = (vs.zipIdx i).map (fun x => (x.2, x.1)) ∧ vs.length = rows.length ∧ (∀ v ∈ vs, v.cells.size = sz) ∧ DenVals w ρ (Av c.Y ρ O) sz rows (vs.flatMap fun v => v.cells.toList)
  | [], i, rows, h, _ => by
    simp only [vrows, Option.some.injEq] at h
    subst h
    exact ⟨[], rfl, rfl, by simp, rfl⟩
  | (j, x) :: r, i, rows, h, hr => by
    simp only [vrows] at h
    split at h
    · rename_i e
      subst e
      split at h
      · rename_i l ls hl hls
        simp only [Option.some.injEq] at h
        subst h
        obtain ⟨vs, h1, h2, h3, h4⟩ := vrows_sound hst r (j + 1) ls hls (fun r hr' => hr r (List.mem_cons_of_mem _ hr'))
        have hda := vcells_den hl (hst.ev x)
        have hll := hr l List.mem_cons_self
        refine ⟨(⟨vals, []⟩ : Act).eval x :: vs, by simp [h1], by simp [h2], fun v hv => ?_, ?_⟩
        · rcases List.mem_cons.1 hv with rfl | hv
          · have := hda.length; simp at this; omega
          · exact h3 v hv
        · simp only [List.flatMap_cons]
          exact ⟨_, _, rfl, hll, hda, h4⟩
      · cases h
    · cases h

theorem buildSlice_ok {c : Cx} {nx : Nat} {T : Tab} {O : Heap} {o : Oper} {q : Bool} {k : Nat → Tab → Heap → Prop} {t e : TypeId} {len sz : Nat} {parts : Array (Nat × Operand)} {rows : List (List SV)} (ho : o.op = .buildSlice t len parts)
    (ht : tk c.P t = .sl e sz) (hz : 0 < sz) (hzv : (zv c.P e).map (·.length) = some sz) (hr : vrows T parts.toList 0 = some rows) (hl : rows.length = len) (hall : ∀ r ∈ rows, r.length = sz) (hsm : len * sz ≤ 16777216)
    (hd : dok c.n o.dst = true) (h : k (nx + 1) (putT o.dst (.own nx) T) ((nx, .row e sz rows) :: O)) : OpOK c o q nx T O k := by
  intro w ρ vals hst Q N hN
  obtain ⟨vs, h1, h2, h3, h4⟩ := vrows_sound hst _ _ _ hr hall
  obtain ⟨hu, ie, hie, hsz⟩ := tk_sl ht
  obtain ⟨zs, hzs, hzl⟩ := Option.map_eq_some_iff.1 hzv
  unfold zv at hzs
  obtain ⟨z, hzz, rfl⟩ := Option.map_eq_some_iff.1 hzs
  obtain ⟨ie', hie', hzz⟩ := Option.bind_eq_some_iff.1 hzz
  rw [hie] at hie'
  injection hie' with hie'
  subst hie'
  have hlen : vs.length = len := h2.trans hl
  have hr : (execOp (⟨vals, []⟩ : Act).eval o).run c.P w = .ok (.value (.slice (some ⟨w.heap.size, 0, none⟩) len len)) (w.alloc (.cells (vs.flatMap fun v => v.cells.toList).toArray e)) := by
    have hp2 : (parts.map fun (i, x) => (i, (⟨vals, []⟩ : Act).eval x)).toList = (vs.zipIdx 0).map (fun x => (x.2, x.1)) := by rw [Array.toList_map]; exact h1
    by_cases h0 : len = 0
    · subst h0
      have hvs : vs = [] := List.eq_nil_of_length_eq_zero hlen
      subst hvs
      simp only [List.zipIdx_nil, List.map_nil] at hp2
      simp only [execOp, ho, Sem.run_bind, Instr.buildSlice, run_underlying hu, Result.andThen_ok, run_sizeOf hie, Nat.zero_mul, hp2]
      simp [Instr.fill, run_newRow]
      congr 2
      exact Array.eq_empty_of_size_eq_zero (by simp)
    · have hfill := Great.fill_whole (s := sz) hz vs ((Array.range (len * ie.size)).map (z.cells[· % z.cells.size]!)) h3 (by simp [hsz, hlen])
      have := run_buildSlice (P := c.P) w t e len (parts.map fun (i, x) => (i, (⟨vals, []⟩ : Act).eval x)) _ ie z hu hie hzz (by rw [hsz]; omega) (by rw [hsz]; exact Nat.mul_ne_zero h0 (by omega)) (by rw [hp2, hsz] at *; exact hfill)
      simp only [execOp, ho, Sem.run_bind, this, Result.andThen_ok, Sem.run_pure]
  unfold Oper.wp
  rw [hr]
  simp only [Oper.upon]
  rw [putAct]
  have hfl : (vs.flatMap fun v => v.cells.toList).length = len * sz := by rw [h4.length, hl]
  refine hN _ _ _ _ _ _ (hst.new (obj := .row e sz rows) (v := .slice (some ⟨w.heap.size, 0, none⟩) len len) rfl (fun ht => ⟨vs.flatMap fun v => v.cells.toList, ?_, DenVals.tr ht _ _ _ h4⟩) o.dst (s := .own nx) (fun A => ?_) (dok_spec hd)) h fun _ => same_alloc w _
  · refine ⟨by rw [hl]; exact hfl, .inr ⟨w.heap.size, len, _, by rw [hl], Nat.zero_le _, heap_new w _, by omega, ?_, by simpa using hfl, ?_⟩⟩
    · have : len ≤ len * sz := Nat.le_mul_of_pos_right _ hz
      unfold maxLen; omega
    · rw [hl]; simp only [List.toList_toArray]; exact List.take_of_length_le (by omega)
  · simp only [Den]
    exact ⟨by rw [← hst.nx]; exact getElem?_snoc, rfl⟩

/-- A slice of nothing. -/
theorem buildSlice0_ok {c : Cx} {nx : Nat} {T : Tab} {O : Heap} {o : Oper} {q : Bool} {k : Nat → Tab → Heap → Prop} {t e : TypeId} {sz : Nat} (ho : o.op = .buildSlice t 0 #[])
    (ht : tk c.P t = .sl e sz) (hd : dok c.n o.dst = true) (h : k (nx + 1) (putT o.dst (.own nx) T) ((nx, .emp e sz) :: O)) : OpOK c o q nx T O k := by
  intro w ρ vals hst Q N hN
  obtain ⟨hu, ie, hie, hsz⟩ := tk_sl ht
  have hr : (execOp (⟨vals, []⟩ : Act).eval o).run c.P w = .ok (.value (.slice (some ⟨w.heap.size, 0, none⟩) 0 0)) (w.alloc (.cells #[] e)) := by
    simp only [execOp, ho, Sem.run_bind, Instr.buildSlice, run_underlying hu, Result.andThen_ok, run_sizeOf hie, Nat.zero_mul]
    simp [Instr.fill, run_newRow]
    congr 2
    exact Array.eq_empty_of_size_eq_zero (by simp)
  unfold Oper.wp
  rw [hr]
  simp only [Oper.upon]
  rw [putAct]
  refine hN _ _ _ _ _ _ (hst.new (obj := .emp e sz) (v := .slice (some ⟨w.heap.size, 0, none⟩) 0 0) rfl (fun _ => ⟨w.heap.size, rfl, heap_new w _⟩) o.dst (s := .own nx) (fun A => ?_) (dok_spec hd)) h fun _ => same_alloc w _
  simp only [Den]
  exact ⟨by rw [← hst.nx]; exact getElem?_snoc, rfl⟩

end Go.Eng
