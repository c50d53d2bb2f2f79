/- A part of the engine that walks a function of the given program: sound rules, no statement of its own. -/
import Derived.Test.YtdcbbmnihcfdlaaEng2b
set_option linter.unusedVariables false
set_option linter.unusedSimpArgs false
set_option linter.unnecessarySimpa false
set_option linter.constructorNameAsVariable false
set_option linter.all false
set_option linter.unusedVariables false
set_option linter.unusedSimpArgs false
namespace Go.Eng

/-! ### Types, as the rules ask of them -/
inductive TK where
  | sl (e : TypeId) (sz : Nat)
  | str
  | mp (k e : TypeId)
  | arr (n : Nat) (e : TypeId) (sz : Nat)
  | int (k : IntKind)
  | bool
  | st (sz : Nat)
  | ptr (e : TypeId)
  | ifc
  | fn
  | other
  deriving DecidableEq

def szOf (P : Program) (t : TypeId) : Nat := ((P.info? t).map (·.size)).getD 0
def tk (P : Program) (t : TypeId) : TK :=
  if (P.info? t).isNone then .other else
  match P.underlying t with
  | some (.slice e) => if (P.info? e).isNone then .other else .sl e (szOf P e)
  | some .string => .str
  | some (.map k e) => .mp k e
  | some (.array n e) => if (P.info? e).isNone then .other else .arr n e (szOf P e)
  | some (.int k) => .int k
  | some .bool => .bool
  | some (.struct _) => .st (szOf P t)
  | some (.pointer e) => .ptr e
  | some (.interface _) => .ifc
  | some (.func ..) => .fn
  | _ => .other
/-- A field's offset (a field of no size is none). -/
def fo (P : Program) (s : TypeId) (f : Nat) : Option Nat :=
  match P.underlying s with
  | some (.struct fs) => match fs[f]? with
    | some x => if szOf P x.type = 0 then none else some x.offset
    | none => none
  | _ => none
/-- The cells of a zero value. -/
def zv (P : Program) (t : TypeId) : Option (List Value) := ((P.info? t).bind (·.zero)).map (·.cells.toList)
def byOf (P : Program) (t : TypeId) : Nat := ((P.info? t).map (·.bytes)).getD 0

section
variable {P : Program} {t : TypeId}
theorem tk_sl {e : TypeId} {sz : Nat} (h : tk P t = .sl e sz) : P.underlying t = some (.slice e) ∧ ∃ i, P.info? e = some i ∧ i.size = sz := by
  unfold tk at h
  split at h
  · cases h
  · split at h <;> try (first | cases h | (split at h <;> cases h))
    rename_i hu hs
    refine ⟨hu, ?_⟩
    obtain ⟨i, hi⟩ := Option.ne_none_iff_exists'.1 (by simpa using hs)
    exact ⟨i, hi, by simp [szOf, hi]⟩
theorem tk_arr {n : Nat} {e : TypeId} {sz : Nat} (h : tk P t = .arr n e sz) : P.underlying t = some (.array n e) ∧ (∃ i, P.info? e = some i ∧ i.size = sz) ∧ ∃ i, P.info? t = some i := by
  unfold tk at h
  split at h
  · cases h
  · rename_i h0
    obtain ⟨i0, hi0⟩ := Option.ne_none_iff_exists'.1 (by simpa using h0)
    split at h <;> try (first | cases h | (split at h <;> cases h))
    rename_i hs hu
    refine ⟨hu, ?_, i0, hi0⟩
    obtain ⟨i, hi⟩ := Option.ne_none_iff_exists'.1 (by simpa using hs)
    exact ⟨i, hi, by simp [szOf, hi]⟩
theorem tk_st {sz : Nat} (h : tk P t = .st sz) : (∃ fs, P.underlying t = some (.struct fs)) ∧ ∃ i, P.info? t = some i ∧ i.size = sz := by
  unfold tk at h
  split at h
  · cases h
  · rename_i h0
    obtain ⟨i0, hi0⟩ := Option.ne_none_iff_exists'.1 (by simpa using h0)
    split at h <;> try (first | cases h | (split at h <;> cases h))
    rename_i fs hu
    exact ⟨⟨fs, hu⟩, i0, hi0, by simp [szOf, hi0]⟩
theorem tk_str (h : tk P t = .str) : P.underlying t = some .string := by
  unfold tk at h
  split at h
  · cases h
  · split at h <;> first | assumption | cases h | (split at h <;> cases h)
theorem tk_int {k : IntKind} (h : tk P t = .int k) : P.underlying t = some (.int k) := by
  unfold tk at h
  split at h
  · cases h
  · split at h <;> first | (cases h; assumption) | cases h | (split at h <;> cases h)
theorem tk_mp {k e : TypeId} (h : tk P t = .mp k e) : P.underlying t = some (.map k e) := by
  unfold tk at h
  split at h
  · cases h
  · split at h <;> first | (cases h; assumption) | cases h | (split at h <;> cases h)
theorem tk_ptr {e : TypeId} (h : tk P t = .ptr e) : P.underlying t = some (.pointer e) := by
  unfold tk at h
  split at h
  · cases h
  · split at h <;> first | (cases h; assumption) | cases h | (split at h <;> cases h)
theorem tk_info (h : tk P t ≠ .other) : ∃ i, P.info? t = some i := by
  unfold tk at h
  split at h
  · exact absurd rfl h
  · rename_i h0
    exact Option.ne_none_iff_exists'.1 (by simpa using h0)
theorem tk_bool (h : tk P t = .bool) : P.underlying t = some .bool := by
  unfold tk at h
  split at h
  · cases h
  · split at h <;> first | assumption | cases h | (split at h <;> cases h)
theorem tk_ifc (h : tk P t = .ifc) : ∃ ms, P.underlying t = some (.interface ms) := by
  unfold tk at h
  split at h
  · cases h
  · split at h <;> first | exact ⟨_, by assumption⟩ | cases h | (split at h <;> cases h)
theorem tk_fn (h : tk P t = .fn) : ∃ a b c, P.underlying t = some (.func a b c) := by
  unfold tk at h
  split at h
  · cases h
  · split at h <;> first | exact ⟨_, _, _, by assumption⟩ | cases h | (split at h <;> cases h)
/-- Is it of one cell? -/
def TK.one : TK → Bool
  | .sl .. | .str | .mp .. | .int _ | .bool | .ptr _ | .ifc | .fn => true
  | _ => false
def TK.many : TK → Option Nat
  | .st n => some n
  | .arr n _ s => some (n * s)
  | _ => none
theorem isAgg_one (h : (tk P t).one = true) (w : World) : (isAgg t).run P w = .ok false w := by
  unfold isAgg
  cases ht : tk P t <;> rw [ht] at h <;> simp only [TK.one, Bool.false_eq_true] at h
  · simp [Sem.run_bind, run_underlying (tk_sl ht).1]
  · simp [Sem.run_bind, run_underlying (tk_str ht)]
  · simp [Sem.run_bind, run_underlying (tk_mp ht)]
  · simp [Sem.run_bind, run_underlying (tk_int ht)]
  · simp [Sem.run_bind, run_underlying (tk_bool ht)]
  · simp [Sem.run_bind, run_underlying (tk_ptr ht)]
  · obtain ⟨ms, hm⟩ := tk_ifc ht; simp [Sem.run_bind, run_underlying hm]
  · obtain ⟨_, _, _, hm⟩ := tk_fn ht; simp [Sem.run_bind, run_underlying hm]
theorem isAgg_st {n : Nat} (h : tk P t = .st n) (w : World) : (isAgg t).run P w = .ok true w := by
  obtain ⟨⟨fs, hf⟩, _⟩ := tk_st h
  unfold isAgg
  simp [Sem.run_bind, run_underlying hf]
theorem isAgg_arr {n : Nat} {e : TypeId} {s : Nat} (h : tk P t = .arr n e s) (w : World) : (isAgg t).run P w = .ok true w := by
  unfold isAgg
  simp [Sem.run_bind, run_underlying (tk_arr h).1]
theorem run_sizeOf {i : TypeInfo} (h : P.info? t = some i) (w : World) : (sizeOf t).run P w = .ok i.size w := by
  simp [sizeOf, typeInfo, Sem.run_bind, h]
end

theorem add_none (b o j : Nat) : (⟨b, o, none⟩ : Addr).add j = ⟨b, o + j, none⟩ := by
  unfold Addr.add
  split
  · rename_i h; subst h; rfl
  · rfl

/-! ### Loads -/
section
variable {P : Program} {w : World} {t : TypeId}
theorem run_load_one (h : (tk P t).one = true) {b o : Nat} {u : Value} (hc : w.cell? ⟨b, o, none⟩ = some u) : (Instr.loadAt t (.pointer (some ⟨b, o, none⟩))).run P w = .ok u w := by
  simp [Instr.loadAt, Instr.sureAddr, loadVar, isAgg_one h, load, Sem.run, hc, Sem.run_bind]
theorem run_load_many (hA : ∀ w, (isAgg t).run P w = .ok true w) {i : TypeInfo} (hi : P.info? t = some i) {b o : Nat} {us : List Value} (hl : us.length = i.size) (hc : ∀ j u, us[j]? = some u → w.cell? ⟨b, o + j, none⟩ = some u) :
    (Instr.loadAt t (.pointer (some ⟨b, o, none⟩))).run P w = .ok (.agg us.toArray) w := by
  have h1 := run_loadCells_list (P := P) w ⟨b, o, none⟩ us (fun j v hj => by rw [add_none]; exact hc j v hj)
  rw [hl] at h1
  simp [Instr.loadAt, Instr.sureAddr, loadVar, hA, Sem.run_bind, run_sizeOf hi, h1]
end

/-- What stands behind a pointer. -/
def vptr (O : Heap) (s : SV) (k : List SV → Prop) : Prop :=
  match s with
  | .ptr id off => match find O id with
    | some (.box _ cells) => k (cells.drop off)
    | _ => False
  | .eptr cells => k cells
  | .rptr id sz i j => match find O id with
    | some (.row _ sz' rows) => sz = sz' ∧ ∃ r, rows[i]? = some r ∧ k (r.drop j)
    | _ => False
  | _ => False

theorem vptr_sound {w : World} {ρ : List Value} {Y : Nat → Prop} {O : Heap} {s : SV} {u : Value} {k : List SV → Prop} (hs : Sat w ρ Y O) (hd : Den w ρ (Av Y ρ O) s u) (h : vptr O s k) :
    ∃ l us b o, k l ∧ u = .pointer (some ⟨b, o, none⟩) ∧ DenAll w ρ (Av Y ρ O) l us ∧ ∀ j v, us[j]? = some v → w.cell? ⟨b, o + j, none⟩ = some v := by
  unfold vptr at h
  split at h
  · rename_i id off
    split at h
    · rename_i ty cells hf
      obtain ⟨v, hv, b, us, hv2, hb, hda⟩ := hs.objs _ (find_mem hf)
      simp only [Den] at hd
      obtain ⟨b', hb', rfl⟩ := hd
      have hvb : ρ[id]? = some v := hv
      rw [hv2] at hvb
      rw [hvb] at hb'
      injection hb' with hb'; injection hb' with hb'; injection hb' with hb'; injection hb' with hb'
      subst hb'
      refine ⟨cells.drop off, us.drop off, b, off, h, rfl, hda.drop off, fun j u hj => ?_⟩
      rw [List.getElem?_drop] at hj
      simp [World.cell?, hb, hj]
    · exact h.elim
  · rename_i cells
    simp only [Den] at hd
    obtain ⟨b, o, rfl, _, _, hc⟩ := hd
    obtain ⟨us, h1, h2⟩ := hc.vals
    exact ⟨cells, us, b, o, h, rfl, PdAll.den _ _ h1, h2⟩
  · rename_i id sz i j
    split at h
    · rename_i e sz' rows hf
      obtain ⟨rfl, r, hri, hk⟩ := h
      obtain ⟨v, hv, xs, hown, hdv⟩ := hs.objs _ (find_mem hf)
      simp only [Den] at hd
      obtain ⟨b, n, c, hb, rfl⟩ := hd
      have hvb : ρ[id]? = some v := hv
      rw [hb] at hvb
      injection hvb with hvb
      subst hvb
      obtain ⟨h4, ui, h5, h6⟩ := DenVals.get sz hdv hri
      refine ⟨_, ui.drop j, b, i * sz + j, hk, rfl, h5.drop j, fun m u hm => ?_⟩
      rw [List.getElem?_drop] at hm
      have := h6 _ u hm
      have hc := hown.cells (g := b) rfl (i * sz + (j + m)) u this
      rw [add_none] at hc
      rwa [show i * sz + j + m = 0 + (i * sz + (j + m)) from by omega]
    · exact h.elim
  · exact h.elim

def vload (P : Program) (O : Heap) (t : TypeId) (s : SV) (k : SV → Prop) : Prop :=
  match tk P t with
  | .st n => vptr O s fun l => n ≤ l.length ∧ k (.agg (l.take n))
  | .arr n e z => n * z = szOf P t ∧ vptr O s fun l => n * z ≤ l.length ∧ k (.agg (l.take (n * z)))
  | x => x.one = true ∧ vptr O s fun l => match l with | y :: _ => k y | [] => False

theorem Same.cells {w w' : World} (h : Same w w') {b o : Nat} {us : List Value} (hc : ∀ (j : Nat) v, us[j]? = some v → w.cell? ⟨b, o + j, none⟩ = some v) : ∀ (j : Nat) v, us[j]? = some v → w'.cell? ⟨b, o + j, none⟩ = some v := fun j v hj => h.cell (hc j v hj)

theorem vload_sound {P : Program} {w : World} {ρ : List Value} {Y : Nat → Prop} {O : Heap} {t : TypeId} {s : SV} {u : Value} {k : SV → Prop} (hs : Sat w ρ Y O) (hd : Den w ρ (Av Y ρ O) s u) (h : vload P O t s k) :
    ∃ r v, k r ∧ Den w ρ (Av Y ρ O) r v ∧ ∀ w', Same w w' → (Instr.loadAt t u).run P w' = .ok v w' := by
  unfold vload at h
  split at h
  · rename_i n ht
    obtain ⟨l, us, b, o, ⟨hl, hk⟩, rfl, hda, hc⟩ := vptr_sound hs hd h
    obtain ⟨_, i, hi, hsz⟩ := tk_st ht
    refine ⟨.agg (l.take n), .agg (us.take n).toArray, hk, ?_, fun w' hw => ?_⟩
    · simp only [Den]; exact ⟨_, rfl, hda.take n⟩
    · refine run_load_many (isAgg_st ht) hi ?_ (fun j v hj => ?_)
      · rw [List.length_take, hda.length, hsz]; omega
      · refine hw.cell (hc j v ?_)
        rw [List.getElem?_take] at hj
        split at hj
        · exact hj
        · cases hj
  · rename_i n e z ht
    obtain ⟨hz, h⟩ := h
    obtain ⟨l, us, b, o, ⟨hl, hk⟩, rfl, hda, hc⟩ := vptr_sound hs hd h
    obtain ⟨_, _, i, hi⟩ := tk_arr ht
    refine ⟨.agg (l.take (n * z)), .agg (us.take (n * z)).toArray, hk, ?_, fun w' hw => ?_⟩
    · simp only [Den]; exact ⟨_, rfl, hda.take _⟩
    · refine run_load_many (isAgg_arr ht) hi ?_ (fun j v hj => ?_)
      · simp only [szOf, hi, Option.map_some, Option.getD_some] at hz
        rw [List.length_take, hda.length, ← hz]; omega
      · refine hw.cell (hc j v ?_)
        rw [List.getElem?_take] at hj
        split at hj
        · exact hj
        · cases hj
  · obtain ⟨h1, h⟩ := h
    obtain ⟨l, us, b, o, hk, rfl, hda, hc⟩ := vptr_sound hs hd h
    cases l with
    | nil => exact hk.elim
    | cons y l =>
      simp only [DenAll] at hda
      obtain ⟨u, us', rfl, h2, h3⟩ := hda
      exact ⟨y, u, hk, h2, fun w' hw => run_load_one h1 (hw.cell (by simpa using hc 0 u rfl))⟩

end Go.Eng
