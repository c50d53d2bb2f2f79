/- A part of the engine that walks a function of the given program: sound rules, no statement of its own. -/
import Derived.Calls
import Derived.Tactics
import Derived.OwnWalk
import Derived.Below
import Derived.Maps.AppendAt
import Derived.Laws.OwnMore
import Derived.Laws.Slices
set_option linter.unusedVariables false
set_option linter.unusedSimpArgs false
set_option linter.unnecessarySimpa false
set_option linter.constructorNameAsVariable false
set_option linter.all false
set_option linter.unusedVariables false
set_option linter.unusedSimpArgs false
namespace Go.Eng

/-- Symbolic values. -/
inductive SV where
  | v (x : Value)
  | rd (sz : Nat) (rows : List (List SV))
  | agg (l : List SV)
  | tup (l : List SV)
  | own (id : Nat)
  | ptr (id : Nat) (off : Nat)
  | rptr (id : Nat) (sz : Nat) (i : Nat) (j : Nat)
  | eptr (cells : List SV)
  | sub (id : Nat) (sz : Nat) (l h : Nat) (full : Bool)
  | fn (f : FuncId) (caps : List SV)
  | ifc (t : TypeId) (x : SV)
  | any

/-- Objects of one's own. -/
inductive OObj where
  | box (t : TypeId) (cells : List SV)
  | row (e : TypeId) (sz : Nat) (rows : List (List SV))
  | mp (es : List (Value × SV))
  | emp (e : TypeId) (sz : Nat)
  | mpe (kv : Value) (s : SV) (n : Nat) (rest : List (Value × SV))
  | it (o : Obj)

abbrev Heap := List (Nat × OObj)
abbrev Tab := List (Nat × SV)

def oneV : Value → Bool
  | .agg _ | .tuple _ => false
  | _ => true

mutual
/-- What a value is that leads to nothing of one's own. -/
def Pd (w : World) (A : Nat → Prop) : SV → Value → Prop
  | .v x, u => u = x
  | .rd sz rows, u => ∃ p c, u = .slice p rows.length c ∧ rows.length ≤ c ∧ c ≤ maxLen ∧ (0 < rows.length → ∃ b o, p = some ⟨b, o, none⟩ ∧ ¬ A b ∧ b < w.heap.size ∧ PdRows w A sz rows b o)
  | .agg l, u => ∃ us, u = .agg us.toArray ∧ PdAll w A l us
  | .tup l, u => ∃ us, u = .tuple us.toArray ∧ PdAll w A l us
  | .fn f caps, u => ∃ us, u = .func (.func f) #[] us.toArray ∧ PdAll w A caps us
  | .ifc t x, u => ∃ y, u = .iface t y ∧ Pd w A x y
  | .any, _ => True
  | .own _, _ => False
  | .ptr _ _, _ => False
  | .rptr _ _ _ _, _ => False
  | .eptr _, _ => False
  | .sub _ _ _ _ _, _ => False
def PdAll (w : World) (A : Nat → Prop) : List SV → List Value → Prop
  | [], us => us = []
  | s :: ss, us => ∃ u us', us = u :: us' ∧ Pd w A s u ∧ PdAll w A ss us'
def PdCells (w : World) (A : Nat → Prop) : List SV → Nat → Nat → Prop
  | [], _, _ => True
  | s :: ss, b, o => (∃ u, w.cell? ⟨b, o, none⟩ = some u ∧ Pd w A s u) ∧ PdCells w A ss b (o + 1)
def PdRows (w : World) (A : Nat → Prop) (sz : Nat) : List (List SV) → Nat → Nat → Prop
  | [], _, _ => True
  | r :: rs, b, o => r.length = sz ∧ PdCells w A r b o ∧ PdRows w A sz rs b (o + sz)
end

mutual
def Den (w : World) (ρ : List Value) (A : Nat → Prop) : SV → Value → Prop
  | .v x, u => u = x
  | .rd sz rows, u => Pd w A (.rd sz rows) u
  | .agg l, u => ∃ us, u = .agg us.toArray ∧ DenAll w ρ A l us
  | .tup l, u => ∃ us, u = .tuple us.toArray ∧ DenAll w ρ A l us
  | .own id, u => ρ[id]? = some u ∧ oneV u = true
  | .ptr id off, u => ∃ b, ρ[id]? = some (.pointer (some ⟨b, 0, none⟩)) ∧ u = .pointer (some ⟨b, off, none⟩)
  | .rptr id sz i j, u => ∃ b n c, ρ[id]? = some (.slice (some ⟨b, 0, none⟩) n c) ∧ u = .pointer (some ⟨b, i * sz + j, none⟩)
  | .eptr cells, u => ∃ b o, u = .pointer (some ⟨b, o, none⟩) ∧ ¬ A b ∧ b < w.heap.size ∧ PdCells w A cells b o
  | .sub id sz l h full, u => ∃ p n c, ρ[id]? = some (.slice p n c) ∧ h ≤ n ∧ u = sliced p l h (if full then h else c) sz
  | .fn f caps, u => ∃ us, u = .func (.func f) #[] us.toArray ∧ DenAll w ρ A caps us
  | .ifc t x, u => ∃ y, u = .iface t y ∧ Den w ρ A x y
  | .any, _ => True
def DenAll (w : World) (ρ : List Value) (A : Nat → Prop) : List SV → List Value → Prop
  | [], us => us = []
  | s :: ss, us => ∃ u us', us = u :: us' ∧ Den w ρ A s u ∧ DenAll w ρ A ss us'
end

/-- What a step keeps. -/
structure Tr (w : World) (ρ : List Value) (A : Nat → Prop) (w' : World) (ρ' : List Value) (A' : Nat → Prop) : Prop where
  mem : ∀ b, b < w.heap.size → ¬ A b → w'.heap[b]? = w.heap[b]? ∧ ¬ A' b
  env : ∀ (i : Nat) (v : Value), ρ[i]? = some v → ρ'[i]? = some v
  size : w.heap.size ≤ w'.heap.size

theorem cell_lt {w : World} {b o : Nat} {u : Value} (h : w.cell? ⟨b, o, none⟩ = some u) : b < w.heap.size := by
  rcases Nat.lt_or_ge b w.heap.size with hlt | hge
  · exact hlt
  · simp [World.cell?, Array.getElem?_eq_none hge] at h

theorem Tr.cell {w : World} {ρ : List Value} {A : Nat → Prop} {w' : World} {ρ' : List Value} {A' : Nat → Prop} (t : Tr w ρ A w' ρ' A') {b o : Nat} {u : Value} (ha : ¬ A b) (h : w.cell? ⟨b, o, none⟩ = some u) : w'.cell? ⟨b, o, none⟩ = some u := by
  have := (t.mem b (cell_lt h) ha).1
  simpa [World.cell?, this] using h

mutual
theorem Pd.tr {w : World} {ρ : List Value} {A : Nat → Prop} {w' : World} {ρ' : List Value} {A' : Nat → Prop} (t : Tr w ρ A w' ρ' A') : ∀ (s : SV) (u : Value), Pd w A s u → Pd w' A' s u
  | .v x, u, h => by simpa only [Pd] using h
  | .rd sz [], u, h => by
    simp only [Pd, List.length_nil, Nat.lt_irrefl, false_implies, and_true] at h ⊢
    exact h
  | .rd sz (r :: rs), u, h => by
    simp only [Pd] at h ⊢
    obtain ⟨p, c, hu, hl, hc, hr⟩ := h
    refine ⟨p, c, hu, hl, hc, fun h0 => ?_⟩
    obtain ⟨b, o, hp, ha, hb, hd⟩ := hr h0
    exact ⟨b, o, hp, (t.mem b hb ha).2, Nat.lt_of_lt_of_le hb t.size, PdRows.tr t sz (r :: rs) b o ha hd⟩
  | .agg l, u, h => by
    simp only [Pd] at h ⊢
    obtain ⟨us, hu, hd⟩ := h
    exact ⟨us, hu, PdAll.tr t l us hd⟩
  | .tup l, u, h => by
    simp only [Pd] at h ⊢
    obtain ⟨us, hu, hd⟩ := h
    exact ⟨us, hu, PdAll.tr t l us hd⟩
  | .fn f caps, u, h => by
    simp only [Pd] at h ⊢
    obtain ⟨us, hu, hd⟩ := h
    exact ⟨us, hu, PdAll.tr t caps us hd⟩
  | .ifc ty x, u, h => by
    simp only [Pd] at h ⊢
    obtain ⟨y, hu, hd⟩ := h
    exact ⟨y, hu, Pd.tr t x y hd⟩
  | .any, u, h => by simp only [Pd]
  | .own id, u, h => by simp only [Pd] at h
  | .ptr id off, u, h => by simp only [Pd] at h
  | .rptr id sz i j, u, h => by simp only [Pd] at h
  | .eptr cells, u, h => by simp only [Pd] at h
  | .sub id sz l h0 full, u, h => by simp only [Pd] at h
theorem PdAll.tr {w : World} {ρ : List Value} {A : Nat → Prop} {w' : World} {ρ' : List Value} {A' : Nat → Prop} (t : Tr w ρ A w' ρ' A') : ∀ (l : List SV) (us : List Value), PdAll w A l us → PdAll w' A' l us
  | [], us, h => by simpa only [PdAll] using h
  | s :: ss, us, h => by
    simp only [PdAll] at h ⊢
    obtain ⟨u, us', h1, h2, h3⟩ := h
    exact ⟨u, us', h1, Pd.tr t s u h2, PdAll.tr t ss us' h3⟩
theorem PdCells.tr {w : World} {ρ : List Value} {A : Nat → Prop} {w' : World} {ρ' : List Value} {A' : Nat → Prop} (t : Tr w ρ A w' ρ' A') : ∀ (l : List SV) (b o : Nat), ¬ A b → PdCells w A l b o → PdCells w' A' l b o
  | [], _, _, _, _ => by simp only [PdCells]
  | s :: ss, b, o, ha, h => by
    simp only [PdCells] at h ⊢
    obtain ⟨⟨u, h1, h2⟩, h3⟩ := h
    exact ⟨⟨u, t.cell ha h1, Pd.tr t s u h2⟩, PdCells.tr t ss b (o + 1) ha h3⟩
theorem PdRows.tr {w : World} {ρ : List Value} {A : Nat → Prop} {w' : World} {ρ' : List Value} {A' : Nat → Prop} (t : Tr w ρ A w' ρ' A') (sz : Nat) : ∀ (l : List (List SV)) (b o : Nat), ¬ A b → PdRows w A sz l b o → PdRows w' A' sz l b o
  | [], _, _, _, _ => by simp only [PdRows]
  | r :: rs, b, o, ha, h => by
    simp only [PdRows] at h ⊢
    obtain ⟨h0, h1, h2⟩ := h
    exact ⟨h0, PdCells.tr t r b o ha h1, PdRows.tr t sz rs b (o + sz) ha h2⟩
end

mutual
theorem Pd.den {w : World} {ρ : List Value} {A : Nat → Prop} : ∀ (s : SV) (u : Value), Pd w A s u → Den w ρ A s u
  | .v x, u, h => by simpa only [Pd, Den] using h
  | .rd sz r, u, h => by simpa only [Den] using h
  | .agg l, u, h => by
    simp only [Pd, Den] at h ⊢
    obtain ⟨us, hu, hd⟩ := h
    exact ⟨us, hu, PdAll.den l us hd⟩
  | .tup l, u, h => by
    simp only [Pd, Den] at h ⊢
    obtain ⟨us, hu, hd⟩ := h
    exact ⟨us, hu, PdAll.den l us hd⟩
  | .fn f caps, u, h => by
    simp only [Pd, Den] at h ⊢
    obtain ⟨us, hu, hd⟩ := h
    exact ⟨us, hu, PdAll.den caps us hd⟩
  | .ifc ty x, u, h => by
    simp only [Pd, Den] at h ⊢
    obtain ⟨y, hu, hd⟩ := h
    exact ⟨y, hu, Pd.den x y hd⟩
  | .any, u, h => by simp only [Den]
  | .own id, u, h => by simp only [Pd] at h
  | .ptr id off, u, h => by simp only [Pd] at h
  | .rptr id sz i j, u, h => by simp only [Pd] at h
  | .eptr cells, u, h => by simp only [Pd] at h
  | .sub id sz l h0 full, u, h => by simp only [Pd] at h
theorem PdAll.den {w : World} {ρ : List Value} {A : Nat → Prop} : ∀ (l : List SV) (us : List Value), PdAll w A l us → DenAll w ρ A l us
  | [], us, h => by simpa only [PdAll, DenAll] using h
  | s :: ss, us, h => by
    simp only [PdAll, DenAll] at h ⊢
    obtain ⟨u, us', h1, h2, h3⟩ := h
    exact ⟨u, us', h1, Pd.den s u h2, PdAll.den ss us' h3⟩
end

mutual
theorem Den.tr {w : World} {ρ : List Value} {A : Nat → Prop} {w' : World} {ρ' : List Value} {A' : Nat → Prop} (t : Tr w ρ A w' ρ' A') : ∀ (s : SV) (u : Value), Den w ρ A s u → Den w' ρ' A' s u
  | .v x, u, h => by simpa only [Den] using h
  | .rd sz r, u, h => by simp only [Den] at h ⊢; exact Pd.tr t _ _ h
  | .agg l, u, h => by
    simp only [Den] at h ⊢
    obtain ⟨us, hu, hd⟩ := h
    exact ⟨us, hu, DenAll.tr t l us hd⟩
  | .tup l, u, h => by
    simp only [Den] at h ⊢
    obtain ⟨us, hu, hd⟩ := h
    exact ⟨us, hu, DenAll.tr t l us hd⟩
  | .own id, u, h => by
    simp only [Den] at h ⊢
    exact ⟨t.env _ _ h.1, h.2⟩
  | .ptr id off, u, h => by
    simp only [Den] at h ⊢
    obtain ⟨b, h1, h2⟩ := h
    exact ⟨b, t.env _ _ h1, h2⟩
  | .rptr id sz i j, u, h => by
    simp only [Den] at h ⊢
    obtain ⟨b, n, c, h1, h2⟩ := h
    exact ⟨b, n, c, t.env _ _ h1, h2⟩
  | .eptr cells, u, h => by
    simp only [Den] at h ⊢
    obtain ⟨b, o, h1, h2, hb, h3⟩ := h
    exact ⟨b, o, h1, (t.mem b hb h2).2, Nat.lt_of_lt_of_le hb t.size, PdCells.tr t cells b o h2 h3⟩
  | .sub id sz l h0 full, u, h => by
    simp only [Den] at h ⊢
    obtain ⟨p, n, c, h1, h2⟩ := h
    exact ⟨p, n, c, t.env _ _ h1, h2⟩
  | .fn f caps, u, h => by
    simp only [Den] at h ⊢
    obtain ⟨us, hu, hd⟩ := h
    exact ⟨us, hu, DenAll.tr t caps us hd⟩
  | .ifc ty x, u, h => by
    simp only [Den] at h ⊢
    obtain ⟨y, hu, hd⟩ := h
    exact ⟨y, hu, Den.tr t x y hd⟩
  | .any, u, h => by simp only [Den]
theorem DenAll.tr {w : World} {ρ : List Value} {A : Nat → Prop} {w' : World} {ρ' : List Value} {A' : Nat → Prop} (t : Tr w ρ A w' ρ' A') : ∀ (l : List SV) (us : List Value), DenAll w ρ A l us → DenAll w' ρ' A' l us
  | [], us, h => by simpa only [DenAll] using h
  | s :: ss, us, h => by
    simp only [DenAll] at h ⊢
    obtain ⟨u, us', h1, h2, h3⟩ := h
    exact ⟨u, us', h1, Den.tr t s u h2, DenAll.tr t ss us' h3⟩
end

theorem Tr.refl (w : World) (ρ : List Value) (A : Nat → Prop) : Tr w ρ A w ρ A := ⟨fun _ _ h => ⟨rfl, h⟩, fun _ _ h => h, Nat.le_refl _⟩

/-- Less to be shunned. -/
theorem Tr.less {w : World} {ρ : List Value} {A A' : Nat → Prop} (h : ∀ b, A' b → A b) : Tr w ρ A w ρ A' := ⟨fun b _ hn => ⟨rfl, fun ha => hn (h b ha)⟩, fun _ _ h => h, Nat.le_refl _⟩

/-! ### Objects -/
def blkOf : Value → Option Nat
  | .slice (some a) _ _ => some a.block
  | .pointer (some a) => some a.block
  | .map (some r) => some r
  | _ => none

def OwnB (ρ : List Value) (O : Heap) (b : Nat) : Prop := ∃ id obj v, (id, obj) ∈ O ∧ ρ[id]? = some v ∧ blkOf v = some b
def Av (Y : Nat → Prop) (ρ : List Value) (O : Heap) (b : Nat) : Prop := Y b ∨ OwnB ρ O b

/-- Rows of cells as a list of values. -/
def DenVals (w : World) (ρ : List Value) (A : Nat → Prop) (sz : Nat) : List (List SV) → List Value → Prop
  | [], us => us = []
  | r :: rs, us => ∃ u1 u2, us = u1 ++ u2 ∧ r.length = sz ∧ DenAll w ρ A r u1 ∧ DenVals w ρ A sz rs u2
/-- A map's entries. -/
def DenEnts (w : World) (ρ : List Value) (A : Nat → Prop) : List (Value × SV) → List MapEntry → Prop
  | [], es => es = []
  | (k, s) :: rest, es => ∃ e es', es = e :: es' ∧ e.key = k ∧ Den w ρ A s e.val ∧ DenEnts w ρ A rest es'

def SatObj (w : World) (ρ : List Value) (A : Nat → Prop) : OObj → Value → Prop
  | .box t cells, v => ∃ b us, v = .pointer (some ⟨b, 0, none⟩) ∧ w.heap[b]? = some (.cells us.toArray t (0, 0)) ∧ DenAll w ρ A cells us
  | .row e sz rows, v => ∃ xs, w.ownsRow 0 e sz v rows.length xs ∧ DenVals w ρ A sz rows xs
  | .mp es, v => ∃ b ents clock l, v = .map (some b) ∧ w.heap[b]? = some (.map ents clock) ∧ l.Perm ents.toList ∧ DenEnts w ρ A es l ∧ (∀ e ∈ ents, e.born < clock) ∧ (ents.toList.map (·.born)).Nodup ∧ (es.map (·.1)).Nodup
  | .mpe kv s n rest, v => ∃ b ents clock e l, v = .map (some b) ∧ w.heap[b]? = some (.map ents clock) ∧ (e :: l).Perm ents.toList ∧ DenEnts w ρ A ((kv, s) :: rest) (e :: l) ∧ (∀ e ∈ ents, e.born < clock) ∧ (ents.toList.map (·.born)).Nodup ∧ (((kv, s) :: rest).map (·.1)).Nodup ∧ e.born = n
  | .emp e sz, v => ∃ b, v = .slice (some ⟨b, 0, none⟩) 0 0 ∧ w.heap[b]? = some (.cells #[] e (0, 0))
  | .it o, v => ∃ b, v = .pointer (some ⟨b, 0, none⟩) ∧ w.heap[b]? = some o

theorem DenVals.tr {w : World} {ρ : List Value} {A : Nat → Prop} {w' : World} {ρ' : List Value} {A' : Nat → Prop} (t : Tr w ρ A w' ρ' A') (sz : Nat) : ∀ (rs : List (List SV)) (us : List Value), DenVals w ρ A sz rs us → DenVals w' ρ' A' sz rs us
  | [], us, h => h
  | r :: rs, us, h => by
    obtain ⟨u1, u2, h1, h2, h3, h4⟩ := h
    exact ⟨u1, u2, h1, h2, DenAll.tr t r u1 h3, DenVals.tr t sz rs u2 h4⟩
theorem DenEnts.tr {w : World} {ρ : List Value} {A : Nat → Prop} {w' : World} {ρ' : List Value} {A' : Nat → Prop} (t : Tr w ρ A w' ρ' A') : ∀ (rs : List (Value × SV)) (us : List MapEntry), DenEnts w ρ A rs us → DenEnts w' ρ' A' rs us
  | [], us, h => h
  | (k, s) :: rs, us, h => by
    obtain ⟨e, es', h1, h2, h3, h4⟩ := h
    exact ⟨e, es', h1, h2, Den.tr t s _ h3, DenEnts.tr t rs es' h4⟩

theorem SatObj.tr {w : World} {ρ : List Value} {A : Nat → Prop} {w' : World} {ρ' : List Value} {A' : Nat → Prop} (t : Tr w ρ A w' ρ' A') {obj : OObj} {v : Value} (hb : ∀ b, blkOf v = some b → w'.heap[b]? = w.heap[b]?) (h : SatObj w ρ A obj v) : SatObj w' ρ' A' obj v := by
  cases obj with
  | box ty cells =>
    obtain ⟨b, us, hv, hh, hd⟩ := h
    exact ⟨b, us, hv, (hb b (by rw [hv]; rfl)).trans hh, DenAll.tr t _ _ hd⟩
  | row e sz rows =>
    obtain ⟨xs, ho, hd⟩ := h
    refine ⟨xs, ⟨ho.1, ?_⟩, DenVals.tr t _ _ _ hd⟩
    rcases ho.2 with h1 | ⟨g, cap, cur, hv, h0, hh, h2⟩
    · exact .inl h1
    · exact .inr ⟨g, cap, cur, hv, h0, (hb g (by rw [hv]; rfl)).trans hh, h2⟩
  | mp es =>
    obtain ⟨b, ents, clock, l, hv, hh, hp, hd, h1⟩ := h
    exact ⟨b, ents, clock, l, hv, (hb b (by rw [hv]; rfl)).trans hh, hp, DenEnts.tr t _ _ hd, h1⟩
  | mpe kv s n rest =>
    obtain ⟨b, ents, clock, e, l, hv, hh, hp, hd, h1⟩ := h
    exact ⟨b, ents, clock, e, l, hv, (hb b (by rw [hv]; rfl)).trans hh, hp, DenEnts.tr t _ _ hd, h1⟩
  | emp e sz =>
    obtain ⟨b, hv, hh⟩ := h
    exact ⟨b, hv, (hb b (by rw [hv]; rfl)).trans hh⟩
  | it o =>
    obtain ⟨b, hv, hh⟩ := h
    exact ⟨b, hv, (hb b (by rw [hv]; rfl)).trans hh⟩

/-- Two objects lie apart. -/
def Apart (ρ : List Value) (x y : Nat × OObj) : Prop := x.1 ≠ y.1 ∧ ∀ v u b, ρ[x.1]? = some v → ρ[y.1]? = some u → blkOf v = some b → blkOf u ≠ some b

structure Sat (w : World) (ρ : List Value) (Y : Nat → Prop) (O : Heap) : Prop where
  objs : ∀ x ∈ O, ∃ v, ρ[x.1]? = some v ∧ SatObj w ρ (Av Y ρ O) x.2 v
  apart : O.Pairwise (Apart ρ)
  lt : ∀ b, Av Y ρ O b → b < w.heap.size
  out : ∀ b, Y b → ¬ OwnB ρ O b

/-- A step: blocks of 'M' alone may have changed; what of the heap is kept, what is new. -/
theorem Sat.change {w : World} {ρ : List Value} {Y : Nat → Prop} {O : Heap} {w' : World} {ρ' : List Value} {O' : Heap} (h : Sat w ρ Y O) (M : Nat → Prop)
    (hsz : w.heap.size ≤ w'.heap.size) (henv : ∀ (i : Nat) (v : Value), ρ[i]? = some v → ρ'[i]? = some v)
    (hM : ∀ b, b < w.heap.size → ¬ M b → w'.heap[b]? = w.heap[b]?) (hMo : ∀ b, M b → OwnB ρ O b)
    (hown : ∀ b, OwnB ρ' O' b → (OwnB ρ O b ∨ w.heap.size ≤ b) ∧ b < w'.heap.size)
    (hap : O'.Pairwise (Apart ρ'))
    (hobj : ∀ x ∈ O', (x ∈ O ∧ ∀ v b, ρ[x.1]? = some v → blkOf v = some b → ¬ M b) ∨ (Tr w ρ (Av Y ρ O) w' ρ' (Av Y ρ' O') → ∃ v, ρ'[x.1]? = some v ∧ SatObj w' ρ' (Av Y ρ' O') x.2 v)) :
    Sat w' ρ' Y O' ∧ Tr w ρ (Av Y ρ O) w' ρ' (Av Y ρ' O') := by
  have t : Tr w ρ (Av Y ρ O) w' ρ' (Av Y ρ' O') := by
    refine ⟨fun b hb hn => ⟨hM b hb (fun hm => hn (.inr (hMo b hm))), fun ha => ?_⟩, henv, hsz⟩
    rcases ha with ha | ha
    · exact hn (.inl ha)
    · rcases (hown b ha).1 with h1 | h1
      · exact hn (.inr h1)
      · omega
  refine ⟨⟨fun x hx => ?_, hap, fun b hb => ?_, fun b hy ho => ?_⟩, t⟩
  · rcases hobj x hx with ⟨hxo, hnm⟩ | hnew
    · obtain ⟨v, hv, hs⟩ := h.objs x hxo
      refine ⟨v, henv _ _ hv, hs.tr t fun b hb => hM b ?_ (hnm v b hv hb)⟩
      exact h.lt b (.inr ⟨x.1, x.2, v, hxo, hv, hb⟩)
    · exact hnew t
  · rcases hb with hb | hb
    · exact Nat.lt_of_lt_of_le (h.lt b (.inl hb)) hsz
    · exact (hown b hb).2
  · rcases (hown b ho).1 with h1 | h1
    · exact h.out b hy h1
    · have := h.lt b (.inl hy); omega

end Go.Eng
