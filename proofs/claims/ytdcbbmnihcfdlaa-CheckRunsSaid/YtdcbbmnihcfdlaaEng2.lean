/- A part of the engine that walks a function of the given program: sound rules, no statement of its own. -/
import Derived.Test.YtdcbbmnihcfdlaaEng1
import Derived.Laws.Cells
import Derived.Laws.Entries
import Derived.Laws.Slices
import Derived.Laws.Rows
import Derived.WalkKit
set_option linter.unusedVariables false
set_option linter.unusedSimpArgs false
set_option linter.unnecessarySimpa false
set_option linter.constructorNameAsVariable false
set_option linter.all false
set_option linter.unusedVariables false
set_option linter.unusedSimpArgs false
namespace Go.Eng

def look : Tab → Nat → Option SV
  | [], _ => none
  | (d, s) :: T, t => if d = t then some s else look T t
def find : Heap → Nat → Option OObj
  | [], _ => none
  | (i, o) :: O, t => if i = t then some o else find O t
def ev (T : Tab) : Operand → SV
  | .tmp t => (look T t).getD .any
  | .const x => .v x
  | .func f => .fn f []
  | .global _ => .any
def putT (d : Option Tmp) (s : SV) (T : Tab) : Tab := match d with | some d => (d, s) :: T | none => T

/-- What is fixed in a function: the program, the number of slots, the world at its begin, what of that may change, what is others'. -/
structure Cx where
  P : Program
  n : Nat
  w0 : World
  F : Nat → Prop
  Y : Nat → Prop
  r0 : List Value

structure Frm (w0 : World) (F : Nat → Prop) (w : World) : Prop where
  os : w.os = w0.os
  tape : w.tape = w0.tape
  output : w.output = w0.output
  size : w0.heap.size ≤ w.heap.size
  block : ∀ b, b < w0.heap.size → ¬ F b → w.heap[b]? = w0.heap[b]?

structure St (c : Cx) (w : World) (ρ : List Value) (nx : Nat) (T : Tab) (O : Heap) (vals : Array Value) : Prop where
  sat : Sat w ρ c.Y O
  nx : ρ.length = nx
  size : vals.size = c.n
  tmps : ∀ (d : Nat) (s : SV), look T d = some s → ∃ u, vals[d]? = some u ∧ Den w ρ (Av c.Y ρ O) s u
  frm : Frm c.w0 c.F w
  own : ∀ b, OwnB ρ O b → b < c.w0.heap.size → c.F b
  pre : ∀ (i : Nat) (v : Value), c.r0[i]? = some v → ρ[i]? = some v

abbrev AbsPost := Exit → Nat → Tab → Heap → Prop
def Lift (c : Cx) (K : AbsPost) : Exit → Act → World → Prop
  | e, a, w => a.defers = [] ∧ ∃ ρ nx T O, St c w ρ nx T O a.tmps ∧ K e nx T O

theorem find_mem : ∀ {O : Heap} {i : Nat} {o : OObj}, find O i = some o → (i, o) ∈ O
  | (j, p) :: O, i, o, h => by
    unfold find at h
    split at h
    · rename_i hj; subst hj; cases h; exact List.mem_cons_self
    · exact List.mem_cons_of_mem _ (find_mem h)

section
variable {c : Cx} {w : World} {ρ : List Value} {nx : Nat} {T : Tab} {O : Heap} {vals : Array Value}

theorem St.ev (h : St c w ρ nx T O vals) (x : Operand) : Den w ρ (Av c.Y ρ O) (ev T x) ((⟨vals, []⟩ : Act).eval x) := by
  cases x with
  | tmp t =>
    simp only [Eng.ev, Act.eval]
    cases hl : look T t with
    | none => simp [Den]
    | some s =>
      obtain ⟨u, h1, h2⟩ := h.tmps t s hl
      simpa [Array.getD_eq_getD_getElem?, h1] using h2
  | const v => simp [Eng.ev, Act.eval, Den]
  | global g => simp [Eng.ev, Den]
  | func f => simp [Eng.ev, Act.eval, Den, DenAll]

/-- A world that has all that was there, as it was. -/
def Same (w w' : World) : Prop := w.heap.size ≤ w'.heap.size ∧ ∀ b, b < w.heap.size → w'.heap[b]? = w.heap[b]?
theorem Same.refl (w : World) : Same w w := ⟨Nat.le_refl _, fun _ _ => rfl⟩
theorem Same.cell {w w' : World} (h : Same w w') {b o : Nat} {u : Value} (hc : w.cell? ⟨b, o, none⟩ = some u) : w'.cell? ⟨b, o, none⟩ = some u := by
  have := h.2 b (cell_lt hc)
  simpa [World.cell?, this] using hc
end

/-! ### Types -/
/-- Of a type: none: one cell; some n: a struct or an array of n cells. -/
def lay (P : Program) (t : TypeId) : Option (Option Nat) :=
  match P.underlying t, P.info? t with
  | some (.struct _), some i | some (.array _ _), some i => some (some i.size)
  | some _, some i => some none
  | _, _ => none

theorem run_isAgg {P : Program} {t : TypeId} {l : Option Nat} (h : lay P t = some l) (w : World) : (isAgg t).run P w = .ok l.isSome w := by
  unfold lay at h
  unfold isAgg
  split at h <;> simp_all [Sem.run_bind, run_underlying] <;> (try (subst h; rfl))


end Go.Eng
