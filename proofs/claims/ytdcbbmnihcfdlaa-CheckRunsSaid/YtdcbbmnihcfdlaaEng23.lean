/- A part of the engine that walks a function of the given program: sound rules, no statement of its own. -/
import Derived.Test.YtdcbbmnihcfdlaaEng22
import Derived.Deep.Slices
import Derived.OpenShut
import Derived.Carry
import Derived.SizedLaws
import Derived.JoinedOf
set_option linter.unusedVariables false
set_option linter.unusedSimpArgs false
set_option linter.unnecessarySimpa false
set_option linter.constructorNameAsVariable false
set_option linter.all false
set_option linter.unusedVariables false
set_option linter.unusedSimpArgs false
namespace Go.Eng

/-! ### Data that comes in, by its shape -/
inductive Sh where
  | ik (k : IntKind)
  | ss
  | bb
  | nil
  | cons (a r : Sh)
  | sl (sz : Nat) (e : Sh)
def Sh.rep : Nat → Sh → Sh
  | 0, _ => .nil
  | n + 1, e => .cons e (rep n e)
def Sh.size : Sh → Nat
  | .ik _ => 1
  | .ss => 1
  | .bb => 1
  | .nil => 0
  | .cons a r => a.size + r.size
  | .sl _ _ => 1
theorem Sh.rep_size (e : Sh) : ∀ n, (Sh.rep n e).size = n * e.size
  | 0 => by simp [Sh.rep, Sh.size]
  | n + 1 => by simp only [Sh.rep, Sh.size, Sh.rep_size e n, Nat.add_mul]; omega
def shFs (P : Program) (g : TypeId → Option Sh) : List Field → Nat → Option Sh
  | [], _ => some .nil
  | f :: fs, off => match g f.type with
    | some s => if f.offset = off ∧ P.cellsOf f.type = s.size then (shFs P g fs (off + s.size)).map (.cons s) else none
    | none => none
def shOf (P : Program) : Nat → TypeId → Option Sh
  | 0, _ => none
  | n + 1, t => match P.underlying t with
    | some (.int k) => some (.ik k)
    | some .string => some .ss
    | some .bool => some .bb
    | some (.slice e) => match shOf P n e with
      | some s => if 0 < s.size ∧ P.cellsOf e = s.size then some (.sl s.size s) else none
      | none => none
    | some (.array m e) => match shOf P n e with
      | some s => if P.cellsOf e = s.size ∧ P.cellsOf t = m * s.size then some (.rep m s) else none
      | none => none
    | some (.struct fs) => match shFs P (shOf P n) fs.toList 0 with
      | some s => if P.cellsOf t = s.size then some s else none
      | none => none
    | _ => none
/-- Cells of a shape. -/
def OkSh : Sh → List SV → Prop
  | .ik k, l => ∃ n, l = [.v (.int k n)] ∧ k.min ≤ n ∧ n ≤ k.max
  | .ss, l => ∃ z : ByteArray, l = [.v (.string z)] ∧ z.size ≤ maxLen
  | .bb, l => ∃ z, l = [.v (.bool z)]
  | .nil, l => l = []
  | .cons a r, l => ∃ l1 l2, l = l1 ++ l2 ∧ OkSh a l1 ∧ OkSh r l2
  | .sl sz e, l => ∃ rows, l = [.rd sz rows] ∧ rows.length ≤ maxLen ∧ ∀ r ∈ rows, OkSh e r

theorem cell_spot {w : World} {a : Addr} {u : Value} (h : w.cell? a = some u) : a.spot = none := by
  unfold World.cell? at h
  split at h
  · split at h
    · cases h
    · rename_i hs; simpa using hs
  · cases h
theorem add_spot (a : Addr) (k : Nat) : (a.add k).spot = none → a.spot = none ∨ k ≠ 0 := by
  intro h
  by_cases hk : k = 0
  · left; subst hk; simpa [Addr.add] using h
  · right; exact hk

theorem PdAll.app {w : World} {A : Nat → Prop} : ∀ {l m : List SV} {us vs : List Value}, PdAll w A l us → PdAll w A m vs → PdAll w A (l ++ m) (us ++ vs)
  | [], m, us, vs, h, hm => by simp only [PdAll] at h; subst h; simpa using hm
  | s :: ss, m, us, vs, h, hm => by
    simp only [PdAll] at h
    obtain ⟨u, us', rfl, h2, h3⟩ := h
    simp only [List.cons_append, PdAll]
    exact ⟨u, us' ++ vs, rfl, h2, PdAll.app h3 hm⟩
theorem PdAll.len {w : World} {A : Nat → Prop} {l : List SV} {us : List Value} (h : PdAll w A l us) : us.length = l.length := (PdAll.den (ρ := []) _ _ h).length

section
variable {H : Type} {enc : TypeId × Value → H} {P : Program} {w : World} {spare : Nat → Bool} {held : Bool}

def Opens (enc : TypeId × Value → H) (P : Program) (w : World) (spare : Nat → Bool) (held : Bool) (t : TypeId) (sh : Sh) : Prop :=
  ∀ (fuel : Nat) (cs : List Value) x, DataW.trod enc P w 0 spare held fuel t cs = some x → cs.length = sh.size ∧ ∃ l, PdAll w (fun _ => False) l cs ∧ OkSh sh l

theorem opens_fs {g : TypeId → Option Sh} (hg : ∀ t sh, g t = some sh → Opens enc P w spare held t sh) : ∀ (fs : List Field) (off : Nat) (sh : Sh), shFs P g fs off = some sh → ∀ (n : Nat) (cs : List Value) (xs : List (DataW H × List MemPlace)),
    (∀ (i : Nat) (f : Field), fs[i]? = some f → DataW.trod enc P w 0 spare held n f.type ((cs.drop f.offset).take (P.cellsOf f.type)) = xs[i]?) → xs.length = fs.length → cs.length = off + sh.size → ∃ l, PdAll w (fun _ => False) l (cs.drop off) ∧ OkSh sh l
  | [], off, sh, h, n, cs, xs, hx, hl, hlen => by
    simp only [shFs, Option.some.injEq] at h
    subst h
    simp only [Sh.size, Nat.add_zero] at hlen
    refine ⟨[], ?_, rfl⟩
    rw [List.drop_of_length_le (by omega)]
    rfl
  | f :: fs, off, sh, h, n, cs, xs, hx, hl, hlen => by
    simp only [shFs] at h
    split at h
    · rename_i s hs
      split at h
      · rename_i hc
        obtain ⟨rfl, hcell⟩ := hc
        obtain ⟨r, hr, rfl⟩ := Option.map_eq_some_iff.1 h
        simp only [Sh.size] at hlen
        cases xs with
        | nil => simp at hl
        | cons x xs =>
          have h0 := hx 0 f rfl
          simp only [List.getElem?_cons_zero] at h0
          obtain ⟨h1, l1, h2, h3⟩ := hg _ _ hs n _ _ h0
          obtain ⟨l2, h4, h5⟩ := opens_fs hg fs (f.offset + s.size) r hr n cs xs (fun i f' hf => by have := hx (i + 1) f' (by simpa using hf); simpa using this) (by simpa using hl) (by omega)
          refine ⟨l1 ++ l2, ?_, l1, l2, rfl, h3, h5⟩
          have e : cs.drop f.offset = (cs.drop f.offset).take (P.cellsOf f.type) ++ cs.drop (f.offset + s.size) := by
            rw [hcell, ← List.drop_drop, List.take_append_drop]
          rw [e]
          exact h2.app h4
      · cases h
    · cases h

theorem opens_rep {e : TypeId} {s : Sh} (hg : Opens enc P w spare held e s) (hc : P.cellsOf e = s.size) : ∀ (m k : Nat) (n : Nat) (cs : List Value) (xs : List (DataW H × List MemPlace)),
    (∀ i, i < m → DataW.trod enc P w 0 spare held n e ((cs.drop ((k + i) * s.size)).take s.size) = xs[k + i]?) → k + m ≤ xs.length → cs.length = (k + m) * s.size → ∃ l, PdAll w (fun _ => False) l (cs.drop (k * s.size)) ∧ OkSh (.rep m s) l
  | 0, k, n, cs, xs, hx, hl, hlen => by
    refine ⟨[], ?_, rfl⟩
    rw [List.drop_of_length_le (by rw [hlen]; simp)]
    rfl
  | m + 1, k, n, cs, xs, hx, hl, hlen => by
    have h0 := hx 0 (by omega)
    simp only [Nat.add_zero] at h0
    obtain ⟨x, hxk⟩ : ∃ x, xs[k]? = some x := ⟨_, List.getElem?_eq_getElem (by omega)⟩
    rw [hxk] at h0
    obtain ⟨h1, l1, h2, h3⟩ := hg n _ _ h0
    obtain ⟨l2, h4, h5⟩ := opens_rep hg hc m (k + 1) n cs xs (fun i hi => by have := hx (i + 1) (by omega); rwa [show k + (i + 1) = k + 1 + i by omega] at this) (by omega) (by rw [hlen]; congr 1; omega)
    refine ⟨l1 ++ l2, ?_, l1, l2, rfl, h3, h5⟩
    have e : cs.drop (k * s.size) = (cs.drop (k * s.size)).take s.size ++ cs.drop ((k + 1) * s.size) := by
      rw [show (k + 1) * s.size = k * s.size + s.size by rw [Nat.add_mul]; omega, ← List.drop_drop, List.take_append_drop]
    rw [e]
    exact h2.app h4

theorem rows_of {sz : Nat} {e : Sh} : ∀ (n : Nat) (b o : Nat), (∀ i, i < n → ∃ cs l, cs.length = sz ∧ (∀ j, j < sz → w.cell? ⟨b, o + i * sz + j, none⟩ = cs[j]?) ∧ PdAll w (fun _ => False) l cs ∧ OkSh e l) →
    ∃ rows, rows.length = n ∧ PdRows w (fun _ => False) sz rows b o ∧ ∀ r ∈ rows, OkSh e r
  | 0, b, o, h => ⟨[], rfl, by simp [PdRows], by simp⟩
  | n + 1, b, o, h => by
    obtain ⟨cs, l, h1, h2, h3, h4⟩ := h 0 (by omega)
    obtain ⟨rows, h5, h6, h7⟩ := rows_of n b (o + sz) fun i hi => by
      obtain ⟨cs, l, a1, a2, a3⟩ := h (i + 1) (by omega)
      refine ⟨cs, l, a1, fun j hj => ?_, a3⟩
      have := a2 j hj
      rwa [show o + (i + 1) * sz + j = o + sz + i * sz + j by rw [Nat.add_mul]; omega] at this
    refine ⟨l :: rows, by simp [h5], ?_, fun r hr => ?_⟩
    · simp only [PdRows]
      refine ⟨by rw [← h3.len, h1], PdCells.of_vals h3 fun j u hj => ?_, h6⟩
      have hlt : j < sz := by rw [← h1]; exact (List.getElem?_eq_some_iff.1 hj).1
      have := h2 j hlt
      rw [← hj, ← this]
      congr 2
      omega
    · rcases List.mem_cons.1 hr with rfl | hr
      · exact h4
      · exact h7 r hr

theorem sh_open : ∀ (n : Nat) (t : TypeId) (sh : Sh), shOf P n t = some sh → Opens enc P w spare held t sh
  | 0, t, sh, h => by simp [shOf] at h
  | n + 1, t, sh, h => by
    intro fuel cs x hx
    have ih := sh_open n
    unfold shOf at h
    split at h
    · rename_i k hu
      cases h
      obtain ⟨m, rfl, _, hw⟩ := DataW.trod_int hu hx
      simp only [Lit.wf, Bool.and_eq_true, decide_eq_true_eq] at hw
      exact ⟨rfl, [.v (.int k m)], by simp [PdAll, Pd], m, rfl, hw.1, hw.2⟩
    · rename_i hu
      cases h
      obtain ⟨m, rfl, _, hw⟩ := DataW.trod_string hu hx
      exact ⟨rfl, [.v (.string m)], by simp [PdAll, Pd], m, rfl, hw⟩
    · rename_i hu
      cases h
      obtain ⟨m, rfl, _⟩ := DataW.trod_bool hu hx
      exact ⟨rfl, [.v (.bool m)], by simp [PdAll, Pd], m, rfl⟩
    · rename_i e hu
      split at h
      · rename_i s hs
        split at h
        · rename_i hc
          cases h
          obtain ⟨hpos, hcell⟩ := hc
          rcases Deep.open_slice hu hx with ⟨rfl, _⟩ | ⟨a, len, cap, m, n', D, Pl, rfl, _, hl, hcap, hm, _, hel⟩
          · exact ⟨rfl, [.rd s.size []], by simp only [PdAll, Pd]; exact ⟨_, _, rfl, ⟨none, 0, rfl, Nat.le_refl _, Nat.zero_le _, fun h => by simp at h⟩, rfl⟩, [], rfl, by simp, by simp⟩
          · refine ⟨rfl, ?_⟩
            have hlm : len ≤ m := by rw [hm]; split <;> omega
            rcases Nat.eq_zero_or_pos len with h0 | h0
            · subst h0
              exact ⟨[.rd s.size []], by simp only [PdAll, Pd]; exact ⟨_, _, rfl, ⟨_, cap, rfl, Nat.zero_le _, hcap, fun h => by simp at h⟩, rfl⟩, [], rfl, by simp, by simp⟩
            · rw [hcell] at hel
              have hsp : a.spot = none := by
                obtain ⟨cs', h1, h2⟩ := hel 0 (by omega)
                obtain ⟨_, h3, h4⟩ := World.cells?_some h1
                have h5 := h4 0 hpos
                rw [List.getElem?_eq_getElem (by omega)] at h5
                have := cell_spot h5
                simpa [Addr.add] using this
              obtain ⟨b, o, sp⟩ := a
              simp only at hsp
              subst hsp
              obtain ⟨rows, r1, r2, r3⟩ := rows_of (w := w) (sz := s.size) (e := s) len b o fun i hi => by
                obtain ⟨cs', h1, h2⟩ := hel i (by omega)
                obtain ⟨_, h3, h4⟩ := World.cells?_some h1
                obtain ⟨h5, l, h6, h7⟩ := ih _ _ hs _ _ _ h2
                refine ⟨cs', l, h3, fun j hj => ?_, h6, h7⟩
                have := h4 j hj
                rwa [add_none, add_none] at this
              refine ⟨[.rd s.size rows], ?_, rows, rfl, by omega, r3⟩
              simp only [PdAll, Pd]
              refine ⟨_, _, rfl, ⟨some ⟨b, o, none⟩, cap, by rw [r1], by omega, hcap, fun _ => ⟨b, o, rfl, fun h => h, ?_, r2⟩⟩, rfl⟩
              obtain ⟨cs', h1, h2⟩ := hel 0 (by omega)
              obtain ⟨_, h3, h4⟩ := World.cells?_some h1
              have h5 := h4 0 hpos
              rw [List.getElem?_eq_getElem (by omega), add_none, add_none] at h5
              exact cell_lt h5
        · cases h
      · cases h
    · rename_i m e hu
      split at h
      · rename_i s hs
        split at h
        · rename_i hc
          cases h
          obtain ⟨xs, mm, _, _, hlen, hxl, hf⟩ := DataW.trod_array hu hx
          rw [hc.1] at hf
          obtain ⟨l, h1, h2⟩ := opens_rep (ih _ _ hs) hc.1 m 0 mm cs xs (fun i hi => by simpa using hf i hi) (by omega) (by rw [hlen, hc.2]; simp)
          refine ⟨by rw [Sh.rep_size, hlen, hc.2], l, by simpa using h1, h2⟩
        · cases h
      · cases h
    · rename_i fs hu
      split at h
      · rename_i s hs
        split at h
        · rename_i hc
          cases h
          obtain ⟨xs, mm, _, _, hlen, hxl, hf⟩ := DataW.trod_struct hu hx
          obtain ⟨l, h1, h2⟩ := opens_fs (fun t sh h => ih t sh h) fs.toList 0 sh hs mm cs xs (fun i f hff => hf i f (by simpa using hff)) (by simpa using hxl) (by omega)
          exact ⟨by omega, l, by simpa using h1, h2⟩
        · cases h
      · cases h
    · cases h

/-! ### Parameters -/
def isAggT (P : Program) (t : TypeId) : Bool := match P.underlying t with | some (.struct _) | some (.array _ _) => true | _ => false
/-- What a parameter may be. -/
def OkPar (P : Program) (n : Nat) (t : TypeId) (x : SV) : Prop := ∃ sh l, shOf P n t = some sh ∧ OkSh sh l ∧ (if isAggT P t = true then x = .agg l else l = [x])
def OkPars (P : Program) (n : Nat) : List TypeId → List SV → Prop
  | [], xs => xs = []
  | t :: ts, xs => ∃ x xs', xs = x :: xs' ∧ OkPar P n t x ∧ OkPars P n ts xs'

theorem par_open {r : Reach} {base : Nat} {n : Nat} {t : TypeId} {sh : Sh} (hs : shOf P n t = some sh) {v : Value} {d : DataW H} {p : List MemPlace} (hv : Value.okWide P w r base t v) (h : DataW.Trod enc P w 0 spare held t v d p) :
    ∃ x, OkPar P n t x ∧ Pd w (fun _ => False) x v := by
  obtain ⟨fuel, hf⟩ := h
  obtain ⟨h1, l, h2, h3⟩ := sh_open n t sh hs fuel _ _ hf
  by_cases ha : isAggT P t = true
  · have hagg : ∃ cs, v = .agg cs := by
      unfold isAggT at ha
      unfold Value.okWide at hv
      split at ha
      · rename_i fs hu; rw [hu] at hv; obtain ⟨cs, rfl, _⟩ := hv; exact ⟨cs, rfl⟩
      · rename_i m e hu; rw [hu] at hv; obtain ⟨cs, rfl, _⟩ := hv; exact ⟨cs, rfl⟩
      · cases ha
    obtain ⟨cs, rfl⟩ := hagg
    refine ⟨.agg l, ⟨sh, l, hs, h3, by rw [if_pos ha]⟩, ?_⟩
    simp only [Pd]
    exact ⟨cs.toList, by simp, by simpa [Value.cells] using h2⟩
  · have key : v.cells = #[v] ∧ ∃ x, l = [x] := by
      cases n with
      | zero => simp [shOf] at hs
      | succ n =>
        unfold shOf at hs
        split at hs
        · rename_i k hu
          cases hs
          obtain ⟨m, rfl⟩ := WideShapes.okWide_int hu hv
          obtain ⟨m', rfl, _⟩ := h3
          exact ⟨rfl, _, rfl⟩
        · rename_i hu
          cases hs
          obtain ⟨m, rfl⟩ := WideShapes.okWide_string hu hv
          obtain ⟨m', rfl, _⟩ := h3
          exact ⟨rfl, _, rfl⟩
        · rename_i hu
          cases hs
          obtain ⟨m, rfl⟩ := WideShapes.okWide_bool hu hv
          obtain ⟨m', rfl⟩ := h3
          exact ⟨rfl, _, rfl⟩
        · rename_i e hu
          obtain ⟨a, b, c, rfl⟩ := WideShapes.okWide_slice hu hv
          split at hs
          · split at hs
            · cases hs
              obtain ⟨rows, rfl, _⟩ := h3
              exact ⟨rfl, _, rfl⟩
            · cases hs
          · cases hs
        · rename_i m e hu
          exact absurd (by simp [isAggT, hu]) ha
        · rename_i fs hu
          exact absurd (by simp [isAggT, hu]) ha
        · cases hs
    obtain ⟨hc, x, rfl⟩ := key
    refine ⟨x, ⟨sh, [x], hs, h3, by rw [if_neg ha]⟩, ?_⟩
    rw [hc] at h2
    simp only [PdAll] at h2
    obtain ⟨u, us, he, hp, _⟩ := h2
    simp only [List.cons.injEq] at he
    rw [he.1]; exact hp

theorem pars_open {r : Reach} {base : Nat} {n : Nat} : ∀ {ts : List TypeId} {vs : List Value} {ds : List (DataW H)} {p : List MemPlace}, (∀ t ∈ ts, (shOf P n t).isSome = true) → (∀ (j : Nat) t v, ts[j]? = some t → vs[j]? = some v → Value.okWide P w r base t v) → DataW.TrodAll enc P w 0 spare held ts vs ds p →
    ds.length = ts.length ∧ ∃ xs, OkPars P n ts xs ∧ PdAll w (fun _ => False) xs vs
  | [], [], [], p, _, _, _ => ⟨rfl, [], rfl, by simp [PdAll]⟩
  | t :: ts, v :: vs, d :: ds, p, h1, h2, h3 => by
    obtain ⟨p1, p2, h4, h5, _⟩ := h3
    obtain ⟨sh, hs⟩ := Option.isSome_iff_exists.1 (h1 t List.mem_cons_self)
    obtain ⟨x, h6, h7⟩ := par_open hs (h2 0 t v rfl rfl) h4
    obtain ⟨h8, xs, h9, h10⟩ := pars_open (fun t ht => h1 t (List.mem_cons_of_mem _ ht)) (fun j t v ht hv => h2 (j + 1) t v (by simpa using ht) (by simpa using hv)) h5
    refine ⟨by simp [h8], x :: xs, ⟨x, xs, rfl, h6, h9⟩, ?_⟩
    simp only [PdAll]
    exact ⟨v, vs, rfl, h7, h10⟩
  | [], [], _ :: _, p, _, _, h => h.elim
  | [], _ :: _, _, p, _, _, h => h.elim
  | _ :: _, [], _, p, _, _, h => h.elim
  | _ :: _, _ :: _, [], p, _, _, h => h.elim

theorem trodAll_below (hl : laidOutB P = true) {W W' : World} (hb : RowKit.Below W.heap.size W W') : ∀ {ts : List TypeId} {vs : List Value} {ds : List (DataW H)} {p : List MemPlace}, (∀ t ∈ ts, P.readableRec t = true ∧ t < P.types.size) →
    DataW.TrodAll enc P W 0 (fun _ => true) true ts vs ds p → DataW.TrodAll enc P W' 0 (fun b => decide (b < W.heap.size)) true ts vs ds p
  | [], [], [], p, _, h => h
  | t :: ts, v :: vs, d :: ds, p, h1, h3 => by
    obtain ⟨p1, p2, h4, h5, h6⟩ := h3
    refine ⟨p1, p2, RowKit.Below.trod hl (h1 t List.mem_cons_self).1 (h1 t List.mem_cons_self).2 h4 hb ?_, trodAll_below hl hb (fun t ht => h1 t (List.mem_cons_of_mem _ ht)) h5, h6⟩
    obtain ⟨m, hm⟩ := h4
    exact DataW.trod_lt m _ _ _ hm
  | [], [], _ :: _, p, _, h => h.elim
  | [], _ :: _, _, p, _, h => h.elim
  | _ :: _, [], _, p, _, h => h.elim
  | _ :: _, _ :: _, [], p, _, h => h.elim

/-- A law, out of what its function gives. -/
theorem law_post {fn : Func} {f : FuncId} {s : ChangeSpec} {n : Nat} {rt : TypeId} (hl : laidOutB P = true) (hv : s.vars = []) (hsh : ∀ t ∈ fn.params.toList, (shOf P n t).isSome = true ∧ P.readableRec t = true ∧ t < P.types.size)
    (hr : fn.resultTypes = #[rt]) (hb : P.underlying rt = some .bool) (hspec : ∀ ds : List (DataW H), ds.length = fn.params.size → s.fn H (ds ++ []) = { results := [.lit (.bool true)], args := ds })
    (hfun : ∀ xs, OkPars P n fn.params.toList xs → Fun P f xs (.v (.bool true)))
    {W : World} {base : Nat} {args : Array Value} {ds gs : List (DataW H)} {before : List MemPlace} (hval : ∀ (j : Nat) t v, fn.params[j]? = some t → args[j]? = some v → Value.okWide P W .any base t v)
    (hW : DataW.Whole enc P fn.params.toList s.vars false W args.toList ds gs before) : Calls P f args W fun e W' => ∃ v, e = .returned v ∧ s.post enc P fn false true false false W args v W' := by
  have hW' := hW
  obtain ⟨p, q, hA, hV, rfl, hfz, hnd⟩ := hW
  rw [hv] at hV
  obtain ⟨rfl, rfl⟩ := ChangeShapes.trodVars_none hV
  obtain ⟨hlen, xs, hxs, hpd⟩ := pars_open (n := n) (r := .any) (base := base) (fun t ht => (hsh t ht).1) (fun j t v ht hv => hval j t v (by simpa using ht) (by simpa using hv)) hA
  have hD : DenAll W [] (Av (fun _ => False) [] []) xs args.toList := PdAll.den _ _ (PdAll.tr (Tr.less (ρ := []) fun b hb => by
    rcases hb with hb | hb
    · exact hb
    · exact (ownB_nil hb).elim) _ _ hpd)
  have hc := hfun xs hxs (fun _ => False) W [] rfl (Sat.nil (fun b hb => hb.elim) []) args.toList hD
  rw [Array.toArray_toList] at hc
  refine hc.mono fun e W' hh => ?_
  obtain ⟨u, x, ρ', nx', O', rfl, _, _, _, hF, _, hDu, ⟨rfl, rfl, rfl⟩, hsame⟩ := hh
  simp only [Den] at hDu
  subst hDu
  have hS := hsame rfl
  have bel : RowKit.Below W.heap.size W W' := ⟨hF.os, hF.tape, hF.output, hS.1, hS.2⟩
  have hsp := hspec ds (by rw [hlen]; simp)
  refine ⟨_, rfl, ds, [], _, [], p, [], hW', ?_, ?_, ?_, bel.frame _, fun h => by cases h⟩
  · rw [hsp, hr]
    exact trodAll_cons_mk (RowKit.shut_bool hb true) ChangeShapes.trodAll_mk0
  · rw [hsp]
    exact trodAll_below hl bel (fun t ht => (hsh t ht).2) hA
  · rw [hsp, hv]
    rfl
end
end Go.Eng
