/- A part of the engine that walks a function of the given program: sound rules, no statement of its own. -/
import Derived.Test.YtdcbbmnihcfdlaaEng10
set_option linter.unusedVariables false
set_option linter.unusedSimpArgs false
set_option linter.unnecessarySimpa false
set_option linter.constructorNameAsVariable false
set_option linter.all false
set_option linter.unusedVariables false
set_option linter.unusedSimpArgs false
namespace Go.Eng

def setO : Heap → Nat → OObj → Heap
  | [], _, _ => []
  | (i, o) :: O, id, x => if i = id then (i, x) :: O else (i, o) :: setO O id x
def delO : Heap → Nat → Heap
  | [], _ => []
  | (i, o) :: O, id => if i = id then O else (i, o) :: delO O id

section
variable {w : World} {ρ : List Value} {Y : Nat → Prop} {O : Heap}
theorem setO_map (O : Heap) (id : Nat) (x : OObj) : (setO O id x).map (·.1) = O.map (·.1) := by
  induction O with
  | nil => rfl
  | cons a O ih =>
    obtain ⟨i, o⟩ := a
    simp only [setO]
    split <;> simp [ih]
theorem mem_setO {O : Heap} (hp : O.Pairwise (Apart ρ)) {id : Nat} {x : OObj} {y : Nat × OObj} (h : y ∈ setO O id x) : y = (id, x) ∨ (y ∈ O ∧ y.1 ≠ id) := by
  induction O with
  | nil => cases h
  | cons a O ih =>
    obtain ⟨i, o⟩ := a
    have hp' := List.pairwise_cons.1 hp
    simp only [setO] at h
    split at h
    · rename_i e
      subst e
      rcases List.mem_cons.1 h with h | h
      · exact .inl h
      · exact .inr ⟨List.mem_cons_of_mem _ h, fun e => (hp'.1 y h).1 e.symm⟩
    · rename_i e
      rcases List.mem_cons.1 h with h | h
      · subst h; exact .inr ⟨List.mem_cons_self, e⟩
      · rcases ih hp'.2 h with h | h
        · exact .inl h
        · exact .inr ⟨List.mem_cons_of_mem _ h.1, h.2⟩
theorem mem_delO {O : Heap} (hp : O.Pairwise (Apart ρ)) {id : Nat} {y : Nat × OObj} (h : y ∈ delO O id) : y ∈ O ∧ y.1 ≠ id := by
  induction O with
  | nil => cases h
  | cons a O ih =>
    obtain ⟨i, o⟩ := a
    have hp' := List.pairwise_cons.1 hp
    simp only [delO] at h
    split at h
    · rename_i e
      subst e
      exact ⟨List.mem_cons_of_mem _ h, fun e => (hp'.1 y h).1 e.symm⟩
    · rename_i e
      rcases List.mem_cons.1 h with h | h
      · subst h; exact ⟨List.mem_cons_self, e⟩
      · exact ⟨List.mem_cons_of_mem _ (ih hp'.2 h).1, (ih hp'.2 h).2⟩
theorem delO_sub (O : Heap) (id : Nat) : (delO O id).Sublist O := by
  induction O with
  | nil => exact .slnil
  | cons a O ih =>
    obtain ⟨i, o⟩ := a
    simp only [delO]
    split
    · exact (List.Sublist.refl _).cons _
    · exact ih.cons_cons _
theorem ownB_setO {O : Heap} {id : Nat} {x : OObj} {b : Nat} : OwnB ρ (setO O id x) b ↔ OwnB ρ O b := by
  have key : ∀ O' : Heap, OwnB ρ O' b ↔ ∃ i ∈ O'.map (·.1), ∃ v, ρ[i]? = some v ∧ blkOf v = some b := by
    intro O'
    constructor
    · rintro ⟨i, o, v, hm, hv, hb⟩
      exact ⟨i, List.mem_map.2 ⟨_, hm, rfl⟩, v, hv, hb⟩
    · rintro ⟨i, hm, v, hv, hb⟩
      obtain ⟨y, hy, rfl⟩ := List.mem_map.1 hm
      exact ⟨y.1, y.2, v, hy, hv, hb⟩
  rw [key, key, setO_map]
theorem pairwise_setO {O : Heap} (hp : O.Pairwise (Apart ρ)) (id : Nat) (x : OObj) : (setO O id x).Pairwise (Apart ρ) := by
  have e : ∀ O' : Heap, O'.Pairwise (Apart ρ) ↔ (O'.map (·.1)).Pairwise fun i j => i ≠ j ∧ ∀ v u b, ρ[i]? = some v → ρ[j]? = some u → blkOf v = some b → blkOf u ≠ some b := by
    intro O'
    rw [List.pairwise_map]
    rfl
  rw [e] at hp ⊢
  rwa [setO_map]

/-- An object's content is another one: its block alone has changed. -/
theorem Sat.setObj (h : Sat w ρ Y O) {id : Nat} {obj obj' : OObj} (hf : find O id = some obj) {v : Value} {b : Nat} (hv : ρ[id]? = some v) (hb : blkOf v = some b) {w' : World}
    (hsz : w'.heap.size = w.heap.size) (hoth : ∀ k, k ≠ b → w'.heap[k]? = w.heap[k]?)
    (hs : Tr w ρ (Av Y ρ O) w' ρ (Av Y ρ (setO O id obj')) → SatObj w' ρ (Av Y ρ (setO O id obj')) obj' v) :
    Sat w' ρ Y (setO O id obj') ∧ Tr w ρ (Av Y ρ O) w' ρ (Av Y ρ (setO O id obj')) := by
  have hm := find_mem hf
  have hown : OwnB ρ O b := ⟨id, obj, v, hm, hv, hb⟩
  refine h.change (fun k => k = b) (by omega) (fun _ _ h => h) (fun k _ hk => hoth k hk) (fun k hk => hk ▸ hown) (fun k hk => ?_) (pairwise_setO h.apart _ _) (fun x hx => ?_)
  · have hk' := ownB_setO.1 hk
    exact ⟨.inl hk', by rw [hsz]; exact h.lt k (.inr hk')⟩
  · rcases mem_setO h.apart hx with rfl | ⟨hxo, hne⟩
    · exact .inr fun t => ⟨v, hv, hs t⟩
    · refine .inl ⟨hxo, fun u k hu hk hkb => ?_⟩
      subst hkb
      -- two objects of one block
      have hp := h.apart
      have : ∀ {l : Heap}, l.Pairwise (Apart ρ) → (id, obj) ∈ l → x ∈ l → False := by
        intro l
        induction l with
        | nil => intro _ h1; cases h1
        | cons a l ih =>
          intro hpw h1 h2
          have hpw' := List.pairwise_cons.1 hpw
          rcases List.mem_cons.1 h1 with e1 | h1
          · rcases List.mem_cons.1 h2 with e2 | h2
            · rw [e2, ← e1] at hne; exact hne rfl
            · have := (hpw'.1 x h2).2 v u k (by rw [← e1]; exact hv) hu hb
              exact this hk
          · rcases List.mem_cons.1 h2 with e2 | h2
            · have := (hpw'.1 _ h1).2 u v k (by rw [← e2]; exact hu) hv hk
              exact this hb
            · exact ih hpw'.2 h1 h2
      exact this hp hm hxo

theorem setRow_other (w : World) (g : Nat) (cs : Array Value) : ∀ k, k ≠ g → (w.setRow g cs).heap[k]? = w.heap[k]? := by
  intro k hk
  unfold World.setRow
  simp only [Array.getElem?_modify]
  rw [if_neg (fun e => hk e.symm)]
theorem setRow_size (w : World) (g : Nat) (cs : Array Value) : (w.setRow g cs).heap.size = w.heap.size := by
  unfold World.setRow; simp

theorem run_storeCells_off {P : Program} {g : Nat} {t : TypeId} {off : Nat} : ∀ (vs : List Value) (i : Nat) (cur : Array Value) (w : World), w.heap[g]? = some (.cells cur t (0, 0)) → off + i + vs.length ≤ cur.size → (∀ v ∈ vs, oneV v = true) →
    (storeCells ⟨g, off, none⟩ vs i).run P w = .ok () (w.setRow g (cur.toList.take (off + i) ++ vs ++ cur.toList.drop (off + i + vs.length)).toArray)
  | [], i, cur, w, hg, hl, h1 => by
    simp only [storeCells, List.append_nil, List.length_nil, Nat.add_zero, List.take_append_drop, Array.toArray_toList]
    show Result.ok () w = _
    congr 1
    unfold World.setRow
    cases w with
    | mk heap tape drawn os output =>
      congr 1
      apply Array.ext
      · simp
      · intro k h1 h2
        simp only [Array.getElem_modify]
        split
        · rename_i hk; subst hk
          have hv := (Array.getElem?_eq_some_iff.1 hg).2
          simp only at hv
          rw [hv]
        · rfl
  | v :: rest, i, cur, w, hg, hl, h1 => by
    have hi : off + i < cur.size := by simp at hl; omega
    have hcell : w.cell? ⟨g, off + i, none⟩ = some cur[off + i] := by simp [World.cell?, hg, hi]
    have hfro : w.frozen? ⟨g, off + i, none⟩ = false := by simp [World.frozen?, hg]
    have hst : (store ((⟨g, off, none⟩ : Addr).add i) v).run P w = .ok () (w.setRow g (cur.setIfInBounds (off + i) v)) := by
      rw [add_none, run_store P w _ v _ (by rw [oneV_eq]; exact h1 v (by simp)), hcell]
      simp [hfro, setCell_eq_setRow w g (off + i) cur t (0, 0) v hg]
    have ih := run_storeCells_off (P := P) (off := off) rest (i + 1) (cur.setIfInBounds (off + i) v) (w.setRow g (cur.setIfInBounds (off + i) v)) (setRow_heap w g cur _ t _ hg) (by simp at hl ⊢; omega) (fun x hx => h1 x (by simp [hx]))
    simp only [storeCells, Sem.run_bind, hst, Result.andThen_ok, ih, setRow_setRow]
    congr 3
    have e1 : off + (i + 1) + rest.length = off + i + (v :: rest).length := by simp; omega
    rw [e1]
    apply List.ext_getElem?
    intro k
    simp only [Array.toList_setIfInBounds, List.append_assoc, List.getElem?_append, List.length_take, List.length_set, Array.length_toList, List.length_cons, List.length_append, List.getElem?_drop, List.getElem?_take]
    by_cases hk : k < off + i
    · simp [hk, show k < off + (i + 1) by omega, show min (off + (i + 1)) cur.size = off + (i + 1) by omega, show min (off + i) cur.size = off + i by omega, show off + i ≠ k by omega]
    · by_cases hk2 : k = off + i
      · subst hk2
        simp [show off + i < off + (i + 1) by omega, show min (off + (i + 1)) cur.size = off + (i + 1) by omega, show min (off + i) cur.size = off + i by omega, List.getElem?_set, hi]
      · rw [show min (off + (i + 1)) cur.size = off + (i + 1) by omega, show min (off + i) cur.size = off + i by omega]
        rw [if_neg (by omega), if_neg hk, show k - (off + i) = (k - (off + (i + 1))) + 1 by omega]
        by_cases hk3 : k - (off + (i + 1)) < rest.length
        · rw [if_pos hk3, if_pos (by omega)]; simp
        · rw [if_neg hk3, if_neg (by omega)]
          rw [List.getElem?_set, if_neg (by omega)]
          congr 1; omega

/-- Store into an object: what is stored, where. -/
theorem St.stored {c : Cx} {nx : Nat} {T : Tab} {vals : Array Value} (h : St c w ρ nx T O vals) {id : Nat} {obj obj' : OObj} (hf : find O id = some obj) {v : Value} {b : Nat} (hv : ρ[id]? = some v) (hb : blkOf v = some b) {w' : World}
    (hsz : w'.heap.size = w.heap.size) (hoth : ∀ k, k ≠ b → w'.heap[k]? = w.heap[k]?) (ho : w'.os = w.os) (ht : w'.tape = w.tape) (hp : w'.output = w.output)
    (hs : Tr w ρ (Av c.Y ρ O) w' ρ (Av c.Y ρ (setO O id obj')) → SatObj w' ρ (Av c.Y ρ (setO O id obj')) obj' v) (dst : Option Tmp) (u : Value) {s : SV} (hd : Den w' ρ (Av c.Y ρ (setO O id obj')) s u) (hn : ∀ d, dst = some d → d < c.n) :
    St c w' ρ nx (putT dst s T) (setO O id obj') ((⟨vals, []⟩ : Act).put dst u).tmps := by
  obtain ⟨h1, h2⟩ := h.sat.setObj (obj' := obj') hf hv hb hsz hoth hs
  have hown : OwnB ρ O b := ⟨id, obj, v, find_mem hf, hv, hb⟩
  have := h.next h1 h2 (h.frm.step ho ht hp (by omega) fun k hk hF => hoth k fun e => hF (by subst e; exact h.own _ hown hk)) (fun k hk hlt => h.own k (ownB_setO.1 hk) hlt) dst hd hn
  rwa [h.nx] at this
end

section
variable {c : Cx} {nx : Nat} {T : Tab} {O : Heap} {o : Oper} {k : Nat → Tab → Heap → Prop}

/-- 'store' into a box. -/
theorem store_box_ok {t ty : TypeId} {x y : Operand} {id off : Nat} {cells l : List SV} (ho : o.op = .store t x y) (hx : ev T x = .ptr id off) (hf : find O id = some (.box ty cells)) (hl : vcells (ev T y) = some l) (hone : l.all one1 = true)
    (hsz : szOf c.P t = l.length) (hz : 0 < l.length) (hlen : off + l.length ≤ cells.length) (hd : dok c.n o.dst = true) (h : k nx (putT o.dst .any T) (setO O id (.box ty (upd cells off l)))) : OpOK c o false nx T O k := by
  intro w ρ vals hst Q N hN
  obtain ⟨v, hv, b, us, hv2, hh, hda⟩ := hst.sat.objs _ (find_mem hf)
  have hxd := hst.ev x
  rw [hx] at hxd
  simp only [Den] at hxd
  obtain ⟨b', hb', hxv⟩ := hxd
  have hvb : ρ[id]? = some v := hv
  rw [hv2] at hvb
  rw [hvb] at hb'
  injection hb' with hb'; injection hb' with hb'; injection hb' with hb'; injection hb' with hb'
  subst hb'
  have hyd := vcells_den hl (hst.ev y)
  have hylen := hyd.length
  have hul := hda.length
  have hsize : (sizeOf t).run c.P w = .ok l.length w := by
    unfold szOf at hsz
    cases hi : c.P.info? t with
    | none => simp [hi] at hsz; omega
    | some i => rw [run_sizeOf hi]; simp [hi] at hsz; rw [hsz]
  have hsc := run_storeCells_off (P := c.P) (off := off) _ 0 us.toArray w hh (by simp only [Nat.add_zero, List.size_toArray]; omega) (ones_den hone hyd)
  simp only [Nat.add_zero] at hsc
  have hyl : ((⟨vals, []⟩ : Act).eval y).cells.size = l.length := by simpa using hylen
  have hr : (execOp (⟨vals, []⟩ : Act).eval o).run c.P w = .ok .skip (w.setRow b (us.take off ++ ((⟨vals, []⟩ : Act).eval y).cells.toList ++ us.drop (off + l.length)).toArray) := by
    simp only [execOp, ho, hxv, Instr.storeAt, Instr.sureAddr, storeVar, Sem.run_bind, Sem.run_pure, Result.andThen_ok, hsize, hyl, ne_eq, not_true_eq_false, if_false, hsc, Array.length_toList]
  unfold Oper.wp
  rw [hr]
  simp only [Oper.upon]
  rw [putAct]
  refine hN _ _ _ _ _ _ (hst.stored (obj' := .box ty (upd cells off l)) hf hvb rfl (setRow_size _ _ _) (setRow_other _ _ _) rfl rfl rfl (fun ht => ?_) o.dst undef (s := .any) (by simp [Den]) (dok_spec hd)) h (fun hq => by cases hq)
  exact ⟨b, _, rfl, setRow_heap _ _ _ _ _ _ hh, DenAll.tr ht _ _ (DenAll.upd hda hyd)⟩

theorem take_upd {α : Type} {cur : List α} {ys : List α} (p N : Nat) (h : p + ys.length ≤ N) (hN : N ≤ cur.length) : (cur.take p ++ ys ++ cur.drop (p + ys.length)).take N = (cur.take N).take p ++ ys ++ (cur.take N).drop (p + ys.length) := by
  apply List.ext_getElem?
  intro m
  simp only [List.append_assoc, List.getElem?_append, List.getElem?_take, List.getElem?_drop, List.length_take]
  repeat' split
  all_goals first
    | rfl
    | omega
    | (congr 1; omega)

/-- 'store' into an element of a row. -/
theorem store_row_ok {t e : TypeId} {x y : Operand} {id sz i j : Nat} {rows : List (List SV)} {l : List SV} (ho : o.op = .store t x y) (hx : ev T x = .rptr id sz i j) (hf : find O id = some (.row e sz rows)) (hl : vcells (ev T y) = some l) (hone : l.all one1 = true)
    (hsz : szOf c.P t = l.length) (hz : 0 < l.length) (hi : i < rows.length) (hlen : j + l.length ≤ sz) (hd : dok c.n o.dst = true) (h : k nx (putT o.dst .any T) (setO O id (.row e sz (rows.set i (upd (rows.getD i []) j l))))) : OpOK c o false nx T O k := by
  intro w ρ vals hst Q N hN
  obtain ⟨v, hv, xs, hown, hda⟩ := hst.sat.objs _ (find_mem hf)
  have hxd := hst.ev x
  rw [hx] at hxd
  simp only [Den] at hxd
  obtain ⟨b, n, cp, hb', hxv⟩ := hxd
  have hvb : ρ[id]? = some v := hv
  rw [hvb] at hb'
  injection hb' with hb'
  subst hb'
  rcases hown.2 with ⟨hbad, _⟩ | ⟨g, cap, cur, hg, h0, hh, hcap, hmax, hcs, htake⟩
  · injection hbad with h1; cases h1
  injection hg with hg1 hg2 hg3
  injection hg1 with hg1; injection hg1 with hg1
  subst hg1 hg2 hg3
  have hxl := DenVals.length sz hda
  have hyd := vcells_den hl (hst.ev y)
  have hylen := hyd.length
  have hsize : (sizeOf t).run c.P w = .ok l.length w := by
    unfold szOf at hsz
    cases hi : c.P.info? t with
    | none => simp [hi] at hsz; omega
    | some i => rw [run_sizeOf hi]; simp [hi] at hsz; rw [hsz]
  have hbound : i * sz + j + l.length ≤ rows.length * sz := by
    have : (i + 1) * sz ≤ rows.length * sz := Nat.mul_le_mul_right _ hi
    rw [Nat.add_mul] at this; omega
  have hbc : rows.length * sz ≤ cp * sz := Nat.mul_le_mul_right _ hcap
  have hsc := run_storeCells_off (P := c.P) (off := i * sz + j) _ 0 cur w hh (by rw [hylen, hcs]; omega) (ones_den hone hyd)
  simp only [Nat.add_zero] at hsc
  have hyl : ((⟨vals, []⟩ : Act).eval y).cells.size = l.length := by simpa using hylen
  have hr : (execOp (⟨vals, []⟩ : Act).eval o).run c.P w = .ok .skip (w.setRow b (cur.toList.take (i * sz + j) ++ ((⟨vals, []⟩ : Act).eval y).cells.toList ++ cur.toList.drop (i * sz + j + l.length)).toArray) := by
    simp only [execOp, ho, hxv, Instr.storeAt, Instr.sureAddr, storeVar, Sem.run_bind, Sem.run_pure, Result.andThen_ok, hsize, hyl, ne_eq, not_true_eq_false, if_false, hsc, Array.length_toList]
  unfold Oper.wp
  rw [hr]
  simp only [Oper.upon]
  rw [putAct]
  refine hN _ _ _ _ _ _ (hst.stored (obj' := .row e sz (rows.set i (upd (rows.getD i []) j l))) hf hvb rfl (setRow_size _ _ _) (setRow_other _ _ _) rfl rfl rfl (fun ht => ?_) o.dst undef (s := .any) (by simp [Den]) (dok_spec hd)) h (fun hq => by cases hq)
  have hyl2 : ((⟨vals, []⟩ : Act).eval y).cells.toList.length = l.length := hylen
  generalize ((⟨vals, []⟩ : Act).eval y).cells.toList = ys at *
  refine ⟨xs.take (i * sz + j) ++ ys ++ xs.drop (i * sz + j + l.length), ⟨?_, .inr ⟨b, cp, _, by simp, Nat.zero_le _, setRow_heap _ _ _ _ _ _ hh, by simpa using hcap, hmax, ?_, ?_⟩⟩, DenVals.tr ht _ _ _ ?_⟩
  · simp only [List.length_append, List.length_take, List.length_drop, List.length_set]; omega
  · simp only [List.size_toArray, List.length_append, List.length_take, List.length_drop, Array.length_toList]; omega
  · subst htake
    simp only [List.length_set]
    rw [← hyl2]
    exact take_upd _ _ (by omega) (by simp only [Array.length_toList]; omega)
  · -- the rows
    clear hsc hr hst hN hh htake ht h
    have key : ∀ (rows : List (List SV)) (xs : List Value) (i : Nat), DenVals w ρ (Av c.Y ρ O) sz rows xs → i < rows.length → DenVals w ρ (Av c.Y ρ O) sz (rows.set i (upd (rows.getD i []) j l)) (xs.take (i * sz + j) ++ ys ++ xs.drop (i * sz + j + l.length)) := by
      intro rows
      induction rows with
      | nil => intro xs i _ hi; cases hi
      | cons r rows ih =>
        intro xs i hdv hi
        obtain ⟨u1, u2, rfl, h1, h2, h3⟩ := hdv
        have hu1 : u1.length = sz := by rw [h2.length, h1]
        cases i with
        | zero =>
          simp only [List.set_cons_zero, List.getD_cons_zero, Nat.zero_mul, Nat.zero_add]
          refine ⟨u1.take j ++ ys ++ u1.drop (j + l.length), u2, ?_, ?_, DenAll.upd h2 hyd, h3⟩
          · rw [List.take_append_of_le_length (by omega), List.drop_append_of_le_length (by omega)]; simp
          · simp only [upd, List.length_append, List.length_take, List.length_drop]; omega
        | succ i =>
          simp only [List.set_cons_succ, List.getD_cons_succ]
          simp only [List.length_cons, Nat.add_lt_add_iff_right] at hi
          refine ⟨u1, _, ?_, h1, h2, ih u2 i h3 hi⟩
          rw [List.take_append, List.drop_append, List.take_of_length_le (by rw [hu1, Nat.add_mul]; omega)]
          have e : u1.drop ((i + 1) * sz + j + l.length) = [] := List.drop_of_length_le (by rw [hu1, Nat.add_mul]; omega)
          rw [e, show (i + 1) * sz + j - u1.length = i * sz + j by rw [hu1, Nat.add_mul]; omega, show (i + 1) * sz + j + l.length - u1.length = i * sz + j + l.length by rw [hu1, Nat.add_mul]; omega]
          simp
    exact key rows xs i hda hi

end
end Go.Eng
