/- A part of the engine that walks a function of the given program: sound rules, no statement of its own. -/
import Derived.Test.YtdcbbmnihcfdlaaEng13
set_option linter.unusedVariables false
set_option linter.unusedSimpArgs false
set_option linter.unnecessarySimpa false
set_option linter.constructorNameAsVariable false
set_option linter.all false
set_option linter.unusedVariables false
set_option linter.unusedSimpArgs false
namespace Go.Eng

/-- Keys of a type: what the machine asks of them. -/
structure KeyT (P : Program) (kt : TypeId) (good : Value → Prop) : Prop where
  chk : ∀ em k w, good k → (Instr.checkKey em 10000 kt k).run P w = .ok () w
  same : ∀ k, good k → Instr.sameBits 10000 k k = true
  fnd : ∀ k es w, good k → (∀ e ∈ es, good e.key) → ∃ o, (Instr.findKey kt k es).run P w = .ok o w ∧ (match o with
    | some (i, v) => ∃ e, es[i]? = some e ∧ e.key = k ∧ v = e.val
    | none => ∀ e ∈ es, e.key ≠ k)

def kvals : List SV → Option (List Value)
  | [] => some []
  | .v x :: r => (kvals r).map (x :: ·)
  | _ => none
/-- A key's value. -/
def kval : SV → Option Value
  | .v x => some x
  | .agg l => (kvals l).map fun xs => .agg xs.toArray
  | _ => none
theorem kvals_den {w : World} {ρ : List Value} {A : Nat → Prop} : ∀ {l : List SV} {us xs : List Value}, kvals l = some xs → DenAll w ρ A l us → us = xs
  | [], us, xs, h, hd => by
    simp only [kvals, Option.some.injEq] at h
    simp only [DenAll] at hd
    rw [hd, h]
  | s :: r, us, xs, h, hd => by
    simp only [DenAll] at hd
    obtain ⟨u, us', rfl, h1, h2⟩ := hd
    cases s <;> simp only [kvals] at h <;> try (cases h)
    obtain ⟨ys, h3, rfl⟩ := Option.map_eq_some_iff.1 h
    simp only [Den] at h1
    rw [h1, kvals_den h3 h2]
theorem kval_den {w : World} {ρ : List Value} {A : Nat → Prop} {s : SV} {u x : Value} (h : kval s = some x) (hd : Den w ρ A s u) : u = x := by
  cases s <;> simp only [kval] at h <;> try (cases h)
  · simpa only [Den] using hd
  · simp only [Den] at hd
    obtain ⟨us, rfl, h2⟩ := hd
    obtain ⟨ys, h3, rfl⟩ := Option.map_eq_some_iff.1 h
    rw [kvals_den h3 h2]

section
variable {w : World} {ρ : List Value} {A : Nat → Prop}

/-- The entry of a key. -/
theorem fnd_hit {P : Program} {kt : TypeId} {good : Value → Prop} (hk : KeyT P kt good) {kv : Value} (hg : good kv) {ents : Array MapEntry} {e : MapEntry} {l : List MapEntry} (hp : (e :: l).Perm ents.toList) (he : e.key = kv) (hnd : ((e :: l).map (·.key)).Nodup) (hall : ∀ x ∈ e :: l, good x.key) (w : World) :
    ∃ i, (Instr.findKey kt kv ents.toList).run P w = .ok (some (i, e.val)) w ∧ ents[i]? = some e := by
  obtain ⟨o, h1, h2⟩ := hk.fnd kv ents.toList w hg fun x hx => hall x (hp.symm.subset hx)
  have hmem : e ∈ ents.toList := hp.subset List.mem_cons_self
  cases o with
  | none => exact absurd he (h2 e hmem)
  | some iv =>
    obtain ⟨i, v⟩ := iv
    obtain ⟨e', h3, h4, rfl⟩ := h2
    have hm' : e' ∈ e :: l := hp.symm.subset (List.mem_of_getElem? h3)
    have : e' = e := by
      rcases List.mem_cons.1 hm' with h | h
      · exact h
      · simp only [List.map_cons, List.nodup_cons] at hnd
        exact absurd (List.mem_map.2 ⟨e', h, h4.trans he.symm⟩) hnd.1
    subst this
    exact ⟨i, h1, by rw [← Array.getElem?_toList]; exact h3⟩
theorem fnd_miss {P : Program} {kt : TypeId} {good : Value → Prop} (hk : KeyT P kt good) {kv : Value} (hg : good kv) {ents : Array MapEntry} {l : List MapEntry} (hp : l.Perm ents.toList) (hno : ∀ x ∈ l, x.key ≠ kv) (hall : ∀ x ∈ l, good x.key) (w : World) :
    (Instr.findKey kt kv ents.toList).run P w = .ok none w := by
  obtain ⟨o, h1, h2⟩ := hk.fnd kv ents.toList w hg fun x hx => hall x (hp.symm.subset hx)
  cases o with
  | none => exact h1
  | some iv =>
    obtain ⟨i, v⟩ := iv
    obtain ⟨e', h3, h4, rfl⟩ := h2
    exact absurd h4 (hno e' (hp.symm.subset (List.mem_of_getElem? h3)))
theorem DenEnts.good {good : Value → Prop} {es : List (Value × SV)} {l : List MapEntry} (h : DenEnts w ρ A es l) (hg : ∀ e ∈ es, good e.1) : ∀ x ∈ l, good x.key := by
  intro x hx
  have : x.key ∈ es.map (·.1) := by rw [← h.keys]; exact List.mem_map.2 ⟨x, hx, rfl⟩
  obtain ⟨e, he, h1⟩ := List.mem_map.1 this
  rw [← h1]; exact hg e he
theorem modify_perm {α : Type} {f : α → α} {a : α} {xs : Array α} {i : Nat} {l : List α} (hi : xs[i]? = some a) (hp : (a :: l).Perm xs.toList) : (f a :: l).Perm (xs.modify i f).toList := by
  have h1 : xs.toList[i]? = some a := by rw [Array.getElem?_toList]; exact hi
  obtain ⟨hlt, h2⟩ := List.getElem?_eq_some_iff.1 h1
  have e1 : xs.toList = xs.toList.take i ++ a :: xs.toList.drop (i + 1) := by
    rw [← h2, List.getElem_cons_drop, List.take_append_drop]
  have e2 : (xs.modify i f).toList = xs.toList.take i ++ f a :: xs.toList.drop (i + 1) := by
    rw [Array.toList_modify, List.modify_eq_take_cons_drop hlt, h2]
  rw [e2]
  have h3 : (a :: l).Perm (a :: (xs.toList.take i ++ xs.toList.drop (i + 1))) := by
    have h4 : (a :: l).Perm (xs.toList.take i ++ a :: xs.toList.drop (i + 1)) := e1 ▸ hp
    exact h4.trans List.perm_middle
  exact (h3.cons_inv.cons (f a)).trans List.perm_middle.symm
end
end Go.Eng
namespace Go.Eng
/-- A map's entries. -/
def mapEs : OObj → Option (List (Value × SV))
  | .mp es => some es
  | .mpe kv s _ rest => some ((kv, s) :: rest)
  | _ => none
theorem mapEs_sat {w : World} {ρ : List Value} {A : Nat → Prop} {obj : OObj} {v : Value} {es : List (Value × SV)} (h : mapEs obj = some es) (hs : SatObj w ρ A obj v) : SatObj w ρ A (.mp es) v := by
  cases obj <;> simp only [mapEs, reduceCtorEq, Option.some.injEq] at h
  · subst h; exact hs
  · subst h
    obtain ⟨b, ents, clock, e, l, h1, h2, h3, h4, h5, h6, h7, _⟩ := hs
    exact ⟨b, ents, clock, e :: l, h1, h2, h3, h4, h5, h6, h7⟩
def vlookup (P : Program) (O : Heap) (t : TypeId) (m key : SV) (ok : Bool) (k : SV → Prop) : Prop :=
  match tk P t with
  | .mp kt et => match kval key with
    | some kv => match m with
      | .own id => match (find O id).bind mapEs with
        | some es => ∃ good, (KeyT P kt good ∧ good kv ∧ ∀ e ∈ es, good e.1) ∧ ((∃ s rest, es.Perm ((kv, s) :: rest) ∧ k (if ok then .tup [s, .v (.bool true)] else s)) ∨
            ((∀ e ∈ es, e.1 ≠ kv) ∧ match zsv P et with | some z => k (if ok then .tup [z, .v (.bool false)] else z) | none => False))
        | _ => False
      | .v (.map none) => ∃ good, (KeyT P kt good ∧ good kv) ∧ match zsv P et with | some z => k (if ok then .tup [z, .v (.bool false)] else z) | none => False
      | _ => False
    | none => False
  | _ => False

section
variable {P : Program} {w : World} {ρ : List Value} {Y : Nat → Prop} {O : Heap} {t : TypeId} {k : SV → Prop}

theorem vlookup_sound {m key : SV} {u v : Value} {ok : Bool} (hs : Sat w ρ Y O) (hm : Den w ρ (Av Y ρ O) m u) (hkd : Den w ρ (Av Y ρ O) key v) (h : vlookup P O t m key ok k) :
    QC P w ρ (Av Y ρ O) k fun w' => (Instr.lookup t u v ok).run P w' := by
  unfold vlookup at h
  split at h
  case h_2 => exact h.elim
  rename_i kt et ht
  have hu := tk_mp ht
  split at h
  case h_2 => exact h.elim
  rename_i kv hkv
  have hv := kval_den hkv hkd
  subst hv
  have zero : ∀ {z : SV}, zsv P et = some z → k (if ok then .tup [z, .v (.bool false)] else z) → ∀ (run : World → Result Value), (∀ w' zv, (∀ w', (zeroValue et).run P w' = .ok zv w') → Same w w' → run w' = .ok (if ok then .tuple #[zv, .bool false] else zv) w') → QC P w ρ (Av Y ρ O) k run := by
    intro z hz hk run hrun
    obtain ⟨zv, hzd, hzr⟩ := zsv_spec (w := w) (ρ := ρ) (A := Av Y ρ O) hz
    refine ⟨_, if ok then .tuple #[zv, .bool false] else zv, hk, ?_, fun w' hw => hrun w' zv hzr hw⟩
    cases ok
    · simpa using hzd
    · simp only [if_true, Den]
      exact ⟨[zv, .bool false], rfl, by simp only [DenAll]; exact ⟨_, _, rfl, hzd, _, _, rfl, by simp [Den], rfl⟩⟩
  split at h
  · rename_i id
    split at h
    case h_2 => exact h.elim
    rename_i es hf0
    obtain ⟨obj, hf, hes0⟩ := Option.bind_eq_some_iff.1 hf0
    obtain ⟨x, hx, hsx⟩ := hs.objs _ (find_mem hf)
    obtain ⟨b, ents, clock, l, hx2, hh, hp, hde, _, _, hnd⟩ := mapEs_sat hes0 hsx
    simp only [Den] at hm
    have hvb : ρ[id]? = some x := hx
    rw [hm.1] at hvb
    injection hvb with hvb
    subst hvb
    rw [hx2]
    have hb : b < w.heap.size := (Array.getElem?_eq_some_iff.1 hh).1
    obtain ⟨good, ⟨hK, hg, hall⟩, h⟩ := h
    rcases h with ⟨s, rest, hpm, hk⟩ | ⟨hno, h⟩
    · obtain ⟨l1, hp1, hd1⟩ := hde.perm hpm
      obtain ⟨e, l2, rfl, hek, hes, hd2⟩ := hd1
      have hd1' : DenEnts w ρ (Av Y ρ O) ((v, s) :: rest) (e :: l2) := ⟨e, l2, rfl, hek, hes, hd2⟩
      have hgood := hd1'.good (good := good) fun y hy => hall y (hpm.symm.subset hy)
      have hnd1 : ((e :: l2).map (·.key)).Nodup := by rw [hd1'.keys]; exact (hpm.map _).nodup_iff.1 hnd
      refine ⟨_, if ok then .tuple #[e.val, .bool true] else e.val, hk, ?_, fun w' hw => ?_⟩
      · cases ok
        · simpa using hes
        · simp only [if_true, Den]
          exact ⟨[e.val, .bool true], rfl, by simp only [DenAll]; exact ⟨_, _, rfl, hes, _, _, rfl, by simp [Den], rfl⟩⟩
      · obtain ⟨i, hfi, _⟩ := fnd_hit hK hg (hp1.symm.trans hp) hek hnd1 hgood w'
        have hh' := (hw.2 b hb).trans hh
        simp only [Instr.lookup, Sem.run_bind, run_underlying hu, Result.andThen_ok, getObj, Sem.run, hh', Sem.run_pure, hK.chk _ _ _ hg, hfi]
    · split at h
      · rename_i z hz
        refine zero hz h _ fun w' zv hzr hw => ?_
        have hno' : ∀ y ∈ l, y.key ≠ v := by
          intro y hy e
          have : y.key ∈ es.map (·.1) := by rw [← hde.keys]; exact List.mem_map.2 ⟨y, hy, rfl⟩
          obtain ⟨e', he', h1⟩ := List.mem_map.1 this
          exact hno e' he' (h1.trans e)
        have hfi := fnd_miss hK hg hp hno' (hde.good hall) w'
        have hh' := (hw.2 b hb).trans hh
        simp only [Instr.lookup, Sem.run_bind, run_underlying hu, Result.andThen_ok, getObj, Sem.run, hh', Sem.run_pure, hK.chk _ _ _ hg, hfi, hzr]
      · exact h.elim
  · simp only [Den] at hm
    subst hm
    obtain ⟨good, ⟨hK, hg⟩, h⟩ := h
    split at h
    · rename_i z hz
      refine zero hz h _ fun w' zv hzr hw => ?_
      have hfi := fnd_miss (ents := #[]) hK hg (List.Perm.refl _) (by simp) (by simp) w'
      simp only [Instr.lookup, Sem.run_bind, run_underlying hu, Result.andThen_ok, Sem.run_pure, hK.chk _ _ _ hg, hfi, hzr]
    · exact h.elim
  · exact h.elim
end
end Go.Eng
namespace Go.Eng
def putBlk (w : World) (b : Nat) (o : Obj) : World := { w with heap := w.heap.setIfInBounds b o }
theorem run_setBlk {P : Program} {w : World} {b : Nat} {es : Array MapEntry} {clock : Nat} (o : Obj) (hb : w.heap[b]? = some (.map es clock)) : (setObj b o).run P w = .ok () (putBlk w b o) := by
  simp [setObj, Sem.run, hb, putBlk]
theorem run_getBlk {P : Program} {w : World} {b : Nat} {es : Array MapEntry} {clock : Nat} (hb : w.heap[b]? = some (.map es clock)) : (getObj b).run P w = .ok (.map es clock) w := by
  simp [getObj, Sem.run, hb]
theorem putBlk_size (w : World) (b : Nat) (o : Obj) : (putBlk w b o).heap.size = w.heap.size := by simp [putBlk]
theorem putBlk_oth (w : World) (b : Nat) (o : Obj) : ∀ k, k ≠ b → (putBlk w b o).heap[k]? = w.heap[k]? := by
  intro k hk
  simp only [putBlk]
  rw [Array.getElem?_setIfInBounds_ne (by omega)]
theorem putBlk_at {w : World} {b : Nat} (o : Obj) {o' : Obj} (h : w.heap[b]? = some o') : (putBlk w b o).heap[b]? = some o := by
  have := (Array.getElem?_eq_some_iff.1 h).1
  simp [putBlk, this]
theorem nodup_perm_map {α β : Type} {f : α → β} {l m : List α} (h : l.Perm m) : (l.map f).Nodup ↔ (m.map f).Nodup := (h.map f).nodup_iff

def vmapEntry (P : Program) (O : Heap) (t : TypeId) (m key : SV) (k : SV → Heap → Prop) : Prop :=
  match tk P t with
  | .mp kt et => match kval key, m with
    | some kv, .own id => match find O id with
      | some (.mp es) => ∃ good, (KeyT P kt good ∧ good kv ∧ ∀ e ∈ es, good e.1) ∧ ((∃ s rest, es.Perm ((kv, s) :: rest) ∧ ∀ n : Nat, k (.tup [s, .v (.int .i64 n)]) (setO O id (.mpe kv s n rest))) ∨
          ((∀ e ∈ es, e.1 ≠ kv) ∧ match zsv P et with | some z => ∀ n : Nat, k (.tup [z, .v (.int .i64 n)]) (setO O id (.mpe kv z n es)) | none => False))
      | _ => False
    | _, _ => False
  | _ => False
def ventryStore (O : Heap) (m stamp val : SV) (k : Heap → Prop) : Prop :=
  match m, stamp with
  | .own id, .v (.int _ n') => match find O id with
    | some (.mpe kv s n rest) => n' = (n : Int) ∧ k (setO O id (.mp ((kv, val) :: rest)))
    | _ => False
  | _, _ => False
def vmapUpdate (P : Program) (O : Heap) (t : TypeId) (m key val : SV) (k : Heap → Prop) : Prop :=
  match tk P t with
  | .mp kt et => match kval key, m with
    | some kv, .own id => match find O id with
      | some (.mp es) => ∃ good, (KeyT P kt good ∧ good kv ∧ ∀ e ∈ es, good e.1) ∧ ((∃ s rest, es.Perm ((kv, s) :: rest) ∧ k (setO O id (.mp ((kv, val) :: rest)))) ∨
          ((∀ e ∈ es, e.1 ≠ kv) ∧ k (setO O id (.mp ((kv, val) :: es)))))
      | _ => False
    | _, _ => False
  | _ => False

section
variable {c : Cx} {nx : Nat} {T : Tab} {O : Heap} {o : Oper} {k : Nat → Tab → Heap → Prop}

theorem mapEntry_ok {t : TypeId} {x y : Operand} (ho : o.op = .mapEntry t x y) (hd : dok c.n o.dst = true) (h : vmapEntry c.P O t (ev T x) (ev T y) fun s O' => k nx (putT o.dst s T) O') : OpOK c o false nx T O k := by
  intro w ρ vals hst Q N hN
  unfold vmapEntry at h
  split at h
  case h_2 => exact h.elim
  rename_i kt et ht
  have hu := tk_mp ht
  split at h
  case h_2 => exact h.elim
  rename_i kv id hkv hx
  split at h
  case h_2 => exact h.elim
  rename_i es hf
  obtain ⟨good, ⟨hK, hg, hall⟩, h⟩ := h
  have hkd := kval_den hkv (hst.ev y)
  have hxd := hst.ev x
  rw [hx] at hxd
  simp only [Den] at hxd
  obtain ⟨v, hv, b, ents, clock, l, hv2, hh, hp, hde, hlt, hbn, hnd⟩ := hst.sat.objs _ (find_mem hf)
  have hvb : ρ[id]? = some v := hv
  rw [hxd.1] at hvb
  injection hvb with hvb
  rw [hv2] at hvb
  have hpt : ρ[id]? = some (.map (some b)) := by rw [hxd.1, hvb]
  have hgood := hde.good hall
  unfold Oper.wp
  rcases h with ⟨s, rest, hpm, hk⟩ | ⟨hno, h⟩
  · obtain ⟨l1, hp1, hd1⟩ := hde.perm hpm
    obtain ⟨e, l2, rfl, hek, hes, hd2⟩ := hd1
    have hd1' : DenEnts w ρ (Av c.Y ρ O) ((kv, s) :: rest) (e :: l2) := ⟨e, l2, rfl, hek, hes, hd2⟩
    have hnd1 : (((kv, s) :: rest).map (·.1)).Nodup := (hpm.map _).nodup_iff.1 hnd
    have hnd2 : ((e :: l2).map (·.key)).Nodup := by rw [hd1'.keys]; exact hnd1
    have hgood1 := hd1'.good (good := good) fun y hy => hall y (hpm.symm.subset hy)
    have hpe := hp1.symm.trans hp
    obtain ⟨i, hfi, hi⟩ := fnd_hit hK hg hpe hek hnd2 hgood1 w
    have hsame : Instr.keyThatStays e.key kv = pure kv := by
      unfold Instr.keyThatStays
      simp only [hek, hK.same _ hg, if_true]
    have hm := modify_perm (f := fun e => ({ key := kv, val := e.val, born := e.born } : MapEntry)) hi hpe
    have hee : ({ key := kv, val := e.val, born := e.born } : MapEntry) = e := by rw [← hek]
    rw [hee] at hm
    have hr : (execOp (⟨vals, []⟩ : Act).eval o).run c.P w = .ok (.value (.tuple #[e.val, .int .i64 e.born])) (putBlk w b (.map (ents.modify i fun e => { key := kv, val := e.val, born := e.born }) clock)) := by
      simp only [execOp, ho, hvb, hkd, Instr.mapEntry, Sem.run_bind, run_underlying hu, Result.andThen_ok, run_getBlk hh, hK.chk _ _ _ hg, hfi, hsame, Sem.run_pure, run_setBlk _ hh, hi, Option.map_some, Option.getD_some, goInt]
    rw [hr]
    simp only [Oper.upon]
    rw [putAct]
    have hobj : ∀ {A' : Nat → Prop} {w' : World}, Tr w ρ (Av c.Y ρ O) w' ρ A' → w'.heap[b]? = some (.map (ents.modify i fun e => { key := kv, val := e.val, born := e.born }) clock) → SatObj w' ρ A' (.mpe kv s e.born rest) (.map (some b)) := by
      intro A' w' tr hb
      refine ⟨b, _, clock, e, l2, rfl, hb, hm, DenEnts.tr tr _ _ hd1', fun x hx => hlt x ?_, ?_, hnd1, rfl⟩
      · have := hpe.subset (hm.symm.subset (Array.mem_toList_iff.2 hx)); exact Array.mem_toList_iff.1 this
      · rw [← nodup_perm_map hm, nodup_perm_map hpe]; exact hbn
    refine hN _ _ _ _ _ _ (hst.stored (obj' := .mpe kv s e.born rest) hf hpt rfl (putBlk_size _ _ _) (putBlk_oth _ _ _) rfl rfl rfl (fun tr => hobj tr (putBlk_at _ hh)) o.dst _ (s := .tup [s, .v (.int .i64 e.born)]) ?_ (dok_spec hd)) (hk e.born) (fun hq => by cases hq)
    obtain ⟨_, tr⟩ := hst.sat.setObj (obj' := .mpe kv s e.born rest) hf hpt rfl (putBlk_size _ _ _) (putBlk_oth w b (.map (ents.modify i fun e => { key := kv, val := e.val, born := e.born }) clock)) (fun tr => hobj tr (putBlk_at _ hh))
    simp only [Den]
    exact ⟨[e.val, .int .i64 e.born], rfl, by simp only [DenAll]; exact ⟨_, _, rfl, Den.tr tr _ _ hes, _, _, rfl, by simp [Den], rfl⟩⟩
  · split at h
    case h_2 => exact h.elim
    rename_i z hz
    obtain ⟨zv, hzd, hzr⟩ := zsv_spec (w := w) (ρ := ρ) (A := Av c.Y ρ O) hz
    have hno' : ∀ y ∈ l, y.key ≠ kv := by
      intro y hy e
      have : y.key ∈ es.map (·.1) := by rw [← hde.keys]; exact List.mem_map.2 ⟨y, hy, rfl⟩
      obtain ⟨e', he', h1⟩ := List.mem_map.1 this
      exact hno e' he' (h1.trans e)
    have hfi := fnd_miss hK hg hp hno' hgood w
    have hr : (execOp (⟨vals, []⟩ : Act).eval o).run c.P w = .ok (.value (.tuple #[zv, .int .i64 clock])) (putBlk w b (.map (ents.push { key := kv, val := zv, born := clock }) (clock + 1))) := by
      simp only [execOp, ho, hvb, hkd, Instr.mapEntry, Sem.run_bind, run_underlying hu, Result.andThen_ok, run_getBlk hh, hK.chk _ _ _ hg, hfi, Sem.run_pure, hzr, run_setBlk _ hh, goInt]
    have hpe : (({ key := kv, val := zv, born := clock } : MapEntry) :: l).Perm (ents.push { key := kv, val := zv, born := clock }).toList := by
      rw [Array.toList_push]
      exact (hp.cons _).trans (List.perm_append_singleton _ _).symm
    have hobj : ∀ {A' : Nat → Prop} {w' : World}, Tr w ρ (Av c.Y ρ O) w' ρ A' → w'.heap[b]? = some (.map (ents.push { key := kv, val := zv, born := clock }) (clock + 1)) → SatObj w' ρ A' (.mpe kv z clock es) (.map (some b)) := by
      intro A' w' tr hb
      refine ⟨b, _, _, _, l, rfl, hb, hpe, ⟨_, l, rfl, rfl, Den.tr tr _ _ hzd, DenEnts.tr tr _ _ hde⟩, fun x hx => ?_, ?_, ?_, rfl⟩
      · rcases Array.mem_push.1 hx with hx | rfl
        · have := hlt x hx; omega
        · exact Nat.lt_succ_self _
      · rw [← nodup_perm_map hpe]
        simp only [List.map_cons, List.nodup_cons, nodup_perm_map hp]
        refine ⟨fun hm => ?_, hbn⟩
        obtain ⟨x, hx, hxe⟩ := List.mem_map.1 hm
        have := hlt x (Array.mem_toList_iff.1 (hp.subset hx))
        omega
      · simp only [List.map_cons, List.nodup_cons]
        exact ⟨fun hm => by obtain ⟨x, hx, hxe⟩ := List.mem_map.1 hm; exact hno x hx hxe, hnd⟩
    rw [hr]
    simp only [Oper.upon]
    rw [putAct]
    refine hN _ _ _ _ _ _ (hst.stored (obj' := .mpe kv z clock es) hf hpt rfl (putBlk_size _ _ _) (putBlk_oth _ _ _) rfl rfl rfl (fun tr => hobj tr (putBlk_at _ hh)) o.dst _ (s := .tup [z, .v (.int .i64 clock)]) ?_ (dok_spec hd)) (h clock) (fun hq => by cases hq)
    obtain ⟨_, tr⟩ := hst.sat.setObj (obj' := .mpe kv z clock es) hf hpt rfl (putBlk_size _ _ _) (putBlk_oth w b (.map (ents.push { key := kv, val := zv, born := clock }) (clock + 1))) (fun tr => hobj tr (putBlk_at _ hh))
    simp only [Den]
    exact ⟨[zv, .int .i64 clock], rfl, by simp only [DenAll]; exact ⟨_, _, rfl, Den.tr tr _ _ hzd, _, _, rfl, by simp [Den], rfl⟩⟩
end
end Go.Eng
namespace Go.Eng
section
variable {c : Cx} {nx : Nat} {T : Tab} {O : Heap} {o : Oper} {k : Nat → Tab → Heap → Prop}

theorem entryStore_ok {t : TypeId} {x y z : Operand} (ho : o.op = .entryStore t x y z) (hd : dok c.n o.dst = true) (h : ventryStore O (ev T x) (ev T y) (ev T z) fun O' => k nx (putT o.dst .any T) O') : OpOK c o false nx T O k := by
  intro w ρ vals hst Q N hN
  unfold ventryStore at h
  split at h
  case h_2 => exact h.elim
  rename_i id ik n' hx hy
  split at h
  case h_2 => exact h.elim
  rename_i kv s n rest hf
  obtain ⟨rfl, hk⟩ := h
  have hxd := hst.ev x
  have hyd := hst.ev y
  have hzd := hst.ev z
  rw [hx] at hxd
  rw [hy] at hyd
  simp only [Den] at hxd hyd
  obtain ⟨v, hv, b, ents, clock, e, l, hv2, hh, hp, hde, hlt, hbn, hnd, hen⟩ := hst.sat.objs _ (find_mem hf)
  have hvb : ρ[id]? = some v := hv
  rw [hxd.1] at hvb
  injection hvb with hvb
  rw [hv2] at hvb
  have hpt : ρ[id]? = some (.map (some b)) := by rw [hxd.1, hvb]
  have hmem : e ∈ ents := Array.mem_toList_iff.1 (hp.subset List.mem_cons_self)
  obtain ⟨i, hi, hie⟩ : ∃ i, ents.findIdx? (fun x => (x.born : Int) == (n : Int)) = some i ∧ ents[i]? = some e := by
    cases hfi : ents.findIdx? (fun x => (x.born : Int) == (n : Int)) with
    | none =>
      rw [Array.findIdx?_eq_none_iff] at hfi
      have := hfi e hmem
      rw [hen] at this
      simp at this
    | some i =>
      refine ⟨i, rfl, ?_⟩
      obtain ⟨hlt', h1, _⟩ := Array.findIdx?_eq_some_iff_getElem.1 hfi
      have h2 : (ents[i]).born = n := by
        have h2' : ((ents[i]).born : Int) = n := by simpa using h1
        omega
      have hm' : ents[i] ∈ e :: l := hp.symm.subset (Array.mem_toList_iff.2 (Array.getElem_mem hlt'))
      rw [Array.getElem?_eq_getElem hlt']
      rcases List.mem_cons.1 hm' with h3 | h3
      · rw [h3]
      · rw [← nodup_perm_map hp] at hbn
        simp only [List.map_cons, List.nodup_cons] at hbn
        exact absurd (List.mem_map.2 ⟨_, h3, h2.trans hen.symm⟩) hbn.1
  obtain ⟨e', l', he', hek, hes, hrest⟩ := hde
  injection he' with he1 he2
  subst he1 he2
  have hm := modify_perm (f := fun e => ({ key := e.key, val := (⟨vals, []⟩ : Act).eval z, born := e.born } : MapEntry)) hie hp
  have hr : (execOp (⟨vals, []⟩ : Act).eval o).run c.P w = .ok .skip (putBlk w b (.map (ents.modify i fun e => { key := e.key, val := (⟨vals, []⟩ : Act).eval z, born := e.born }) clock)) := by
    simp only [execOp, ho, hvb, hyd, Instr.entryStore, Sem.run_bind, Result.andThen_ok, run_getBlk hh, asInt, asIntOf, Sem.run_pure, hi, run_setBlk _ hh]
  unfold Oper.wp
  rw [hr]
  simp only [Oper.upon]
  rw [putAct]
  refine hN _ _ _ _ _ _ (hst.stored (obj' := .mp ((kv, ev T z) :: rest)) hf hpt rfl (putBlk_size _ _ _) (putBlk_oth _ _ _) rfl rfl rfl (fun tr => ?_) o.dst undef (s := .any) (by simp [Den]) (dok_spec hd)) hk (fun hq => by cases hq)
  refine ⟨b, _, clock, _, rfl, putBlk_at _ hh, hm, ⟨_, l, rfl, hek, Den.tr tr _ _ hzd, DenEnts.tr tr _ _ hrest⟩, fun x hx => ?_, ?_, hnd⟩
  · have hx' := hm.symm.subset (Array.mem_toList_iff.2 hx)
    rcases List.mem_cons.1 hx' with rfl | hx'
    · exact hlt e hmem
    · exact hlt x (Array.mem_toList_iff.1 (hp.subset (List.mem_cons_of_mem _ hx')))
  · rw [← nodup_perm_map hm]
    rw [← nodup_perm_map hp] at hbn
    exact hbn

theorem mapUpdate_ok {t : TypeId} {x y z : Operand} (ho : o.op = .mapUpdate t x y z) (hd : dok c.n o.dst = true) (h : vmapUpdate c.P O t (ev T x) (ev T y) (ev T z) fun O' => k nx (putT o.dst .any T) O') : OpOK c o false nx T O k := by
  intro w ρ vals hst Q N hN
  unfold vmapUpdate at h
  split at h
  case h_2 => exact h.elim
  rename_i kt et ht
  have hu := tk_mp ht
  split at h
  case h_2 => exact h.elim
  rename_i kv id hkv hx
  split at h
  case h_2 => exact h.elim
  rename_i es hf
  obtain ⟨good, ⟨hK, hg, hall⟩, h⟩ := h
  have hkd := kval_den hkv (hst.ev y)
  have hxd := hst.ev x
  have hzd := hst.ev z
  rw [hx] at hxd
  simp only [Den] at hxd
  obtain ⟨v, hv, b, ents, clock, l, hv2, hh, hp, hde, hlt, hbn, hnd⟩ := hst.sat.objs _ (find_mem hf)
  have hvb : ρ[id]? = some v := hv
  rw [hxd.1] at hvb
  injection hvb with hvb
  rw [hv2] at hvb
  have hpt : ρ[id]? = some (.map (some b)) := by rw [hxd.1, hvb]
  have hgood := hde.good hall
  unfold Oper.wp
  rcases h with ⟨s, rest, hpm, hk⟩ | ⟨hno, hk⟩
  · obtain ⟨l1, hp1, hd1⟩ := hde.perm hpm
    obtain ⟨e, l2, rfl, hek, hes, hd2⟩ := hd1
    have hd1' : DenEnts w ρ (Av c.Y ρ O) ((kv, s) :: rest) (e :: l2) := ⟨e, l2, rfl, hek, hes, hd2⟩
    have hnd1 : (((kv, s) :: rest).map (·.1)).Nodup := (hpm.map _).nodup_iff.1 hnd
    have hnd2 : ((e :: l2).map (·.key)).Nodup := by rw [hd1'.keys]; exact hnd1
    have hgood1 := hd1'.good (good := good) fun y hy => hall y (hpm.symm.subset hy)
    have hpe := hp1.symm.trans hp
    obtain ⟨i, hfi, hi⟩ := fnd_hit hK hg hpe hek hnd2 hgood1 w
    have hsame : Instr.keyThatStays e.key kv = pure kv := by
      unfold Instr.keyThatStays
      simp only [hek, hK.same _ hg, if_true]
    have hm := modify_perm (f := fun e => ({ key := kv, val := (⟨vals, []⟩ : Act).eval z, born := e.born } : MapEntry)) hi hpe
    have hr : (execOp (⟨vals, []⟩ : Act).eval o).run c.P w = .ok .skip (putBlk w b (.map (ents.modify i fun e => { key := kv, val := (⟨vals, []⟩ : Act).eval z, born := e.born }) clock)) := by
      simp only [execOp, ho, hvb, hkd, Instr.mapUpdate, Sem.run_bind, run_underlying hu, Result.andThen_ok, run_getBlk hh, hK.chk _ _ _ hg, hfi, hi, Option.map_some, Option.getD_some, hsame, Sem.run_pure, run_setBlk _ hh]
    rw [hr]
    simp only [Oper.upon]
    rw [putAct]
    refine hN _ _ _ _ _ _ (hst.stored (obj' := .mp ((kv, ev T z) :: rest)) hf hpt rfl (putBlk_size _ _ _) (putBlk_oth _ _ _) rfl rfl rfl (fun tr => ?_) o.dst undef (s := .any) (by simp [Den]) (dok_spec hd)) hk (fun hq => by cases hq)
    refine ⟨b, _, clock, _, rfl, putBlk_at _ hh, hm, ⟨_, l2, rfl, rfl, Den.tr tr _ _ hzd, DenEnts.tr tr _ _ hd2⟩, fun x hx => ?_, ?_, hnd1⟩
    · have hx' := hm.symm.subset (Array.mem_toList_iff.2 hx)
      rcases List.mem_cons.1 hx' with rfl | hx'
      · exact hlt e (Array.mem_toList_iff.1 (hpe.subset List.mem_cons_self))
      · exact hlt x (Array.mem_toList_iff.1 (hpe.subset (List.mem_cons_of_mem _ hx')))
    · rw [← nodup_perm_map hm]
      rw [← nodup_perm_map hpe] at hbn
      exact hbn
  · have hno' : ∀ y ∈ l, y.key ≠ kv := by
      intro y hy e
      have : y.key ∈ es.map (·.1) := by rw [← hde.keys]; exact List.mem_map.2 ⟨y, hy, rfl⟩
      obtain ⟨e', he', h1⟩ := List.mem_map.1 this
      exact hno e' he' (h1.trans e)
    have hfi := fnd_miss hK hg hp hno' hgood w
    have hr : (execOp (⟨vals, []⟩ : Act).eval o).run c.P w = .ok .skip (putBlk w b (.map (ents.push { key := kv, val := (⟨vals, []⟩ : Act).eval z, born := clock }) (clock + 1))) := by
      simp only [execOp, ho, hvb, hkd, Instr.mapUpdate, Sem.run_bind, run_underlying hu, Result.andThen_ok, run_getBlk hh, hK.chk _ _ _ hg, hfi, Sem.run_pure, run_setBlk _ hh]
    have hpe : (({ key := kv, val := (⟨vals, []⟩ : Act).eval z, born := clock } : MapEntry) :: l).Perm (ents.push { key := kv, val := (⟨vals, []⟩ : Act).eval z, born := clock }).toList := by
      rw [Array.toList_push]
      exact (hp.cons _).trans (List.perm_append_singleton _ _).symm
    rw [hr]
    simp only [Oper.upon]
    rw [putAct]
    refine hN _ _ _ _ _ _ (hst.stored (obj' := .mp ((kv, ev T z) :: es)) hf hpt rfl (putBlk_size _ _ _) (putBlk_oth _ _ _) rfl rfl rfl (fun tr => ?_) o.dst undef (s := .any) (by simp [Den]) (dok_spec hd)) hk (fun hq => by cases hq)
    refine ⟨b, _, _, _, rfl, putBlk_at _ hh, hpe, ⟨_, l, rfl, rfl, Den.tr tr _ _ hzd, DenEnts.tr tr _ _ hde⟩, fun x hx => ?_, ?_, ?_⟩
    · rcases Array.mem_push.1 hx with hx | rfl
      · have := hlt x hx; omega
      · exact Nat.lt_succ_self _
    · rw [← nodup_perm_map hpe]
      simp only [List.map_cons, List.nodup_cons, nodup_perm_map hp]
      refine ⟨fun hm => ?_, hbn⟩
      obtain ⟨x, hx, hxe⟩ := List.mem_map.1 hm
      have := hlt x (Array.mem_toList_iff.1 (hp.subset hx))
      omega
    · simp only [List.map_cons, List.nodup_cons]
      exact ⟨fun hm => by obtain ⟨x, hx, hxe⟩ := List.mem_map.1 hm; exact hno x hx hxe, hnd⟩
theorem lookup_ok {t : TypeId} {x y : Operand} {ok q : Bool} (ho : o.op = .lookup t x y ok) (hd : dok c.n o.dst = true) (h : vlookup c.P O t (ev T x) (ev T y) ok fun s => k nx (putT o.dst s T) O) : OpOK c o q nx T O k := by
  intro w ρ vals hst Q N hN
  obtain ⟨r, z, h1, h2, h3⟩ := vlookup_sound hst.sat (hst.ev x) (hst.ev y) h
  have hr : (execOp (⟨vals, []⟩ : Act).eval o).run c.P w = .ok (.value z) w := by
    simp only [execOp, ho, Sem.run_bind, h3 w (Same.refl w), Result.andThen_ok, Sem.run_pure]
  unfold Oper.wp
  rw [hr]
  simp only [Oper.upon]
  rw [putAct]
  exact hN _ _ _ _ _ _ (hst.put o.dst h2 (dok_spec hd)) h1 fun _ => Same.refl w
end

/-! ### Keys -/
theorem fnd_of {P : Program} {kt : TypeId} {good : Value → Prop} {kd : TypeDesc} (hu : P.underlying kt = some kd) (heq : ∀ a b, good a → good b → ∃ r : Bool, (r = true ↔ a = b) ∧ ((Instr.sameNow kd a b = some r) ∨ ((Instr.sameNow kd a b = none) ∧ ∀ w, (Op.equal kt a b).run P w = .ok r w)))
    (hall : (∀ a b, good a → good b → ∃ r, Instr.sameNow kd a b = some r) ∨ (∀ a b, good a → good b → Instr.sameNow kd a b = none)) :
    ∀ k es w, good k → (∀ e ∈ es, good e.key) → ∃ o, (Instr.findKey kt k es).run P w = .ok o w ∧ (match o with
      | some (i, v) => ∃ e, es[i]? = some e ∧ e.key = k ∧ v = e.val
      | none => ∀ e ∈ es, e.key ≠ k) := by
  intro k es w hk hes
  rcases hall with hnow | hask
  · have : ∀ (es : List MapEntry) (j : Nat), (∀ e ∈ es, good e.key) → ∃ o, Instr.findNow kd k es j = some o ∧ (match o with
      | some (i, v) => ∃ e, j ≤ i ∧ es[i - j]? = some e ∧ e.key = k ∧ v = e.val
      | none => ∀ e ∈ es, e.key ≠ k) := by
      intro es
      induction es with
      | nil => intro j _; exact ⟨none, rfl, by simp⟩
      | cons e es ih =>
        intro j he
        obtain ⟨r, hr, h1⟩ := heq k e.key hk (he e List.mem_cons_self)
        obtain ⟨r', hr'⟩ := hnow k e.key hk (he e List.mem_cons_self)
        have hrr : Instr.sameNow kd k e.key = some r := by
          rcases h1 with h1 | h1
          · exact h1
          · rw [h1.1] at hr'; cases hr'
        cases r with
        | true => exact ⟨some (j, e.val), by simp [Instr.findNow, hrr], e, Nat.le_refl _, by simp, (hr.1 rfl).symm, rfl⟩
        | false =>
          have hne : e.key ≠ k := fun h => by have := hr.2 h.symm; cases this
          obtain ⟨o, ho, h2⟩ := ih (j + 1) fun x hx => he x (List.mem_cons_of_mem _ hx)
          refine ⟨o, by simp [Instr.findNow, hrr, ho], ?_⟩
          cases o with
          | none => intro x hx; rcases List.mem_cons.1 hx with rfl | hx; exact hne; exact h2 x hx
          | some iv =>
            obtain ⟨i, v⟩ := iv
            obtain ⟨e', h3, h4, h5, h6⟩ := h2
            exact ⟨e', by omega, by rw [show i - j = (i - (j + 1)) + 1 from by omega]; simpa using h4, h5, h6⟩
    obtain ⟨o, ho, h2⟩ := this es 0 hes
    refine ⟨o, by simp [Instr.findKey, Sem.run_bind, run_underlying hu, ho], ?_⟩
    cases o with
    | none => exact h2
    | some iv =>
      obtain ⟨i, v⟩ := iv
      obtain ⟨e', h3, h4, h5, h6⟩ := h2
      exact ⟨e', by simpa using h4, h5, h6⟩
  · have : ∀ (es : List MapEntry) (j : Nat), (∀ e ∈ es, good e.key) → ∃ o, (Instr.findAsking kt k es j).run P w = .ok o w ∧ (match o with
      | some (i, v) => ∃ e, j ≤ i ∧ es[i - j]? = some e ∧ e.key = k ∧ v = e.val
      | none => ∀ e ∈ es, e.key ≠ k) := by
      intro es
      induction es with
      | nil => intro j _; exact ⟨none, by simp [Instr.findAsking], by simp⟩
      | cons e es ih =>
        intro j he
        obtain ⟨r, hr, h1⟩ := heq k e.key hk (he e List.mem_cons_self)
        have hn := hask k e.key hk (he e List.mem_cons_self)
        have hrr : (Op.equal kt k e.key).run P w = .ok r w := by
          rcases h1 with h1 | h1
          · rw [h1] at hn; cases hn
          · exact h1.2 w
        cases r with
        | true => exact ⟨some (j, e.val), by simp [Instr.findAsking, Sem.run_bind, hrr], e, Nat.le_refl _, by simp, (hr.1 rfl).symm, rfl⟩
        | false =>
          have hne : e.key ≠ k := fun h => by have := hr.2 h.symm; cases this
          obtain ⟨o, ho, h2⟩ := ih (j + 1) fun x hx => he x (List.mem_cons_of_mem _ hx)
          refine ⟨o, by simp [Instr.findAsking, Sem.run_bind, hrr, ho], ?_⟩
          cases o with
          | none => intro x hx; rcases List.mem_cons.1 hx with rfl | hx; exact hne; exact h2 x hx
          | some iv =>
            obtain ⟨i, v⟩ := iv
            obtain ⟨e', h3, h4, h5, h6⟩ := h2
            exact ⟨e', by omega, by rw [show i - j = (i - (j + 1)) + 1 from by omega]; simpa using h4, h5, h6⟩
    obtain ⟨o, ho, h2⟩ := this es 0 hes
    refine ⟨o, ?_, ?_⟩
    · cases es with
      | nil =>
        simp [Instr.findAsking] at ho
        simp [Instr.findKey, Sem.run_bind, run_underlying hu, Instr.findNow, ← ho]
      | cons e es =>
        have hn := hask k e.key hk (hes e List.mem_cons_self)
        simp [Instr.findKey, Sem.run_bind, run_underlying hu, Instr.findNow, hn, ho]
    · cases o with
      | none => exact h2
      | some iv =>
        obtain ⟨i, v⟩ := iv
        obtain ⟨e', h3, h4, h5, h6⟩ := h2
        exact ⟨e', by simpa using h4, h5, h6⟩

theorem beqB (a b : ByteArray) : (a == b) = decide (a = b) := by rw [beq_toListBytes, beq_bytes]
theorem KeyT.string {P : Program} {kt : TypeId} (hu : P.underlying kt = some .string) : KeyT P kt fun v => ∃ s, v = .string s :=
  ⟨fun em k w ⟨s, e⟩ => by
      subst e
      show (Instr.checkKey em (9999 + 1) kt (.string s)).run P w = _
      generalize 9999 = n
      simp [Instr.checkKey, Sem.run_bind, run_underlying hu], fun k ⟨s, e⟩ => by subst e; simp [Instr.sameBits, beqB],
    fnd_of hu (fun a b ⟨s, e⟩ ⟨s', e'⟩ => by subst e e'; exact ⟨s == s', by simp [beqB], .inl rfl⟩) (.inl fun a b ⟨s, e⟩ ⟨s', e'⟩ => by subst e e'; exact ⟨_, rfl⟩)⟩
theorem KeyT.int {P : Program} {kt : TypeId} {i : IntKind} (hu : P.underlying kt = some (.int i)) : KeyT P kt fun v => ∃ n, v = .int i n :=
  ⟨fun em k w ⟨s, e⟩ => by
      subst e
      show (Instr.checkKey em (9999 + 1) kt (.int i s)).run P w = _
      generalize 9999 = n
      simp [Instr.checkKey, Sem.run_bind, run_underlying hu], fun k ⟨s, e⟩ => by subst e; simp [Instr.sameBits],
    fnd_of hu (fun a b ⟨s, e⟩ ⟨s', e'⟩ => by subst e e'; exact ⟨s == s', by simp, .inl (by simp [Instr.sameNow])⟩) (.inl fun a b ⟨s, e⟩ ⟨s', e'⟩ => by subst e e'; exact ⟨_, by simp [Instr.sameNow]; rfl⟩)⟩
end Go.Eng
