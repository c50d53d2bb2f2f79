/- A part of the engine that walks a function of the given program: sound rules, no statement of its own. -/
import Derived.Test.YtdcbbmnihcfdlaaEng15
import Derived.Test.YtdcbbmnihcfdlaaWLast
set_option linter.unusedVariables false
set_option linter.unusedSimpArgs false
set_option linter.unnecessarySimpa false
set_option linter.constructorNameAsVariable false
set_option linter.all false
set_option linter.unusedVariables false
set_option linter.unusedSimpArgs false
namespace Go.Eng
open Go.Proofs.YtdcbbmnihcfdlaaW.PrintLast

/-- The order in which the operations of a region that draws are walked. -/
inductive Sch where
  | done
  | qp (i : Nat) (r : Sch)
  | qt (i : Nat) (r : Sch)
  | one (i : Nat) (d : Bool) (r : Sch)
  | two (i j : Nat) (d e : Bool) (r s : Sch)
  | three (i j k : Nat) (r s t : Sch)

def setL (l : Array Bool) (i : Nat) : Array Bool := l.setIfInBounds i true
/-- 'ph': 0: nothing was done yet; 1: what was there is as it was; 2: nothing is known. -/
def schOK (ops : Array Oper) (ds : List Nat) : Nat → Nat → Array Bool → Sch → Bool
  | _, _, l, .done => Region.ready .any ops l == []
  | n + 1, ph, l, .qp i r => anyB .any ops l (setL l i) i && schOK ops ds n ph (setL l i) r
  | n + 1, ph, l, .qt i r => (ph == 0) && takeB .any ops ds l (setL l i) i && schOK ops ds n ph (setL l i) r
  | n + 1, ph, l, .one i d r => readyB .any ops l (setL l i) i && (ds.contains i == d) && (d || decide (ph ≤ 1)) && schOK ops ds n (if d then 2 else 1) (setL l i) r
  | n + 1, ph, l, .two i j d e r s => (Region.ready .any ops l == [i, j]) && (ds.contains i == d && ds.contains j == e) && ((d || decide (ph ≤ 1)) && (e || decide (ph ≤ 1))) && (schOK ops ds n (if d then 2 else 1) (setL l i) r && schOK ops ds n (if e then 2 else 1) (setL l j) s)
  | n + 1, ph, l, .three i j k r s t => (Region.ready .any ops l == [i, j, k]) && (!ds.contains i && !ds.contains j && !ds.contains k) && decide (ph ≤ 1) && (schOK ops ds n 1 (setL l i) r && schOK ops ds n 1 (setL l j) s && schOK ops ds n 1 (setL l k) t)
  | 0, _, _, _ => false

def vqq (P : Program) (T : Tab) (O : Heap) (op : Op) (k : SV → Prop) : Prop :=
  match op with
  | .build t parts => vbuild P T t parts k
  | op => vq P T O op k

def vstep (c : Cx) (ops : Array Oper) (i : Nat) (q : Bool) (nx : Nat) (T : Tab) (O : Heap) (k : Nat → Tab → Heap → Prop) : Prop :=
  match ops[i]? with
  | some o => vguard ops.toList T o (vop c o q nx T O k) (dok c.n o.dst = true ∧ vput o.dst (.v undef) T fun T => k nx T O)
  | none => False
def vquiet (c : Cx) (ops : Array Oper) (i : Nat) (p : Bool) (nx : Nat) (T : Tab) (O : Heap) (k : Nat → Tab → Heap → Prop) : Prop :=
  match ops[i]? with
  | some o => (pureOp o.op || p) = true ∧ dok c.n o.dst = true ∧ vguard ops.toList T o (vqq c.P T O o.op fun s => vput o.dst s T fun T => k nx T O) (vput o.dst (.v undef) T fun T => k nx T O)
  | none => False

def vdraw (c : Cx) (ops : Array Oper) : Sch → Nat → Tab → Heap → (Nat → Tab → Heap → Prop) → Prop
  | .done, nx, T, O, k => k nx T O
  | .qp i r, nx, T, O, k => vquiet c ops i false nx T O fun nx T O => vdraw c ops r nx T O k
  | .qt i r, nx, T, O, k => vquiet c ops i true nx T O fun nx T O => vdraw c ops r nx T O k
  | .one i d r, nx, T, O, k => vstep c ops i (!d) nx T O fun nx T O => vdraw c ops r nx T O k
  | .two i j d e r s, nx, T, O, k => (vstep c ops i (!d) nx T O fun nx T O => vdraw c ops r nx T O k) ∧ (vstep c ops j (!e) nx T O fun nx T O => vdraw c ops s nx T O k)
  | .three i j m r s t, nx, T, O, k => (vstep c ops i true nx T O fun nx T O => vdraw c ops r nx T O k) ∧ (vstep c ops j true nx T O fun nx T O => vdraw c ops s nx T O k) ∧ (vstep c ops m true nx T O fun nx T O => vdraw c ops t nx T O k)

section
variable {c : Cx} {w : World} {ρ : List Value} {nx : Nat} {T : Tab} {O : Heap} {vals : Array Value}

theorem vqq_sound (hst : St c w ρ nx T O vals) {op : Op} {k : SV → Prop} (h : vqq c.P T O op k) : QO c.P w ρ (Av c.Y ρ O) (⟨vals, []⟩ : Act).eval op k := by
  unfold vqq at h
  split at h
  · exact vbuild_sound hst h
  · exact vq_sound hst h

theorem Same.trans {a b d : World} (h : Same a b) (k : Same b d) : Same a d := ⟨Nat.le_trans h.1 k.1, fun x hx => (k.2 x (Nat.lt_of_lt_of_le hx h.1)).trans (h.2 x hx)⟩

theorem vguardA_sound (hst : St c w ρ nx T O vals) {ops : Array Oper} {o : Oper} {yes no : Prop} (h : vguard ops.toList T o yes no) :
    (Region.wanted o (yielded ops vals) = true ∧ yes) ∨ (Region.wanted o (yielded ops vals) = false ∧ no) := by
  have := vguard_sound hst h
  simpa only [Array.toArray_toList] using this

/-- A quiet operation, in all worlds that it may come up in. -/
theorem vquiet_yields (hst : St c w ρ nx T O vals) {ops : Array Oper} {i : Nat} {p : Bool} {k : Nat → Tab → Heap → Prop} (h : vquiet c ops i p nx T O k) :
    ∃ oi v T', ops[i]? = some oi ∧ (pureOp oi.op || p) = true ∧ k nx T' O ∧ St c w ρ nx T' O ((⟨vals, []⟩ : Act).put oi.dst v).tmps ∧
      ((Region.wanted oi (yielded ops vals) = true ∧ ∀ w', (pureOp oi.op = false → Same w w') → (execOp (⟨vals, []⟩ : Act).eval oi).run c.P w' = .ok (.value v) w') ∨ (Region.wanted oi (yielded ops vals) = false ∧ v = undef)) := by
  unfold vquiet at h
  simp only [vput_iff] at h
  split at h
  · rename_i o ho
    obtain ⟨hp, hd, h⟩ := h
    rcases vguardA_sound hst h with ⟨hw, hy⟩ | ⟨hw, hn⟩
    · obtain ⟨r, z, h1, h2, h3⟩ := vqq_sound hst hy
      exact ⟨o, z, _, ho, hp, h1, hst.put o.dst h2 (dok_spec hd), .inl ⟨hw, fun w' hs => h3 w' hs o rfl⟩⟩
    · exact ⟨o, undef, _, ho, hp, hn, hst.put o.dst (s := .v undef) (by simp [Den]) (dok_spec hd), .inr ⟨hw, rfl⟩⟩
  · exact h.elim

theorem vstep_sound (hst : St c w ρ nx T O vals) {ops : Array Oper} {i : Nat} {q : Bool} {k : Nat → Tab → Heap → Prop} (h : vstep c ops i q nx T O k) {Q : Exit → Act → World → Prop} :
    ∃ oi, ops[i]? = some oi ∧ ∀ K : Act → World → Prop, (∀ ρ' nx' T' O' vals' w', St c w' ρ' nx' T' O' vals' → k nx' T' O' → (q = true → Same w w') → K ⟨vals', []⟩ w') →
      if Region.wanted oi (yielded ops vals) = true then Oper.wp c.P oi ⟨vals, []⟩ w K Q else K ((⟨vals, []⟩ : Act).put oi.dst undef) w := by
  unfold vstep at h
  simp only [vput_iff] at h
  split at h
  · rename_i o ho
    refine ⟨o, ho, fun K hK => ?_⟩
    rcases vguardA_sound hst h with ⟨hw, hy⟩ | ⟨hw, hd, hn⟩
    · rw [if_pos hw]
      exact vop_sound hy w ρ vals hst Q K hK
    · rw [if_neg (by rw [hw]; simp)]
      rw [putAct]
      exact hK _ _ _ _ _ _ (hst.put o.dst (s := .v undef) (u := undef) (by simp [Den]) (dok_spec hd)) hn fun _ => Same.refl w
  · exact h.elim

theorem St.drew (h : St c w ρ nx T O vals) : St c w.drew ρ nx T O vals := by
  obtain ⟨h1, h2⟩ := h.sat.change (w' := w.drew) (ρ' := ρ) (O' := O) (fun _ => False) (Nat.le_refl _) (fun _ _ h => h) (fun _ _ _ => rfl) (fun _ h => h.elim) (fun b hb => ⟨.inl hb, h.sat.lt b (.inr hb)⟩) h.sat.apart (fun x hx => .inl ⟨hx, fun _ _ _ _ h => h⟩)
  exact ⟨h1, h.nx, h.size, fun d s hl => by obtain ⟨u, hu, hd⟩ := h.tmps d s hl; exact ⟨u, hu, Den.tr h2 _ _ hd⟩, h.frm.step rfl rfl rfl (Nat.le_refl _) fun _ _ _ => rfl, h.own, h.pre⟩

theorem hQ_lift {K : AbsPost} {dst : Option Tmp} {v : Value} : ∀ (e : List PanicEntry) a w, LiftK c K (.panic e) (a.put dst v) w → LiftK c K (.panic e) a w := fun _ _ _ h => h

theorem vdraw_sound {ops : Array Oper} {ds : List Nat} {wr : World} {K : AbsPost} : ∀ (sch : Sch) (n ph : Nat) (l : Array Bool) (nx : Nat) (T : Tab) (O : Heap), schOK ops ds n ph l sch = true → vdraw c ops sch nx T O (K .normal) →
    ∀ w ρ vals, St c w ρ nx T O vals → (ph = 0 → w = wr) → (ph ≤ 1 → Same wr w) → wpAnyLast c.P .any ops (LiftK c K) (Same wr) ds n l ⟨vals, []⟩ w
  | .done, n, ph, l, nx, T, O, hc, h, w, ρ, vals, hst, h0, h1 => by
    refine done_ ?_ (LiftK.intro (e := .normal) trivial hst h)
    cases n <;> exact hc
  | .qp i r, 0, ph, l, nx, T, O, hc, _, _, _, _, _, _, _ => by simp [schOK] at hc
  | .qt i r, 0, ph, l, nx, T, O, hc, _, _, _, _, _, _, _ => by simp [schOK] at hc
  | .one i d r, 0, ph, l, nx, T, O, hc, _, _, _, _, _, _, _ => by simp [schOK] at hc
  | .two i j d e r s, 0, ph, l, nx, T, O, hc, _, _, _, _, _, _, _ => by simp [schOK] at hc
  | .three i j m r s t, 0, ph, l, nx, T, O, hc, _, _, _, _, _, _, _ => by simp [schOK] at hc
  | .qp i r, n + 1, ph, l, nx, T, O, hc, h, w, ρ, vals, hst, h0, h1 => by
    simp only [schOK, Bool.and_eq_true] at hc
    obtain ⟨oi, v, T', ho, hp, hk, hst', hy⟩ := vquiet_yields hst h
    refine pure_ (setL l i) ho rfl hc.1 (fun e a w h => hQ_lift e a w h) ?_ (putAct vals oi.dst v) (vdraw_sound r n ph _ _ _ _ hc.2 hk w ρ _ hst' h0 h1)
    refine hy.imp (fun hh => ⟨hh.1, fun w' => hh.2 w' fun hf => ?_⟩) id
    simp [hf] at hp
  | .qt i r, n + 1, ph, l, nx, T, O, hc, h, w, ρ, vals, hst, h0, h1 => by
    simp only [schOK, Bool.and_eq_true, beq_iff_eq] at hc
    obtain ⟨⟨hph, hc1⟩, hc2⟩ := hc
    obtain ⟨oi, v, T', ho, hp, hk, hst', hy⟩ := vquiet_yields hst h
    have hw := h0 hph
    refine take_ (setL l i) ho rfl hc1 (fun e a w h => hQ_lift e a w h) ?_ (h1 (by omega)) (putAct vals oi.dst v) (vdraw_sound r n ph _ _ _ _ hc2 hk w ρ _ hst' h0 h1)
    exact hy.imp (fun hh => ⟨hh.1, fun w' hs => hh.2 w' fun hf => by rw [hw]; exact hs⟩) id
  | .one i d r, n + 1, ph, l, nx, T, O, hc, h, w, ρ, vals, hst, h0, h1 => by
    simp only [schOK, Bool.and_eq_true, beq_iff_eq, Bool.or_eq_true, decide_eq_true_eq] at hc
    obtain ⟨⟨⟨hc1, hd⟩, hph⟩, hc2⟩ := hc
    obtain ⟨oi, ho, hrun⟩ := vstep_sound hst h (Q := LiftK c K)
    cases d with
    | true =>
      refine last_ (setL l i) ho rfl hc1 (by simpa using hd) fun K' hK' => hrun K' fun ρ' nx' T' O' vals' w' hst' hk hq => hK'.out _ _ ?_
      exact vdraw_sound r n 2 _ _ _ _ hc2 hk w' ρ' vals' hst' (fun h => by omega) (fun h => by omega)
    | false =>
      have h1' := h1 (by simpa using hph)
      refine one_ (setL l i) ho rfl hc1 (by simpa using hd) fun K' hK' => hrun K' fun ρ' nx' T' O' vals' w' hst' hk hq => hK'.out _ _ (h1'.trans (hq rfl)) fun _ => ?_
      exact vdraw_sound r n 1 _ _ _ _ hc2 hk w' ρ' vals' hst' (fun h => by omega) (fun _ => h1'.trans (hq rfl))
  | .two i j d e r s, n + 1, ph, l, nx, T, O, hc, h, w, ρ, vals, hst, h0, h1 => by
    simp only [schOK, Bool.and_eq_true, beq_iff_eq, Bool.or_eq_true, decide_eq_true_eq] at hc
    obtain ⟨⟨⟨hc1, hd, he⟩, hph, hph'⟩, hc2, hc3⟩ := hc
    obtain ⟨ha, hb⟩ := h
    obtain ⟨oi, hoi, hi⟩ := vstep_sound hst ha (Q := LiftK c K)
    obtain ⟨oj, hoj, hj⟩ := vstep_sound hst hb (Q := LiftK c K)
    refine wpAnyLast_ready hc1 (by simp) ?_
    have hj' : AllReadyL c.P .any ops (LiftK c K) (Same wr) ds n l ⟨vals, []⟩ w [j] := by
      cases e with
      | true =>
        refine AllReadyL.cons_last hoj (by simpa using he) (fun K' hK' => hj K' fun ρ' nx' T' O' vals' w' hst' hk hq => hK'.out _ _ ?_) AllReadyL.nil
        exact vdraw_sound s n 2 _ _ _ _ hc3 hk w' ρ' vals' hst' (fun h => by omega) (fun h => by omega)
      | false =>
        have h1' := h1 (by simpa using hph')
        refine AllReadyL.cons hoj (by simpa using he) (fun K' hK' => hj K' fun ρ' nx' T' O' vals' w' hst' hk hq => hK'.out _ _ (h1'.trans (hq rfl)) fun _ => ?_) AllReadyL.nil
        exact vdraw_sound s n 1 _ _ _ _ hc3 hk w' ρ' vals' hst' (fun h => by omega) (fun _ => h1'.trans (hq rfl))
    cases d with
    | true =>
      refine AllReadyL.cons_last hoi (by simpa using hd) (fun K' hK' => hi K' fun ρ' nx' T' O' vals' w' hst' hk hq => hK'.out _ _ ?_) hj'
      exact vdraw_sound r n 2 _ _ _ _ hc2 hk w' ρ' vals' hst' (fun h => by omega) (fun h => by omega)
    | false =>
      have h1' := h1 (by simpa using hph)
      refine AllReadyL.cons hoi (by simpa using hd) (fun K' hK' => hi K' fun ρ' nx' T' O' vals' w' hst' hk hq => hK'.out _ _ (h1'.trans (hq rfl)) fun _ => ?_) hj'
      exact vdraw_sound r n 1 _ _ _ _ hc2 hk w' ρ' vals' hst' (fun h => by omega) (fun _ => h1'.trans (hq rfl))
  | .three i j m r s t, n + 1, ph, l, nx, T, O, hc, h, w, ρ, vals, hst, h0, h1 => by
    simp only [schOK, Bool.and_eq_true, beq_iff_eq, Bool.not_eq_true', decide_eq_true_eq] at hc
    obtain ⟨⟨⟨hc1, ⟨hd1, hd2⟩, hd3⟩, hph⟩, ⟨hc2, hc3⟩, hc4⟩ := hc
    obtain ⟨ha, hb, hcc⟩ := h
    obtain ⟨oi, hoi, hi⟩ := vstep_sound hst ha (Q := LiftK c K)
    obtain ⟨oj, hoj, hj⟩ := vstep_sound hst hb (Q := LiftK c K)
    obtain ⟨om, hom, hm⟩ := vstep_sound hst hcc (Q := LiftK c K)
    have h1' := h1 hph
    refine wpAnyLast_ready hc1 (by simp) ?_
    refine AllReadyL.cons hoi (by simpa using hd1) (fun K' hK' => hi K' fun ρ' nx' T' O' vals' w' hst' hk hq => hK'.out _ _ (h1'.trans (hq rfl)) fun _ => ?_) (AllReadyL.cons hoj (by simpa using hd2) (fun K' hK' => hj K' fun ρ' nx' T' O' vals' w' hst' hk hq => hK'.out _ _ (h1'.trans (hq rfl)) fun _ => ?_) (AllReadyL.cons hom (by simpa using hd3) (fun K' hK' => hm K' fun ρ' nx' T' O' vals' w' hst' hk hq => hK'.out _ _ (h1'.trans (hq rfl)) fun _ => ?_) AllReadyL.nil))
    · exact vdraw_sound r n 1 _ _ _ _ hc2 hk w' ρ' vals' hst' (fun h => by omega) (fun _ => h1'.trans (hq rfl))
    · exact vdraw_sound s n 1 _ _ _ _ hc3 hk w' ρ' vals' hst' (fun h => by omega) (fun _ => h1'.trans (hq rfl))
    · exact vdraw_sound t n 1 _ _ _ _ hc4 hk w' ρ' vals' hst' (fun h => by omega) (fun _ => h1'.trans (hq rfl))

/-- A region that draws its order. -/
theorem region_ok {ops : Array Oper} {id : Nat} {K : AbsPost} (sch : Sch) (ds : List Nat) (hm : c.P.follows .mixedOrders = true) (hc : schOK ops ds ops.size 0 (Array.replicate ops.size false) sch = true) (h : vdraw c ops sch nx T O (K .normal)) : SWP c (.region id ops true) nx T O K := fun w ρ vals hst =>
  start_ _ hm rfl rfl (Same.refl _) fun _ => vdraw_sound sch ops.size 0 _ nx T O hc h w.drew ρ vals hst.drew (fun _ => rfl) (fun _ => Same.refl _)

end
end Go.Eng
