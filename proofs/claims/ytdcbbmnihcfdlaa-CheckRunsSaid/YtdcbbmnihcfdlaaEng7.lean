/- A part of the engine that walks a function of the given program: sound rules, no statement of its own. -/
import Derived.Test.YtdcbbmnihcfdlaaEng6
set_option linter.unusedVariables false
set_option linter.unusedSimpArgs false
set_option linter.unnecessarySimpa false
set_option linter.constructorNameAsVariable false
set_option linter.all false
set_option linter.unusedVariables false
set_option linter.unusedSimpArgs false
namespace Go.Eng

section
variable {P : Program} {w : World} {ρ : List Value} {Y : Nat → Prop} {O : Heap} {t : TypeId} {k : SV → Prop}

theorem vlen_sound {x : SV} {u : Value} (hs : Sat w ρ Y O) (hd : Den w ρ (Av Y ρ O) x u) (h : vlen P O t x k) (ty : TypeId) : QC P w ρ (Av Y ρ O) k fun w' => (Builtin.len_ #[t] ty #[u]).run P w' := by
  unfold vlen at h
  have ret : ∀ n : Int, k (.v (.int .i64 n)) → (∀ w', Same w w' → (Builtin.len_ #[t] ty #[u]).run P w' = .ok (.int .i64 n) w') → QC P w ρ (Av Y ρ O) k fun w' => (Builtin.len_ #[t] ty #[u]).run P w' := fun n h1 h2 => ⟨_, _, h1, by simp only [Den], h2⟩
  split at h
  · rename_i e sz ht
    have hu := (tk_sl ht).1
    have hrun : ∀ p n c (w' : World), (Builtin.len_ #[t] ty #[.slice p n c]).run P w' = .ok (.int .i64 n) w' := by
      intro p n c w'
      simp [Builtin.len_, Sem.run_bind, run_underlying hu, goInt]
    split at h
    · simp only [Den, Pd] at hd
      obtain ⟨p, c, rfl, _⟩ := hd
      exact ret _ h fun w' _ => hrun _ _ _ _
    · simp only [Den] at hd
      subst hd
      exact ret _ h fun w' _ => hrun _ _ _ _
    · simp only [Den] at hd
      obtain ⟨p, n, c, _, _, rfl⟩ := hd
      exact ret _ h fun w' _ => hrun _ _ _ _
    · split at h
      · rename_i e' sz' rows hf
        obtain ⟨v, hv, xs, hown, hdv⟩ := hs.objs _ (find_mem hf)
        simp only [Den] at hd
        have hvb : ρ[_]? = some v := hv
        rw [hd.1] at hvb
        injection hvb with hvb
        subst hvb
        rcases hown.2 with ⟨rfl, h2⟩ | ⟨g, cap, cur, rfl, _⟩
        · exact ret _ h fun w' _ => by rw [hrun, h2]
        · exact ret _ h fun w' _ => hrun _ _ _ _
      · exact h.elim
    · exact h.elim
  · rename_i ht
    split at h
    · simp only [Den] at hd
      subst hd
      exact ret _ h fun w' _ => by simp [Builtin.len_, Sem.run_bind, run_underlying (tk_str ht), goInt]
    · exact h.elim
  · rename_i ke ee ht
    split at h
    · split at h
      · rename_i id es hf
        obtain ⟨v, hv, b, ents, clock, lp, hv2, hh, hpm, hde, _⟩ := hs.objs _ (find_mem hf)
        simp only [Den] at hd
        have hvb : ρ[_]? = some v := hv
        rw [hd.1] at hvb
        injection hvb with hvb
        subst hvb hv2
        have hb : b < w.heap.size := (Array.getElem?_eq_some_iff.1 hh).1
        have hl : ents.size = es.length := by
          rw [← Array.length_toList, ← hpm.length_eq]
          have : ∀ {l : List (Value × SV)} {m : List MapEntry}, DenEnts w ρ (Av Y ρ O) l m → m.length = l.length := by
            intro l
            induction l with
            | nil => intro m hm; cases hm; rfl
            | cons x l ih =>
              intro m hm
              obtain ⟨e, es', rfl, _, _, h4⟩ := hm
              simp [ih h4]
          exact this hde
        refine ret _ h fun w' hw => ?_
        have := (hw.2 b hb).trans hh
        simp [Builtin.len_, Sem.run_bind, run_underlying (tk_mp ht), goInt, getObj, Sem.run, this, hl]
      · exact h.elim
    · simp only [Den] at hd
      subst hd
      exact ret _ h fun w' _ => by simp [Builtin.len_, Sem.run_bind, run_underlying (tk_mp ht), goInt]
    · exact h.elim
  · rename_i n e sz ht
    exact ret _ h fun w' _ => by simp [Builtin.len_, Sem.run_bind, run_underlying (tk_arr ht).1, goInt]
  · exact h.elim

theorem vun_sound {A : Nat → Prop} {op : UnOp} {x : SV} {u : Value} (hd : Den w ρ A x u) (h : vun op x k) : QP P w ρ A k fun w' => (Op.unary op u).run P w' := by
  unfold vun at h
  split at h
  · rename_i b_
    simp only [Den] at hd
    subst hd
    exact ⟨_, .bool (!b_), h, by simp only [Den], fun w' => by simp [Op.unary]⟩
  · rename_i i n
    simp only [Den] at hd
    subst hd
    refine ⟨_, .int i (-n), h.2, by simp only [Den], fun w' => ?_⟩
    simp [Op.unary, Op.intArith, wrap_in h.1.1 h.1.2]
  · rename_i i_ n_
    simp only [Den] at hd
    subst hd
    exact ⟨_, .int i_ (bits .xor i_ (if i_.signed then -1 else i_.max) n_), h, by simp only [Den], fun w' => by simp only [Op.unary, Op.intBits, bits, Sem.run_bind, Sem.run_pure, Result.andThen_ok]⟩
  · exact h.elim

theorem vconv_sound {A : Nat → Prop} {s d : TypeId} {x : SV} {u : Value} (hd : Den w ρ A x u) (h : vconv P s d x k) : QP P w ρ A k fun w' => (convert s d u).run P w' := by
  unfold vconv at h
  obtain ⟨h0, h⟩ := h
  have hsrc : ∃ z, P.underlying s = some z := by
    cases hk : tk P s <;> rw [hk] at h0 <;> simp only [Bool.false_eq_true] at h0
    · exact ⟨_, (tk_sl hk).1⟩
    · exact ⟨_, tk_str hk⟩
    · exact ⟨_, tk_mp hk⟩
    · exact ⟨_, (tk_arr hk).1⟩
    · exact ⟨_, tk_int hk⟩
    · exact ⟨_, tk_bool hk⟩
    · obtain ⟨⟨fs, hf⟩, _⟩ := tk_st hk; exact ⟨_, hf⟩
    · exact ⟨_, tk_ptr hk⟩
    · obtain ⟨_, hf⟩ := tk_ifc hk; exact ⟨_, hf⟩
    · obtain ⟨_, _, _, hf⟩ := tk_fn hk; exact ⟨_, hf⟩
  obtain ⟨z, hz⟩ := hsrc
  split at h
  · rename_i kd i n ht
    simp only [Den] at hd
    subst hd
    exact ⟨_, .int kd (kd.wrap n), h, by simp only [Den], fun w' => by simp [convert, Sem.run_bind, run_underlying hz, run_underlying (tk_int ht), Conv.intToInt]⟩
  · rename_i b ht
    simp only [Den] at hd
    subst hd
    refine ⟨_, .string b, h.2, by simp only [Den], fun w' => ?_⟩
    simp [convert, Sem.run_bind, run_underlying (tk_str h.1), run_underlying (tk_str ht)]
  · exact h.elim

theorem bound_den {c : Cx} {nx : Nat} {T : Tab} {vals : Array Value} (hst : St c w ρ nx T O vals) {d n : Int} {x : Option Operand} (h : bound T d x = some n) :
    (x = none ∧ n = d) ∨ ∃ y i, x = some y ∧ (⟨vals, []⟩ : Act).eval y = .int i n := by
  unfold bound at h
  split at h
  · cases h; exact .inl ⟨rfl, rfl⟩
  · rename_i y
    obtain ⟨i, _, h2⟩ := intOf_den h (hst.ev y)
    exact .inr ⟨y, i, rfl, h2⟩

theorem run_slice_rows {e : TypeId} {sz : Nat} (ht : tk P t = .sl e sz) (p : Option Addr) (n c : Nat) (lv hv mv : Option Value) (l h m : Nat) (w' : World)
    (hl : (lv = none ∧ l = 0) ∨ ∃ i, lv = some (.int i l)) (hh : (hv = none ∧ h = n ∧ mv = none) ∨ ∃ i, hv = some (.int i h)) (hm : (mv = none ∧ m = c) ∨ ∃ i, mv = some (.int i m)) (h1 : l ≤ h) (h2 : h ≤ m) (h3 : m ≤ c) (h4 : n ≤ c) :
    (Instr.sliceAt t (.slice p n c) lv hv mv).run P w' = .ok (sliced p l h m sz) w' := by
  obtain ⟨hu, i, hi, hsz⟩ := tk_sl ht
  have hel : P.elem t = e := by simp [Program.elem, hu]
  have hu' : P.underlying t = some (.slice (P.elem t)) := by rw [hel]; exact hu
  rw [run_sliceAt_slice _ _ _ _ _ _ hu', run_slice_any _ _ _ _ _ hu', hel]
  have hb : (Instr.sliceBounds true n c lv hv mv).run P w' = .ok (l, h, m) w' := by
    rcases hm with ⟨rfl, rfl⟩ | ⟨im, rfl⟩ <;> rcases hh with ⟨rfl, rfl, hx⟩ | ⟨ih, rfl⟩ <;> rcases hl with ⟨rfl, rfl⟩ | ⟨il, rfl⟩ <;> first | (cases hx; done) | (simp [Instr.sliceBounds, Sem.run_bind, run_sliceBound_if, Int.ofNat_le, *]; done) | (simp [Instr.sliceBounds, Sem.run_bind, run_sliceBound_if, Int.ofNat_le, *]; omega)
  rw [hb]
  simp [Result.andThen, run_sizeOf hi, hsz]

theorem sliced_id (p : Option Addr) (l h m sz : Nat) : sliced p l h m sz = .slice (if m = l then p else p.map (·.add (l * sz))) (h - l) (m - l) := rfl

theorem vslice_sound {c : Cx} {nx : Nat} {T : Tab} {vals : Array Value} (hst : St c w ρ nx T O vals) {x : SV} {u : Value} {lo_ hi_ mx : Option Operand} (hd : Den w ρ (Av c.Y ρ O) x u) (h : vslice P O T t x lo_ hi_ mx k) :
    QP P w ρ (Av c.Y ρ O) k fun w' => (Instr.sliceAt t u (lo_.map (⟨vals, []⟩ : Act).eval) (hi_.map (⟨vals, []⟩ : Act).eval) (mx.map (⟨vals, []⟩ : Act).eval)).run P w' := by
  unfold vslice at h
  split at h
  · rename_i ht
    split at h
    · rename_i s
      obtain ⟨rfl, h⟩ := h
      split at h
      · rename_i l hh hl1 hh1
        obtain ⟨⟨h0, h1, h2⟩, hk⟩ := h
        simp only [Den] at hd
        subst hd
        refine ⟨_, .string (s.extract l.toNat hh.toNat), hk, by simp only [Den], fun w' => ?_⟩
        have hu := tk_str ht
        dsimp only
        rw [run_sliceAt_string _ _ _ _ _ _ hu]
        have e1 := bound_den hst hl1
        have e2 := bound_den hst hh1
        have e3 : (hh.toNat : Int) = hh := Int.toNat_of_nonneg (by omega)
        rcases e1 with ⟨rfl, rfl⟩ | ⟨y1, i1, rfl, e1⟩ <;> rcases e2 with ⟨rfl, rfl⟩ | ⟨y2, i2, rfl, e2⟩ <;>
          simp [Instr.slice, Sem.run_bind, run_underlying hu, Instr.sliceBounds, run_sliceBound_if, *] <;> omega
      · exact h.elim
    · exact h.elim
  · rename_i e sz ht
    split at h
    · rename_i sz' rows
      obtain ⟨rfl, h⟩ := h
      split at h
      · rename_i l hh hl1 hh1
        obtain ⟨⟨h0, h1, h2⟩, hm, hk⟩ := h
        simp only [Den, Pd] at hd
        obtain ⟨p, cp, rfl, hl, hc, hr⟩ := hd
        have e1 := bound_den hst hl1
        have e2 := bound_den hst hh1
        have e3 : (hh.toNat : Int) = hh := Int.toNat_of_nonneg (by omega)
        have e4 : (l.toNat : Int) = l := Int.toNat_of_nonneg (by omega)
        have hL : (lo_.map (⟨vals, []⟩ : Act).eval = none ∧ l.toNat = 0) ∨ ∃ i, lo_.map (⟨vals, []⟩ : Act).eval = some (.int i l.toNat) := by
          rcases e1 with ⟨rfl, rfl⟩ | ⟨y1, i1, rfl, e1⟩
          · exact .inl ⟨rfl, rfl⟩
          · exact .inr ⟨i1, by simp [e1, e4]⟩
        -- the last bound
        obtain ⟨m, hM, hm1, hm2, hH⟩ : ∃ m : Nat, ((mx.map (⟨vals, []⟩ : Act).eval = none ∧ m = cp) ∨ ∃ i, mx.map (⟨vals, []⟩ : Act).eval = some (.int i m)) ∧ hh.toNat ≤ m ∧ m ≤ cp ∧
            ((hi_.map (⟨vals, []⟩ : Act).eval = none ∧ hh.toNat = rows.length ∧ mx.map (⟨vals, []⟩ : Act).eval = none) ∨ ∃ i, hi_.map (⟨vals, []⟩ : Act).eval = some (.int i hh.toNat)) := by
          cases mx with
          | none =>
            refine ⟨cp, .inl ⟨rfl, rfl⟩, by omega, Nat.le_refl _, ?_⟩
            rcases e2 with ⟨rfl, rfl⟩ | ⟨y2, i2, rfl, e2⟩
            · exact .inl ⟨rfl, by omega, rfl⟩
            · exact .inr ⟨i2, by simp [e2, e3]⟩
          | some mo =>
            obtain ⟨hne, q, hq, hq1, hq2⟩ := hm
            obtain ⟨qi, _, hqv⟩ := intOf_den hq (hst.ev mo)
            refine ⟨q.toNat, .inr ⟨qi, ?_⟩, by omega, by omega, ?_⟩
            · have : (q.toNat : Int) = q := Int.toNat_of_nonneg (by omega)
              simp [hqv, this]
            · rcases e2 with ⟨rfl, rfl⟩ | ⟨y2, i2, rfl, e2⟩
              · exact absurd rfl hne
              · exact .inr ⟨i2, by simp [e2, e3]⟩
        refine ⟨_, sliced p l.toNat hh.toNat m sz, hk, ?_, fun w' => run_slice_rows ht _ _ _ _ _ _ _ _ _ _ hL hH hM (by omega) hm1 hm2 hl⟩
        simp only [Den, Pd]
        have hlen : ((rows.take hh.toNat).drop l.toNat).length = hh.toNat - l.toNat := by simp; omega
        refine ⟨(if m = l.toNat then p else p.map (·.add (l.toNat * sz))), m - l.toNat, by rw [hlen]; rfl, by rw [hlen]; omega, by omega, fun hp => ?_⟩
        obtain ⟨b, o, rfl, ha, hb, hrows⟩ := hr (by omega)
        rw [if_neg (by omega)]
        exact ⟨b, o + l.toNat * sz, by simp [add_none], ha, hb, (hrows.take sz hh.toNat).drop sz l.toNat⟩
      · exact h.elim
    · rename_i id
      split at h
      · rename_i e' sz' rows hf
        obtain ⟨rfl, h⟩ := h
        split at h
        · rename_i l hh hl1 hh1
          obtain ⟨⟨h0, h1, h2⟩, h⟩ := h
          obtain ⟨v, hv, xs, hown, hdv⟩ := hst.sat.objs _ (find_mem hf)
          simp only [Den] at hd
          have hvb : ρ[id]? = some v := hv
          rw [hd.1] at hvb
          injection hvb with hvb
          subst hvb
          obtain ⟨p, cp, rfl, hcp⟩ : ∃ p cp, u = .slice p rows.length cp ∧ rows.length ≤ cp := by
            rcases hown.2 with ⟨rfl, h2⟩ | ⟨g, cap, cur, rfl, _, _, h4, _⟩
            · exact ⟨none, 0, by rw [h2], by omega⟩
            · exact ⟨_, cap, rfl, h4⟩
          have e1 := bound_den hst hl1
          have e2 := bound_den hst hh1
          have e3 : (hh.toNat : Int) = hh := Int.toNat_of_nonneg (by omega)
          have e4 : (l.toNat : Int) = l := Int.toNat_of_nonneg (by omega)
          have hL : (lo_.map (⟨vals, []⟩ : Act).eval = none ∧ l.toNat = 0) ∨ ∃ i, lo_.map (⟨vals, []⟩ : Act).eval = some (.int i l.toNat) := by
            rcases e1 with ⟨rfl, rfl⟩ | ⟨y1, i1, rfl, e1⟩
            · exact .inl ⟨rfl, rfl⟩
            · exact .inr ⟨i1, by simp [e1, e4]⟩
          split at h
          · refine ⟨_, sliced p l.toNat hh.toNat cp sz, h, ?_, fun w' => run_slice_rows ht _ _ _ _ _ _ _ _ _ _ hL ?_ (.inl ⟨rfl, rfl⟩) (by omega) (by omega) (Nat.le_refl _) hcp⟩
            · simp only [Den]; exact ⟨p, rows.length, cp, hd.1, by omega, rfl⟩
            · rcases e2 with ⟨rfl, rfl⟩ | ⟨y2, i2, rfl, e2⟩
              · exact .inl ⟨rfl, by omega, rfl⟩
              · exact .inr ⟨i2, by simp [e2, e3]⟩
          · rename_i mo
            obtain ⟨hne, hq, hk⟩ := h
            obtain ⟨qi, _, hqv⟩ := intOf_den hq (hst.ev mo)
            refine ⟨_, sliced p l.toNat hh.toNat hh.toNat sz, hk, ?_, fun w' => run_slice_rows ht _ _ _ _ _ _ _ _ _ _ hL ?_ (.inr ⟨qi, by simp [hqv, e3]⟩) (by omega) (Nat.le_refl _) (by omega) hcp⟩
            · simp only [Den]; exact ⟨p, rows.length, cp, hd.1, by omega, rfl⟩
            · rcases e2 with ⟨rfl, rfl⟩ | ⟨y2, i2, rfl, e2⟩
              · exact absurd rfl hne
              · exact .inr ⟨i2, by simp [e2, e3]⟩
        · exact h.elim
      · exact h.elim
    · exact h.elim
  · exact h.elim

/-- A quiet operation in all later worlds. -/
def pureOp : Op → Bool
  | .load _ _ => false
  | .call cl => match cl.callee with
    | .builtin .len => false
    | _ => true
  | _ => true
abbrev QO (P : Program) (w : World) (ρ : List Value) (A : Nat → Prop) (f : Operand → Value) (op : Op) (k : SV → Prop) : Prop :=
  ∃ r z, k r ∧ Den w ρ A r z ∧ ∀ w', (pureOp op = false → Same w w') → ∀ o : Oper, o.op = op → (execOp f o).run P w' = .ok (.value z) w'

theorem QP.lift {A : Nat → Prop} {f : Operand → Value} {op : Op} {s : Sem Value} (h : QP P w ρ A k fun w' => s.run P w') (he : ∀ o : Oper, o.op = op → execOp f o = (do pure (.value (← s)))) : QO P w ρ A f op k := by
  obtain ⟨r, z, h1, h2, h3⟩ := h
  refine ⟨r, z, h1, h2, fun w' _ o ho => ?_⟩
  rw [he o ho]
  have := h3 w'
  simp only [Sem.run_bind, this, Result.andThen_ok, Sem.run_pure]

theorem QC.lift {A : Nat → Prop} {f : Operand → Value} {op : Op} {s : Sem Value} (h : QC P w ρ A k fun w' => s.run P w') (hp : pureOp op = false) (he : ∀ o : Oper, o.op = op → execOp f o = (do pure (.value (← s)))) : QO P w ρ A f op k := by
  obtain ⟨r, z, h1, h2, h3⟩ := h
  refine ⟨r, z, h1, h2, fun w' hw o ho => ?_⟩
  rw [he o ho]
  have := h3 w' (hw hp)
  simp only [Sem.run_bind, this, Result.andThen_ok, Sem.run_pure]

theorem vq_sound {c : Cx} {nx : Nat} {T : Tab} {vals : Array Value} (hst : St c w ρ nx T O vals) {op : Op} (h : vq c.P T O op k) : QO c.P w ρ (Av c.Y ρ O) (⟨vals, []⟩ : Act).eval op k := by
  unfold vq at h
  split at h
  · exact ⟨_, _, h, hst.ev _, fun w' _ o ho => by simp [execOp, ho]⟩
  · exact ⟨_, _, h, hst.ev _, fun w' _ o ho => by simp [execOp, ho]⟩
  · rename_i cc a b
    have hc := hst.ev cc
    split at h
    · rename_i e
      rw [e] at hc
      simp only [Den] at hc
      exact ⟨_, _, h, hst.ev _, fun w' _ o ho => by simp [execOp, ho, hc, asBool]⟩
    · rename_i e
      rw [e] at hc
      simp only [Den] at hc
      exact ⟨_, _, h, hst.ev _, fun w' _ o ho => by simp [execOp, ho, hc, asBool]⟩
    · exact h.elim
  · rename_i t a
    exact QC.lift (s := Instr.loadAt t _) (vload_sound hst.sat (hst.ev a) h) rfl fun o ho => by simp only [execOp, ho]
  · rename_i x
    have hx := hst.ev x
    split at h
    · rename_i e
      rw [e] at hx
      obtain ⟨b, h1, h2⟩ := (by simpa only [Den] using hx)
      exact ⟨_, _, h, hx, fun w' _ o ho => by simp [execOp, ho, h2]⟩
    · rename_i e
      rw [e] at hx
      obtain ⟨b, o, h2, _⟩ := (by simpa only [Den] using hx)
      exact ⟨_, _, h, hx, fun w' _ o ho => by simp [execOp, ho, h2]⟩
    · rename_i e
      rw [e] at hx
      obtain ⟨b, n, cc, h1, h2⟩ := (by simpa only [Den] using hx)
      exact ⟨_, _, h, hx, fun w' _ o ho => by simp [execOp, ho, h2]⟩
    · rename_i e
      rw [e] at hx
      obtain ⟨us, h2, _⟩ := (by simpa only [Den] using hx)
      exact ⟨_, _, h, hx, fun w' _ o ho => by simp [execOp, ho, h2]⟩
    · exact h.elim
  · rename_i b t x y yt
    obtain ⟨r, z, h1, h2, h3⟩ := vbin_sound x y (hst.ev x) (hst.ev y) h
    refine ⟨r, z, h1, h2, fun w' hw o ho => ?_⟩
    have := h3 w'
    simp only [execOp, ho]
    simp only [Sem.run_bind] at this ⊢
    rw [this]
    simp
  · exact QP.lift (vun_sound (hst.ev _) h) fun o ho => by simp only [execOp, ho]
  · exact QP.lift (vconv_sound (hst.ev _) h) fun o ho => by simp only [execOp, ho]
  · rename_i t x
    obtain ⟨ht, hk⟩ := h
    obtain ⟨d, hu, hni⟩ := run_typeAssert ht
    refine ⟨_, .iface t _, hk, by simp only [Den]; exact ⟨_, rfl, hst.ev x⟩, fun w' _ o ho => ?_⟩
    simp only [execOp, ho, Instr.makeInterface, Sem.run_bind, run_underlying hu, Result.andThen_ok]
    cases d <;> first | exact absurd rfl (hni _) | simp
  · rename_i f first caps
    obtain ⟨rfl, hk⟩ := h
    refine ⟨_, .func (.func f) #[] (caps.map (⟨vals, []⟩ : Act).eval), hk, ?_, fun w' _ o ho => by simp [execOp, ho, Instr.makeFunc]⟩
    simp only [Den]
    refine ⟨caps.toList.map (⟨vals, []⟩ : Act).eval, by rw [← List.map_toArray, Array.toArray_toList], ?_⟩
    generalize caps.toList = l
    induction l with
    | nil => simp [DenAll]
    | cons a l ih => simp only [List.map_cons, DenAll]; exact ⟨_, _, rfl, hst.ev a, ih⟩
  · rename_i t x l h' m
    exact QP.lift (s := Instr.sliceAt t _ _ _ _) (vslice_sound hst (hst.ev x) h) fun o ho => by simp only [execOp, ho]
  · exact QP.lift (vfieldAddr_sound (hst.ev _) h) fun o ho => by simp only [execOp, ho]
  · rename_i t x f
    split at h
    · rename_i off ft cells hf e
      have hx := hst.ev x
      rw [e] at hx
      simp only [Den] at hx
      obtain ⟨us, h2, h3⟩ := hx
      obtain ⟨fs, xx, i, hu, hx, rfl, rfl, hi, hz⟩ := fd_spec hf
      obtain ⟨r, z, hr, hdr, hrun⟩ := vpart_sound h3 h
      refine ⟨r, z, hr, hdr, fun w' hw o ho => ?_⟩
      have := hrun w'
      simp [execOp, ho, h2, Instr.field, Sem.run_bind, run_underlying hu, hx, asAgg, this]
    · exact h.elim
  · exact QP.lift (vindexAddr_sound hst.sat (hst.ev _) (hst.ev _) h) fun o ho => by simp only [execOp, ho]
  · exact QP.lift (vindex_sound (hst.ev _) (hst.ev _) h) fun o ho => by simp only [execOp, ho]
  · rename_i x xt a ok
    exact QP.lift (s := Instr.typeAssert _ xt a ok) (vassert_sound (hst.ev x) h) fun o ho => by simp only [execOp, ho]
  · rename_i x i
    split at h
    · rename_i l e
      have hx := hst.ev x
      rw [e] at hx
      simp only [Den] at hx
      obtain ⟨us, h2, h3⟩ := hx
      split at h
      · rename_i s hs
        obtain ⟨u, hu, hdu⟩ := h3.get hs
        exact ⟨s, u, h, hdu, fun w' _ o ho => by simp [execOp, ho, h2, Instr.extract, hu]⟩
      · exact h.elim
    · exact h.elim
  · rename_i cl
    have hcl : ∀ {l : List Operand}, cl.args.toList = l → cl.args = l.toArray := fun e => by rw [← e]
    have hty : ∀ {l : List TypeId}, cl.argTypes.toList = l → cl.argTypes = l.toArray := fun e => by rw [← e]
    split at h
    · rename_i x t e1 e2 e3
      obtain ⟨r, z, h1, h2, h3⟩ := vlen_sound hst.sat (hst.ev x) h 0
      refine ⟨r, z, h1, h2, fun w' hw o ho => ?_⟩
      have := h3 w' (hw (by simp [pureOp, e1]))
      have e : ∀ a b, Builtin.len_ a b = Builtin.len_ a 0 := fun a b => rfl
      simp only [execOp, ho, resolve, e1, hcl e2, hty e3, Sem.run_bind, Sem.run_pure, Result.andThen_ok, invoke, builtin, List.map_toArray, List.map_cons, List.map_nil, e _ o.type, this]
    · rename_i x y e1 e2
      have hx := hst.ev x
      have hy := hst.ev y
      split at h
      · rename_i i a j b f1 f2
        rw [f1] at hx
        rw [f2] at hy
        simp only [Den] at hx hy
        refine ⟨_, .int i (max a b), h, by simp only [Den], fun w' hw o ho => ?_⟩
        have : max a b = if b > a then b else a := by omega
        simp [execOp, ho, resolve, e1, hcl e2, invoke, builtin, Builtin.max_, Builtin.max2, hx, hy, this]
      · exact h.elim
    · rename_i x y e1 e2
      have hx := hst.ev x
      have hy := hst.ev y
      split at h
      · rename_i i a j b f1 f2
        rw [f1] at hx
        rw [f2] at hy
        simp only [Den] at hx hy
        refine ⟨_, .int i (min a b), h, by simp only [Den], fun w' hw o ho => ?_⟩
        have : min a b = if b < a then b else a := by omega
        simp [execOp, ho, resolve, e1, hcl e2, invoke, builtin, Builtin.min_, Builtin.min2, hx, hy, this]
      · exact h.elim
    · exact h.elim
  · exact h.elim

end
end Go.Eng
