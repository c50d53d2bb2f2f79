/- A part of the engine that walks a function of the given program: sound rules, no statement of its own. -/
import Derived.Test.YtdcbbmnihcfdlaaEng5
set_option linter.unusedVariables false
set_option linter.unusedSimpArgs false
set_option linter.unnecessarySimpa false
set_option linter.constructorNameAsVariable false
set_option linter.all false
set_option linter.unusedVariables false
set_option linter.unusedSimpArgs false
namespace Go.Eng

section
variable {P : Program} {w : World} {ρ : List Value} {Y : Nat → Prop} {O : Heap} {t : TypeId} {k : SV → Prop}
/-- What a rule for a quiet operation gives: a value, the same in all later worlds. -/
abbrev QC (P : Program) (w : World) (ρ : List Value) (A : Nat → Prop) (k : SV → Prop) (run : World → Result Value) : Prop :=
  ∃ r z, k r ∧ Den w ρ A r z ∧ ∀ w', Same w w' → run w' = .ok z w'

/-- The same in whatever world. -/
abbrev QP (P : Program) (w : World) (ρ : List Value) (A : Nat → Prop) (k : SV → Prop) (run : World → Result Value) : Prop :=
  ∃ r z, k r ∧ Den w ρ A r z ∧ ∀ w', run w' = .ok z w'
theorem QP.qc {A : Nat → Prop} {run : World → Result Value} (h : QP P w ρ A k run) : QC P w ρ A k run := by
  obtain ⟨r, z, h1, h2, h3⟩ := h
  exact ⟨r, z, h1, h2, fun w' _ => h3 w'⟩

theorem fd_spec {s : TypeId} {f off : Nat} {ft : TypeId} (h : fd P s f = some (off, ft)) : ∃ fs x i, P.underlying s = some (.struct fs) ∧ fs[f]? = some x ∧ x.offset = off ∧ x.type = ft ∧ P.info? ft = some i ∧ i.size ≠ 0 := by
  unfold fd at h
  split at h
  · rename_i fs hu
    split at h
    · rename_i x hx
      split at h
      · cases h
      · rename_i hz
        simp only [Option.some.injEq, Prod.mk.injEq] at h
        obtain ⟨rfl, rfl⟩ := h
        unfold szOf at hz
        cases hi : P.info? x.type with
        | none => simp [hi] at hz
        | some i => exact ⟨fs, x, i, hu, hx, rfl, rfl, rfl, by simpa [hi] using hz⟩
    · cases h
  · cases h

theorem run_fieldAt {s : TypeId} {f off : Nat} {ft : TypeId} (h : fd P s f = some (off, ft)) (b o : Nat) (w : World) : (Instr.fieldAt s (.pointer (some ⟨b, o, none⟩)) f).run P w = .ok (.pointer (some ⟨b, o + off, none⟩)) w := by
  obtain ⟨fs, x, i, hu, hx, rfl, rfl, hi, hz⟩ := fd_spec h
  simp [Instr.fieldAt, Instr.sureAddr, Sem.run_bind, run_underlying hu, hx, fieldPlace, run_sizeOf hi, hz, add_none]

theorem vfieldAddr_sound {s : TypeId} {x : SV} {u : Value} {f : Nat} (hd : Den w ρ (Av Y ρ O) x u) (h : vfieldAddr P s x f k) : QP P w ρ (Av Y ρ O) k fun w' => (Instr.fieldAt s u f).run P w' := by
  unfold vfieldAddr at h
  split at h
  · exact h.elim
  · rename_i off ft hf
    split at h
    · simp only [Den] at hd
      obtain ⟨b, hb, rfl⟩ := hd
      exact ⟨_, _, h, by simp only [Den]; exact ⟨b, hb, rfl⟩, fun w' => run_fieldAt hf _ _ _⟩
    · simp only [Den] at hd
      obtain ⟨b, o, rfl, ha, hl, hc⟩ := hd
      exact ⟨_, _, h, by simp only [Den]; exact ⟨b, o + off, rfl, ha, hl, hc.drop off⟩, fun w' => run_fieldAt hf _ _ _⟩
    · simp only [Den] at hd
      obtain ⟨b, n, c, hb, rfl⟩ := hd
      exact ⟨_, _, h, by simp only [Den]; exact ⟨b, n, c, hb, rfl⟩, fun w' => by dsimp only; rw [run_fieldAt hf, Nat.add_assoc]⟩
    · exact h.elim

theorem intOf_den {A : Nat → Prop} {s : SV} {n : Int} {u : Value} (h : intOf? s = some n) (hd : Den w ρ A s u) : ∃ i, s = .v (.int i n) ∧ u = .int i n := by
  unfold intOf? at h
  split at h
  · cases h; simp only [Den] at hd; exact ⟨_, rfl, hd⟩
  · cases h

theorem vindexAddr_sound {x i : SV} {u v : Value} (hs : Sat w ρ Y O) (hd : Den w ρ (Av Y ρ O) x u) (hi : Den w ρ (Av Y ρ O) i v) (h : vindexAddr P O t x i k) : QP P w ρ (Av Y ρ O) k fun w' => (Instr.indexAt t u v).run P w' := by
  unfold vindexAddr at h
  split at h
  · exact h.elim
  · rename_i n hn
    obtain ⟨ik, rfl, rfl⟩ := intOf_den hn hi
    split at h
    · rename_i e sz ht
      obtain ⟨hu, inf, hinf, hsz⟩ := tk_sl ht
      have hel : P.elem t = e := by simp [Program.elem, hu]
      have hu' : P.underlying t = some (.slice (P.elem t)) := by rw [hel]; exact hu
      split at h
      · rename_i sz' rows
        obtain ⟨rfl, h0, r, hri, hk⟩ := h
        have h1 : n < (rows.length : Int) := by have := (List.getElem?_eq_some_iff.1 hri).1; omega
        simp only [Den, Pd] at hd
        obtain ⟨p, c, rfl, hl, hc, hr⟩ := hd
        obtain ⟨b, o, rfl, ha, hb, hrows⟩ := hr (by omega)
        obtain ⟨_, hcells⟩ := PdRows.get sz hrows hri
        refine ⟨_, .pointer (some ⟨b, o + n.toNat * sz, none⟩), hk, ?_, fun w' => ?_⟩
        · simp only [Den]; exact ⟨b, _, rfl, ha, hb, hcells⟩
        · dsimp only; rw [run_indexAt_slice _ _ _ _ _ _ _ hu', if_pos ⟨h0, h1⟩, hel, run_sizeOf hinf, hsz]
          simp [Result.andThen, add_none]
      · rename_i id
        split at h
        · rename_i e' sz' rows hf
          obtain ⟨rfl, ⟨h0, h1⟩, hk⟩ := h
          obtain ⟨v, hv, xs, hown, hdv⟩ := hs.objs _ (find_mem hf)
          simp only [Den] at hd
          have hvb : ρ[id]? = some v := hv
          rw [hd.1] at hvb
          injection hvb with hvb
          subst hvb
          obtain ⟨g, cap, hu2⟩ : ∃ g cap, u = .slice (some ⟨g, 0, none⟩) rows.length cap := by
            rcases hown.2 with ⟨_, h2⟩ | ⟨g, cap, cur, h2, _⟩
            · omega
            · exact ⟨g, cap, h2⟩
          subst hu2
          refine ⟨_, .pointer (some ⟨g, n.toNat * sz, none⟩), hk, ?_, fun w' => ?_⟩
          · simp only [Den]; exact ⟨g, _, cap, hd.1, by simp⟩
          · dsimp only; rw [run_indexAt_slice _ _ _ _ _ _ _ hu', if_pos ⟨h0, h1⟩, hel, run_sizeOf hinf, hsz]
            simp [Result.andThen, add_none]
        · exact h.elim
      · exact h.elim
    · rename_i m e sz ht
      obtain ⟨hu, ⟨inf, hinf, hsz⟩, _⟩ := tk_arr ht
      have hel : P.elem t = e := by simp [Program.elem, hu]
      have hal : P.arrayLen t = m := by simp [Program.arrayLen, hu]
      have hu' : P.underlying t = some (.array (P.arrayLen t) (P.elem t)) := by rw [hel, hal]; exact hu
      have hrun : ∀ (a : Addr) (w' : World), (0 ≤ n ∧ n < (m : Int)) → (Instr.indexAt t (.pointer (some a)) (.int ik n)).run P w' = .ok (.pointer (some (a.add (n.toNat * sz)))) w' := by
        intro a w' hb
        rw [run_indexAt_array _ _ _ _ _ hu', if_pos (by rw [hal]; exact hb), hel, run_sizeOf hinf, hsz]
        simp [Result.andThen]
      split at h
      · simp only [Den] at hd
        obtain ⟨b, hb, rfl⟩ := hd
        exact ⟨_, _, h.2, by simp only [Den]; exact ⟨b, hb, rfl⟩, fun w' => by dsimp only; rw [hrun _ _ h.1, add_none]⟩
      · simp only [Den] at hd
        obtain ⟨b, o, rfl, ha, hl, hc⟩ := hd
        exact ⟨_, _, h.2, by simp only [Den]; exact ⟨b, _, rfl, ha, hl, hc.drop _⟩, fun w' => by dsimp only; rw [hrun _ _ h.1, add_none]⟩
      · simp only [Den] at hd
        obtain ⟨b, n', c, hb, rfl⟩ := hd
        exact ⟨_, _, h.2, by simp only [Den]; exact ⟨b, n', c, hb, rfl⟩, fun w' => by dsimp only; rw [hrun _ _ h.1, add_none, Nat.add_assoc]⟩
      · exact h.elim
    · exact h.elim

theorem vpart_sound {A : Nat → Prop} {cells : List SV} {us : List Value} {off : Nat} (hd : DenAll w ρ A cells us) (h : vpart P t cells off k) : QP P w ρ A k fun w' => (part t us.toArray off).run P w' := by
  unfold vpart at h
  have hl := hd.length
  split at h
  · rename_i n ht
    obtain ⟨h1, hk⟩ := h
    obtain ⟨_, i, hi, hsz⟩ := tk_st ht
    refine ⟨_, .agg ((us.drop off).take n).toArray, hk, by simp only [Den]; exact ⟨_, rfl, (hd.drop off).take n⟩, fun w' => ?_⟩
    simp [part, Sem.run_bind, isAgg_st ht, run_sizeOf hi, hsz]
  · rename_i n e z ht
    obtain ⟨h0, h1, hk⟩ := h
    obtain ⟨_, _, i, hi⟩ := tk_arr ht
    have hsz : i.size = n * z := by simpa [szOf, hi] using h0.symm
    refine ⟨_, .agg ((us.drop off).take (n * z)).toArray, hk, by simp only [Den]; exact ⟨_, rfl, (hd.drop off).take _⟩, fun w' => ?_⟩
    simp [part, Sem.run_bind, isAgg_arr ht, run_sizeOf hi, hsz]
  · obtain ⟨h1, h⟩ := h
    split at h
    · rename_i s hs
      obtain ⟨u, hu, hdu⟩ := hd.get hs
      exact ⟨s, u, h, hdu, fun w' => by simp [part, Sem.run_bind, isAgg_one h1, hu]⟩
    · exact h.elim

theorem vindex_sound {x i : SV} {u v : Value} {A : Nat → Prop} (hd : Den w ρ A x u) (hi : Den w ρ A i v) (h : vindex P t x i k) : QP P w ρ A k fun w' => (Instr.index t u v).run P w' := by
  unfold vindex at h
  split at h
  · exact h.elim
  · rename_i n hn
    obtain ⟨ik, rfl, rfl⟩ := intOf_den hn hi
    split at h
    · rename_i ht
      split at h
      · rename_i s
        obtain ⟨⟨h0, h1⟩, hk⟩ := h
        simp only [Den] at hd
        subst hd
        refine ⟨_, .int .u8 ((s.data.toList.getD n.toNat 0).toNat : Int), hk, by simp only [Den], fun w' => ?_⟩
        have hlt : n.toNat < s.size := by omega
        have hlt' : n.toNat < s.data.toList.length := by simpa using hlt
        have e : s[n.toNat]? = some (s.data.toList.getD n.toNat 0) := by
          rw [List.getD_eq_getElem?_getD, List.getElem?_eq_getElem hlt', Option.getD_some]
          rw [show s[n.toNat]? = some (s[n.toNat]'hlt) from by simp [getElem?_pos, hlt]]
          rfl
        simp [Instr.index, asIntOf, Sem.run_bind, run_underlying (tk_str ht), h0, e]
      · exact h.elim
    · rename_i m e sz ht
      split at h
      · rename_i cells
        obtain ⟨⟨h0, h1⟩, hk⟩ := h
        simp only [Den] at hd
        obtain ⟨us, rfl, hda⟩ := hd
        obtain ⟨hu, ⟨inf, hinf, hsz⟩, _⟩ := tk_arr ht
        obtain ⟨r, z, hr, hdr, hrun⟩ := vpart_sound hda hk
        refine ⟨r, z, hr, hdr, fun w' => ?_⟩
        have := hrun w'
        simp [Instr.index, asIntOf, Sem.run_bind, run_underlying hu, h0, h1, run_sizeOf hinf, hsz, this]
      · exact h.elim
    · exact h.elim

theorem zsv_spec {A : Nat → Prop} {z : SV} (h : zsv P t = some z) : ∃ v, Den w ρ A z v ∧ ∀ w', (zeroValue t).run P w' = .ok v w' := by
  unfold zsv at h
  have hall : ∀ l : List Value, DenAll w ρ A (l.map SV.v) l := by
    intro l
    induction l with
    | nil => simp [DenAll]
    | cons a l ih => simp only [List.map_cons, DenAll]; exact ⟨a, l, rfl, by simp [Den], ih⟩
  split at h
  · rename_i cs hz
    obtain ⟨i, hi, hz⟩ := Option.bind_eq_some_iff.1 hz
    cases h
    exact ⟨.agg cs, by simp only [Den]; exact ⟨cs.toList, by simp, hall _⟩, fun w' => by simp [zeroValue, typeInfo, Sem.run_bind, hi, hz]⟩
  · rename_i v _ hz
    obtain ⟨i, hi, hz⟩ := Option.bind_eq_some_iff.1 hz
    cases h
    exact ⟨v, by simp [Den], fun w' => by simp [zeroValue, typeInfo, Sem.run_bind, hi, hz]⟩
  · cases h

theorem run_typeAssert {at_ : TypeId} (ht : (match tk P at_ with | .ifc | .other => false | _ => true) = true) : ∃ d, P.underlying at_ = some d ∧ ∀ ms, d ≠ .interface ms := by
  cases hk : tk P at_ <;> rw [hk] at ht <;> simp only [Bool.false_eq_true] at ht
  · exact ⟨_, (tk_sl hk).1, by simp⟩
  · exact ⟨_, tk_str hk, by simp⟩
  · exact ⟨_, tk_mp hk, by simp⟩
  · exact ⟨_, (tk_arr hk).1, by simp⟩
  · exact ⟨_, tk_int hk, by simp⟩
  · exact ⟨_, tk_bool hk, by simp⟩
  · obtain ⟨⟨fs, hf⟩, _⟩ := tk_st hk; exact ⟨_, hf, by simp⟩
  · exact ⟨_, tk_ptr hk, by simp⟩
  · obtain ⟨_, _, _, hf⟩ := tk_fn hk; exact ⟨_, hf, by simp⟩

theorem vassert_sound {x : SV} {u : Value} {A : Nat → Prop} {xt at_ : TypeId} {ok : Bool} (hd : Den w ρ A x u) (h : vassert P x at_ ok k) : QP P w ρ A k fun w' => (Instr.typeAssert u xt at_ ok).run P w' := by
  unfold vassert at h
  obtain ⟨ht, h⟩ := h
  obtain ⟨d, hu, hni⟩ := run_typeAssert ht
  have hd1 : ∀ (tt : TypeId) (y : Value) (w' : World), tt = at_ → (Instr.typeAssert (.iface tt y) xt at_ ok).run P w' = .ok (if ok then .tuple #[y, .bool true] else y) w' := by
    intro tt y w' e
    subst e
    simp only [Instr.typeAssert, Sem.run_bind, run_underlying hu, Result.andThen_ok]
    cases d <;> first | exact absurd rfl (hni _) | (cases ok <;> simp)
  have hd2 : ∀ (y : Value) (z : Value) (w' : World), (∀ tt q, y = .iface tt q → tt ≠ at_) → (y = .nilIface ∨ ∃ tt q, y = .iface tt q) → ok = true → (∀ w', (zeroValue at_).run P w' = .ok z w') → (Instr.typeAssert y xt at_ ok).run P w' = .ok (.tuple #[z, .bool false]) w' := by
    intro y z w' hne hy hok hz
    subst hok
    simp only [Instr.typeAssert, Sem.run_bind, run_underlying hu, Result.andThen_ok]
    rcases hy with rfl | ⟨tt, q, rfl⟩
    · cases d <;> first | exact absurd rfl (hni _) | simp [hz]
    · have := hne tt q rfl
      cases d <;> first | exact absurd rfl (hni _) | simp [hz, this]
  split at h
  · rename_i tt s
    simp only [Den] at hd
    obtain ⟨y, rfl, hy⟩ := hd
    split at h
    · rename_i e
      cases ok with
      | true => exact ⟨_, .tuple #[y, .bool true], h, by simp only [Den, if_true]; exact ⟨[y, .bool true], rfl, by simp only [DenAll]; exact ⟨y, _, rfl, hy, _, _, rfl, by simp [Den], rfl⟩⟩, fun w' => hd1 _ _ _ e⟩
      | false => exact ⟨s, y, h, hy, fun w' => hd1 _ _ _ e⟩
    · rename_i e
      obtain ⟨hok, h⟩ := h
      split at h
      · rename_i z hz
        obtain ⟨v, hv, hrun⟩ := zsv_spec (w := w) (ρ := ρ) (A := A) hz
        exact ⟨_, .tuple #[v, .bool false], h, by simp only [Den]; exact ⟨[v, .bool false], rfl, by simp only [DenAll]; exact ⟨v, _, rfl, hv, _, _, rfl, by simp [Den], rfl⟩⟩, fun w' => hd2 _ _ _ (fun a b hab => by injection hab with hab; exact hab ▸ e) (.inr ⟨_, _, rfl⟩) hok hrun⟩
      · exact h.elim
  · simp only [Den] at hd
    subst hd
    obtain ⟨hok, h⟩ := h
    split at h
    · rename_i z hz
      obtain ⟨v, hv, hrun⟩ := zsv_spec (w := w) (ρ := ρ) (A := A) hz
      exact ⟨_, .tuple #[v, .bool false], h, by simp only [Den]; exact ⟨[v, .bool false], rfl, by simp only [DenAll]; exact ⟨v, _, rfl, hv, _, _, rfl, by simp [Den], rfl⟩⟩, fun w' => hd2 _ _ _ (fun a b hab => by cases hab) (.inl rfl) hok hrun⟩
    · exact h.elim
  · exact h.elim

end
end Go.Eng
