/- A part of the engine that walks a function of the given program: sound rules, no statement of its own. -/
import Derived.Test.YtdcbbmnihcfdlaaEng14
set_option linter.unusedVariables false
set_option linter.unusedSimpArgs false
set_option linter.unnecessarySimpa false
set_option linter.constructorNameAsVariable false
set_option linter.all false
set_option linter.unusedVariables false
set_option linter.unusedSimpArgs false
namespace Go.Eng

mutual
/-- It leads to nothing of one's own. -/
def pure1 : SV → Bool
  | .v _ => true
  | .rd _ _ => true
  | .agg l => pureL l
  | .tup l => pureL l
  | .fn _ l => pureL l
  | .ifc _ x => pure1 x
  | .any => true
  | .own _ => false
  | .ptr _ _ => false
  | .rptr _ _ _ _ => false
  | .eptr _ => false
  | .sub _ _ _ _ _ => false
def pureL : List SV → Bool
  | [] => true
  | s :: ss => pure1 s && pureL ss
end
def pureRows : List (List SV) → Bool
  | [] => true
  | r :: rs => pureL r && pureRows rs

mutual
theorem pd_of_pure {w : World} {ρ : List Value} {A : Nat → Prop} : ∀ (s : SV) (u : Value), pure1 s = true → Den w ρ A s u → Pd w A s u
  | .v x, u, _, h => by simpa only [Den, Pd] using h
  | .rd sz r, u, _, h => by simpa only [Den] using h
  | .agg l, u, hp, h => by
    simp only [Den, Pd, pure1] at *
    obtain ⟨us, hu, hd⟩ := h
    exact ⟨us, hu, pdAll_of_pure l us hp hd⟩
  | .tup l, u, hp, h => by
    simp only [Den, Pd, pure1] at *
    obtain ⟨us, hu, hd⟩ := h
    exact ⟨us, hu, pdAll_of_pure l us hp hd⟩
  | .fn f l, u, hp, h => by
    simp only [Den, Pd, pure1] at *
    obtain ⟨us, hu, hd⟩ := h
    exact ⟨us, hu, pdAll_of_pure l us hp hd⟩
  | .ifc t x, u, hp, h => by
    simp only [Den, Pd, pure1] at *
    obtain ⟨y, hu, hd⟩ := h
    exact ⟨y, hu, pd_of_pure x y hp hd⟩
  | .any, u, _, _ => by simp only [Pd]
  | .own _, u, hp, _ => by simp [pure1] at hp
  | .ptr _ _, u, hp, _ => by simp [pure1] at hp
  | .rptr _ _ _ _, u, hp, _ => by simp [pure1] at hp
  | .eptr _, u, hp, _ => by simp [pure1] at hp
  | .sub _ _ _ _ _, u, hp, _ => by simp [pure1] at hp
theorem pdAll_of_pure {w : World} {ρ : List Value} {A : Nat → Prop} : ∀ (l : List SV) (us : List Value), pureL l = true → DenAll w ρ A l us → PdAll w A l us
  | [], us, _, h => by simpa only [DenAll, PdAll] using h
  | s :: ss, us, hp, h => by
    simp only [DenAll, PdAll, pureL, Bool.and_eq_true] at *
    obtain ⟨u, us', h1, h2, h3⟩ := h
    exact ⟨u, us', h1, pd_of_pure s u hp.1 h2, pdAll_of_pure ss us' hp.2 h3⟩
end
theorem pdVals_of_pure {w : World} {ρ : List Value} {A : Nat → Prop} (sz : Nat) : ∀ {rows : List (List SV)} {us : List Value}, pureRows rows = true → DenVals w ρ A sz rows us → PdVals w A sz rows us
  | [], us, _, h => h
  | r :: rs, us, hp, h => by
    simp only [pureRows, Bool.and_eq_true] at hp
    obtain ⟨u1, u2, h1, h2, h3, h4⟩ := h
    exact ⟨u1, u2, h1, h2, pdAll_of_pure r u1 hp.1 h3, pdVals_of_pure sz hp.2 h4⟩

/-- Where an id comes from; none: a nil slice. -/
abbrev Ren := List (Option Nat)

mutual
/-- The second says no more than the first, ids being renamed, some rows being read from now on alone ('fz'). -/
def sub (O : Heap) (σ : Ren) (fz : Nat → Bool) : SV → SV → Prop
  | s, .any => True
  | s, .v y => match s with
    | .v x => x = y
    | _ => False
  | s, .rd sz' r' => match s with
    | .rd sz r => sz = sz' ∧ r = r'
    | .v (.slice none 0 0) => r' = []
    | .own i => fz i = true ∧ match find O i with
      | some (.row _ sz r) => sz = sz' ∧ pureRows r' = true ∧ subRows O σ fz r r'
      | some (.emp _ _) => r' = []
      | _ => False
    | _ => False
  | s, .agg l' => match s with
    | .agg l => subL O σ fz l l'
    | _ => False
  | s, .tup l' => match s with
    | .tup l => subL O σ fz l l'
    | _ => False
  | s, .own i' => match s with
    | .own i => σ[i']? = some (some i)
    | .v (.slice none 0 0) => σ[i']? = some none
    | _ => False
  | s, .ptr i' o' => match s with
    | .ptr i o => o = o' ∧ σ[i']? = some (some i)
    | _ => False
  | s, .rptr i' sz' a' b' => match s with
    | .rptr i sz a b => (sz = sz' ∧ a = a' ∧ b = b') ∧ σ[i']? = some (some i)
    | _ => False
  | s, .eptr l' => match s with
    | .eptr l => l = l'
    | _ => False
  | s, .sub i' sz' a' b' f' => match s with
    | .sub i sz a b f => (sz = sz' ∧ a = a' ∧ b = b' ∧ f = f') ∧ σ[i']? = some (some i)
    | _ => False
  | s, .fn f' l' => match s with
    | .fn f l => f = f' ∧ subL O σ fz l l'
    | _ => False
  | s, .ifc t' x' => match s with
    | .ifc t x => t = t' ∧ sub O σ fz x x'
    | _ => False
def subL (O : Heap) (σ : Ren) (fz : Nat → Bool) : List SV → List SV → Prop
  | l, [] => l = []
  | l, s' :: ss' => match l with
    | s :: ss => sub O σ fz s s' ∧ subL O σ fz ss ss'
    | [] => False
def subRows (O : Heap) (σ : Ren) (fz : Nat → Bool) : List (List SV) → List (List SV) → Prop
  | l, [] => l = []
  | l, r' :: rs' => match l with
    | r :: rs => subL O σ fz r r' ∧ subRows O σ fz rs rs'
    | [] => False
end

/-- What the renaming gives. -/
def ren (ρ : List Value) (σ : Ren) : List Value := σ.map fun
  | some i => ρ.getD i undef
  | none => .slice none 0 0

theorem ren_get {ρ : List Value} {σ : Ren} {i' i : Nat} {v : Value} (h : σ[i']? = some (some i)) (hv : ρ[i]? = some v) : (ren ρ σ)[i']? = some v := by
  simp [ren, List.getElem?_map, h, List.getD_eq_getElem?_getD, hv]
theorem ren_nil {ρ : List Value} {σ : Ren} {i' : Nat} (h : σ[i']? = some none) : (ren ρ σ)[i']? = some (.slice none 0 0) := by
  simp [ren, List.getElem?_map, h]

section
variable {w : World} {ρ : List Value} {Y : Nat → Prop} {O : Heap} {σ : Ren} {fz : Nat → Bool} {A' : Nat → Prop}

mutual
theorem sub_den (hs : Sat w ρ Y O) (hA : ∀ b, A' b → Av Y ρ O b) (hz : ∀ i obj v b, find O i = some obj → fz i = true → ρ[i]? = some v → blkOf v = some b → ¬ A' b) : ∀ (s s' : SV) (u : Value), sub O σ fz s s' → Den w ρ (Av Y ρ O) s u → Den w (ren ρ σ) A' s' u
  | s, .any, u, _, _ => by simp only [Den]
  | s, .v y, u, h, hd => by
    unfold sub at h
    split at h
    · simp only [Den] at hd ⊢; rw [hd, h]
    · exact h.elim
  | s, .rd sz' r', u, h, hd => by
    unfold sub at h
    split at h
    · obtain ⟨rfl, rfl⟩ := h
      simp only [Den] at hd ⊢
      exact Pd.tr (Tr.less (ρ := ρ) hA) _ _ hd
    · simp only [Den] at hd
      subst hd h
      simp only [Den, Pd]
      exact ⟨none, 0, rfl, Nat.le_refl _, Nat.zero_le _, fun h0 => by simp at h0⟩
    · rename_i i
      obtain ⟨hfz, h⟩ := h
      split at h
      · rename_i e sz r hf
        obtain ⟨rfl, hp, hr⟩ := h
        obtain ⟨v, hv, xs, hown, hdv⟩ := hs.objs _ (find_mem hf)
        simp only [Den] at hd
        have hvb : ρ[i]? = some v := hv
        rw [hd.1] at hvb
        injection hvb with hvb
        subst hvb
        have hdv' := pdVals_of_pure sz hp (subRows_den hs hA hz sz r r' xs hr hdv)
        have hlen : r.length = r'.length := by
          have e1 := DenVals.length sz hdv
          clear hdv' hdv hown hv hf hd
          have : ∀ (a b : List (List SV)), subRows O σ fz a b → a.length = b.length := by
            intro a b
            induction b generalizing a with
            | nil => intro h; unfold subRows at h; rw [h]
            | cons x b ih =>
              intro h
              unfold subRows at h
              split at h
              · simp [ih _ h.2]
              · exact h.elim
          exact this _ _ hr
        simp only [Den, Pd]
        rcases hown.2 with ⟨rfl, h0⟩ | ⟨g, cap, cur, rfl, _, hh, hcap, hmax, hcs, htake⟩
        · exact ⟨none, 0, by rw [← hlen, h0], by omega, Nat.zero_le _, fun h1 => by omega⟩
        · refine ⟨_, cap, by rw [← hlen], by omega, hmax, fun h1 => ⟨g, 0, rfl, hz i _ _ g hf hfz hd.1 rfl, (Array.getElem?_eq_some_iff.1 hh).1, ?_⟩⟩
          have hcells : ∀ j u, xs[j]? = some u → w.cell? ⟨g, 0 + j, none⟩ = some u := fun j u hj => by
            have := World.ownsRow.cells (show w.ownsRow 0 e sz _ r.length xs from hown) (g := g) rfl j u hj
            rwa [add_none] at this
          exact PdRows.of_vals sz hdv' hcells
      · rename_i hf
        subst h
        obtain ⟨v, hv, b, hv0, hb0⟩ := hs.objs _ (find_mem hf)
        simp only [Den] at hd
        have hvb : ρ[i]? = some v := hv
        rw [hd.1] at hvb
        injection hvb with hvb
        subst hvb
        simp only [Den, Pd]
        exact ⟨_, 0, hv0, Nat.le_refl _, Nat.zero_le _, fun h0 => by simp at h0⟩
      · exact h.elim
    · exact h.elim
  | s, .agg l', u, h, hd => by
    unfold sub at h
    split at h
    · simp only [Den] at hd ⊢
      obtain ⟨us, hu, hd⟩ := hd
      exact ⟨us, hu, subL_den hs hA hz _ l' us h hd⟩
    · exact h.elim
  | s, .tup l', u, h, hd => by
    unfold sub at h
    split at h
    · simp only [Den] at hd ⊢
      obtain ⟨us, hu, hd⟩ := hd
      exact ⟨us, hu, subL_den hs hA hz _ l' us h hd⟩
    · exact h.elim
  | s, .own i', u, h, hd => by
    unfold sub at h
    split at h
    · simp only [Den] at hd ⊢
      exact ⟨ren_get h hd.1, hd.2⟩
    · simp only [Den] at hd ⊢
      subst hd
      exact ⟨ren_nil h, rfl⟩
    · exact h.elim
  | s, .ptr i' o', u, h, hd => by
    unfold sub at h
    split at h
    · simp only [Den] at hd ⊢
      obtain ⟨rfl, h⟩ := h
      obtain ⟨b, h1, h2⟩ := hd
      exact ⟨b, ren_get h h1, h2⟩
    · exact h.elim
  | s, .rptr i' sz' a' b', u, h, hd => by
    unfold sub at h
    split at h
    · simp only [Den] at hd ⊢
      obtain ⟨⟨rfl, rfl, rfl⟩, h⟩ := h
      obtain ⟨b, n, cc, h1, h2⟩ := hd
      exact ⟨b, n, cc, ren_get h h1, h2⟩
    · exact h.elim
  | s, .eptr l', u, h, hd => by
    unfold sub at h
    split at h
    · simp only [Den] at hd ⊢
      subst h
      obtain ⟨b, o, h1, h2, h3, h4⟩ := hd
      exact ⟨b, o, h1, fun h => h2 (hA b h), h3, PdCells.tr (Tr.less (ρ := ρ) hA) _ b o h2 h4⟩
    · exact h.elim
  | s, .sub i' sz' a' b' f', u, h, hd => by
    unfold sub at h
    split at h
    · simp only [Den] at hd ⊢
      obtain ⟨⟨rfl, rfl, rfl, rfl⟩, h⟩ := h
      obtain ⟨p, n, cc, h1, h2⟩ := hd
      exact ⟨p, n, cc, ren_get h h1, h2⟩
    · exact h.elim
  | s, .fn f' l', u, h, hd => by
    unfold sub at h
    split at h
    · simp only [Den] at hd ⊢
      obtain ⟨rfl, h⟩ := h
      obtain ⟨us, hu, hd⟩ := hd
      exact ⟨us, hu, subL_den hs hA hz _ l' us h hd⟩
    · exact h.elim
  | s, .ifc t' x', u, h, hd => by
    unfold sub at h
    split at h
    · simp only [Den] at hd ⊢
      obtain ⟨rfl, h⟩ := h
      obtain ⟨y, hu, hd⟩ := hd
      exact ⟨y, hu, sub_den hs hA hz _ x' y h hd⟩
    · exact h.elim
theorem subL_den (hs : Sat w ρ Y O) (hA : ∀ b, A' b → Av Y ρ O b) (hz : ∀ i obj v b, find O i = some obj → fz i = true → ρ[i]? = some v → blkOf v = some b → ¬ A' b) : ∀ (l l' : List SV) (us : List Value), subL O σ fz l l' → DenAll w ρ (Av Y ρ O) l us → DenAll w (ren ρ σ) A' l' us
  | l, [], us, h, hd => by
    unfold subL at h
    subst h
    simpa only [DenAll] using hd
  | l, s' :: ss', us, h, hd => by
    unfold subL at h
    split at h
    · simp only [DenAll] at hd ⊢
      obtain ⟨u, us', h1, h2, h3⟩ := hd
      exact ⟨u, us', h1, sub_den hs hA hz _ s' u h.1 h2, subL_den hs hA hz _ ss' us' h.2 h3⟩
    · exact h.elim
theorem subRows_den (hs : Sat w ρ Y O) (hA : ∀ b, A' b → Av Y ρ O b) (hz : ∀ i obj v b, find O i = some obj → fz i = true → ρ[i]? = some v → blkOf v = some b → ¬ A' b) (sz : Nat) : ∀ (l l' : List (List SV)) (us : List Value), subRows O σ fz l l' → DenVals w ρ (Av Y ρ O) sz l us → DenVals w (ren ρ σ) A' sz l' us
  | l, [], us, h, hd => by
    unfold subRows at h
    subst h
    exact hd
  | l, r' :: rs', us, h, hd => by
    unfold subRows at h
    split at h
    · rename_i r rs
      obtain ⟨u1, u2, h1, h2, h3, h4⟩ := hd
      have hda := subL_den hs hA hz _ r' u1 h.1 h3
      exact ⟨u1, u2, h1, by rw [← hda.length, h3.length]; exact h2, hda, subRows_den hs hA hz sz _ rs' u2 h.2 h4⟩
    · exact h.elim
end

/-- Entries of maps. -/
def subE (O : Heap) (σ : Ren) (fz : Nat → Bool) : List (Value × SV) → List (Value × SV) → Prop
  | [], es' => es' = []
  | (k, s) :: es, es' => match es' with
    | (k', s') :: es' => k = k' ∧ sub O σ fz s s' ∧ subE O σ fz es es'
    | [] => False
def osub (O : Heap) (σ : Ren) (fz : Nat → Bool) : OObj → OObj → Prop
  | .box t l, o' => match o' with
    | .box t' l' => t = t' ∧ subL O σ fz l l'
    | _ => False
  | .row e sz r, o' => match o' with
    | .row e' sz' r' => (e = e' ∧ sz = sz') ∧ subRows O σ fz r r'
    | _ => False
  | .mp es, o' => match o' with
    | .mp es' => ∃ es1, es.Perm es1 ∧ subE O σ fz es1 es'
    | _ => False
  | .mpe .., _ => False
  | .emp e sz, o' => match o' with
    | .emp e' sz' => e = e' ∧ sz = sz'
    | .row e' sz' r' => (e = e' ∧ sz = sz') ∧ r' = []
    | _ => False
  | .it o, o' => match o' with
    | .it o2 => o = o2
    | _ => False
def fzOf (σ : Ren) (i : Nat) : Bool := !(σ.contains (some i))
def objsOK (O : Heap) (σ : Ren) : Heap → Prop
  | [] => True
  | (i', o') :: r => (match σ[i']? with
    | some (some i) => match find O i with
      | some o => osub O σ (fzOf σ) o o'
      | none => False
    | some none => match o' with
      | .row _ _ [] => True
      | _ => False
    | none => False) ∧ objsOK O σ r
def tabOK (O : Heap) (σ : Ren) (T : Tab) : Tab → Prop
  | [] => True
  | (d, s') :: r => (match look T d with
    | some s => sub O σ (fzOf σ) s s'
    | none => False) ∧ tabOK O σ T r
def distOK (σ : Ren) (O' : Heap) : Bool := (O'.map (·.1)).Nodup && ((O'.map fun x => σ[x.1]?).filter fun x => match x with | some (some _) => true | _ => false).Nodup
/-- A state says no more than another one. -/
def Wk (nx : Nat) (T : Tab) (O : Heap) (σ : Ren) (nx' : Nat) (T' : Tab) (O' : Heap) : Prop :=
  σ.length = nx' ∧ distOK σ O' = true ∧ objsOK O σ O' ∧ tabOK O σ T T'

theorem subE_den (hs : Sat w ρ Y O) (hA : ∀ b, A' b → Av Y ρ O b) (hz : ∀ i obj v b, find O i = some obj → fz i = true → ρ[i]? = some v → blkOf v = some b → ¬ A' b) : ∀ (l l' : List (Value × SV)) (us : List MapEntry), subE O σ fz l l' → DenEnts w ρ (Av Y ρ O) l us → DenEnts w (ren ρ σ) A' l' us
  | [], l', us, h, hd => by
    unfold subE at h
    subst h
    exact hd
  | (k, s) :: l, l', us, h, hd => by
    unfold subE at h
    split at h
    · obtain ⟨e, es', h1, h2, h3, h4⟩ := hd
      obtain ⟨h5, h6, h7⟩ := h
      exact ⟨e, es', h1, h2.trans h5, sub_den hs hA hz _ _ _ h6 h3, subE_den hs hA hz l _ es' h7 h4⟩
    · exact h.elim
theorem subE_keys : ∀ (l l' : List (Value × SV)), subE O σ fz l l' → l'.map (·.1) = l.map (·.1)
  | [], l', h => by unfold subE at h; subst h; rfl
  | (k, s) :: l, l', h => by
    unfold subE at h
    split at h
    · obtain ⟨h5, h6, h7⟩ := h
      simp [subE_keys l _ h7, h5]
    · exact h.elim
theorem subRows_len : ∀ (l l' : List (List SV)), subRows O σ fz l l' → l'.length = l.length
  | l, [], h => by unfold subRows at h; subst h; rfl
  | l, r' :: rs', h => by
    unfold subRows at h
    split at h
    · simp [subRows_len _ rs' h.2]
    · exact h.elim

theorem osub_sat (hs : Sat w ρ Y O) (hA : ∀ b, A' b → Av Y ρ O b) (hz : ∀ i obj v b, find O i = some obj → fz i = true → ρ[i]? = some v → blkOf v = some b → ¬ A' b) {o o' : OObj} {v : Value} (h : osub O σ fz o o') (hd : SatObj w ρ (Av Y ρ O) o v) : SatObj w (ren ρ σ) A' o' v := by
  cases o <;> cases o' <;> simp only [osub] at h
  · obtain ⟨rfl, h⟩ := h
    obtain ⟨b, us, h1, h2, h3⟩ := hd
    exact ⟨b, us, h1, h2, subL_den hs hA hz _ _ us h h3⟩
  · obtain ⟨⟨rfl, rfl⟩, h⟩ := h
    obtain ⟨xs, h1, h2⟩ := hd
    exact ⟨xs, by rw [subRows_len _ _ h]; exact h1, subRows_den hs hA hz _ _ _ xs h h2⟩
  · obtain ⟨b, ents, clock, l, h1, h2, hp, h3, h4, h5, h6⟩ := hd
    obtain ⟨es1, hp1, h⟩ := h
    obtain ⟨l1, hp2, h7⟩ := h3.perm hp1
    exact ⟨b, ents, clock, l1, h1, h2, hp2.symm.trans hp, subE_den hs hA hz _ _ _ h h7, h4, h5, by rw [subE_keys _ _ h]; exact (hp1.map _).nodup_iff.1 h6⟩
  · obtain ⟨⟨rfl, rfl⟩, rfl⟩ := h
    obtain ⟨b, h1, h2⟩ := hd
    exact ⟨[], ⟨by simp, .inr ⟨b, 0, #[], h1, Nat.zero_le _, h2, Nat.le_refl _, Nat.zero_le _, by simp, by simp⟩⟩, rfl⟩
  · obtain ⟨rfl, rfl⟩ := h
    exact hd
  · subst h; exact hd

theorem objsOK_mem {σ : Ren} : ∀ {O' : Heap} {x : Nat × OObj}, objsOK O σ O' → x ∈ O' → (∃ i o, σ[x.1]? = some (some i) ∧ find O i = some o ∧ osub O σ (fzOf σ) o x.2) ∨ (σ[x.1]? = some none ∧ ∃ e sz, x.2 = .row e sz [])
  | (i', o') :: r, x, h, hx => by
    unfold objsOK at h
    rcases List.mem_cons.1 hx with rfl | hx
    · have h1 := h.1
      split at h1
      · rename_i i hi
        split at h1
        · rename_i o ho
          exact .inl ⟨i, o, hi, ho, h1⟩
        · exact h1.elim
      · rename_i hi
        split at h1
        · exact .inr ⟨hi, _, _, rfl⟩
        · exact h1.elim
      · exact h1.elim
    · exact objsOK_mem h.2 hx
theorem tabOK_look {σ : Ren} {T : Tab} : ∀ {T' : Tab} {d : Nat} {s' : SV}, tabOK O σ T T' → look T' d = some s' → ∃ s, look T d = some s ∧ sub O σ (fzOf σ) s s'
  | (d', s2) :: r, d, s', h, hl => by
    unfold tabOK at h
    unfold look at hl
    split at hl
    · rename_i e
      subst e
      cases hl
      have h1 := h.1
      split at h1
      · rename_i s hs
        exact ⟨s, hs, h1⟩
      · exact h1.elim
    · exact tabOK_look h.2 hl

theorem St.wk {c : Cx} {nx nx' : Nat} {T T' : Tab} {O' : Heap} {vals : Array Value} {σ : Ren} (hst : St c w ρ nx T O vals) (h : Wk nx T O σ nx' T' O') (h0 : ∀ i, i < c.r0.length → σ[i]? = some (some i)) : St c w (ren ρ σ) nx' T' O' vals := by
  obtain ⟨hlen, hdist, hobjs, htab⟩ := h
  have hown : ∀ b, OwnB (ren ρ σ) O' b → ∃ x ∈ O', ∃ i o v, σ[x.1]? = some (some i) ∧ find O i = some o ∧ ρ[i]? = some v ∧ blkOf v = some b := by
    rintro b ⟨i', o', v', hm, hv', hb⟩
    rcases objsOK_mem hobjs hm with ⟨i, o, hi, ho, _⟩ | ⟨hi, _⟩
    · obtain ⟨v, hv, _⟩ := hst.sat.objs _ (find_mem ho)
      have := ren_get hi hv
      simp only at hi
      rw [hv'] at this
      injection this with this
      subst this
      exact ⟨_, hm, i, o, _, hi, ho, hv, hb⟩
    · have := ren_nil (ρ := ρ) hi
      simp only at this
      rw [hv'] at this
      injection this with this
      subst this
      simp [blkOf] at hb
  have hownO : ∀ b, OwnB (ren ρ σ) O' b → OwnB ρ O b := by
    intro b hb
    obtain ⟨x, hx, i, o, v, hi, ho, hv, hvb⟩ := hown b hb
    exact ⟨i, o, v, find_mem ho, hv, hvb⟩
  have hA : ∀ b, Av c.Y (ren ρ σ) O' b → Av c.Y ρ O b := fun b hb => hb.imp id (hownO b)
  -- two objects of one block are one
  have huniq : ∀ {i j o p v u b}, find O i = some o → find O j = some p → ρ[i]? = some v → ρ[j]? = some u → blkOf v = some b → blkOf u = some b → i = j := by
    intro i j o p v u b ho hp hv hu hvb hub
    have key : ∀ {l : Heap}, l.Pairwise (Apart ρ) → (i, o) ∈ l → (j, p) ∈ l → i = j := by
      intro l
      induction l with
      | nil => intro _ h1; cases h1
      | cons a l ih =>
        intro hpw h1 h2
        have hpw' := List.pairwise_cons.1 hpw
        rcases List.mem_cons.1 h1 with e1 | h1
        · rcases List.mem_cons.1 h2 with e2 | h2
          · rw [← e1] at e2; injection e2 with e2 _; exact e2.symm
          · exact absurd hub ((hpw'.1 _ h2).2 v u b (by rw [← e1]; exact hv) hu hvb)
        · rcases List.mem_cons.1 h2 with e2 | h2
          · exact absurd hvb ((hpw'.1 _ h1).2 u v b (by rw [← e2]; exact hu) hv hub)
          · exact ih hpw'.2 h1 h2
    exact key hst.sat.apart (find_mem ho) (find_mem hp)
  have hz : ∀ i obj v b, find O i = some obj → fzOf σ i = true → ρ[i]? = some v → blkOf v = some b → ¬ Av c.Y (ren ρ σ) O' b := by
    intro i obj v b ho hf hv hvb ha
    rcases ha with ha | ha
    · exact hst.sat.out b ha ⟨i, obj, v, find_mem ho, hv, hvb⟩
    · obtain ⟨x, hx, j, p, u, hj, hp, hu, hub⟩ := hown b ha
      have := huniq ho hp hv hu hvb hub
      subst this
      unfold fzOf at hf
      have hc : σ.contains (some i) = true := by
        rw [List.contains_iff_mem]
        exact List.mem_of_getElem? hj
      rw [hc] at hf
      cases hf
  refine ⟨⟨fun x hx => ?_, ?_, fun b hb => hst.sat.lt b (hA b hb), fun b hy ho => hst.sat.out b hy (hownO b ho)⟩, by simp [ren, hlen], hst.size, fun d s' hl => ?_, hst.frm, fun b hb hlt => hst.own b (hownO b hb) hlt, fun i v hi => ren_get (h0 i (List.getElem?_eq_some_iff.1 hi).1) (hst.pre i v hi)⟩
  · rcases objsOK_mem hobjs hx with ⟨i, o, hi, ho, hsub⟩ | ⟨hi, e, sz, hx2⟩
    · obtain ⟨v, hv, hs⟩ := hst.sat.objs _ (find_mem ho)
      exact ⟨v, ren_get hi hv, osub_sat hst.sat hA hz hsub hs⟩
    · refine ⟨_, ren_nil hi, ?_⟩
      rw [hx2]
      exact ⟨[], ⟨by simp, .inl ⟨rfl, rfl⟩⟩, rfl⟩
  · unfold distOK at hdist
    simp only [Bool.and_eq_true, decide_eq_true_eq] at hdist
    obtain ⟨hd1, hd2⟩ := hdist
    have hpw : O'.Pairwise fun x y => x.1 ≠ y.1 ∧ ∀ i, σ[x.1]? = some (some i) → σ[y.1]? ≠ some (some i) := by
      clear hobjs hown hownO hA hz htab
      induction O' with
      | nil => exact .nil
      | cons a O' ih =>
        simp only [List.map_cons, List.nodup_cons] at hd1
        have hd2' : ((O'.map fun x => σ[x.1]?).filter fun x => match x with | some (some _) => true | _ => false).Nodup := by
          refine hd2.sublist ?_
          simp only [List.map_cons]
          exact List.Sublist.filter _ (List.sublist_cons_self _ _)
        refine List.pairwise_cons.2 ⟨fun y hy => ⟨fun e => hd1.1 (e ▸ List.mem_map.2 ⟨y, hy, rfl⟩), fun i hi hyi => ?_⟩, ih hd1.2 hd2'⟩
        simp only [List.map_cons, hi, List.filter_cons_of_pos, List.nodup_cons] at hd2
        exact hd2.1 (List.mem_filter.2 ⟨List.mem_map.2 ⟨y, hy, hyi⟩, rfl⟩)
    refine hpw.imp_of_mem fun {x y} hx hy hxy => ⟨hxy.1, fun v u b hv hu hvb hub => ?_⟩
    rcases objsOK_mem hobjs hx with ⟨i, o, hi, ho, _⟩ | ⟨hi, _⟩
    · rcases objsOK_mem hobjs hy with ⟨j, p, hj, hp, _⟩ | ⟨hj, _⟩
      · obtain ⟨v', hv', _⟩ := hst.sat.objs _ (find_mem ho)
        obtain ⟨u', hu', _⟩ := hst.sat.objs _ (find_mem hp)
        have e1 := ren_get hi hv'
        have e2 := ren_get hj hu'
        rw [hv] at e1
        rw [hu] at e2
        injection e1 with e1
        injection e2 with e2
        subst e1 e2
        have := huniq ho hp hv' hu' hvb hub
        subst this
        exact hxy.2 i hi hj
      · have := ren_nil (ρ := ρ) hj
        rw [hu] at this
        injection this with this
        subst this
        simp [blkOf] at hub
    · have := ren_nil (ρ := ρ) hi
      rw [hv] at this
      injection this with this
      subst this
      simp [blkOf] at hvb
  · obtain ⟨s, hs, hsub⟩ := tabOK_look htab hl
    obtain ⟨u, hu, hdu⟩ := hst.tmps d s hs
    exact ⟨u, hu, sub_den hst.sat hA hz s s' u hsub hdu⟩

end
end Go.Eng
