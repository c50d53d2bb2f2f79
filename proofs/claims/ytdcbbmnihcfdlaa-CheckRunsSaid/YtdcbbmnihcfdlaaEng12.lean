/- A part of the engine that walks a function of the given program: sound rules, no statement of its own. -/
import Derived.Test.YtdcbbmnihcfdlaaEng11
set_option linter.unusedVariables false
set_option linter.unusedSimpArgs false
set_option linter.unnecessarySimpa false
set_option linter.constructorNameAsVariable false
set_option linter.all false
set_option linter.unusedVariables false
set_option linter.unusedSimpArgs false
namespace Go.Eng

/-- All cells of rows are of one cell. -/
def oneRows (rows : List (List SV)) : Bool := rows.all fun r => r.all one1

/-- A row that may be appended to: what it holds, and the heap without it. -/
def vxrow (O : Heap) (e sz : Nat) (s : SV) (k : List (List SV) → Heap → Prop) : Prop :=
  match s with
  | .own id => match find O id with
    | some (.row e' sz' rows) => (e' = e ∧ sz' = sz) ∧ k rows (delO O id)
    | some (.emp e' sz') => (e' = e ∧ sz' = sz) ∧ k [] (delO O id)
    | _ => False
  | .v (.slice none 0 0) => k [] O
  | .sub id sz' 0 h false => match find O id with
    | some (.row e' sz2 rows) => (e' = e ∧ sz2 = sz ∧ sz' = sz) ∧ h ≤ rows.length ∧ k (rows.take h) (delO O id)
    | _ => False
  | _ => False
/-- Rows that are read. -/
def vyrow (O : Heap) (sz : Nat) (s : SV) (k : List (List SV) → Prop) : Prop :=
  match s with
  | .own id => match find O id with
    | some (.row _ sz' rows) => sz' = sz ∧ k rows
    | _ => False
  | .rd sz' rows => sz' = sz ∧ k rows
  | .v (.slice none 0 0) => k []
  | .sub id sz' l h _ => match find O id with
    | some (.row _ sz2 rows) => (sz2 = sz ∧ sz' = sz) ∧ (l ≤ h ∧ h ≤ rows.length) ∧ k ((rows.take h).drop l)
    | _ => False
  | _ => False

section
variable {w : World} {ρ : List Value} {Y : Nat → Prop} {O : Heap}

theorem PdVals.one (sz : Nat) {A : Nat → Prop} : ∀ {rs : List (List SV)} {us : List Value}, oneRows rs = true → DenVals w ρ A sz rs us → ∀ u ∈ us, oneV u = true
  | [], us, _, h, u, hu => by cases h; cases hu
  | r :: rs, us, h1, h, u, hu => by
    obtain ⟨u1, u2, rfl, h2, h3, h4⟩ := h
    simp only [oneRows, List.all_cons, Bool.and_eq_true] at h1
    rcases List.mem_append.1 hu with hu | hu
    · exact ones_den h1.1 h3 u hu
    · exact PdVals.one sz h1.2 h4 u hu

/-- What a row that is read is in memory. -/
theorem vyrow_sound {sz : Nat} {s : SV} {u : Value} {k : List (List SV) → Prop} (hs : Sat w ρ Y O) (hd : Den w ρ (Av Y ρ O) s u) (h : vyrow O sz s k) :
    ∃ rows p c us, k rows ∧ u = .slice p rows.length c ∧ DenVals w ρ (Av Y ρ O) sz rows us ∧ (p = none → rows = []) ∧ ∀ a, p = some a → 0 < rows.length → ∀ j v, us[j]? = some v → w.cell? (a.add j) = some v := by
  unfold vyrow at h
  split at h
  · rename_i id
    split at h
    · rename_i e' sz' rows hf
      obtain ⟨rfl, hk⟩ := h
      obtain ⟨v, hv, xs, hown, hdv⟩ := hs.objs _ (find_mem hf)
      simp only [Den] at hd
      have hvb : ρ[id]? = some v := hv
      rw [hd.1] at hvb
      injection hvb with hvb
      subst hvb
      rcases hown.2 with ⟨rfl, h0⟩ | ⟨g, cap, cur, rfl, _⟩
      · have : rows = [] := List.eq_nil_of_length_eq_zero h0
        subst this
        exact ⟨[], none, 0, xs, hk, rfl, hdv, fun _ => rfl, fun a ha => by cases ha⟩
      · refine ⟨rows, _, cap, xs, hk, rfl, hdv, fun hn => (by cases hn), fun a ha _ j v hj => ?_⟩
        injection ha with ha
        subst ha
        exact World.ownsRow.cells (show w.ownsRow 0 e' sz' _ rows.length xs from hown) rfl j v hj
    · exact h.elim
  · rename_i sz' rows
    obtain ⟨rfl, hk⟩ := h
    simp only [Den, Pd] at hd
    obtain ⟨p, c, rfl, hl, hc, hr⟩ := hd
    cases rows with
    | nil => exact ⟨[], p, c, [], hk, rfl, rfl, fun _ => rfl, fun a ha h0 => by simp at h0⟩
    | cons r rs =>
      obtain ⟨b, o, rfl, _, _, hrows⟩ := hr (by simp)
      obtain ⟨us, h1, h2⟩ := PdRows.vals sz' hrows
      refine ⟨r :: rs, _, c, us, hk, rfl, PdVals.den sz' h1, fun hn => (by cases hn), fun a ha _ j v hj => ?_⟩
      injection ha with ha
      subst ha
      rw [add_none]
      exact h2 j v hj
  · simp only [Den] at hd
    subst hd
    exact ⟨[], none, 0, [], h, rfl, rfl, fun _ => rfl, fun a ha => by cases ha⟩
  · rename_i id sz' l hh full
    split at h
    · rename_i e' sz2 rows hf
      obtain ⟨⟨rfl, rfl⟩, ⟨h1, h2⟩, hk⟩ := h
      obtain ⟨v, hv, xs, hown, hdv⟩ := hs.objs _ (find_mem hf)
      simp only [Den] at hd
      obtain ⟨p, n, c, hp, hn, rfl⟩ := hd
      have hvb : ρ[id]? = some v := hv
      rw [hp] at hvb
      injection hvb with hvb
      subst hvb
      have hlen : ((rows.take hh).drop l).length = hh - l := by simp; omega
      have hdv2 := DenVals.drop sz' l (DenVals.take sz' hh hdv)
      rcases hown.2 with ⟨hv0, h0⟩ | ⟨g, cap, cur, hv0, _⟩
      · injection hv0 with e1 e2 e3
        subst e1 e2 e3
        have hrn : rows = [] := List.eq_nil_of_length_eq_zero h0
        subst hrn
        simp only [List.length_nil, Nat.le_zero_eq] at h2
        subst h2
        simp only [Nat.le_zero_eq] at h1
        subst h1
        refine ⟨_, _, _, _, hk, by unfold sliced; rw [hlen], hdv2, fun _ => by simp, fun a ha h3 => by simp at h3⟩
      · injection hv0 with e1 e2 e3
        subst e1 e2 e3
        refine ⟨_, _, _, _, hk, by unfold sliced; rw [hlen], hdv2, fun hn => ?_, fun a ha h3 j v hj => ?_⟩
        · by_cases hcl : (if full = true then hh else c) = l
          · rw [if_pos hcl] at hn; cases hn
          · rw [if_neg hcl] at hn; cases hn
        · rw [hlen] at h3
          have hcell := World.ownsRow.cells (show w.ownsRow 0 e' sz' _ rows.length xs from hown) (g := g) rfl (l * sz' + j) v (by
            rw [List.getElem?_drop] at hj
            rw [List.getElem?_take] at hj
            split at hj
            · exact hj
            · cases hj)
          have hcap : hh ≤ c := by
            rcases hown.2 with ⟨hv1, _⟩ | ⟨g1, cap1, cur1, hv1, _, _, h4, _⟩
            · cases hv1
            · injection hv1 with _ _ e3; omega
          have hne : ¬ ((if full = true then hh else c) = l) ∨ l = 0 := by
            by_cases hf : full = true
            · rw [if_pos hf]; omega
            · rw [if_neg hf]; omega
          by_cases hcl : (if full = true then hh else c) = l
          · rw [if_pos hcl] at ha
            injection ha with ha
            subst ha
            have hl0 : l = 0 := by omega
            subst hl0
            simpa using hcell
          · rw [if_neg hcl] at ha
            simp only [Option.map_some, Option.some.injEq] at ha
            subst ha
            rw [add_none, add_none]
            rw [add_none] at hcell
            rwa [show 0 + l * sz' + j = 0 + (l * sz' + j) by omega]
    · exact h.elim
  · exact h.elim

/-- What a row that may be appended to is. -/
theorem vxrow_sound {e sz : Nat} {s : SV} {u : Value} {k : List (List SV) → Heap → Prop} (hs : Sat w ρ Y O) (hd : Den w ρ (Av Y ρ O) s u) (h : vxrow O e sz s k) :
    ∃ rows O2 xs, k rows O2 ∧ w.ownsRow 0 e sz u rows.length xs ∧ DenVals w ρ (Av Y ρ O) sz rows xs ∧ O2.Sublist O ∧ (∀ b, blkOf u = some b → OwnB ρ O b ∧ ∀ x ∈ O2, ∀ v, ρ[x.1]? = some v → blkOf v ≠ some b) := by
  have hblk : ∀ {id : Nat} {obj : OObj} {v : Value} {b : Nat}, find O id = some obj → ρ[id]? = some v → blkOf v = some b → OwnB ρ O b ∧ ∀ x ∈ delO O id, ∀ u, ρ[x.1]? = some u → blkOf u ≠ some b := by
    intro id obj v b hf hv hb
    refine ⟨⟨id, obj, v, find_mem hf, hv, hb⟩, fun x hx u hu hub => ?_⟩
    have hm := find_mem hf
    obtain ⟨hxo, hne⟩ := mem_delO hs.apart hx
    have : ∀ {l : Heap}, l.Pairwise (Apart ρ) → (id, obj) ∈ l → x ∈ l → False := by
      intro l
      induction l with
      | nil => intro _ h1; cases h1
      | cons a l ih =>
        intro hpw h1 h2
        have hpw' := List.pairwise_cons.1 hpw
        rcases List.mem_cons.1 h1 with e1 | h1
        · rcases List.mem_cons.1 h2 with e2 | h2
          · rw [e2, ← e1] at hne; exact hne rfl
          · exact (hpw'.1 x h2).2 v u b (by rw [← e1]; exact hv) hu hb hub
        · rcases List.mem_cons.1 h2 with e2 | h2
          · exact (hpw'.1 _ h1).2 u v b (by rw [← e2]; exact hu) hv hub hb
          · exact ih hpw'.2 h1 h2
    exact this hs.apart hm hxo
  unfold vxrow at h
  split at h
  · rename_i id
    split at h
    · rename_i e' sz' rows hf
      obtain ⟨⟨rfl, rfl⟩, hk⟩ := h
      obtain ⟨v, hv, xs, hown, hdv⟩ := hs.objs _ (find_mem hf)
      simp only [Den] at hd
      have hvb : ρ[id]? = some v := hv
      rw [hd.1] at hvb
      injection hvb with hvb
      subst hvb
      exact ⟨rows, _, xs, hk, hown, hdv, delO_sub _ _, fun b hb => hblk hf hd.1 hb⟩
    · rename_i e' sz' hf
      obtain ⟨⟨rfl, rfl⟩, hk⟩ := h
      obtain ⟨v, hv, b, hv0, hb0⟩ := hs.objs _ (find_mem hf)
      simp only [Den] at hd
      have hvb : ρ[id]? = some v := hv
      rw [hd.1] at hvb
      injection hvb with hvb
      subst hvb
      exact ⟨[], _, [], hk, ⟨by simp, .inr ⟨b, 0, #[], hv0, Nat.zero_le _, hb0, Nat.le_refl _, Nat.zero_le _, by simp, by simp⟩⟩, rfl, delO_sub _ _, fun b hb => hblk hf hd.1 hb⟩
    · exact h.elim
  · simp only [Den] at hd
    subst hd
    exact ⟨[], O, [], h, ⟨by simp, .inl ⟨rfl, rfl⟩⟩, rfl, List.Sublist.refl _, fun b hb => by simp [blkOf] at hb⟩
  · rename_i id sz' hh
    split at h
    · rename_i e' sz2 rows hf
      obtain ⟨⟨rfl, rfl, rfl⟩, hle, hk⟩ := h
      obtain ⟨v, hv, xs, hown, hdv⟩ := hs.objs _ (find_mem hf)
      simp only [Den] at hd
      obtain ⟨p, n, c, hp, hn, rfl⟩ := hd
      have hvb : ρ[id]? = some v := hv
      rw [hp] at hvb
      injection hvb with hvb
      subst hvb
      have hs0 : sliced p 0 hh c sz' = .slice p hh c := by
        unfold sliced
        have : p.map (·.add (0 * sz')) = p := by cases p <;> simp [Addr.add]
        simp only [this, Nat.sub_zero]
        split <;> rfl
      have hlen : (rows.take hh).length = hh := by simp; omega
      simp only [Bool.false_eq_true, if_false]
      rw [hs0]
      refine ⟨rows.take hh, _, xs.take (hh * sz'), hk, ?_, DenVals.take sz' hh hdv, delO_sub _ _, fun b hb => hblk hf hp (by cases p <;> simpa [blkOf] using hb)⟩
      rw [hlen]
      rcases hown.2 with ⟨hv0, h0⟩ | ⟨g, cap, cur, hv0, h1, h2, h3, h4, h5, h6⟩
      · injection hv0 with e1 e2 e3
        subst e1 e2 e3
        have : hh = 0 := by omega
        subst this
        exact ⟨by simp, .inl ⟨rfl, rfl⟩⟩
      · injection hv0 with e1 e2 e3
        subst e1 e2 e3
        have hm : hh * sz' ≤ rows.length * sz' := Nat.mul_le_mul_right _ hle
        refine ⟨?_, .inr ⟨g, c, cur, rfl, h1, h2, by omega, h4, h5, ?_⟩⟩
        · rw [List.length_take, hown.1]; omega
        · rw [← h6, List.take_take]; congr 1; omega
    · exact h.elim
  · exact h.elim

theorem blk_ownBlock {v : Value} {A : Option Addr} {n c : Nat} (h : v = .slice A n c) : blkOf v = v.ownBlock := by subst h; cases A <;> rfl

/-- A row is another one, in its place or elsewhere. -/
theorem Sat.appended (h : Sat w ρ Y O) {O2 : Heap} (hsub : O2.Sublist O) {v v' : Value} {w' : World} {obj : OObj} (hvb : ∀ b, blkOf v = some b → OwnB ρ O b ∧ ∀ x ∈ O2, ∀ u, ρ[x.1]? = some u → blkOf u ≠ some b)
    (hg : w.grownBy w' (blkOf v)) (hat : blkOf v' = none ∨ blkOf v' = blkOf v ∨ blkOf v' = some w.heap.size) (hlt : ∀ b, blkOf v' = some b → b < w'.heap.size)
    (hobj : Tr w ρ (Av Y ρ O) w' (ρ ++ [v']) (Av Y (ρ ++ [v']) ((ρ.length, obj) :: O2)) → SatObj w' (ρ ++ [v']) (Av Y (ρ ++ [v']) ((ρ.length, obj) :: O2)) obj v') :
    Sat w' (ρ ++ [v']) Y ((ρ.length, obj) :: O2) ∧ Tr w ρ (Av Y ρ O) w' (ρ ++ [v']) (Av Y (ρ ++ [v']) ((ρ.length, obj) :: O2)) := by
  have hin2 : ∀ x ∈ O2, x.1 < ρ.length := fun x hx => h.ids x (hsub.subset hx)
  have hold : ∀ x ∈ O2, ∀ u, (ρ ++ [v'])[x.1]? = some u → ρ[x.1]? = some u := by
    intro x hx u hu
    rwa [List.getElem?_append_left (hin2 x hx)] at hu
  refine h.change (fun b => blkOf v = some b) hg.size (fun i u hu => getElem?_snoc_lt hu) (fun b hb hn => hg.block b hb fun e => hn e.symm) (fun b hb => (hvb b hb).1) (fun b hob => ?_) ?_ (fun x hx => ?_)
  · obtain ⟨id, obj', u, hm, hu, hbu⟩ := hob
    rcases List.mem_cons.1 hm with hm | hm
    · injection hm with h1 h2
      subst h1
      rw [getElem?_snoc] at hu
      injection hu with hu
      subst hu
      refine ⟨?_, hlt b hbu⟩
      rcases hat with hat | hat | hat
      · rw [hat] at hbu; cases hbu
      · exact .inl (hvb b (hat ▸ hbu)).1
      · rw [hat] at hbu; injection hbu with hbu; exact .inr (by omega)
    · have ho : OwnB ρ O b := ⟨id, obj', u, hsub.subset hm, hold _ hm u hu, hbu⟩
      exact ⟨.inl ho, Nat.lt_of_lt_of_le (h.lt b (.inr ho)) hg.size⟩
  · refine List.pairwise_cons.2 ⟨fun x hx => ⟨?_, ?_⟩, (h.apart.sublist hsub).imp_of_mem fun {x y} hx hy hxy => ⟨hxy.1, fun a b n ha hb' => hxy.2 a b n (hold x hx a ha) (hold y hy b hb')⟩⟩
    · have := hin2 x hx; simp; omega
    · intro a u b ha hu hab hub
      simp only at ha
      rw [getElem?_snoc] at ha
      injection ha with ha
      subst ha
      have hu' := hold x hx u hu
      rcases hat with hat | hat | hat
      · rw [hat] at hab; cases hab
      · exact (hvb b (hat ▸ hab)).2 x hx u hu' hub
      · rw [hat] at hab
        injection hab with hab
        have := h.lt b (.inr ⟨x.1, x.2, u, hsub.subset hx, hu', hub⟩)
        omega
  · rcases List.mem_cons.1 hx with rfl | hx
    · exact .inr fun t => ⟨v', getElem?_snoc, hobj t⟩
    · refine .inl ⟨hsub.subset hx, fun u b hu hb hvb' => (hvb b hvb').2 x hx u hu hb⟩
end

section
variable {c : Cx} {nx : Nat} {T : Tab} {O : Heap} {o : Oper} {k : Nat → Tab → Heap → Prop}

def vapp (P : Program) (n : Nat) (t : TypeId) (dst : Option Tmp) (nx : Nat) (T : Tab) (O : Heap) (x y : SV) (k : Nat → Tab → Heap → Prop) : Prop :=
  match tk P t with
  | .sl e sz => vxrow O e sz x fun rx O2 => vyrow O sz y fun ry => (0 < sz ∧ 0 < byOf P e ∧ (zv P e).map (·.length) = some sz ∧ oneRows ry = true ∧ dok n dst = true) ∧ (rx.length + ry.length) * byOf P e ≤ 140737488355328 ∧ k (nx + 1) (putT dst (.own nx) T) ((nx, .row e sz (rx ++ ry)) :: O2)
  | _ => False

/-- Is there no room in it? -/
def vfresh (O : Heap) (s : SV) : Bool :=
  match s with
  | .v (.slice none 0 0) => true
  | .own id => match find O id with
    | some (.emp _ _) => true
    | _ => false
  | _ => false
theorem vfresh_sound {w : World} {ρ : List Value} {Y : Nat → Prop} {s : SV} {u : Value} (hs : Sat w ρ Y O) (hd : Den w ρ (Av Y ρ O) s u) (h : vfresh O s = true) : u = .slice none 0 0 ∨ ∃ b, u = .slice (some b) 0 0 := by
  unfold vfresh at h
  split at h
  · simp only [Den] at hd; exact .inl hd
  · rename_i id
    split at h
    · rename_i hf
      obtain ⟨v, hv, b, hv0, hb0⟩ := hs.objs _ (find_mem hf)
      simp only [Den] at hd
      have hvb : ρ[id]? = some v := hv
      rw [hd.1] at hvb
      injection hvb with hvb
      subst hvb
      exact .inr ⟨_, hv0⟩
    · cases h
  · cases h
theorem append_ok {t : TypeId} {x y : Operand} {cl : Call} (ho : o.op = .call cl) (h1 : cl.callee = .builtin .append) (h2 : cl.args.toList = [x, y]) (h3 : cl.argTypes.toList = [t, t])
    {q : Bool} (hq : (!q || vfresh O (ev T x)) = true) (h : vapp c.P c.n t o.dst nx T O (ev T x) (ev T y) k) : OpOK c o q nx T O k := by
  intro w ρ vals hst Q N hN
  unfold vapp at h
  split at h
  case h_2 => exact h.elim
  rename_i e sz ht
  obtain ⟨rx, O2, xs, hvy, hown, hdx, hsub, hvb⟩ := vxrow_sound hst.sat (hst.ev x) h
  obtain ⟨ry, p, cp, us, ⟨⟨hsz, hby, hzv, hone, hd⟩, hroom, hk⟩, hyv, hdy, hnil, hcell⟩ := vyrow_sound hst.sat (hst.ev y) hvy
  obtain ⟨hu, ie, hie, hies⟩ := tk_sl ht
  have hbe : byOf c.P e = ie.bytes := by simp [byOf, hie]
  rw [hbe] at hby hroom
  obtain ⟨zs, hzs, hzl⟩ := Option.map_eq_some_iff.1 hzv
  unfold zv at hzs
  obtain ⟨z, hzz, rfl⟩ := Option.map_eq_some_iff.1 hzs
  obtain ⟨ie', hie', hzz⟩ := Option.bind_eq_some_iff.1 hzz
  rw [hie] at hie'
  injection hie' with hie'
  subst hie'
  generalize hvx : (⟨vals, []⟩ : Act).eval x = vx at *
  generalize hvyy : (⟨vals, []⟩ : Act).eval y = vy at *
  have hlen : rx.length + ry.length ≤ 140737488355328 := Nat.le_trans (Nat.le_mul_of_pos_right _ hby) hroom
  have hshape : ∃ A m cc, vx = .slice A m cc := by
    rcases hown.2 with ⟨rfl, _⟩ | ⟨g, cap, cur, rfl, _⟩
    · exact ⟨_, _, _, rfl⟩
    · exact ⟨_, _, _, rfl⟩
  obtain ⟨A, m0, cc, hA⟩ := hshape
  have hob : blkOf vx = vx.ownBlock := blk_ownBlock hA
  have hrun : ∃ v' w', (Builtin.append_ #[t, t] o.type #[vx, vy]).run c.P w = .ok v' w' ∧ w'.ownsRow 0 e sz v' (rx.length + ry.length) (xs ++ us) ∧ w.grownBy w' vx.ownBlock ∧ (v'.ownBlock = vx.ownBlock ∨ v'.ownBlock = some w.heap.size) ∧ (q = true → Same w w') := by
    cases p with
    | none =>
      have hr0 := hnil rfl
      subst hr0
      have hus : us = [] := hdy
      subst hus
      subst hyv
      refine ⟨vx, w, ?_, by simpa using hown, World.grownBy.refl w _, .inl rfl, fun _ => Same.refl w⟩
      rcases hown.2 with ⟨rfl, hn⟩ | ⟨g, cap, cur, rfl, _, _, hnc, _⟩
      · simp [Builtin.append_, run_underlying hu, sizeOf, typeInfo, hie, Builtin.lenOf, Builtin.firstCells]
      · simp [Builtin.append_, run_underlying hu, sizeOf, typeInfo, hie, Builtin.lenOf, Builtin.firstCells, hnc, storeCells]
    | some ad =>
      subst hyv
      have hul := DenVals.length sz hdy
      obtain ⟨v1, w1, hr, g2, g3, _, g5⟩ := run_append_own_at (P := c.P) w 0 t o.type e ie z sz ie.bytes hu hie hzz hies rfl (by simpa using hzl) hsz vx rx.length xs hown ad ry.length cp us hul
        (fun j u hj => hcell ad rfl (by
          have : j < us.length := (List.getElem?_eq_some_iff.1 hj).1
          rcases Nat.eq_zero_or_pos ry.length with h0 | h0
          · rw [hul, h0] at this; omega
          · exact h0) j u hj) (fun u hu => by rw [oneV_eq]; exact PdVals.one sz hone hdy u hu) (by simp only [maxLen]; omega) hroom (Nat.zero_le _)
      refine ⟨v1, w1, hr, g2, g3, g5, fun hq1 => ?_⟩
      have hfr := vfresh_sound hst.sat (hst.ev x) (by simpa [hq1] using hq)
      rw [hvx] at hfr
      rcases hfr with rfl | ⟨bb, rfl⟩
      · exact ⟨g3.size, fun b hb => g3.block b hb (by simp [Value.ownBlock])⟩
      · have hrx0 : rx.length = 0 := by
          rcases hown.2 with ⟨h1, h2⟩ | ⟨g, cap, cur, h1, _⟩
          · exact h2
          · injection h1 with h1 h2 h3; exact h2.symm
        rcases Nat.eq_zero_or_pos ry.length with h0 | h0
        · have : (Builtin.append_ #[t, t] o.type #[.slice (some bb) 0 0, .slice (some ad) ry.length cp]).run c.P w = .ok (.slice (some bb) 0 0) w := by
            have hl0 := run_loadCells_list (P := c.P) w ad [] (by simp)
            simp only [List.length_nil] at hl0
            rw [h0]
            simp [hl0, Builtin.append_, run_underlying hu, sizeOf, typeInfo, hie, Builtin.lenOf, Builtin.firstCells, storeCells]
          rw [hr] at this
          injection this with _ hw
          rw [hw]
          exact Same.refl w
        · have h2 : Builtin.nextslicecap (0 + ry.length) 0 * ie.bytes ≤ 281474976710656 := by
            rw [Nat.zero_add, nextslicecap_zero h0]
            rw [hrx0, Nat.zero_add] at hroom
            omega
          have := run_append_grow (P := c.P) (w := w) t o.type e ie z hu hie hzz bb 0 0 [] (by simp) (by simp) ad ry.length cp us (by rw [hul, hies])
            (fun j u hj => hcell ad rfl h0 j u hj) (by omega) (by omega) h2
          rw [hr] at this
          injection this with _ hw
          rw [hw]
          exact ⟨by show _ ≤ (w.drew.heap.push _).size; simp, fun b hb => RowKit.Below.heap_alloc w.drew _ b hb⟩
  obtain ⟨v', w', hr, hown', hg, hat, hsame⟩ := hrun
  have hshape' : ∃ A m cc, v' = .slice A m cc := by
    rcases hown'.2 with ⟨rfl, _⟩ | ⟨g, cap, cur, rfl, _⟩
    · exact ⟨_, _, _, rfl⟩
    · exact ⟨_, _, _, rfl⟩
  obtain ⟨A', m', c', hA'⟩ := hshape'
  have hob' : blkOf v' = v'.ownBlock := blk_ownBlock hA'
  have hexec : (execOp (⟨vals, []⟩ : Act).eval o).run c.P w = .ok (.value v') w' := by
    have ha : cl.args = #[x, y] := by rw [← Array.toArray_toList (xs := cl.args), h2]
    have hb : cl.argTypes = #[t, t] := by rw [← Array.toArray_toList (xs := cl.argTypes), h3]
    simp only [execOp, ho, resolve, h1, ha, hb, Sem.run_bind, Sem.run_pure, Result.andThen_ok, invoke, builtin, List.map_toArray, List.map_cons, List.map_nil, hvx, hvyy, hr]
  have hrow : ∀ {A : Nat → Prop}, DenVals w' (ρ ++ [v']) A sz (rx ++ ry) (xs ++ us) → SatObj w' (ρ ++ [v']) A (.row e sz (rx ++ ry)) v' := fun hd => ⟨_, by rw [List.length_append]; exact hown', hd⟩
  obtain ⟨hS, hT⟩ := hst.sat.appended (O2 := O2) hsub (v := vx) (v' := v') (w' := w') (obj := .row e sz (rx ++ ry)) hvb (by rw [hob]; exact hg) (by rw [hob', hob]; exact .inr hat)
    (fun b hb => (World.ownsRow.lt (show w'.ownsRow 0 e sz v' _ _ from hown') b (by rw [← hob']; exact hb)).2) (fun tr => hrow ((DenVals.tr tr _ _ _ hdx).append sz (DenVals.tr tr _ _ _ hdy)))
  unfold Oper.wp
  rw [hexec]
  simp only [Oper.upon]
  rw [putAct]
  have := hst.next hS hT (hst.frm.step hg.os hg.tape hg.output hg.size fun b hb hF => hg.block b (Nat.lt_of_lt_of_le hb hst.frm.size) fun e => hF (hst.own b (hvb b (by rw [hob]; exact e.symm)).1 hb)) (fun b hob2 hlt => ?_) o.dst (s := .own nx) (u := v') ?_ (dok_spec hd)
  · rw [List.length_append, List.length_singleton, hst.nx] at this
    rw [hst.nx] at *
    exact hN _ _ _ _ _ _ this hk hsame
  · obtain ⟨id, obj', u, hm, hu2, hbu⟩ := hob2
    rcases List.mem_cons.1 hm with hm | hm
    · injection hm with h1 h2
      subst h1
      rw [getElem?_snoc] at hu2
      injection hu2 with hu2
      subst hu2
      rw [hob'] at hbu
      rcases hat with hat | hat
      · exact hst.own b (hvb b (by rw [hob, ← hat]; exact hbu)).1 hlt
      · rw [hat] at hbu; injection hbu with hbu; have := hst.frm.size; omega
    · refine hst.own b ⟨id, obj', u, hsub.subset hm, ?_, hbu⟩ hlt
      rwa [List.getElem?_append_left (hst.sat.ids _ (hsub.subset hm))] at hu2
  · simp only [Den]
    exact ⟨by rw [← hst.nx]; exact getElem?_snoc, by rw [hA']; rfl⟩

end
end Go.Eng
