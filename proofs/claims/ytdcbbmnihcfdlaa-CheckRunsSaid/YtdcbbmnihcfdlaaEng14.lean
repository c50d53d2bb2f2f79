/- A part of the engine that walks a function of the given program: sound rules, no statement of its own. -/
import Derived.Test.YtdcbbmnihcfdlaaEng13b
set_option linter.unusedVariables false
set_option linter.unusedSimpArgs false
set_option linter.unnecessarySimpa false
set_option linter.constructorNameAsVariable false
set_option linter.all false
set_option linter.unusedVariables false
set_option linter.unusedSimpArgs false
namespace Go.Eng

def LiftK (c : Cx) (K : AbsPost) : Exit → Act → World → Prop
  | .panic _, _, _ => False
  | .outgrown, _, _ => False
  | e, a, w => a.defers = [] ∧ ∃ ρ nx T O, St c w ρ nx T O a.tmps ∧ K e nx T O
/-- Code from a state on. -/
def SWP (c : Cx) (code : Code) (nx : Nat) (T : Tab) (O : Heap) (K : AbsPost) : Prop :=
  ∀ w ρ vals, St c w ρ nx T O vals → code.wp c.P (LiftK c K) ⟨vals, []⟩ w

theorem LiftK.intro {c : Cx} {K : AbsPost} {e : Exit} {vals : Array Value} {w : World} {ρ : List Value} {nx : Nat} {T : Tab} {O : Heap} (he : (match e with | .panic _ | .outgrown => False | _ => True)) (h : St c w ρ nx T O vals) (hk : K e nx T O) : LiftK c K e ⟨vals, []⟩ w := by
  cases e <;> first | exact he.elim | exact ⟨rfl, ρ, nx, T, O, h, hk⟩

/-! ### Values laid open: what is put into the frame and the heap is evaluated first -/
def fN : Nat → (Nat → Prop) → Prop
  | 0, k => k 0
  | n + 1, k => k (n + 1)
def fS : SV → (SV → Prop) → Prop
  | .v x, k => k (.v x)
  | .rd sz r, k => k (.rd sz r)
  | .agg l, k => k (.agg l)
  | .tup l, k => k (.tup l)
  | .own i, k => fN i fun i => k (.own i)
  | .ptr i o, k => fN i fun i => fN o fun o => k (.ptr i o)
  | .rptr i sz a b, k => fN i fun i => fN b fun b => k (.rptr i sz a b)
  | .eptr l, k => k (.eptr l)
  | .sub i sz l h f, k => k (.sub i sz l h f)
  | .fn f l, k => k (.fn f l)
  | .ifc t x, k => k (.ifc t x)
  | .any, k => k .any
theorem fS_iff0 (h : ∀ (n : Nat) (k : Nat → Prop), fN n k = k n) (s : SV) (k : SV → Prop) : fS s k = k s := by cases s <;> simp only [fS, h]
def fL : List SV → (List SV → Prop) → Prop
  | [], k => k []
  | a :: l, k => fS a fun a => fL l fun l' => k (a :: l')
def fV : SV → (SV → Prop) → Prop
  | .v x, k => k (.v x)
  | .rd sz r, k => k (.rd sz r)
  | .agg l, k => fL l fun l => k (.agg l)
  | .tup l, k => fL l fun l => k (.tup l)
  | .own i, k => fN i fun i => k (.own i)
  | .ptr i o, k => fN i fun i => fN o fun o => k (.ptr i o)
  | .rptr i sz a b, k => fN i fun i => fN b fun b => k (.rptr i sz a b)
  | .eptr l, k => fL l fun l => k (.eptr l)
  | .sub i sz l h f, k => k (.sub i sz l h f)
  | .fn f l, k => fL l fun l => k (.fn f l)
  | .ifc t x, k => k (.ifc t x)
  | .any, k => k .any
def fH : Heap → (Heap → Prop) → Prop
  | [], k => k []
  | a :: l, k => fH l fun l' => k (a :: l')
def fT : Tab → (Tab → Prop) → Prop
  | [], k => k []
  | a :: l, k => k (a :: l)
theorem fT_iff (l : Tab) (k : Tab → Prop) : fT l k = k l := by cases l <;> rfl
def vput (d : Option Tmp) (s : SV) (T : Tab) (k : Tab → Prop) : Prop := match d with
  | some d => fV s fun s => k ((d, s) :: T)
  | none => k T
theorem fN_iff (n : Nat) (k : Nat → Prop) : fN n k = k n := by cases n <;> rfl
theorem fL_iff : ∀ (l : List SV) (k : List SV → Prop), fL l k = k l
  | [], k => rfl
  | a :: l, k => by unfold fL; rw [fS_iff0 fN_iff, fL_iff l]
theorem fV_iff (s : SV) (k : SV → Prop) : fV s k = k s := by cases s <;> simp only [fV, fL_iff, fN_iff]
theorem fH_iff : ∀ (l : Heap) (k : Heap → Prop), fH l k = k l
  | [], k => rfl
  | a :: l, k => by unfold fH; rw [fH_iff l]
theorem vput_iff (d : Option Tmp) (s : SV) (T : Tab) (k : Tab → Prop) : vput d s T k = k (putT d s T) := by cases d <;> simp only [vput, putT, fV_iff]

/-- What an operation that makes or changes memory, or calls, comes to. -/
def vop (c : Cx) (o : Oper) (q : Bool) (nx : Nat) (T : Tab) (O : Heap) (k : Nat → Tab → Heap → Prop) : Prop :=
  match o.op with
  | .alloc t => match zv c.P t with
    | some zs => dok c.n o.dst = true ∧ fL (zs.map .v) fun l => vput o.dst (.ptr nx 0) T fun T => fN (nx + 1) fun nx' => k nx' T ((nx, .box t l) :: O)
    | none => False
  | .box t x => match vcells (ev T x) with
    | some l => dok c.n o.dst = true ∧ fL l fun l => vput o.dst (.ptr nx 0) T fun T => fN (nx + 1) fun nx' => k nx' T ((nx, .box t l) :: O)
    | none => False
  | .makeMap _ none => dok c.n o.dst = true ∧ vput o.dst (.own nx) T fun T => fN (nx + 1) fun nx' => k nx' T ((nx, .mp []) :: O)
  | .build t parts => dok c.n o.dst = true ∧ vbuild c.P T t parts fun s => vput o.dst s T fun T => k nx T O
  | .buildSlice t len parts => match len, parts.toList with
    | 0, [] => match tk c.P t with
      | .sl e sz => dok c.n o.dst = true ∧ vput o.dst (.own nx) T fun T => fN (nx + 1) fun nx' => k nx' T ((nx, .emp e sz) :: O)
      | _ => False
    | len, ps => match tk c.P t, vrows T ps 0 with
    | .sl e sz, some rows => (0 < sz ∧ (zv c.P e).map (·.length) = some sz ∧ rows.length = len ∧ (rows.all fun r => r.length == sz) = true ∧ len * sz ≤ 16777216 ∧ dok c.n o.dst = true) ∧ vput o.dst (.own nx) T fun T => fN (nx + 1) fun nx' => k nx' T ((nx, .row e sz rows) :: O)
    | _, _ => False
  | .store t x y => q = false ∧ dok c.n o.dst = true ∧ match vcells (ev T y) with
    | some l => (l.all one1 = true ∧ szOf c.P t = l.length ∧ 0 < l.length) ∧ match ev T x with
      | .ptr id off => match find O id with
        | some (.box ty cells) => off + l.length ≤ cells.length ∧ fL (upd cells off l) fun l => vput o.dst .any T fun T => fH (setO O id (.box ty l)) fun O => k nx T O
        | _ => False
      | .rptr id sz i j => match find O id with
        | some (.row e sz' rows) => (sz' = sz ∧ j + l.length ≤ sz) ∧ ∃ r, rows[i]? = some r ∧ fL (upd r j l) fun l => vput o.dst .any T fun T => fH (setO O id (.row e sz (rows.set i l))) fun O => k nx T O
        | _ => False
      | _ => False
    | none => False
  | .lookup t x y ok => dok c.n o.dst = true ∧ vlookup c.P O t (ev T x) (ev T y) ok fun s => vput o.dst s T fun T => k nx T O
  | .mapEntry t x y => (q = false ∧ dok c.n o.dst = true) ∧ vmapEntry c.P O t (ev T x) (ev T y) fun s O' => vput o.dst s T fun T => fH O' fun O => k nx T O
  | .entryStore t x y z => (q = false ∧ dok c.n o.dst = true) ∧ ventryStore O (ev T x) (ev T y) (ev T z) fun O' => vput o.dst .any T fun T => fH O' fun O => k nx T O
  | .mapUpdate t x y z => (q = false ∧ dok c.n o.dst = true) ∧ vmapUpdate c.P O t (ev T x) (ev T y) (ev T z) fun O' => vput o.dst .any T fun T => fH O' fun O => k nx T O
  | .call cl => match cl.callee with
    | .builtin .append => match cl.args.toList, cl.argTypes.toList with
      | [x, y], [t, t'] => ((!q || vfresh O (ev T x)) = true ∧ t' = t) ∧ vapp c.P c.n t o.dst nx T O (ev T x) (ev T y) fun nx T O => fN nx fun nx => fT T fun T => fH O fun O => k nx T O
      | _, _ => False
    | .value fo => match ev T fo with
      | .fn f caps => (dok c.n o.dst = true ∧ Bd c.P f) ∧ fL (cl.args.toList.map (ev T) ++ caps) fun args => CallOK c f args q nx O fun s nx' O' => vput o.dst s T fun T => fN nx' fun nx' => fH O' fun O => k nx' T O
      | _ => False
    | _ => dok c.n o.dst = true ∧ vq c.P T O o.op fun s => vput o.dst s T fun T => k nx T O
  | _ => dok c.n o.dst = true ∧ vq c.P T O o.op fun s => vput o.dst s T fun T => k nx T O

theorem vop_sound {c : Cx} {o : Oper} {q : Bool} {nx : Nat} {T : Tab} {O : Heap} {k : Nat → Tab → Heap → Prop} (h : vop c o q nx T O k) : OpOK c o q nx T O k := by
  unfold vop at h
  simp only [fL_iff, vput_iff, fN_iff, fH_iff, fT_iff] at h
  split at h
  · rename_i t ho
    split at h
    · rename_i zs hz
      exact alloc_ok ho hz h.1 h.2
    · exact h.elim
  · rename_i t x ho
    split at h
    · rename_i l hl
      exact boxop_ok ho hl h.1 h.2
    · exact h.elim
  · rename_i t ho
    exact makeMap_ok ho h.1 h.2
  · rename_i t parts ho
    exact build_ok ho h.1 h.2
  · rename_i t len parts ho
    split at h
    · rename_i hp
      have hp' : parts = #[] := by rw [← Array.toArray_toList (xs := parts), hp]
      subst hp'
      split at h
      · rename_i e sz ht
        exact buildSlice0_ok ho ht h.1 h.2
      · exact h.elim
    split at h
    · rename_i e sz rows ht hr
      obtain ⟨⟨h1, h2, h3, h4, h5, h6⟩, hk⟩ := h
      exact buildSlice_ok ho ht h1 h2 hr h3 (fun r hm => by simpa using List.all_eq_true.1 h4 r hm) h5 h6 hk
    · exact h.elim
  · rename_i t x y ho
    obtain ⟨rfl, hd, h⟩ := h
    split at h
    · rename_i l hl
      obtain ⟨⟨h1, h2, h3⟩, h⟩ := h
      split at h
      · rename_i id off hx
        split at h
        · rename_i ty cells hf
          exact store_box_ok ho hx hf hl h1 h2 h3 h.1 hd h.2
        · exact h.elim
      · rename_i id sz i j hx
        split at h
        · rename_i e sz' rows hf
          obtain ⟨⟨rfl, h5⟩, r, hr, hk⟩ := h
          refine store_row_ok ho hx hf hl h1 h2 h3 (List.getElem?_eq_some_iff.1 hr).1 h5 hd ?_
          rw [List.getD_eq_getElem?_getD, hr]
          exact hk
        · exact h.elim
      · exact h.elim
    · exact h.elim
  · rename_i t x y ok ho
    exact lookup_ok ho h.1 h.2
  · rename_i t x y ho
    obtain ⟨⟨rfl, hd⟩, h⟩ := h
    exact mapEntry_ok ho hd h
  · rename_i t x y z ho
    obtain ⟨⟨rfl, hd⟩, h⟩ := h
    exact entryStore_ok ho hd h
  · rename_i t x y z ho
    obtain ⟨⟨rfl, hd⟩, h⟩ := h
    exact mapUpdate_ok ho hd h
  · rename_i cl ho
    split at h
    · rename_i hc
      split at h
      · rename_i x y t t' ha hb
        obtain ⟨⟨hq, rfl⟩, h⟩ := h
        exact append_ok ho hc ha hb hq h
      · exact h.elim
    · rename_i fo hc
      split at h
      · rename_i f caps hf
        exact call_ok ho hc hf h.1.2 h.1.1 h.2
      · exact h.elim
    · exact quiet_ok h.1 h.2
  · exact quiet_ok h.1 h.2

def gdst (ops : List Oper) (j : Nat) : Option Tmp := (ops[j]?).bind (·.dst)
/-- Is a guarded operation carried out? -/
def gval (ops : List Oper) (T : Tab) (j : Nat) : Option (Option Bool) :=
  match (gdst ops j).bind (look T) with
  | some (.v (.bool b)) => some (some b)
  | some (.v (.tuple _)) => some none
  | _ => none
def vguard (ops : List Oper) (T : Tab) (o : Oper) (yes no : Prop) : Prop :=
  match o.guard with
  | none => yes
  | some (j, want) => match gval ops T j with
    | some (some b) => if b = want then yes else no
    | some none => no
    | none => False

theorem vguard_sound {c : Cx} {w : World} {ρ : List Value} {nx : Nat} {T : Tab} {O : Heap} {vals : Array Value} (hst : St c w ρ nx T O vals) {ops : List Oper} {o : Oper} {yes no : Prop} (h : vguard ops T o yes no) :
    (Region.wanted o (yielded ops.toArray vals) = true ∧ yes) ∨ (Region.wanted o (yielded ops.toArray vals) = false ∧ no) := by
  unfold vguard at h
  split at h
  · rename_i hg
    exact .inl ⟨by simp [Region.wanted, hg], h⟩
  · rename_i j want hg
    split at h
    · rename_i b hb
      have hy : yielded ops.toArray vals j = some b := by
        unfold gval at hb
        split at hb
        · rename_i b' hl
          simp only [Option.some.injEq] at hb
          subst hb
          obtain ⟨d, hd, hl⟩ := Option.bind_eq_some_iff.1 hl
          obtain ⟨u, hu, hdu⟩ := hst.tmps d _ hl
          simp only [Den] at hdu
          subst hdu
          unfold gdst at hd
          unfold yielded
          simp [hd, hu]
        · cases hb
        · cases hb
      by_cases hbw : b = want
      · rw [if_pos hbw] at h
        exact .inl ⟨by simp [Region.wanted, hg, hy, hbw], h⟩
      · rw [if_neg hbw] at h
        exact .inr ⟨by simp [Region.wanted, hg, hy, hbw], h⟩
    · rename_i hb
      have hy : yielded ops.toArray vals j = none := by
        unfold gval at hb
        split at hb
        · cases hb
        · rename_i b' hl
          obtain ⟨d, hd, hl⟩ := Option.bind_eq_some_iff.1 hl
          obtain ⟨u, hu, hdu⟩ := hst.tmps d _ hl
          simp only [Den] at hdu
          subst hdu
          unfold gdst at hd
          unfold yielded
          simp [hd, hu]
        · cases hb
      exact .inr ⟨by simp [Region.wanted, hg, hy], h⟩
    · exact h.elim

def vops (c : Cx) (all : List Oper) : List Oper → Nat → Tab → Heap → (Nat → Tab → Heap → Prop) → Prop
  | [], nx, T, O, k => k nx T O
  | o :: r, nx, T, O, k => vguard all T o (vop c o false nx T O fun nx T O => vops c all r nx T O k) (dok c.n o.dst = true ∧ vput o.dst (.v undef) T fun T => vops c all r nx T O k)

theorem vops_sound {c : Cx} {all : List Oper} {K : AbsPost} : ∀ {l : List Oper} {nx : Nat} {T : Tab} {O : Heap}, vops c all l nx T O (K .normal) → ∀ w ρ vals, St c w ρ nx T O vals → wpList c.P all.toArray (LiftK c K) l ⟨vals, []⟩ w
  | [], nx, T, O, h, w, ρ, vals, hst => LiftK.intro (e := .normal) trivial hst h
  | o :: r, nx, T, O, h, w, ρ, vals, hst => by
    unfold vops at h
    simp only [vput_iff] at h
    unfold wpList
    rcases vguard_sound hst h with ⟨hw, hyes⟩ | ⟨hw, hd, hno⟩
    · rw [if_pos hw]
      refine .inl (vop_sound hyes w ρ vals hst _ _ fun ρ' nx' T' O' vals' w' hst' hk _ => ?_)
      exact vops_sound hk w' ρ' vals' hst'
    · rw [if_neg (by rw [hw]; simp)]
      rw [putAct]
      exact vops_sound hno w ρ _ (hst.put o.dst (s := .v undef) (u := undef) (by simp [Den]) (dok_spec hd))

def vc (c : Cx) : Code → Nat → Tab → Heap → AbsPost → Prop
  | .skip, nx, T, O, K => K .normal nx T O
  | .region id ops draw, nx, T, O, K => if draw = true then SWP c (.region id ops true) nx T O K else vops c ops.toList ops.toList nx T O (K .normal)
  | .seq a b, nx, T, O, K => vc c a nx T O fun e nx T O => match e with | .normal => SWP c b nx T O K | e => K e nx T O
  | .cond x a b, nx, T, O, K => match ev T x with
    | .v (.bool true) => vc c a nx T O K
    | .v (.bool false) => vc c b nx T O K
    | _ => False
  | .block id b, nx, T, O, K => vc c b nx T O fun e nx T O => match e with | .exit i => if i = id then K .normal nx T O else K (.exit i) nx T O | e => K e nx T O
  | .loop b, nx, T, O, K => SWP c (.loop b) nx T O K
  | .exit id, nx, T, O, K => K (.exit id) nx T O
  | .ret, nx, T, O, K => K .ret nx T O
  | .label _, nx, T, O, K => K .normal nx T O
  | .scope b, nx, T, O, K => SWP c (.scope b) nx T O K
  | _, _, _, _, _ => False

theorem vc_sound {c : Cx} : ∀ {code : Code} {nx : Nat} {T : Tab} {O : Heap} {K : AbsPost}, vc c code nx T O K → SWP c code nx T O K
  | .skip, nx, T, O, K, h => fun w ρ vals hst => wp_skip (LiftK.intro (e := .normal) trivial hst h)
  | .region id ops draw, nx, T, O, K, h => by
    unfold vc at h
    cases draw with
    | true => simpa using h
    | false =>
      simp only [Bool.false_eq_true, if_false] at h
      intro w ρ vals hst
      have := vops_sound h w ρ vals hst
      rw [Array.toArray_toList] at this
      exact wp_region_list this
  | .seq a b, nx, T, O, K, h => by
    unfold vc at h
    intro w ρ vals hst
    refine wp_seq (wp_mono (vc_sound h w ρ vals hst) fun e a' w' hl => ?_)
    cases e with
    | normal =>
      obtain ⟨hd, ρ', nx', T', O', hst', hk⟩ := hl
      have : a' = ⟨a'.tmps, []⟩ := by cases a'; simp only at hd; subst hd; rfl
      rw [this]
      exact hk w' ρ' _ hst'
    | panic => exact hl
    | outgrown => exact hl
    | exit i => exact hl
    | goto i => exact hl
    | ret => exact hl
  | .cond x a b, nx, T, O, K, h => by
    unfold vc at h
    intro w ρ vals hst
    have hx := hst.ev x
    split at h
    · rename_i e
      rw [e] at hx
      simp only [Den] at hx
      exact wp_cond_true hx (vc_sound h w ρ vals hst)
    · rename_i e
      rw [e] at hx
      simp only [Den] at hx
      exact wp_cond_false hx (vc_sound h w ρ vals hst)
    · exact h.elim
  | .block id b, nx, T, O, K, h => by
    unfold vc at h
    intro w ρ vals hst
    refine wp_block (wp_mono (vc_sound h w ρ vals hst) fun e a' w' hl => ?_)
    cases e with
    | exit i =>
      obtain ⟨hd, ρ', nx', T', O', hst', hk⟩ := hl
      simp only at hk
      simp only [Exit.inBlock]
      split
      · rename_i hi
        rw [if_pos hi] at hk
        exact ⟨hd, ρ', nx', T', O', hst', hk⟩
      · rename_i hi
        rw [if_neg hi] at hk
        exact ⟨hd, ρ', nx', T', O', hst', hk⟩
    | normal => exact hl
    | panic => exact hl
    | outgrown => exact hl
    | goto i => exact hl
    | ret => exact hl
  | .loop b, nx, T, O, K, h => h
  | .exit id, nx, T, O, K, h => fun w ρ vals hst => wp_exit (LiftK.intro (e := .exit id) trivial hst h)
  | .ret, nx, T, O, K, h => fun w ρ vals hst => wp_ret (LiftK.intro (e := .ret) trivial hst h)
  | .label l, nx, T, O, K, h => fun w ρ vals hst => wp_label (LiftK.intro (e := .normal) trivial hst h)
  | .scope b, nx, T, O, K, h => h
  | .rangeFunc .., nx, T, O, K, h => by unfold vc at h; exact h.elim
  | .goto l, nx, T, O, K, h => by unfold vc at h; exact h.elim
  | .refuse r, nx, T, O, K, h => by unfold vc at h; exact h.elim

end Go.Eng
