/- A part of the engine that walks a function of the given program: sound rules, no statement of its own. -/
import Derived.Test.YtdcbbmnihcfdlaaEng3
import Derived.Laws.StructEq
import Derived.Laws.Strings
import Derived.Laws.BitsLemmas
set_option linter.unusedVariables false
set_option linter.unusedSimpArgs false
set_option linter.unnecessarySimpa false
set_option linter.constructorNameAsVariable false
set_option linter.all false
set_option linter.unusedVariables false
set_option linter.unusedSimpArgs false
namespace Go.Eng

def lo : IntKind → Int
  | .i8 => -128 | .i16 => -32768 | .i32 => -2147483648 | .i64 => -9223372036854775808 | _ => 0
def hi : IntKind → Int
  | .i8 => 127 | .i16 => 32767 | .i32 => 2147483647 | .i64 => 9223372036854775807
  | .u8 => 255 | .u16 => 65535 | .u32 => 4294967295 | .u64 => 18446744073709551615
theorem wrap_in {k : IntKind} {n : Int} (h1 : lo k ≤ n) (h2 : n ≤ hi k) : k.wrap n = n := by
  cases k <;> simp only [lo, hi] at h1 h2 <;> simp [IntKind.wrap, IntKind.bits, IntKind.signed] <;> (try split) <;> omega

/-! ### Which way a test goes -/
def vcmp (p : Prop) (k : SV → Prop) : Prop := (p → k (.v (.bool true))) ∧ (¬ p → k (.v (.bool false)))
theorem vcmp_sound {p : Prop} [Decidable p] {k : SV → Prop} (h : vcmp p k) : k (.v (.bool (decide p))) := by
  by_cases hp : p
  · simpa [hp] using h.1 hp
  · simpa [hp] using h.2 hp

/-! ### Equality of cells -/
inductive Lf where
  | i (k : IntKind)
  | s
  | b
def LfV : Lf → Value → Prop
  | .i k, v => ∃ n, v = .int k n
  | .s, v => ∃ x, v = .string x
  | .b, v => ∃ x, v = .bool x
def LfVs : List Lf → List Value → Prop
  | [], vs => vs = []
  | l :: ls, vs => ∃ v vs', vs = v :: vs' ∧ LfV l v ∧ LfVs ls vs'
/-- '==' at type t is the equality of its cells. -/
def EqT (P : Program) (t : TypeId) (ls : List Lf) : Prop :=
  ∀ (x y : Operand) (xs ys : List Value) (w : World), LfVs ls xs → LfVs ls ys → ∃ r : Bool, (r = true ↔ xs = ys) ∧
    ((do eqGuard .eql t x y (.agg xs.toArray) (.agg ys.toArray); binOp .eql t (.agg xs.toArray) (.agg ys.toArray)) : Sem Value).run P w = .ok (.bool r) w ∧
    ((do eqGuard .neq t x y (.agg xs.toArray) (.agg ys.toArray); binOp .neq t (.agg xs.toArray) (.agg ys.toArray)) : Sem Value).run P w = .ok (.bool (!r)) w

/-- The leaves of cells, and the test that two rows of cells are one. -/
def leaf : SV → Option Lf
  | .v (.int k _) => some (.i k)
  | .v (.string _) => some .s
  | .v (.bool _) => some .b
  | _ => none
def leaves : List SV → Option (List Lf)
  | [] => some []
  | x :: xs => match leaf x, leaves xs with
    | some a, some b => some (a :: b)
    | _, _ => none
def ceq : List SV → List SV → Prop
  | .v (.int _ a) :: xs, .v (.int _ b) :: ys => a = b ∧ ceq xs ys
  | .v (.string a) :: xs, .v (.string b) :: ys => a = b ∧ ceq xs ys
  | .v (.bool a) :: xs, .v (.bool b) :: ys => a = b ∧ ceq xs ys
  | [], [] => True
  | _, _ => False

theorem leaves_vals {w : World} {ρ : List Value} {A : Nat → Prop} : ∀ {xs : List SV} {us : List Value} {ls : List Lf}, DenAll w ρ A xs us → leaves xs = some ls → LfVs ls us
  | [], us, ls, h, hl => by
    simp only [DenAll] at h
    simp only [leaves, Option.some.injEq] at hl
    subst h hl; rfl
  | x :: xs, us, ls, h, hl => by
    simp only [DenAll] at h
    obtain ⟨u, us', rfl, h2, h3⟩ := h
    simp only [leaves] at hl
    split at hl
    · rename_i a b ha hb
      simp only [Option.some.injEq] at hl
      subst hl
      refine ⟨u, us', rfl, ?_, leaves_vals h3 hb⟩
      unfold leaf at ha
      split at ha
      · simp only [Den] at h2; cases ha; exact ⟨_, h2⟩
      · simp only [Den] at h2; cases ha; exact ⟨_, h2⟩
      · simp only [Den] at h2; cases ha; exact ⟨_, h2⟩
      · cases ha
    · cases hl
theorem ceq_vals {w : World} {ρ : List Value} {A : Nat → Prop} : ∀ {xs ys : List SV} {us vs : List Value} {ls : List Lf}, DenAll w ρ A xs us → DenAll w ρ A ys vs → leaves xs = some ls → leaves ys = some ls → (ceq xs ys ↔ us = vs)
  | [], [], us, vs, ls, h, h', _, _ => by
    simp only [DenAll] at h h'
    subst h h'; simp [ceq]
  | [], y :: ys, us, vs, ls, h, h', hl, hl' => by
    simp only [leaves, Option.some.injEq] at hl
    subst hl
    simp only [leaves] at hl'
    split at hl' <;> cases hl'
  | x :: xs, [], us, vs, ls, h, h', hl, hl' => by
    simp only [leaves, Option.some.injEq] at hl'
    subst hl'
    simp only [leaves] at hl
    split at hl <;> cases hl
  | x :: xs, y :: ys, us, vs, ls, h, h', hl, hl' => by
    simp only [DenAll] at h h'
    obtain ⟨u, us', rfl, h2, h3⟩ := h
    obtain ⟨v, vs', rfl, h2', h3'⟩ := h'
    simp only [leaves] at hl hl'
    split at hl
    case h_2 => cases hl
    rename_i a b ha hb
    split at hl'
    case h_2 => cases hl'
    rename_i a' b' ha' hb'
    simp only [Option.some.injEq] at hl hl'
    subst hl
    simp only [List.cons.injEq] at hl'
    obtain ⟨rfl, rfl⟩ := hl'
    have ih := ceq_vals h3 h3' hb hb'
    unfold leaf at ha
    split at ha <;> cases ha <;> (unfold leaf at ha'; split at ha' <;> cases ha' <;> (simp only [Den] at h2 h2'; subst h2 h2'; simp [ceq, ih]))

/-! ### Operations on two values -/
def vint (op : BinOp) (i : IntKind) (x : Int) (j : IntKind) (y : Int) (k : SV → Prop) : Prop :=
  match op with
  | .add => i = j ∧ (lo i ≤ x + y ∧ x + y ≤ hi i) ∧ k (.v (.int i (x + y)))
  | .sub => i = j ∧ (lo i ≤ x - y ∧ x - y ≤ hi i) ∧ k (.v (.int i (x - y)))
  | .mul => i = j ∧ (lo i ≤ x * y ∧ x * y ≤ hi i) ∧ k (.v (.int i (x * y)))
  | .quo => i = j ∧ (0 ≤ x ∧ x ≤ hi i ∧ 0 < y) ∧ k (.v (.int i (x / y)))
  | .rem => i = j ∧ (0 ≤ x ∧ 0 < y) ∧ k (.v (.int i (x % y)))
  | .and => i = j ∧ k (.v (.int i (bits .and i x y)))
  | .or => i = j ∧ k (.v (.int i (bits .or i x y)))
  | .xor => i = j ∧ k (.v (.int i (bits .xor i x y)))
  | .shl => 0 ≤ y ∧ k (.v (.int i (i.wrap (x * 2 ^ min y.toNat i.bits))))
  | .shr => 0 ≤ y ∧ k (.v (.int i (x.fdiv (2 ^ min y.toNat i.bits))))
  | .lss => i = j ∧ vcmp (x < y) k
  | .leq => i = j ∧ vcmp (x ≤ y) k
  | .gtr => i = j ∧ vcmp (y < x) k
  | .geq => i = j ∧ vcmp (y ≤ x) k
  | .eql => i = j ∧ vcmp (x = y) k
  | .neq => i = j ∧ vcmp (x ≠ y) k
  | _ => False
def vstr (op : BinOp) (x y : ByteArray) (k : SV → Prop) : Prop :=
  match op with
  | .add => x.size + y.size ≤ 9223372036854775807 ∧ k (.v (.string (x ++ y)))
  | .eql => vcmp (x = y) k
  | .neq => vcmp (x ≠ y) k
  | .lss => vcmp (Op.bytesLess x.data.toList y.data.toList = true) k
  | .geq => vcmp (Op.bytesLess x.data.toList y.data.toList = false) k
  | _ => False
def vbin (P : Program) (op : BinOp) (t : TypeId) (a b : SV) (k : SV → Prop) : Prop :=
  match a, b with
  | .v (.int i x), .v (.int j y) => vint op i x j y k
  | .v (.string x), .v (.string y) => vstr op x y k
  | .v (.bool x), .v (.bool y) => match op with
    | .eql => tk P t = .bool ∧ vcmp (x = y) k
    | .neq => tk P t = .bool ∧ vcmp (x ≠ y) k
    | _ => False
  | .agg xs, .agg ys => match op with
    | .eql => (∃ ls, leaves xs = some ls ∧ leaves ys = some ls ∧ EqT P t ls) ∧ vcmp (ceq xs ys) k
    | .neq => (∃ ls, leaves xs = some ls ∧ leaves ys = some ls ∧ EqT P t ls) ∧ vcmp (¬ ceq xs ys) k
    | _ => False
  | .ptr _ _, .v (.pointer none) => match op with
    | .eql => (∃ e, tk P t = .ptr e) ∧ k (.v (.bool false))
    | .neq => (∃ e, tk P t = .ptr e) ∧ k (.v (.bool true))
    | _ => False
  | .v (.pointer none), .v (.pointer none) => match op with
    | .eql => (∃ e, tk P t = .ptr e) ∧ k (.v (.bool true))
    | .neq => (∃ e, tk P t = .ptr e) ∧ k (.v (.bool false))
    | _ => False
  | .v (.slice none 0 0), .v (.slice none 0 0) => match op with
    | .eql => (∃ e sz, tk P t = .sl e sz) ∧ k (.v (.bool true))
    | .neq => (∃ e sz, tk P t = .sl e sz) ∧ k (.v (.bool false))
    | _ => False
  | .rd _ rows, .v (.slice none 0 0) => match op with
    | .eql => (∃ e sz, tk P t = .sl e sz) ∧ (rows.length = 0 → k (.v (.bool true))) ∧ k (.v (.bool false))
    | .neq => (∃ e sz, tk P t = .sl e sz) ∧ (rows.length = 0 → k (.v (.bool false))) ∧ k (.v (.bool true))
    | _ => False
  | _, _ => False

theorem beq_bytes (x y : ByteArray) : (x.toList == y.toList) = decide (x = y) := by
  rw [ByteArray.toList_eq, ByteArray.toList_eq]
  obtain ⟨⟨x⟩⟩ := x
  obtain ⟨⟨y⟩⟩ := y
  by_cases h : x = y
  · subst h; simp
  · simp [h]

theorem equalIn_bool {P : Program} {t : TypeId} (ht : P.underlying t = some .bool) (d : Nat) (a b : Bool) (w : World) : (Op.equalIn (d + 1) t (.bool a) (.bool b)).run P w = .ok (a == b) w := by
  simp only [Op.equalIn, Sem.run_bind, run_underlying ht, Result.andThen_ok, Sem.run_pure]
theorem equalIn_ptr_nil {P : Program} {t e : TypeId} (ht : P.underlying t = some (.pointer e)) (d : Nat) (a : Addr) (w : World) : (Op.equalIn (d + 1) t (.pointer (some a)) (.pointer none)).run P w = .ok false w := by
  simp only [Op.equalIn, Sem.run_bind, run_underlying ht, Result.andThen_ok, Sem.run_pure]
theorem equalIn_nil_nil {P : Program} {t e : TypeId} (ht : P.underlying t = some (.pointer e)) (d : Nat) (w : World) : (Op.equalIn (d + 1) t (.pointer none) (.pointer none)).run P w = .ok true w := by
  simp only [Op.equalIn, Sem.run_bind, run_underlying ht, Result.andThen_ok, Sem.run_pure, Option.isNone]
theorem equal_bool {P : Program} {t : TypeId} (ht : P.underlying t = some .bool) (a b : Bool) (w : World) : (Op.equal t (.bool a) (.bool b)).run P w = .ok (a == b) w := equalIn_bool ht 9999 a b w
theorem equal_ptr_nil {P : Program} {t e : TypeId} (ht : P.underlying t = some (.pointer e)) (a : Addr) (w : World) : (Op.equal t (.pointer (some a)) (.pointer none)).run P w = .ok false w := equalIn_ptr_nil ht 9999 a w
theorem equalIn_sl_nil {P : Program} {t e : TypeId} (ht : P.underlying t = some (.slice e)) (d : Nat) (p : Option Addr) (n c : Nat) (w : World) : (Op.equalIn (d + 1) t (.slice p n c) (.slice none 0 0)).run P w = .ok p.isNone w := by
  simp only [Op.equalIn, Sem.run_bind, run_underlying ht, Result.andThen_ok, Sem.run_pure]
  cases p <;> rfl
theorem equal_sl_nil {P : Program} {t e : TypeId} (ht : P.underlying t = some (.slice e)) (p : Option Addr) (n c : Nat) (w : World) : (Op.equal t (.slice p n c) (.slice none 0 0)).run P w = .ok p.isNone w := equalIn_sl_nil ht 9999 p n c w
theorem equal_nil_nil {P : Program} {t e : TypeId} (ht : P.underlying t = some (.pointer e)) (w : World) : (Op.equal t (.pointer none) (.pointer none)).run P w = .ok true w := equalIn_nil_nil ht 9999 w

section
variable {P : Program} {w : World} {ρ : List Value} {A : Nat → Prop} {t : TypeId} {k : SV → Prop} (x y : Operand)
abbrev BinRun (P : Program) (op : BinOp) (t : TypeId) (x y : Operand) (u v z : Value) : Prop := ∀ w', ((do eqGuard op t x y u v; binOp op t u v) : Sem Value).run P w' = .ok z w'
theorem vret {op : BinOp} {u v z : Value} (hk : k (.v z)) (h : BinRun P op t x y u v z) : ∃ r z, k r ∧ Den w ρ A r z ∧ BinRun P op t x y u v z := ⟨_, z, hk, by simp [Den], h⟩

theorem vint_sound {op : BinOp} {i j : IntKind} {m n : Int} (h : vint op i m j n k) : ∃ r z, k r ∧ Den w ρ A r z ∧ BinRun P op t x y (.int i m) (.int j n) z := by
  unfold vint at h
  cases op <;> dsimp only at h
  case add => obtain ⟨rfl, ⟨h1, h2⟩, hk⟩ := h; exact vret x y hk fun w' => by simp [eqGuard, binOp, Op.intArith, wrap_in h1 h2]
  case sub => obtain ⟨rfl, ⟨h1, h2⟩, hk⟩ := h; exact vret x y hk fun w' => by simp [eqGuard, binOp, Op.intArith, wrap_in h1 h2]
  case mul => obtain ⟨rfl, ⟨h1, h2⟩, hk⟩ := h; exact vret x y hk fun w' => by simp [eqGuard, binOp, Op.intArith, wrap_in h1 h2]
  case quo =>
    obtain ⟨rfl, ⟨h0, h1, h2⟩, hk⟩ := h
    refine vret x y hk fun w' => ?_
    have e : m.tdiv n = m / n := Int.tdiv_eq_ediv_of_nonneg h0
    have hl : lo i ≤ m / n := Int.le_trans (by cases i <;> simp [lo]) (Int.ediv_nonneg h0 (by omega))
    have hh : m / n ≤ hi i := Int.le_trans (Int.ediv_le_self _ h0) h1
    simp [eqGuard, binOp, Op.intDiv, show n ≠ 0 by omega, e, wrap_in hl hh]
  case rem =>
    obtain ⟨rfl, ⟨h0, h2⟩, hk⟩ := h
    refine vret x y hk fun w' => ?_
    have e : m.tmod n = m % n := Int.tmod_eq_emod_of_nonneg h0
    simp [eqGuard, binOp, Op.intDiv, show n ≠ 0 by omega, e]
  case and => obtain ⟨rfl, hk⟩ := h; exact vret x y hk fun w' => by simp only [eqGuard, binOp, Op.intBits, bits, Bool.not_false, if_true, ne_eq, not_true_eq_false, if_false, Sem.run_bind, Sem.run_pure, Result.andThen_ok]
  case or => obtain ⟨rfl, hk⟩ := h; exact vret x y hk fun w' => by simp only [eqGuard, binOp, Op.intBits, bits, Bool.not_false, if_true, ne_eq, not_true_eq_false, if_false, Sem.run_bind, Sem.run_pure, Result.andThen_ok]
  case xor => obtain ⟨rfl, hk⟩ := h; exact vret x y hk fun w' => by simp only [eqGuard, binOp, Op.intBits, bits, Bool.not_false, if_true, ne_eq, not_true_eq_false, if_false, Sem.run_bind, Sem.run_pure, Result.andThen_ok]
  case shl => obtain ⟨h0, hk⟩ := h; exact vret x y hk fun w' => by simp [eqGuard, binOp, Op.shift, Int.not_lt.2 h0]
  case shr => obtain ⟨h0, hk⟩ := h; exact vret x y hk fun w' => by simp [eqGuard, binOp, Op.shift, Int.not_lt.2 h0]
  case lss => obtain ⟨rfl, hk⟩ := h; exact vret x y (vcmp_sound hk) fun w' => by simp [eqGuard, binOp, Op.intCmp]
  case leq => obtain ⟨rfl, hk⟩ := h; exact vret x y (vcmp_sound hk) fun w' => by simp [eqGuard, binOp, Op.intCmp]
  case gtr => obtain ⟨rfl, hk⟩ := h; exact vret x y (vcmp_sound hk) fun w' => by simp [eqGuard, binOp, Op.intCmp]
  case geq => obtain ⟨rfl, hk⟩ := h; exact vret x y (vcmp_sound hk) fun w' => by simp [eqGuard, binOp, Op.intCmp]
  case eql => obtain ⟨rfl, hk⟩ := h; exact vret x y (vcmp_sound hk) fun w' => by simp [eqGuard, binOp, Op.intCmp]; rfl
  case neq => obtain ⟨rfl, hk⟩ := h; exact vret x y (vcmp_sound hk) fun w' => by simp [eqGuard, binOp, Op.intCmp]; rfl

theorem vstr_sound {op : BinOp} {m n : ByteArray} (h : vstr op m n k) : ∃ r z, k r ∧ Den w ρ A r z ∧ BinRun P op t x y (.string m) (.string n) z := by
  unfold vstr at h
  cases op <;> dsimp only at h
  case add =>
    obtain ⟨h1, hk⟩ := h
    refine vret x y hk fun w' => ?_
    have h2 : ¬ (((m.size + n.size : Nat) : Int) > IntKind.i64.max) := by simp [IntKind.max, IntKind.bits, IntKind.signed]; omega
    simp only [eqGuard, binOp, Op.stringOp, if_neg h2, Bool.not_false, if_true, Sem.run_bind, Sem.run_pure, Result.andThen_ok]
  case eql => exact vret x y (vcmp_sound h) fun w' => by simp only [eqGuard, binOp, Op.stringOp, beq_bytes]; rfl
  case neq => exact vret x y (vcmp_sound h) fun w' => by simp [eqGuard, binOp, Op.stringOp, beq_bytes]
  case lss => exact vret x y (vcmp_sound h) fun w' => by simp [eqGuard, binOp, Op.stringOp, ByteArray.toList_eq]
  case geq => exact vret x y (vcmp_sound h) fun w' => by simp [eqGuard, binOp, Op.stringOp, ByteArray.toList_eq]

theorem vbin_sound {op : BinOp} {a b : SV} {u v : Value} (ha : Den w ρ A a u) (hb : Den w ρ A b v) (h : vbin P op t a b k) : ∃ r z, k r ∧ Den w ρ A r z ∧ BinRun P op t x y u v z := by
  unfold vbin at h
  split at h
  · simp only [Den] at ha hb; subst ha hb; exact vint_sound x y h
  · simp only [Den] at ha hb; subst ha hb; exact vstr_sound x y h
  · rename_i m_ n_
    simp only [Den] at ha hb; subst ha hb
    cases op <;> dsimp only at h
    case eql => obtain ⟨ht, hk⟩ := h; exact vret x y (vcmp_sound hk) fun w' => by simp only [eqGuard, binOp, Bool.not_true, Bool.false_eq_true, if_false, Sem.run_bind, Sem.run_pure, Result.andThen_ok, equal_bool (tk_bool ht)]; rfl
    case neq => obtain ⟨ht, hk⟩ := h; exact vret x y (vcmp_sound hk) fun w' => by simp only [eqGuard, binOp, Bool.not_true, Bool.false_eq_true, if_false, Sem.run_bind, Sem.run_pure, Result.andThen_ok, equal_bool (tk_bool ht)]; cases m_ <;> cases n_ <;> rfl
  · simp only [Den] at ha hb
    obtain ⟨us, rfl, ha⟩ := ha
    obtain ⟨vs, rfl, hb⟩ := hb
    cases op <;> dsimp only at h
    case eql =>
      obtain ⟨⟨ls, hl, hl', he⟩, hk⟩ := h
      obtain ⟨r, hr, h1, h2⟩ := he x y us vs w (leaves_vals ha hl) (leaves_vals hb hl')
      have hc := ceq_vals ha hb hl hl'
      refine vret x y (z := .bool r) ?_ fun w' => ?_
      · cases r
        · exact hk.2 fun hc' => by have := hr.2 (hc.1 hc'); cases this
        · exact hk.1 (hc.2 (hr.1 rfl))
      · obtain ⟨r', hr', h1', h2'⟩ := he x y us vs w' (leaves_vals ha hl) (leaves_vals hb hl')
        have : r' = r := by rw [Bool.eq_iff_iff, hr, hr']
        rw [← this]; exact h1'
    case neq =>
      obtain ⟨⟨ls, hl, hl', he⟩, hk⟩ := h
      obtain ⟨r, hr, h1, h2⟩ := he x y us vs w (leaves_vals ha hl) (leaves_vals hb hl')
      have hc := ceq_vals ha hb hl hl'
      refine vret x y (z := .bool (!r)) ?_ fun w' => ?_
      · cases r
        · exact hk.1 fun hc' => by have := hr.2 (hc.1 hc'); cases this
        · exact hk.2 fun hn => hn (hc.2 (hr.1 rfl))
      · obtain ⟨r', hr', h1', h2'⟩ := he x y us vs w' (leaves_vals ha hl) (leaves_vals hb hl')
        have : r' = r := by rw [Bool.eq_iff_iff, hr, hr']
        rw [← this]; exact h2'
  · simp only [Den] at ha hb
    obtain ⟨b, _, rfl⟩ := ha
    subst hb
    cases op <;> dsimp only at h
    case eql => obtain ⟨⟨e, ht⟩, hk⟩ := h; exact vret x y hk fun w' => by simp [eqGuard, binOp, equal_ptr_nil (tk_ptr ht)]
    case neq => obtain ⟨⟨e, ht⟩, hk⟩ := h; exact vret x y hk fun w' => by simp [eqGuard, binOp, equal_ptr_nil (tk_ptr ht)]
  · simp only [Den] at ha hb; subst ha hb
    cases op <;> dsimp only at h
    case eql => obtain ⟨⟨e, ht⟩, hk⟩ := h; exact vret x y hk fun w' => by simp [eqGuard, binOp, equal_nil_nil (tk_ptr ht)]
    case neq => obtain ⟨⟨e, ht⟩, hk⟩ := h; exact vret x y hk fun w' => by simp [eqGuard, binOp, equal_nil_nil (tk_ptr ht)]
  · simp only [Den] at ha hb; subst ha hb
    cases op <;> dsimp only at h
    case eql => obtain ⟨⟨e, sz, ht⟩, hk⟩ := h; exact vret x y hk fun w' => by simp [eqGuard, binOp, equal_sl_nil (tk_sl ht).1]
    case neq => obtain ⟨⟨e, sz, ht⟩, hk⟩ := h; exact vret x y hk fun w' => by simp [eqGuard, binOp, equal_sl_nil (tk_sl ht).1]
  · simp only [Den, Pd] at ha hb
    obtain ⟨p, cc, rfl, hl, _, hr⟩ := ha
    subst hb
    cases op <;> dsimp only at h
    case eql =>
      obtain ⟨⟨e, sz, ht⟩, h0, h1⟩ := h
      refine vret x y (z := .bool p.isNone) ?_ fun w' => by simp [eqGuard, binOp, equal_sl_nil (tk_sl ht).1]
      cases p with
      | none => refine h0 (Nat.eq_zero_of_not_pos fun hpos => ?_); obtain ⟨b, o, hb, _⟩ := hr hpos; cases hb
      | some a => exact h1
    case neq =>
      obtain ⟨⟨e, sz, ht⟩, h0, h1⟩ := h
      refine vret x y (z := .bool (!p.isNone)) ?_ fun w' => by simp [eqGuard, binOp, equal_sl_nil (tk_sl ht).1]
      cases p with
      | none => refine h0 (Nat.eq_zero_of_not_pos fun hpos => ?_); obtain ⟨b, o, hb, _⟩ := hr hpos; cases hb
      | some a => exact h1
  · exact h.elim
end

end Go.Eng
