/- What the parameters of the statements may be, out of their readings. -/
import Derived.Test.YtdcbbmnihcfdlaaA19
set_option linter.unusedVariables false
set_option linter.unusedSimpArgs false
set_option linter.unnecessarySimpa false
set_option linter.constructorNameAsVariable false
set_option linter.all false
open Go.Proofs Go.Eng.Tab
namespace Go.Eng
set_option maxRecDepth 100000
/-! ### The parameters of the seat -/
abbrev rI : Sh := .ik .i64
abbrev shStamp : Sh := .cons rI (.cons rI .nil)
abbrev shSeen : Sh := .cons .ss (.cons shStamp (.cons .ss .nil))
abbrev shWr : Sh := .cons .ss (.cons .ss .nil)
abbrev shTrip : Sh := .cons shStamp (.cons shStamp (.cons (.sl 4 shSeen) (.cons (.sl 2 shWr) (.cons rI .nil))))
theorem sh22 : shOf Try.prog 10 22 = some (.sl 7 shTrip) := by kernel_rfl
theorem sh41 : shOf Try.prog 10 41 = some shTrip := by kernel_rfl
theorem sh5 : shOf Try.prog 10 5 = some (.ik .u8) := by kernel_rfl
theorem sh9 : shOf Try.prog 10 9 = some .ss := by kernel_rfl
theorem ok_ik {k : IntKind} {l : List SV} (h : OkSh (.ik k) l) : ∃ n, l = [.v (.int k n)] ∧ k.min ≤ n ∧ n ≤ k.max := h
theorem ok_cons {a r : Sh} {l : List SV} (h : OkSh (.cons a r) l) : ∃ l1 l2, l = l1 ++ l2 ∧ OkSh a l1 ∧ OkSh r l2 := h
theorem ok_stamp {l : List SV} (h : OkSh shStamp l) : ∃ a b, l = [I a, I b] := by
  obtain ⟨_, _, rfl, ⟨a, rfl, _⟩, _, _, rfl, ⟨b, rfl, _⟩, rfl⟩ := h
  exact ⟨a, b, rfl⟩
theorem ok_seen {l : List SV} (h : OkSh shSeen l) : ∃ s, l = cSeen s ∧ True := by
  obtain ⟨_, _, rfl, ⟨a, rfl, _⟩, _, _, rfl, hs, _, _, rfl, ⟨v, rfl, _⟩, rfl⟩ := h
  obtain ⟨x, y, rfl⟩ := ok_stamp hs
  exact ⟨⟨a, x, y, v⟩, rfl, trivial⟩
theorem ok_wr {l : List SV} (h : OkSh shWr l) : ∃ s, l = cWr s ∧ True := by
  obtain ⟨_, _, rfl, ⟨a, rfl, _⟩, _, _, rfl, ⟨v, rfl, _⟩, rfl⟩ := h
  exact ⟨⟨a, v⟩, rfl, trivial⟩
theorem ok_trip {l : List SV} (h : OkSh shTrip l) : ∃ t, l = cTrip t ∧ True := by
  obtain ⟨_, _, rfl, h1, _, _, rfl, h2, _, _, rfl, ⟨r1, rfl, _, h3⟩, _, _, rfl, ⟨r2, rfl, _, h4⟩, _, _, rfl, ⟨o, rfl, _⟩, rfl⟩ := h
  obtain ⟨a, b, rfl⟩ := ok_stamp h1
  obtain ⟨x, y, rfl⟩ := ok_stamp h2
  obtain ⟨ls, rfl, _⟩ := rows_model cSeen fun r hr => ok_seen (h3 r hr)
  obtain ⟨lw, rfl, _⟩ := rows_model cWr fun r hr => ok_wr (h4 r hr)
  exact ⟨⟨a, b, x, y, ls, lw, o⟩, rfl, trivial⟩
theorem par22 {x : SV} (h : OkPar Try.prog 10 22 x) : ∃ ts : List Trip, x = .rd 7 (ts.map cTrip) ∧ ts.length ≤ 9223372036854775807 := by
  obtain ⟨sh, l, h1, h2, h3⟩ := h
  rw [sh22] at h1
  injection h1 with h1
  subst h1
  obtain ⟨rows, rfl, hl, hr⟩ := h2
  obtain ⟨ts, rfl, _⟩ := rows_model cTrip fun r hr' => ok_trip (hr r hr')
  rw [if_neg (by rw [show isAggT Try.prog 22 = false from by kernel_rfl]; simp)] at h3
  injection h3 with h3
  subst h3
  unfold maxLen at hl
  rw [List.length_map] at hl
  exact ⟨ts, rfl, by omega⟩
theorem par5 {x : SV} (h : OkPar Try.prog 10 5 x) : ∃ n : Int, x = .v (.int .u8 n) ∧ 0 ≤ n ∧ n ≤ 255 := by
  obtain ⟨sh, l, h1, h2, h3⟩ := h
  rw [sh5] at h1
  injection h1 with h1
  subst h1
  obtain ⟨n, rfl, h4, h5⟩ := h2
  rw [if_neg (by rw [show isAggT Try.prog 5 = false from by kernel_rfl]; simp)] at h3
  injection h3 with h3
  subst h3
  simp [IntKind.min, IntKind.max, IntKind.signed, IntKind.bits] at h4 h5
  exact ⟨n, rfl, by omega, by omega⟩
theorem par41 {x : SV} (h : OkPar Try.prog 10 41 x) : ∃ t : Trip, x = .agg (cTrip t) := by
  obtain ⟨sh, l, h1, h2, h3⟩ := h
  rw [sh41] at h1
  injection h1 with h1
  subst h1
  obtain ⟨t, rfl, _⟩ := ok_trip h2
  rw [if_pos (by rw [show isAggT Try.prog 41 = true from by kernel_rfl])] at h3
  exact ⟨t, h3⟩
end Go.Eng
