/- Contracts of functions of the given program, and the plain laws that they lean on. -/
import Derived.Test.YtdcbbmnihcfdlaaA18
set_option linter.unusedVariables false
set_option linter.unusedSimpArgs false
set_option linter.unnecessarySimpa false
set_option linter.constructorNameAsVariable false
set_option linter.all false
open Go.Proofs Go.Eng.Tab
namespace Go.Eng
set_option maxRecDepth 100000
set_option maxHeartbeats 4000000
attribute [local irreducible] SWP LWP CallOK Spec Gives Bd EqT
theorem fewB_len {ts : List Trip} (h : fewB ts = true) : ts.length ≤ 10 := by
  simp only [fewB, Bool.and_eq_true, decide_eq_true_eq] at h; exact h.2
theorem fewB_mem {ts : List Trip} (h : fewB ts = true) : ∀ t ∈ ts, fewT t = true := by
  have hl := fewB_len h
  simp only [fewB, Bool.and_eq_true, List.all_eq_true] at h
  intro t ht
  exact h.1 t (by rw [List.take_of_length_le (by omega)]; exact ht)
theorem fewT_few {t : Trip} (h : fewT t = true) : few t := by
  simp only [fewT, Bool.and_eq_true, decide_eq_true_eq] at h
  exact ⟨by omega, by omega⟩
theorem oneRows_trip : ∀ l : List Trip, oneRows (l.map cTrip) = true := oneRows_map (f := cTrip) fun _ => rfl
theorem rem_bounds {a : Int} {n : Nat} (hn : n ≠ 0) : 0 ≤ a % (n : Int) ∧ a % (n : Int) < n := ⟨Int.emod_nonneg _ (by omega), Int.emod_lt_of_pos _ (by omega)⟩
theorem t6 (ts : List Trip) (b : Int) (hb : 0 ≤ b ∧ b ≤ 255) (hlen : ts.length ≤ 9223372036854775807) : Fun Try.prog 6 [.rd 7 (ts.map cTrip), .v (.int .u8 b)] (B true) := by
  refine Fun.walk pf6 rfl (Nat.le_of_ble_eq_true rfl) fun c hP hn hr => ?_
  obtain ⟨P_, n_, w0_, F_, Y_, r0_⟩ := c; subst hP; subst hn
  have eL := lmap ts cTrip
  have hw : 0 ≤ IntKind.i64.wrap b ∧ IntKind.i64.wrap b ≤ 255 := by rw [wrap_in (by simp only [Eng.lo]; omega) (by simp only [Eng.hi]; omega)]; exact hb
  by_cases hfew : fewB ts = true
  · have hl := fewB_len hfew
    have hb2 : ∀ t ∈ ts, few t := fun t ht => fewT_few (fewB_mem hfew t ht)
    by_cases h0 : ts.length = 0
    · repeat' (conv => whnf); first | refine And.intro rfl ?_ | ((refine And.intro (?_ : (_ + _) * _ ≤ 140737488355328) ?_); (focus (simp only [by41, List.length_map, List.length_take, List.length_drop, List.length_append, List.length_cons, List.length_nil]; omega))) | refine And.intro (Nat.le_of_ble_eq_true rfl) ?_ | refine And.intro ⟨rfl, rfl⟩ ?_ | refine And.intro ⟨rfl, Nat.le_of_ble_eq_true rfl⟩ ?_ | refine And.intro ⟨rfl, rfl, Nat.le_of_ble_eq_true rfl⟩ ?_ | refine And.intro ⟨Nat.le_of_ble_eq_true rfl, Nat.le_of_ble_eq_true rfl, rfl, rfl, rfl⟩ ?_ | refine And.intro ⟨Nat.le_of_ble_eq_true rfl, rfl, rfl, rfl, Nat.le_of_ble_eq_true rfl, rfl⟩ ?_ | refine And.intro trivial ?_ | refine And.intro ⟨Nat.le_of_ble_eq_true rfl, Nat.le_of_ble_eq_true rfl, rfl, oneRows_map (fun _ => rfl) _, rfl⟩ ?_ | refine And.intro ⟨Nat.le_of_ble_eq_true rfl, Nat.le_of_ble_eq_true rfl, rfl, oneRows_dt (fun _ => rfl) _ _ _, rfl⟩ ?_ | refine And.intro ⟨rfl, bd8⟩ ?_ | refine And.intro ⟨rfl, bd9⟩ ?_ | refine And.intro ⟨rfl, bd10⟩ ?_ | refine And.intro ⟨rfl, bd15⟩ ?_ | refine region_ok (id := 4) (.qp 1 <| .qp 2 <| .qp 3 <| .qp 5 <| .qp 6 <| .qp 7 <| .one 0 false <| .one 4 false <| .one 8 true <| .qp 9 <| .done) [8] mixed (by kernel_rfl) ?_ | refine SWP.go [] rfl ?_ | refine Fun.callb (t8 ts) rfl (fun h => ?_) (fun h => ?_) | refine Fun.call t9 rfl rfl ?_ | refine Gives.pure rfl ?_ | ((refine And.intro (fun h => ?_) (fun h => ?_)) <;> try (exfalso; omega)) | (refine And.intro ?_ ?_; (focus (first | omega | (simp only [Eng.lo, Eng.hi, List.length_map] at *; omega) | (refine ⟨?_, ?_⟩ <;> first | rfl | omega | (simp only [Eng.lo, Eng.hi, List.length_map] at *; omega)) | (simp only [by41, List.length_map, List.length_take, List.length_drop, List.length_append, List.length_cons, List.length_nil]; omega)))) | refine And.intro ?_ ?_ | fail
      all_goals first
        | exact ⟨⟨rfl, rfl, rfl⟩⟩
        | (exfalso; omega)
        | (exfalso; simp_all; done)
    · have hm := rem_bounds (a := IntKind.i64.wrap b) (n := (ts.map cTrip).length) (by omega)
      repeat' (conv => whnf); first | refine And.intro rfl ?_ | ((refine And.intro (?_ : (_ + _) * _ ≤ 140737488355328) ?_); (focus (simp only [by41, List.length_map, List.length_take, List.length_drop, List.length_append, List.length_cons, List.length_nil]; omega))) | refine And.intro (Nat.le_of_ble_eq_true rfl) ?_ | refine And.intro ⟨rfl, rfl⟩ ?_ | refine And.intro ⟨rfl, Nat.le_of_ble_eq_true rfl⟩ ?_ | refine And.intro ⟨rfl, rfl, Nat.le_of_ble_eq_true rfl⟩ ?_ | refine And.intro ⟨Nat.le_of_ble_eq_true rfl, Nat.le_of_ble_eq_true rfl, rfl, rfl, rfl⟩ ?_ | refine And.intro ⟨Nat.le_of_ble_eq_true rfl, rfl, rfl, rfl, Nat.le_of_ble_eq_true rfl, rfl⟩ ?_ | refine And.intro trivial ?_ | refine And.intro ⟨Nat.le_of_ble_eq_true rfl, Nat.le_of_ble_eq_true rfl, rfl, oneRows_map (fun _ => rfl) _, rfl⟩ ?_ | refine And.intro ⟨Nat.le_of_ble_eq_true rfl, Nat.le_of_ble_eq_true rfl, rfl, oneRows_dt (fun _ => rfl) _ _ _, rfl⟩ ?_ | refine And.intro ⟨rfl, bd8⟩ ?_ | refine And.intro ⟨rfl, bd9⟩ ?_ | refine And.intro ⟨rfl, bd10⟩ ?_ | refine And.intro ⟨rfl, bd15⟩ ?_ | refine region_ok (id := 4) (.qp 1 <| .qp 2 <| .qp 3 <| .qp 5 <| .qp 6 <| .qp 7 <| .one 0 false <| .one 4 false <| .one 8 true <| .qp 9 <| .done) [8] mixed (by kernel_rfl) ?_ | refine SWP.go [6,5] rfl ?_ | refine Fun.callb (t8 ts) rfl (fun h => ?_) (fun h => ?_) | ((refine And.intro (fun h => ?_) (fun h => ?_)) <;> try (exfalso; omega)) | (refine And.intro ?_ ?_; (focus (first | omega | (simp only [Eng.lo, Eng.hi, List.length_map] at *; omega) | (refine ⟨?_, ?_⟩ <;> first | rfl | omega | (simp only [Eng.lo, Eng.hi, List.length_map] at *; omega)) | (simp only [by41, List.length_map, List.length_take, List.length_drop, List.length_append, List.length_cons, List.length_nil]; omega)))) | refine And.intro ?_ ?_ | fail
      all_goals try (exfalso; simp_all; done)
      have hrows : ∀ m : Nat, ([] ++ ((ts.map cTrip).take ((ts.map cTrip).length : Int).toNat).drop m) ++ ((ts.map cTrip).take m).drop (Int.toNat 0) = (ts.drop m ++ ts.take m).map cTrip := by
        intro m
        have e : (ts.map cTrip).take ((ts.map cTrip).length : Int).toNat = ts.map cTrip := List.take_of_length_le (by simp)
        rw [e]; simp
      generalize hk : (IntKind.i64.wrap b % ((ts.map cTrip).length : Int)).toNat = k at *
      have hp : (ts.drop k ++ ts.take k).Perm ts := List.perm_append_comm.trans (List.Perm.of_eq (List.take_append_drop k ts))
      have hl2 : (ts.drop k ++ ts.take k).length ≤ 10 := by rw [hp.length_eq]; exact hl
      have hb3 : ∀ t ∈ ts.drop k ++ ts.take k, few t := fun t ht => hb2 t (hp.mem_iff.1 ht)
      refine SWP.next (nx' := 0) (T' := [(0, .rd 7 (ts.map cTrip)), (6, .rd 7 ((ts.drop k ++ ts.take k).map cTrip))]) (O' := []) ?_ [] hr rfl ⟨⟨rfl, rfl, trivial, ?_⟩⟩
      rotate_left
      · (repeat' (first | exact subRows_of (hrows _) (pureRows_map (fun _ => rfl) _) | exact rfl | exact trivial | exact pureRows_map (fun _ => rfl) _ | (refine subRows_of ?_ (pureRows_map (fun _ => rfl) _); first | rfl | (simp; done)) | refine subRows_app _ _ _ (pureRows_map (fun _ => rfl) _) ?_ | (conv => whnf); first | refine And.intro ?_ ?_ | (simp only [List.length_map]; done) | (congr 1; omega) | (congr 1; simp; done) | fail))
      have c1 := check_perm hp
      have c2 := t15 ts (by omega) hb2
      have c3 := t15 (ts.drop k ++ ts.take k) (by omega) hb3
      rw [c1] at c3
      generalize check ts = r1 at *
      generalize (check (ts.drop k ++ ts.take k)).1 = r2 at *
      repeat' (conv => whnf); first | refine And.intro rfl ?_ | ((refine And.intro (?_ : (_ + _) * _ ≤ 140737488355328) ?_); (focus (simp only [by41, List.length_map, List.length_take, List.length_drop, List.length_append, List.length_cons, List.length_nil]; omega))) | refine And.intro (Nat.le_of_ble_eq_true rfl) ?_ | refine And.intro ⟨rfl, rfl⟩ ?_ | refine And.intro ⟨rfl, Nat.le_of_ble_eq_true rfl⟩ ?_ | refine And.intro ⟨rfl, rfl, Nat.le_of_ble_eq_true rfl⟩ ?_ | refine And.intro ⟨Nat.le_of_ble_eq_true rfl, Nat.le_of_ble_eq_true rfl, rfl, rfl, rfl⟩ ?_ | refine And.intro ⟨Nat.le_of_ble_eq_true rfl, rfl, rfl, rfl, Nat.le_of_ble_eq_true rfl, rfl⟩ ?_ | refine And.intro trivial ?_ | refine And.intro ⟨Nat.le_of_ble_eq_true rfl, Nat.le_of_ble_eq_true rfl, rfl, oneRows_map (fun _ => rfl) _, rfl⟩ ?_ | refine And.intro ⟨Nat.le_of_ble_eq_true rfl, Nat.le_of_ble_eq_true rfl, rfl, oneRows_dt (fun _ => rfl) _ _ _, rfl⟩ ?_ | refine And.intro ⟨rfl, bd8⟩ ?_ | refine And.intro ⟨rfl, bd9⟩ ?_ | refine And.intro ⟨rfl, bd10⟩ ?_ | refine And.intro ⟨rfl, bd15⟩ ?_ | refine region_ok (id := 4) (.qp 1 <| .qp 2 <| .qp 3 <| .qp 5 <| .qp 6 <| .qp 7 <| .one 0 false <| .one 4 false <| .one 8 true <| .qp 9 <| .done) [8] mixed (by kernel_rfl) ?_ | refine SWP.go [] rfl ?_ | refine Fun.call (t10 ts (by omega) hb2) rfl rfl ?_ | refine Fun.call (t10 (ts.drop k ++ ts.take k) (by omega) hb3) rfl rfl ?_ | refine Fun.call c2 rfl rfl ?_ | refine Fun.call c3 rfl rfl ?_ | refine Fun.call t9 rfl rfl ?_ | refine Gives.pure rfl ?_ | ((refine And.intro (fun h => ?_) (fun h => ?_)) <;> try (exfalso; omega)) | (refine And.intro ?_ ?_; (focus (first | omega | (simp only [Eng.lo, Eng.hi, List.length_map] at *; omega) | (refine ⟨?_, ?_⟩ <;> first | rfl | omega | (simp only [Eng.lo, Eng.hi, List.length_map] at *; omega)) | (simp only [by41, List.length_map, List.length_take, List.length_drop, List.length_append, List.length_cons, List.length_nil]; omega)))) | refine And.intro ?_ ?_ | fail
      all_goals first
        | exact ⟨⟨rfl, rfl, rfl⟩⟩
        | (exfalso; omega)
  · repeat' (conv => whnf); first | refine And.intro rfl ?_ | ((refine And.intro (?_ : (_ + _) * _ ≤ 140737488355328) ?_); (focus (simp only [by41, List.length_map, List.length_take, List.length_drop, List.length_append, List.length_cons, List.length_nil]; omega))) | refine And.intro (Nat.le_of_ble_eq_true rfl) ?_ | refine And.intro ⟨rfl, rfl⟩ ?_ | refine And.intro ⟨rfl, Nat.le_of_ble_eq_true rfl⟩ ?_ | refine And.intro ⟨rfl, rfl, Nat.le_of_ble_eq_true rfl⟩ ?_ | refine And.intro ⟨Nat.le_of_ble_eq_true rfl, Nat.le_of_ble_eq_true rfl, rfl, rfl, rfl⟩ ?_ | refine And.intro ⟨Nat.le_of_ble_eq_true rfl, rfl, rfl, rfl, Nat.le_of_ble_eq_true rfl, rfl⟩ ?_ | refine And.intro trivial ?_ | refine And.intro ⟨Nat.le_of_ble_eq_true rfl, Nat.le_of_ble_eq_true rfl, rfl, oneRows_map (fun _ => rfl) _, rfl⟩ ?_ | refine And.intro ⟨Nat.le_of_ble_eq_true rfl, Nat.le_of_ble_eq_true rfl, rfl, oneRows_dt (fun _ => rfl) _ _ _, rfl⟩ ?_ | refine And.intro ⟨rfl, bd8⟩ ?_ | refine And.intro ⟨rfl, bd9⟩ ?_ | refine And.intro ⟨rfl, bd10⟩ ?_ | refine And.intro ⟨rfl, bd15⟩ ?_ | refine region_ok (id := 4) (.qp 1 <| .qp 2 <| .qp 3 <| .qp 5 <| .qp 6 <| .qp 7 <| .one 0 false <| .one 4 false <| .one 8 true <| .qp 9 <| .done) [8] mixed (by kernel_rfl) ?_ | refine SWP.go [] rfl ?_ | refine Fun.callb (t8 ts) rfl (fun h => ?_) (fun h => ?_) | refine Fun.call t9 rfl rfl ?_ | refine Gives.pure rfl ?_ | ((refine And.intro (fun h => ?_) (fun h => ?_)) <;> try (exfalso; omega)) | (refine And.intro ?_ ?_; (focus (first | omega | (simp only [Eng.lo, Eng.hi, List.length_map] at *; omega) | (refine ⟨?_, ?_⟩ <;> first | rfl | omega | (simp only [Eng.lo, Eng.hi, List.length_map] at *; omega)) | (simp only [by41, List.length_map, List.length_take, List.length_drop, List.length_append, List.length_cons, List.length_nil]; omega)))) | refine And.intro ?_ ?_ | fail
    all_goals first
      | exact ⟨⟨rfl, rfl, rfl⟩⟩
      | (exfalso; simp_all; done)
end Go.Eng
