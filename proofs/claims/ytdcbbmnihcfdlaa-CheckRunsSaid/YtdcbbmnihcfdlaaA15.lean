/- Contracts of functions of the given program, and the plain laws that they lean on. -/
import Derived.Test.YtdcbbmnihcfdlaaA14
import Derived.Test.YtdcbbmnihcfdlaaA12
set_option linter.unusedVariables false
set_option linter.unusedSimpArgs false
set_option linter.unnecessarySimpa false
set_option linter.constructorNameAsVariable false
set_option linter.all false
open Go.Proofs Go.Eng.Tab
namespace Go.Eng
set_option maxRecDepth 100000
set_option maxHeartbeats 4000000
attribute [local irreducible] SWP LWP CallOK Spec Gives Bd EqT
def bt (s : ByteArray) (i : Nat) : UInt8 := s.data.toList.getD i 0
def bless (a b : ByteArray) (i : Nat) : Bool := Op.bytesLess (a.data.toList.drop i) (b.data.toList.drop i)
theorem drop_get {l : List UInt8} {i : Nat} (h : i < l.length) : l.drop i = l.getD i 0 :: l.drop (i + 1) := by
  rw [List.drop_eq_getElem_cons h, List.getD_eq_getElem?_getD, List.getElem?_eq_getElem h]; rfl
theorem size_len (s : ByteArray) : s.data.toList.length = s.size := by simp
theorem bless_end {a b : ByteArray} {i : Nat} (h : b.size ≤ i) : bless a b i = false := by
  unfold bless
  rw [List.drop_of_length_le (l := b.data.toList) (by rw [size_len]; exact h)]
  cases a.data.toList.drop i <;> rfl
theorem bless_short {a b : ByteArray} {i : Nat} (h : i < b.size) (ha : a.size ≤ i) : bless a b i = true := by
  unfold bless
  rw [List.drop_of_length_le (l := a.data.toList) (by rw [size_len]; exact ha), drop_get (l := b.data.toList) (by rw [size_len]; exact h)]
  rfl
theorem bless_step {a b : ByteArray} {i : Nat} (h : i < b.size) (ha : i < a.size) : bless a b i = (decide (bt a i < bt b i) || (bt a i == bt b i && bless a b (i + 1))) := by
  unfold bless
  rw [drop_get (l := b.data.toList) (by rw [size_len]; exact h), drop_get (l := a.data.toList) (by rw [size_len]; exact ha)]
  rfl
theorem lessB_zero (a b : ByteArray) : lessB a b = bless a b 0 := rfl
theorem u8_eq {x y : UInt8} : (x.toNat : Int) = (y.toNat : Int) ↔ x = y := by
  rw [← UInt8.toNat_inj]; omega
theorem u8_lt {x y : UInt8} : (x.toNat : Int) < (y.toNat : Int) ↔ x < y := by
  rw [UInt8.lt_iff_toNat_lt]; omega
theorem t40 (a b : ByteArray) (hb : b.size ≤ 1000) : Fun Try.prog 40 [S a, S b] (B (lessB a b)) := by
  refine Fun.walk pf40 rfl (Nat.le_of_ble_eq_true rfl) fun c hP hn hr => ?_
  obtain ⟨P_, n_, w0_, F_, Y_, r0_⟩ := c; subst hP; subst hn
  repeat' (conv => whnf); first | refine And.intro rfl ?_ | ((refine And.intro (?_ : (_ + _) * _ ≤ 140737488355328) ?_); (focus (simp only [List.length_nil, List.length_map, List.length_take, List.length_drop, List.length_append, List.length_cons, List.length_nil]; omega))) | refine And.intro (Nat.le_of_ble_eq_true rfl) ?_ | refine And.intro ⟨rfl, rfl⟩ ?_ | refine And.intro ⟨rfl, Nat.le_of_ble_eq_true rfl⟩ ?_ | refine And.intro ⟨rfl, rfl, Nat.le_of_ble_eq_true rfl⟩ ?_ | refine And.intro ⟨Nat.le_of_ble_eq_true rfl, Nat.le_of_ble_eq_true rfl, rfl, rfl, rfl⟩ ?_ | refine And.intro ⟨Nat.le_of_ble_eq_true rfl, rfl, rfl, rfl, Nat.le_of_ble_eq_true rfl, rfl⟩ ?_ | refine And.intro trivial ?_ | refine And.intro ⟨Nat.le_of_ble_eq_true rfl, Nat.le_of_ble_eq_true rfl, rfl, oneRows_map (fun _ => rfl) _, rfl⟩ ?_ | refine And.intro ⟨Nat.le_of_ble_eq_true rfl, Nat.le_of_ble_eq_true rfl, rfl, oneRows_dt (fun _ => rfl) _ _ _, rfl⟩ ?_ | refine region_ok (id := 6) (.qp 0 <| .qp 1 <| .qp 2 <| .qp 3 <| .qp 4 <| .qp 5 <| .qp 6 <| .done) [] mixed (by kernel_rfl) ?_ | refine region_ok (id := 7) (.qp 0 <| .qp 1 <| .qp 2 <| .qp 3 <| .qp 4 <| .qp 5 <| .qp 6 <| .qp 7 <| .done) [] mixed (by kernel_rfl) ?_ | refine SWP.go [] rfl ?_ | ((refine And.intro (fun h => ?_) (fun h => ?_)) <;> try (exfalso; omega)) | (refine And.intro ?_ ?_; (focus (first | omega | (simp only [Eng.lo, Eng.hi, List.length_map] at *; omega) | (refine ⟨?_, ?_⟩ <;> first | rfl | omega | (simp only [Eng.lo, Eng.hi, List.length_map] at *; omega)) | (simp only [List.length_nil, List.length_map, List.length_take, List.length_drop, List.length_append, List.length_cons, List.length_nil]; omega)))) | refine And.intro ?_ ?_ | fail
  conv => whnf
  refine SWP.loop (n0 := 0) [] hr rfl (nx' := 0) (T' := [(5, I ((0:Nat):Int)), (0, S a), (1, S b)]) (O' := []) ⟨⟨rfl, rfl, trivial, ?_⟩⟩ ?_
  · (repeat' (first | exact rfl | exact trivial | exact pureRows_map (fun _ => rfl) _ | (refine subRows_of ?_ (pureRows_map (fun _ => rfl) _); first | rfl | (simp; done)) | refine subRows_app _ _ _ (pureRows_map (fun _ => rfl) _) ?_ | (conv => whnf); first | refine And.intro ?_ ?_ | (simp only [List.length_map]; done) | (congr 1; omega) | (congr 1; simp; done) | fail))
  refine LWP.ind (fun i : Nat => b.size - i) (fun _ => 0) (fun i => [(5, I (i:Int)), (0, S a), (1, S b)]) (fun i => []) (fun i => i ≤ b.size ∧ i ≤ a.size ∧ lessB a b = bless a b i) (fun i hi ih => ?_) 0 ⟨Nat.zero_le _, Nat.zero_le _, rfl⟩
  repeat' (conv => whnf); first | refine And.intro rfl ?_ | ((refine And.intro (?_ : (_ + _) * _ ≤ 140737488355328) ?_); (focus (simp only [List.length_nil, List.length_map, List.length_take, List.length_drop, List.length_append, List.length_cons, List.length_nil]; omega))) | refine And.intro (Nat.le_of_ble_eq_true rfl) ?_ | refine And.intro ⟨rfl, rfl⟩ ?_ | refine And.intro ⟨rfl, Nat.le_of_ble_eq_true rfl⟩ ?_ | refine And.intro ⟨rfl, rfl, Nat.le_of_ble_eq_true rfl⟩ ?_ | refine And.intro ⟨Nat.le_of_ble_eq_true rfl, Nat.le_of_ble_eq_true rfl, rfl, rfl, rfl⟩ ?_ | refine And.intro ⟨Nat.le_of_ble_eq_true rfl, rfl, rfl, rfl, Nat.le_of_ble_eq_true rfl, rfl⟩ ?_ | refine And.intro trivial ?_ | refine And.intro ⟨Nat.le_of_ble_eq_true rfl, Nat.le_of_ble_eq_true rfl, rfl, oneRows_map (fun _ => rfl) _, rfl⟩ ?_ | refine And.intro ⟨Nat.le_of_ble_eq_true rfl, Nat.le_of_ble_eq_true rfl, rfl, oneRows_dt (fun _ => rfl) _ _ _, rfl⟩ ?_ | refine region_ok (id := 6) (.qp 0 <| .qp 1 <| .qp 2 <| .qp 3 <| .qp 4 <| .qp 5 <| .qp 6 <| .done) [] mixed (by kernel_rfl) ?_ | refine region_ok (id := 7) (.qp 0 <| .qp 1 <| .qp 2 <| .qp 3 <| .qp 4 <| .qp 5 <| .qp 6 <| .qp 7 <| .done) [] mixed (by kernel_rfl) ?_ | refine SWP.go [] rfl ?_ | refine LWP.next (ih (i+1) ?_) [] hr rfl ?_ | refine Gives.pure rfl ?_ | ((refine And.intro (fun h => ?_) (fun h => ?_)) <;> try (exfalso; omega)) | (refine And.intro ?_ ?_; (focus (first | omega | (simp only [Eng.lo, Eng.hi, List.length_map] at *; omega) | (refine ⟨?_, ?_⟩ <;> first | rfl | omega | (simp only [Eng.lo, Eng.hi, List.length_map] at *; omega)) | (simp only [List.length_nil, List.length_map, List.length_take, List.length_drop, List.length_append, List.length_cons, List.length_nil]; omega)))) | refine And.intro ?_ ?_ | fail
  all_goals try (simp only [Eng.hi]; omega)
  all_goals constructor
  all_goals try refine ⟨congrArg B ?_, rfl, rfl⟩
  · rw [hi.2.2, bless_short (by omega) (by omega)]
  · rw [hi.2.2, bless_step (by omega) (by omega)]
    have h1 : bt a i < bt b i := u8_lt.1 h
    simp [h1]
  · rw [hi.2.2, bless_step (by omega) (by omega)]
    rename_i h0
    have h1 : ¬ bt a i < bt b i := fun hh => h (u8_lt.2 hh)
    have h2 : ¬ bt a i = bt b i := fun hh => h0 (u8_eq.2 hh)
    simp [h1, h2]
  · refine ⟨by omega, by omega, by omega, ?_⟩
    rw [hi.2.2, bless_step (by omega) (by omega)]
    have h2 : bt a i = bt b i := u8_eq.1 (Decidable.not_not.1 h)
    simp [h2]
  · refine ⟨rfl, rfl, trivial, ?_⟩
    (repeat' (first | exact rfl | exact trivial | exact pureRows_map (fun _ => rfl) _ | (refine subRows_of ?_ (pureRows_map (fun _ => rfl) _); first | rfl | (simp; done)) | refine subRows_app _ _ _ (pureRows_map (fun _ => rfl) _) ?_ | (conv => whnf); first | refine And.intro ?_ ?_ | (simp only [List.length_map]; done) | (congr 1; omega) | (congr 1; simp; done) | fail))
  · rw [hi.2.2, bless_end (by omega)]
theorem t32 (l : List ByteArray) (hl : l.length < 4611686018427387904) (hk : ∀ k ∈ l, k.size ≤ 1000) : Fun Try.prog 32 [.rd 1 (l.map skey)] (B (rights l)) := by
  refine Fun.walk pf32 rfl (Nat.le_of_ble_eq_true rfl) fun c hP hn hr => ?_
  obtain ⟨P_, n_, w0_, F_, Y_, r0_⟩ := c; subst hP; subst hn
  repeat' (conv => whnf); first | refine And.intro rfl ?_ | ((refine And.intro (?_ : (_ + _) * _ ≤ 140737488355328) ?_); (focus (simp only [List.length_nil, List.length_map, List.length_take, List.length_drop, List.length_append, List.length_cons, List.length_nil]; omega))) | refine And.intro (Nat.le_of_ble_eq_true rfl) ?_ | refine And.intro ⟨rfl, rfl⟩ ?_ | refine And.intro ⟨rfl, Nat.le_of_ble_eq_true rfl⟩ ?_ | refine And.intro ⟨rfl, rfl, Nat.le_of_ble_eq_true rfl⟩ ?_ | refine And.intro ⟨Nat.le_of_ble_eq_true rfl, Nat.le_of_ble_eq_true rfl, rfl, rfl, rfl⟩ ?_ | refine And.intro ⟨Nat.le_of_ble_eq_true rfl, rfl, rfl, rfl, Nat.le_of_ble_eq_true rfl, rfl⟩ ?_ | refine And.intro trivial ?_ | refine And.intro ⟨Nat.le_of_ble_eq_true rfl, Nat.le_of_ble_eq_true rfl, rfl, oneRows_map (fun _ => rfl) _, rfl⟩ ?_ | refine And.intro ⟨Nat.le_of_ble_eq_true rfl, Nat.le_of_ble_eq_true rfl, rfl, oneRows_dt (fun _ => rfl) _ _ _, rfl⟩ ?_ | refine And.intro ⟨rfl, bd39⟩ ?_ | refine And.intro ⟨rfl, bd40⟩ ?_ | refine region_ok (id := 4) (.qp 0 <| .qp 1 <| .qp 2 <| .qt 3 <| .one 4 false <| .qp 5 <| .qp 6 <| .qp 7 <| .qp 8 <| .qp 9 <| .qp 10 <| .qp 11 <| .qp 12 <| .qp 13 <| .qp 15 <| .qp 16 <| .qp 17 <| .two 14 18 false false (.one 18 false <| .one 19 false <| .qp 20 <| .qp 21 <| .qp 22 <| .done) (.one 14 false <| .one 19 false <| .qp 20 <| .qp 21 <| .qp 22 <| .done)) [] mixed (by kernel_rfl) ?_ | refine SWP.go [] rfl ?_ | ((refine And.intro (fun h => ?_) (fun h => ?_)) <;> try (exfalso; omega)) | (refine And.intro ?_ ?_; (focus (first | omega | (simp only [Eng.lo, Eng.hi, List.length_map] at *; omega) | (refine ⟨?_, ?_⟩ <;> first | rfl | omega | (simp only [Eng.lo, Eng.hi, List.length_map] at *; omega)) | (simp only [List.length_nil, List.length_map, List.length_take, List.length_drop, List.length_append, List.length_cons, List.length_nil]; omega)))) | refine And.intro ?_ ?_ | fail
  conv => whnf
  refine SWP.loop (n0 := 0) [] hr rfl (nx' := 0) (T' := [(3, I ((0:Nat):Int)), (0, .rd 1 (l.map skey))]) (O' := []) ⟨⟨rfl, rfl, trivial, ?_⟩⟩ ?_
  · (repeat' (first | exact rfl | exact trivial | exact pureRows_map (fun _ => rfl) _ | (refine subRows_of ?_ (pureRows_map (fun _ => rfl) _); first | rfl | (simp; done)) | refine subRows_app _ _ _ (pureRows_map (fun _ => rfl) _) ?_ | (conv => whnf); first | refine And.intro ?_ ?_ | (simp only [List.length_map]; done) | (congr 1; omega) | (congr 1; simp; done) | fail))
  refine LWP.ind (fun i : Nat => l.length - i) (fun _ => 0) (fun i => [(3, I (i:Int)), (0, .rd 1 (l.map skey))]) (fun _ => []) (fun i => i ≤ l.length ∧ ∀ j, j < i → badKey l j = false) (fun i hi ih => ?_) 0 ⟨Nat.zero_le _, fun j hj => absurd hj (Nat.not_lt_zero _)⟩
  have eL := lmap l skey
  rcases Nat.lt_or_ge i l.length with hlt | hge
  · obtain ⟨k, hkk⟩ := get_at hlt
    have hrow := row_at skey hkk
    have hgk : l.getD i default = k := by rw [List.getD_eq_getElem?_getD, hkk]; rfl
    have hks := hk k (List.mem_of_getElem? hkk)
    by_cases h0 : 0 < i
    · obtain ⟨k1, hk1⟩ := get_at (l := l) (i := i - 1) (by omega)
      have hrow1 : (l.map skey)[(((i:Nat):Int) - 1).toNat]? = some (skey k1) := by
        have e : (((i:Nat):Int) - 1).toNat = i - 1 := by omega
        rw [e, List.getElem?_map, hk1]; rfl
      have hgk1 : l.getD (i - 1) default = k1 := by rw [List.getD_eq_getElem?_getD, hk1]; rfl
      repeat' (conv => whnf); first | refine And.intro rfl ?_ | ((refine And.intro (?_ : (_ + _) * _ ≤ 140737488355328) ?_); (focus (simp only [List.length_nil, List.length_map, List.length_take, List.length_drop, List.length_append, List.length_cons, List.length_nil]; omega))) | refine And.intro (Nat.le_of_ble_eq_true rfl) ?_ | refine And.intro ⟨rfl, rfl⟩ ?_ | refine And.intro ⟨rfl, Nat.le_of_ble_eq_true rfl⟩ ?_ | refine And.intro ⟨rfl, rfl, Nat.le_of_ble_eq_true rfl⟩ ?_ | refine And.intro ⟨Nat.le_of_ble_eq_true rfl, Nat.le_of_ble_eq_true rfl, rfl, rfl, rfl⟩ ?_ | refine And.intro ⟨Nat.le_of_ble_eq_true rfl, rfl, rfl, rfl, Nat.le_of_ble_eq_true rfl, rfl⟩ ?_ | refine And.intro trivial ?_ | refine And.intro ⟨Nat.le_of_ble_eq_true rfl, Nat.le_of_ble_eq_true rfl, rfl, oneRows_map (fun _ => rfl) _, rfl⟩ ?_ | refine And.intro ⟨Nat.le_of_ble_eq_true rfl, Nat.le_of_ble_eq_true rfl, rfl, oneRows_dt (fun _ => rfl) _ _ _, rfl⟩ ?_ | refine And.intro ⟨rfl, bd39⟩ ?_ | refine And.intro ⟨rfl, bd40⟩ ?_ | refine region_ok (id := 4) (.qp 0 <| .qp 1 <| .qp 2 <| .qt 3 <| .one 4 false <| .qp 5 <| .qp 6 <| .qp 7 <| .qp 8 <| .qp 9 <| .qp 10 <| .qp 11 <| .qp 12 <| .qp 13 <| .qp 15 <| .qp 16 <| .qp 17 <| .two 14 18 false false (.one 18 false <| .one 19 false <| .qp 20 <| .qp 21 <| .qp 22 <| .done) (.one 14 false <| .one 19 false <| .qp 20 <| .qp 21 <| .qp 22 <| .done)) [] mixed (by kernel_rfl) ?_ | refine SWP.go [] rfl ?_ | refine Exists.intro _ (And.intro hrow ?_) | refine Exists.intro _ (And.intro hrow1 ?_) | refine Fun.callb (t39 _) rfl (fun h => ?_) (fun h => ?_) | refine Fun.callb (t40 _ _ hks) rfl (fun h => ?_) (fun h => ?_) | refine LWP.next (ih (i+1) ?_) [] hr rfl ?_ | refine Gives.pure rfl ?_ | ((refine And.intro (fun h => ?_) (fun h => ?_)) <;> try (exfalso; omega)) | (refine And.intro ?_ ?_; (focus (first | omega | (simp only [Eng.lo, Eng.hi, List.length_map] at *; omega) | (refine ⟨?_, ?_⟩ <;> first | rfl | omega | (simp only [Eng.lo, Eng.hi, List.length_map] at *; omega)) | (simp only [List.length_nil, List.length_map, List.length_take, List.length_drop, List.length_append, List.length_cons, List.length_nil]; omega)))) | refine And.intro ?_ ?_ | fail
      all_goals constructor
      all_goals first
        | (refine ⟨congrArg B (rights_bad (i := i) hlt ?_).symm, rfl, rfl⟩; simp_all [badKey]; done)
        | (refine ⟨by omega, by omega, fun j hj => ?_⟩
           rcases Nat.lt_or_eq_of_le (Nat.le_of_lt_succ hj) with h3 | rfl
           · exact hi.2 _ h3
           · simp_all [badKey])
        | (refine ⟨rfl, rfl, trivial, ?_⟩; (repeat' (first | exact rfl | exact trivial | exact pureRows_map (fun _ => rfl) _ | (refine subRows_of ?_ (pureRows_map (fun _ => rfl) _); first | rfl | (simp; done)) | refine subRows_app _ _ _ (pureRows_map (fun _ => rfl) _) ?_ | (conv => whnf); first | refine And.intro ?_ ?_ | (simp only [List.length_map]; done) | (congr 1; omega) | (congr 1; simp; done) | fail)); done)
    · repeat' (conv => whnf); first | refine And.intro rfl ?_ | ((refine And.intro (?_ : (_ + _) * _ ≤ 140737488355328) ?_); (focus (simp only [List.length_nil, List.length_map, List.length_take, List.length_drop, List.length_append, List.length_cons, List.length_nil]; omega))) | refine And.intro (Nat.le_of_ble_eq_true rfl) ?_ | refine And.intro ⟨rfl, rfl⟩ ?_ | refine And.intro ⟨rfl, Nat.le_of_ble_eq_true rfl⟩ ?_ | refine And.intro ⟨rfl, rfl, Nat.le_of_ble_eq_true rfl⟩ ?_ | refine And.intro ⟨Nat.le_of_ble_eq_true rfl, Nat.le_of_ble_eq_true rfl, rfl, rfl, rfl⟩ ?_ | refine And.intro ⟨Nat.le_of_ble_eq_true rfl, rfl, rfl, rfl, Nat.le_of_ble_eq_true rfl, rfl⟩ ?_ | refine And.intro trivial ?_ | refine And.intro ⟨Nat.le_of_ble_eq_true rfl, Nat.le_of_ble_eq_true rfl, rfl, oneRows_map (fun _ => rfl) _, rfl⟩ ?_ | refine And.intro ⟨Nat.le_of_ble_eq_true rfl, Nat.le_of_ble_eq_true rfl, rfl, oneRows_dt (fun _ => rfl) _ _ _, rfl⟩ ?_ | refine And.intro ⟨rfl, bd39⟩ ?_ | refine And.intro ⟨rfl, bd40⟩ ?_ | refine region_ok (id := 4) (.qp 0 <| .qp 1 <| .qp 2 <| .qt 3 <| .one 4 false <| .qp 5 <| .qp 6 <| .qp 7 <| .qp 8 <| .qp 9 <| .qp 10 <| .qp 11 <| .qp 12 <| .qp 13 <| .qp 15 <| .qp 16 <| .qp 17 <| .two 14 18 false false (.one 18 false <| .one 19 false <| .qp 20 <| .qp 21 <| .qp 22 <| .done) (.one 14 false <| .one 19 false <| .qp 20 <| .qp 21 <| .qp 22 <| .done)) [] mixed (by kernel_rfl) ?_ | refine SWP.go [] rfl ?_ | refine Exists.intro _ (And.intro hrow ?_) | refine Fun.callb (t39 _) rfl (fun h => ?_) (fun h => ?_) | refine LWP.next (ih (i+1) ?_) [] hr rfl ?_ | refine Gives.pure rfl ?_ | ((refine And.intro (fun h => ?_) (fun h => ?_)) <;> try (exfalso; omega)) | (refine And.intro ?_ ?_; (focus (first | omega | (simp only [Eng.lo, Eng.hi, List.length_map] at *; omega) | (refine ⟨?_, ?_⟩ <;> first | rfl | omega | (simp only [Eng.lo, Eng.hi, List.length_map] at *; omega)) | (simp only [List.length_nil, List.length_map, List.length_take, List.length_drop, List.length_append, List.length_cons, List.length_nil]; omega)))) | refine And.intro ?_ ?_ | fail
      all_goals constructor
      all_goals first
        | (refine ⟨congrArg B (rights_bad (i := i) hlt ?_).symm, rfl, rfl⟩; simp_all [badKey]; done)
        | (refine ⟨by omega, by omega, fun j hj => ?_⟩
           rcases Nat.lt_or_eq_of_le (Nat.le_of_lt_succ hj) with h3 | rfl
           · exact hi.2 _ h3
           · simp_all [badKey])
        | (refine ⟨rfl, rfl, trivial, ?_⟩; (repeat' (first | exact rfl | exact trivial | exact pureRows_map (fun _ => rfl) _ | (refine subRows_of ?_ (pureRows_map (fun _ => rfl) _); first | rfl | (simp; done)) | refine subRows_app _ _ _ (pureRows_map (fun _ => rfl) _) ?_ | (conv => whnf); first | refine And.intro ?_ ?_ | (simp only [List.length_map]; done) | (congr 1; omega) | (congr 1; simp; done) | fail)); done)
  · repeat' (conv => whnf); first | refine And.intro rfl ?_ | ((refine And.intro (?_ : (_ + _) * _ ≤ 140737488355328) ?_); (focus (simp only [List.length_nil, List.length_map, List.length_take, List.length_drop, List.length_append, List.length_cons, List.length_nil]; omega))) | refine And.intro (Nat.le_of_ble_eq_true rfl) ?_ | refine And.intro ⟨rfl, rfl⟩ ?_ | refine And.intro ⟨rfl, Nat.le_of_ble_eq_true rfl⟩ ?_ | refine And.intro ⟨rfl, rfl, Nat.le_of_ble_eq_true rfl⟩ ?_ | refine And.intro ⟨Nat.le_of_ble_eq_true rfl, Nat.le_of_ble_eq_true rfl, rfl, rfl, rfl⟩ ?_ | refine And.intro ⟨Nat.le_of_ble_eq_true rfl, rfl, rfl, rfl, Nat.le_of_ble_eq_true rfl, rfl⟩ ?_ | refine And.intro trivial ?_ | refine And.intro ⟨Nat.le_of_ble_eq_true rfl, Nat.le_of_ble_eq_true rfl, rfl, oneRows_map (fun _ => rfl) _, rfl⟩ ?_ | refine And.intro ⟨Nat.le_of_ble_eq_true rfl, Nat.le_of_ble_eq_true rfl, rfl, oneRows_dt (fun _ => rfl) _ _ _, rfl⟩ ?_ | refine And.intro ⟨rfl, bd39⟩ ?_ | refine And.intro ⟨rfl, bd40⟩ ?_ | refine region_ok (id := 4) (.qp 0 <| .qp 1 <| .qp 2 <| .qt 3 <| .one 4 false <| .qp 5 <| .qp 6 <| .qp 7 <| .qp 8 <| .qp 9 <| .qp 10 <| .qp 11 <| .qp 12 <| .qp 13 <| .qp 15 <| .qp 16 <| .qp 17 <| .two 14 18 false false (.one 18 false <| .one 19 false <| .qp 20 <| .qp 21 <| .qp 22 <| .done) (.one 14 false <| .one 19 false <| .qp 20 <| .qp 21 <| .qp 22 <| .done)) [] mixed (by kernel_rfl) ?_ | refine SWP.go [] rfl ?_ | refine Gives.pure rfl ?_ | ((refine And.intro (fun h => ?_) (fun h => ?_)) <;> try (exfalso; omega)) | (refine And.intro ?_ ?_; (focus (first | omega | (simp only [Eng.lo, Eng.hi, List.length_map] at *; omega) | (refine ⟨?_, ?_⟩ <;> first | rfl | omega | (simp only [Eng.lo, Eng.hi, List.length_map] at *; omega)) | (simp only [List.length_nil, List.length_map, List.length_take, List.length_drop, List.length_append, List.length_cons, List.length_nil]; omega)))) | refine And.intro ?_ ?_ | fail
    all_goals constructor
    all_goals refine ⟨congrArg B ?_, rfl, rfl⟩
    all_goals (rw [rights_good fun j hj => hi.2 j (by omega)]; simp; omega)
end Go.Eng
