/- Contracts of functions of the given program, and the plain laws that they lean on. -/
import Derived.Test.YtdcbbmnihcfdlaaA4
import Derived.Test.YtdcbbmnihcfdlaaEng22
set_option linter.unusedVariables false
set_option linter.unusedSimpArgs false
set_option linter.unnecessarySimpa false
set_option linter.constructorNameAsVariable false
set_option linter.all false
open Go.Proofs Go.Eng.Tab
namespace Go.Eng
set_option maxRecDepth 100000
set_option maxHeartbeats 4000000
attribute [local irreducible] SWP LWP CallOK Spec Gives Bd EqT
def lessT (x y : Trip) : Bool := decide (ordr x.time x.cl y.time y.cl < 0)
def insR : List Trip → Trip → List Trip → List Trip
  | [], x, mid => x :: mid
  | y :: p, x, mid => if lessT x y then insR p x (y :: mid) else (y :: p).reverse ++ x :: mid
def insT (acc : List Trip) (x : Trip) : List Trip := insR acc.reverse x []
def sortT (ts : List Trip) : List Trip := ts.foldl insT []
theorem insR_length : ∀ (p : List Trip) (x : Trip) (mid : List Trip), (insR p x mid).length = p.length + 1 + mid.length
  | [], x, mid => by simp [insR]; omega
  | y :: p, x, mid => by
    unfold insR
    split
    · rw [insR_length p x (y :: mid)]; simp; omega
    · simp; omega
theorem sortT_take {ts : List Trip} {i : Nat} {x : Trip} (h : ts[i]? = some x) : sortT (ts.take (i + 1)) = insT (sortT (ts.take i)) x := by
  unfold sortT
  rw [List.take_add_one, h]
  simp
theorem sortT_length (ts : List Trip) : (sortT ts).length = ts.length := by
  have : ∀ (l acc : List Trip), (l.foldl insT acc).length = acc.length + l.length := by
    intro l
    induction l with
    | nil => intro acc; simp
    | cons a l ih => intro acc; simp only [List.foldl_cons, ih, insT, insR_length, List.length_reverse, List.length_nil, List.length_cons]; omega
  simpa [sortT] using this ts []
theorem t43 (ts : List Trip) (hl : ts.length ≤ 1000) : Spec Try.prog 43 1 [.own 0, I 0, I (ts.length : Int), .fn 22 []] [(0, .row 35 7 (ts.map cTrip))] false fun s n O => s = .tup [] ∧ n = 1 ∧ O = [(0, .row 35 7 ((sortT ts).map cTrip))] := by
  refine Spec.walk' pf43 rfl (Nat.le_of_ble_eq_true rfl) fun c hP hn hr => ?_
  obtain ⟨P_, n_, w0_, F_, Y_, r0_⟩ := c; subst hP; subst hn
  repeat' (conv => whnf); first | refine And.intro rfl ?_ | ((refine And.intro (?_ : (_ + _) * _ ≤ 140737488355328) ?_); (focus (simp only [List.length_nil, List.length_map, List.length_take, List.length_append, List.length_cons, List.length_nil]; omega))) | refine And.intro (Nat.le_of_ble_eq_true rfl) ?_ | refine And.intro ⟨rfl, rfl⟩ ?_ | refine And.intro ⟨rfl, Nat.le_of_ble_eq_true rfl⟩ ?_ | refine And.intro ⟨rfl, rfl, Nat.le_of_ble_eq_true rfl⟩ ?_ | refine And.intro ⟨Nat.le_of_ble_eq_true rfl, Nat.le_of_ble_eq_true rfl, rfl, rfl, rfl⟩ ?_ | refine And.intro ⟨Nat.le_of_ble_eq_true rfl, rfl, rfl, rfl, Nat.le_of_ble_eq_true rfl, rfl⟩ ?_ | refine region_ok (id := 4) (.qp 0 <| .qp 1 <| .qp 2 <| .qp 3 <| .qp 4 <| .qp 5 <| .qp 6 <| .qp 7 <| .qt 8 <| .qp 9 <| .qp 10 <| .qp 11 <| .qp 12 <| .qt 13 <| .one 14 false <| .qp 15 <| .qp 16 <| .done) [] mixed (by kernel_rfl) ?_ | refine region_ok (id := 6) (.qp 0 <| .qp 1 <| .qp 2 <| .qp 3 <| .qp 4 <| .qp 5 <| .qp 6 <| .qp 7 <| .qp 8 <| .qt 9 <| .qp 10 <| .qp 11 <| .qp 12 <| .qt 13 <| .qp 14 <| .one 15 true <| .qp 16 <| .one 17 true <| .done) [15, 17] mixed (by kernel_rfl) ?_ | refine SWP.go [] rfl ?_ | ((refine And.intro (fun h => ?_) (fun h => ?_)) <;> try (exfalso; omega)) | (refine And.intro ?_ ?_; (focus (first | omega | (simp only [Eng.lo, Eng.hi, List.length_map] at *; omega) | (refine ⟨?_, ?_⟩ <;> first | rfl | omega | (simp only [Eng.lo, Eng.hi, List.length_map] at *; omega)) | (simp only [List.length_nil, List.length_map, List.length_take, List.length_append, List.length_cons, List.length_nil]; omega)))) | refine And.intro ?_ ?_ | fail
  conv => whnf
  have hlen : ∀ i, i ≤ ts.length → (sortT (ts.take i) ++ ts.drop i).length = ts.length := fun i hi => by rw [List.length_append, sortT_length, List.length_take, List.length_drop]; omega
  refine SWP.loop (n0 := 1) [some 0] hr rfl (T' := [(8, I ((1:Nat):Int)), (0, .own 0), (1, I 0), (2, I (ts.length : Int)), (3, .fn 22 [])]) (O' := [(0, .row 35 7 ((sortT (ts.take 1) ++ ts.drop 1).map cTrip))]) ⟨⟨rfl, rfl, ⟨osub_row ?_ (pureRows_map (fun _ => rfl) _), trivial⟩, ?_⟩⟩ ?_
  · congr 1; cases ts <;> rfl
  · repeat' first | exact rfl | exact trivial | (conv => whnf); first | refine And.intro ?_ ?_ | (simp only [List.length_map]; done) | (congr 1; omega) | (congr 1; simp; done) | fail
  refine LWP.ind (fun i : Nat => ts.length + 1 - i) (fun _ => 1) (fun i => [(8, I (i:Int)), (0, .own 0), (1, I 0), (2, I (ts.length : Int)), (3, .fn 22 [])]) (fun i => [(0, .row 35 7 ((sortT (ts.take i) ++ ts.drop i).map cTrip))]) (fun i => 1 ≤ i ∧ (i ≤ ts.length ∨ i = 1)) (fun i hi ih => ?_) 1 ⟨Nat.le_refl _, .inr rfl⟩
  rcases Nat.lt_or_ge i ts.length with hlt | hge
  · obtain ⟨x, hx⟩ : ∃ x, ts[i]? = some x := ⟨_, List.getElem?_eq_getElem hlt⟩
    have hdrop : ts.drop i = x :: ts.drop (i + 1) := by
      rw [List.drop_eq_getElem_cons hlt]; congr 1
      rw [List.getElem?_eq_getElem hlt] at hx; injection hx
    repeat' (conv => whnf); first | refine And.intro rfl ?_ | ((refine And.intro (?_ : (_ + _) * _ ≤ 140737488355328) ?_); (focus (simp only [List.length_nil, List.length_map, List.length_take, List.length_append, List.length_cons, List.length_nil]; omega))) | refine And.intro (Nat.le_of_ble_eq_true rfl) ?_ | refine And.intro ⟨rfl, rfl⟩ ?_ | refine And.intro ⟨rfl, Nat.le_of_ble_eq_true rfl⟩ ?_ | refine And.intro ⟨rfl, rfl, Nat.le_of_ble_eq_true rfl⟩ ?_ | refine And.intro ⟨Nat.le_of_ble_eq_true rfl, Nat.le_of_ble_eq_true rfl, rfl, rfl, rfl⟩ ?_ | refine And.intro ⟨Nat.le_of_ble_eq_true rfl, rfl, rfl, rfl, Nat.le_of_ble_eq_true rfl, rfl⟩ ?_ | refine region_ok (id := 4) (.qp 0 <| .qp 1 <| .qp 2 <| .qp 3 <| .qp 4 <| .qp 5 <| .qp 6 <| .qp 7 <| .qt 8 <| .qp 9 <| .qp 10 <| .qp 11 <| .qp 12 <| .qt 13 <| .one 14 false <| .qp 15 <| .qp 16 <| .done) [] mixed (by kernel_rfl) ?_ | refine region_ok (id := 6) (.qp 0 <| .qp 1 <| .qp 2 <| .qp 3 <| .qp 4 <| .qp 5 <| .qp 6 <| .qp 7 <| .qp 8 <| .qt 9 <| .qp 10 <| .qp 11 <| .qp 12 <| .qt 13 <| .qp 14 <| .one 15 true <| .qp 16 <| .one 17 true <| .done) [15, 17] mixed (by kernel_rfl) ?_ | refine SWP.go [] rfl ?_ | ((refine And.intro (fun h => ?_) (fun h => ?_)) <;> try (exfalso; omega)) | (refine And.intro ?_ ?_; (focus (first | omega | (simp only [Eng.lo, Eng.hi, List.length_map] at *; omega) | (refine ⟨?_, ?_⟩ <;> first | rfl | omega | (simp only [Eng.lo, Eng.hi, List.length_map] at *; omega)) | (simp only [List.length_nil, List.length_map, List.length_take, List.length_append, List.length_cons, List.length_nil]; omega)))) | refine And.intro ?_ ?_ | fail
    conv => whnf
    refine SWP.loop (n0 := 1) [some 0] hr rfl (T' := [(9, I ((sortT (ts.take i)).reverse.length : Int)), (8, I (i:Int)), (0, .own 0), (1, I 0), (2, I (ts.length : Int)), (3, .fn 22 [])]) (O' := [(0, .row 35 7 (((sortT (ts.take i)).reverse.reverse ++ x :: ([] ++ ts.drop (i + 1))).map cTrip))]) ⟨⟨rfl, rfl, ⟨osub_row (by rw [hdrop]; simp) (pureRows_map (fun _ => rfl) _), trivial⟩, ?_⟩⟩ ?_
    · have e : (sortT (ts.take i)).reverse.length = i := by rw [List.length_reverse, sortT_length, List.length_take]; omega
      rw [e]
      repeat' first | exact rfl | exact trivial | (conv => whnf); first | refine And.intro ?_ ?_ | (simp only [List.length_map]; done) | (congr 1; omega) | (congr 1; simp; done) | fail
    refine LWP.ind (fun g : List Trip × List Trip => g.1.length) (fun _ => 1) (fun g => [(9, I (g.1.length : Int)), (8, I (i:Int)), (0, .own 0), (1, I 0), (2, I (ts.length : Int)), (3, .fn 22 [])]) (fun g => [(0, .row 35 7 ((g.1.reverse ++ x :: (g.2 ++ ts.drop (i + 1))).map cTrip))]) (fun g => g.1.length + g.2.length = i ∧ insR g.1 x g.2 = insT (sortT (ts.take i)) x) (fun g hg ih2 => ?_) ((sortT (ts.take i)).reverse, []) ⟨by simp [sortT_length]; omega, rfl⟩
    obtain ⟨p, mid⟩ := g
    have hg1 := hg.1
    have hg2 := hg.2
    dsimp only at hg1 hg2
    rcases p with _ | ⟨y, p⟩
    · repeat' (conv => whnf); first | refine And.intro rfl ?_ | ((refine And.intro (?_ : (_ + _) * _ ≤ 140737488355328) ?_); (focus (simp only [List.length_nil, List.length_map, List.length_take, List.length_append, List.length_cons, List.length_nil]; omega))) | refine And.intro (Nat.le_of_ble_eq_true rfl) ?_ | refine And.intro ⟨rfl, rfl⟩ ?_ | refine And.intro ⟨rfl, Nat.le_of_ble_eq_true rfl⟩ ?_ | refine And.intro ⟨rfl, rfl, Nat.le_of_ble_eq_true rfl⟩ ?_ | refine And.intro ⟨Nat.le_of_ble_eq_true rfl, Nat.le_of_ble_eq_true rfl, rfl, rfl, rfl⟩ ?_ | refine And.intro ⟨Nat.le_of_ble_eq_true rfl, rfl, rfl, rfl, Nat.le_of_ble_eq_true rfl, rfl⟩ ?_ | refine region_ok (id := 4) (.qp 0 <| .qp 1 <| .qp 2 <| .qp 3 <| .qp 4 <| .qp 5 <| .qp 6 <| .qp 7 <| .qt 8 <| .qp 9 <| .qp 10 <| .qp 11 <| .qp 12 <| .qt 13 <| .one 14 false <| .qp 15 <| .qp 16 <| .done) [] mixed (by kernel_rfl) ?_ | refine region_ok (id := 6) (.qp 0 <| .qp 1 <| .qp 2 <| .qp 3 <| .qp 4 <| .qp 5 <| .qp 6 <| .qp 7 <| .qp 8 <| .qt 9 <| .qp 10 <| .qp 11 <| .qp 12 <| .qt 13 <| .qp 14 <| .one 15 true <| .qp 16 <| .one 17 true <| .done) [15, 17] mixed (by kernel_rfl) ?_ | refine SWP.go [] rfl ?_ | refine LWP.next (ih (i+1) ?_) [some 0] hr rfl ?_ | ((refine And.intro (fun h => ?_) (fun h => ?_)) <;> try (exfalso; omega)) | (refine And.intro ?_ ?_; (focus (first | omega | (simp only [Eng.lo, Eng.hi, List.length_map] at *; omega) | (refine ⟨?_, ?_⟩ <;> first | rfl | omega | (simp only [Eng.lo, Eng.hi, List.length_map] at *; omega)) | (simp only [List.length_nil, List.length_map, List.length_take, List.length_append, List.length_cons, List.length_nil]; omega)))) | refine And.intro ?_ ?_ | fail
      all_goals first
        | (exfalso; simp at h; done)
        | exact ⟨⟨by omega, by omega, by omega⟩⟩
        | (refine ⟨⟨rfl, rfl, ⟨osub_row (by rw [sortT_take hx, ← hg2]; simp [insR]) (pureRows_map (fun _ => rfl) _), trivial⟩, ?_⟩⟩; repeat' first | exact rfl | exact trivial | (conv => whnf); first | refine And.intro ?_ ?_ | (simp only [List.length_map]; done) | (congr 1; omega) | (congr 1; simp; done) | fail; done)
    · have hxr : (((y :: p).reverse ++ x :: (mid ++ ts.drop (i + 1))).map cTrip)[(((y :: p).length : Nat) : Int).toNat]? = some (cTrip x) := by
        rw [Int.toNat_natCast, List.getElem?_map, getD_rev]; rfl
      have hyr : (((y :: p).reverse ++ x :: (mid ++ ts.drop (i + 1))).map cTrip)[((((y :: p).length : Nat) : Int) - 1).toNat]? = some (cTrip y) := by
        have e : ((((y :: p).length : Nat) : Int) - 1).toNat = p.length := by simp
        rw [e, List.getElem?_map, List.reverse_cons, List.append_assoc]
        have := getD_rev p y (x :: (mid ++ ts.drop (i + 1)))
        simp only [List.singleton_append]
        rw [this]; rfl
      have hb : (((y :: p).reverse ++ x :: (mid ++ ts.drop (i + 1))).map cTrip).length = ts.length := by simp at *; omega
      repeat' (conv => whnf); first | refine And.intro rfl ?_ | ((refine And.intro (?_ : (_ + _) * _ ≤ 140737488355328) ?_); (focus (simp only [List.length_nil, List.length_map, List.length_take, List.length_append, List.length_cons, List.length_nil]; omega))) | refine And.intro (Nat.le_of_ble_eq_true rfl) ?_ | refine And.intro ⟨rfl, rfl⟩ ?_ | refine And.intro ⟨rfl, Nat.le_of_ble_eq_true rfl⟩ ?_ | refine And.intro ⟨rfl, rfl, Nat.le_of_ble_eq_true rfl⟩ ?_ | refine And.intro ⟨Nat.le_of_ble_eq_true rfl, Nat.le_of_ble_eq_true rfl, rfl, rfl, rfl⟩ ?_ | refine And.intro ⟨Nat.le_of_ble_eq_true rfl, rfl, rfl, rfl, Nat.le_of_ble_eq_true rfl, rfl⟩ ?_ | refine region_ok (id := 4) (.qp 0 <| .qp 1 <| .qp 2 <| .qp 3 <| .qp 4 <| .qp 5 <| .qp 6 <| .qp 7 <| .qt 8 <| .qp 9 <| .qp 10 <| .qp 11 <| .qp 12 <| .qt 13 <| .one 14 false <| .qp 15 <| .qp 16 <| .done) [] mixed (by kernel_rfl) ?_ | refine region_ok (id := 6) (.qp 0 <| .qp 1 <| .qp 2 <| .qp 3 <| .qp 4 <| .qp 5 <| .qp 6 <| .qp 7 <| .qp 8 <| .qt 9 <| .qp 10 <| .qp 11 <| .qp 12 <| .qt 13 <| .qp 14 <| .one 15 true <| .qp 16 <| .one 17 true <| .done) [15, 17] mixed (by kernel_rfl) ?_ | refine SWP.go [] rfl ?_ | refine Exists.intro (cTrip x) (And.intro hxr ?_) | refine Exists.intro (cTrip y) (And.intro hyr ?_) | refine And.intro ⟨rfl, bd22⟩ ?_ | refine Fun.call (t22 _ _) rfl rfl ?_ | refine Exists.intro (cTrip y) (And.intro (by rw [List.getElem?_set_ne (by simp)]; exact hyr) ?_) | refine LWP.next (ih (i+1) ?_) [some 0] hr rfl ?_ | refine LWP.next (ih2 (p, y :: mid) ?_) [some 0] hr rfl ?_ | ((refine And.intro (fun h => ?_) (fun h => ?_)) <;> try (exfalso; omega)) | (refine And.intro ?_ ?_; (focus (first | omega | (simp only [Eng.lo, Eng.hi, List.length_map] at *; omega) | (refine ⟨?_, ?_⟩ <;> first | rfl | omega | (simp only [Eng.lo, Eng.hi, List.length_map] at *; omega)) | (simp only [List.length_nil, List.length_map, List.length_take, List.length_append, List.length_cons, List.length_nil]; omega)))) | refine And.intro ?_ ?_ | fail
      all_goals first
        | (exfalso; simp at h; omega)
        | (simp at *; omega)
        | exact ⟨⟨by omega, by omega, by omega⟩⟩
        | exact ⟨⟨by simp, by simp at hg1 ⊢; omega, by rw [← hg2]; exact (if_pos (by simpa [lessT] using h)).symm⟩⟩
        | (refine ⟨⟨rfl, rfl, ⟨osub_row (by
              show List.set (List.set _ _ (cTrip y)) ((((y :: p).length : Nat) : Int) - 1).toNat (cTrip x) = _
              have e : ((((y :: p).length : Nat) : Int) - 1).toNat = p.length := by simp
              rw [e]; exact swap_rev cTrip p x y _) (pureRows_map (fun _ => rfl) _), trivial⟩, ?_⟩⟩; repeat' first | exact rfl | exact trivial | (conv => whnf); first | refine And.intro ?_ ?_ | (simp only [List.length_map]; done) | (congr 1; omega) | (congr 1; simp; done) | fail; done)
        | (refine ⟨⟨rfl, rfl, ⟨osub_row (by
              have e : insR (y :: p) x mid = (y :: p).reverse ++ x :: mid := if_neg (by simpa [lessT] using h)
              rw [sortT_take hx, ← hg2, e]; simp) (pureRows_map (fun _ => rfl) _), trivial⟩, ?_⟩⟩; repeat' first | exact rfl | exact trivial | (conv => whnf); first | refine And.intro ?_ ?_ | (simp only [List.length_map]; done) | (congr 1; omega) | (congr 1; simp; done) | fail; done)
  · repeat' (conv => whnf); first | refine And.intro rfl ?_ | ((refine And.intro (?_ : (_ + _) * _ ≤ 140737488355328) ?_); (focus (simp only [List.length_nil, List.length_map, List.length_take, List.length_append, List.length_cons, List.length_nil]; omega))) | refine And.intro (Nat.le_of_ble_eq_true rfl) ?_ | refine And.intro ⟨rfl, rfl⟩ ?_ | refine And.intro ⟨rfl, Nat.le_of_ble_eq_true rfl⟩ ?_ | refine And.intro ⟨rfl, rfl, Nat.le_of_ble_eq_true rfl⟩ ?_ | refine And.intro ⟨Nat.le_of_ble_eq_true rfl, Nat.le_of_ble_eq_true rfl, rfl, rfl, rfl⟩ ?_ | refine And.intro ⟨Nat.le_of_ble_eq_true rfl, rfl, rfl, rfl, Nat.le_of_ble_eq_true rfl, rfl⟩ ?_ | refine region_ok (id := 4) (.qp 0 <| .qp 1 <| .qp 2 <| .qp 3 <| .qp 4 <| .qp 5 <| .qp 6 <| .qp 7 <| .qt 8 <| .qp 9 <| .qp 10 <| .qp 11 <| .qp 12 <| .qt 13 <| .one 14 false <| .qp 15 <| .qp 16 <| .done) [] mixed (by kernel_rfl) ?_ | refine region_ok (id := 6) (.qp 0 <| .qp 1 <| .qp 2 <| .qp 3 <| .qp 4 <| .qp 5 <| .qp 6 <| .qp 7 <| .qp 8 <| .qt 9 <| .qp 10 <| .qp 11 <| .qp 12 <| .qt 13 <| .qp 14 <| .one 15 true <| .qp 16 <| .one 17 true <| .done) [15, 17] mixed (by kernel_rfl) ?_ | refine SWP.go [] rfl ?_ | refine Gives.row0 rfl rfl (pureRows_map (fun _ => rfl) _) ?_ | ((refine And.intro (fun h => ?_) (fun h => ?_)) <;> try (exfalso; omega)) | (refine And.intro ?_ ?_; (focus (first | omega | (simp only [Eng.lo, Eng.hi, List.length_map] at *; omega) | (refine ⟨?_, ?_⟩ <;> first | rfl | omega | (simp only [Eng.lo, Eng.hi, List.length_map] at *; omega)) | (simp only [List.length_nil, List.length_map, List.length_take, List.length_append, List.length_cons, List.length_nil]; omega)))) | refine And.intro ?_ ?_ | fail
    refine ⟨⟨rfl, rfl, ?_⟩⟩
    rw [List.take_of_length_le (by omega), List.drop_of_length_le (by omega)]; simp
end Go.Eng
