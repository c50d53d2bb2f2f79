/- Contracts of functions of the given program, and the plain laws that they lean on. -/
import Derived.Test.YtdcbbmnihcfdlaaA13
set_option linter.unusedVariables false
set_option linter.unusedSimpArgs false
set_option linter.unnecessarySimpa false
set_option linter.constructorNameAsVariable false
set_option linter.all false
open Go.Proofs Go.Eng.Tab
namespace Go.Eng
set_option maxRecDepth 100000
set_option maxHeartbeats 4000000
attribute [local irreducible] SWP LWP CallOK Spec Gives Bd EqT
def fewS (s : Seen) : Bool := decide (s.key.size ≤ 100 ∧ s.val.size ≤ 100)
def fewW (s : Wr) : Bool := decide (s.key.size ≤ 100 ∧ s.val.size ≤ 100)
def fewT (t : Trip) : Bool := decide (t.reads.length ≤ 10 ∧ t.writes.length ≤ 10) && t.reads.all fewS && t.writes.all fewW
def fewB (ts : List Trip) : Bool := (ts.take 11).all fewT && decide (ts.length ≤ 10)
theorem few_bad {ts : List Trip} {i : Nat} {t : Trip} (hi : i ≤ 10) (ht : ts[i]? = some t) (h : fewT t = false) : fewB ts = false := by
  refine (bool_false fun hh => ?_).symm
  simp only [fewB, Bool.and_eq_true] at hh
  have := List.all_eq_true.1 hh.1 t (List.mem_of_getElem? (i := i) (by rw [List.getElem?_take, if_pos (by omega)]; exact ht))
  rw [h] at this; cases this
theorem fewT_len {t : Trip} (h : ¬ (t.reads.length ≤ 10 ∧ t.writes.length ≤ 10)) : fewT t = false := by simp [fewT, h]
theorem fewT_s {t : Trip} {j : Nat} {s : Seen} (hs : t.reads[j]? = some s) (h : fewS s = false) : fewT t = false := by
  refine (bool_false fun hh => ?_).symm
  simp only [fewT, Bool.and_eq_true] at hh
  have := List.all_eq_true.1 hh.1.2 s (List.mem_of_getElem? hs)
  rw [h] at this; cases this
theorem fewT_w {t : Trip} {j : Nat} {s : Wr} (hs : t.writes[j]? = some s) (h : fewW s = false) : fewT t = false := by
  refine (bool_false fun hh => ?_).symm
  simp only [fewT, Bool.and_eq_true] at hh
  have := List.all_eq_true.1 hh.2 s (List.mem_of_getElem? hs)
  rw [h] at this; cases this
theorem few_end {ts : List Trip} (h : 10 < ts.length) : fewB ts = false := by simp [fewB]; omega
theorem t8 (ts : List Trip) : Fun Try.prog 8 [.rd 7 (ts.map cTrip)] (B (fewB ts)) := by
  refine Fun.walk pf8 rfl (Nat.le_of_ble_eq_true rfl) fun c hP hn hr => ?_
  obtain ⟨P_, n_, w0_, F_, Y_, r0_⟩ := c; subst hP; subst hn
  have eL := lmap ts cTrip
  repeat' (conv => whnf); first | refine And.intro rfl ?_ | ((refine And.intro (?_ : (_ + _) * _ ≤ 140737488355328) ?_); (focus (simp only [List.length_nil, List.length_map, List.length_take, List.length_drop, List.length_append, List.length_cons, List.length_nil]; omega))) | refine And.intro (Nat.le_of_ble_eq_true rfl) ?_ | refine And.intro ⟨rfl, rfl⟩ ?_ | refine And.intro ⟨rfl, Nat.le_of_ble_eq_true rfl⟩ ?_ | refine And.intro ⟨rfl, rfl, Nat.le_of_ble_eq_true rfl⟩ ?_ | refine And.intro ⟨Nat.le_of_ble_eq_true rfl, Nat.le_of_ble_eq_true rfl, rfl, rfl, rfl⟩ ?_ | refine And.intro ⟨Nat.le_of_ble_eq_true rfl, rfl, rfl, rfl, Nat.le_of_ble_eq_true rfl, rfl⟩ ?_ | refine And.intro trivial ?_ | refine And.intro ⟨Nat.le_of_ble_eq_true rfl, Nat.le_of_ble_eq_true rfl, rfl, oneRows_map (fun _ => rfl) _, rfl⟩ ?_ | refine And.intro ⟨Nat.le_of_ble_eq_true rfl, Nat.le_of_ble_eq_true rfl, rfl, oneRows_dt (fun _ => rfl) _ _ _, rfl⟩ ?_ | refine SWP.go [] rfl ?_ | ((refine And.intro (fun h => ?_) (fun h => ?_)) <;> try (exfalso; omega)) | (refine And.intro ?_ ?_; (focus (first | omega | (simp only [Eng.lo, Eng.hi, List.length_map] at *; omega) | (refine ⟨?_, ?_⟩ <;> first | rfl | omega | (simp only [Eng.lo, Eng.hi, List.length_map] at *; omega)) | (simp only [List.length_nil, List.length_map, List.length_take, List.length_drop, List.length_append, List.length_cons, List.length_nil]; omega)))) | refine And.intro ?_ ?_ | fail
  conv => whnf
  refine SWP.loop (n0 := 0) [] hr rfl (nx' := 0) (T' := [(3, I ((0:Nat):Int)), (0, .rd 7 (ts.map cTrip))]) (O' := []) ⟨⟨rfl, rfl, trivial, ?_⟩⟩ ?_
  · (repeat' (first | exact rfl | exact trivial | exact pureRows_map (fun _ => rfl) _ | (refine subRows_of ?_ (pureRows_map (fun _ => rfl) _); first | rfl | (simp; done)) | refine subRows_app _ _ _ (pureRows_map (fun _ => rfl) _) ?_ | (conv => whnf); first | refine And.intro ?_ ?_ | (simp only [List.length_map]; done) | (congr 1; omega) | (congr 1; simp; done) | fail))
  refine LWP.ind (fun i : Nat => ts.length - i) (fun _ => 0) (fun i => [(3, I (i:Int)), (0, .rd 7 (ts.map cTrip))]) (fun i => []) (fun i => i ≤ ts.length ∧ i ≤ 11 ∧ ∀ j t, j < i → ts[j]? = some t → fewT t = true) (fun i hi ih => ?_) 0 ⟨Nat.zero_le _, Nat.zero_le _, fun j t hj => absurd hj (Nat.not_lt_zero _)⟩
  rcases Nat.lt_or_ge i ts.length with hlt | hge
  · obtain ⟨t, ht⟩ : ∃ t, ts[i]? = some t := ⟨_, List.getElem?_eq_getElem hlt⟩
    have hrow : (ts.map cTrip)[((i:Nat):Int).toNat]? = some (cTrip t) := by rw [Int.toNat_natCast, List.getElem?_map, ht]; rfl
    have eR := lmap t.reads cSeen
    have eW := lmap t.writes cWr
    repeat' (conv => whnf); first | refine And.intro rfl ?_ | ((refine And.intro (?_ : (_ + _) * _ ≤ 140737488355328) ?_); (focus (simp only [List.length_nil, List.length_map, List.length_take, List.length_drop, List.length_append, List.length_cons, List.length_nil]; omega))) | refine And.intro (Nat.le_of_ble_eq_true rfl) ?_ | refine And.intro ⟨rfl, rfl⟩ ?_ | refine And.intro ⟨rfl, Nat.le_of_ble_eq_true rfl⟩ ?_ | refine And.intro ⟨rfl, rfl, Nat.le_of_ble_eq_true rfl⟩ ?_ | refine And.intro ⟨Nat.le_of_ble_eq_true rfl, Nat.le_of_ble_eq_true rfl, rfl, rfl, rfl⟩ ?_ | refine And.intro ⟨Nat.le_of_ble_eq_true rfl, rfl, rfl, rfl, Nat.le_of_ble_eq_true rfl, rfl⟩ ?_ | refine And.intro trivial ?_ | refine And.intro ⟨Nat.le_of_ble_eq_true rfl, Nat.le_of_ble_eq_true rfl, rfl, oneRows_map (fun _ => rfl) _, rfl⟩ ?_ | refine And.intro ⟨Nat.le_of_ble_eq_true rfl, Nat.le_of_ble_eq_true rfl, rfl, oneRows_dt (fun _ => rfl) _ _ _, rfl⟩ ?_ | refine SWP.go [] rfl ?_ | refine Exists.intro _ (And.intro hrow ?_) | refine Gives.pure rfl ?_ | ((refine And.intro (fun h => ?_) (fun h => ?_)) <;> try (exfalso; omega)) | (refine And.intro ?_ ?_; (focus (first | omega | (simp only [Eng.lo, Eng.hi, List.length_map] at *; omega) | (refine ⟨?_, ?_⟩ <;> first | rfl | omega | (simp only [Eng.lo, Eng.hi, List.length_map] at *; omega)) | (simp only [List.length_nil, List.length_map, List.length_take, List.length_drop, List.length_append, List.length_cons, List.length_nil]; omega)))) | refine And.intro ?_ ?_ | fail
    all_goals try (constructor; refine ⟨congrArg B (few_bad (i := i) (by omega) ht (fewT_len (by omega))).symm, rfl, rfl⟩; done)
    all_goals try (constructor; refine ⟨congrArg B (few_end (by omega)).symm, rfl, rfl⟩; done)
    all_goals try (exfalso; omega)
    have hl1 : t.reads.length ≤ 10 ∧ t.writes.length ≤ 10 := by omega
    conv => whnf
    refine SWP.loop (n0 := 0) [] hr rfl (nx' := 0) (T' := [(40, I ((0:Nat):Int)), (39, I (t.reads.length : Int)), (38, .rd 4 (t.reads.map cSeen)), (3, I (i:Int)), (0, .rd 7 (ts.map cTrip))]) (O' := []) ⟨⟨rfl, rfl, trivial, ?_⟩⟩ ?_
    · (repeat' (first | exact rfl | exact trivial | exact pureRows_map (fun _ => rfl) _ | (refine subRows_of ?_ (pureRows_map (fun _ => rfl) _); first | rfl | (simp; done)) | refine subRows_app _ _ _ (pureRows_map (fun _ => rfl) _) ?_ | (conv => whnf); first | refine And.intro ?_ ?_ | (simp only [List.length_map]; done) | (congr 1; omega) | (congr 1; simp; done) | fail))
    refine LWP.ind (fun j : Nat => t.reads.length - j) (fun _ => 0) (fun j => [(40, I (j:Int)), (39, I (t.reads.length : Int)), (38, .rd 4 (t.reads.map cSeen)), (3, I (i:Int)), (0, .rd 7 (ts.map cTrip))]) (fun j => []) (fun j => j ≤ t.reads.length ∧ ∀ k s, k < j → t.reads[k]? = some s → fewS s = true) (fun j hj ih2 => ?_) 0 ⟨Nat.zero_le _, fun j t hj => absurd hj (Nat.not_lt_zero _)⟩
    rcases Nat.lt_or_ge j t.reads.length with hlt2 | hge2
    · obtain ⟨s, hs⟩ : ∃ s, t.reads[j]? = some s := ⟨_, List.getElem?_eq_getElem hlt2⟩
      have hrow2 : (t.reads.map cSeen)[((j:Nat):Int).toNat]? = some (cSeen s) := by rw [Int.toNat_natCast, List.getElem?_map, hs]; rfl
      repeat' (conv => whnf); first | refine And.intro rfl ?_ | ((refine And.intro (?_ : (_ + _) * _ ≤ 140737488355328) ?_); (focus (simp only [List.length_nil, List.length_map, List.length_take, List.length_drop, List.length_append, List.length_cons, List.length_nil]; omega))) | refine And.intro (Nat.le_of_ble_eq_true rfl) ?_ | refine And.intro ⟨rfl, rfl⟩ ?_ | refine And.intro ⟨rfl, Nat.le_of_ble_eq_true rfl⟩ ?_ | refine And.intro ⟨rfl, rfl, Nat.le_of_ble_eq_true rfl⟩ ?_ | refine And.intro ⟨Nat.le_of_ble_eq_true rfl, Nat.le_of_ble_eq_true rfl, rfl, rfl, rfl⟩ ?_ | refine And.intro ⟨Nat.le_of_ble_eq_true rfl, rfl, rfl, rfl, Nat.le_of_ble_eq_true rfl, rfl⟩ ?_ | refine And.intro trivial ?_ | refine And.intro ⟨Nat.le_of_ble_eq_true rfl, Nat.le_of_ble_eq_true rfl, rfl, oneRows_map (fun _ => rfl) _, rfl⟩ ?_ | refine And.intro ⟨Nat.le_of_ble_eq_true rfl, Nat.le_of_ble_eq_true rfl, rfl, oneRows_dt (fun _ => rfl) _ _ _, rfl⟩ ?_ | refine SWP.go [] rfl ?_ | refine Exists.intro _ (And.intro hrow2 ?_) | refine LWP.next (ih2 (j+1) ?_) [] hr rfl ?_ | refine Gives.pure rfl ?_ | ((refine And.intro (fun h => ?_) (fun h => ?_)) <;> try (exfalso; omega)) | (refine And.intro ?_ ?_; (focus (first | omega | (simp only [Eng.lo, Eng.hi, List.length_map] at *; omega) | (refine ⟨?_, ?_⟩ <;> first | rfl | omega | (simp only [Eng.lo, Eng.hi, List.length_map] at *; omega)) | (simp only [List.length_nil, List.length_map, List.length_take, List.length_drop, List.length_append, List.length_cons, List.length_nil]; omega)))) | refine And.intro ?_ ?_ | fail
      all_goals constructor
      all_goals first
        | (refine ⟨congrArg B (few_bad (i := i) (by omega) ht (fewT_s hs ?_)).symm, rfl, rfl⟩; simp only [fewS]; simp only [decide_eq_false_iff_not]; omega)
        | (refine ⟨by omega, by omega, fun k s' hk hs' => ?_⟩
           rcases Nat.lt_or_eq_of_le (Nat.le_of_lt_succ hk) with h3 | rfl
           · exact hj.2 k s' h3 hs'
           · rw [hs] at hs'; cases hs'; simp only [fewS, decide_eq_true_eq]; omega)
        | (refine ⟨rfl, rfl, trivial, ?_⟩; (repeat' (first | exact rfl | exact trivial | exact pureRows_map (fun _ => rfl) _ | (refine subRows_of ?_ (pureRows_map (fun _ => rfl) _); first | rfl | (simp; done)) | refine subRows_app _ _ _ (pureRows_map (fun _ => rfl) _) ?_ | (conv => whnf); first | refine And.intro ?_ ?_ | (simp only [List.length_map]; done) | (congr 1; omega) | (congr 1; simp; done) | fail)); done)
    · have hS : t.reads.all fewS = true := all_get fun k s h => hj.2 k s (by have := (List.getElem?_eq_some_iff.1 h).1; omega) h
      repeat' (conv => whnf); first | refine And.intro rfl ?_ | ((refine And.intro (?_ : (_ + _) * _ ≤ 140737488355328) ?_); (focus (simp only [List.length_nil, List.length_map, List.length_take, List.length_drop, List.length_append, List.length_cons, List.length_nil]; omega))) | refine And.intro (Nat.le_of_ble_eq_true rfl) ?_ | refine And.intro ⟨rfl, rfl⟩ ?_ | refine And.intro ⟨rfl, Nat.le_of_ble_eq_true rfl⟩ ?_ | refine And.intro ⟨rfl, rfl, Nat.le_of_ble_eq_true rfl⟩ ?_ | refine And.intro ⟨Nat.le_of_ble_eq_true rfl, Nat.le_of_ble_eq_true rfl, rfl, rfl, rfl⟩ ?_ | refine And.intro ⟨Nat.le_of_ble_eq_true rfl, rfl, rfl, rfl, Nat.le_of_ble_eq_true rfl, rfl⟩ ?_ | refine And.intro trivial ?_ | refine And.intro ⟨Nat.le_of_ble_eq_true rfl, Nat.le_of_ble_eq_true rfl, rfl, oneRows_map (fun _ => rfl) _, rfl⟩ ?_ | refine And.intro ⟨Nat.le_of_ble_eq_true rfl, Nat.le_of_ble_eq_true rfl, rfl, oneRows_dt (fun _ => rfl) _ _ _, rfl⟩ ?_ | refine SWP.go [] rfl ?_ | refine Exists.intro _ (And.intro hrow ?_) | ((refine And.intro (fun h => ?_) (fun h => ?_)) <;> try (exfalso; omega)) | (refine And.intro ?_ ?_; (focus (first | omega | (simp only [Eng.lo, Eng.hi, List.length_map] at *; omega) | (refine ⟨?_, ?_⟩ <;> first | rfl | omega | (simp only [Eng.lo, Eng.hi, List.length_map] at *; omega)) | (simp only [List.length_nil, List.length_map, List.length_take, List.length_drop, List.length_append, List.length_cons, List.length_nil]; omega)))) | refine And.intro ?_ ?_ | fail
      conv => whnf
      refine SWP.loop (n0 := 0) [] hr rfl (nx' := 0) (T' := [(61, I ((0:Nat):Int)), (60, I (t.writes.length : Int)), (59, .rd 2 (t.writes.map cWr)), (3, I (i:Int)), (0, .rd 7 (ts.map cTrip))]) (O' := []) ⟨⟨rfl, rfl, trivial, ?_⟩⟩ ?_
      · (repeat' (first | exact rfl | exact trivial | exact pureRows_map (fun _ => rfl) _ | (refine subRows_of ?_ (pureRows_map (fun _ => rfl) _); first | rfl | (simp; done)) | refine subRows_app _ _ _ (pureRows_map (fun _ => rfl) _) ?_ | (conv => whnf); first | refine And.intro ?_ ?_ | (simp only [List.length_map]; done) | (congr 1; omega) | (congr 1; simp; done) | fail))
      refine LWP.ind (fun j : Nat => t.writes.length - j) (fun _ => 0) (fun j => [(61, I (j:Int)), (60, I (t.writes.length : Int)), (59, .rd 2 (t.writes.map cWr)), (3, I (i:Int)), (0, .rd 7 (ts.map cTrip))]) (fun j => []) (fun j => j ≤ t.writes.length ∧ ∀ k s, k < j → t.writes[k]? = some s → fewW s = true) (fun j hj ih2 => ?_) 0 ⟨Nat.zero_le _, fun j t hj => absurd hj (Nat.not_lt_zero _)⟩
      rcases Nat.lt_or_ge j t.writes.length with hlt2 | hge3
      · obtain ⟨s, hs⟩ : ∃ s, t.writes[j]? = some s := ⟨_, List.getElem?_eq_getElem hlt2⟩
        have hrow2 : (t.writes.map cWr)[((j:Nat):Int).toNat]? = some (cWr s) := by rw [Int.toNat_natCast, List.getElem?_map, hs]; rfl
        repeat' (conv => whnf); first | refine And.intro rfl ?_ | ((refine And.intro (?_ : (_ + _) * _ ≤ 140737488355328) ?_); (focus (simp only [List.length_nil, List.length_map, List.length_take, List.length_drop, List.length_append, List.length_cons, List.length_nil]; omega))) | refine And.intro (Nat.le_of_ble_eq_true rfl) ?_ | refine And.intro ⟨rfl, rfl⟩ ?_ | refine And.intro ⟨rfl, Nat.le_of_ble_eq_true rfl⟩ ?_ | refine And.intro ⟨rfl, rfl, Nat.le_of_ble_eq_true rfl⟩ ?_ | refine And.intro ⟨Nat.le_of_ble_eq_true rfl, Nat.le_of_ble_eq_true rfl, rfl, rfl, rfl⟩ ?_ | refine And.intro ⟨Nat.le_of_ble_eq_true rfl, rfl, rfl, rfl, Nat.le_of_ble_eq_true rfl, rfl⟩ ?_ | refine And.intro trivial ?_ | refine And.intro ⟨Nat.le_of_ble_eq_true rfl, Nat.le_of_ble_eq_true rfl, rfl, oneRows_map (fun _ => rfl) _, rfl⟩ ?_ | refine And.intro ⟨Nat.le_of_ble_eq_true rfl, Nat.le_of_ble_eq_true rfl, rfl, oneRows_dt (fun _ => rfl) _ _ _, rfl⟩ ?_ | refine SWP.go [] rfl ?_ | refine Exists.intro _ (And.intro hrow2 ?_) | refine LWP.next (ih2 (j+1) ?_) [] hr rfl ?_ | refine Gives.pure rfl ?_ | ((refine And.intro (fun h => ?_) (fun h => ?_)) <;> try (exfalso; omega)) | (refine And.intro ?_ ?_; (focus (first | omega | (simp only [Eng.lo, Eng.hi, List.length_map] at *; omega) | (refine ⟨?_, ?_⟩ <;> first | rfl | omega | (simp only [Eng.lo, Eng.hi, List.length_map] at *; omega)) | (simp only [List.length_nil, List.length_map, List.length_take, List.length_drop, List.length_append, List.length_cons, List.length_nil]; omega)))) | refine And.intro ?_ ?_ | fail
        all_goals constructor
        all_goals first
          | (refine ⟨congrArg B (few_bad (i := i) (by omega) ht (fewT_w hs ?_)).symm, rfl, rfl⟩; simp only [fewW]; simp only [decide_eq_false_iff_not]; omega)
          | (refine ⟨by omega, by omega, fun k s' hk hs' => ?_⟩
             rcases Nat.lt_or_eq_of_le (Nat.le_of_lt_succ hk) with h3 | rfl
             · exact hj.2 k s' h3 hs'
             · rw [hs] at hs'; cases hs'; simp only [fewW, decide_eq_true_eq]; omega)
          | (refine ⟨rfl, rfl, trivial, ?_⟩; (repeat' (first | exact rfl | exact trivial | exact pureRows_map (fun _ => rfl) _ | (refine subRows_of ?_ (pureRows_map (fun _ => rfl) _); first | rfl | (simp; done)) | refine subRows_app _ _ _ (pureRows_map (fun _ => rfl) _) ?_ | (conv => whnf); first | refine And.intro ?_ ?_ | (simp only [List.length_map]; done) | (congr 1; omega) | (congr 1; simp; done) | fail)); done)
      · have hW : t.writes.all fewW = true := all_get fun k s h => hj.2 k s (by have := (List.getElem?_eq_some_iff.1 h).1; omega) h
        repeat' (conv => whnf); first | refine And.intro rfl ?_ | ((refine And.intro (?_ : (_ + _) * _ ≤ 140737488355328) ?_); (focus (simp only [List.length_nil, List.length_map, List.length_take, List.length_drop, List.length_append, List.length_cons, List.length_nil]; omega))) | refine And.intro (Nat.le_of_ble_eq_true rfl) ?_ | refine And.intro ⟨rfl, rfl⟩ ?_ | refine And.intro ⟨rfl, Nat.le_of_ble_eq_true rfl⟩ ?_ | refine And.intro ⟨rfl, rfl, Nat.le_of_ble_eq_true rfl⟩ ?_ | refine And.intro ⟨Nat.le_of_ble_eq_true rfl, Nat.le_of_ble_eq_true rfl, rfl, rfl, rfl⟩ ?_ | refine And.intro ⟨Nat.le_of_ble_eq_true rfl, rfl, rfl, rfl, Nat.le_of_ble_eq_true rfl, rfl⟩ ?_ | refine And.intro trivial ?_ | refine And.intro ⟨Nat.le_of_ble_eq_true rfl, Nat.le_of_ble_eq_true rfl, rfl, oneRows_map (fun _ => rfl) _, rfl⟩ ?_ | refine And.intro ⟨Nat.le_of_ble_eq_true rfl, Nat.le_of_ble_eq_true rfl, rfl, oneRows_dt (fun _ => rfl) _ _ _, rfl⟩ ?_ | refine SWP.go [] rfl ?_ | refine LWP.next (ih (i+1) ?_) [] hr rfl ?_ | ((refine And.intro (fun h => ?_) (fun h => ?_)) <;> try (exfalso; omega)) | (refine And.intro ?_ ?_; (focus (first | omega | (simp only [Eng.lo, Eng.hi, List.length_map] at *; omega) | (refine ⟨?_, ?_⟩ <;> first | rfl | omega | (simp only [Eng.lo, Eng.hi, List.length_map] at *; omega)) | (simp only [List.length_nil, List.length_map, List.length_take, List.length_drop, List.length_append, List.length_cons, List.length_nil]; omega)))) | refine And.intro ?_ ?_ | fail
        all_goals constructor
        · refine ⟨by omega, by omega, by omega, fun k t' hk ht' => ?_⟩
          rcases Nat.lt_or_eq_of_le (Nat.le_of_lt_succ hk) with h3 | rfl
          · exact hi.2.2 k t' h3 ht'
          · rw [ht] at ht'; cases ht'; simp [fewT, hl1, hS, hW]
        · refine ⟨rfl, rfl, trivial, ?_⟩
          (repeat' (first | exact rfl | exact trivial | exact pureRows_map (fun _ => rfl) _ | (refine subRows_of ?_ (pureRows_map (fun _ => rfl) _); first | rfl | (simp; done)) | refine subRows_app _ _ _ (pureRows_map (fun _ => rfl) _) ?_ | (conv => whnf); first | refine And.intro ?_ ?_ | (simp only [List.length_map]; done) | (congr 1; omega) | (congr 1; simp; done) | fail))
  · repeat' (conv => whnf); first | refine And.intro rfl ?_ | ((refine And.intro (?_ : (_ + _) * _ ≤ 140737488355328) ?_); (focus (simp only [List.length_nil, List.length_map, List.length_take, List.length_drop, List.length_append, List.length_cons, List.length_nil]; omega))) | refine And.intro (Nat.le_of_ble_eq_true rfl) ?_ | refine And.intro ⟨rfl, rfl⟩ ?_ | refine And.intro ⟨rfl, Nat.le_of_ble_eq_true rfl⟩ ?_ | refine And.intro ⟨rfl, rfl, Nat.le_of_ble_eq_true rfl⟩ ?_ | refine And.intro ⟨Nat.le_of_ble_eq_true rfl, Nat.le_of_ble_eq_true rfl, rfl, rfl, rfl⟩ ?_ | refine And.intro ⟨Nat.le_of_ble_eq_true rfl, rfl, rfl, rfl, Nat.le_of_ble_eq_true rfl, rfl⟩ ?_ | refine And.intro trivial ?_ | refine And.intro ⟨Nat.le_of_ble_eq_true rfl, Nat.le_of_ble_eq_true rfl, rfl, oneRows_map (fun _ => rfl) _, rfl⟩ ?_ | refine And.intro ⟨Nat.le_of_ble_eq_true rfl, Nat.le_of_ble_eq_true rfl, rfl, oneRows_dt (fun _ => rfl) _ _ _, rfl⟩ ?_ | refine SWP.go [] rfl ?_ | refine Gives.pure rfl ?_ | ((refine And.intro (fun h => ?_) (fun h => ?_)) <;> try (exfalso; omega)) | (refine And.intro ?_ ?_; (focus (first | omega | (simp only [Eng.lo, Eng.hi, List.length_map] at *; omega) | (refine ⟨?_, ?_⟩ <;> first | rfl | omega | (simp only [Eng.lo, Eng.hi, List.length_map] at *; omega)) | (simp only [List.length_nil, List.length_map, List.length_take, List.length_drop, List.length_append, List.length_cons, List.length_nil]; omega)))) | refine And.intro ?_ ?_ | fail
    all_goals try (exfalso; omega)
    all_goals constructor
    · refine ⟨congrArg B ?_, rfl, rfl⟩
      have h1 : (ts.take 11).all fewT = true := by
        rw [List.take_of_length_le (by omega)]
        exact all_get fun k t h => hi.2.2 k t (by have := (List.getElem?_eq_some_iff.1 h).1; omega) h
      simp [fewB, h1]; omega
    all_goals (refine ⟨congrArg B (few_end (by omega)).symm, rfl, rfl⟩)
end Go.Eng
