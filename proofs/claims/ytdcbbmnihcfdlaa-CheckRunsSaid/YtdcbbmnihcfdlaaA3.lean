/- Contracts of functions of the given program, and the plain laws that they lean on. -/
import Derived.Test.YtdcbbmnihcfdlaaA2
set_option linter.unusedVariables false
set_option linter.unusedSimpArgs false
set_option linter.unnecessarySimpa false
set_option linter.constructorNameAsVariable false
set_option linter.all false
open Go.Proofs Go.Eng.Tab
namespace Go.Eng
set_option maxRecDepth 100000
attribute [local irreducible] SWP LWP CallOK Spec Gives Bd
structure Seen where
  key : ByteArray
  time : Int
  cl : Int
  val : ByteArray
structure Wr where
  key : ByteArray
  val : ByteArray
structure Trip where
  txc : Int
  txn : Int
  time : Int
  cl : Int
  reads : List Seen
  writes : List Wr
  out : Int
instance : Inhabited Seen := ⟨⟨default, 0, 0, default⟩⟩
instance : Inhabited Wr := ⟨⟨default, default⟩⟩
instance : Inhabited Trip := ⟨⟨0, 0, 0, 0, [], [], 0⟩⟩
def cSeen (s : Seen) : List SV := [S s.key, I s.time, I s.cl, S s.val]
def cWr (s : Wr) : List SV := [S s.key, S s.val]
def cTrip (t : Trip) : List SV := [I t.txc, I t.txn, I t.time, I t.cl, .rd 4 (t.reads.map cSeen), .rd 2 (t.writes.map cWr), I t.out]
def okTxn (c n : Int) : Bool := decide (0 ≤ c ∧ c ≤ 3 ∧ 1 ≤ n ∧ n ≤ 1099511627776)
def okStamp (t c : Int) : Bool := decide (0 ≤ t ∧ t ≤ 1099511627776 ∧ 0 ≤ c ∧ c ≤ 3)
theorem t26 (a b : Int) : Fun Try.prog 26 [.agg [I a, I b]] (B (okTxn a b)) := by
  refine Fun.walk pf26 rfl (Nat.le_of_ble_eq_true rfl) fun c hP hn hr => ?_
  obtain ⟨P_, n_, w0_, F_, Y_, r0_⟩ := c; subst hP; subst hn
  repeat' (conv => whnf); first | refine And.intro rfl ?_ | ((refine And.intro (?_ : (_ + _) * _ ≤ 140737488355328) ?_); (focus (simp only [List.length_nil, List.length_map, List.length_take, List.length_append, List.length_cons, List.length_nil]; omega))) | refine And.intro (Nat.le_of_ble_eq_true rfl) ?_ | refine And.intro ⟨rfl, rfl⟩ ?_ | refine And.intro ⟨rfl, Nat.le_of_ble_eq_true rfl⟩ ?_ | refine And.intro ⟨rfl, rfl, Nat.le_of_ble_eq_true rfl⟩ ?_ | refine And.intro ⟨Nat.le_of_ble_eq_true rfl, Nat.le_of_ble_eq_true rfl, rfl, rfl, rfl⟩ ?_ | refine And.intro ⟨Nat.le_of_ble_eq_true rfl, rfl, rfl, rfl, Nat.le_of_ble_eq_true rfl, rfl⟩ ?_ | refine And.intro ⟨rfl, bd37⟩ ?_ | refine SWP.go [] rfl ?_ | refine Fun.callb (t37 _ _ _) rfl (fun h => ?_) (fun h => ?_) | ((refine And.intro (fun h => ?_) (fun h => ?_)) <;> try (exfalso; omega)) | (refine And.intro ?_ ?_; (focus (first | omega | (simp only [Eng.lo, Eng.hi, List.length_map] at *; omega) | (refine ⟨?_, ?_⟩ <;> first | rfl | omega | (simp only [Eng.lo, Eng.hi, List.length_map] at *; omega)) | (simp only [List.length_nil, List.length_map, List.length_take, List.length_append, List.length_cons, List.length_nil]; omega)))) | refine And.intro ?_ ?_ | fail
  all_goals (refine Gives.pure rfl ⟨⟨congrArg B ?_, rfl, rfl⟩⟩)
  all_goals (simp only [decide_eq_true_eq, decide_eq_false_iff_not, okTxn, Bool.true_eq, Bool.false_eq, decide_eq_true_eq, decide_eq_false_iff_not] at *; omega)
theorem t27 (a b : Int) : Fun Try.prog 27 [.agg [I a, I b]] (B (okStamp a b)) := by
  refine Fun.walk pf27 rfl (Nat.le_of_ble_eq_true rfl) fun c hP hn hr => ?_
  obtain ⟨P_, n_, w0_, F_, Y_, r0_⟩ := c; subst hP; subst hn
  repeat' (conv => whnf); first | refine And.intro rfl ?_ | ((refine And.intro (?_ : (_ + _) * _ ≤ 140737488355328) ?_); (focus (simp only [List.length_nil, List.length_map, List.length_take, List.length_append, List.length_cons, List.length_nil]; omega))) | refine And.intro (Nat.le_of_ble_eq_true rfl) ?_ | refine And.intro ⟨rfl, rfl⟩ ?_ | refine And.intro ⟨rfl, Nat.le_of_ble_eq_true rfl⟩ ?_ | refine And.intro ⟨rfl, rfl, Nat.le_of_ble_eq_true rfl⟩ ?_ | refine And.intro ⟨Nat.le_of_ble_eq_true rfl, Nat.le_of_ble_eq_true rfl, rfl, rfl, rfl⟩ ?_ | refine And.intro ⟨Nat.le_of_ble_eq_true rfl, rfl, rfl, rfl, Nat.le_of_ble_eq_true rfl, rfl⟩ ?_ | refine And.intro ⟨rfl, bd37⟩ ?_ | refine SWP.go [] rfl ?_ | refine Fun.callb (t37 _ _ _) rfl (fun h => ?_) (fun h => ?_) | ((refine And.intro (fun h => ?_) (fun h => ?_)) <;> try (exfalso; omega)) | (refine And.intro ?_ ?_; (focus (first | omega | (simp only [Eng.lo, Eng.hi, List.length_map] at *; omega) | (refine ⟨?_, ?_⟩ <;> first | rfl | omega | (simp only [Eng.lo, Eng.hi, List.length_map] at *; omega)) | (simp only [List.length_nil, List.length_map, List.length_take, List.length_append, List.length_cons, List.length_nil]; omega)))) | refine And.intro ?_ ?_ | fail
  all_goals (refine Gives.pure rfl ⟨⟨congrArg B ?_, rfl, rfl⟩⟩)
  all_goals (simp only [decide_eq_true_eq, decide_eq_false_iff_not, okStamp, Bool.true_eq, Bool.false_eq] at *; omega)
def okSeen (s : Seen) : Bool := okStamp s.time s.cl && decide (s.val.size ≤ 8)
def okWr (s : Wr) : Bool := decide (s.val.size ≤ 8)
def okTrip (t : Trip) : Bool := okTxn t.txc t.txn && okStamp t.time t.cl && decide (1 ≤ t.time ∧ 0 ≤ t.out ∧ t.out ≤ 2) && t.reads.all okSeen && t.writes.all okWr && rights (t.reads.map (·.key)) && rights (t.writes.map (·.key))
theorem t14 (t : Trip) (h1 : t.reads.length ≤ 1000) (h2 : t.writes.length ≤ 1000) : Fun Try.prog 14 [.agg (cTrip t)] (B (okTrip t)) := by
  refine Fun.walk pf14 rfl (Nat.le_of_ble_eq_true rfl) fun c hP hn hr => ?_
  obtain ⟨P_, n_, w0_, F_, Y_, r0_⟩ := c; subst hP; subst hn
  repeat' (conv => whnf); first | refine And.intro rfl ?_ | ((refine And.intro (?_ : (_ + _) * _ ≤ 140737488355328) ?_); (focus (simp only [by9, List.length_map, List.length_take, List.length_append, List.length_cons, List.length_nil]; omega))) | refine And.intro (Nat.le_of_ble_eq_true rfl) ?_ | refine And.intro ⟨rfl, rfl⟩ ?_ | refine And.intro ⟨rfl, Nat.le_of_ble_eq_true rfl⟩ ?_ | refine And.intro ⟨rfl, rfl, Nat.le_of_ble_eq_true rfl⟩ ?_ | refine And.intro ⟨Nat.le_of_ble_eq_true rfl, Nat.le_of_ble_eq_true rfl, rfl, rfl, rfl⟩ ?_ | refine And.intro ⟨Nat.le_of_ble_eq_true rfl, rfl, rfl, rfl, Nat.le_of_ble_eq_true rfl, rfl⟩ ?_ | refine And.intro ⟨rfl, bd26⟩ ?_ | refine And.intro ⟨rfl, bd27⟩ ?_ | refine And.intro ⟨rfl, bd28⟩ ?_ | refine SWP.go [] rfl ?_ | refine Fun.callb (t26 _ _) rfl (fun h => ?_) (fun h => ?_) | refine Fun.callb (t27 _ _) rfl (fun h => ?_) (fun h => ?_) | refine Gives.pure rfl ?_ | ((refine And.intro (fun h => ?_) (fun h => ?_)) <;> try (exfalso; omega)) | (refine And.intro ?_ ?_; (focus (first | omega | (simp only [Eng.lo, Eng.hi, List.length_map] at *; omega) | (refine ⟨?_, ?_⟩ <;> first | rfl | omega | (simp only [Eng.lo, Eng.hi, List.length_map] at *; omega)) | (simp only [by9, List.length_map, List.length_take, List.length_append, List.length_cons, List.length_nil]; omega)))) | refine And.intro ?_ ?_ | fail
  case refine_1.refine_1.refine_2.refine_2.refine_2 =>
    refine SWP.loop (n0 := 0) [some 0, none] hr rfl (T' := [(38, I ((0:Nat):Int)), (37, I (t.reads.length : Int)), (36, .rd 4 (t.reads.map cSeen)), (1, .ptr 0 0), (2, B false), (3, .own 1), (4, .v (.slice none 0 0))]) (O' := [(0, .box 35 (cTrip t)), (1, .row 9 1 (((t.reads.take 0).map (·.key)).map skey))]) ⟨⟨rfl, rfl, ?_, ?_⟩⟩ ?_
    · repeat' first | exact rfl | exact trivial | (conv => whnf); first | refine And.intro ?_ ?_ | (simp only [List.length_map]; done) | (congr 1; omega) | (congr 1; simp; done) | fail
    · repeat' first | exact rfl | exact trivial | (conv => whnf); first | refine And.intro ?_ ?_ | (simp only [List.length_map]; done) | (congr 1; omega) | (congr 1; simp; done) | fail
    refine LWP.ind (fun i : Nat => t.reads.length - i) (fun _ => 2) (fun i => [(38, I (i:Int)), (37, I (t.reads.length : Int)), (36, .rd 4 (t.reads.map cSeen)), (1, .ptr 0 0), (2, B false), (3, .own 1), (4, .v (.slice none 0 0))]) (fun i => [(0, .box 35 (cTrip t)), (1, .row 9 1 (((t.reads.take i).map (·.key)).map skey))]) (fun i => i ≤ t.reads.length ∧ ∀ j, j < i → okSeen (t.reads.getD j default) = true) (fun i hi ih => ?_) 0 ⟨Nat.zero_le _, fun j hj => absurd hj (Nat.not_lt_zero _)⟩
    repeat' (conv => whnf); first | refine And.intro rfl ?_ | ((refine And.intro (?_ : (_ + _) * _ ≤ 140737488355328) ?_); (focus (simp only [by9, List.length_map, List.length_take, List.length_append, List.length_cons, List.length_nil]; omega))) | refine And.intro (Nat.le_of_ble_eq_true rfl) ?_ | refine And.intro ⟨rfl, rfl⟩ ?_ | refine And.intro ⟨rfl, Nat.le_of_ble_eq_true rfl⟩ ?_ | refine And.intro ⟨rfl, rfl, Nat.le_of_ble_eq_true rfl⟩ ?_ | refine And.intro ⟨Nat.le_of_ble_eq_true rfl, Nat.le_of_ble_eq_true rfl, rfl, rfl, rfl⟩ ?_ | refine And.intro ⟨Nat.le_of_ble_eq_true rfl, rfl, rfl, rfl, Nat.le_of_ble_eq_true rfl, rfl⟩ ?_ | refine And.intro ⟨rfl, bd26⟩ ?_ | refine And.intro ⟨rfl, bd27⟩ ?_ | refine And.intro ⟨rfl, bd28⟩ ?_ | refine SWP.go [] rfl ?_ | refine Fun.callb (t27 _ _) rfl (fun h => ?_) (fun h => ?_) | refine Exists.intro _ (And.intro (row_get (by omega) (by omega)) ?_) | refine LWP.next (ih (i+1) ?_) [some 0, some 4] hr rfl ?_ | refine Gives.pure rfl ?_ | ((refine And.intro (fun h => ?_) (fun h => ?_)) <;> try (exfalso; omega)) | (refine And.intro ?_ ?_; (focus (first | omega | (simp only [Eng.lo, Eng.hi, List.length_map] at *; omega) | (refine ⟨?_, ?_⟩ <;> first | rfl | omega | (simp only [Eng.lo, Eng.hi, List.length_map] at *; omega)) | (simp only [by9, List.length_map, List.length_take, List.length_append, List.length_cons, List.length_nil]; omega)))) | refine And.intro ?_ ?_ | fail
    case refine_3.refine_2 =>
      refine SWP.loop (n0 := 0) [some 0, some 1, none] hr rfl (T' := [(61, I ((0:Nat):Int)), (60, I (t.writes.length : Int)), (59, .rd 2 (t.writes.map cWr)), (1, .ptr 0 0), (2, B false), (3, .own 1), (4, .own 2)]) (O' := [(0, .box 35 (cTrip t)), (1, .row 9 1 ((t.reads.map (·.key)).map skey)), (2, .row 9 1 (((t.writes.take 0).map (·.key)).map skey))]) ⟨⟨rfl, rfl, ?_, ?_⟩⟩ ?_
      · refine ⟨?_, osub_row (by rw [List.take_of_length_le (by omega)]) (pureRows_map (fun _ => rfl) _), ?_⟩
        · repeat' first | exact rfl | exact trivial | (conv => whnf); first | refine And.intro ?_ ?_ | (simp only [List.length_map]; done) | (congr 1; omega) | (congr 1; simp; done) | fail
        · repeat' first | exact rfl | exact trivial | (conv => whnf); first | refine And.intro ?_ ?_ | (simp only [List.length_map]; done) | (congr 1; omega) | (congr 1; simp; done) | fail
      · repeat' first | exact rfl | exact trivial | (conv => whnf); first | refine And.intro ?_ ?_ | (simp only [List.length_map]; done) | (congr 1; omega) | (congr 1; simp; done) | fail
      refine LWP.ind (fun i : Nat => t.writes.length - i) (fun _ => 3) (fun i => [(61, I (i:Int)), (60, I (t.writes.length : Int)), (59, .rd 2 (t.writes.map cWr)), (1, .ptr 0 0), (2, B false), (3, .own 1), (4, .own 2)]) (fun i => [(0, .box 35 (cTrip t)), (1, .row 9 1 ((t.reads.map (·.key)).map skey)), (2, .row 9 1 (((t.writes.take i).map (·.key)).map skey))]) (fun i => i ≤ t.writes.length ∧ ∀ j, j < i → okWr (t.writes.getD j default) = true) (fun i hi2 ih => ?_) 0 ⟨Nat.zero_le _, fun j hj => absurd hj (Nat.not_lt_zero _)⟩
      repeat' (conv => whnf); first | refine And.intro rfl ?_ | ((refine And.intro (?_ : (_ + _) * _ ≤ 140737488355328) ?_); (focus (simp only [by9, List.length_map, List.length_take, List.length_append, List.length_cons, List.length_nil]; omega))) | refine And.intro (Nat.le_of_ble_eq_true rfl) ?_ | refine And.intro ⟨rfl, rfl⟩ ?_ | refine And.intro ⟨rfl, Nat.le_of_ble_eq_true rfl⟩ ?_ | refine And.intro ⟨rfl, rfl, Nat.le_of_ble_eq_true rfl⟩ ?_ | refine And.intro ⟨Nat.le_of_ble_eq_true rfl, Nat.le_of_ble_eq_true rfl, rfl, rfl, rfl⟩ ?_ | refine And.intro ⟨Nat.le_of_ble_eq_true rfl, rfl, rfl, rfl, Nat.le_of_ble_eq_true rfl, rfl⟩ ?_ | refine And.intro ⟨rfl, bd26⟩ ?_ | refine And.intro ⟨rfl, bd27⟩ ?_ | refine And.intro ⟨rfl, bd28⟩ ?_ | refine SWP.go [18] rfl ?_ | refine Exists.intro _ (And.intro (row_get (by omega) (by omega)) ?_) | refine LWP.next (ih (i+1) ?_) [some 0, some 1, some 5] hr rfl ?_ | refine Gives.pure rfl ?_ | ((refine And.intro (fun h => ?_) (fun h => ?_)) <;> try (exfalso; omega)) | (refine And.intro ?_ ?_; (focus (first | omega | (simp only [Eng.lo, Eng.hi, List.length_map] at *; omega) | (refine ⟨?_, ?_⟩ <;> first | rfl | omega | (simp only [Eng.lo, Eng.hi, List.length_map] at *; omega)) | (simp only [by9, List.length_map, List.length_take, List.length_append, List.length_cons, List.length_nil]; omega)))) | refine And.intro ?_ ?_ | fail
      case refine_3.refine_2 =>
        conv => whnf
        refine SWP.next (T' := [(2, B false), (3, .rd 1 ((t.reads.map (·.key)).map skey)), (4, .rd 1 ((t.writes.map (·.key)).map skey))]) (O' := []) ?_ [] hr rfl ⟨⟨rfl, rfl, trivial, ?_⟩⟩
        rotate_left
        · refine ⟨rfl, ⟨rfl, rfl, pureRows_map (fun _ => rfl) _, subRows_of rfl (pureRows_map (fun _ => rfl) _)⟩, ⟨rfl, rfl, pureRows_map (fun _ => rfl) _, subRows_of (by rw [List.take_of_length_le (by omega)]) (pureRows_map (fun _ => rfl) _)⟩, trivial⟩
        repeat' (conv => whnf); first | refine And.intro rfl ?_ | ((refine And.intro (?_ : (_ + _) * _ ≤ 140737488355328) ?_); (focus (simp only [by9, List.length_map, List.length_take, List.length_append, List.length_cons, List.length_nil]; omega))) | refine And.intro (Nat.le_of_ble_eq_true rfl) ?_ | refine And.intro ⟨rfl, rfl⟩ ?_ | refine And.intro ⟨rfl, Nat.le_of_ble_eq_true rfl⟩ ?_ | refine And.intro ⟨rfl, rfl, Nat.le_of_ble_eq_true rfl⟩ ?_ | refine And.intro ⟨Nat.le_of_ble_eq_true rfl, Nat.le_of_ble_eq_true rfl, rfl, rfl, rfl⟩ ?_ | refine And.intro ⟨Nat.le_of_ble_eq_true rfl, rfl, rfl, rfl, Nat.le_of_ble_eq_true rfl, rfl⟩ ?_ | refine And.intro ⟨rfl, bd26⟩ ?_ | refine And.intro ⟨rfl, bd27⟩ ?_ | refine And.intro ⟨rfl, bd28⟩ ?_ | refine SWP.go [] rfl ?_ | refine Fun.callb (t28 _ (by simp only [List.length_map]; omega)) rfl (fun h => ?_) (fun h => ?_) | refine Gives.pure rfl ?_ | ((refine And.intro (fun h => ?_) (fun h => ?_)) <;> try (exfalso; omega)) | (refine And.intro ?_ ?_; (focus (first | omega | (simp only [Eng.lo, Eng.hi, List.length_map] at *; omega) | (refine ⟨?_, ?_⟩ <;> first | rfl | omega | (simp only [Eng.lo, Eng.hi, List.length_map] at *; omega)) | (simp only [by9, List.length_map, List.length_take, List.length_append, List.length_cons, List.length_nil]; omega)))) | refine And.intro ?_ ?_ | fail
        all_goals (refine ⟨⟨congrArg B ?_, rfl, rfl⟩⟩)
        · have e1 := all_getD (p := okSeen) (l := t.reads) fun j hj => hi.2 j (by omega)
          have e2 := all_getD (p := okWr) (l := t.writes) fun j hj => hi2.2 j (by omega)
          simp_all [okTrip]
        · refine bool_false fun hok => ?_
          simp only [okTrip, Bool.and_eq_true] at hok
          simp_all
        · refine bool_false fun hok => ?_
          simp only [okTrip, Bool.and_eq_true] at hok
          simp_all
      all_goals constructor
      · refine ⟨congrArg B (bool_false fun hok => ?_), rfl, rfl⟩
        simp only [okTrip, Bool.and_eq_true] at hok
        have := getD_all hok.1.1.2 i (by omega)
        simp only [okWr, decide_eq_true_eq, Int.toNat_natCast] at *
        omega
      · refine ⟨by omega, by omega, fun j hj => ?_⟩
        rcases Nat.lt_or_eq_of_le (Nat.le_of_lt_succ hj) with h3 | rfl
        · exact hi2.2 _ h3
        · simp only [okWr, decide_eq_true_eq, Int.toNat_natCast] at *
          omega
      · refine ⟨rfl, rfl, ⟨?_, osub_row rfl (pureRows_map (fun _ => rfl) _), osub_row ?_ (pureRows_map (fun _ => rfl) _), trivial⟩, ?_⟩
        · repeat' first | exact rfl | exact trivial | (conv => whnf); first | refine And.intro ?_ ?_ | (simp only [List.length_map]; done) | (congr 1; omega) | (congr 1; simp; done) | fail
        · rw [take_getD (by omega)]; simp; rfl
        · repeat' first | exact rfl | exact trivial | (conv => whnf); first | refine And.intro ?_ ?_ | (simp only [List.length_map]; done) | (congr 1; omega) | (congr 1; simp; done) | fail
    all_goals constructor
    · refine ⟨congrArg B (bool_false fun hok => ?_), rfl, rfl⟩
      simp only [okTrip, Bool.and_eq_true] at hok
      have := getD_all hok.1.1.1.2 i (by omega)
      simp only [okSeen, Bool.and_eq_true, decide_eq_true_eq, Int.toNat_natCast] at *
      omega
    · refine ⟨by omega, by omega, fun j hj => ?_⟩
      rcases Nat.lt_or_eq_of_le (Nat.le_of_lt_succ hj) with h3 | rfl
      · exact hi.2 _ h3
      · simp only [okSeen, Bool.and_eq_true, decide_eq_true_eq, Int.toNat_natCast] at *
        exact ⟨by assumption, by omega⟩
    · refine ⟨rfl, rfl, ⟨?_, osub_row ?_ (pureRows_map (fun _ => rfl) _), trivial⟩, ?_⟩
      · repeat' first | exact rfl | exact trivial | (conv => whnf); first | refine And.intro ?_ ?_ | (simp only [List.length_map]; done) | (congr 1; omega) | (congr 1; simp; done) | fail
      · rw [take_getD (by omega)]; simp; rfl
      · repeat' first | exact rfl | exact trivial | (conv => whnf); first | refine And.intro ?_ ?_ | (simp only [List.length_map]; done) | (congr 1; omega) | (congr 1; simp; done) | fail
    · refine ⟨congrArg B (bool_false fun hok => ?_), rfl, rfl⟩
      simp only [okTrip, Bool.and_eq_true] at hok
      have := getD_all hok.1.1.1.2 i (by omega)
      simp only [okSeen, Bool.and_eq_true, Int.toNat_natCast] at *
      simp_all
  all_goals constructor
  all_goals refine ⟨congrArg B (bool_false fun hok => ?_), rfl, rfl⟩
  all_goals simp only [okTrip, Bool.and_eq_true, decide_eq_true_eq] at hok
  all_goals first | omega | simp_all
end Go.Eng
