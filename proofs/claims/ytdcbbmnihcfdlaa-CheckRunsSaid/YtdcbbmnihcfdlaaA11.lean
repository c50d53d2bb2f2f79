/- Contracts of functions of the given program, and the plain laws that they lean on. -/
import Derived.Test.YtdcbbmnihcfdlaaA10
import Derived.Test.YtdcbbmnihcfdlaaA5
set_option linter.unusedVariables false
set_option linter.unusedSimpArgs false
set_option linter.unnecessarySimpa false
set_option linter.constructorNameAsVariable false
set_option linter.all false
open Go.Proofs Go.Eng.Tab
namespace Go.Eng
set_option maxRecDepth 100000
set_option maxHeartbeats 4000000
attribute [local irreducible] SWP LWP CallOK Spec Gives Bd EqT
def wrong (ts : List Trip) (t : Trip) (s : Seen) : Prop := t.out = 1 ∧ (¬ ((there ts s.key t.time t.cl).time = s.time ∧ (there ts s.key t.time t.cl).cl = s.cl) ∨ ¬ (there ts s.key t.time t.cl).val = s.val)
def badT (ts : List Trip) (t : Trip) : Prop := ∃ s ∈ t.reads, wrong ts t s
open Classical in
noncomputable def check (ts : List Trip) : Int × Int := if ts.all okTrip = true then (if twice ts = true then (-1, 11) else match ts.findIdx? (fun t => decide (badT ts t)) with | some i => ((i : Int), 16) | none => (-1, 0)) else (-1, 1)
theorem check_arg {ts : List Trip} {i : Nat} {t : Trip} (h : ts[i]? = some t) (hb : okTrip t = false) : check ts = (-1, 1) := by
  unfold check
  rw [if_neg]
  intro ha
  have := List.all_eq_true.1 ha t (List.mem_of_getElem? h)
  rw [hb] at this; cases this
theorem check_there {ts : List Trip} (h : ts.all okTrip = true) (ht : twice ts = true) : check ts = (-1, 11) := by
  unfold check
  rw [if_pos h, if_pos ht]
theorem check_wrong {ts : List Trip} (h : ts.all okTrip = true) (ht : twice ts = false) {i : Nat} {t : Trip} (hi : ts[i]? = some t) (hb : badT ts t) (hp : ∀ (j : Nat) (t : Trip), j < i → ts[j]? = some t → ¬ badT ts t) : check ts = ((i : Int), 16) := by
  classical
  unfold check
  rw [if_pos h, if_neg (by rw [ht]; simp)]
  have : ts.findIdx? (fun t => decide (badT ts t)) = some i := by
    rw [List.findIdx?_eq_some_iff_getElem]
    obtain ⟨hlt, he⟩ := List.getElem?_eq_some_iff.1 hi
    refine ⟨hlt, by rw [he]; simpa using hb, fun j hj => ?_⟩
    simpa using hp j _ hj (List.getElem?_eq_getElem (by omega))
  have e : ts.findIdx? (fun t => @decide (badT ts t) (Classical.propDecidable _)) = some i := by
    rw [← this]
  rw [e]
theorem check_ok {ts : List Trip} (h : ts.all okTrip = true) (ht : twice ts = false) (hp : ∀ (j : Nat) (t : Trip), ts[j]? = some t → ¬ badT ts t) : check ts = (-1, 0) := by
  classical
  unfold check
  rw [if_pos h, if_neg (by rw [ht]; simp)]
  have : ts.findIdx? (fun t => @decide (badT ts t) (Classical.propDecidable _)) = none := by
    rw [List.findIdx?_eq_none_iff]
    intro x hx
    obtain ⟨j, hj⟩ := List.getElem?_of_mem hx
    simpa using hp j x hj
  rw [this]
theorem t15 (ts : List Trip) (hl : ts.length ≤ 19) (hb : ∀ t ∈ ts, few t) : Fun Try.prog 15 [.rd 7 (ts.map cTrip)] (.tup [I (check ts).1, I (check ts).2]) := by
  refine Fun.walk pf15 rfl (Nat.le_of_ble_eq_true rfl) fun c hP hn hr => ?_
  obtain ⟨P_, n_, w0_, F_, Y_, r0_⟩ := c; subst hP; subst hn
  repeat' (conv => whnf); first | refine And.intro rfl ?_ | ((refine And.intro (?_ : (_ + _) * _ ≤ 140737488355328) ?_); (focus (simp only [List.length_nil, List.length_map, List.length_take, List.length_drop, List.length_append, List.length_cons, List.length_nil]; omega))) | refine And.intro (Nat.le_of_ble_eq_true rfl) ?_ | refine And.intro ⟨rfl, rfl⟩ ?_ | refine And.intro ⟨rfl, Nat.le_of_ble_eq_true rfl⟩ ?_ | refine And.intro ⟨rfl, rfl, Nat.le_of_ble_eq_true rfl⟩ ?_ | refine And.intro ⟨Nat.le_of_ble_eq_true rfl, Nat.le_of_ble_eq_true rfl, rfl, rfl, rfl⟩ ?_ | refine And.intro ⟨Nat.le_of_ble_eq_true rfl, rfl, rfl, rfl, Nat.le_of_ble_eq_true rfl, rfl⟩ ?_ | refine And.intro trivial ?_ | refine And.intro ⟨Nat.le_of_ble_eq_true rfl, Nat.le_of_ble_eq_true rfl, rfl, oneRows_map (fun _ => rfl) _, rfl⟩ ?_ | refine And.intro ⟨Nat.le_of_ble_eq_true rfl, Nat.le_of_ble_eq_true rfl, rfl, oneRows_dt (fun _ => rfl) _ _ _, rfl⟩ ?_ | refine And.intro ⟨rfl, bd13⟩ ?_ | refine And.intro ⟨rfl, bd14⟩ ?_ | refine And.intro ⟨rfl, bd29⟩ ?_ | refine SWP.go [] rfl ?_ | ((refine And.intro (fun h => ?_) (fun h => ?_)) <;> try (exfalso; omega)) | (refine And.intro ?_ ?_; (focus (first | omega | (simp only [Eng.lo, Eng.hi, List.length_map] at *; omega) | (refine ⟨?_, ?_⟩ <;> first | rfl | omega | (simp only [Eng.lo, Eng.hi, List.length_map] at *; omega)) | (simp only [List.length_nil, List.length_map, List.length_take, List.length_drop, List.length_append, List.length_cons, List.length_nil]; omega)))) | refine And.intro ?_ ?_ | fail
  conv => whnf
  refine SWP.loop (n0 := 0) [] hr rfl (nx' := 0) (T' := [(14, I ((0:Nat):Int)), (13, I (ts.length : Int)), (12, .rd 7 (ts.map cTrip)), (0, .rd 7 (ts.map cTrip))]) (O' := []) ⟨⟨rfl, rfl, trivial, ?_⟩⟩ ?_
  · (repeat' (first | exact rfl | exact trivial | exact pureRows_map (fun _ => rfl) _ | (refine subRows_of ?_ (pureRows_map (fun _ => rfl) _); first | rfl | (simp; done)) | refine subRows_app _ _ _ (pureRows_map (fun _ => rfl) _) ?_ | (conv => whnf); first | refine And.intro ?_ ?_ | (simp only [List.length_map]; done) | (congr 1; omega) | (congr 1; simp; done) | fail))
  refine LWP.ind (fun i : Nat => ts.length - i) (fun _ => 0) (fun i => [(14, I (i:Int)), (13, I (ts.length : Int)), (12, .rd 7 (ts.map cTrip)), (0, .rd 7 (ts.map cTrip))]) (fun i => []) (fun i => i ≤ ts.length ∧ ∀ j t, j < i → ts[j]? = some t → okTrip t = true) (fun i hi ih => ?_) 0 ⟨Nat.zero_le _, fun j t hj => absurd hj (Nat.not_lt_zero _)⟩
  rcases Nat.lt_or_ge i ts.length with hlt | hge
  · obtain ⟨t, ht⟩ : ∃ t, ts[i]? = some t := ⟨_, List.getElem?_eq_getElem hlt⟩
    have hrow : (ts.map cTrip)[((i:Nat):Int).toNat]? = some (cTrip t) := by rw [Int.toNat_natCast, List.getElem?_map, ht]; rfl
    have hf := hb t (List.mem_of_getElem? ht)
    repeat' (conv => whnf); first | refine And.intro rfl ?_ | ((refine And.intro (?_ : (_ + _) * _ ≤ 140737488355328) ?_); (focus (simp only [List.length_nil, List.length_map, List.length_take, List.length_drop, List.length_append, List.length_cons, List.length_nil]; omega))) | refine And.intro (Nat.le_of_ble_eq_true rfl) ?_ | refine And.intro ⟨rfl, rfl⟩ ?_ | refine And.intro ⟨rfl, Nat.le_of_ble_eq_true rfl⟩ ?_ | refine And.intro ⟨rfl, rfl, Nat.le_of_ble_eq_true rfl⟩ ?_ | refine And.intro ⟨Nat.le_of_ble_eq_true rfl, Nat.le_of_ble_eq_true rfl, rfl, rfl, rfl⟩ ?_ | refine And.intro ⟨Nat.le_of_ble_eq_true rfl, rfl, rfl, rfl, Nat.le_of_ble_eq_true rfl, rfl⟩ ?_ | refine And.intro trivial ?_ | refine And.intro ⟨Nat.le_of_ble_eq_true rfl, Nat.le_of_ble_eq_true rfl, rfl, oneRows_map (fun _ => rfl) _, rfl⟩ ?_ | refine And.intro ⟨Nat.le_of_ble_eq_true rfl, Nat.le_of_ble_eq_true rfl, rfl, oneRows_dt (fun _ => rfl) _ _ _, rfl⟩ ?_ | refine And.intro ⟨rfl, bd13⟩ ?_ | refine And.intro ⟨rfl, bd14⟩ ?_ | refine And.intro ⟨rfl, bd29⟩ ?_ | refine SWP.go [] rfl ?_ | refine Exists.intro _ (And.intro hrow ?_) | refine Fun.callb (t14 t hf.1 hf.2) rfl (fun h => ?_) (fun h => ?_) | refine LWP.next (ih (i+1) ?_) [] hr rfl ?_ | refine Gives.pure rfl ?_ | ((refine And.intro (fun h => ?_) (fun h => ?_)) <;> try (exfalso; omega)) | (refine And.intro ?_ ?_; (focus (first | omega | (simp only [Eng.lo, Eng.hi, List.length_map] at *; omega) | (refine ⟨?_, ?_⟩ <;> first | rfl | omega | (simp only [Eng.lo, Eng.hi, List.length_map] at *; omega)) | (simp only [List.length_nil, List.length_map, List.length_take, List.length_drop, List.length_append, List.length_cons, List.length_nil]; omega)))) | refine And.intro ?_ ?_ | fail
    all_goals constructor
    all_goals first
      | (rw [check_arg ht (by assumption)]; exact ⟨rfl, rfl, rfl⟩)
      | (refine ⟨by omega, by omega, fun j t' hj ht' => ?_⟩
         rcases Nat.lt_or_eq_of_le (Nat.le_of_lt_succ hj) with h3 | rfl
         · exact hi.2 j t' h3 ht'
         · rw [ht] at ht'; cases ht'; assumption)
      | (refine ⟨rfl, rfl, trivial, ?_⟩; (repeat' (first | exact rfl | exact trivial | exact pureRows_map (fun _ => rfl) _ | (refine subRows_of ?_ (pureRows_map (fun _ => rfl) _); first | rfl | (simp; done)) | refine subRows_app _ _ _ (pureRows_map (fun _ => rfl) _) ?_ | (conv => whnf); first | refine And.intro ?_ ?_ | (simp only [List.length_map]; done) | (congr 1; omega) | (congr 1; simp; done) | fail)); done)
  · have hall : ts.all okTrip = true := by
      rw [List.all_eq_true]; intro x hx
      obtain ⟨j, hj⟩ := List.getElem?_of_mem hx
      exact hi.2 j x (by have := (List.getElem?_eq_some_iff.1 hj).1; omega) hj
    repeat' (conv => whnf); first | refine And.intro rfl ?_ | ((refine And.intro (?_ : (_ + _) * _ ≤ 140737488355328) ?_); (focus (simp only [List.length_nil, List.length_map, List.length_take, List.length_drop, List.length_append, List.length_cons, List.length_nil]; omega))) | refine And.intro (Nat.le_of_ble_eq_true rfl) ?_ | refine And.intro ⟨rfl, rfl⟩ ?_ | refine And.intro ⟨rfl, Nat.le_of_ble_eq_true rfl⟩ ?_ | refine And.intro ⟨rfl, rfl, Nat.le_of_ble_eq_true rfl⟩ ?_ | refine And.intro ⟨Nat.le_of_ble_eq_true rfl, Nat.le_of_ble_eq_true rfl, rfl, rfl, rfl⟩ ?_ | refine And.intro ⟨Nat.le_of_ble_eq_true rfl, rfl, rfl, rfl, Nat.le_of_ble_eq_true rfl, rfl⟩ ?_ | refine And.intro trivial ?_ | refine And.intro ⟨Nat.le_of_ble_eq_true rfl, Nat.le_of_ble_eq_true rfl, rfl, oneRows_map (fun _ => rfl) _, rfl⟩ ?_ | refine And.intro ⟨Nat.le_of_ble_eq_true rfl, Nat.le_of_ble_eq_true rfl, rfl, oneRows_dt (fun _ => rfl) _ _ _, rfl⟩ ?_ | refine And.intro ⟨rfl, bd13⟩ ?_ | refine And.intro ⟨rfl, bd14⟩ ?_ | refine And.intro ⟨rfl, bd29⟩ ?_ | refine SWP.go [] rfl ?_ | refine Fun.callb (t29 ts (by omega)) rfl (fun h => ?_) (fun h => ?_) | refine Gives.pure rfl ?_ | ((refine And.intro (fun h => ?_) (fun h => ?_)) <;> try (exfalso; omega)) | (refine And.intro ?_ ?_; (focus (first | omega | (simp only [Eng.lo, Eng.hi, List.length_map] at *; omega) | (refine ⟨?_, ?_⟩ <;> first | rfl | omega | (simp only [Eng.lo, Eng.hi, List.length_map] at *; omega)) | (simp only [List.length_nil, List.length_map, List.length_take, List.length_drop, List.length_append, List.length_cons, List.length_nil]; omega)))) | refine And.intro ?_ ?_ | fail
    · rw [check_there hall h]; exact ⟨⟨rfl, rfl, rfl⟩⟩
    rename_i h2
    conv => whnf
    have htw : twice ts = false := by assumption
    refine SWP.loop (n0 := 0) [] hr rfl (nx' := 0) (T' := [(26, I ((0:Nat):Int)), (25, I (ts.length : Int)), (24, .rd 7 (ts.map cTrip)), (0, .rd 7 (ts.map cTrip))]) (O' := []) ⟨⟨rfl, rfl, trivial, ?_⟩⟩ ?_
    · (repeat' (first | exact rfl | exact trivial | exact pureRows_map (fun _ => rfl) _ | (refine subRows_of ?_ (pureRows_map (fun _ => rfl) _); first | rfl | (simp; done)) | refine subRows_app _ _ _ (pureRows_map (fun _ => rfl) _) ?_ | (conv => whnf); first | refine And.intro ?_ ?_ | (simp only [List.length_map]; done) | (congr 1; omega) | (congr 1; simp; done) | fail))
    refine LWP.ind (fun i : Nat => ts.length - i) (fun _ => 0) (fun i => [(26, I (i:Int)), (25, I (ts.length : Int)), (24, .rd 7 (ts.map cTrip)), (0, .rd 7 (ts.map cTrip))]) (fun i => []) (fun i => i ≤ ts.length ∧ ∀ j t, j < i → ts[j]? = some t → ¬ badT ts t) (fun i hi ih => ?_) 0 ⟨Nat.zero_le _, fun j t hj => absurd hj (Nat.not_lt_zero _)⟩
    rcases Nat.lt_or_ge i ts.length with hlt | hge2
    · obtain ⟨t, ht⟩ : ∃ t, ts[i]? = some t := ⟨_, List.getElem?_eq_getElem hlt⟩
      have hrow : (ts.map cTrip)[((i:Nat):Int).toNat]? = some (cTrip t) := by rw [Int.toNat_natCast, List.getElem?_map, ht]; rfl
      have hf := hb t (List.mem_of_getElem? ht)
      repeat' (conv => whnf); first | refine And.intro rfl ?_ | ((refine And.intro (?_ : (_ + _) * _ ≤ 140737488355328) ?_); (focus (simp only [List.length_nil, List.length_map, List.length_take, List.length_drop, List.length_append, List.length_cons, List.length_nil]; omega))) | refine And.intro (Nat.le_of_ble_eq_true rfl) ?_ | refine And.intro ⟨rfl, rfl⟩ ?_ | refine And.intro ⟨rfl, Nat.le_of_ble_eq_true rfl⟩ ?_ | refine And.intro ⟨rfl, rfl, Nat.le_of_ble_eq_true rfl⟩ ?_ | refine And.intro ⟨Nat.le_of_ble_eq_true rfl, Nat.le_of_ble_eq_true rfl, rfl, rfl, rfl⟩ ?_ | refine And.intro ⟨Nat.le_of_ble_eq_true rfl, rfl, rfl, rfl, Nat.le_of_ble_eq_true rfl, rfl⟩ ?_ | refine And.intro trivial ?_ | refine And.intro ⟨Nat.le_of_ble_eq_true rfl, Nat.le_of_ble_eq_true rfl, rfl, oneRows_map (fun _ => rfl) _, rfl⟩ ?_ | refine And.intro ⟨Nat.le_of_ble_eq_true rfl, Nat.le_of_ble_eq_true rfl, rfl, oneRows_dt (fun _ => rfl) _ _ _, rfl⟩ ?_ | refine And.intro ⟨rfl, bd13⟩ ?_ | refine And.intro ⟨rfl, bd14⟩ ?_ | refine And.intro ⟨rfl, bd29⟩ ?_ | refine SWP.go [] rfl ?_ | refine Exists.intro _ (And.intro hrow ?_) | ((refine And.intro (fun h => ?_) (fun h => ?_)) <;> try (exfalso; omega)) | (refine And.intro ?_ ?_; (focus (first | omega | (simp only [Eng.lo, Eng.hi, List.length_map] at *; omega) | (refine ⟨?_, ?_⟩ <;> first | rfl | omega | (simp only [Eng.lo, Eng.hi, List.length_map] at *; omega)) | (simp only [List.length_nil, List.length_map, List.length_take, List.length_drop, List.length_append, List.length_cons, List.length_nil]; omega)))) | refine And.intro ?_ ?_ | fail
      conv => whnf
      refine SWP.loop (n0 := 0) [some 0] hr rfl (nx' := 1) (T' := [(34, I ((0:Nat):Int)), (33, I (t.reads.length : Int)), (32, .rd 4 (t.reads.map cSeen)), (6, I (i:Int)), (7, .ptr 0 0), (26, I (i:Int)), (25, I (ts.length : Int)), (24, .rd 7 (ts.map cTrip)), (0, .rd 7 (ts.map cTrip))]) (O' := [(0, .box 35 (cTrip t))]) ⟨⟨rfl, rfl, ?_, ?_⟩⟩ ?_
      · (repeat' (first | exact rfl | exact trivial | exact pureRows_map (fun _ => rfl) _ | (refine subRows_of ?_ (pureRows_map (fun _ => rfl) _); first | rfl | (simp; done)) | refine subRows_app _ _ _ (pureRows_map (fun _ => rfl) _) ?_ | (conv => whnf); first | refine And.intro ?_ ?_ | (simp only [List.length_map]; done) | (congr 1; omega) | (congr 1; simp; done) | fail))
      · (repeat' (first | exact rfl | exact trivial | exact pureRows_map (fun _ => rfl) _ | (refine subRows_of ?_ (pureRows_map (fun _ => rfl) _); first | rfl | (simp; done)) | refine subRows_app _ _ _ (pureRows_map (fun _ => rfl) _) ?_ | (conv => whnf); first | refine And.intro ?_ ?_ | (simp only [List.length_map]; done) | (congr 1; omega) | (congr 1; simp; done) | fail))
      refine LWP.ind (fun k : Nat => t.reads.length - k) (fun _ => 1) (fun k => [(34, I (k:Int)), (33, I (t.reads.length : Int)), (32, .rd 4 (t.reads.map cSeen)), (6, I (i:Int)), (7, .ptr 0 0), (26, I (i:Int)), (25, I (ts.length : Int)), (24, .rd 7 (ts.map cTrip)), (0, .rd 7 (ts.map cTrip))]) (fun _ => [(0, .box 35 (cTrip t))]) (fun k => k ≤ t.reads.length ∧ ∀ j s, j < k → t.reads[j]? = some s → ¬ wrong ts t s) (fun k hk ih2 => ?_) 0 ⟨Nat.zero_le _, fun j t hj => absurd hj (Nat.not_lt_zero _)⟩
      rcases Nat.lt_or_ge k t.reads.length with hlt2 | hge3
      · obtain ⟨s, hs⟩ : ∃ s, t.reads[k]? = some s := ⟨_, List.getElem?_eq_getElem hlt2⟩
        have hf1 : t.reads.length ≤ 1000 := hf.1
        have hms := List.mem_of_getElem? hs
        have hknext : ¬ wrong ts t s → ∀ (j : Nat) (s' : Seen), j < k + 1 → t.reads[j]? = some s' → ¬ wrong ts t s' := fun hd j s' hj hs' => by
          rcases Nat.lt_or_eq_of_le (Nat.le_of_lt_succ hj) with h3 | rfl
          · exact hk.2 j s' h3 hs'
          · rw [hs] at hs'; cases hs'; exact hd
        have hres : wrong ts t s → check ts = ((i : Int), 16) := fun hw => check_wrong hall htw ht ⟨s, hms, hw⟩ hi.2
        have w1 : t.out = 1 → ¬ ceq [I (there ts s.key t.time t.cl).time, I (there ts s.key t.time t.cl).cl] [I s.time, I s.cl] → wrong ts t s := fun h0 h => ⟨h0, .inl fun hh => h ⟨hh.1, hh.2, trivial⟩⟩
        have w2 : t.out = 1 → (there ts s.key t.time t.cl).val ≠ s.val → wrong ts t s := fun h0 h => ⟨h0, .inr h⟩
        have w3 : ¬¬ ceq [I (there ts s.key t.time t.cl).time, I (there ts s.key t.time t.cl).cl] [I s.time, I s.cl] → ¬ (there ts s.key t.time t.cl).val ≠ s.val → ¬ wrong ts t s := fun h1 h2 hw => hw.2.elim (fun h3 => h1 fun hc => h3 ⟨hc.1, hc.2.1⟩) (fun h3 => h2 h3)
        have hrow2 : (t.reads.map cSeen)[((k:Nat):Int).toNat]? = some (cSeen s) := by rw [Int.toNat_natCast, List.getElem?_map, hs]; rfl
        repeat' (conv => whnf); first | refine And.intro rfl ?_ | ((refine And.intro (?_ : (_ + _) * _ ≤ 140737488355328) ?_); (focus (simp only [List.length_nil, List.length_map, List.length_take, List.length_drop, List.length_append, List.length_cons, List.length_nil]; omega))) | refine And.intro (Nat.le_of_ble_eq_true rfl) ?_ | refine And.intro ⟨rfl, rfl⟩ ?_ | refine And.intro ⟨rfl, Nat.le_of_ble_eq_true rfl⟩ ?_ | refine And.intro ⟨rfl, rfl, Nat.le_of_ble_eq_true rfl⟩ ?_ | refine And.intro ⟨Nat.le_of_ble_eq_true rfl, Nat.le_of_ble_eq_true rfl, rfl, rfl, rfl⟩ ?_ | refine And.intro ⟨Nat.le_of_ble_eq_true rfl, rfl, rfl, rfl, Nat.le_of_ble_eq_true rfl, rfl⟩ ?_ | refine And.intro trivial ?_ | refine And.intro ⟨Nat.le_of_ble_eq_true rfl, Nat.le_of_ble_eq_true rfl, rfl, oneRows_map (fun _ => rfl) _, rfl⟩ ?_ | refine And.intro ⟨Nat.le_of_ble_eq_true rfl, Nat.le_of_ble_eq_true rfl, rfl, oneRows_dt (fun _ => rfl) _ _ _, rfl⟩ ?_ | refine And.intro ⟨rfl, bd13⟩ ?_ | refine And.intro ⟨rfl, bd14⟩ ?_ | refine And.intro ⟨rfl, bd29⟩ ?_ | refine SWP.go [] rfl ?_ | refine Exists.intro _ (And.intro hrow2 ?_) | refine Fun.call (t13 ts _ _ _ hl hb) rfl rfl ?_ | refine And.intro ⟨_, rfl, rfl, eqT31⟩ ?_ | refine LWP.next (ih2 (k+1) ?_) [some 0] hr rfl ?_ | refine Gives.pure rfl ?_ | ((refine And.intro (fun h => ?_) (fun h => ?_)) <;> try (exfalso; omega)) | (refine And.intro ?_ ?_; (focus (first | omega | (simp only [Eng.lo, Eng.hi, List.length_map] at *; omega) | (refine ⟨?_, ?_⟩ <;> first | rfl | omega | (simp only [Eng.lo, Eng.hi, List.length_map] at *; omega)) | (simp only [List.length_nil, List.length_map, List.length_take, List.length_drop, List.length_append, List.length_cons, List.length_nil]; omega)))) | refine And.intro ?_ ?_ | fail
        all_goals constructor
        all_goals first
          | (rw [hres (w2 (by assumption) (by assumption))]; exact ⟨rfl, rfl, rfl⟩)
          | (rw [hres (w1 (by assumption) (by assumption))]; exact ⟨rfl, rfl, rfl⟩)
          | exact ⟨by omega, by omega, hknext (w3 (by assumption) (by assumption))⟩
          | exact ⟨by omega, by omega, hknext fun hw => absurd hw.1 (by assumption)⟩
          | (refine ⟨rfl, rfl, ?_, ?_⟩ <;> ((repeat' (first | exact rfl | exact trivial | exact pureRows_map (fun _ => rfl) _ | (refine subRows_of ?_ (pureRows_map (fun _ => rfl) _); first | rfl | (simp; done)) | refine subRows_app _ _ _ (pureRows_map (fun _ => rfl) _) ?_ | (conv => whnf); first | refine And.intro ?_ ?_ | (simp only [List.length_map]; done) | (congr 1; omega) | (congr 1; simp; done) | fail))); done)
      · repeat' (conv => whnf); first | refine And.intro rfl ?_ | ((refine And.intro (?_ : (_ + _) * _ ≤ 140737488355328) ?_); (focus (simp only [List.length_nil, List.length_map, List.length_take, List.length_drop, List.length_append, List.length_cons, List.length_nil]; omega))) | refine And.intro (Nat.le_of_ble_eq_true rfl) ?_ | refine And.intro ⟨rfl, rfl⟩ ?_ | refine And.intro ⟨rfl, Nat.le_of_ble_eq_true rfl⟩ ?_ | refine And.intro ⟨rfl, rfl, Nat.le_of_ble_eq_true rfl⟩ ?_ | refine And.intro ⟨Nat.le_of_ble_eq_true rfl, Nat.le_of_ble_eq_true rfl, rfl, rfl, rfl⟩ ?_ | refine And.intro ⟨Nat.le_of_ble_eq_true rfl, rfl, rfl, rfl, Nat.le_of_ble_eq_true rfl, rfl⟩ ?_ | refine And.intro trivial ?_ | refine And.intro ⟨Nat.le_of_ble_eq_true rfl, Nat.le_of_ble_eq_true rfl, rfl, oneRows_map (fun _ => rfl) _, rfl⟩ ?_ | refine And.intro ⟨Nat.le_of_ble_eq_true rfl, Nat.le_of_ble_eq_true rfl, rfl, oneRows_dt (fun _ => rfl) _ _ _, rfl⟩ ?_ | refine And.intro ⟨rfl, bd13⟩ ?_ | refine And.intro ⟨rfl, bd14⟩ ?_ | refine And.intro ⟨rfl, bd29⟩ ?_ | refine SWP.go [] rfl ?_ | refine LWP.next (ih (i+1) ?_) [] hr rfl ?_ | ((refine And.intro (fun h => ?_) (fun h => ?_)) <;> try (exfalso; omega)) | (refine And.intro ?_ ?_; (focus (first | omega | (simp only [Eng.lo, Eng.hi, List.length_map] at *; omega) | (refine ⟨?_, ?_⟩ <;> first | rfl | omega | (simp only [Eng.lo, Eng.hi, List.length_map] at *; omega)) | (simp only [List.length_nil, List.length_map, List.length_take, List.length_drop, List.length_append, List.length_cons, List.length_nil]; omega)))) | refine And.intro ?_ ?_ | fail
        all_goals constructor
        all_goals first
          | (refine ⟨by omega, by omega, fun j t' hj ht' => ?_⟩
             rcases Nat.lt_or_eq_of_le (Nat.le_of_lt_succ hj) with h3 | rfl
             · exact hi.2 j t' h3 ht'
             · rw [ht] at ht'; cases ht'
               rintro ⟨s, hs, hw⟩
               obtain ⟨j, hj⟩ := List.getElem?_of_mem hs
               exact hk.2 j s (by have := (List.getElem?_eq_some_iff.1 hj).1; omega) hj hw)
          | (refine ⟨rfl, rfl, trivial, ?_⟩; (repeat' (first | exact rfl | exact trivial | exact pureRows_map (fun _ => rfl) _ | (refine subRows_of ?_ (pureRows_map (fun _ => rfl) _); first | rfl | (simp; done)) | refine subRows_app _ _ _ (pureRows_map (fun _ => rfl) _) ?_ | (conv => whnf); first | refine And.intro ?_ ?_ | (simp only [List.length_map]; done) | (congr 1; omega) | (congr 1; simp; done) | fail)); done)
    · repeat' (conv => whnf); first | refine And.intro rfl ?_ | ((refine And.intro (?_ : (_ + _) * _ ≤ 140737488355328) ?_); (focus (simp only [List.length_nil, List.length_map, List.length_take, List.length_drop, List.length_append, List.length_cons, List.length_nil]; omega))) | refine And.intro (Nat.le_of_ble_eq_true rfl) ?_ | refine And.intro ⟨rfl, rfl⟩ ?_ | refine And.intro ⟨rfl, Nat.le_of_ble_eq_true rfl⟩ ?_ | refine And.intro ⟨rfl, rfl, Nat.le_of_ble_eq_true rfl⟩ ?_ | refine And.intro ⟨Nat.le_of_ble_eq_true rfl, Nat.le_of_ble_eq_true rfl, rfl, rfl, rfl⟩ ?_ | refine And.intro ⟨Nat.le_of_ble_eq_true rfl, rfl, rfl, rfl, Nat.le_of_ble_eq_true rfl, rfl⟩ ?_ | refine And.intro trivial ?_ | refine And.intro ⟨Nat.le_of_ble_eq_true rfl, Nat.le_of_ble_eq_true rfl, rfl, oneRows_map (fun _ => rfl) _, rfl⟩ ?_ | refine And.intro ⟨Nat.le_of_ble_eq_true rfl, Nat.le_of_ble_eq_true rfl, rfl, oneRows_dt (fun _ => rfl) _ _ _, rfl⟩ ?_ | refine And.intro ⟨rfl, bd13⟩ ?_ | refine And.intro ⟨rfl, bd14⟩ ?_ | refine And.intro ⟨rfl, bd29⟩ ?_ | refine SWP.go [] rfl ?_ | refine Gives.pure rfl ?_ | ((refine And.intro (fun h => ?_) (fun h => ?_)) <;> try (exfalso; omega)) | (refine And.intro ?_ ?_; (focus (first | omega | (simp only [Eng.lo, Eng.hi, List.length_map] at *; omega) | (refine ⟨?_, ?_⟩ <;> first | rfl | omega | (simp only [Eng.lo, Eng.hi, List.length_map] at *; omega)) | (simp only [List.length_nil, List.length_map, List.length_take, List.length_drop, List.length_append, List.length_cons, List.length_nil]; omega)))) | refine And.intro ?_ ?_ | fail
      rw [check_ok hall htw fun j t h1 => hi.2 j t (by have := (List.getElem?_eq_some_iff.1 h1).1; omega) h1]
      exact ⟨⟨rfl, rfl, rfl⟩⟩
end Go.Eng
