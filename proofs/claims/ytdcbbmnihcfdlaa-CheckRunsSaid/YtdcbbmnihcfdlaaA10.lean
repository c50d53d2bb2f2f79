/- Contracts of functions of the given program, and the plain laws that they lean on. -/
import Derived.Test.YtdcbbmnihcfdlaaA9
set_option linter.unusedVariables false
set_option linter.unusedSimpArgs false
set_option linter.unnecessarySimpa false
set_option linter.constructorNameAsVariable false
set_option linter.all false
open Go.Proofs Go.Eng.Tab
namespace Go.Eng
set_option maxRecDepth 100000
set_option maxHeartbeats 4000000
attribute [local irreducible] SWP LWP CallOK Spec Gives Bd EqT
theorem there_ids {key : ByteArray} {st st' : At} : ∀ (s : SV) (n : Nat) (O' : Heap), (s = .tup [] ∧ n = 6 ∧ O' = oThere key st') → ∀ x ∈ O', x.1 < 6 → ∃ y ∈ oThere key st, y.1 = x.1 := by
  rintro s n O' ⟨_, _, rfl⟩ x hx _
  simp only [oThere, List.mem_cons, List.not_mem_nil, or_false] at hx
  rcases hx with rfl | rfl | rfl
  · exact ⟨_, List.mem_cons_self, rfl⟩
  · exact ⟨_, List.mem_cons_of_mem _ List.mem_cons_self, rfl⟩
  · exact ⟨_, List.mem_cons_of_mem _ (List.mem_cons_of_mem _ List.mem_cons_self), rfl⟩
def step1 (key : ByteArray) (a c : Int) (st : At) (t : Trip) : At := if ordr t.time t.cl a c < 0 then putAllW t key st t.writes else st
def nobody : At := ⟨0, 0, ⟨#[]⟩⟩
def there (ts : List Trip) (key : ByteArray) (a c : Int) : At := (sortT (comm ts)).foldl (step1 key a c) nobody
theorem mem_insR : ∀ (p : List Trip) (x : Trip) (mid : List Trip) (y : Trip), y ∈ insR p x mid → y ∈ p ∨ y = x ∨ y ∈ mid
  | [], x, mid, y, h => by simpa [insR] using h
  | z :: p, x, mid, y, h => by
    unfold insR at h
    split at h
    · rcases mem_insR p x (z :: mid) y h with h | h | h
      · exact .inl (List.mem_cons_of_mem _ h)
      · exact .inr (.inl h)
      · rcases List.mem_cons.1 h with h | h
        · exact .inl (h ▸ List.mem_cons_self)
        · exact .inr (.inr h)
    · rcases List.mem_append.1 h with h | h
      · exact .inl (List.mem_reverse.1 h)
      · rcases List.mem_cons.1 h with h | h
        · exact .inr (.inl h)
        · exact .inr (.inr h)
theorem mem_sortT {ts : List Trip} {y : Trip} (h : y ∈ sortT ts) : y ∈ ts := by
  have : ∀ (l acc : List Trip), y ∈ l.foldl insT acc → y ∈ acc ∨ y ∈ l := by
    intro l
    induction l with
    | nil => intro acc h; exact .inl h
    | cons a l ih =>
      intro acc h
      rcases ih _ h with h | h
      · rcases mem_insR _ _ _ _ h with h | h | h
        · exact .inl (List.mem_reverse.1 h)
        · exact .inr (h ▸ List.mem_cons_self)
        · cases h
      · exact .inr (List.mem_cons_of_mem _ h)
  rcases this ts [] h with h | h
  · cases h
  · exact h
theorem t13 (ts : List Trip) (key : ByteArray) (a c : Int) (hl : ts.length ≤ 19) (hb : ∀ t ∈ ts, few t) : Fun Try.prog 13 [.rd 7 (ts.map cTrip), S key, .agg [I a, I c]] (.tup [.agg [I (there ts key a c).time, I (there ts key a c).cl], S (there ts key a c).val]) := by
  refine Fun.walk pf13 rfl (Nat.le_of_ble_eq_true rfl) fun c' hP hn hr => ?_
  obtain ⟨P_, n_, w0_, F_, Y_, r0_⟩ := c'; subst hP; subst hn
  repeat' (conv => whnf); first | refine And.intro rfl ?_ | ((refine And.intro (?_ : (_ + _) * _ ≤ 140737488355328) ?_); (focus (simp only [List.length_nil, List.length_map, List.length_take, List.length_drop, List.length_append, List.length_cons, List.length_nil]; omega))) | refine And.intro (Nat.le_of_ble_eq_true rfl) ?_ | refine And.intro ⟨rfl, rfl⟩ ?_ | refine And.intro ⟨rfl, Nat.le_of_ble_eq_true rfl⟩ ?_ | refine And.intro ⟨rfl, rfl, Nat.le_of_ble_eq_true rfl⟩ ?_ | refine And.intro ⟨Nat.le_of_ble_eq_true rfl, Nat.le_of_ble_eq_true rfl, rfl, rfl, rfl⟩ ?_ | refine And.intro ⟨Nat.le_of_ble_eq_true rfl, rfl, rfl, rfl, Nat.le_of_ble_eq_true rfl, rfl⟩ ?_ | refine And.intro trivial ?_ | refine And.intro ⟨Nat.le_of_ble_eq_true rfl, Nat.le_of_ble_eq_true rfl, rfl, oneRows_map (fun _ => rfl) _, rfl⟩ ?_ | refine And.intro ⟨Nat.le_of_ble_eq_true rfl, Nat.le_of_ble_eq_true rfl, rfl, oneRows_dt (fun _ => rfl) _ _ _, rfl⟩ ?_ | refine And.intro ⟨rfl, bd11⟩ ?_ | refine And.intro ⟨rfl, bd23⟩ ?_ | refine region_ok (id := 10) (.two 0 1 true true (.two 1 2 true true (.one 2 true <| .qp 3 <| .done) (.one 1 true <| .qp 3 <| .done)) (.one 0 true <| .one 2 true <| .qp 3 <| .done)) [0, 1, 2] mixed (by kernel_rfl) ?_ | refine SWP.go [] rfl ?_ | refine Fun.call (t11 ts hl hb) rfl rfl ?_ | ((refine And.intro (fun h => ?_) (fun h => ?_)) <;> try (exfalso; omega)) | (refine And.intro ?_ ?_; (focus (first | omega | (simp only [Eng.lo, Eng.hi, List.length_map] at *; omega) | (refine ⟨?_, ?_⟩ <;> first | rfl | omega | (simp only [Eng.lo, Eng.hi, List.length_map] at *; omega)) | (simp only [List.length_nil, List.length_map, List.length_take, List.length_drop, List.length_append, List.length_cons, List.length_nil]; omega)))) | refine And.intro ?_ ?_ | fail
  conv => whnf
  generalize hss : sortT (comm ts) = ss at *
  have hssl : ss.length ≤ 19 := by rw [← hss, sortT_length]; exact Nat.le_trans (List.length_filter_le _ _) hl
  have hssb : ∀ t ∈ ss, few t := fun t ht => hb t ((List.mem_filter.1 (mem_sortT (hss ▸ ht))).1)
  refine SWP.loop (n0 := 0) (idR 5) hr rfl (nx' := 5) (T' := [(17, I ((0:Nat):Int)), (16, I (ss.length : Int)), (15, .rd 7 (ss.map cTrip)), (4, .ptr 0 0), (5, .ptr 1 0), (6, .ptr 2 0), (8, .ptr 3 0), (9, .ptr 4 0), (10, .fn 25 [.ptr 0 0, .ptr 3 0, .ptr 4 0])]) (O' := [(4, .box 9 [S ((ss.take 0).foldl (step1 key a c) nobody).val]), (3, .box 31 [I ((ss.take 0).foldl (step1 key a c) nobody).time, I ((ss.take 0).foldl (step1 key a c) nobody).cl]), (2, .box 31 [I 0, I 0]), (1, .box 31 [I a, I c]), (0, .box 9 [S key])]) ⟨⟨rfl, rfl, ?_, ?_⟩⟩ ?_
  · (repeat' (first | exact rfl | exact trivial | exact pureRows_map (fun _ => rfl) _ | (refine subRows_of ?_ (pureRows_map (fun _ => rfl) _); first | rfl | (simp; done)) | refine subRows_app _ _ _ (pureRows_map (fun _ => rfl) _) ?_ | (conv => whnf); first | refine And.intro ?_ ?_ | (simp only [List.length_map]; done) | (congr 1; omega) | (congr 1; simp; done) | fail))
  · (repeat' (first | exact rfl | exact trivial | exact pureRows_map (fun _ => rfl) _ | (refine subRows_of ?_ (pureRows_map (fun _ => rfl) _); first | rfl | (simp; done)) | refine subRows_app _ _ _ (pureRows_map (fun _ => rfl) _) ?_ | (conv => whnf); first | refine And.intro ?_ ?_ | (simp only [List.length_map]; done) | (congr 1; omega) | (congr 1; simp; done) | fail))
  refine LWP.ind (fun i : Nat => ss.length - i) (fun _ => 5) (fun i => [(17, I (i:Int)), (16, I (ss.length : Int)), (15, .rd 7 (ss.map cTrip)), (4, .ptr 0 0), (5, .ptr 1 0), (6, .ptr 2 0), (8, .ptr 3 0), (9, .ptr 4 0), (10, .fn 25 [.ptr 0 0, .ptr 3 0, .ptr 4 0])]) (fun i => [(4, .box 9 [S ((ss.take i).foldl (step1 key a c) nobody).val]), (3, .box 31 [I ((ss.take i).foldl (step1 key a c) nobody).time, I ((ss.take i).foldl (step1 key a c) nobody).cl]), (2, .box 31 [I 0, I 0]), (1, .box 31 [I a, I c]), (0, .box 9 [S key])]) (fun i => i ≤ ss.length) (fun i hi ih => ?_) 0 (Nat.zero_le _)
  rcases Nat.lt_or_ge i ss.length with hlt | hge
  · obtain ⟨t, ht⟩ : ∃ t, ss[i]? = some t := ⟨_, List.getElem?_eq_getElem hlt⟩
    have hrow : (ss.map cTrip)[((i:Nat):Int).toNat]? = some (cTrip t) := by rw [Int.toNat_natCast, List.getElem?_map, ht]; rfl
    have hf := hssb t (List.mem_of_getElem? ht)
    have hnext : (ss.take (i + 1)).foldl (step1 key a c) nobody = step1 key a c ((ss.take i).foldl (step1 key a c) nobody) t := by rw [List.take_add_one, ht]; simp
    generalize hst : (ss.take i).foldl (step1 key a c) nobody = st at *
    have hcall := t25 t key st hf.2
    repeat' (conv => whnf); first | refine And.intro rfl ?_ | ((refine And.intro (?_ : (_ + _) * _ ≤ 140737488355328) ?_); (focus (simp only [List.length_nil, List.length_map, List.length_take, List.length_drop, List.length_append, List.length_cons, List.length_nil]; omega))) | refine And.intro (Nat.le_of_ble_eq_true rfl) ?_ | refine And.intro ⟨rfl, rfl⟩ ?_ | refine And.intro ⟨rfl, Nat.le_of_ble_eq_true rfl⟩ ?_ | refine And.intro ⟨rfl, rfl, Nat.le_of_ble_eq_true rfl⟩ ?_ | refine And.intro ⟨Nat.le_of_ble_eq_true rfl, Nat.le_of_ble_eq_true rfl, rfl, rfl, rfl⟩ ?_ | refine And.intro ⟨Nat.le_of_ble_eq_true rfl, rfl, rfl, rfl, Nat.le_of_ble_eq_true rfl, rfl⟩ ?_ | refine And.intro trivial ?_ | refine And.intro ⟨Nat.le_of_ble_eq_true rfl, Nat.le_of_ble_eq_true rfl, rfl, oneRows_map (fun _ => rfl) _, rfl⟩ ?_ | refine And.intro ⟨Nat.le_of_ble_eq_true rfl, Nat.le_of_ble_eq_true rfl, rfl, oneRows_dt (fun _ => rfl) _ _ _, rfl⟩ ?_ | refine And.intro ⟨rfl, bd11⟩ ?_ | refine And.intro ⟨rfl, bd23⟩ ?_ | refine region_ok (id := 10) (.two 0 1 true true (.two 1 2 true true (.one 2 true <| .qp 3 <| .done) (.one 1 true <| .qp 3 <| .done)) (.one 0 true <| .one 2 true <| .qp 3 <| .done)) [0, 1, 2] mixed (by kernel_rfl) ?_ | refine SWP.go [] rfl ?_ | refine Exists.intro _ (And.intro hrow ?_) | refine Fun.call (t23 _ _ _ _) rfl rfl ?_ | refine And.intro ⟨rfl, bd25⟩ ?_ | refine Spec.callF [0, 3, 4] hcall there_ids ?_ | (rintro _ _ _ ⟨rfl, rfl, rfl⟩) | refine LWP.next (ih (i+1) ?_) (idR 5) hr rfl ?_ | ((refine And.intro (fun h => ?_) (fun h => ?_)) <;> try (exfalso; omega)) | (refine And.intro ?_ ?_; (focus (first | omega | (simp only [Eng.lo, Eng.hi, List.length_map] at *; omega) | (refine ⟨?_, ?_⟩ <;> first | rfl | omega | (simp only [Eng.lo, Eng.hi, List.length_map] at *; omega)) | (simp only [List.length_nil, List.length_map, List.length_take, List.length_drop, List.length_append, List.length_cons, List.length_nil]; omega)))) | refine And.intro ?_ ?_ | fail
    all_goals constructor
    all_goals first
      | exact ⟨by omega, by omega⟩
      | (show Wk _ _ _ _ _ _ [(4, .box 9 [S ((ss.take (i + 1)).foldl (step1 key a c) nobody).val]), (3, .box 31 [I ((ss.take (i + 1)).foldl (step1 key a c) nobody).time, I ((ss.take (i + 1)).foldl (step1 key a c) nobody).cl]), (2, .box 31 [I 0, I 0]), (1, .box 31 [I a, I c]), (0, .box 9 [S key])]; rw [hnext, step1, if_pos h]; refine ⟨rfl, rfl, ?_, ?_⟩ <;> ((repeat' (first | exact rfl | exact trivial | exact pureRows_map (fun _ => rfl) _ | (refine subRows_of ?_ (pureRows_map (fun _ => rfl) _); first | rfl | (simp; done)) | refine subRows_app _ _ _ (pureRows_map (fun _ => rfl) _) ?_ | (conv => whnf); first | refine And.intro ?_ ?_ | (simp only [List.length_map]; done) | (congr 1; omega) | (congr 1; simp; done) | fail))); done)
      | (show Wk _ _ _ _ _ _ [(4, .box 9 [S ((ss.take (i + 1)).foldl (step1 key a c) nobody).val]), (3, .box 31 [I ((ss.take (i + 1)).foldl (step1 key a c) nobody).time, I ((ss.take (i + 1)).foldl (step1 key a c) nobody).cl]), (2, .box 31 [I 0, I 0]), (1, .box 31 [I a, I c]), (0, .box 9 [S key])]; rw [hnext, step1, if_neg h]; refine ⟨rfl, rfl, ?_, ?_⟩ <;> ((repeat' (first | exact rfl | exact trivial | exact pureRows_map (fun _ => rfl) _ | (refine subRows_of ?_ (pureRows_map (fun _ => rfl) _); first | rfl | (simp; done)) | refine subRows_app _ _ _ (pureRows_map (fun _ => rfl) _) ?_ | (conv => whnf); first | refine And.intro ?_ ?_ | (simp only [List.length_map]; done) | (congr 1; omega) | (congr 1; simp; done) | fail))); done)
  · have e : ss.take i = ss := List.take_of_length_le hge
    rw [e]
    repeat' (conv => whnf); first | refine And.intro rfl ?_ | ((refine And.intro (?_ : (_ + _) * _ ≤ 140737488355328) ?_); (focus (simp only [List.length_nil, List.length_map, List.length_take, List.length_drop, List.length_append, List.length_cons, List.length_nil]; omega))) | refine And.intro (Nat.le_of_ble_eq_true rfl) ?_ | refine And.intro ⟨rfl, rfl⟩ ?_ | refine And.intro ⟨rfl, Nat.le_of_ble_eq_true rfl⟩ ?_ | refine And.intro ⟨rfl, rfl, Nat.le_of_ble_eq_true rfl⟩ ?_ | refine And.intro ⟨Nat.le_of_ble_eq_true rfl, Nat.le_of_ble_eq_true rfl, rfl, rfl, rfl⟩ ?_ | refine And.intro ⟨Nat.le_of_ble_eq_true rfl, rfl, rfl, rfl, Nat.le_of_ble_eq_true rfl, rfl⟩ ?_ | refine And.intro trivial ?_ | refine And.intro ⟨Nat.le_of_ble_eq_true rfl, Nat.le_of_ble_eq_true rfl, rfl, oneRows_map (fun _ => rfl) _, rfl⟩ ?_ | refine And.intro ⟨Nat.le_of_ble_eq_true rfl, Nat.le_of_ble_eq_true rfl, rfl, oneRows_dt (fun _ => rfl) _ _ _, rfl⟩ ?_ | refine And.intro ⟨rfl, bd11⟩ ?_ | refine And.intro ⟨rfl, bd23⟩ ?_ | refine region_ok (id := 10) (.two 0 1 true true (.two 1 2 true true (.one 2 true <| .qp 3 <| .done) (.one 1 true <| .qp 3 <| .done)) (.one 0 true <| .one 2 true <| .qp 3 <| .done)) [0, 1, 2] mixed (by kernel_rfl) ?_ | refine SWP.go [] rfl ?_ | refine Gives.pure rfl ?_ | ((refine And.intro (fun h => ?_) (fun h => ?_)) <;> try (exfalso; omega)) | (refine And.intro ?_ ?_; (focus (first | omega | (simp only [Eng.lo, Eng.hi, List.length_map] at *; omega) | (refine ⟨?_, ?_⟩ <;> first | rfl | omega | (simp only [Eng.lo, Eng.hi, List.length_map] at *; omega)) | (simp only [List.length_nil, List.length_map, List.length_take, List.length_drop, List.length_append, List.length_cons, List.length_nil]; omega)))) | refine And.intro ?_ ?_ | fail
    all_goals (refine ⟨⟨?_, rfl, rfl⟩⟩)
    all_goals (unfold there; rw [hss]; rfl)
end Go.Eng
