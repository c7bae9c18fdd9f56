/- preempt: the sides; for every configuration of at most twenty tasks. -/
import Derived.Test.YtkcnlpelbcpmgaaShapes
import Derived.Test.YtkcnlpelbcpmgaaAbLaw
namespace Go.Ab
open Go Go.Proofs
set_option linter.unusedVariables false
set_option linter.unusedSimpArgs false
set_option maxRecDepth 100000
set_option maxHeartbeats 2000000

theorem iopW {A : Ar} (hA : A = arS) (x y : Int) : A.iop .add .i64 x y = IntKind.i64.wrap (x + y) := by subst hA; rfl
theorem addOne {A : Ar} (hA : A = arS) {i : Int} (h0 : -10 ≤ i) (h1 : i ≤ 1000000000) : A.iop .add .i64 i 1 = i + 1 := by
  rw [iopW hA, wrap_i64 (by omega) (by omega)]

abbrev TKs : List DT := [.int .i64, .int .i64, .int .i64, .int .i64, .int .i64, .int .i64, .rows [.int .i64, .int .i64, .int .i64]]
theorem task_row {A : Ar} (hA : A = arS) {rows : List (List AV)} (h : ∀ r ∈ rows, GdL TKs r) {i : Nat} (hi : i < rows.length) : rows[i]? = some [.int .i64 (A.cI rows i 0), .int .i64 (A.cI rows i 1), .int .i64 (A.cI rows i 2), .int .i64 (A.cI rows i 3), .int .i64 (A.cI rows i 4), .int .i64 (A.cI rows i 5), .inl 3 (A.cR rows i 6)] := by
  subst hA
  have h0 := h rows[i] (List.getElem_mem hi)
  simp only [GdL, GdC] at h0
  obtain ⟨_, _, e, ⟨t, rfl, _⟩, _, _, rfl, ⟨k', rfl, _⟩, _, _, rfl, ⟨a, rfl, _⟩, _, _, rfl, ⟨b, rfl, _⟩, _, _, rfl, ⟨c, rfl, _⟩, _, _, rfl, ⟨d, rfl, _⟩, _, _, rfl, ⟨q, rfl, _⟩, rfl⟩ := h0
  have e2 : rows[i]? = some _ := (List.getElem?_eq_getElem hi).trans (congrArg some e)
  simp only [arS, cIS, cRS, cellS, e2]
  rfl

/-- The numbers of those that are taken. -/
def idx (f : Int → Bool) : List Int → Int → List Int
  | [], _ => []
  | p :: ps, i => if f p = true then i :: idx f ps (i + 1) else idx f ps (i + 1)
theorem idx_len (f : Int → Bool) : ∀ (ps : List Int) (i : Int), (idx f ps i).length ≤ ps.length
  | [], _ => Nat.le_refl _
  | p :: ps, i => by
    have := idx_len f ps (i + 1)
    simp only [idx]
    split <;> simp <;> omega

def prio (rows : List (List AV)) : List Int := (List.range rows.length).map fun i => cIS rows i 0
theorem prio_len (rows : List (List AV)) : (prio rows).length = rows.length := by simp [prio]
theorem prio_drop {rows : List (List AV)} {m : Nat} (h : m < rows.length) : (prio rows).drop m = cIS rows m 0 :: (prio rows).drop (m + 1) := by
  rw [List.drop_eq_getElem_cons (by rw [prio_len]; exact h)]
  simp [prio]

theorem is_E (c0 c1 c2 c3 c5 task : Int) (c4 c6 c7 tasks c9 : List (List AV)) : EC Try.prog G44 [] [.i c0, .i c1, .i c2, .i c3, .r c4, .i c5, .r c6, .r c7, .r tasks, .r c9, .i task] fun x rs vs => x = 0 ∧ rs = [] ∧ ∃ b, (b = true ↔ 0 ≤ task ∧ task < tasks.length) ∧ vs = [.b b] := by
  obtain ⟨A, hA⟩ : ∃ A, A = arS := ⟨_, rfl⟩
  refine Inst.enter (I := I44) hA mixed F44_at sg L44 80 rfl fun CE CK Dn EV RR W hp => ?_
  cbv
  repeat' first | apply And.intro | (apply imC hA; intro) | (apply imN hA; intro) | (apply imI hA; intro) | (apply ndI hA; simp only [Cnd.holds])
  all_goals try simp only [nc, nc2, cmpR, Bool.not_true, Bool.not_false] at *
  all_goals try first | rfl | assumption | exact hp.1 | exact hp.2.1 | exact hp.2.2.1 | exact hp.2.2.2.1
  all_goals try (exfalso; first | omega | contradiction | simp_all; done)
  · rename_i h0
    rw [W.rr]
    refine ⟨rfl, rfl, _, ⟨fun h => ?_, fun h => ?_⟩, rfl⟩
    · have h := cmpE hA h
      simp only [cmpR] at h
      subst hA
      exact ⟨h0, h⟩
    · subst hA
      exact decide_eq_true h.2
  · rename_i h0
    rw [W.rr]
    exact ⟨rfl, rfl, false, ⟨fun h => by simp at h, fun h => absurd h.1 (by omega)⟩, rfl⟩

theorem lo_E (p1 a1 a2 a3 a4 a5 p2 b1 b2 b3 b4 b5 : Int) (a6 b6 : List (List AV)) : EC Try.prog G49 [] [.i p1, .i a1, .i a2, .i a3, .i a4, .i a5, .r a6, .i p2, .i b1, .i b2, .i b3, .i b4, .i b5, .r b6] fun x rs vs => x = 0 ∧ rs = [] ∧ ∃ b, b = decide (p1 < p2) ∧ vs = [.b b] := by
  obtain ⟨A, hA⟩ : ∃ A, A = arS := ⟨_, rfl⟩
  refine Inst.enter (I := I49) hA mixed F49_at sg L49 80 rfl fun CE CK Dn EV RR W hp => ?_
  cbv
  repeat' first | apply And.intro | (apply imC hA; intro) | (apply imN hA; intro) | (apply imI hA; intro) | (apply ndI hA; simp only [Cnd.holds])
  all_goals try simp only [nc, nc2, cmpR, Bool.not_true, Bool.not_false] at *
  all_goals try first | rfl | assumption | exact hp.1 | exact hp.2.1 | exact hp.2.2.1 | exact hp.2.2.2.1
  all_goals try (exfalso; first | omega | contradiction | simp_all; done)
  rw [W.rr]; exact ⟨rfl, rfl, _, by subst hA; rfl, rfl⟩
theorem hi_E (p1 a1 a2 a3 a4 a5 p2 b1 b2 b3 b4 b5 : Int) (a6 b6 : List (List AV)) : EC Try.prog G50 [] [.i p1, .i a1, .i a2, .i a3, .i a4, .i a5, .r a6, .i p2, .i b1, .i b2, .i b3, .i b4, .i b5, .r b6] fun x rs vs => x = 0 ∧ rs = [] ∧ ∃ b, b = decide (p2 ≤ p1) ∧ vs = [.b b] := by
  obtain ⟨A, hA⟩ : ∃ A, A = arS := ⟨_, rfl⟩
  refine Inst.enter (I := I50) hA mixed F50_at sg L50 80 rfl fun CE CK Dn EV RR W hp => ?_
  cbv
  repeat' first | apply And.intro | (apply imC hA; intro) | (apply imN hA; intro) | (apply imI hA; intro) | (apply ndI hA; simp only [Cnd.holds])
  all_goals try simp only [nc, nc2, cmpR, Bool.not_true, Bool.not_false] at *
  all_goals try first | rfl | assumption | exact hp.1 | exact hp.2.1 | exact hp.2.2.1 | exact hp.2.2.2.1
  all_goals try (exfalso; first | omega | contradiction | simp_all; done)
  rw [W.rr]; exact ⟨rfl, rfl, _, by subst hA; rfl, rfl⟩

theorem Few_E (c0 c1 c2 c3 c5 : Int) (c4 c6 c7 tasks c9 : List (List AV)) (gt : ∀ r ∈ tasks, GdL TKs r) (p4 : pursS c4 = true) (p6 : pursS c6 = true) (p7 : pursS c7 = true) (pt : pursS tasks = true) (p9 : pursS c9 = true) (ht : tasks.length ≤ maxLen) : EC Try.prog G35 [] [.i c0, .i c1, .i c2, .i c3, .r c4, .i c5, .r c6, .r c7, .r tasks, .r c9] fun x rs vs => x = 0 ∧ rs = [] ∧ ∃ b, (b = true → tasks.length ≤ 20) ∧ vs = [.b b] := by
  obtain ⟨A, hA⟩ : ∃ A, A = arS := ⟨_, rfl⟩
  refine Inst.enter (I := I35) hA mixed F35_at sg L35 80 rfl fun CE CK Dn EV RR W hp => ?_
  have loop : ∀ (d m : Nat) (i z : Int), tasks.length - m < d → m ≤ tasks.length → z = tasks.length → i = m → EV 7 [] [.r tasks, .i z, .i i, .i c0, .i c1, .i c2, .i c3, .r c4, .i c5, .r c6, .r c7, .r tasks, .r c9] := by
    intro d
    induction d with
    | zero => intro m i z hd; omega
    | succ d ih =>
      intro m i z hd hm hz hi
      obtain ⟨j, hj⟩ : ∃ j : Int, j = i + 1 := ⟨_, rfl⟩
      have hml : maxLen ≤ 9223372036854775807 := by decide
      have e1 : i < z → A.iop .add .i64 i 1 = j := fun h => by rw [iopW hA, wrap_i64 (by omega) (by omega)]; omega
      unfold Ar.iop at e1
      refine W.step 80 fun hp => ?_
      cbv
      repeat' first | apply And.intro | (apply imC hA; intro) | (apply imN hA; intro) | (apply imI hA; intro) | (apply ndI hA; simp only [Cnd.holds])
      all_goals try simp only [nc, nc2, cmpR, Bool.not_true, Bool.not_false] at *
      all_goals try first | rfl | assumption | exact hp.1 | exact hp.2.1 | exact hp.2.2.1 | exact hp.2.2.2.1
      all_goals try (exfalso; first | omega | contradiction)
      all_goals try first | omega | exact task_row hA gt (by subst hA; simp only [arS]; omega)
      · rw [W.rr]; exact ⟨rfl, rfl, false, fun h => by simp at h, rfl⟩
      · simp only [e1 (by assumption)]
        exact ih (m + 1) j z (by omega) (by omega) hz (by omega)
      · have h : A.ofN (A.rlen tasks) ≤ 20 := by assumption
        have h : (tasks.length : Int) ≤ 20 := by subst hA; exact h
        rw [W.rr]; exact ⟨rfl, rfl, _, fun _ => by omega, rfl⟩
      all_goals (rw [W.rr]; exact ⟨rfl, rfl, false, fun h => by simp at h, rfl⟩)
  cbv
  repeat' first | apply And.intro | (apply imC hA; intro) | (apply imN hA; intro) | (apply imI hA; intro) | (apply ndI hA; simp only [Cnd.holds])
  all_goals try simp only [nc, nc2, cmpR, Bool.not_true, Bool.not_false] at *
  all_goals try first | rfl | assumption | exact hp.1 | exact hp.2.1 | exact hp.2.2.1 | exact hp.2.2.2.1
  all_goals try (exfalso; first | omega | contradiction)
  exact loop _ 0 0 _ (Nat.lt_succ_self _) (by omega) (by subst hA; rfl) rfl

theorem some_lo (c0 c1 c2 c3 c5 task : Int) (c4 c6 c7 tasks c9 : List (List AV)) (gt : ∀ r ∈ tasks, GdL TKs r) (p4 : pursS c4 = true) (p6 : pursS c6 = true) (p7 : pursS c7 = true) (pt : pursS tasks = true) (p9 : pursS c9 = true) (ht : tasks.length ≤ 20) (h0 : 0 ≤ task) (h1 : task < tasks.length) : EC Try.prog G48 [] [.i c0, .i c1, .i c2, .i c3, .r c4, .i c5, .r c6, .r c7, .r tasks, .r c9, .i task] fun x rs vs => x = 0 ∧ ∃ R, R = ints (idx (fun p => decide (p < cIS tasks task.toNat 0)) (prio tasks) 0) ∧ rs = [R] ∧ vs = [] := by
  obtain ⟨A, hA⟩ : ∃ A, A = arS := ⟨_, rfl⟩
  refine Inst.enter (I := I48) hA mixed F48_at sg L48 80 rfl fun CE CK Dn EV RR W hp => ?_
  have loop : ∀ (d m : Nat) (acc : List Int) (out : List (List AV)) (i z : Int), tasks.length - m < d → m ≤ tasks.length → z = tasks.length → i = m → out = ints acc → acc.length ≤ m → acc ++ idx (fun p => decide (p < cIS tasks task.toNat 0)) ((prio tasks).drop m) m = idx (fun p => decide (p < cIS tasks task.toNat 0)) (prio tasks) 0 → EV 17 [out] [.i task, .r tasks, .i z, .i i, .i c0, .i c1, .i c2, .i c3, .r c4, .i c5, .r c6, .r c7, .r tasks, .r c9] := by
    intro d
    induction d with
    | zero => intro m acc out i z hd; omega
    | succ d ih =>
      intro m acc out i z hd hm hz hi hout hal hinv
      obtain ⟨j, hj⟩ : ∃ j : Int, j = i + 1 := ⟨_, rfl⟩
      have e1 : A.iop .add .i64 i 1 = j := (addOne hA (by omega) (by omega)).trans (by omega)
      unfold Ar.iop at e1
      have hol : out.length = acc.length := by rw [hout]; simp
      have po : pursS out = true := by rw [hout]; exact ints_pure acc
      refine W.step 80 fun hp => ?_
      cbv
      repeat' first | apply And.intro | (apply imC hA; intro) | (apply imN hA; intro) | (apply imI hA; intro) | (apply ndI hA; simp only [Cnd.holds])
      all_goals try simp only [nc, nc2, cmpR, Bool.not_true, Bool.not_false] at *
      all_goals try first | rfl | assumption | exact hp.1 | exact hp.2.1 | exact hp.2.2.1 | exact hp.2.2.2.1
      all_goals try (exfalso; first | omega | contradiction)
      all_goals try simp only [e1]
      all_goals try first | omega | exact task_row hA gt (by subst hA; simp only [arS]; omega)
      · refine W.callD (by rfl) (lo_E _ _ _ _ _ _ _ _ _ _ _ _ _ _) (by first | rfl | (subst hA; simp [arS])) (by first | rfl | (subst hA; simp [arS])) ?_
        rintro _ _ _ hp ⟨rfl, rfl, b, hb, rfl⟩
        have hbv : b = decide (cIS tasks m 0 < cIS tasks task.toNat 0) := by rw [hb, show m = i.toNat by omega]; subst hA; rfl
        have s1 : A.rapp out (A.rlen out) [[.int .i64 i]] = ints (acc ++ [i]) := by
          subst hA hout
          simp only [arS]
          rw [rappS_end, ints_append]
        cbv
        repeat' first | apply And.intro | (apply imC hA; intro) | (apply imN hA; intro) | (apply imI hA; intro) | (apply ndI hA; simp only [Cnd.holds])
        all_goals try simp only [nc, nc2, cmpR, Bool.not_true, Bool.not_false] at *
        all_goals try first | rfl | assumption | exact hp.1 | exact hp.2.1 | exact hp.2.2.1 | exact hp.2.2.2.1
        all_goals try (exfalso; first | omega | contradiction)
        refine W.draw 80 (by rfl) ?_
        cbv
        repeat' first | apply And.intro | (apply imC hA; intro) | (apply imN hA; intro) | (apply imI hA; intro) | (apply ndI hA; simp only [Cnd.holds])
        all_goals try simp only [nc, nc2, cmpR, Bool.not_true, Bool.not_false] at *
        all_goals try first | rfl | assumption | exact hp.1 | exact hp.2.1 | exact hp.2.2.1 | exact hp.2.2.2.1
        all_goals try (exfalso; first | omega | contradiction)
        all_goals try simp only [e1]
        all_goals try first | exact (congrArg pursS s1).trans (ints_pure _) | (subst hA; simp [arS]; done) | (subst hA; simp [arS]; omega) | (subst hA; simp only [arS, rappS, List.length_append, List.length_take, List.length_drop, List.length_cons, List.length_nil]; omega)
        · rename_i hbt
          rw [hbv] at hbt
          refine ih (m + 1) (acc ++ [i]) _ j z (by omega) (by omega) hz (by omega) s1 (by simp; omega) ?_
          rw [prio_drop (by omega), idx, if_pos hbt] at hinv
          rw [← hinv, List.append_assoc, hi, show ((m + 1 : Nat) : Int) = (m : Int) + 1 by omega]
          rfl
        · rename_i hbt
          rw [hbv] at hbt
          refine ih (m + 1) acc out j z (by omega) (by omega) hz (by omega) hout (by omega) ?_
          rw [prio_drop (by omega), idx, if_neg (by rw [hbt]; simp)] at hinv
          rw [← hinv, show ((m + 1 : Nat) : Int) = (m : Int) + 1 by omega]
      · rw [W.rr]
        obtain rfl : m = tasks.length := by omega
        rw [List.drop_eq_nil_of_le (by rw [prio_len]; omega)] at hinv
        simp only [idx, List.append_nil] at hinv
        exact ⟨rfl, out, by rw [hout, hinv], rfl, rfl⟩
  cbv
  repeat' first | apply And.intro | (apply imC hA; intro) | (apply imN hA; intro) | (apply imI hA; intro) | (apply ndI hA; simp only [Cnd.holds])
  all_goals try simp only [nc, nc2, cmpR, Bool.not_true, Bool.not_false] at *
  all_goals try first | rfl | assumption | exact hp.1 | exact hp.2.1 | exact hp.2.2.1 | exact hp.2.2.2.1
  all_goals try (exfalso; first | omega | contradiction)
  refine W.call 80 (by rfl) (is_E c0 c1 c2 c3 c5 task c4 c6 c7 tasks c9) (by first | rfl | (subst hA; simp [arS])) (by first | rfl | (subst hA; simp [arS])) ?_
  rintro _ _ _ hp ⟨rfl, rfl, b, hb, rfl⟩
  obtain rfl : b = true := hb.2 ⟨h0, h1⟩
  cbv
  repeat' first | apply And.intro | (apply imC hA; intro) | (apply imN hA; intro) | (apply imI hA; intro) | (apply ndI hA; simp only [Cnd.holds])
  all_goals try simp only [nc, nc2, cmpR, Bool.not_true, Bool.not_false] at *
  all_goals try first | rfl | assumption | exact hp.1 | exact hp.2.1 | exact hp.2.2.1 | exact hp.2.2.2.1
  all_goals try (exfalso; first | omega | contradiction)
  all_goals try (subst hA; rfl)
  exact loop _ 0 [] [] 0 _ (Nat.lt_succ_self _) (by omega) (by subst hA; rfl) rfl rfl (by simp) (by simp)


theorem some_hi (c0 c1 c2 c3 c5 task : Int) (c4 c6 c7 tasks c9 : List (List AV)) (gt : ∀ r ∈ tasks, GdL TKs r) (p4 : pursS c4 = true) (p6 : pursS c6 = true) (p7 : pursS c7 = true) (pt : pursS tasks = true) (p9 : pursS c9 = true) (ht : tasks.length ≤ 20) (h0 : 0 ≤ task) (h1 : task < tasks.length) : EC Try.prog G48a [] [.i c0, .i c1, .i c2, .i c3, .r c4, .i c5, .r c6, .r c7, .r tasks, .r c9, .i task] fun x rs vs => x = 0 ∧ ∃ R, R = ints (idx (fun p => decide (cIS tasks task.toNat 0 ≤ p)) (prio tasks) 0) ∧ rs = [R] ∧ vs = [] := by
  obtain ⟨A, hA⟩ : ∃ A, A = arS := ⟨_, rfl⟩
  refine Inst.enter (I := I48a) hA mixed F48_at sg L48a 80 rfl fun CE CK Dn EV RR W hp => ?_
  have loop : ∀ (d m : Nat) (acc : List Int) (out : List (List AV)) (i z : Int), tasks.length - m < d → m ≤ tasks.length → z = tasks.length → i = m → out = ints acc → acc.length ≤ m → acc ++ idx (fun p => decide (cIS tasks task.toNat 0 ≤ p)) ((prio tasks).drop m) m = idx (fun p => decide (cIS tasks task.toNat 0 ≤ p)) (prio tasks) 0 → EV 17 [out] [.i task, .r tasks, .i z, .i i, .i c0, .i c1, .i c2, .i c3, .r c4, .i c5, .r c6, .r c7, .r tasks, .r c9] := by
    intro d
    induction d with
    | zero => intro m acc out i z hd; omega
    | succ d ih =>
      intro m acc out i z hd hm hz hi hout hal hinv
      obtain ⟨j, hj⟩ : ∃ j : Int, j = i + 1 := ⟨_, rfl⟩
      have e1 : A.iop .add .i64 i 1 = j := (addOne hA (by omega) (by omega)).trans (by omega)
      unfold Ar.iop at e1
      have hol : out.length = acc.length := by rw [hout]; simp
      have po : pursS out = true := by rw [hout]; exact ints_pure acc
      refine W.step 80 fun hp => ?_
      cbv
      repeat' first | apply And.intro | (apply imC hA; intro) | (apply imN hA; intro) | (apply imI hA; intro) | (apply ndI hA; simp only [Cnd.holds])
      all_goals try simp only [nc, nc2, cmpR, Bool.not_true, Bool.not_false] at *
      all_goals try first | rfl | assumption | exact hp.1 | exact hp.2.1 | exact hp.2.2.1 | exact hp.2.2.2.1
      all_goals try (exfalso; first | omega | contradiction)
      all_goals try simp only [e1]
      all_goals try first | omega | exact task_row hA gt (by subst hA; simp only [arS]; omega)
      · refine W.callD (by rfl) (hi_E _ _ _ _ _ _ _ _ _ _ _ _ _ _) (by first | rfl | (subst hA; simp [arS])) (by first | rfl | (subst hA; simp [arS])) ?_
        rintro _ _ _ hp ⟨rfl, rfl, b, hb, rfl⟩
        have hbv : b = decide (cIS tasks task.toNat 0 ≤ cIS tasks m 0) := by rw [hb, show m = i.toNat by omega]; subst hA; rfl
        have s1 : A.rapp out (A.rlen out) [[.int .i64 i]] = ints (acc ++ [i]) := by
          subst hA hout
          simp only [arS]
          rw [rappS_end, ints_append]
        cbv
        repeat' first | apply And.intro | (apply imC hA; intro) | (apply imN hA; intro) | (apply imI hA; intro) | (apply ndI hA; simp only [Cnd.holds])
        all_goals try simp only [nc, nc2, cmpR, Bool.not_true, Bool.not_false] at *
        all_goals try first | rfl | assumption | exact hp.1 | exact hp.2.1 | exact hp.2.2.1 | exact hp.2.2.2.1
        all_goals try (exfalso; first | omega | contradiction)
        refine W.draw 80 (by rfl) ?_
        cbv
        repeat' first | apply And.intro | (apply imC hA; intro) | (apply imN hA; intro) | (apply imI hA; intro) | (apply ndI hA; simp only [Cnd.holds])
        all_goals try simp only [nc, nc2, cmpR, Bool.not_true, Bool.not_false] at *
        all_goals try first | rfl | assumption | exact hp.1 | exact hp.2.1 | exact hp.2.2.1 | exact hp.2.2.2.1
        all_goals try (exfalso; first | omega | contradiction)
        all_goals try simp only [e1]
        all_goals try first | exact (congrArg pursS s1).trans (ints_pure _) | (subst hA; simp [arS]; done) | (subst hA; simp [arS]; omega) | (subst hA; simp only [arS, rappS, List.length_append, List.length_take, List.length_drop, List.length_cons, List.length_nil]; omega)
        · rename_i hbt
          rw [hbv] at hbt
          refine ih (m + 1) (acc ++ [i]) _ j z (by omega) (by omega) hz (by omega) s1 (by simp; omega) ?_
          rw [prio_drop (by omega), idx, if_pos hbt] at hinv
          rw [← hinv, List.append_assoc, hi, show ((m + 1 : Nat) : Int) = (m : Int) + 1 by omega]
          rfl
        · rename_i hbt
          rw [hbv] at hbt
          refine ih (m + 1) acc out j z (by omega) (by omega) hz (by omega) hout (by omega) ?_
          rw [prio_drop (by omega), idx, if_neg (by rw [hbt]; simp)] at hinv
          rw [← hinv, show ((m + 1 : Nat) : Int) = (m : Int) + 1 by omega]
      · rw [W.rr]
        obtain rfl : m = tasks.length := by omega
        rw [List.drop_eq_nil_of_le (by rw [prio_len]; omega)] at hinv
        simp only [idx, List.append_nil] at hinv
        exact ⟨rfl, out, by rw [hout, hinv], rfl, rfl⟩
  cbv
  repeat' first | apply And.intro | (apply imC hA; intro) | (apply imN hA; intro) | (apply imI hA; intro) | (apply ndI hA; simp only [Cnd.holds])
  all_goals try simp only [nc, nc2, cmpR, Bool.not_true, Bool.not_false] at *
  all_goals try first | rfl | assumption | exact hp.1 | exact hp.2.1 | exact hp.2.2.1 | exact hp.2.2.2.1
  all_goals try (exfalso; first | omega | contradiction)
  refine W.call 80 (by rfl) (is_E c0 c1 c2 c3 c5 task c4 c6 c7 tasks c9) (by first | rfl | (subst hA; simp [arS])) (by first | rfl | (subst hA; simp [arS])) ?_
  rintro _ _ _ hp ⟨rfl, rfl, b, hb, rfl⟩
  obtain rfl : b = true := hb.2 ⟨h0, h1⟩
  cbv
  repeat' first | apply And.intro | (apply imC hA; intro) | (apply imN hA; intro) | (apply imI hA; intro) | (apply ndI hA; simp only [Cnd.holds])
  all_goals try simp only [nc, nc2, cmpR, Bool.not_true, Bool.not_false] at *
  all_goals try first | rfl | assumption | exact hp.1 | exact hp.2.1 | exact hp.2.2.1 | exact hp.2.2.2.1
  all_goals try (exfalso; first | omega | contradiction)
  all_goals try (subst hA; rfl)
  exact loop _ 0 [] [] 0 _ (Nat.lt_succ_self _) (by omega) (by subst hA; rfl) rfl rfl (by simp) (by simp)


theorem Lower_E (c0 c1 c2 c3 c5 task : Int) (c4 c6 c7 tasks c9 : List (List AV)) (gt : ∀ r ∈ tasks, GdL TKs r) (p4 : pursS c4 = true) (p6 : pursS c6 = true) (p7 : pursS c7 = true) (pt : pursS tasks = true) (p9 : pursS c9 = true) (ht : tasks.length ≤ 20) (h0 : 0 ≤ task) (h1 : task < tasks.length) : EC Try.prog G30 [] [.i c0, .i c1, .i c2, .i c3, .r c4, .i c5, .r c6, .r c7, .r tasks, .r c9, .i task] fun x rs vs => x = 0 ∧ ∃ R, R = ints (idx (fun p => decide (p < cIS tasks task.toNat 0)) (prio tasks) 0) ∧ rs = [R] ∧ vs = [] := by
  obtain ⟨A, hA⟩ : ∃ A, A = arS := ⟨_, rfl⟩
  refine Inst.enter (I := I30) hA mixed F30_at sg L30 80 rfl fun CE CK Dn EV RR W hp => ?_
  cbv
  repeat' first | apply And.intro | (apply imC hA; intro) | (apply imN hA; intro) | (apply imI hA; intro) | (apply ndI hA; simp only [Cnd.holds])
  all_goals try simp only [nc, nc2, cmpR, Bool.not_true, Bool.not_false] at *
  all_goals try first | rfl | assumption | exact hp.1 | exact hp.2.1 | exact hp.2.2.1 | exact hp.2.2.2.1
  all_goals try (exfalso; first | omega | contradiction | simp_all; done)
  refine W.call 80 (by rfl) (some_lo c0 c1 c2 c3 c5 task c4 c6 c7 tasks c9 gt p4 p6 p7 pt p9 ht h0 h1) (by first | rfl | (subst hA; simp [arS])) (by first | rfl | (subst hA; simp [arS])) ?_
  rintro _ _ _ hp ⟨rfl, R, hR, rfl, rfl⟩
  cbv
  repeat' first | apply And.intro | (apply imC hA; intro) | (apply imN hA; intro) | (apply imI hA; intro) | (apply ndI hA; simp only [Cnd.holds])
  all_goals try simp only [nc, nc2, cmpR, Bool.not_true, Bool.not_false] at *
  all_goals try first | rfl | assumption | exact hp.1 | exact hp.2.1 | exact hp.2.2.1 | exact hp.2.2.2.1
  all_goals try (exfalso; first | omega | contradiction)
  all_goals try (rw [hR]; exact ints_pure _)
  rw [W.rr]; exact ⟨rfl, R, hR, rfl, rfl⟩

theorem Higher_E (c0 c1 c2 c3 c5 task : Int) (c4 c6 c7 tasks c9 : List (List AV)) (gt : ∀ r ∈ tasks, GdL TKs r) (p4 : pursS c4 = true) (p6 : pursS c6 = true) (p7 : pursS c7 = true) (pt : pursS tasks = true) (p9 : pursS c9 = true) (ht : tasks.length ≤ 20) (h0 : 0 ≤ task) (h1 : task < tasks.length) : EC Try.prog G31 [] [.i c0, .i c1, .i c2, .i c3, .r c4, .i c5, .r c6, .r c7, .r tasks, .r c9, .i task] fun x rs vs => x = 0 ∧ ∃ R, R = ints (idx (fun p => decide (cIS tasks task.toNat 0 ≤ p)) (prio tasks) 0) ∧ rs = [R] ∧ vs = [] := by
  obtain ⟨A, hA⟩ : ∃ A, A = arS := ⟨_, rfl⟩
  refine Inst.enter (I := I31) hA mixed F31_at sg L31 80 rfl fun CE CK Dn EV RR W hp => ?_
  cbv
  repeat' first | apply And.intro | (apply imC hA; intro) | (apply imN hA; intro) | (apply imI hA; intro) | (apply ndI hA; simp only [Cnd.holds])
  all_goals try simp only [nc, nc2, cmpR, Bool.not_true, Bool.not_false] at *
  all_goals try first | rfl | assumption | exact hp.1 | exact hp.2.1 | exact hp.2.2.1 | exact hp.2.2.2.1
  all_goals try (exfalso; first | omega | contradiction | simp_all; done)
  refine W.call 80 (by rfl) (some_hi c0 c1 c2 c3 c5 task c4 c6 c7 tasks c9 gt p4 p6 p7 pt p9 ht h0 h1) (by first | rfl | (subst hA; simp [arS])) (by first | rfl | (subst hA; simp [arS])) ?_
  rintro _ _ _ hp ⟨rfl, R, hR, rfl, rfl⟩
  cbv
  repeat' first | apply And.intro | (apply imC hA; intro) | (apply imN hA; intro) | (apply imI hA; intro) | (apply ndI hA; simp only [Cnd.holds])
  all_goals try simp only [nc, nc2, cmpR, Bool.not_true, Bool.not_false] at *
  all_goals try first | rfl | assumption | exact hp.1 | exact hp.2.1 | exact hp.2.2.1 | exact hp.2.2.2.1
  all_goals try (exfalso; first | omega | contradiction)
  all_goals try (rw [hR]; exact ints_pure _)
  rw [W.rr]; exact ⟨rfl, R, hR, rfl, rfl⟩

end Go.Ab
