/- PreemptSides: the walk of the law. -/
import Derived.Test.YtkcnlpelbcpmgaaPreA
namespace Go.Ab
open Go Go.Proofs
set_option linter.unusedVariables false
set_option linter.unusedSimpArgs false
set_option maxRecDepth 100000
set_option maxHeartbeats 2000000

theorem GdL.pure : ∀ {ds : List DT} {xs : List AV}, GdL ds xs → purs xs = true
  | [], xs, h => by simp only [GdL] at h; subst h; rfl
  | d :: ds, xs, h => by
    simp only [GdL] at h
    obtain ⟨x, ys, rfl, h1, h2⟩ := h
    have h3 : pur x = true := by
      cases d <;> simp only [GdC] at h1
      · obtain ⟨n, rfl, _⟩ := h1; rfl
      · obtain ⟨b, rfl⟩ := h1; rfl
      · obtain ⟨s, rfl, _⟩ := h1; rfl
      · obtain ⟨rows, rfl, _⟩ := h1; rfl
    simp only [purs, h3, GdL.pure h2, Bool.and_true]
theorem GdR.pure {ds : List DT} : ∀ {rows : List (List AV)}, (∀ r ∈ rows, GdL ds r) → pursS rows = true
  | [], _ => rfl
  | r :: rows, h => by
    have h1 := (h r (List.mem_cons_self ..)).pure
    have h2 := GdR.pure fun x hx => h x (List.mem_cons_of_mem _ hx)
    simp only [pursS, h1, h2, Bool.and_true]

theorem fixed25 : EC Try.prog G25 [] [] fun x rs vs => x = 0 ∧ rs = [] ∧ vs = [.b true] := EC.closed mixed TT_at (n := 100000) (by kernel_rfl)

theorem ig {A : Ar} (hA : A = arS) {l : List (List AV)} {M : List Int} (hl : l = ints M) {i : Nat} (h : i < M.length) : l[i]? = some [.int .i64 (A.cI l i 0)] := by
  subst hA hl
  exact ints_get h
theorem igv {A : Ar} (hA : A = arS) {l : List (List AV)} {M N : List Int} {v : Int} (hl : l = ints (M ++ v :: N)) {a : Int} (h : a = M.length) : A.cI l (A.add 0 (A.tn a)) 0 = v := by
  subst hA hl h
  simp only [arS, Nat.zero_add, Int.toNat_natCast]
  rw [ints_cI, List.getD_eq_getElem?_getD, List.getElem?_append_right (Nat.le_refl _), Nat.sub_self]
  rfl

theorem Sides_E (c0 : Int) (_ : (Lit.int .i64 c0).wf = true) (c1 : Int) (_ : (Lit.int .i64 c1).wf = true) (c2 : Int) (_ : (Lit.int .i64 c2).wf = true) (c3 : Int) (_ : (Lit.int .i64 c3).wf = true) (c4 : List (List AV)) (_ : c4.length ≤ maxLen) (g4 : ∀ r ∈ c4, GdL [.int .i64] r) (c5 : Int) (_ : (Lit.int .i64 c5).wf = true) (c6 : List (List AV)) (_ : c6.length ≤ maxLen) (g6 : ∀ r ∈ c6, GdL [.int .i64] r) (c7 : List (List AV)) (_ : c7.length ≤ maxLen) (g7 : ∀ r ∈ c7, GdL [.int .i64] r) (tasks : List (List AV)) (ht : tasks.length ≤ maxLen) (gt : ∀ r ∈ tasks, GdL TKs r) (c9 : List (List AV)) (_ : c9.length ≤ maxLen) (g9 : ∀ r ∈ c9, GdL [.int .i64] r) (task : Int) (_ : (Lit.int .i64 task).wf = true) : EC Try.prog G8 [] [.i c0, .i c1, .i c2, .i c3, .r c4, .i c5, .r c6, .r c7, .r tasks, .r c9, .i task] fun x rs vs => x = 0 ∧ vs = [.b true] := by
  have p4 := GdR.pure g4
  have p6 := GdR.pure g6
  have p7 := GdR.pure g7
  have pt := GdR.pure gt
  have p9 := GdR.pure g9
  obtain ⟨A, hA⟩ : ∃ A, A = arS := ⟨_, rfl⟩
  refine Inst.enter (I := I8) hA mixed F8_at sg L8 80 rfl fun CE CK Dn EV RR W hp => ?_
  have loop : tasks.length ≤ 20 → 0 ≤ task → task < tasks.length → ∀ (d m : Nat) (La Ha : List Int) (l h : List (List AV)) (a b i z : Int), tasks.length - m < d → m ≤ tasks.length → z = tasks.length → i = m → a = La.length → b = Ha.length → l = ints (La ++ idx (fun p => decide (p < cIS tasks task.toNat 0)) ((prio tasks).drop m) m) → h = ints (Ha ++ idx (fun p => decide (cIS tasks task.toNat 0 ≤ p)) ((prio tasks).drop m) m) → La.length ≤ m → Ha.length ≤ m → EV 27 [l, h] [.i task, .i a, .i b, .r tasks, .i z, .i i, .i c0, .i c1, .i c2, .i c3, .r c4, .i c5, .r c6, .r c7, .r tasks, .r c9] := by
    intro ht20 h0 h1 d
    induction d with
    | zero => intro m La Ha l h a b i z hd; omega
    | succ d ih =>
      intro m La Ha l h a b i z hd hm hz hi ha hb hl hh hLm hHm
      obtain ⟨j, hj⟩ : ∃ j : Int, j = i + 1 := ⟨_, rfl⟩
      have e1 : A.iop .add .i64 i 1 = j := (addOne hA (by omega) (by omega)).trans (by omega)
      obtain ⟨a', ha'⟩ : ∃ j : Int, j = a + 1 := ⟨_, rfl⟩
      have e2 : A.iop .add .i64 a 1 = a' := (addOne hA (by omega) (by omega)).trans (by omega)
      obtain ⟨b', hb'⟩ : ∃ j : Int, j = b + 1 := ⟨_, rfl⟩
      have e3 : A.iop .add .i64 b 1 = b' := (addOne hA (by omega) (by omega)).trans (by omega)
      unfold Ar.iop at e1 e2 e3
      have pl : pursS l = true := by rw [hl]; exact ints_pure _
      have ph : pursS h = true := by rw [hh]; exact ints_pure _
      obtain ⟨vm, hvm⟩ : ∃ v, v = cIS tasks m 0 := ⟨_, rfl⟩
      obtain ⟨vt, hvt⟩ : ∃ v, v = cIS tasks task.toNat 0 := ⟨_, rfl⟩
      have e4 : A.cI tasks (A.tn i) 0 = vm := by rw [hvm, show m = i.toNat by omega]; subst hA; rfl
      have e5 : A.cI tasks (A.tn task) 0 = vt := by rw [hvt]; subst hA; rfl
      unfold Ar.cI Ar.tn at e4 e5
      have hlr : A.ofN (A.rlen l) = l.length := by subst hA; rfl
      have hhr : A.ofN (A.rlen h) = h.length := by subst hA; rfl
      rw [← hvt] at hl hh ih
      by_cases hmt : m < tasks.length
      · rw [prio_drop hmt, idx, ← hvm] at hl hh
        rcases Int.lt_or_le vm vt with hlt | hge
        · rw [if_pos (decide_eq_true hlt), ← hi] at hl
          rw [if_neg (by simpa using hlt), show (m : Int) + 1 = ((m + 1 : Nat) : Int) by omega] at hh
          have hll : a < l.length := by rw [hl]; simp; omega
          have e6 := igv hA hl ha
          have hg : l[A.add 0 (A.tn a)]? = some [.int .i64 (A.cI l (A.add 0 (A.tn a)) 0)] := ig hA hl (by subst hA; simp [arS]; omega)
          have hl2 : l = ints ((La ++ [i]) ++ idx (fun p => decide (p < vt)) ((prio tasks).drop (m + 1)) ((m + 1 : Nat) : Int)) := by
            rw [hl, List.append_assoc, hi, show (m : Int) + 1 = ((m + 1 : Nat) : Int) by omega]; rfl
          unfold Ar.cI Ar.add Ar.tn at e6
          have hnot : ¬ (A.ofN (A.rlen l) ≤ a) := by omega
          refine W.step 80 fun hp => ?_
          cbv
          repeat' first | apply And.intro | (apply imC hA; intro) | (apply imN hA; intro) | (apply imI hA; intro) | (apply ndI hA; simp only [Cnd.holds])
          all_goals try simp only [nc, nc2, cmpR, Bool.not_true, Bool.not_false] at *
          all_goals try first | rfl | assumption | exact hp.1 | exact hp.2.1 | exact hp.2.2.1 | exact hp.2.2.2.1
          all_goals try (exfalso; first | omega | contradiction)
          all_goals try simp only [e1, e2, e3]
          all_goals try first | omega | exact task_row hA gt (by subst hA; simp only [arS]; omega) | exact hg
          all_goals simp only [e4, e5, e6] at *
          all_goals try first | contradiction | (exfalso; omega)
          exact ih (m + 1) (La ++ [i]) Ha l h a' b j z (by omega) (by omega) hz (by omega) (by simp; omega) hb hl2 hh (by simp; omega) (by omega)
        · rw [if_pos (decide_eq_true hge), ← hi] at hh
          rw [if_neg (by simpa using hge), show (m : Int) + 1 = ((m + 1 : Nat) : Int) by omega] at hl
          have hll : b < h.length := by rw [hh]; simp; omega
          have e6 := igv hA hh hb
          have hg : h[A.add 0 (A.tn b)]? = some [.int .i64 (A.cI h (A.add 0 (A.tn b)) 0)] := ig hA hh (by subst hA; simp [arS]; omega)
          have hh2 : h = ints ((Ha ++ [i]) ++ idx (fun p => decide (vt ≤ p)) ((prio tasks).drop (m + 1)) ((m + 1 : Nat) : Int)) := by
            rw [hh, List.append_assoc, hi, show (m : Int) + 1 = ((m + 1 : Nat) : Int) by omega]; rfl
          unfold Ar.cI Ar.add Ar.tn at e6
          have hnot : ¬ (A.ofN (A.rlen h) ≤ b) := by omega
          refine W.step 80 fun hp => ?_
          cbv
          repeat' first | apply And.intro | (apply imC hA; intro) | (apply imN hA; intro) | (apply imI hA; intro) | (apply ndI hA; simp only [Cnd.holds])
          all_goals try simp only [nc, nc2, cmpR, Bool.not_true, Bool.not_false] at *
          all_goals try first | rfl | assumption | exact hp.1 | exact hp.2.1 | exact hp.2.2.1 | exact hp.2.2.2.1
          all_goals try (exfalso; first | omega | contradiction)
          all_goals try simp only [e1, e2, e3]
          all_goals try first | omega | exact task_row hA gt (by subst hA; simp only [arS]; omega) | exact hg
          all_goals simp only [e4, e5, e6] at *
          all_goals try first | contradiction | (exfalso; omega)
          exact ih (m + 1) La (Ha ++ [i]) l h a b' j z (by omega) (by omega) hz (by omega) ha (by simp; omega) hl hh2 (by omega) (by simp; omega)
      · rw [List.drop_eq_nil_of_le (by rw [prio_len]; omega)] at hl hh
        simp only [idx, List.append_nil] at hl hh
        have hll : a = l.length := by rw [hl]; simp; omega
        have hhl : b = h.length := by rw [hh]; simp; omega
        have heq : A.cmp .eql b (A.ofN (A.rlen h)) = true := by rw [hhr, ← hhl]; subst hA; simp [arS, cmpS]
        refine W.step 80 fun hp => ?_
        cbv
        repeat' first | apply And.intro | (apply imC hA; intro) | (apply imN hA; intro) | (apply imI hA; intro) | (apply ndI hA; simp only [Cnd.holds])
        all_goals try simp only [nc, nc2, cmpR, Bool.not_true, Bool.not_false] at *
        all_goals try first | rfl | assumption | exact hp.1 | exact hp.2.1 | exact hp.2.2.1 | exact hp.2.2.2.1
        all_goals try (exfalso; first | omega | contradiction)
        all_goals try (exfalso; omega)
        · rw [W.rr]; exact ⟨rfl, congrArg (fun b => [Lf.b b]) heq⟩
        all_goals
          exfalso
          have h : a ≠ A.ofN (A.rlen l) := by assumption
          omega
  have place : tasks.length ≤ 20 → 0 ≤ task → task < tasks.length → ∀ l h : List (List AV), l = ints (idx (fun p => decide (p < cIS tasks task.toNat 0)) (prio tasks) 0) → h = ints (idx (fun p => decide (cIS tasks task.toNat 0 ≤ p)) (prio tasks) 0) → EV 20 [l, h] [.i task, .i c0, .i c1, .i c2, .i c3, .r c4, .i c5, .r c6, .r c7, .r tasks, .r c9] := by
    intro ht20 h0 h1 l h hl hh
    have pl : pursS l = true := by rw [hl]; exact ints_pure _
    have ph : pursS h = true := by rw [hh]; exact ints_pure _
    refine W.step 80 fun hp => ?_
    cbv
    repeat' first | apply And.intro | (apply imC hA; intro) | (apply imN hA; intro) | (apply imI hA; intro) | (apply ndI hA; simp only [Cnd.holds])
    all_goals try simp only [nc, nc2, cmpR, Bool.not_true, Bool.not_false] at *
    all_goals try first | rfl | assumption | exact hp.1 | exact hp.2.1 | exact hp.2.2.1 | exact hp.2.2.2.1
    all_goals try (exfalso; first | omega | contradiction)
    exact loop ht20 h0 h1 _ 0 [] [] l h 0 0 0 _ (Nat.lt_succ_self _) (by omega) (by subst hA; rfl) rfl rfl rfl hl hh (by simp) (by simp)
  cbv
  repeat' first | apply And.intro | (apply imC hA; intro) | (apply imN hA; intro) | (apply imI hA; intro) | (apply ndI hA; simp only [Cnd.holds])
  all_goals try simp only [nc, nc2, cmpR, Bool.not_true, Bool.not_false] at *
  all_goals try first | rfl | assumption | exact hp.1 | exact hp.2.1 | exact hp.2.2.1 | exact hp.2.2.2.1
  all_goals try (exfalso; first | omega | contradiction)
  refine W.call 80 (by rfl) fixed25 (by first | rfl | (subst hA; simp [arS])) (by first | rfl | (subst hA; simp [arS])) ?_
  rintro _ _ _ hp ⟨rfl, rfl, rfl⟩
  cbv
  repeat' first | apply And.intro | (apply imC hA; intro) | (apply imN hA; intro) | (apply imI hA; intro) | (apply ndI hA; simp only [Cnd.holds])
  all_goals try simp only [nc, nc2, cmpR, Bool.not_true, Bool.not_false] at *
  all_goals try first | rfl | assumption | exact hp.1 | exact hp.2.1 | exact hp.2.2.1 | exact hp.2.2.2.1
  all_goals try (exfalso; first | omega | contradiction)
  refine W.call 80 (by rfl) (Few_E c0 c1 c2 c3 c5 c4 c6 c7 tasks c9 gt p4 p6 p7 pt p9 ht) (by first | rfl | (subst hA; simp [arS])) (by first | rfl | (subst hA; simp [arS])) ?_
  rintro _ _ _ hp ⟨rfl, rfl, b, hb, rfl⟩
  cbv
  repeat' first | apply And.intro | (apply imC hA; intro) | (apply imN hA; intro) | (apply imI hA; intro) | (apply ndI hA; simp only [Cnd.holds])
  all_goals try simp only [nc, nc2, cmpR, Bool.not_true, Bool.not_false] at *
  all_goals try first | rfl | assumption | exact hp.1 | exact hp.2.1 | exact hp.2.2.1 | exact hp.2.2.2.1
  all_goals try (exfalso; first | omega | contradiction)
  all_goals try (rw [W.rr]; exact ⟨rfl, rfl⟩)
  all_goals
    have ht20 : tasks.length ≤ 20 := hb (by assumption)
    have h0 : 0 ≤ task := by assumption
    have h1 : task < A.ofN (A.rlen tasks) := by assumption
    have h1 : task < tasks.length := by subst hA; exact h1
  · refine W.callD (by rfl) (Lower_E c0 c1 c2 c3 c5 task c4 c6 c7 tasks c9 gt p4 p6 p7 pt p9 ht20 h0 h1) (by first | rfl | (subst hA; simp [arS])) (by first | rfl | (subst hA; simp [arS])) ?_
    rintro _ _ _ hp ⟨rfl, l, hl, rfl, rfl⟩
    cbv
    repeat' first | apply And.intro | (apply imC hA; intro) | (apply imN hA; intro) | (apply imI hA; intro) | (apply ndI hA; simp only [Cnd.holds])
    all_goals try simp only [nc, nc2, cmpR, Bool.not_true, Bool.not_false] at *
    all_goals try first | rfl | assumption | exact hp.1 | exact hp.2.1 | exact hp.2.2.1 | exact hp.2.2.2.1
    all_goals try (exfalso; first | omega | contradiction)
    refine W.draw 80 (by rfl) ?_
    cbv
    repeat' first | apply And.intro | (apply imC hA; intro) | (apply imN hA; intro) | (apply imI hA; intro) | (apply ndI hA; simp only [Cnd.holds])
    all_goals try simp only [nc, nc2, cmpR, Bool.not_true, Bool.not_false] at *
    all_goals try first | rfl | assumption | exact hp.1 | exact hp.2.1 | exact hp.2.2.1 | exact hp.2.2.2.1
    all_goals try (exfalso; first | omega | contradiction)
    refine W.callD (by rfl) (Higher_E c0 c1 c2 c3 c5 task c4 c6 c7 tasks c9 gt p4 p6 p7 pt p9 ht20 h0 h1) (by first | rfl | (subst hA; simp [arS])) (by first | rfl | (subst hA; simp [arS])) ?_
    rintro _ _ _ hp ⟨rfl, h, hh, rfl, rfl⟩
    have pl : pursS l = true := by rw [hl]; exact ints_pure _
    have ph : pursS h = true := by rw [hh]; exact ints_pure _
    cbv
    repeat' first | apply And.intro | (apply imC hA; intro) | (apply imN hA; intro) | (apply imI hA; intro) | (apply ndI hA; simp only [Cnd.holds])
    all_goals try simp only [nc, nc2, cmpR, Bool.not_true, Bool.not_false] at *
    all_goals try first | rfl | assumption | exact hp.1 | exact hp.2.1 | exact hp.2.2.1 | exact hp.2.2.2.1
    all_goals try (exfalso; first | omega | contradiction)
    refine W.draw 80 (by rfl) ?_
    cbv
    repeat' first | apply And.intro | (apply imC hA; intro) | (apply imN hA; intro) | (apply imI hA; intro) | (apply ndI hA; simp only [Cnd.holds])
    all_goals try simp only [nc, nc2, cmpR, Bool.not_true, Bool.not_false] at *
    all_goals try first | rfl | assumption | exact hp.1 | exact hp.2.1 | exact hp.2.2.1 | exact hp.2.2.2.1
    all_goals try (exfalso; first | omega | contradiction)
    exact place ht20 h0 h1 l h hl hh
end Go.Ab
