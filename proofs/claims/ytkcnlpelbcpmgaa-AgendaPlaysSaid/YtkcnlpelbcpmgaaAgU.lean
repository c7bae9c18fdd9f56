/- The agenda: made of some events; the first of a row. -/
import Derived.Test.YtkcnlpelbcpmgaaAgT
namespace Go.Ab
open Go Go.Proofs HeapM
set_option linter.unusedVariables false
set_option linter.unusedSimpArgs false
set_option maxRecDepth 100000
set_option maxHeartbeats 2000000

theorem enc5_cI (M : List Evt) (i : Nat) (h : i < M.length) : cIS (M.map enc5) i 0 = (g M i).t ∧ cIS (M.map enc5) i 1 = (g M i).k ∧ cIS (M.map enc5) i 2 = (g M i).a ∧ cIS (M.map enc5) i 3 = (g M i).b ∧ cIS (M.map enc5) i 4 = (g M i).c := by
  simp only [cIS, cellS_map, g_get h, List.getElem?_eq_getElem h]
  exact ⟨rfl, rfl, rfl, rfl, rfl⟩
theorem rg5 {A : Ar} (hA : A = arS) {rows : List (List AV)} {M : List Evt} (hR : rows = M.map enc5) {i : Nat} (h : i < M.length) : rows[i]? = some [.int .i64 (A.cI rows i 0), .int .i64 (A.cI rows i 1), .int .i64 (A.cI rows i 2), .int .i64 (A.cI rows i 3), .int .i64 (A.cI rows i 4)] := by
  subst hA hR
  obtain ⟨h0, h1, h2, h3, h4⟩ := enc5_cI M i h
  simp only [arS]
  rw [h0, h1, h2, h3, h4, List.getElem?_map, List.getElem?_eq_getElem h, g_get h]
  rfl

theorem perm_push {L X : List Evt} {e : Evt} {L' : List Evt} (h : L.Perm X) (h2 : L'.Perm (L ++ [e])) : L'.Perm (X ++ [e]) := h2.trans (List.Perm.append_right [e] h)
theorem take_succ_g {N : List Evt} {i : Nat} (h : i < N.length) : N.take (i + 1) = N.take i ++ [g N i] := by
  rw [g_get h, List.take_add_one, List.getElem?_eq_getElem h]; rfl

theorem New_E (N : List Evt) (l : List (List AV)) (hl : l = N.map enc5) (ho : ∀ a, a < N.length → (g N a).o = a) (hn : N.length ≤ 1000) : EC Try.prog G19 [] [.r l] fun x rs vs => x = 0 ∧ ∃ (n : Nat) (L G : List Evt) (R : List (List AV)) (o : Int), n = N.length ∧ o = n ∧ L.Perm N ∧ HeapN L n ∧ R = (L ++ G).map enc ∧ rs = [R] ∧ vs = [.n n, .i o] := by
  obtain ⟨A, hA⟩ : ∃ A, A = arS := ⟨_, rfl⟩
  refine Inst.enter (I := I19) hA mixed F19_at sg L19 80 rfl fun CE CK Dn EV RR W hp => ?_
  have hll : l.length = N.length := by rw [hl]; simp
  have hpl : pursS l = true := by rw [hl]; exact enc5_pure N
  have loop : ∀ (d : Nat) (L G : List Evt) (R : List (List AV)) (n : Nat) (o i z : Int), N.length - n < d → z = N.length → n ≤ N.length → o = n → i = n → L.Perm (N.take n) → HeapN L n → R = (L ++ G).map enc → EV 9 [R] [.r l, .i z, .i i, .n n, .i o] := by
    intro d
    induction d with
    | zero => intro L G R n o i z hd; omega
    | succ d ih =>
      intro L G R n o i z hd hz hnn hno hi hp' hH hR
      obtain ⟨j, hj⟩ : ∃ j : Int, j = i + 1 := ⟨_, rfl⟩
      have e1 : A.iop .add .i64 i 1 = j := (add1 hA (by omega) (by omega)).trans (by omega)
      unfold Ar.iop at e1
      have hLl : L.length = n := by rw [hp'.length_eq, List.length_take]; omega
      refine W.step 80 fun hp => ?_
      cbv
      repeat' first | apply And.intro | (apply imC hA; intro) | (apply imN hA; intro) | (apply imI hA; intro) | (apply ndI hA; simp only [Cnd.holds])
      all_goals try simp only [nc, nc2, cmpR, Bool.not_true, Bool.not_false] at *
      all_goals try first | rfl | assumption | exact hp.1 | exact hp.2.1 | exact hp.2.2.1 | exact hp.2.2.2.1
      all_goals try (exfalso; first | omega | contradiction)
      all_goals try simp only [e1]
      all_goals try first | omega | exact rg5 hA hl (by subst hA; simp only [arS]; omega)
      · have hc : cIS l i.toNat 0 = (g N n).t ∧ cIS l i.toNat 1 = (g N n).k ∧ cIS l i.toNat 2 = (g N n).a ∧ cIS l i.toNat 3 = (g N n).b ∧ cIS l i.toNat 4 = (g N n).c := by
          rw [hl, show n = i.toNat by omega]
          exact enc5_cI N i.toNat (by omega)
        obtain ⟨c0, c1, c2, c3, c4⟩ := hc
        refine W.call 80 (by rfl) (Put_E L { g N n with o := o } G R n o _ _ _ _ _ hLl.symm (by omega) (by omega) (by omega) hH hR (by subst hA; exact c0) (by subst hA; exact c1) (by subst hA; exact c2) (by subst hA; exact c3) (by subst hA; exact c4) rfl) (by first | rfl | (subst hA; simp [arS])) (by first | rfl | (subst hA; simp [arS])) ?_
        have he : ({ g N n with o := o } : Evt) = g N n := by
          have := ho n (by omega)
          rw [hno, ← this]
        rw [he]
        rintro _ _ _ hp ⟨rfl, m, L', G', R', o', hm, h1, h2, h3, ho', rfl, rfl⟩
        cbv
        repeat' first | apply And.intro | (apply imC hA; intro) | (apply imN hA; intro) | (apply imI hA; intro) | (apply ndI hA; simp only [Cnd.holds])
        all_goals try simp only [nc, nc2, cmpR, Bool.not_true, Bool.not_false] at *
        all_goals try first | rfl | assumption | exact hp.1 | exact hp.2.1 | exact hp.2.2.1 | exact hp.2.2.2.1
        all_goals try (exfalso; first | omega | contradiction)
        all_goals try simp only [e1]
        refine ih L' G' R' m o' j z (by omega) hz (by omega) (by omega) (by omega) ?_ h2 h3
        rw [hm, take_succ_g (by omega)]
        exact perm_push hp' h1
      · rw [W.rr]
        obtain rfl : n = N.length := by omega
        rw [List.take_length] at hp'
        exact ⟨rfl, N.length, L, G, R, o, rfl, hno, hp', hH, hR, rfl, rfl⟩
  cbv
  repeat' first | apply And.intro | (apply imC hA; intro) | (apply imN hA; intro) | (apply imI hA; intro) | (apply ndI hA; simp only [Cnd.holds])
  all_goals try simp only [nc, nc2, cmpR, Bool.not_true, Bool.not_false] at *
  all_goals try first | rfl | assumption | exact hp.1 | exact hp.2.1 | exact hp.2.2.1 | exact hp.2.2.2.1
  all_goals try (exfalso; first | omega | contradiction)
  all_goals try (subst hA; simp [arS]; done)
  exact loop _ [] [] [] 0 0 0 _ (Nat.lt_succ_self _) (by subst hA; simp only [arS]; omega) (by omega) rfl rfl (List.Perm.refl _) (fun a _ h => absurd h (by omega)) rfl

/-- The first of a row's beginning. -/
def FirstP (R : List Evt) (i : Nat) (k : Int) : Prop := (i = 0 ∧ k = -1) ∨ (0 ≤ k ∧ k < i ∧ (∀ a, a < i → (g R k.toNat).t ≤ (g R a).t) ∧ ∀ a, a < k.toNat → (g R k.toNat).t < (g R a).t)

theorem FirstP.take {R : List Evt} {m : Nat} {k : Int} (h : FirstP R m k) (hc : k < 0 ∨ (g R m).t < (g R k.toNat).t) : FirstP R (m + 1) m := by
  refine .inr ⟨by omega, by omega, ?_⟩
  simp only [Int.toNat_natCast]
  rcases h with ⟨rfl, rfl⟩ | ⟨h0, h1, h2, h3⟩
  · exact ⟨fun a ha => by obtain rfl : a = 0 := by omega
                          exact Int.le_refl _, fun a ha => absurd ha (by omega)⟩
  · have hc : (g R m).t < (g R k.toNat).t := by omega
    refine ⟨fun a ha => ?_, fun a ha => by have := h2 a ha; omega⟩
    by_cases e : a = m
    · rw [e]; exact Int.le_refl _
    · have := h2 a (by omega); omega
theorem FirstP.keep {R : List Evt} {m : Nat} {k : Int} (h : FirstP R m k) (h0 : 0 ≤ k) (hc : (g R k.toNat).t ≤ (g R m).t) : FirstP R (m + 1) k := by
  rcases h with ⟨rfl, rfl⟩ | ⟨_, h1, h2, h3⟩
  · omega
  · refine .inr ⟨h0, by omega, fun a ha => ?_, h3⟩
    by_cases e : a = m
    · rw [e]; exact hc
    · exact h2 a (by omega)
theorem c5 {A : Ar} (hA : A = arS) {rows : List (List AV)} {R : List Evt} (hR : rows = R.map enc5) {i : Int} (h : i.toNat < R.length) : A.cI rows (A.add 0 (A.tn i)) 0 = (g R i.toNat).t := by
  subst hA hR
  simp only [arS, Nat.zero_add]
  exact (enc5_cI R i.toNat h).1

theorem first_E (R : List Evt) (rows : List (List AV)) (hR : rows = R.map enc5) (hn : R.length ≤ 1000) : EC Try.prog G21a [rows] [] fun x rs vs => x = 0 ∧ rs = [rows] ∧ ∃ k : Int, FirstP R R.length k ∧ vs = [.i k] := by
  obtain ⟨A, hA⟩ : ∃ A, A = arS := ⟨_, rfl⟩
  refine Inst.enter (I := I21a) hA mixed F21_at sg L21a 80 rfl fun CE CK Dn EV RR W hp => ?_
  have hrl : rows.length = R.length := by rw [hR]; simp
  have loop : ∀ (d m : Nat) (k i z : Int), R.length - m < d → m ≤ R.length → z = R.length → i = m → FirstP R m k → EV 9 [rows] [.i k, .i z, .i i] := by
    intro d
    induction d with
    | zero => intro m k i z hd; omega
    | succ d ih =>
      intro m k i z hd hm hz hi hF
      obtain ⟨j, hj⟩ : ∃ j : Int, j = i + 1 := ⟨_, rfl⟩
      have e1 : A.iop .add .i64 i 1 = j := (add1 hA (by omega) (by omega)).trans (by omega)
      unfold Ar.iop at e1
      refine W.step 80 fun hp => ?_
      cbv
      repeat' first | apply And.intro | (apply imC hA; intro) | (apply imN hA; intro) | (apply imI hA; intro) | (apply ndI hA; simp only [Cnd.holds])
      all_goals try simp only [nc, nc2, cmpR, Bool.not_true, Bool.not_false] at *
      all_goals try first | rfl | assumption | exact hp.1 | exact hp.2.1 | exact hp.2.2.1 | exact hp.2.2.2.1
      all_goals try (exfalso; first | omega | contradiction)
      all_goals try simp only [e1]
      all_goals try first | omega | exact rg5 hA hR (by subst hA; simp only [arS]; omega) | (subst hA; simp only [arS]; omega)
      · intro hk
        have hk := cmpE hA hk
        simp only [cmpR] at hk
        refine W.draw 80 (by rfl) ?_
        cbv
        repeat' first | apply And.intro | (apply imC hA; intro) | (apply imN hA; intro) | (apply imI hA; intro) | (apply ndI hA; simp only [Cnd.holds])
        all_goals try simp only [nc, nc2, cmpR, Bool.not_true, Bool.not_false] at *
        all_goals try first | rfl | assumption | exact hp.1 | exact hp.2.1 | exact hp.2.2.1 | exact hp.2.2.2.1
        all_goals try (exfalso; first | omega | contradiction)
        all_goals try simp only [e1]
        refine ih (m + 1) i j z (by omega) (by omega) hz (by omega) ?_
        rw [hi]; exact hF.take (.inl hk)
      · intro hk
        have hk := cmpE hA hk
        simp only [cmpR] at hk
        have hkm : k < m := by rcases hF with ⟨_, h⟩ | ⟨_, h, _⟩ <;> omega
        refine W.draw 80 (by rfl) ?_
        cbv
        repeat' first | apply And.intro | (apply imC hA; intro) | (apply imN hA; intro) | (apply imI hA; intro) | (apply ndI hA; simp only [Cnd.holds])
        all_goals try simp only [nc, nc2, cmpR, Bool.not_true, Bool.not_false] at *
        all_goals try first | rfl | assumption | exact hp.1 | exact hp.2.1 | exact hp.2.2.1 | exact hp.2.2.2.1
        all_goals try (exfalso; first | omega | contradiction)
        all_goals try simp only [e1]
        all_goals try first | omega | exact rg5 hA hR (by subst hA; simp only [arS]; omega) | (subst hA; simp only [arS]; omega)
        · have h : A.cI rows (A.add 0 (A.tn i)) 0 < A.cI rows (A.add 0 (A.tn k)) 0 := by assumption
          rw [c5 hA hR (by omega), c5 hA hR (by omega), show i.toNat = m by omega] at h
          refine ih (m + 1) i j z (by omega) (by omega) hz (by omega) ?_
          rw [hi]; exact hF.take (.inr h)
        · have h : A.cI rows (A.add 0 (A.tn k)) 0 ≤ A.cI rows (A.add 0 (A.tn i)) 0 := by assumption
          rw [c5 hA hR (by omega), c5 hA hR (by omega), show i.toNat = m by omega] at h
          exact ih (m + 1) k j z (by omega) (by omega) hz (by omega) (hF.keep hk h)
      · rw [W.rr]
        obtain rfl : m = R.length := by omega
        exact ⟨rfl, rfl, k, hF, rfl⟩
  cbv
  repeat' first | apply And.intro | (apply imC hA; intro) | (apply imN hA; intro) | (apply imI hA; intro) | (apply ndI hA; simp only [Cnd.holds])
  all_goals try simp only [nc, nc2, cmpR, Bool.not_true, Bool.not_false] at *
  all_goals try first | rfl | assumption | exact hp.1 | exact hp.2.1 | exact hp.2.2.1 | exact hp.2.2.2.1
  all_goals try (exfalso; first | omega | contradiction)
  exact loop _ 0 _ 0 _ (Nat.lt_succ_self _) (by omega) (by subst hA; simp only [arS]; omega) rfl (.inl ⟨rfl, rfl⟩)
end Go.Ab
