/- The heap of the agenda: comparing, swapping, sifting; for every heap of at most a million entries. -/
import Derived.Test.YtkcnlpelbcpmgaaShapes
import Derived.Test.YtkcnlpelbcpmgaaHeap
namespace Go.Ab
open Go Go.Proofs HeapM
set_option linter.unusedVariables false
set_option linter.unusedSimpArgs false
set_option maxRecDepth 100000

def enc (e : Evt) : List AV := [.int .i64 e.t, .int .i64 e.k, .int .i64 e.a, .int .i64 e.b, .int .i64 e.c, .int .i64 e.o]
theorem enc_pure (M : List Evt) : pursS (M.map enc) = true := pursS_map _ (fun _ => rfl) M
theorem enc_cI (M : List Evt) (i : Nat) (h : i < M.length) : cIS (M.map enc) i 0 = (g M i).t ∧ cIS (M.map enc) i 1 = (g M i).k ∧ cIS (M.map enc) i 2 = (g M i).a ∧ cIS (M.map enc) i 3 = (g M i).b ∧ cIS (M.map enc) i 4 = (g M i).c ∧ cIS (M.map enc) i 5 = (g M i).o := by
  simp only [cIS, cellS_map, g_get h, List.getElem?_eq_getElem h]
  exact ⟨rfl, rfl, rfl, rfl, rfl, rfl⟩
theorem rgE {A : Ar} (hA : A = arS) {rows : List (List AV)} {M : List Evt} (hR : rows = M.map enc) {i : Nat} (h : i < M.length) : rows[i]? = some [.int .i64 (A.cI rows i 0), .int .i64 (A.cI rows i 1), .int .i64 (A.cI rows i 2), .int .i64 (A.cI rows i 3), .int .i64 (A.cI rows i 4), .int .i64 (A.cI rows i 5)] := by
  subst hA hR
  obtain ⟨h0, h1, h2, h3, h4, h5⟩ := enc_cI M i h
  simp only [arS]
  rw [h0, h1, h2, h3, h4, h5, List.getElem?_map, List.getElem?_eq_getElem h, g_get h]
  rfl

abbrev rowE (A : Ar) (rows : List (List AV)) (i : Nat) : List AV := [.int .i64 (A.cI rows i 0), .int .i64 (A.cI rows i 1), .int .i64 (A.cI rows i 2), .int .i64 (A.cI rows i 3), .int .i64 (A.cI rows i 4), .int .i64 (A.cI rows i 5)]
theorem rowE_eq {A : Ar} (hA : A = arS) {rows : List (List AV)} {M : List Evt} (hR : rows = M.map enc) {i : Nat} (h : i < M.length) : rowE A rows i = enc (g M i) := by
  subst hA hR
  obtain ⟨h0, h1, h2, h3, h4, h5⟩ := enc_cI M i h
  simp only [rowE, arS, h0, h1, h2, h3, h4, h5, enc]

theorem Less_E (M : List Evt) (rows : List (List AV)) (hR : rows = M.map enc) (n : Nat) (i k : Int) (hn : n ≤ M.length) (i0 : 0 ≤ i) (i1 : i < n) (k0 : 0 ≤ k) (k1 : k < n) : EC Try.prog G88 [rows] [.n n, .i i, .i k] fun x rs vs => x = 0 ∧ rs = [rows] ∧ ∃ b, b = lt (g M i.toNat) (g M k.toNat) ∧ vs = [.b b] := by
  obtain ⟨A, hA⟩ : ∃ A, A = arS := ⟨_, rfl⟩
  refine Inst.enter (I := I88) hA mixed F88_at sg L88 80 rfl fun CE CK Dn EV RR W hp => ?_
  cbv
  repeat' first | apply And.intro | (apply imC hA; intro) | (apply imN hA; intro) | (apply imI hA; intro) | (apply ndI hA; simp only [Cnd.holds])
  all_goals try simp only [nc, nc2, cmpR, Bool.not_true, Bool.not_false] at *
  all_goals try first | rfl | assumption | exact hp.1 | exact hp.2.1 | exact hp.2.2.1 | exact hp.2.2.2.1
  all_goals try (exfalso; first | omega | contradiction | simp_all; done)
  all_goals try first | exact rgE hA hR (by subst hA; simp only [arS]; omega) | (subst hA; simp only [arS]; omega)
  all_goals
    obtain ⟨c0, c1, c2, c3, c4, c5⟩ := enc_cI M i.toNat (by omega)
    obtain ⟨d0, d1, d2, d3, d4, d5⟩ := enc_cI M k.toNat (by omega)
    have st : ∀ t1 a1 b1 e1 f1 o1 t2 a2 b2 e2 f2 o2 : Int, t1 = (g M i.toNat).t → o1 = (g M i.toNat).o → t2 = (g M k.toNat).t → o2 = (g M k.toNat).o → EV 4 [rows] [.i t1, .i a1, .i b1, .i e1, .i f1, .i o1, .i t2, .i a2, .i b2, .i e2, .i f2, .i o2] := by
      intro t1 a1 b1 e1 f1 o1 t2 a2 b2 e2 f2 o2 h1 h2 h3 h4
      refine W.step 80 fun hp => ?_
      cbv
      repeat' first | apply And.intro | (apply imC hA; intro) | (apply imN hA; intro) | (apply imI hA; intro) | (apply ndI hA; simp only [Cnd.holds])
      all_goals try simp only [nc, nc2, cmpR, Bool.not_true, Bool.not_false] at *
      all_goals try first | rfl | assumption | exact hp.1 | exact hp.2.1 | exact hp.2.2.1 | exact hp.2.2.2.1
      all_goals try (exfalso; first | omega | contradiction | simp_all; done)
      all_goals
        rw [W.rr]
        refine ⟨rfl, rfl, _, ?_, rfl⟩
        subst hA
        simp only [arS, cmpS, lt]
        rw [← h1, ← h2, ← h3, ← h4]
        split <;> first | rfl | (exfalso; omega)
    refine st _ _ _ _ _ _ _ _ _ _ _ _ ?_ ?_ ?_ ?_ <;> (subst hA hR; simp only [arS, Nat.zero_add]; assumption)

theorem Swap_E (M : List Evt) (rows : List (List AV)) (hR : rows = M.map enc) (n : Nat) (i k : Int) (hn : n ≤ M.length) (i0 : 0 ≤ i) (i1 : i < n) (k0 : 0 ≤ k) (k1 : k < n) : EC Try.prog G89 [rows] [.n n, .i i, .i k] fun x rs vs => x = 0 ∧ vs = [] ∧ ∃ R, R.length = rows.length ∧ R = (swp M i.toNat k.toNat).map enc ∧ rs = [R] := by
  obtain ⟨A, hA⟩ : ∃ A, A = arS := ⟨_, rfl⟩
  refine Inst.enter (I := I89) hA mixed F89_at sg L89 80 rfl fun CE CK Dn EV RR W hp => ?_
  have s1 : A.rset rows (A.add 0 (A.tn i)) (rowE A rows (A.add 0 (A.tn k))) = (M.set i.toNat (g M k.toNat)).map enc := by
    rw [rowE_eq hA hR (by subst hA; simp only [arS]; omega)]
    subst hA hR
    simp only [arS, Nat.zero_add, List.map_set]
  have s2 : A.rset (A.rset rows (A.add 0 (A.tn i)) (rowE A rows (A.add 0 (A.tn k)))) (A.add 0 (A.tn k)) (rowE A rows (A.add 0 (A.tn i))) = (swp M i.toNat k.toNat).map enc := by
    rw [s1, rowE_eq hA hR (by subst hA; simp only [arS]; omega)]
    subst hA hR
    simp only [arS, Nat.zero_add, swp, List.map_set]
  cbv
  repeat' first | apply And.intro | (apply imC hA; intro) | (apply imN hA; intro) | (apply imI hA; intro) | (apply ndI hA; simp only [Cnd.holds])
  all_goals try simp only [nc, nc2, cmpR, Bool.not_true, Bool.not_false] at *
  all_goals try first | rfl | assumption | exact hp.1 | exact hp.2.1 | exact hp.2.2.1 | exact hp.2.2.2.1
  all_goals try (exfalso; first | omega | contradiction | simp_all; done)
  all_goals try first | exact rgE hA hR (by subst hA; simp only [arS]; omega) | exact rgE hA s1 (by subst hA; simp only [arS, List.length_set]; omega) | exact (congrArg pursS s2).trans (enc_pure _) | (subst hA; simp only [arS]; omega) | (subst hA; simp [arS]; done)
  all_goals (rw [W.rr]; exact ⟨rfl, rfl, _, by subst hA; simp [arS], s2, rfl⟩)

theorem swp_append {L G : List Evt} {i j : Nat} (hi : i < L.length) (hj : j < L.length) : swp (L ++ G) i j = swp L i j ++ G := by
  have h1 : ∀ a, a < L.length → g (L ++ G) a = g L a := fun a ha => by unfold g; rw [List.getD_eq_getElem?_getD, List.getD_eq_getElem?_getD, List.getElem?_append_left ha]
  unfold swp
  rw [h1 i hi, h1 j hj, List.set_append_left _ _ hi, List.set_append_left _ _ (by simpa using hj)]
theorem g_append {L G : List Evt} {a : Nat} (ha : a < L.length) : g (L ++ G) a = g L a := by unfold g; rw [List.getD_eq_getElem?_getD, List.getD_eq_getElem?_getD, List.getElem?_append_left ha]

theorem iop_w {A : Ar} (hA : A = arS) (x y : Int) : A.iop .add .i64 x y = IntKind.i64.wrap (x + y) ∧ A.iop .sub .i64 x y = IntKind.i64.wrap (x - y) ∧ A.iop .mul .i64 x y = IntKind.i64.wrap (x * y) ∧ A.iop .quo .i64 x y = IntKind.i64.wrap (x.tdiv y) := by
  subst hA; exact ⟨rfl, rfl, rfl, rfl⟩

theorem par {A : Ar} (hA : A = arS) {j : Int} (h0 : 0 ≤ j) (h1 : j ≤ 1000000) : A.iop .quo .i64 (A.iop .sub .i64 j 1) 2 = (((j.toNat - 1) / 2 : Nat) : Int) := by
  have e1 : A.iop .sub .i64 j 1 = j - 1 := by rw [(iop_w hA _ _).2.1, wrap_i64 (by omega) (by omega)]
  rw [e1, (iop_w hA _ _).2.2.2]
  rcases Int.lt_or_le j 1 with h | h
  · obtain rfl : j = 0 := by omega
    rfl
  · rw [Int.tdiv_eq_ediv_of_nonneg (by omega), wrap_i64 (by omega) (by omega)]
    omega

theorem up_E (L0 : List Evt) (G : List Evt) (rows0 : List (List AV)) (n : Nat) (o j0 : Int) (hn0 : n = L0.length) (hn : n ≤ 1000000) (hR0 : rows0 = (L0 ++ G).map enc) (h00 : 0 ≤ j0) (h01 : j0 < n) (hU0 : UpI L0 n j0.toNat) :
    EC Try.prog G57 [rows0] [.i j0, .n n, .i o] fun x rs vs => x = 0 ∧ ∃ L' R, L'.Perm L0 ∧ HeapN L' n ∧ R = (L' ++ G).map enc ∧ rs = [R] ∧ vs = [.n n, .i o] := by
  obtain ⟨A, hA⟩ : ∃ A, A = arS := ⟨_, rfl⟩
  refine Inst.enter (I := I57) hA mixed F57_at sg L57 80 rfl fun CE CK Dn EV RR W hp => ?_
  have loop : ∀ (d : Nat) (L : List Evt) (rows : List (List AV)) (j : Int), j.toNat < d → L.Perm L0 → rows = (L ++ G).map enc → 0 ≤ j → j < n → UpI L n j.toNat → EV 2 [rows] [.i j, .n n, .i o] := by
    intro d
    induction d with
    | zero => intro L rows j hd; omega
    | succ d ih =>
      intro L rows j hd hL hR h0 h1 hU
      have hl := hL.length_eq
      obtain ⟨p, hp0⟩ : ∃ p : Int, p = (((j.toNat - 1) / 2 : Nat) : Int) := ⟨_, rfl⟩
      have hpar := (par hA h0 (by omega : j ≤ 1000000)).trans hp0.symm
      have hln : n ≤ (L ++ G).length := by rw [List.length_append]; omega
      have hpn : p.toNat = (j.toNat - 1) / 2 := by omega
      have hp1 : 0 ≤ p := by omega
      have hp2 : p ≤ j := by omega
      have hp3 : 0 < j → p < j := by omega
      clear hp0
      unfold Ar.iop at hpar
      refine W.step 80 fun hp => ?_
      cbv
      repeat' first | apply And.intro | (apply imC hA; intro) | (apply imN hA; intro) | (apply imI hA; intro) | (apply ndI hA; simp only [Cnd.holds])
      all_goals try simp only [nc, nc2, cmpR, Bool.not_true, Bool.not_false] at *
      all_goals try first | rfl | assumption | exact hp.1 | exact hp.2.1 | exact hp.2.2.1 | exact hp.2.2.2.1
      all_goals try (exfalso; first | omega | contradiction)
      all_goals simp only [hpar] at *
      · decide
      · have hj0 : 0 < j.toNat := by omega
        refine W.call 80 (by rfl) (Less_E (L ++ G) rows hR n j p hln h0 h1 (by omega) (by omega)) (by first | rfl | (subst hA; simp [arS])) (by first | rfl | (subst hA; simp [arS])) ?_
        rintro _ _ _ hp ⟨rfl, rfl, b, hb, rfl⟩
        rw [g_append (by omega), g_append (by omega), hpn] at hb
        cbv
        repeat' first | apply And.intro | (apply imC hA; intro) | (apply imN hA; intro) | (apply imI hA; intro) | (apply ndI hA; simp only [Cnd.holds])
        all_goals try simp only [nc, nc2, cmpR, Bool.not_true, Bool.not_false] at *
        all_goals try first | rfl | assumption | exact hp.1 | exact hp.2.1 | exact hp.2.2.1 | exact hp.2.2.2.1
        all_goals try (exfalso; first | omega | contradiction)
        · rename_i hbf
          subst hbf
          rw [W.rr]
          exact ⟨rfl, L, rows, hL, up_done hU fun _ => lt_false hb.symm, hR, rfl, rfl⟩
        · rename_i hbf
          subst hbf
          refine W.call 80 (by rfl) (Swap_E (L ++ G) rows hR n p j hln (by omega) (by omega) h0 h1) (by first | rfl | (subst hA; simp [arS])) (by first | rfl | (subst hA; simp [arS])) ?_
          rintro _ _ _ hp ⟨rfl, rfl, R, hlR, hR', rfl⟩
          rw [swp_append (by omega) (by omega), hpn] at hR'
          cbv
          repeat' first | apply And.intro | (apply imC hA; intro) | (apply imN hA; intro) | (apply imI hA; intro) | (apply ndI hA; simp only [Cnd.holds])
          all_goals try simp only [nc, nc2, cmpR, Bool.not_true, Bool.not_false] at *
          all_goals try first | rfl | assumption | exact hp.1 | exact hp.2.1 | exact hp.2.2.1 | exact hp.2.2.2.1
          all_goals try (exfalso; first | omega | contradiction)
          all_goals try exact (by subst hA; exact hlR.symm)
          refine ih _ _ _ (by omega) ((swp_perm (by omega) (by omega)).trans hL) hR' (by omega) (by omega) ?_
          rw [hpn]
          exact up_step (by omega) (by omega) hj0 hU hb.symm
      · rw [W.rr]
        refine ⟨rfl, L, rows, hL, up_done hU fun hj => ?_, hR, rfl, rfl⟩
        exfalso; omega
  cbv
  repeat' first | apply And.intro | (apply imC hA; intro) | (apply imN hA; intro) | (apply imI hA; intro) | (apply ndI hA; simp only [Cnd.holds])
  all_goals try simp only [nc, nc2, cmpR, Bool.not_true, Bool.not_false] at *
  all_goals try first | rfl | assumption | exact hp.1 | exact hp.2.1 | exact hp.2.2.1 | exact hp.2.2.2.1
  all_goals try (exfalso; first | omega | contradiction)
  exact loop _ L0 rows0 j0 (Nat.lt_succ_self _) (List.Perm.refl _) hR0 h00 h01 hU0

theorem dn1 {A : Ar} (hA : A = arS) {i : Int} (h0 : 0 ≤ i) (h1 : i ≤ 1000000) : A.iop .add .i64 (A.iop .mul .i64 2 i) 1 = 2 * i + 1 := by
  have e1 : A.iop .mul .i64 2 i = 2 * i := by rw [(iop_w hA _ _).2.2.1, wrap_i64 (by omega) (by omega)]
  rw [e1, (iop_w hA _ _).1, wrap_i64 (by omega) (by omega)]
theorem add1 {A : Ar} (hA : A = arS) {i : Int} (h0 : -10 ≤ i) (h1 : i ≤ 1000000000) : A.iop .add .i64 i 1 = i + 1 := by
  rw [(iop_w hA _ _).1, wrap_i64 (by omega) (by omega)]
theorem sub1 {A : Ar} (hA : A = arS) {i : Int} (h0 : -10 ≤ i) (h1 : i ≤ 1000000000) : A.iop .sub .i64 i 1 = i - 1 := by
  rw [(iop_w hA _ _).2.1, wrap_i64 (by omega) (by omega)]

theorem down_E (L0 : List Evt) (G : List Evt) (rows0 : List (List AV)) (n : Nat) (o i0 m : Int) (hn0 : n = L0.length) (hn : n ≤ 100000) (hR0 : rows0 = (L0 ++ G).map enc) (h00 : 0 ≤ i0) (h01 : i0 ≤ n) (hm0 : 0 ≤ m) (hm1 : m ≤ n) (hU0 : DnI L0 m.toNat i0.toNat) :
    EC Try.prog G58 [rows0] [.i i0, .i m, .n n, .i o] fun x rs vs => x = 0 ∧ ∃ L' R b, L'.Perm L0 ∧ (∀ a, m.toNat ≤ a → g L' a = g L0 a) ∧ HeapN L' m.toNat ∧ R = (L' ++ G).map enc ∧ rs = [R] ∧ vs = [.b b, .n n, .i o] := by
  obtain ⟨A, hA⟩ : ∃ A, A = arS := ⟨_, rfl⟩
  refine Inst.enter (I := I58) hA mixed F58_at sg L58 80 rfl fun CE CK Dn EV RR W hp => ?_
  have loop : ∀ (d : Nat) (L : List Evt) (rows : List (List AV)) (i : Int), (m - i).toNat < d → L.Perm L0 → (∀ a, m.toNat ≤ a → g L a = g L0 a) → rows = (L ++ G).map enc → 0 ≤ i → i ≤ n → DnI L m.toNat i.toNat → EV 7 [rows] [.i i0, .i m, .i i, .n n, .i o] := by
    intro d
    induction d with
    | zero => intro L rows i hd; omega
    | succ d ih =>
      intro L rows i hd hL hK hR h0 h1 hU
      have hl := hL.length_eq
      have hln : n ≤ (L ++ G).length := by simp; omega
      obtain ⟨j1, hj1⟩ : ∃ j1, j1 = 2 * i + 1 := ⟨_, rfl⟩
      obtain ⟨j2, hj2⟩ : ∃ j2, j2 = j1 + 1 := ⟨_, rfl⟩
      have e1 := (dn1 hA h0 (by omega : i ≤ 1000000)).trans hj1.symm
      have e2 := (add1 hA (i := j1) (by omega) (by omega)).trans hj2.symm
      unfold Ar.iop at e1 e2
      have mid : ∀ j : Int, 0 < j → j < m → (j.toNat - 1) / 2 = i.toNat → (∀ a, 0 < a → a < m.toNat → (a - 1) / 2 = i.toNat → le (g L j.toNat) (g L a)) → EV 26 [rows] [.i i0, .i m, .i i, .i j, .n n, .i o] := by
        intro j hj0 hj1 hjp hjm
        refine W.step 80 fun hp => ?_
        cbv
        repeat' first | apply And.intro | (apply imC hA; intro) | (apply imN hA; intro) | (apply imI hA; intro) | (apply ndI hA; simp only [Cnd.holds])
        all_goals try simp only [nc, nc2, cmpR, Bool.not_true, Bool.not_false] at *
        all_goals try first | rfl | assumption | exact hp.1 | exact hp.2.1 | exact hp.2.2.1 | exact hp.2.2.2.1
        all_goals try (exfalso; first | omega | contradiction | simp_all; done)
        refine W.call 80 (by rfl) (Less_E (L ++ G) rows hR n j i hln (by omega) (by omega) h0 (by omega)) (by first | rfl | (subst hA; simp [arS])) (by first | rfl | (subst hA; simp [arS])) ?_
        rintro _ _ _ hp ⟨rfl, rfl, b, hb, rfl⟩
        rw [g_append (by omega), g_append (by omega)] at hb
        cbv
        repeat' first | apply And.intro | (apply imC hA; intro) | (apply imN hA; intro) | (apply imI hA; intro) | (apply ndI hA; simp only [Cnd.holds])
        all_goals try simp only [nc, nc2, cmpR, Bool.not_true, Bool.not_false] at *
        all_goals try first | rfl | assumption | exact hp.1 | exact hp.2.1 | exact hp.2.2.1 | exact hp.2.2.2.1
        all_goals try (exfalso; first | omega | contradiction | simp_all; done)
        · rename_i hbf
          subst hbf
          rw [W.rr]
          refine ⟨rfl, L, rows, _, hL, hK, dn_done hU fun a a0 a1 ap => ?_, hR, rfl, rfl⟩
          exact le_trans (lt_false hb.symm) (hjm a a0 a1 ap)
        · rename_i hbf
          subst hbf
          refine W.call 80 (by rfl) (Swap_E (L ++ G) rows hR n i j hln h0 (by omega) (by omega) (by omega)) (by first | rfl | (subst hA; simp [arS])) (by first | rfl | (subst hA; simp [arS])) ?_
          rintro _ _ _ hp ⟨rfl, rfl, R, hlR, hR', rfl⟩
          rw [swp_append (by omega) (by omega)] at hR'
          cbv
          repeat' first | apply And.intro | (apply imC hA; intro) | (apply imN hA; intro) | (apply imI hA; intro) | (apply ndI hA; simp only [Cnd.holds])
          all_goals try simp only [nc, nc2, cmpR, Bool.not_true, Bool.not_false] at *
          all_goals try first | rfl | assumption | exact hp.1 | exact hp.2.1 | exact hp.2.2.1 | exact hp.2.2.2.1
          all_goals try (exfalso; first | omega | contradiction | simp_all; done)
          all_goals try exact (by subst hA; exact hlR.symm)
          refine ih _ _ _ (by omega) ((swp_perm (by omega) (by omega)).trans hL) (fun a ha => ?_) hR' (by omega) (by omega) (dn_step (by omega) (by omega) (by omega) hjp hU hb.symm hjm)
          rw [g_swp (by omega) (by omega), if_neg (by omega), if_neg (by omega)]
          exact hK a ha
      refine W.step 80 fun hp => ?_
      cbv
      repeat' first | apply And.intro | (apply imC hA; intro) | (apply imN hA; intro) | (apply imI hA; intro) | (apply ndI hA; simp only [Cnd.holds])
      all_goals try simp only [nc, nc2, cmpR, Bool.not_true, Bool.not_false] at *
      all_goals try first | rfl | assumption | exact hp.1 | exact hp.2.1 | exact hp.2.2.1 | exact hp.2.2.2.1
      all_goals try (exfalso; first | omega | contradiction | simp_all; done)
      all_goals simp only [e1, e2] at *
      all_goals try (exfalso; omega)
      · refine W.call 80 (by rfl) (Less_E (L ++ G) rows hR n j2 j1 hln (by omega) (by omega) (by omega) (by omega)) (by first | rfl | (subst hA; simp [arS])) (by first | rfl | (subst hA; simp [arS])) ?_
        rintro _ _ _ hp ⟨rfl, rfl, b, hb, rfl⟩
        rw [g_append (by omega), g_append (by omega)] at hb
        cbv
        repeat' first | apply And.intro | (apply imC hA; intro) | (apply imN hA; intro) | (apply imI hA; intro) | (apply ndI hA; simp only [Cnd.holds])
        all_goals try simp only [nc, nc2, cmpR, Bool.not_true, Bool.not_false] at *
        all_goals try first | rfl | assumption | exact hp.1 | exact hp.2.1 | exact hp.2.2.1 | exact hp.2.2.2.1
        all_goals try (exfalso; first | omega | contradiction | simp_all; done)
        · rename_i hbf
          subst hbf
          refine mid j2 (by omega) (by omega) (by omega) fun a a0 a1 ap => ?_
          have : a = j1.toNat ∨ a = j2.toNat := by omega
          rcases this with rfl | rfl
          · exact lt_true hb.symm
          · exact le_refl _
        · rename_i hbf
          subst hbf
          refine mid j1 (by omega) (by omega) (by omega) fun a a0 a1 ap => ?_
          have : a = j1.toNat ∨ a = j2.toNat := by omega
          rcases this with rfl | rfl
          · exact le_refl _
          · exact lt_false hb.symm
      · refine mid j1 (by omega) (by omega) (by omega) fun a a0 a1 ap => ?_
        have : a = j1.toNat := by omega
        rw [this]; exact le_refl _
      · rw [W.rr]
        refine ⟨rfl, L, rows, _, hL, hK, dn_done hU fun a a0 a1 ap => ?_, hR, rfl, rfl⟩
        exfalso; omega
  cbv
  repeat' first | apply And.intro | (apply imC hA; intro) | (apply imN hA; intro) | (apply imI hA; intro) | (apply ndI hA; simp only [Cnd.holds])
  all_goals try simp only [nc, nc2, cmpR, Bool.not_true, Bool.not_false] at *
  all_goals try first | rfl | assumption | exact hp.1 | exact hp.2.1 | exact hp.2.2.1 | exact hp.2.2.2.1
  all_goals try (exfalso; first | omega | contradiction | simp_all; done)
  exact loop _ L0 rows0 i0 (Nat.lt_succ_self _) (List.Perm.refl _) (fun _ _ => rfl) hR0 h00 h01 hU0

theorem LenS_E (rows : List (List AV)) (n : Nat) : EC Try.prog G87 [rows] [.n n] fun x rs vs => x = 0 ∧ rs = [rows] ∧ ∃ k : Int, k = n ∧ vs = [.i k] := by
  obtain ⟨A, hA⟩ : ∃ A, A = arS := ⟨_, rfl⟩
  refine Inst.enter (I := I87) hA mixed F87_at sg L87 80 rfl fun CE CK Dn EV RR W hp => ?_
  cbv
  repeat' first | apply And.intro | (apply imC hA; intro) | (apply imN hA; intro) | (apply imI hA; intro) | (apply ndI hA; simp only [Cnd.holds])
  all_goals try simp only [nc, nc2, cmpR, Bool.not_true, Bool.not_false] at *
  all_goals try first | rfl | assumption | exact hp.1 | exact hp.2.1 | exact hp.2.2.1 | exact hp.2.2.2.1
  all_goals try (exfalso; first | omega | contradiction | simp_all; done)
  rw [W.rr]; exact ⟨rfl, rfl, _, by subst hA; rfl, rfl⟩

theorem PopS_E (L : List Evt) (e : Evt) (G : List Evt) (rows : List (List AV)) (n : Nat) (o : Int) (hn : n = L.length + 1) (hn2 : n ≤ 100000) (hR : rows = ((L ++ [e]) ++ G).map enc) : EC Try.prog G90 [rows] [.n n, .i o] fun x rs vs => x = 0 ∧ rs = [rows] ∧ ∃ (m : Nat) (t k a b c q : Int), m = L.length ∧ t = e.t ∧ k = e.k ∧ a = e.a ∧ b = e.b ∧ c = e.c ∧ q = e.o ∧ vs = [.i t, .i k, .i a, .i b, .i c, .i q, .n m, .i o] := by
  obtain ⟨A, hA⟩ : ∃ A, A = arS := ⟨_, rfl⟩
  refine Inst.enter (I := I90) hA mixed F90_at sg L90 80 rfl fun CE CK Dn EV RR W hp => ?_
  obtain ⟨m1, hm1⟩ : ∃ m1 : Int, m1 = L.length := ⟨_, rfl⟩
  have e1 : A.iop .sub .i64 (A.ofN n) 1 = m1 := by
    have h0 : A.ofN n = (n : Int) := by subst hA; rfl
    rw [h0, sub1 hA (by omega) (by omega)]; omega
  have e2 : A.ofN n = (m1 + 1) := by
    have h0 : A.ofN n = (n : Int) := by subst hA; rfl
    rw [h0]; omega
  unfold Ar.iop Ar.ofN at e1
  unfold Ar.ofN at e2
  cbv
  repeat' first | apply And.intro | (apply imC hA; intro) | (apply imN hA; intro) | (apply imI hA; intro) | (apply ndI hA; simp only [Cnd.holds])
  all_goals try simp only [nc, nc2, cmpR, Bool.not_true, Bool.not_false] at *
  all_goals try first | rfl | assumption | exact hp.1 | exact hp.2.1 | exact hp.2.2.1 | exact hp.2.2.2.1
  all_goals try (exfalso; first | omega | contradiction | simp_all; done)
  all_goals simp only [e1] at *
  all_goals try first | exact rgE hA hR (by subst hA; simp [arS]; omega) | (subst hA; simp only [arS]; omega) | omega
  rw [W.rr]
  have hg : g (L ++ [e] ++ G) L.length = e := by
    rw [g_append (by simp), g_get (by simp)]; simp
  obtain ⟨c0, c1, c2, c3, c4, c5⟩ := enc_cI (L ++ [e] ++ G) L.length (by simp)
  rw [hg] at c0 c1 c2 c3 c4 c5
  have hi : A.add 0 (A.tn m1) = L.length := by subst hA hm1; simp [arS]
  refine ⟨rfl, rfl, A.tn m1, _, _, _, _, _, _, by subst hA hm1; rfl, ?_, ?_, ?_, ?_, ?_, ?_, rfl⟩ <;> (refine (congrArg (fun i => A.cI rows i _) hi).trans ?_; subst hA hR; assumption)

theorem PushS_E (L : List Evt) (e : Evt) (G : List Evt) (rows : List (List AV)) (n : Nat) (o t k a b c q : Int) (hn : n = L.length) (hn2 : n ≤ 100000) (hR : rows = (L ++ G).map enc) (ht : t = e.t) (hk : k = e.k) (ha : a = e.a) (hb : b = e.b) (hc : c = e.c) (hq : q = e.o) : EC Try.prog G91 [rows] [.i t, .i k, .i a, .i b, .i c, .i q, .n n, .i o] fun x rs vs => x = 0 ∧ ∃ (m : Nat) (G' : List Evt) (R : List (List AV)), m = n + 1 ∧ R = (L ++ [e] ++ G').map enc ∧ rs = [R] ∧ vs = [.n m, .i o] := by
  obtain ⟨A, hA⟩ : ∃ A, A = arS := ⟨_, rfl⟩
  refine Inst.enter (I := I91) hA mixed F91_at sg L91 80 rfl fun CE CK Dn EV RR W hp => ?_
  have s1 : A.rapp rows n [[.int .i64 t, .int .i64 k, .int .i64 a, .int .i64 b, .int .i64 c, .int .i64 q]] = (L ++ [e] ++ G.drop 1).map enc := by
    subst hA hR hn ht hk ha hb hc hq
    simp only [arS, rappS, List.map_append, List.map_cons, List.map_nil, enc, List.length_cons, List.length_nil]
    rw [List.take_left' (by simp), show L.length + (0 + 1) = (L.map enc).length + 1 by simp, List.drop_append]
    simp [List.map_drop]
  have hrl : A.rlen rows = n + G.length := by subst hA hR hn; simp [arS]
  cbv
  repeat' first | apply And.intro | (apply imC hA; intro) | (apply imN hA; intro) | (apply imI hA; intro) | (apply ndI hA; simp only [Cnd.holds])
  all_goals try simp only [nc, nc2, cmpR, Bool.not_true, Bool.not_false] at *
  all_goals try first | rfl | assumption | exact hp.1 | exact hp.2.1 | exact hp.2.2.1 | exact hp.2.2.2.1
  all_goals try (exfalso; first | omega | contradiction | simp_all; done)
  all_goals try first | (subst hA hR hn; simp [arS]; done) | (subst hA; simp [arS]; omega) | (subst hA; simp only [arS]; omega) | exact (congrArg pursS s1).trans (enc_pure _)
  all_goals (rw [W.rr]; exact ⟨rfl, _, G.drop 1, _, by subst hA; simp [arS], s1, rfl, rfl⟩)
end Go.Ab
