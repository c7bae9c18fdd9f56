/- The agenda: put, take, how many, the next; for every agenda of at most a thousand events. -/
import Derived.Test.YtkcnlpelbcpmgaaAgH
namespace Go.Ab
open Go Go.Proofs HeapM
set_option linter.unusedVariables false
set_option linter.unusedSimpArgs false
set_option maxRecDepth 100000

theorem HPush_E (L : List Evt) (e : Evt) (G : List Evt) (rows : List (List AV)) (n : Nat) (o t k a b c q : Int) (hn : n = L.length) (hn2 : n ≤ 50000) (hH : HeapN L n) (hR : rows = (L ++ G).map enc) (ht : t = e.t) (hk : k = e.k) (ha : a = e.a) (hb : b = e.b) (hc : c = e.c) (hq : q = e.o) : EC Try.prog G37 [rows] [.i t, .i k, .i a, .i b, .i c, .i q, .n n, .i o] fun x rs vs => x = 0 ∧ ∃ (m : Nat) (L' G' : List Evt) (R : List (List AV)), m = n + 1 ∧ L'.Perm (L ++ [e]) ∧ HeapN L' m ∧ R = (L' ++ G').map enc ∧ rs = [R] ∧ vs = [.n m, .i o] := by
  obtain ⟨A, hA⟩ : ∃ A, A = arS := ⟨_, rfl⟩
  refine Inst.enter (I := I37) hA mixed F37_at sg L37 80 rfl fun CE CK Dn EV RR W hp => ?_
  cbv
  repeat' first | apply And.intro | (apply imC hA; intro) | (apply imN hA; intro) | (apply imI hA; intro) | (apply ndI hA; simp only [Cnd.holds])
  all_goals try simp only [nc, nc2, cmpR, Bool.not_true, Bool.not_false] at *
  all_goals try first | rfl | assumption | exact hp.1 | exact hp.2.1 | exact hp.2.2.1 | exact hp.2.2.2.1
  all_goals try (exfalso; first | omega | contradiction | simp_all; done)
  refine W.call 80 (by rfl) (PushS_E L e G rows n o t k a b c q hn (by omega) hR ht hk ha hb hc hq) (by first | rfl | (subst hA; simp [arS])) (by first | rfl | (subst hA; simp [arS])) ?_
  rintro _ _ _ hp ⟨rfl, m, G', R, hm, hR', rfl, rfl⟩
  cbv
  repeat' first | apply And.intro | (apply imC hA; intro) | (apply imN hA; intro) | (apply imI hA; intro) | (apply ndI hA; simp only [Cnd.holds])
  all_goals try simp only [nc, nc2, cmpR, Bool.not_true, Bool.not_false] at *
  all_goals try first | rfl | assumption | exact hp.1 | exact hp.2.1 | exact hp.2.2.1 | exact hp.2.2.2.1
  all_goals try (exfalso; first | omega | contradiction | simp_all; done)
  refine W.call 80 (by rfl) (LenS_E R m) (by first | rfl | (subst hA; simp [arS])) (by first | rfl | (subst hA; simp [arS])) ?_
  rintro _ _ _ hp ⟨rfl, rfl, k1, hk1, rfl⟩
  obtain ⟨p, hp0⟩ : ∃ p : Int, p = n := ⟨_, rfl⟩
  have e1 : A.iop .sub .i64 k1 1 = p := (sub1 hA (by omega) (by omega)).trans (by omega)
  unfold Ar.iop at e1
  cbv
  repeat' first | apply And.intro | (apply imC hA; intro) | (apply imN hA; intro) | (apply imI hA; intro) | (apply ndI hA; simp only [Cnd.holds])
  all_goals try simp only [nc, nc2, cmpR, Bool.not_true, Bool.not_false] at *
  all_goals try first | rfl | assumption | exact hp.1 | exact hp.2.1 | exact hp.2.2.1 | exact hp.2.2.2.1
  all_goals try (exfalso; first | omega | contradiction | simp_all; done)
  all_goals simp only [e1] at *
  refine W.call 80 (by rfl) (up_E (L ++ [e]) G' R m o p (by simp; omega) (by omega) hR' (by omega) (by omega) (by rw [show m = n + 1 from hm, show p.toNat = n by omega]; exact up_start hH e (by omega) (L ++ [e]) fun a ha => g_append (by omega))) (by first | rfl | (subst hA; simp [arS])) (by first | rfl | (subst hA; simp [arS])) ?_
  rintro _ _ _ hp ⟨rfl, L', R', h1, h2, h3, rfl, rfl⟩
  cbv
  repeat' first | apply And.intro | (apply imC hA; intro) | (apply imN hA; intro) | (apply imI hA; intro) | (apply ndI hA; simp only [Cnd.holds])
  all_goals try simp only [nc, nc2, cmpR, Bool.not_true, Bool.not_false] at *
  all_goals try first | rfl | assumption | exact hp.1 | exact hp.2.1 | exact hp.2.2.1 | exact hp.2.2.2.1
  all_goals try (exfalso; first | omega | contradiction | simp_all; done)
  all_goals (rw [W.rr]; exact ⟨rfl, m, L', G', R', hm, h1, h2, h3, rfl, rfl⟩)

theorem Put_E (L : List Evt) (e : Evt) (G : List Evt) (rows : List (List AV)) (n : Nat) (o t k a b c : Int) (hn : n = L.length) (hn2 : n ≤ 50000) (ho0 : 0 ≤ o) (ho1 : o ≤ 50000) (hH : HeapN L n) (hR : rows = (L ++ G).map enc) (ht : t = e.t) (hk : k = e.k) (ha : a = e.a) (hb : b = e.b) (hc : c = e.c) (hq : o = e.o) : EC Try.prog G20 [rows] [.i t, .i k, .i a, .i b, .i c, .n n, .i o] fun x rs vs => x = 0 ∧ ∃ (m : Nat) (L' G' : List Evt) (R : List (List AV)) (o' : Int), m = n + 1 ∧ L'.Perm (L ++ [e]) ∧ HeapN L' m ∧ R = (L' ++ G').map enc ∧ o' = o + 1 ∧ rs = [R] ∧ vs = [.n m, .i o'] := by
  obtain ⟨A, hA⟩ : ∃ A, A = arS := ⟨_, rfl⟩
  refine Inst.enter (I := I20) hA mixed F20_at sg L20 80 rfl fun CE CK Dn EV RR W hp => ?_
  cbv
  repeat' first | apply And.intro | (apply imC hA; intro) | (apply imN hA; intro) | (apply imI hA; intro) | (apply ndI hA; simp only [Cnd.holds])
  all_goals try simp only [nc, nc2, cmpR, Bool.not_true, Bool.not_false] at *
  all_goals try first | rfl | assumption | exact hp.1 | exact hp.2.1 | exact hp.2.2.1 | exact hp.2.2.2.1
  all_goals try (exfalso; first | omega | contradiction | simp_all; done)
  all_goals
    obtain ⟨p, hp0⟩ : ∃ p : Int, p = o + 1 := ⟨_, rfl⟩
    have e1 : A.iop .add .i64 o 1 = p := (add1 hA (by omega) (by omega)).trans (by omega)
    unfold Ar.iop at e1
    refine W.callD (by rfl) (HPush_E L e G rows n o t k a b c o hn hn2 hH hR ht hk ha hb hc hq) (by first | rfl | (subst hA; simp [arS])) (by first | rfl | (subst hA; simp [arS])) ?_
    rintro _ _ _ hp ⟨rfl, m, L', G', R, hm, h1, h2, h3, rfl, rfl⟩
    cbv
    repeat' first | apply And.intro | (apply imC hA; intro) | (apply imN hA; intro) | (apply imI hA; intro) | (apply ndI hA; simp only [Cnd.holds])
    all_goals try simp only [nc, nc2, cmpR, Bool.not_true, Bool.not_false] at *
    all_goals try first | rfl | assumption | exact hp.1 | exact hp.2.1 | exact hp.2.2.1 | exact hp.2.2.2.1
    all_goals try (exfalso; first | omega | contradiction)
    refine W.draw 80 (by rfl) ?_
    cbv
    repeat' first | apply And.intro | (apply imC hA; intro) | (apply imN hA; intro) | (apply imI hA; intro) | (apply ndI hA; simp only [Cnd.holds])
    all_goals try simp only [nc, nc2, cmpR, Bool.not_true, Bool.not_false] at *
    all_goals try first | rfl | assumption | exact hp.1 | exact hp.2.1 | exact hp.2.2.1 | exact hp.2.2.2.1
    all_goals try (exfalso; first | omega | contradiction)
    all_goals simp only [e1] at *
    all_goals (rw [W.rr]; exact ⟨rfl, m, L', G', R, p, hm, h1, h2, h3, hp0, rfl, rfl⟩)

theorem Len_E (rows : List (List AV)) (n : Nat) (o : Int) : EC Try.prog G24 [rows] [.n n, .i o] fun x rs vs => x = 0 ∧ rs = [rows] ∧ ∃ k : Int, k = n ∧ vs = [.i k, .n n, .i o] := by
  obtain ⟨A, hA⟩ : ∃ A, A = arS := ⟨_, rfl⟩
  refine Inst.enter (I := I24) hA mixed F24_at sg L24 80 rfl fun CE CK Dn EV RR W hp => ?_
  cbv
  repeat' first | apply And.intro | (apply imC hA; intro) | (apply imN hA; intro) | (apply imI hA; intro) | (apply ndI hA; simp only [Cnd.holds])
  all_goals try simp only [nc, nc2, cmpR, Bool.not_true, Bool.not_false] at *
  all_goals try first | rfl | assumption | exact hp.1 | exact hp.2.1 | exact hp.2.2.1 | exact hp.2.2.2.1
  all_goals try (exfalso; first | omega | contradiction | simp_all; done)
  rw [W.rr]; exact ⟨rfl, rfl, _, by subst hA; rfl, rfl⟩

theorem Next_E (L G : List Evt) (rows : List (List AV)) (n : Nat) (o : Int) (hn : n = L.length) (hR : rows = (L ++ G).map enc) : EC Try.prog G22 [rows] [.n n, .i o] fun x rs vs => x = 0 ∧ rs = [rows] ∧ ∃ (t : Int) (b : Bool), (n = 0 → b = false) ∧ (0 < n → b = true ∧ t = (g L 0).t) ∧ vs = [.i t, .b b, .n n, .i o] := by
  obtain ⟨A, hA⟩ : ∃ A, A = arS := ⟨_, rfl⟩
  refine Inst.enter (I := I22) hA mixed F22_at sg L22 80 rfl fun CE CK Dn EV RR W hp => ?_
  cbv
  repeat' first | apply And.intro | (apply imC hA; intro) | (apply imN hA; intro) | (apply imI hA; intro) | (apply ndI hA; simp only [Cnd.holds])
  all_goals try simp only [nc, nc2, cmpR, Bool.not_true, Bool.not_false] at *
  all_goals try first | rfl | assumption | exact hp.1 | exact hp.2.1 | exact hp.2.2.1 | exact hp.2.2.2.1
  all_goals try (exfalso; first | omega | contradiction | simp_all; done)
  refine W.call 80 (by rfl) (Len_E rows n o) (by first | rfl | (subst hA; simp [arS])) (by first | rfl | (subst hA; simp [arS])) ?_
  rintro _ _ _ hp ⟨rfl, rfl, k, hk, rfl⟩
  cbv
  repeat' first | apply And.intro | (apply imC hA; intro) | (apply imN hA; intro) | (apply imI hA; intro) | (apply ndI hA; simp only [Cnd.holds])
  all_goals try simp only [nc, nc2, cmpR, Bool.not_true, Bool.not_false] at *
  all_goals try first | rfl | assumption | exact hp.1 | exact hp.2.1 | exact hp.2.2.1 | exact hp.2.2.2.1
  all_goals try (exfalso; first | omega | contradiction | simp_all; done)
  · rename_i hk0
    rw [W.rr]; exact ⟨rfl, rfl, _, _, fun _ => rfl, fun h => absurd h (by omega), rfl⟩
  all_goals try first | exact rgE hA hR (by subst hA; simp [arS]; omega) | (subst hA; simp only [arS]; omega) | omega
  rename_i hk0
  rw [W.rr]
  refine ⟨rfl, rfl, _, _, fun h => absurd h (by omega), fun _ => ⟨rfl, ?_⟩, rfl⟩
  subst hA hR
  rw [← g_append (L := L) (G := G) (by omega)]
  exact (enc_cI (L ++ G) 0 (by simp; omega)).1

theorem g_swp0 {L : List Evt} {n : Nat} (h : n < L.length) : g (swp L 0 n) n = g L 0 := by rw [g_swp (by omega) h, if_pos rfl]

theorem HPop_E (L G : List Evt) (rows : List (List AV)) (n : Nat) (o : Int) (hn : n = L.length) (hn0 : 0 < n) (hn2 : n ≤ 50000) (hH : HeapN L n) (hR : rows = (L ++ G).map enc) : EC Try.prog G38 [rows] [.n n, .i o] fun x rs vs => x = 0 ∧ ∃ (m : Nat) (L' G' : List Evt) (R : List (List AV)) (t k a b c q : Int), m = L'.length ∧ (L' ++ [g L 0]).Perm L ∧ HeapN L' m ∧ R = (L' ++ G').map enc ∧ t = (g L 0).t ∧ k = (g L 0).k ∧ a = (g L 0).a ∧ b = (g L 0).b ∧ c = (g L 0).c ∧ q = (g L 0).o ∧ rs = [R] ∧ vs = [.i t, .i k, .i a, .i b, .i c, .i q, .n m, .i o] := by
  obtain ⟨A, hA⟩ : ∃ A, A = arS := ⟨_, rfl⟩
  refine Inst.enter (I := I38) hA mixed F38_at sg L38 80 rfl fun CE CK Dn EV RR W hp => ?_
  cbv
  repeat' first | apply And.intro | (apply imC hA; intro) | (apply imN hA; intro) | (apply imI hA; intro) | (apply ndI hA; simp only [Cnd.holds])
  all_goals try simp only [nc, nc2, cmpR, Bool.not_true, Bool.not_false] at *
  all_goals try first | rfl | assumption | exact hp.1 | exact hp.2.1 | exact hp.2.2.1 | exact hp.2.2.2.1
  all_goals try (exfalso; first | omega | contradiction | simp_all; done)
  refine W.call 80 (by rfl) (LenS_E rows n) (by first | rfl | (subst hA; simp [arS])) (by first | rfl | (subst hA; simp [arS])) ?_
  rintro _ _ _ hp ⟨rfl, rfl, k1, hk1, rfl⟩
  obtain ⟨p, hp0⟩ : ∃ p : Int, p = n - 1 := ⟨_, rfl⟩
  have e1 : A.iop .sub .i64 k1 1 = p := (sub1 hA (by omega) (by omega)).trans (by omega)
  unfold Ar.iop at e1
  cbv
  repeat' first | apply And.intro | (apply imC hA; intro) | (apply imN hA; intro) | (apply imI hA; intro) | (apply ndI hA; simp only [Cnd.holds])
  all_goals try simp only [nc, nc2, cmpR, Bool.not_true, Bool.not_false] at *
  all_goals try first | rfl | assumption | exact hp.1 | exact hp.2.1 | exact hp.2.2.1 | exact hp.2.2.2.1
  all_goals try (exfalso; first | omega | contradiction | simp_all; done)
  all_goals simp only [e1] at *
  have hl : (L ++ G).length = L.length + G.length := List.length_append
  refine W.call 80 (by rfl) (Swap_E (L ++ G) rows hR n 0 p (by omega) (by omega) (by omega) (by omega) (by omega)) (by first | rfl | (subst hA; simp [arS])) (by first | rfl | (subst hA; simp [arS])) ?_
  rintro _ _ _ hp ⟨rfl, rfl, R1, hl1, hR1, rfl⟩
  rw [show (0 : Int).toNat = 0 from rfl, swp_append (by omega) (by omega)] at hR1
  cbv
  repeat' first | apply And.intro | (apply imC hA; intro) | (apply imN hA; intro) | (apply imI hA; intro) | (apply ndI hA; simp only [Cnd.holds])
  all_goals try simp only [nc, nc2, cmpR, Bool.not_true, Bool.not_false] at *
  all_goals try first | rfl | assumption | exact hp.1 | exact hp.2.1 | exact hp.2.2.1 | exact hp.2.2.2.1
  all_goals try (exfalso; first | omega | contradiction | simp_all; done)
  all_goals try exact (by subst hA; exact hl1.symm)
  have hd : DnI (swp L 0 p.toNat) p.toNat 0 := dn_start (by rw [show p.toNat + 1 = n by omega]; exact hH) (by omega)
  refine W.call 80 (by rfl) (down_E (swp L 0 p.toNat) G R1 n o 0 p (by rw [swp_length]; omega) (by omega) hR1 (by omega) (by omega) (by omega) (by omega) hd) (by first | rfl | (subst hA; simp [arS])) (by first | rfl | (subst hA; simp [arS])) ?_
  rintro _ _ _ hp ⟨rfl, L2, R2, b2, hp2, hg2, hH2, hR2, rfl, rfl⟩
  have hlen2 : L2.length = n := by rw [hp2.length_eq, swp_length]; omega
  have he : L2 = L2.take p.toNat ++ [g L 0] := by
    refine ext_g (by simp; omega) fun a ha => ?_
    by_cases h : a = p.toNat
    · subst h
      rw [hg2 _ (Nat.le_refl _), g_swp0 (by omega)]
      have hk : (L2.take p.toNat).length = p.toNat := by rw [List.length_take]; omega
      show _ = (L2.take p.toNat ++ [g L 0]).getD p.toNat default
      rw [List.getD_eq_getElem?_getD, List.getElem?_append_right (by omega), hk, Nat.sub_self]
      rfl
    · unfold g
      rw [List.getD_eq_getElem?_getD, List.getD_eq_getElem?_getD, List.getElem?_append_left (by simp; omega), List.getElem?_take_of_lt (by omega)]
  obtain ⟨L3, hL3⟩ : ∃ L3, L3 = L2.take p.toNat := ⟨_, rfl⟩
  rw [← hL3] at he
  have hl3 : L3.length = p.toNat := by rw [hL3]; simp; omega
  subst he
  cbv
  repeat' first | apply And.intro | (apply imC hA; intro) | (apply imN hA; intro) | (apply imI hA; intro) | (apply ndI hA; simp only [Cnd.holds])
  all_goals try simp only [nc, nc2, cmpR, Bool.not_true, Bool.not_false] at *
  all_goals try first | rfl | assumption | exact hp.1 | exact hp.2.1 | exact hp.2.2.1 | exact hp.2.2.2.1
  all_goals try (exfalso; first | omega | contradiction)
  refine W.call 80 (by rfl) (PopS_E L3 (g L 0) G R2 n o (by omega) (by omega) hR2) (by first | rfl | (subst hA; simp [arS])) (by first | rfl | (subst hA; simp [arS])) ?_
  rintro _ _ _ hp ⟨rfl, rfl, m, t, k, a, b, c, q, hm, ht, hk, ha, hb, hc, hq, rfl⟩
  cbv
  repeat' first | apply And.intro | (apply imC hA; intro) | (apply imN hA; intro) | (apply imI hA; intro) | (apply ndI hA; simp only [Cnd.holds])
  all_goals try simp only [nc, nc2, cmpR, Bool.not_true, Bool.not_false] at *
  all_goals try first | rfl | assumption | exact hp.1 | exact hp.2.1 | exact hp.2.2.1 | exact hp.2.2.2.1
  all_goals try (exfalso; first | omega | contradiction)
  rw [W.rr]
  refine ⟨rfl, m, L3, g L 0 :: G, R2, t, k, a, b, c, q, hm, hp2.trans (swp_perm (by omega) (by omega)), ?_, by rw [hR2, List.append_assoc]; rfl, ht, hk, ha, hb, hc, hq, rfl, rfl⟩
  intro a a0 a1
  have := hH2 a a0 (by omega)
  rwa [g_append (by omega), g_append (by omega)] at this
end Go.Ab
