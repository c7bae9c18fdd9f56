/- AgendaPlays: the walk of the law: the answers of one taking. -/
import Derived.Test.YtkcnlpelbcpmgaaAgA
namespace Go.Ab
open Go Go.Proofs HeapM
set_option linter.unusedVariables false
set_option linter.unusedSimpArgs false
set_option maxRecDepth 100000
set_option maxHeartbeats 6400000
variable {A : Ar} {CE : Nat → Rs → List Lf → (Nat → Rs → List Lf → Prop) → Prop} {CK : Nat → Rs → List Lf → Cont → Prop} {Dn : Nat → List Bool → List AItem → Nat → List Bool → List AV → List ABlk → Prop} {EV RR : Nat → Rs → List Lf → Prop}

theorem Plays_last (hA : A = arS) (W : Wk Try.prog Try.f5 I5 L5 (fun x rs vs => x = 0 ∧ vs = [Lf.b true]) A sg CE CK Dn EV RR) (N2 : List Evt) (T : List Int) (more takes : List (List AV)) (pm : pursS more = true) (pt : pursS takes = true) (m : Nat) (i j z : Int) (hj : j = i + 1) (hz : z = T.length) (hi : i = m) (hT60 : T.length ≤ 60) (hN60 : N2.length ≤ 60) (hmT : m < T.length)
    (ih : ∀ (R L G : List Evt) (row heap : List (List AV)) (n : Nat) (o : Int), Same R L o → 0 ≤ o → o ≤ 61 + m → R.length ≤ 61 + m → HeapN L n → n = L.length → row = R.map enc5 → heap = (L ++ G).map enc → EV 27 [row, heap] [.r more, .r takes, .i z, .i j, .n n, .i o]) : ∀ (q : Nat) (O1 O R L G : List Evt) (row outs heap : List (List AV)) (n : Nat) (o at' y x : Int), O1.length = q → Rest R O L at' o → 0 ≤ o → o ≤ 61 + m → R.length ≤ 61 + m → HeapN L n → n = L.length → row = R.map enc5 → outs = (O1 ++ O).map enc5 → heap = (L ++ G).map enc → y = (O1 ++ O).length → (O1 ++ O).length ≤ 50000 → x = q → EV 62 [row, outs, heap] [.r more, .i at', .r takes, .i z, .i i, .i y, .i x, .n n, .i o] := by
  have e1 : A.iop .add .i64 i 1 = j := (add1 hA (by omega) (by omega)).trans (by omega)
  unfold Ar.iop at e1
  intro q O1 O
  induction O generalizing q O1 with
  | nil =>
    intro R L G row outs heap n o at' y x hq hS ho0 ho1 hR60 hH hn hrow houts hheap hy hy2 hx
    have ph : pursS heap = true := by rw [hheap]; exact enc_pure _
    have pr : pursS row = true := by rw [hrow]; exact enc5_pure _
    have po : pursS outs = true := by rw [houts]; exact enc5_pure _
    simp only [List.append_nil] at hy houts
    have hLR := hS.perm.length_eq
    simp only [List.nil_append] at hLR
    refine W.step 80 fun hp => ?_
    cbv
    repeat' first | apply And.intro | (apply imC hA; intro) | (apply imN hA; intro) | (apply imI hA; intro) | (apply ndI hA; simp only [Cnd.holds])
    all_goals try simp only [nc, nc2, cmpR, Bool.not_true, Bool.not_false] at *
    all_goals try first | rfl | assumption | exact hp.1 | exact hp.2.1 | exact hp.2.2.1 | exact hp.2.2.2.1
    all_goals try (exfalso; first | omega | contradiction)
    all_goals try (exfalso; simp at hy; omega)
    refine W.call 80 (by rfl) (first_E R row hrow (by omega)) (by first | rfl | (subst hA; simp [arS])) (by first | rfl | (subst hA; simp [arS])) ?_
    rintro _ _ _ hp ⟨rfl, rfl, k, hF, rfl⟩
    have hrl : row.length = R.length := by rw [hrow]; simp
    rcases hF with ⟨hR0, hk⟩ | ⟨hk0, hk1, hk2, hk3⟩
    · cbv
      repeat' first | apply And.intro | (apply imC hA; intro) | (apply imN hA; intro) | (apply imI hA; intro) | (apply ndI hA; simp only [Cnd.holds])
      all_goals try simp only [nc, nc2, cmpR, Bool.not_true, Bool.not_false] at *
      all_goals try first | rfl | assumption | exact hp.1 | exact hp.2.1 | exact hp.2.2.1 | exact hp.2.2.2.1
      all_goals try (exfalso; first | omega | contradiction)
      refine W.call 80 (by rfl) (Len_E heap n o) (by first | rfl | (subst hA; simp [arS])) (by first | rfl | (subst hA; simp [arS])) ?_
      rintro _ _ _ hp ⟨rfl, rfl, u, hu, rfl⟩
      cbv
      repeat' first | apply And.intro | (apply imC hA; intro) | (apply imN hA; intro) | (apply imI hA; intro) | (apply ndI hA; simp only [Cnd.holds])
      all_goals try simp only [nc, nc2, cmpR, Bool.not_true, Bool.not_false] at *
      all_goals try first | rfl | assumption | exact hp.1 | exact hp.2.1 | exact hp.2.2.1 | exact hp.2.2.2.1
      all_goals try (exfalso; first | omega | contradiction)
      all_goals try simp only [e1]
      · exfalso
        have h : u ≠ A.ofN (A.rlen row) := by assumption
        have h2 : A.ofN (A.rlen row) = (row.length : Int) := by subst hA; rfl
        omega
      · exact ih R L G row heap n o hS.done ho0 (by omega) (by omega) hH hn hrow hheap
    · have hkR : k.toNat < R.length := by omega
      have hlate := hS.late _ (hS.perm.symm.subset (g_mem hkR))
      have c0 := c5 hA hrow hkR
      obtain ⟨tk, htk⟩ : ∃ tk, tk = (g R k.toNat).t := ⟨_, rfl⟩
      rw [← htk] at c0 hlate
      unfold Ar.cI Ar.add Ar.tn at c0
      cbv
      repeat' first | apply And.intro | (apply imC hA; intro) | (apply imN hA; intro) | (apply imI hA; intro) | (apply ndI hA; simp only [Cnd.holds])
      all_goals try simp only [nc, nc2, cmpR, Bool.not_true, Bool.not_false] at *
      all_goals try first | rfl | assumption | exact hp.1 | exact hp.2.1 | exact hp.2.2.1 | exact hp.2.2.2.1
      all_goals try (exfalso; first | omega | contradiction)
      all_goals try first | omega | exact rg5 hA hrow (by subst hA; simp only [arS]; omega) | (subst hA; simp only [arS]; omega)
      all_goals simp only [c0] at *
      all_goals try (exfalso; omega)
      refine W.call 80 (by rfl) (Len_E heap n o) (by first | rfl | (subst hA; simp [arS])) (by first | rfl | (subst hA; simp [arS])) ?_
      rintro _ _ _ hp ⟨rfl, rfl, u, hu, rfl⟩
      cbv
      repeat' first | apply And.intro | (apply imC hA; intro) | (apply imN hA; intro) | (apply imI hA; intro) | (apply ndI hA; simp only [Cnd.holds])
      all_goals try simp only [nc, nc2, cmpR, Bool.not_true, Bool.not_false] at *
      all_goals try first | rfl | assumption | exact hp.1 | exact hp.2.1 | exact hp.2.2.1 | exact hp.2.2.2.1
      all_goals try (exfalso; first | omega | contradiction)
      all_goals try simp only [e1]
      · exfalso
        have h : u ≠ A.ofN (A.rlen row) := by assumption
        have h2 : A.ofN (A.rlen row) = (row.length : Int) := by subst hA; rfl
        omega
      · exact ih R L G row heap n o hS.done ho0 (by omega) (by omega) hH hn hrow hheap
  | cons e O ih2 =>
    intro R L G row outs heap n o at' y x hq hS ho0 ho1 hR60 hH hn hrow houts hheap hy hy2 hx
    have ph : pursS heap = true := by rw [hheap]; exact enc_pure _
    have pr : pursS row = true := by rw [hrow]; exact enc5_pure _
    have po : pursS outs = true := by rw [houts]; exact enc5_pure _
    obtain ⟨w, hw⟩ : ∃ w : Int, w = x + 1 := ⟨_, rfl⟩
    have hyl : y = O1.length + (O.length + 1) := by rw [hy]; simp
    have hge : (O1 ++ e :: O).length = O1.length + (O.length + 1) := by simp
    have e2 : A.iop .add .i64 x 1 = w := (add1 hA (by omega) (by omega)).trans (by omega)
    unfold Ar.iop at e2
    have hRl := hS.perm.length_eq
    simp only [List.length_append, List.length_cons] at hRl
    have hol : outs.length = O1.length + (O.length + 1) := by rw [houts]; simp
    have hge2 : g (O1 ++ e :: O) O1.length = e := by
      unfold g; rw [List.getD_eq_getElem?_getD, List.getElem?_append_right (Nat.le_refl _), Nat.sub_self]; rfl
    have hc : cIS outs (0 + x.toNat) 0 = e.t ∧ cIS outs (0 + x.toNat) 1 = e.k ∧ cIS outs (0 + x.toNat) 2 = e.a ∧ cIS outs (0 + x.toNat) 3 = e.b ∧ cIS outs (0 + x.toNat) 4 = e.c := by
      rw [houts, show 0 + x.toNat = O1.length by omega]
      have := enc5_cI (O1 ++ e :: O) O1.length (by simp)
      rw [hge2] at this
      exact this
    obtain ⟨et, het⟩ : ∃ et, et = e.t := ⟨_, rfl⟩
    obtain ⟨ek, hek⟩ : ∃ et, et = e.k := ⟨_, rfl⟩
    obtain ⟨ea, hea⟩ : ∃ et, et = e.a := ⟨_, rfl⟩
    obtain ⟨eb, heb⟩ : ∃ et, et = e.b := ⟨_, rfl⟩
    obtain ⟨ec, hec⟩ : ∃ et, et = e.c := ⟨_, rfl⟩
    rw [← het, ← hek, ← hea, ← heb, ← hec] at hc
    obtain ⟨f0, f1, f2, f3, f4⟩ := hc
    have c0 : A.cI outs (A.add 0 (A.tn x)) 0 = et := by subst hA; exact f0
    have c1 : A.cI outs (A.add 0 (A.tn x)) 1 = ek := by subst hA; exact f1
    have c2 : A.cI outs (A.add 0 (A.tn x)) 2 = ea := by subst hA; exact f2
    have c3 : A.cI outs (A.add 0 (A.tn x)) 3 = eb := by subst hA; exact f3
    have c4 : A.cI outs (A.add 0 (A.tn x)) 4 = ec := by subst hA; exact f4
    unfold Ar.cI Ar.add Ar.tn at c0 c1 c2 c3 c4
    clear f0 f1 f2 f3 f4
    refine W.step 80 fun hp => ?_
    cbv
    repeat' first | apply And.intro | (apply imC hA; intro) | (apply imN hA; intro) | (apply imI hA; intro) | (apply ndI hA; simp only [Cnd.holds])
    all_goals try simp only [nc, nc2, cmpR, Bool.not_true, Bool.not_false] at *
    all_goals try first | rfl | assumption | exact hp.1 | exact hp.2.1 | exact hp.2.2.1 | exact hp.2.2.2.1
    all_goals try (exfalso; first | omega | contradiction)
    all_goals try first | omega | exact rg5 hA houts (by subst hA; simp only [arS]; omega) | (subst hA; simp only [arS]; omega)
    simp only [c0, c1, c2, c3, c4]
    refine W.call 80 (by rfl) (first_E R row hrow (by omega)) (by first | rfl | (subst hA; simp [arS])) (by first | rfl | (subst hA; simp [arS])) ?_
    rintro _ _ _ hp ⟨rfl, rfl, k, hF, rfl⟩
    obtain ⟨hk0, hk1, hk2⟩ := hS.head hF
    have hd : cIS row (0 + k.toNat) 0 = et ∧ cIS row (0 + k.toNat) 1 = ek ∧ cIS row (0 + k.toNat) 2 = ea ∧ cIS row (0 + k.toNat) 3 = eb ∧ cIS row (0 + k.toNat) 4 = ec := by
      rw [hrow, Nat.zero_add]
      have := enc5_cI R k.toNat hk1
      rw [hk2, ← het, ← hek, ← hea, ← heb, ← hec] at this
      exact this
    obtain ⟨f0, f1, f2, f3, f4⟩ := hd
    have hrl : row.length = R.length := by rw [hrow]; simp
    have hne : A.not (A.and (A.cmp .eql (A.cI row (A.add 0 (A.tn k)) 0) et) (A.and (A.cmp .eql (A.cI row (A.add 0 (A.tn k)) 1) ek) (A.and (A.cmp .eql (A.cI row (A.add 0 (A.tn k)) 2) ea) (A.and (A.cmp .eql (A.cI row (A.add 0 (A.tn k)) 3) eb) (A.and (A.cmp .eql (A.cI row (A.add 0 (A.tn k)) 4) ec) true))))) = false := by
      subst hA
      simp only [arS, f0, f1, f2, f3, f4]
      simp [cmpS]
    have d0 : A.cI row (A.add 0 (A.tn k)) 0 = et := by subst hA; exact f0
    have d1 : A.cI row (A.add 0 (A.tn k)) 1 = ek := by subst hA; exact f1
    have d2 : A.cI row (A.add 0 (A.tn k)) 2 = ea := by subst hA; exact f2
    have d3 : A.cI row (A.add 0 (A.tn k)) 3 = eb := by subst hA; exact f3
    have d4 : A.cI row (A.add 0 (A.tn k)) 4 = ec := by subst hA; exact f4
    unfold Ar.cI Ar.add Ar.tn at d0 d1 d2 d3 d4
    clear f0 f1 f2 f3 f4
    cbv
    repeat' first | apply And.intro | (apply imC hA; intro) | (apply imN hA; intro) | (apply imI hA; intro) | (apply ndI hA; simp only [Cnd.holds])
    all_goals try simp only [nc, nc2, cmpR, Bool.not_true, Bool.not_false] at *
    all_goals try first | rfl | assumption | exact hp.1 | exact hp.2.1 | exact hp.2.2.1 | exact hp.2.2.2.1
    all_goals try (exfalso; first | omega | contradiction)
    · intro hk
      have hk := cmpE hA hk
      simp only [cmpR] at hk
      omega
    · intro hk
      refine W.draw 80 (by rfl) ?_
      cbv
      repeat' first | apply And.intro | (apply imC hA; intro) | (apply imN hA; intro) | (apply imI hA; intro) | (apply ndI hA; simp only [Cnd.holds])
      all_goals try simp only [nc, nc2, cmpR, Bool.not_true, Bool.not_false] at *
      all_goals try first | rfl | assumption | exact hp.1 | exact hp.2.1 | exact hp.2.2.1 | exact hp.2.2.2.1
      all_goals try (exfalso; first | omega | contradiction)
      all_goals try first | omega | exact rg5 hA hrow (by subst hA; simp only [arS]; omega) | (subst hA; simp only [arS]; omega)
      · intro h; exact absurd (h.symm.trans hne) (by simp)
      · intro _
        have hdue := hS.due e (by simp)
        obtain ⟨k1, hk1'⟩ : ∃ k1 : Int, k1 = k + 1 := ⟨_, rfl⟩
        have e3 : A.iop .add .i64 k 1 = k1 := (add1 hA (by omega) (by omega)).trans (by omega)
        obtain ⟨r1, hr1⟩ : ∃ r1, r1 = A.rtake (A.rdrop row 0) (A.tn k) := ⟨_, rfl⟩
        have hr1' : r1 = (R.take k.toNat).map enc5 := by rw [hr1, hrow]; subst hA; simp only [arS, List.drop_zero, List.map_take]
        have hr1l : r1.length = k.toNat := by rw [hr1']; simp; omega
        have hr1s := hr1.symm
        unfold Ar.iop at e3
        unfold Ar.rtake Ar.rdrop Ar.tn at hr1s
        refine W.draw 80 (by rfl) ?_
        cbv
        repeat' first | apply And.intro | (apply imC hA; intro) | (apply imN hA; intro) | (apply imI hA; intro) | (apply ndI hA; simp only [Cnd.holds])
        all_goals try simp only [nc, nc2, cmpR, Bool.not_true, Bool.not_false] at *
        all_goals try first | rfl | assumption | exact hp.1 | exact hp.2.1 | exact hp.2.2.1 | exact hp.2.2.2.1
        all_goals try (exfalso; first | omega | contradiction)
        all_goals try simp only [e2, e3, hr1s]
        all_goals try first | omega | (subst hA; simp only [arS]; omega) | (subst hA; simp only [arS, Nat.zero_add]; omega)
        obtain ⟨r3, hr3⟩ : ∃ r3, r3 = A.rtake (A.rdrop row (A.add 0 (A.tn k1))) (A.sub (A.rlen row) (A.tn k1)) := ⟨_, rfl⟩
        have hr3' : r3 = (R.drop (k.toNat + 1)).map enc5 := by
          rw [hr3, hrow]
          subst hA
          simp only [arS, Nat.zero_add, List.length_map]
          rw [List.take_of_length_le (by simp), show k1.toNat = k.toNat + 1 by omega, List.map_drop]
        have hr3s := hr3.symm
        obtain ⟨r2, hr2⟩ : ∃ r2, r2 = A.rapp r1 (A.rlen r1) r3 := ⟨_, rfl⟩
        have hr2a : r2 = r1 ++ r3 := by rw [hr2]; subst hA; simp only [arS]; exact rappS_end _ _
        have hr2' : r2 = (R.take k.toNat ++ R.drop (k.toNat + 1)).map enc5 := by rw [hr2a, hr1', hr3', List.map_append]
        have hr2s := hr2.symm
        have e6 : A.add (A.rlen r1) (A.rlen r3) = A.rlen r2 := by rw [hr2a]; subst hA; simp [arS]
        have hr3l : r3.length = R.length - (k.toNat + 1) := by rw [hr3']; simp
        have hr2l : r2.length = R.length - 1 := by rw [hr2a, List.length_append, hr1l, hr3l]; omega
        unfold Ar.rtake Ar.rdrop Ar.tn Ar.add Ar.sub Ar.rlen at hr3s
        unfold Ar.rapp Ar.rlen at hr2s
        unfold Ar.add Ar.rlen at e6
        refine W.draw 80 (by rfl) ?_
        cbv
        repeat' first | apply And.intro | (apply imC hA; intro) | (apply imN hA; intro) | (apply imI hA; intro) | (apply ndI hA; simp only [Cnd.holds])
        all_goals try simp only [nc, nc2, cmpR, Bool.not_true, Bool.not_false] at *
        all_goals try first | rfl | assumption | exact hp.1 | exact hp.2.1 | exact hp.2.2.1 | exact hp.2.2.2.1
        all_goals try (exfalso; first | omega | contradiction)
        all_goals try simp only [e2, e3, hr1s, hr3s, hr2s, e6]
        all_goals try first | omega | (subst hA; simp only [arS]; omega) | (subst hA; simp only [arS, Nat.zero_add]; omega)
        refine W.draw 80 (by rfl) ?_
        cbv
        repeat' first | apply And.intro | (apply imC hA; intro) | (apply imN hA; intro) | (apply imI hA; intro) | (apply ndI hA; simp only [Cnd.holds])
        all_goals try simp only [nc, nc2, cmpR, Bool.not_true, Bool.not_false] at *
        all_goals try first | rfl | assumption | exact hp.1 | exact hp.2.1 | exact hp.2.2.1 | exact hp.2.2.2.1
        all_goals try (exfalso; first | omega | contradiction)
        all_goals try simp only [e2, e3, hr1s, hr3s, hr2s, e6]
        · rw [hr2']; exact enc5_pure _
        · exact ih2 (q + 1) (O1 ++ [e]) (R.take k.toNat ++ R.drop (k.toNat + 1)) L G r2 outs heap n o at' y w (by simp; omega) (hS.step hk1 hk2) ho0 ho1 (by simp; omega) hH hn hr2' (by rw [houts]; simp) hheap (by rw [hy]; simp) (by simpa using hy2) (by omega)
end Go.Ab
