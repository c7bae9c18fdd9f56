/- AgendaPlays: the walk of the law: one taking. -/
import Derived.Test.YtkcnlpelbcpmgaaAgA
namespace Go.Ab
open Go Go.Proofs HeapM
set_option linter.unusedVariables false
set_option linter.unusedSimpArgs false
set_option maxRecDepth 100000
set_option maxHeartbeats 6400000
variable {A : Ar} {CE : Nat → Rs → List Lf → (Nat → Rs → List Lf → Prop) → Prop} {CK : Nat → Rs → List Lf → Cont → Prop} {Dn : Nat → List Bool → List AItem → Nat → List Bool → List AV → List ABlk → Prop} {EV RR : Nat → Rs → List Lf → Prop}

theorem Plays_mid (hA : A = arS) (W : Wk Try.prog Try.f5 I5 L5 (fun x rs vs => x = 0 ∧ vs = [Lf.b true]) A sg CE CK Dn EV RR) (N2 : List Evt) (T : List Int) (more takes : List (List AV)) (pm : pursS more = true) (pt : pursS takes = true) (m : Nat) (i j z : Int) (hj : j = i + 1) (hz : z = T.length) (hi : i = m) (hT60 : T.length ≤ 60) (hN60 : N2.length ≤ 60) (hmT : m < T.length)
    (last : ∀ (q : Nat) (O1 O R L G : List Evt) (row outs heap : List (List AV)) (n : Nat) (o at' y x : Int), O1.length = q → Rest R O L at' o → 0 ≤ o → o ≤ 61 + m → R.length ≤ 61 + m → HeapN L n → n = L.length → row = R.map enc5 → outs = (O1 ++ O).map enc5 → heap = (L ++ G).map enc → y = (O1 ++ O).length → (O1 ++ O).length ≤ 50000 → x = q → EV 62 [row, outs, heap] [.r more, .i at', .r takes, .i z, .i i, .i y, .i x, .n n, .i o]) : ∀ (R L G : List Evt) (row heap : List (List AV)) (n : Nat) (o at' : Int), Same R L o → 0 ≤ o → o ≤ 61 + m → R.length ≤ 61 + m → HeapN L n → n = L.length → row = R.map enc5 → heap = (L ++ G).map enc → EV 45 [row, heap] [.r more, .i at', .r takes, .i z, .i i, .n n, .i o] := by
  intro R L G row heap n o at' hS ho0 ho1 hR60 hH hn hrow hheap
  have hLR := hS.perm.length_eq
  have ph : pursS heap = true := by rw [hheap]; exact enc_pure _
  have pr : pursS row = true := by rw [hrow]; exact enc5_pure _
  refine W.step 80 fun hp => ?_
  cbv
  repeat' first | apply And.intro | (apply imC hA; intro) | (apply imN hA; intro) | (apply imI hA; intro) | (apply ndI hA; simp only [Cnd.holds])
  all_goals try simp only [nc, nc2, cmpR, Bool.not_true, Bool.not_false] at *
  all_goals try first | rfl | assumption | exact hp.1 | exact hp.2.1 | exact hp.2.2.1 | exact hp.2.2.2.1
  all_goals try (exfalso; first | omega | contradiction)
  refine W.call 80 (by rfl) (first_E R row hrow (by omega)) (by first | rfl | (subst hA; simp [arS])) (by first | rfl | (subst hA; simp [arS])) ?_
  rintro _ _ _ hp ⟨rfl, rfl, k, hF, rfl⟩
  cbv
  repeat' first | apply And.intro | (apply imC hA; intro) | (apply imN hA; intro) | (apply imI hA; intro) | (apply ndI hA; simp only [Cnd.holds])
  all_goals try simp only [nc, nc2, cmpR, Bool.not_true, Bool.not_false] at *
  all_goals try first | rfl | assumption | exact hp.1 | exact hp.2.1 | exact hp.2.2.1 | exact hp.2.2.2.1
  all_goals try (exfalso; first | omega | contradiction)
  refine W.call 80 (by rfl) (Next_E L G heap n o hn hheap) (by first | rfl | (subst hA; simp [arS])) (by first | rfl | (subst hA; simp [arS])) ?_
  rintro _ _ _ hp ⟨rfl, rfl, t, b, hb0, hb1, rfl⟩
  have hrl : row.length = R.length := by rw [hrow]; simp
  rcases Nat.eq_zero_or_pos n with hn0 | hn0
  · obtain rfl := hb0 hn0
    have hk : k = -1 := by rcases hF with ⟨_, hk⟩ | ⟨h0, h1, _⟩ <;> omega
    have hbeq : A.beq false (A.cmp .geq k 0) = true := by subst hA hk; rfl
    cbv
    repeat' first | apply And.intro | (apply imC hA; intro) | (apply imN hA; intro) | (apply imI hA; intro) | (apply ndI hA; simp only [Cnd.holds])
    all_goals try simp only [nc, nc2, cmpR, Bool.not_true, Bool.not_false] at *
    all_goals try first | rfl | assumption | exact hp.1 | exact hp.2.1 | exact hp.2.2.1 | exact hp.2.2.2.1
    all_goals try (exfalso; first | omega | contradiction)
    all_goals try (exfalso; exact absurd (hbeq.symm.trans (by assumption)) (by decide))
    refine W.call 80 (by rfl) (Take_E L G heap n o at' hn (by omega) hH hheap) (by first | rfl | (subst hA; simp [arS])) (by first | rfl | (subst hA; simp [arS])) ?_
    rintro _ _ _ hp ⟨rfl, n', O, L', G', R', S', hn', hT', hl', hH', hR', hS', rfl, rfl⟩
    have hOl : O.length + L'.length = L.length := by simpa using hT'.perm.length_eq
    cbv
    repeat' first | apply And.intro | (apply imC hA; intro) | (apply imN hA; intro) | (apply imI hA; intro) | (apply ndI hA; simp only [Cnd.holds])
    all_goals try simp only [nc, nc2, cmpR, Bool.not_true, Bool.not_false] at *
    all_goals try first | rfl | assumption | exact hp.1 | exact hp.2.1 | exact hp.2.2.1 | exact hp.2.2.2.1
    all_goals try (exfalso; first | omega | contradiction)
    exact last 0 [] O R L' G' row S' R' n' o at' _ 0 rfl (Rest.start hS hT' hl') ho0 ho1 hR60 hH' hn' hrow (by simpa using hS') hR' (by subst hA; simp only [arS]; rw [hS']; simp) (by simp; omega) rfl
  · obtain ⟨hb, ht⟩ := hb1 hn0
    subst hb
    rcases hF with ⟨h0, _⟩ | ⟨hk0, hk1, hk2, hk3⟩
    · exfalso; omega
    have hkR : k.toNat < R.length := by omega
    have c0 := c5 hA hrow hkR
    have htk : (g R k.toNat).t = t := by
      have h1 := heap_le hH hn _ (hS.perm.symm.subset (g_mem hkR))
      obtain ⟨a, ha, hae⟩ := List.mem_iff_getElem.1 (hS.perm.subset (g_mem (L := L) (a := 0) (by omega)))
      have h2 := hk2 a ha
      rw [g_get ha, hae] at h2
      unfold le at h1
      omega
    rw [htk] at c0
    have hbeq : A.beq true (A.cmp .geq k 0) = true := by subst hA; simp [arS, cmpS]; omega
    unfold Ar.cI Ar.add Ar.tn at c0
    cbv
    repeat' first | apply And.intro | (apply imC hA; intro) | (apply imN hA; intro) | (apply imI hA; intro) | (apply ndI hA; simp only [Cnd.holds])
    all_goals try simp only [nc, nc2, cmpR, Bool.not_true, Bool.not_false] at *
    all_goals try first | rfl | assumption | exact hp.1 | exact hp.2.1 | exact hp.2.2.1 | exact hp.2.2.2.1
    all_goals try (exfalso; first | omega | contradiction)
    all_goals try (exfalso; exact absurd (hbeq.symm.trans (by assumption)) (by decide))
    all_goals try first | omega | exact rg5 hA hrow (by subst hA; simp only [arS]; omega) | (subst hA; simp only [arS]; omega)
    all_goals simp only [c0] at *
    all_goals try contradiction
    refine W.call 80 (by rfl) (Take_E L G heap n o at' hn (by omega) hH hheap) (by first | rfl | (subst hA; simp [arS])) (by first | rfl | (subst hA; simp [arS])) ?_
    rintro _ _ _ hp ⟨rfl, n', O, L', G', R', S', hn', hT', hl', hH', hR', hS', rfl, rfl⟩
    have hOl : O.length + L'.length = L.length := by simpa using hT'.perm.length_eq
    cbv
    repeat' first | apply And.intro | (apply imC hA; intro) | (apply imN hA; intro) | (apply imI hA; intro) | (apply ndI hA; simp only [Cnd.holds])
    all_goals try simp only [nc, nc2, cmpR, Bool.not_true, Bool.not_false] at *
    all_goals try first | rfl | assumption | exact hp.1 | exact hp.2.1 | exact hp.2.2.1 | exact hp.2.2.2.1
    all_goals try (exfalso; first | omega | contradiction)
    exact last 0 [] O R L' G' row S' R' n' o at' _ 0 rfl (Rest.start hS hT' hl') ho0 ho1 hR60 hH' hn' hrow (by simpa using hS') hR' (by subst hA; simp only [arS]; rw [hS']; simp) (by simp; omega) rfl
end Go.Ab
