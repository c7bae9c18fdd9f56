/- AgendaPlays: the walk of the law: whole. -/
import Derived.Test.YtkcnlpelbcpmgaaAgB
import Derived.Test.YtkcnlpelbcpmgaaAgC
namespace Go.Ab
open Go Go.Proofs HeapM
set_option linter.unusedVariables false
set_option linter.unusedSimpArgs false
set_option maxRecDepth 100000
set_option maxHeartbeats 6400000
variable {A : Ar} {CE : Nat → Rs → List Lf → (Nat → Rs → List Lf → Prop) → Prop} {CK : Nat → Rs → List Lf → Cont → Prop} {Dn : Nat → List Bool → List AItem → Nat → List Bool → List AV → List ABlk → Prop} {EV RR : Nat → Rs → List Lf → Prop}

theorem Plays_E (l : List (List AV)) (_ : l.length ≤ maxLen) (gl : ∀ r ∈ l, GdL [.int .i64, .int .i64, .int .i64, .int .i64, .int .i64] r) (more : List (List AV)) (_ : more.length ≤ maxLen) (gm : ∀ r ∈ more, GdL [.int .i64, .int .i64, .int .i64, .int .i64, .int .i64] r) (takes : List (List AV)) (_ : takes.length ≤ maxLen) (gt : ∀ r ∈ takes, GdL [.int .i64] r) : EC Try.prog G5 [] [.r l, .r more, .r takes] fun x rs vs => x = 0 ∧ vs = [.b true] := by
  obtain ⟨N, hN, hNo⟩ := evs_of 0 gl
  obtain ⟨N2, hN2, _⟩ := evs_of 0 gm
  obtain ⟨T, hT⟩ := ints_of gt
  have hll : l.length = N.length := by rw [hN]; simp
  have hml : more.length = N2.length := by rw [hN2]; simp
  have htl : takes.length = T.length := by rw [hT]; simp
  have pl : pursS l = true := by rw [hN]; exact enc5_pure N
  have pm : pursS more = true := by rw [hN2]; exact enc5_pure N2
  have pt : pursS takes = true := by rw [hT]; exact ints_pure T
  obtain ⟨A, hA⟩ : ∃ A, A = arS := ⟨_, rfl⟩
  refine Inst.enter (I := I5) hA mixed F5_at sg L5 80 rfl fun CE CK Dn EV RR W hp => ?_
  have loop : ∀ (d : Nat) (R L G : List Evt) (row heap : List (List AV)) (n : Nat) (o i z : Int) (m : Nat), T.length - m < d → z = T.length → m ≤ T.length → i = m → T.length ≤ 60 → N2.length ≤ 60 → Same R L o → 0 ≤ o → o ≤ 60 + m → R.length ≤ 60 + m → HeapN L n → n = L.length → row = R.map enc5 → heap = (L ++ G).map enc → EV 27 [row, heap] [.r more, .r takes, .i z, .i i, .n n, .i o] := by
    intro d
    induction d with
    | zero => intro R L G row heap n o i z m hd; omega
    | succ d ih =>
      intro R L G row heap n o i z m hd hz hm hi hT60 hN60 hS ho0 ho1 hR60 hH hn hrow hheap
      obtain ⟨j, hj⟩ : ∃ j : Int, j = i + 1 := ⟨_, rfl⟩
      have e1 : A.iop .add .i64 i 1 = j := (add1 hA (by omega) (by omega)).trans (by omega)
      unfold Ar.iop at e1
      have mid : m < T.length → ∀ (R L G : List Evt) (row heap : List (List AV)) (n : Nat) (o at' : Int), Same R L o → 0 ≤ o → o ≤ 61 + m → R.length ≤ 61 + m → HeapN L n → n = L.length → row = R.map enc5 → heap = (L ++ G).map enc → EV 45 [row, heap] [.r more, .i at', .r takes, .i z, .i i, .n n, .i o] := fun hmT =>
        Plays_mid hA W N2 T more takes pm pt m i j z hj hz hi hT60 hN60 hmT (Plays_last hA W N2 T more takes pm pt m i j z hj hz hi hT60 hN60 hmT fun R L G row heap n o a b c d e f g h => ih R L G row heap n o j z (m + 1) (by omega) hz (by omega) (by omega) hT60 hN60 a b (by omega) (by omega) e f g h)
      refine W.step 80 fun hp => ?_
      cbv
      repeat' first | apply And.intro | (apply imC hA; intro) | (apply imN hA; intro) | (apply imI hA; intro) | (apply ndI hA; simp only [Cnd.holds])
      all_goals try simp only [nc, nc2, cmpR, Bool.not_true, Bool.not_false] at *
      all_goals try first | rfl | assumption | exact hp.1 | exact hp.2.1 | exact hp.2.2.1 | exact hp.2.2.2.1
      all_goals try (exfalso; first | omega | contradiction)
      all_goals try first | omega | exact rg5 hA hN2 (lt_more hA hml (by omega) (by assumption))
      · exact igE hA hT (by subst hA; simp only [arS]; omega)
      · rename_i him
        have him : A.ofN (A.rlen more) > i := him
        have him : i < more.length := by subst hA; exact him
        have hc : cIS more i.toNat 0 = (g N2 m).t ∧ cIS more i.toNat 1 = (g N2 m).k ∧ cIS more i.toNat 2 = (g N2 m).a ∧ cIS more i.toNat 3 = (g N2 m).b ∧ cIS more i.toNat 4 = (g N2 m).c := by
          rw [hN2, show m = i.toNat by omega]
          exact enc5_cI N2 i.toNat (by omega)
        obtain ⟨c0, c1, c2, c3, c4⟩ := hc
        refine W.call 80 (by rfl) (Put_E L { g N2 m with o := o } G heap n o _ _ _ _ _ hn (by have := hS.perm.length_eq; omega) ho0 (by omega) hH hheap (by subst hA; exact c0) (by subst hA; exact c1) (by subst hA; exact c2) (by subst hA; exact c3) (by subst hA; exact c4) rfl) (by first | rfl | (subst hA; simp [arS])) (by first | rfl | (subst hA; simp [arS])) ?_
        rintro _ _ _ hp ⟨rfl, n', L', G', R', o', hn', h1, h2, h3, ho', rfl, rfl⟩
        have s1 : A.rapp row (A.rlen row) [[.int .i64 (A.cI more (A.tn i) 0), .int .i64 (A.cI more (A.tn i) 1), .int .i64 (A.cI more (A.tn i) 2), .int .i64 (A.cI more (A.tn i) 3), .int .i64 (A.cI more (A.tn i) 4)]] = (R ++ [{ g N2 m with o := o }]).map enc5 := by
          subst hA hrow
          simp only [arS, rappS, List.length_map, c0, c1, c2, c3, c4]
          rw [List.take_of_length_le (by simp), List.drop_eq_nil_of_le (by simp)]
          simp [enc5]
        have hol : row.length ≤ 50000 := by rw [hrow]; simp; omega
        cbv
        repeat' first | apply And.intro | (apply imC hA; intro) | (apply imN hA; intro) | (apply imI hA; intro) | (apply ndI hA; simp only [Cnd.holds])
        all_goals try simp only [nc, nc2, cmpR, Bool.not_true, Bool.not_false] at *
        all_goals try first | rfl | assumption | exact hp.1 | exact hp.2.1 | exact hp.2.2.1 | exact hp.2.2.2.1
        all_goals try (exfalso; first | omega | contradiction)
        all_goals try first | omega | exact rg5 hA hN2 (by subst hA; simp only [arS]; omega) | exact (congrArg pursS s1).trans (enc5_pure _) | (subst hA; simp [arS]; done) | (subst hA; simp [arS]; omega) | (subst hA; simp only [arS, rappS, List.length_append, List.length_take, List.length_drop, List.length_cons, List.length_nil]; omega)
        exact mid (by omega) _ L' G' _ R' n' o' _ (by rw [ho']; exact hS.put rfl h1) (by omega) (by omega) (by simp; omega) h2 (by rw [h1.length_eq]; simp; omega) s1 h3
      · exact mid (by omega) R L G row heap n o _ hS ho0 (by omega) (by omega) hH hn hrow hheap
      · rw [W.rr]; exact ⟨rfl, rfl⟩
  cbv
  repeat' first | apply And.intro | (apply imC hA; intro) | (apply imN hA; intro) | (apply imI hA; intro) | (apply ndI hA; simp only [Cnd.holds])
  all_goals try simp only [nc, nc2, cmpR, Bool.not_true, Bool.not_false] at *
  all_goals try first | rfl | assumption | exact hp.1 | exact hp.2.1 | exact hp.2.2.1 | exact hp.2.2.2.1
  all_goals try (exfalso; first | omega | contradiction)
  refine W.call 80 (by rfl) fixed18 (by first | rfl | (subst hA; simp [arS])) (by first | rfl | (subst hA; simp [arS])) ?_
  rintro _ _ _ hp ⟨rfl, rfl, rfl⟩
  cbv
  repeat' first | apply And.intro | (apply imC hA; intro) | (apply imN hA; intro) | (apply imI hA; intro) | (apply ndI hA; simp only [Cnd.holds])
  all_goals try simp only [nc, nc2, cmpR, Bool.not_true, Bool.not_false] at *
  all_goals try first | rfl | assumption | exact hp.1 | exact hp.2.1 | exact hp.2.2.1 | exact hp.2.2.2.1
  all_goals try (exfalso; first | omega | contradiction)
  · rw [W.rr]; exact ⟨rfl, rfl⟩
  · have l1 : A.ofN (A.rlen l) ≤ 60 := by assumption
    have l2 : A.ofN (A.rlen more) ≤ 60 := by assumption
    have l3 : A.ofN (A.rlen takes) ≤ 60 := by assumption
    have l1 : (l.length : Int) ≤ 60 := by subst hA; exact l1
    have l2 : (more.length : Int) ≤ 60 := by subst hA; exact l2
    have l3 : (takes.length : Int) ≤ 60 := by subst hA; exact l3
    refine W.call 80 (by rfl) (New_E N l hN (fun a ha => (hNo a ha).trans (Int.zero_add _)) (by omega)) (by first | rfl | (subst hA; simp [arS])) (by first | rfl | (subst hA; simp [arS])) ?_
    rintro _ _ _ hp ⟨rfl, n, L, G, R, o, hn, ho, hp', hH, hR, rfl, rfl⟩
    cbv
    repeat' first | apply And.intro | (apply imC hA; intro) | (apply imN hA; intro) | (apply imI hA; intro) | (apply ndI hA; simp only [Cnd.holds])
    all_goals try simp only [nc, nc2, cmpR, Bool.not_true, Bool.not_false] at *
    all_goals try first | rfl | assumption | exact hp.1 | exact hp.2.1 | exact hp.2.2.1 | exact hp.2.2.2.1
    all_goals try (exfalso; first | omega | contradiction)
    all_goals try (subst hA; simp only [arS]; omega)
    refine loop _ N L G l R n o 0 _ 0 (Nat.lt_succ_self _) (by subst hA; simp only [arS]; omega) (by omega) rfl (by omega) (by omega) ⟨hp', ?_, ?_⟩ (by omega) (by omega) (by omega) hH (by rw [hp'.length_eq]; exact hn) hN hR
    · refine List.pairwise_iff_getElem.2 fun a b ha hb hab => ?_
      have h1 := hNo a ha
      have h2 := hNo b hb
      rw [g_get ha] at h1
      rw [g_get hb] at h2
      omega
    · intro e he
      obtain ⟨a, ha, rfl⟩ := List.mem_iff_getElem.1 he
      have h1 := hNo a ha
      rw [g_get ha] at h1
      omega
  · rw [W.rr]; exact ⟨rfl, rfl⟩
  · rw [W.rr]; exact ⟨rfl, rfl⟩
end Go.Ab
