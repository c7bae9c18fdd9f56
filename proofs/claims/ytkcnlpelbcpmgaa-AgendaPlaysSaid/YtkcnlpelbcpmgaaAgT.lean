/- The agenda: taking out what is due. -/
import Derived.Test.YtkcnlpelbcpmgaaAgI
namespace Go.Ab
open Go Go.Proofs HeapM
set_option linter.unusedVariables false
set_option linter.unusedSimpArgs false
set_option maxRecDepth 100000
set_option maxHeartbeats 2000000

def enc5 (e : Evt) : List AV := [.int .i64 e.t, .int .i64 e.k, .int .i64 e.a, .int .i64 e.b, .int .i64 e.c]
theorem enc5_pure (M : List Evt) : pursS (M.map enc5) = true := pursS_map _ (fun _ => rfl) M

theorem heap_le {L : List Evt} {n : Nat} (h : HeapN L n) (hn : n = L.length) : ∀ x ∈ L, le (g L 0) x := by
  intro x hx
  obtain ⟨a, ha, rfl⟩ := List.mem_iff_getElem.1 hx
  rw [← g_get ha]
  exact heap_min h a (by omega)

/-- What taking comes to. -/
structure TakeP (L0 O L : List Evt) (at' : Int) : Prop where
  perm : (O ++ L).Perm L0
  pw : O.Pairwise le
  cross : ∀ e ∈ O, ∀ x ∈ L, le e x
  due : ∀ e ∈ O, e.t ≤ at'

theorem TakeP.start (L : List Evt) (at' : Int) : TakeP L [] L at' := ⟨List.Perm.refl _, List.Pairwise.nil, by simp, by simp⟩
theorem TakeP.step {L0 O L L' : List Evt} {at' : Int} (h : TakeP L0 O L at') {e : Evt} (hp : (L' ++ [e]).Perm L) (hm : ∀ x ∈ L, le e x) (ht : e.t ≤ at') : TakeP L0 (O ++ [e]) L' at' := by
  have he : e ∈ L := hp.subset (by simp)
  have hs : ∀ x ∈ L', x ∈ L := fun x hx => hp.subset (by simp [hx])
  refine ⟨?_, ?_, ?_, ?_⟩
  · rw [List.append_assoc]
    refine (List.Perm.append_left O ?_).trans h.perm
    exact List.perm_append_comm.trans hp
  · rw [List.pairwise_append]
    exact ⟨h.pw, List.pairwise_singleton _ _, fun a ha b hb => by rw [List.mem_singleton.1 hb]; exact h.cross a ha e he⟩
  · intro a ha x hx
    rcases List.mem_append.1 ha with ha | ha
    · exact h.cross a ha x (hs x hx)
    · rw [List.mem_singleton.1 ha]; exact hm x (hs x hx)
  · intro a ha
    rcases List.mem_append.1 ha with ha | ha
    · exact h.due a ha
    · rw [List.mem_singleton.1 ha]; exact ht

theorem Take_E (L0 G0 : List Evt) (rows0 : List (List AV)) (n0 : Nat) (o at' : Int) (hn0 : n0 = L0.length) (hn2 : n0 ≤ 50000) (hH0 : HeapN L0 n0) (hR0 : rows0 = (L0 ++ G0).map enc) : EC Try.prog G23 [rows0] [.i at', .n n0, .i o] fun x rs vs => x = 0 ∧ ∃ (m : Nat) (O L' G' : List Evt) (R S : List (List AV)), m = L'.length ∧ TakeP L0 O L' at' ∧ (∀ x ∈ L', at' < x.t) ∧ HeapN L' m ∧ R = (L' ++ G').map enc ∧ S = O.map enc5 ∧ rs = [R, S] ∧ vs = [.n m, .i o] := by
  obtain ⟨A, hA⟩ : ∃ A, A = arS := ⟨_, rfl⟩
  refine Inst.enter (I := I23) hA mixed F23_at sg L23 80 rfl fun CE CK Dn EV RR W hp => ?_
  have loop : ∀ (n : Nat) (L G O : List Evt) (rows outs : List (List AV)), n = L.length → n ≤ 50000 → HeapN L n → rows = (L ++ G).map enc → outs = O.map enc5 → TakeP L0 O L at' → EV 7 [rows, outs] [.i at', .n n, .i o] := by
    intro n
    induction n with
    | zero =>
      intro L G O rows outs hn hn2 hH hR hO hT
      refine W.step 80 fun hp => ?_
      cbv
      repeat' first | apply And.intro | (apply imC hA; intro) | (apply imN hA; intro) | (apply imI hA; intro) | (apply ndI hA; simp only [Cnd.holds])
      all_goals try simp only [nc, nc2, cmpR, Bool.not_true, Bool.not_false] at *
      all_goals try first | rfl | assumption | exact hp.1 | exact hp.2.1 | exact hp.2.2.1 | exact hp.2.2.2.1
      all_goals try (exfalso; first | omega | contradiction | simp_all; done)
      refine W.call 80 (by rfl) (Len_E rows 0 o) (by first | rfl | (subst hA; simp [arS])) (by first | rfl | (subst hA; simp [arS])) ?_
      rintro _ _ _ hp ⟨rfl, rfl, k, hk, rfl⟩
      cbv
      repeat' first | apply And.intro | (apply imC hA; intro) | (apply imN hA; intro) | (apply imI hA; intro) | (apply ndI hA; simp only [Cnd.holds])
      all_goals try simp only [nc, nc2, cmpR, Bool.not_true, Bool.not_false] at *
      all_goals try first | rfl | assumption | exact hp.1 | exact hp.2.1 | exact hp.2.2.1 | exact hp.2.2.2.1
      all_goals try (exfalso; first | omega | contradiction)
      · rw [hO]; exact enc5_pure O
      · rw [W.rr]
        obtain rfl : L = [] := List.eq_nil_of_length_eq_zero hn.symm
        exact ⟨rfl, 0, O, [], G, rows, outs, rfl, hT, by simp, hH, hR, hO, rfl, rfl⟩
    | succ n ih =>
      intro L G O rows outs hn hn2 hH hR hO hT
      obtain ⟨n1, hn1⟩ : ∃ n1, n1 = n + 1 := ⟨_, rfl⟩
      rw [← hn1]
      rw [← hn1] at hn hn2 hH
      obtain ⟨t0, ht0⟩ : ∃ t0, t0 = (g L 0).t := ⟨_, rfl⟩
      have e0 : A.cI rows (A.add 0 (A.tn 0)) 0 = t0 := by
        subst hA hR ht0
        rw [← g_append (L := L) (G := G) (by omega)]
        exact (enc_cI (L ++ G) 0 (by simp; omega)).1
      unfold Ar.cI Ar.add Ar.tn at e0
      refine W.step 80 fun hp => ?_
      cbv
      repeat' first | apply And.intro | (apply imC hA; intro) | (apply imN hA; intro) | (apply imI hA; intro) | (apply ndI hA; simp only [Cnd.holds])
      all_goals try simp only [nc, nc2, cmpR, Bool.not_true, Bool.not_false] at *
      all_goals try first | rfl | assumption | exact hp.1 | exact hp.2.1 | exact hp.2.2.1 | exact hp.2.2.2.1
      all_goals try (exfalso; first | omega | contradiction | simp_all; done)
      refine W.call 80 (by rfl) (Len_E rows n1 o) (by first | rfl | (subst hA; simp [arS])) (by first | rfl | (subst hA; simp [arS])) ?_
      rintro _ _ _ hp ⟨rfl, rfl, k, hk, rfl⟩
      cbv
      repeat' first | apply And.intro | (apply imC hA; intro) | (apply imN hA; intro) | (apply imI hA; intro) | (apply ndI hA; simp only [Cnd.holds])
      all_goals try simp only [nc, nc2, cmpR, Bool.not_true, Bool.not_false] at *
      all_goals try first | rfl | assumption | exact hp.1 | exact hp.2.1 | exact hp.2.2.1 | exact hp.2.2.2.1
      all_goals try (exfalso; first | omega | contradiction)
      all_goals try first | exact rgE hA hR (by subst hA; simp [arS]; omega) | (subst hA; simp only [arS]; omega) | omega | (rw [hO]; exact enc5_pure O)
      all_goals simp only [e0] at *
      · rename_i hle
        refine W.call 80 (by rfl) (HPop_E L G rows n1 o hn (by omega) hn2 hH hR) (by first | rfl | (subst hA; simp [arS])) (by first | rfl | (subst hA; simp [arS])) ?_
        rintro _ _ _ hp ⟨rfl, m, L', G', R, t1, k1, a1, b1, c1, q1, hm, hpm, hH', hR', ht, hk, ha, hb, hc, hq, rfl, rfl⟩
        have s1 : A.rapp outs (A.rlen outs) [[.int .i64 t1, .int .i64 k1, .int .i64 a1, .int .i64 b1, .int .i64 c1]] = (O ++ [g L 0]).map enc5 := by
          subst hA hO ht hk ha hb hc
          simp only [arS, rappS, List.length_map]
          rw [List.take_of_length_le (by simp), List.drop_eq_nil_of_le (by simp)]
          simp [enc5]
        have hol : outs.length ≤ 50000 := by
          have := hT.perm.length_eq
          simp at this
          rw [hO]; simp; omega
        cbv
        repeat' first | apply And.intro | (apply imC hA; intro) | (apply imN hA; intro) | (apply imI hA; intro) | (apply ndI hA; simp only [Cnd.holds])
        all_goals try simp only [nc, nc2, cmpR, Bool.not_true, Bool.not_false] at *
        all_goals try first | rfl | assumption | exact hp.1 | exact hp.2.1 | exact hp.2.2.1 | exact hp.2.2.2.1
        all_goals try (exfalso; first | omega | contradiction)
        all_goals try first | exact (congrArg pursS s1).trans (enc5_pure _) | (subst hA; simp [arS]; done) | (subst hA; simp [arS]; omega) | (subst hA; simp only [arS, rappS, List.length_append, List.length_take, List.length_drop, List.length_cons, List.length_nil]; omega)
        have hml : L'.length + 1 = L.length := by have := hpm.length_eq; simpa using this
        obtain rfl : m = n := by omega
        refine ih L' G' (O ++ [g L 0]) R _ hm (by omega) hH' hR' s1 (hT.step hpm (heap_le hH hn) (by omega))
      · rename_i hgt
        rw [W.rr]
        refine ⟨rfl, n1, O, L, G, rows, outs, hn, hT, fun x hx => ?_, hH, hR, hO, rfl, rfl⟩
        have := heap_le hH hn x hx
        unfold le at this
        omega
  cbv
  repeat' first | apply And.intro | (apply imC hA; intro) | (apply imN hA; intro) | (apply imI hA; intro) | (apply ndI hA; simp only [Cnd.holds])
  all_goals try simp only [nc, nc2, cmpR, Bool.not_true, Bool.not_false] at *
  all_goals try first | rfl | assumption | exact hp.1 | exact hp.2.1 | exact hp.2.2.1 | exact hp.2.2.2.1
  all_goals try (exfalso; first | omega | contradiction)
  all_goals try (subst hA; simp [arS]; done)
  exact loop n0 L0 G0 [] rows0 [] hn0 hn2 hH0 hR0 rfl (TakeP.start L0 at')
end Go.Ab
