import Derived.Test.YtfbmlpffbjbbfaaQsR
namespace Go.Ab
open Go Go.Proofs Stb HeapM
set_option linter.unusedVariables false
set_option linter.unusedSimpArgs false
set_option maxRecDepth 100000
set_option maxHeartbeats 1000000
theorem gW_cl (L : List Wrk) (i : Nat) : gW (L.map clW) i = clW (gW L i) := by
 unfold gW
 rw [List.getD_eq_getElem?_getD, List.getElem?_map, List.getD_eq_getElem?_getD]
 cases L[i]? <;> rfl
theorem relK_cl (L : List Wrk) (x : Int) : relK L x = (gW (L.map clW) x.toNat).r := by rw [gW_cl]; rfl
theorem sum_nonneg : ∀ (m : List Int), (∀ k < m.length, 0 ≤ m.getD k 0) → 0 ≤ m.sum
 | [], _ => by simp
 | x :: m, h => by
  have h1 := h 0 (by simp)
  have := sum_nonneg m (fun k hk => by have := h (k + 1) (by simpa using hk); simpa using this)
  simp only [List.getD_cons_zero] at h1
  simp only [List.sum_cons]; omega
theorem le_sum {l : List Int} (h0 : ∀ k < l.length, 0 ≤ l.getD k 0) {i : Nat} (hi : i < l.length) : l.getD i 0 ≤ l.sum := by
 have q := sum_set1 l i 0 hi
 have := sum_nonneg (l.set i 0) (fun k hk => by
  rw [getD_set hi]
  split
  ·omega
  ·exact h0 k (by simpa using hk))
 omega
theorem costs_le : ∀ (L : List Wrk), (costsW (L.map clW)).sum ≤ 1048576 * (L.length : Int)
 | [] => by simp [costsW]
 | w :: L => by
  have := costs_le L
  have h := (clZ_bd w.c).2
  simp only [costsW, List.map_cons, List.sum_cons, List.length_cons, clW] at *
  omega
def cmgN (C : List Wrk) (n : Nat) : List Int := ((List.range n).filter fun i => decide (0 < (gW C i).c)).map fun (i : Nat) => (i : Int)
theorem cmgN_succ (C : List Wrk) (n : Nat) : cmgN C (n + 1) = if 0 < (gW C n).c then cmgN C n ++ [(n : Int)] else cmgN C n := by
 unfold cmgN
 rw [List.range_succ, List.filter_append]
 split
 ·rename_i h
  rw [List.filter_cons_of_pos (by simpa using h)]; simp
 ·rename_i h
  rw [List.filter_cons_of_neg (by simpa using h)]; simp
theorem cmgN_mem {C : List Wrk} {n : Nat} {x : Int} : x ∈ cmgN C n ↔ 0 ≤ x ∧ x.toNat < n ∧ 0 < (gW C x.toNat).c := by
 unfold cmgN
 rw [List.mem_map]
 constructor
 ·rintro ⟨i, h, rfl⟩
  rw [List.mem_filter, List.mem_range, decide_eq_true_iff] at h
  rw [Int.toNat_natCast]
  exact ⟨by omega, h.1, h.2⟩
 ·rintro ⟨h1, h2, h3⟩
  exact ⟨x.toNat, by rw [List.mem_filter, List.mem_range, decide_eq_true_iff]; exact ⟨h2, h3⟩, by omega⟩
theorem cmgN_lt (C : List Wrk) (n : Nat) : (cmgN C n).Pairwise (· < ·) := by
 unfold cmgN
 rw [List.pairwise_map]
 refine (List.Pairwise.filter _ List.pairwise_lt_range).imp ?_
 intro a b h; omega
theorem cmgN_len (C : List Wrk) (n : Nat) : (cmgN C n).length ≤ n := by
 unfold cmgN
 rw [List.length_map]
 have := List.length_filter_le (fun i => decide (0 < (gW C i).c)) (List.range n)
 rwa [List.length_range] at this
theorem cmg_of {L : List Wrk} {K : List Int} (hl : L.length ≤ 100000) (h1 : K.Perm (cmgN (L.map clW) L.length)) (h2 : Sd (rkK L) K) : Cmg (L.map clW) K := by
 have hv : ∀ x ∈ K, 0 ≤ x ∧ x.toNat < L.length ∧ 0 < (gW (L.map clW) x.toNat).c := fun x hx => cmgN_mem.1 (h1.mem_iff.1 hx)
 refine ⟨fun x hx => by rw [List.length_map]; exact hv x hx, h1.nodup_iff.2 ((cmgN_lt _ _).imp fun h => by omega), ?_⟩
 refine List.Pairwise.imp_of_mem ?_ h2
 intro a b ha hb h
 have va := hv a ha
 have vb := hv b hb
 rw [← relK_cl, ← relK_cl]
 unfold rkK at h
 omega
theorem cmg_td {L : List Wrk} (hl : L.length ≤ 100000) (n : Nat) (hn : n ≤ L.length) : Td (rkK L) (ltK L) (cmgN (L.map clW) n) := by
 unfold Td
 refine List.Pairwise.imp_of_mem ?_ (cmgN_lt _ _)
 intro a b ha hb h
 have va := cmgN_mem.1 ha
 have vb := cmgN_mem.1 hb
 unfold Tr ltK rkK
 rw [decide_eq_true_iff]
 omega
def RunSP (C : List Wrk) (SP : List Spn) (T : Nat) : Prop :=
 T < 1099511627776 ∧ ChnS C.length 0 SP ∧ (tksS SP).length = T ∧ (runT C T (costsW C) 0).1 = tksS SP ∧ Zr (runT C T (costsW C) 0).2 ∧ outS (relsW C) SP = doneT C T (costsW C) (relsW C) 0
theorem RunSP_of {C : List Wrk} {K : List Int} {p : Nat} {left : List Int} {H : List Evt} {now : Int} {SP : List Spn} (hK : Cmg C K) (I : InvR C K p left H now SP) (hp : ¬ p < K.length) (hH : H.length = 0) (hb : now < 1099511627776) : RunSP C SP now.toNat := by
 have hz : Zr left := fun i hi => by
  have h1 := I.nn i hi
  by_cases h : 0 < left.getD i 0
  ·rcases I.later hK (by rw [← I.len]; exact hi) h with h | h
   ·have := List.length_pos_of_mem (I.hp.mem_iff.2 (List.mem_map_of_mem (f := mkE C) h))
    omega
   ·exact absurd h.1 hp
  ·omega
 have n0 := I.n0
 refine ⟨by omega, I.ch, I.tl, by rw [I.run], by rw [I.run]; exact hz, ?_⟩
 obtain ⟨a1, a2, a3⟩ := I.ag
 apply List.ext_getElem (by omega)
 intro i h1 h2
 have := a3 i (by omega) (hz i (by omega))
 rw [List.getD_eq_getElem?_getD, List.getD_eq_getElem?_getD, List.getElem?_eq_getElem h1, List.getElem?_eq_getElem h2] at this
 exact this
theorem Run54_E (L : List Wrk) (hl : L.length ≤ 50000) : EC Try.prog G11 [] [.r (L.map encW)] fun e rs vs => e = 0 ∧ vs = [] ∧ ∃ (SP : List Spn) (T : Nat), rs = [SP.map encS] ∧ RunSP (L.map clW) SP T := by
 refine E11 fun EV V => ?_
 have hlm : (L.map encW).length = L.length := List.length_map ..
 have hcl : (L.map clW).length = L.length := List.length_map ..
 have hS := costs_le L
 generalize hC : L.map clW = C at *
 have p40 : ∀ (K : List Int) (hK : Cmg C K) (hKl : K.length ≤ L.length) (d p : Nat) (left : List Int) (H G : List Evt) (now : Int) (SP : List Spn), InvR C K p left H now SP → left.sum.toNat + (1048577 - now).toNat < d → EV 40 [ints K, ints left, SP.map encS, (H ++ G).map encH] [.n p, .n (K.length - p), .i now, .r (L.map encW), .n H.length] := by
  intro K hK hKl d
  induction d with
  | zero => intro p left H G now SP _ h; omega
  | succ d ih =>
   intro p left H G now SP I hd
   have i0 := I.n0
   have i1 := I.b1
   have i2 := I.b2
   have i3 := sum_nonneg left I.nn
   have hll : left.length = L.length := by rw [I.len, hcl]
   have hHl : ∀ {p : Nat} {H : List Evt}, InvR C K p left H now SP → H.length ≤ 50000 := fun {p H} I => by
    have h1 := I.hp.length_eq
    rw [List.length_map] at h1
    have h2 := List.length_filter_le (fun x : Int => decide (0 < left.getD x.toNat 0)) (K.take p)
    have h3 : (K.take p).length ≤ K.length := List.length_take_le' ..
    unfold wts at h1
    omega
   have hSP : SP.length ≤ 1099511627776 := by
    have := ChnS_le _ _ I.ch
    have := I.tl
    omega
   have kg : ∀ {p : Nat}, p < K.length → (ints K)[p]? = some [.int .i64 (K.getD p 0)] ∧ 0 ≤ K.getD p 0 ∧ (K.getD p 0).toNat < L.length := fun {p} hp => by
    have h1 := ints_get (l := K) hp
    rw [ints_cI] at h1
    have hg : K.getD p 0 = K[p] := by rw [List.getD_eq_getElem?_getD, List.getElem?_eq_getElem hp]; rfl
    have := hK.vd (K.getD p 0) (by rw [hg]; exact List.getElem_mem ..)
    exact ⟨h1, this.1, by rw [← hcl]; exact this.2.1⟩
   have rl : ∀ x : Int, clZ (gW L x.toNat).r = (gW C x.toNat).r := fun x => by rw [← hC, gW_cl]; rfl
   have dl : ∀ x : Int, clZ (gW L x.toNat).d = (gW C x.toNat).d := fun x => by rw [← hC, gW_cl]; rfl
   have p82 : ∀ (p : Nat) (H G : List Evt) (b k : Int), InvR C K p left H now SP → 0 < H.length → b = (g H 0).o → (p < K.length → now < (gW C (K.getD p 0).toNat).r) → 0 < k → k ≤ left.getD b.toNat 0 → (p < K.length → now + k ≤ (gW C (K.getD p 0).toNat).r) → EV 82 [ints K, ints left, SP.map encS, (H ++ G).map encH] [.n p, .n (K.length - p), .r (L.map encW), .n H.length, .i now, .i (now + k), .i b] := by
    intro p H G b k I hH hb hc k0 kl hn
    have hHL := hHl I
    obtain ⟨b0, hB⟩ := I.best1 hK hc hH
    rw [← hb] at b0 hB
    have hbl : b.toNat < left.length := by
     rw [I.len]
     rcases hB with ⟨h, _⟩ | ⟨_, h, _⟩
     ·omega
     ·exact h
    have hle := le_sum I.nn hbl
    have hss : (left.set b.toNat (left.getD b.toNat 0 - k)).sum = left.sum - k := by rw [sum_set1 _ _ _ hbl]; omega
    have es : SP.map encS ++ [[AV.int .i64 now, AV.int .i64 (now + k), AV.int .i64 b]] = (SP ++ [(⟨now, now + k, b⟩ : Spn)]).map encS := by simp [encS]
    refine V.p82 fun _ _ _ _ => ⟨fun _ => ?_, fun h => by omega⟩
    rw [ints_cI, wrap64 (x := now + k - now) (by omega) (by omega), show now + k - now = k from by omega, wrap64 (x := left.getD b.toNat 0 - k) (by omega) (by omega), ints_set, ints_cI, getD_set hbl, if_pos rfl, List.length_map]
    have g1 := ints_get (l := left) hbl
    rw [ints_cI] at g1
    have g2 := ints_get (l := left.set b.toNat (left.getD b.toNat 0 - k)) (i := b.toNat) (by rw [List.length_set]; exact hbl)
    rw [ints_cI, getD_set hbl, if_pos rfl] at g2
    refine ⟨b0, by rw [ints_length]; omega, g1, g2, fun hz => ?_, fun hz => ?_⟩
    ·obtain ⟨n, hn1⟩ : ∃ n, H.length = n + 1 := ⟨H.length - 1, by omega⟩
     have hhn := I.hn
     rw [hn1] at hhn ⊢
     refine (PopH_E H G n hn1 (by omega) hhn).mono ?_
     rintro _ _ _ ⟨rfl, H', G', rfl, rfl, q1, q2⟩
     have hn2 : H'.length = n := by
      have := q1.length_eq
      simp only [List.length_cons] at this; omega
     have := ih p _ H' G' (now + k) _ (I.span1 hK hH hb hc k0 kl hn (H' := H') (by rw [if_pos hz]; exact ⟨q1, by rw [hn2]; exact q2⟩)) (by rw [hss]; omega)
     rw [hn2] at this
     refine ⟨rfl, _, _, _, _, rfl, rfl, by omega, by omega, ?_⟩
     rw [es]
     exact this
    ·refine ⟨by omega, by omega, ?_⟩
     rw [es]
     exact ih p _ H G (now + k) _ (I.span1 hK hH hb hc k0 kl hn (H' := H) (by rw [if_neg hz])) (by rw [hss]; omega)
   have p70 : ∀ (p : Nat) (H G : List Evt) (b : Int), InvR C K p left H now SP → 0 < H.length → b = (g H 0).o → (p < K.length → now < (gW C (K.getD p 0).toNat).r) → EV 70 [ints K, ints left, SP.map encS, (H ++ G).map encH] [.n p, .n (K.length - p), .r (L.map encW), .n H.length, .i now, .i (now + left.getD b.toNat 0), .i b] := by
    intro p H G b I hH hb hc
    obtain ⟨b0, hB⟩ := I.best1 hK hc hH
    rw [← hb] at b0 hB
    have hbp : 0 < left.getD b.toNat 0 := by
     rcases hB with ⟨h, _⟩ | ⟨_, _, h, _⟩
     ·omega
     ·exact h.2.2
    refine V.p70 fun _ _ _ _ => ⟨fun h => ?_, fun h => p82 p H G b _ I hH hb hc hbp (Int.le_refl _) (fun h => by omega)⟩
    have hp : p < K.length := by omega
    obtain ⟨g1, g2, g3⟩ := kg hp
    simp only [Int.toNat_zero, adzS_eq, Nat.add_zero, ints_cI]
    refine ⟨by omega, g1, g2, encW_get g3, ?_⟩
    rw [(encW_c g3).1]
    refine (clamp_E _).mono ?_
    rintro _ _ _ ⟨rfl, rfl, rfl⟩
    rw [rl]
    have hcp := hc hp
    refine ⟨rfl, _, rfl, rfl, fun _ => ⟨fun h => ?_, fun h => p82 p H G b _ I hH hb hc hbp (Int.le_refl _) (fun _ => by omega)⟩, fun h => by omega⟩
    have := p82 p H G b ((gW C (K.getD p 0).toNat).r - now) I hH hb hc (by omega) (by omega) (fun _ => by omega)
    rwa [show now + ((gW C (K.getD p 0).toNat).r - now) = (gW C (K.getD p 0).toNat).r from by omega] at this
   have p70z : ∀ (p : Nat) (H G : List Evt), InvR C K p left H now SP → H.length = 0 → p < K.length → now < (gW C (K.getD p 0).toNat).r → EV 70 [ints K, ints left, SP.map encS, (H ++ G).map encH] [.n p, .n (K.length - p), .r (L.map encW), .n H.length, .i now, .i now, .i (-1)] := by
    intro p H G I hH hp hcp
    refine V.p70 fun _ _ _ _ => ⟨fun h => ?_, fun h => by omega⟩
    obtain ⟨g1, g2, g3⟩ := kg hp
    simp only [Int.toNat_zero, adzS_eq, Nat.add_zero, ints_cI]
    refine ⟨by omega, g1, g2, encW_get g3, ?_⟩
    rw [(encW_c g3).1]
    refine (clamp_E _).mono ?_
    rintro _ _ _ ⟨rfl, rfl, rfl⟩
    have hb := (clZ_bd (gW L (K.getD p 0).toNat).r).2
    rw [rl] at hb ⊢
    refine ⟨rfl, _, rfl, rfl, fun h => by omega, fun _ => V.p82 fun _ _ _ _ => ⟨fun h => by omega, fun _ => ⟨by rw [List.length_map]; omega, by rw [List.length_map]; omega, ?_⟩⟩⟩
    have := ih p left H G _ _ (I.span0 hK hH hp rfl hcp hb) (by omega)
    rw [List.map_append] at this
    exact this
   have p50 : ∀ (m p : Nat) (H G : List Evt), K.length - p < m → InvR C K p left H now SP → (p < K.length ∨ 0 < H.length) → EV 50 [ints K, ints left, SP.map encS, (H ++ G).map encH] [.n p, .n (K.length - p), .i now, .r (L.map encW), .n H.length] := by
    intro m
    induction m with
    | zero => intro p H G h; omega
    | succ m im =>
     intro p H G hm I ho
     have hHL := hHl I
     have nxt : (p < K.length → now < (gW C (K.getD p 0).toNat).r) → EC Try.prog G16 [(H ++ G).map encH] [(Lf.n H.length)] (fun x rs vs => (x = 0 ∧ ∃ (Y3_0 : List (List AV)) (y3_0 : Int), rs = [Y3_0] ∧ vs = [.i y3_0] ∧
       ((y3_0 > (0 : Int) →
         ((0 : Int) < ((H.length : Nat) : Int)) ∧
         ((List.length ((H ++ G).map encH)) = (List.length Y3_0)) ∧
         (Y3_0[(Int.toNat (0 : Int))]? = some [(AV.int .i64 (cIS Y3_0 (Int.toNat (0 : Int)) 0)), (AV.int .i64 (cIS Y3_0 (Int.toNat (0 : Int)) 1))]) ∧
         ((0 : Int) ≤ (cIS Y3_0 (Int.toNat (0 : Int)) 1)) ∧
         ((cIS Y3_0 (Int.toNat (0 : Int)) 1) < (((List.length (ints left)) : Nat) : Int)) ∧
         ((ints left)[(Int.toNat (cIS Y3_0 (Int.toNat (0 : Int)) 1))]? = some [(AV.int .i64 (cIS (ints left) (Int.toNat (cIS Y3_0 (Int.toNat (0 : Int)) 1)) 0))]) ∧
         (EV 70 [ints K, ints left, SP.map encS, Y3_0] [(Lf.n p), (Lf.n (K.length - p)), (Lf.r (L.map encW)), (Lf.n H.length), (Lf.i now), (Lf.i (IntKind.wrap .i64 (now + (cIS (ints left) (Int.toNat (cIS Y3_0 (Int.toNat (0 : Int)) 1)) 0)))), (Lf.i (cIS Y3_0 (Int.toNat (0 : Int)) 1))])) ∧
        (y3_0 ≤ (0 : Int) →
         ((List.length ((H ++ G).map encH)) = (List.length Y3_0)) ∧
         (EV 70 [ints K, ints left, SP.map encS, Y3_0] [(Lf.n p), (Lf.n (K.length - p)), (Lf.r (L.map encW)), (Lf.n H.length), (Lf.i now), (Lf.i now), (Lf.i (-1))]))))) := fun hc => by
      refine (LenH_E _ _).mono ?_
      rintro _ _ _ ⟨rfl, rfl, rfl⟩
      refine ⟨rfl, _, _, rfl, rfl, fun h => ?_, fun h => ⟨rfl, ?_⟩⟩
      ·have hH : 0 < H.length := by omega
       have hz : 0 < (H ++ G).length := by rw [List.length_append]; omega
       obtain ⟨x, x1, x2, x3, x4⟩ := I.top hK hH
       have ex : (g H 0).o = x := by rw [x2]; rfl
       have e1 : cIS ((H ++ G).map encH) (Int.toNat 0) 1 = (g H 0).o := by rw [Int.toNat_zero, encH_c1 hz, g_app hH]
       have hxl : x.toNat < left.length := by rw [I.len]; exact x4
       have hle := le_sum I.nn hxl
       have := encH_get hz
       refine ⟨by omega, rfl, this, ?_⟩
       rw [e1, ints_length]
       have g1 := ints_get (l := left) hxl
       have g0 := I.nn _ hxl
       rw [ex]
       refine ⟨x3, by omega, g1, ?_⟩
       rw [ints_cI, wrap64 (by omega) (by omega)]
       exact p70 p H G x I hH ex.symm hc
      ·have hH : H.length = 0 := by omega
       have hp : p < K.length := by omega
       exact p70z p H G I hH hp (hc hp)
     refine V.p50 fun _ _ _ _ => ⟨fun h => ?_, fun h => nxt (fun h => by omega)⟩
     have hp : p < K.length := by omega
     obtain ⟨g1, g2, g3⟩ := kg hp
     simp only [Int.toNat_zero, adzS_eq, Nat.add_zero, ints_cI] at nxt ⊢
     refine ⟨by omega, g1, g2, encW_get g3, ?_⟩
     rw [(encW_c g3).1, (encW_c g3).2.2]
     refine (clamp_E _).mono ?_
     rintro _ _ _ ⟨rfl, rfl, rfl⟩
     rw [rl]
     refine ⟨rfl, _, rfl, rfl, fun h1 => ⟨by omega, g1, g2, ?_, ?_⟩, fun h1 => ?_⟩
     ·exact encW_get g3
     ·refine (clamp_E _).mono ?_
      rintro _ _ _ ⟨rfl, rfl, rfl⟩
      rw [dl]
      refine ⟨rfl, _, rfl, rfl, (PushH_E H G H.length rfl (by omega) I.hn (mkE C (K.getD p 0))).mono ?_⟩
      rintro _ _ _ ⟨rfl, H', G', rfl, rfl, q1, q2⟩
      have hl' : H'.length = H.length + 1 := q1.length_eq
      refine ⟨rfl, _, _, rfl, rfl, V.p59 fun _ _ _ _ => ⟨by omega, by omega, ?_⟩⟩
      have := im (p + 1) H' G' (by omega) (I.come hK hp h1 q1 q2) (.inr (by omega))
      rw [hl'] at this
      rwa [show K.length - p - Int.toNat 1 = K.length - (p + 1) from by simp only [Int.toNat_one]; omega]
     ·exact nxt (fun _ => by omega)
   refine V.p40 fun _ _ _ _ => ⟨fun h => ?_, fun h => p50 _ p H G (Nat.lt_succ_self _) I (.inl (by omega))⟩
   refine (LenH_E _ _).mono ?_
   rintro _ _ _ ⟨rfl, rfl, rfl⟩
   refine ⟨rfl, _, _, rfl, rfl, fun h1 => ⟨rfl, p50 _ p H G (Nat.lt_succ_self _) I (.inr (by omega))⟩, fun h1 => ⟨rfl, rfl, SP, _, rfl, RunSP_of hK I (by omega) (by omega) (by omega)⟩⟩
 have p11 : ∀ (ws pre : List Wrk), L = pre ++ ws → EV 11 [ints (cmgN C pre.length), ints (costsW (pre.map clW) ++ List.replicate ws.length 0)] [.r (L.map encW), .i L.length, .i pre.length, .r (L.map encW)] := by
  intro ws
  induction ws with
  | nil =>
   intro pre hp
   rw [List.append_nil] at hp
   subst hp
   refine V.p11 fun _ _ => ⟨fun h => by omega, fun _ => ?_⟩
   refine (SortStable_E (cmpK L) (fun a b ha hb h => rkK_lt (by omega) ha hb h) (cmgN C L.length) (fun x hx => ?_) (by rw [← hC]; exact cmg_td (by omega) _ (Nat.le_refl _)) (by have := cmgN_len C L.length; omega)).mono ?_
   ·have := cmgN_mem.1 hx
    exact ⟨this.1, this.2.1⟩
   rintro _ _ _ ⟨rfl, K, rfl, rfl, q1, q2⟩
   have hK : Cmg C K := by rw [← hC] at q1 ⊢; exact cmg_of (by omega) q1 q2
   have hKl : K.length ≤ L.length := by rw [q1.length_eq]; exact cmgN_len ..
   refine ⟨rfl, _, _, rfl, rfl, by rw [ints_length, ints_length, q1.length_eq], ?_⟩
   have hI : InvR C K 0 (costsW C) [] 0 [] := by
    refine ⟨by simp [costsW], Nat.zero_le _, fun i hi => ?_, fun i hi h => ?_, fun x hx => ?_, fun x hx => by simp at hx, by simp [wts], fun a h0 hn => by simp at hn, rfl, ⟨by simp [outS, relsW, costsW], by rw [doneT_len]; simp [relsW, costsW], fun i hi h => rfl⟩, trivial, Int.le_refl _, by omega, Int.le_refl _⟩
    ·rw [costsW_get, ← hC, gW_cl]; exact (clZ_bd _).1
    ·rw [costsW_get] at h
     exact q1.mem_iff.2 (cmgN_mem.2 ⟨by omega, by rw [Int.toNat_natCast, ← hcl]; simpa [costsW] using hi, by rw [Int.toNat_natCast]; exact h⟩)
    ·rw [costsW_get]; exact (hK.vd x (by simpa using hx)).2.2
   have := p40 K hK hKl _ 0 (costsW C) [] [] 0 [] hI (Nat.lt_succ_self _)
   rw [ints_length, ← q1.length_eq]
   rw [hC]
   simp only [List.length_nil, List.replicate_zero, List.append_nil, List.map_nil] at this ⊢
   exact this
  | cons w ws ih =>
   intro pre hp
   have hlen := congrArg List.length hp
   rw [List.length_append, List.length_cons] at hlen
   have hw : gW L pre.length = w := by rw [hp]; unfold gW; simp [List.getD_eq_getElem?_getD]
   have hwc : (gW C pre.length).c = clZ w.c := by rw [← hC, gW_cl, hw]; rfl
   have hcp : (costsW (pre.map clW)).length = pre.length := by simp [costsW]
   have es : (costsW (pre.map clW) ++ List.replicate (ws.length + 1) 0).set pre.length (clZ w.c) = costsW ((pre ++ [w]).map clW) ++ List.replicate ws.length 0 := by
    rw [List.set_append_right _ _ (by omega), hcp, Nat.sub_self, List.replicate_succ, List.set_cons_zero]
    simp [costsW, clW]
   have hi : (pre.length + 1 : Nat) = (pre ++ [w]).length := by simp
   have := ih (pre ++ [w]) (by rw [hp]; simp)
   rw [← hi, cmgN_succ, hwc] at this
   have hcl2 := cmgN_len C pre.length
   refine V.p11 fun _ _ => ⟨fun h => ?_, fun h => by omega⟩
   rw [Int.toNat_natCast]
   refine ⟨by omega, encW_get (by omega), ?_⟩
   rw [(encW_c (L := L) (i := pre.length) (by omega)).2.1, hw]
   refine (clamp_E _).mono ?_
   rintro _ _ _ ⟨rfl, rfl, rfl⟩
   have hln : pre.length < (costsW (pre.map clW) ++ List.replicate (ws.length + 1) 0).length := by rw [List.length_append, hcp, List.length_replicate]; omega
   refine ⟨rfl, _, rfl, rfl, by omega, by rw [ints_length]; rw [List.length_cons] at *; omega, ints_get hln, ?_⟩
   rw [List.length_cons, ints_set, es, ints_cI, sW (n := pre.length + 1) (by omega) (by omega)]
   have hln2 : pre.length < (costsW ((pre ++ [w]).map clW) ++ List.replicate ws.length 0).length := by rw [← es, List.length_set]; exact hln
   have eg : (costsW ((pre ++ [w]).map clW) ++ List.replicate ws.length 0).getD pre.length 0 = clZ w.c := by
    rw [← es, getD_set hln, if_pos rfl]
   have gg := ints_get hln2
   rw [ints_cI] at gg
   refine ⟨gg, ?_⟩
   rw [eg]
   refine ⟨fun h1 => ?_, fun h1 => ?_⟩
   ·rw [if_pos h1] at this
    show (ints (cmgN C pre.length)).length + 1 ≤ _ ∧ ((ints (cmgN C pre.length)).length + 1) * 8 ≤ _ ∧ EV 11 [ints (cmgN C pre.length) ++ [[AV.int .i64 (pre.length : Int)]], _] _
    refine ⟨by rw [ints_length]; omega, by rw [ints_length]; omega, ?_⟩
    rw [ints_append]
    exact this
   ·rw [if_neg (by omega)] at this
    exact this
 rw [hlm]
 refine ⟨by omega, by omega, ?_⟩
 have := p11 L [] rfl
 have e : List.replicate L.length [AV.int .i64 0] = ints (List.replicate L.length 0) := by simp [ints]
 rw [e]
 exact this
end Go.Ab
