import Derived.Test.YtfbmlpffbjbbfaaQsZ
import Derived.Test.YtfbmlpffbjbbfaaQsA
namespace Go.Ab
open Go Go.Proofs
set_option linter.unusedVariables false
set_option linter.unusedSimpArgs false
set_option maxRecDepth 100000
set_option maxHeartbeats 1000000
def b8 (Z : List Int) : List (List AV) := Z.map fun z => [AV.int .u8 z]
theorem exU8 : ∀ {rows : List (List AV)}, (∀ r ∈ rows, GdL [.int .u8] r) → ∃ Z : List Int, rows = b8 Z ∧ ∀ z ∈ Z, 0 ≤ z ∧ z ≤ 255
 | [], _ => ⟨[], rfl, fun z hz => by cases hz⟩
 | r :: rows, h => by
  obtain ⟨Z, h1, h2⟩ := exU8 (rows := rows) fun r hr => h r (by simp [hr])
  have h0 := h r (by simp)
  simp only [GdL, GdC] at h0
  obtain ⟨x, _, rfl, ⟨n, rfl, hw⟩, rfl⟩ := h0
  simp only [Lit.wf, Bool.and_eq_true, decide_eq_true_eq] at hw
  have hw0 : 0 ≤ n := hw.1
  have hw1 : n ≤ 255 := hw.2
  refine ⟨n :: Z, by rw [h1]; rfl, fun z hz => ?_⟩
  rcases List.mem_cons.1 hz with rfl | hz
  ·exact ⟨hw0, hw1⟩
  ·exact h2 z hz
theorem b8_c {Z : List Int} {i : Nat} (h : i < Z.length) : cIS (b8 Z) i 0 = Z.getD i 0 := by
 unfold cIS cellS b8
 rw [List.getElem?_map, List.getElem?_eq_getElem h, List.getD_eq_getElem?_getD, List.getElem?_eq_getElem h]; rfl
theorem b8_get {Z : List Int} {i : Nat} (h : i < Z.length) : (b8 Z)[i]? = some [.int .u8 (cIS (b8 Z) i 0)] := by
 rw [b8_c h, b8, List.getElem?_map, List.getElem?_eq_getElem h, List.getD_eq_getElem?_getD, List.getElem?_eq_getElem h]; rfl
def bb (B : List Bool) : List (List AV) := B.map fun b => [AV.bool b]
theorem bb_c {B : List Bool} {i : Nat} (h : i < B.length) : cBS (bb B) i 0 = B.getD i false := by
 unfold cBS cellS bb
 rw [List.getElem?_map, List.getElem?_eq_getElem h, List.getD_eq_getElem?_getD, List.getElem?_eq_getElem h]; rfl
theorem bb_get {B : List Bool} {i : Nat} (h : i < B.length) : (bb B)[i]? = some [.bool (cBS (bb B) i 0)] := by
 rw [bb_c h, bb, List.getElem?_map, List.getElem?_eq_getElem h, List.getD_eq_getElem?_getD, List.getElem?_eq_getElem h]; rfl
theorem bb_set (B : List Bool) (i : Nat) : (bb B).set i [.bool true] = bb (B.set i true) := by rw [bb, bb, List.map_set]
theorem encW_set (M : List Wrk) (i : Nat) (a b c : Int) : (M.map encW).set i [.int .i64 a, .int .i64 b, .int .i64 c] = (M.set i ⟨a, b, c⟩).map encW := by rw [List.map_set]; rfl
theorem set_sameB {B : List Bool} {i : Nat} (h : i < B.length) (hb : B.getD i false = true) : B.set i true = B := by
 apply List.ext_getElem?
 intro j
 rw [List.getElem?_set]
 split
 ·rename_i e
  subst e
  try rw [if_pos h]
  rw [List.getD_eq_getElem?_getD, List.getElem?_eq_getElem h] at hb
  rw [List.getElem?_eq_getElem h]
  exact congrArg some hb.symm
 ·rfl
theorem EdfBest3 (l0 : List (List AV)) (_ : l0.length ≤ maxLen) (g0 : ∀ r ∈ l0, GdL [.int .u8] r) (l1 : List (List AV)) (_ : l1.length ≤ maxLen) (g1 : ∀ r ∈ l1, GdL [.int .u8] r) (l2 : List (List AV)) (_ : l2.length ≤ maxLen) (g2 : ∀ r ∈ l2, GdL [.int .u8] r) :
  EC Try.prog G3 [] [.r l0, .r l1, .r l2] fun x rs vs => x = 0 ∧ vs = [.b true] := by
 obtain ⟨Z, rfl, hZ⟩ := exU8 g0
 obtain ⟨A1, rfl, hA1⟩ := exU8 g1
 obtain ⟨A2, rfl, hA2⟩ := exU8 g2
 have lenb : ∀ Z : List Int, (b8 Z).length = Z.length := fun Z => by simp [b8]
 refine E3 fun EV V => fixed22.mono ?_
 rintro _ _ _ ⟨rfl, rfl, rfl⟩
 refine ⟨rfl, _, rfl, rfl, fun h => (by cases h), fun _ => ⟨fun _ => ⟨rfl, rfl⟩, fun h100 => ?_⟩⟩
 rw [lenb] at h100
 obtain ⟨K, hK⟩ : ∃ K : List Int, K = Z.map (· % 8) := ⟨_, rfl⟩
 have hKg : ∀ s : Nat, s < Z.length → K.getD s 0 = Z.getD s 0 % 8 := fun s hs => by
  rw [hK, List.getD_eq_getElem?_getD, List.getD_eq_getElem?_getD, List.getElem?_map, List.getElem?_eq_getElem hs]; rfl
 have hZg : ∀ s : Nat, s < Z.length → 0 ≤ Z.getD s 0 ∧ Z.getD s 0 ≤ 255 := fun s hs => by
  rw [List.getD_eq_getElem?_getD, List.getElem?_eq_getElem hs]; exact hZ _ (List.getElem_mem hs)
 have hK8 : ∀ s : Nat, s < Z.length → 0 ≤ K.getD s 0 ∧ K.getD s 0 < 8 := fun s hs => by rw [hKg s hs]; omega
 have p56 : ∀ (d m : Nat) (C : List Wrk), m + d = 8 → Got K Z.length C → (∀ k : Nat, k < 8 → (gW C k).d ≤ 355 ∧ (m ≤ k → (gW C k).d ≤ 100)) → EV 56 [C.map encW] [.r (b8 A1), .r (b8 A2), .n 0, .i (m : Int)] := by
  intro d
  induction d with
  | zero =>
   intro m C hm G hd
   have hl := G.len
   refine V.p56 fun _ => ⟨fun h => by omega, fun _ => ⟨rfl, by rw [List.length_map]; exact hl, (Late_E C (by omega)).mono ?_⟩⟩
   rintro _ _ _ ⟨rfl, rfl, T, hT, rfl⟩
   have hid : C.map clW = C := cl_id8 (n := 1000) (by omega) fun w hw => by
    obtain ⟨j, hj, rfl⟩ := List.getElem_of_mem hw
    have hg : gW C j = C[j] := by unfold gW; rw [List.getD_eq_getElem?_getD, List.getElem?_eq_getElem hj]; rfl
    rw [← hg]
    have h1 := G.c j (by omega)
    have h2 := cntK_b K j Z.length
    have h3 := G.rd j (by omega)
    have h4 := hd j (by omega)
    omega
   rw [hid] at hT ⊢
   rw [got_none G hK8 hT]
   exact ⟨rfl, _, rfl, rfl, rfl, rfl⟩
  | succ d ih =>
   intro m C hm G hd
   have hl := G.len
   have hmC : m < C.length := by omega
   have p72 : ∀ C : List Wrk, Got K Z.length C → (∀ k : Nat, k < 8 → (gW C k).d ≤ 355 ∧ (m ≤ k → (gW C k).d ≤ 100)) → EV 72 [C.map encW] [.r (b8 A1), .r (b8 A2), .n 0, .i (m : Int), .i (m : Int)] := by
    intro C G hd
    have hl := G.len
    have hmC : m < C.length := by omega
    have hrd := G.rd m (by omega)
    have hdm := (hd m (by omega)).2 (Nat.le_refl _)
    refine V.p72 fun _ => ⟨fun h => ?_, fun _ => ?_⟩
    ·rw [lenb] at h
     have hm2 : m < A2.length := by omega
     have ha : 0 ≤ A2.getD m 0 ∧ A2.getD m 0 ≤ 255 := by
      rw [List.getD_eq_getElem?_getD, List.getElem?_eq_getElem hm2]; exact hA2 _ (List.getElem_mem hm2)
     simp only [Int.toNat_natCast]
     refine ⟨by omega, b8_get hm2, by omega, trivial, encW_get hmC, ?_⟩
     rw [b8_c hm2, (encW_c hmC).1, (encW_c hmC).2.1, (encW_c hmC).2.2, wrap64 (x := A2.getD m 0) (by omega) (by omega), wrap64 (x := (gW C m).d + A2.getD m 0) (by omega) (by omega), encW_set, wrap64 (by omega) (by omega), show (m : Int) + 1 = ((m + 1 : Nat) : Int) by omega]
     refine ih (m + 1) _ (by omega) (G.wider (by omega) hrd.1 (Int.le_refl _) (by omega)) fun k hk => ?_
     rw [gW_set hmC]
     have := hd k hk
     by_cases e : k = m
     ·subst e
      rw [if_pos rfl]
      exact ⟨by show (gW C k).d + A2.getD k 0 ≤ 355; omega, fun h => by omega⟩
     ·rw [if_neg e]; exact ⟨this.1, fun h => this.2 (by omega)⟩
    ·rw [wrap64 (by omega) (by omega), show (m : Int) + 1 = ((m + 1 : Nat) : Int) by omega]
     exact ih (m + 1) C (by omega) G fun k hk => ⟨(hd k hk).1, fun h => (hd k hk).2 (by omega)⟩
   have hrd := G.rd m (by omega)
   have hdm := (hd m (by omega)).2 (Nat.le_refl _)
   refine V.p56 fun _ => ⟨fun _ => ⟨fun h => ?_, fun _ => p72 C G hd⟩, fun h => by omega⟩
   rw [lenb] at h
   have hm1 : m < A1.length := by omega
   have ha : 0 ≤ A1.getD m 0 ∧ A1.getD m 0 ≤ 255 := by
    rw [List.getD_eq_getElem?_getD, List.getElem?_eq_getElem hm1]; exact hA1 _ (List.getElem_mem hm1)
   simp only [Int.toNat_natCast]
   refine ⟨by omega, b8_get hm1, by omega, trivial, encW_get hmC, ?_⟩
   rw [b8_c hm1, (encW_c hmC).1, (encW_c hmC).2.1, (encW_c hmC).2.2, wrap64 (x := A1.getD m 0) (by omega) (by omega), wrap64 (x := (gW C m).r - A1.getD m 0) (by omega) (by omega), mxS, encW_set]
   refine p72 _ (G.wider (by omega) (by omega) (by omega) (Int.le_refl _)) fun k hk => ?_
   rw [gW_set hmC]
   by_cases e : k = m
   ·subst e; rw [if_pos rfl]; exact hd k hk
   ·rw [if_neg e]; exact hd k hk
 have p27 : ∀ (d t : Nat) (B : List Bool) (L : List Wrk), t + d = Z.length → Got1 K t B L → EV 27 [L.map encW, bb B] [.r (b8 A1), .r (b8 A2), .n 0, .n 0, .r (b8 Z), .i (Z.length : Int), .i (t : Int)] := by
  intro d
  induction d with
  | zero =>
   intro t B L ht G
   obtain rfl : t = Z.length := by omega
   refine V.p27 fun _ _ => ⟨fun h => by omega, fun _ => p56 8 0 L (by omega) G.g fun k hk => ?_⟩
   have := G.d k hk
   omega
  | succ d ih =>
   intro t B L ht G
   have hl := G.g.len
   have hbl := G.bl
   have htl : t < Z.length := by omega
   obtain ⟨k, hk⟩ : ∃ k : Nat, K.getD t 0 = (k : Int) := ⟨(K.getD t 0).toNat, by have := hK8 t htl; omega⟩
   have hk8 : k < 8 := by have := hK8 t htl; omega
   have ek : IntKind.wrap .i64 (Int.tmod (cIS (b8 Z) t 0) 8) = (k : Int) := by
    have := hZg t htl
    rw [b8_c htl, Int.tmod_eq_emod_of_nonneg this.1, ← hKg t htl, hk, wrap64 (by omega) (by omega)]
   have hkL : k < L.length := by omega
   have hc := cntK_b K k t
   have hc2 := G.g.c k hk8
   have hnext := ih (t + 1) _ _ (by omega) (G.step hk8 hk)
   refine V.p27 fun _ _ => ⟨fun _ => ?_, fun h => by omega⟩
   simp only [Int.toNat_natCast, ek]
   refine ⟨by omega, b8_get htl, by omega, by omega, trivial, bb_get (by omega), fun hb => ?_, fun hb => ?_⟩
   ·rw [bb_c (by omega)] at hb
    rw [if_neg (by rw [hb]; simp)] at hnext
    have hs : ∀ w : Wrk, k < (L.set k w).length := fun w => by simpa using hkL
    have hg : ∀ w : Wrk, gW (L.set k w) k = w := fun w => by rw [gW_set hkL, if_pos rfl]
    have hg2 : ∀ w w2 : Wrk, gW ((L.set k w).set k w2) k = w2 := fun w w2 => by rw [List.set_set, hg]
    refine ⟨by omega, by omega, trivial, encW_get hkL, trivial, bb_get (by omega), ?_⟩
    rw [(encW_c hkL).2.1, (encW_c hkL).2.2, encW_set, (encW_c (hs _)).1, (encW_c (hs _)).2.1, (encW_c (hs _)).2.2, hg]
    simp only
    rw [wrap64 (x := (gW L k).c + 1) (by omega) (by omega), encW_set]
    refine ⟨encW_get (hs _), encW_get (by rw [List.set_set]; exact hs _), ?_⟩
    rw [(encW_c (by rw [List.set_set]; exact hs _)).1, (encW_c (by rw [List.set_set]; exact hs _)).2.1, hg2]
    simp only
    rw [encW_set, List.set_set, List.set_set, bb_set, wrap64 (by omega) (by omega), show (t : Int) + 1 = ((t + 1 : Nat) : Int) by omega]
    have e2 : ((t : Int) + 1) = ((t + 1 : Nat) : Int) := by omega
    rw [e2] at hnext
    exact hnext
   ·rw [bb_c (by omega)] at hb
    rw [if_pos hb, set_sameB (by omega) hb] at hnext
    have hs : ∀ w : Wrk, k < (L.set k w).length := fun w => by simpa using hkL
    have hg : ∀ w : Wrk, gW (L.set k w) k = w := fun w => by rw [gW_set hkL, if_pos rfl]
    refine ⟨by omega, by omega, trivial, encW_get hkL, ?_⟩
    rw [(encW_c hkL).1, (encW_c hkL).2.1, (encW_c hkL).2.2, wrap64 (x := (gW L k).c + 1) (by omega) (by omega), encW_set]
    refine ⟨encW_get (hs _), ?_⟩
    rw [(encW_c (hs _)).1, (encW_c (hs _)).2.1, hg]
    simp only
    rw [encW_set, List.set_set, wrap64 (by omega) (by omega), show (t : Int) + 1 = ((t + 1 : Nat) : Int) by omega]
    have e2 : ((t : Int) + 1) = ((t + 1 : Nat) : Int) := by omega
    rw [e2] at hnext
    exact hnext
 rw [lenb]
 have hz : ∀ k : Nat, gW (List.replicate 8 (⟨0, 0, 0⟩ : Wrk)) k = ⟨0, 0, 0⟩ := fun k => by
  unfold gW
  rw [List.getD_eq_getElem?_getD, List.getElem?_replicate]
  split <;> rfl
 refine p27 Z.length 0 (List.replicate 8 false) (List.replicate 8 ⟨0, 0, 0⟩) (by omega) ⟨by simp, ⟨by simp, fun k hk => ?_, fun s hs => by omega, fun k hk => ?_⟩, fun k hk _ s hs => by omega, fun k hk => ?_⟩
 ·rw [hz]; rfl
 ·rw [hz]; exact ⟨Int.le_refl _, Int.le_refl _⟩
 ·rw [hz]; exact Int.le_refl _
end Go.Ab
