/- StatsRanks: the walk of the law. For every input. -/
import Derived.Test.YtjkjcfpphhionaaStatsC
import Derived.Test.YtjkjcfpphhionaaAbLaw
namespace Go.Ab
open Go Go.Proofs
set_option linter.unusedVariables false
set_option linter.unusedSimpArgs false
set_option maxRecDepth 100000
set_option maxHeartbeats 1000000

theorem sum_nonneg : ∀ {l : List Int}, (∀ x ∈ l, 0 ≤ x) → 0 ≤ l.sum
  | [], _ => by simp
  | x :: l, h => by
    have h1 := h x (by simp)
    have h2 := sum_nonneg (l := l) fun y hy => h y (by simp [hy])
    simp only [List.sum_cons]; omega
theorem sum_set : ∀ (l : List Int) (i : Nat) (v : Int), i < l.length → (l.set i v).sum = l.sum - l.getD i 0 + v
  | [], i, v, h => by simp at h
  | x :: l, 0, v, h => by simp; omega
  | x :: l, i + 1, v, h => by
    have := sum_set l i v (by simpa using h)
    simp only [List.set_cons_succ, List.sum_cons, this, List.getD_cons_succ]; omega
theorem le_sum : ∀ {l : List Int}, (∀ x ∈ l, 0 ≤ x) → ∀ i, l.getD i 0 ≤ l.sum
  | [], _, i => by simp
  | x :: l, h, 0 => by
    have := sum_nonneg (l := l) fun y hy => h y (by simp [hy])
    simp; omega
  | x :: l, h, i + 1 => by
    have h1 := h x (by simp)
    have := le_sum (l := l) (fun y hy => h y (by simp [hy])) i
    simp only [List.getD_cons_succ, List.sum_cons]; omega
theorem getD_nonneg {l : List Int} (h : ∀ x ∈ l, 0 ≤ x) (i : Nat) : 0 ≤ l.getD i 0 := by
  rw [List.getD_eq_getElem?_getD]
  cases hi : l[i]? with
  | none => simp
  | some x => exact h x (List.mem_of_getElem? hi)
theorem sumW_eq : ∀ (l : List Int) (s : Int), (∀ x ∈ l, 0 ≤ x) → 0 ≤ s → s + l.sum ≤ 9223372036854775807 → sumW l s = s + l.sum
  | [], s, _, _, _ => by simp [sumW]
  | x :: l, s, h, hs, hb => by
    have h1 := h x (by simp)
    have hl : ∀ y ∈ l, 0 ≤ y := fun y hy => h y (by simp [hy])
    have h2 := sum_nonneg hl
    simp only [List.sum_cons] at hb ⊢
    have := sumW_eq l (s + x) hl (by omega) (by omega)
    show sumW l (IntKind.wrap .i64 (s + x)) = _
    rw [wrap64 (by omega) (by omega), this]; omega
theorem hist_sum {w many : Int} (hc : binC w many) : ∀ (L H : List Int), (∀ x ∈ H, 0 ≤ x) → H.length = many.toNat → H.sum + L.length ≤ 10000 → (∀ x ∈ L.foldl (hstep w many) H, 0 ≤ x) ∧ (L.foldl (hstep w many) H).sum = H.sum + L.length
  | [], H, h, _, _ => ⟨h, by simp⟩
  | x :: L, H, h, hl, hb => by
    obtain ⟨b1, b2⟩ := binZ_b (x := x) hc
    have hi : (binZ x w many).toNat < H.length := by omega
    have g1 := getD_nonneg h (binZ x w many).toNat
    have g2 := le_sum h (binZ x w many).toNat
    have ew : IntKind.wrap .i64 (cIS (ints H) (binZ x w many).toNat 0 + 1) = H.getD (binZ x w many).toNat 0 + 1 := by
      rw [ints_cI, wrap64 (by omega) (by simp only [List.length_cons] at hb; omega)]
    have es : (hstep w many H x).sum = H.sum + 1 := by
      unfold hstep
      rw [ew, sum_set _ _ _ hi]; omega
    have hp : ∀ y ∈ hstep w many H x, 0 ≤ y := fun y hy => by
      unfold hstep at hy
      rw [ew] at hy
      rcases List.mem_or_eq_of_mem_set hy with hy | rfl
      · exact h y hy
      · omega
    simp only [List.length_cons] at hb
    obtain ⟨k1, k2⟩ := hist_sum hc L (hstep w many H x) hp (by rw [hstep_len, hl]) (by rw [es]; omega)
    refine ⟨k1, ?_⟩
    rw [List.foldl_cons, k2, es, List.length_cons]; omega
theorem rep_sum (n : Nat) : (List.replicate n (0 : Int)).sum = 0 := by
  induction n with
  | zero => rfl
  | succ n ih => rw [List.replicate_succ, List.sum_cons, ih]; rfl
theorem hist_tot {w many : Int} (hc : binC w many) (L : List Int) (hl : L.length ≤ 1000) : sumW (hist w many L) 0 = L.length := by
  have hz : ∀ x ∈ List.replicate many.toNat (0 : Int), 0 ≤ x := fun x hx => by rw [List.eq_of_mem_replicate hx]; exact Int.le_refl _
  obtain ⟨h1, h2⟩ := hist_sum hc L (List.replicate many.toNat 0) hz (by simp) (by rw [rep_sum]; omega)
  rw [rep_sum] at h2
  have h2 : (hist w many L).sum = 0 + L.length := h2
  have h1 : ∀ x ∈ hist w many L, 0 ≤ x := h1
  rw [sumW_eq _ _ h1 (by omega) (by rw [h2]; omega), h2]; omega
theorem SL_mono (L : List Int) {i k : Nat} (hik : i ≤ k) (hk : k < L.length) : cIS (ints (SL L)) i 0 ≤ cIS (ints (SL L)) k 0 := by
  rw [ints_cI, ints_cI, List.getD_eq_getElem?_getD, List.getD_eq_getElem?_getD]
  have hS := SL_len L
  rw [List.getElem?_eq_getElem (by omega), List.getElem?_eq_getElem (by omega)]
  simp only [Option.getD_some]
  rcases Nat.eq_or_lt_of_le hik with rfl | h
  · exact Int.le_refl _
  · exact List.pairwise_iff_getElem.1 (sortI_le _) i k (by rw [show (sortI (L.map clampI)).length = (SL L).length from rfl]; omega) (by rw [show (sortI (L.map clampI)).length = (SL L).length from rfl]; omega) h

theorem u8b {x : Int} (h : (Lit.int .u8 x).wf = true) : 0 ≤ x ∧ x ≤ 255 := by
  simp only [Lit.wf, Bool.and_eq_true, decide_eq_true_eq] at h
  have e1 : IntKind.min .u8 = 0 := rfl
  have e2 : IntKind.max .u8 = 255 := rfl
  rw [e1, e2] at h; exact h

theorem atQ_mono {n : Nat} {a b of : Int} (h1 : 1 ≤ of) (hab : a ≤ b) : atQ n a of ≤ atQ n b of := by
  unfold atQ
  refine Int.ediv_le_ediv (by omega) ?_
  have := Int.mul_le_mul_of_nonneg_left hab (show (0 : Int) ≤ (n : Int) by omega)
  omega

theorem Ranks35 (l : List (List AV)) (hl : l.length ≤ maxLen) (g : ∀ r ∈ l, GdL [.int .i64] r) (p : Int) (hp : (Lit.int .u8 p).wf = true) (q : Int) (hq : (Lit.int .u8 q).wf = true) (w : Int) (hw8 : (Lit.int .u8 w).wf = true) (many : Int) (hm8 : (Lit.int .u8 many).wf = true) : EC Try.prog G7 [] [.r l, .i p, .i q, .i w, .i many] fun x rs vs => x = 0 ∧ vs = [.b true] := by
  obtain ⟨L, rfl, hw⟩ := exCw g
  have hx : ∀ x ∈ L, x ≤ 9223372036854775807 := fun x h => (hw x h).2
  have p8 := u8b hp
  have q8 := u8b hq
  have w8 := u8b hw8
  have m8 := u8b hm8
  refine E7 fun EV V => fixed18.mono ?_
  rintro _ _ _ ⟨rfl, rfl, rfl⟩
  rw [ints_length]
  refine ⟨rfl, _, rfl, rfl, fun h => (by cases h), fun _ => ⟨fun _ => ⟨rfl, rfl⟩, fun h200 => ?_⟩⟩
  have hl : L.length ≤ 1000 := by omega
  have hS := SL_len L
  rw [mnS, mxS, wrap64 (x := min p q) (by omega) (by omega), wrap64 (x := max p q) (by omega) (by omega), wrap64 (x := w) (by omega) (by omega), wrap64 (x := many) (by omega) (by omega), wrap64 (x := 1 + w) (by omega) (by omega), wrap64 (x := 1 + many) (by omega) (by omega)]
  have hc : binC (1 + w) (1 + many) := ⟨by omega, by omega, by omega, by omega⟩
  have htot := hist_tot hc L hl
  obtain ⟨lo, elo⟩ : ∃ lo, lo = min p q := ⟨_, rfl⟩
  obtain ⟨hi, ehi⟩ : ∃ hi, hi = max p q := ⟨_, rfl⟩
  rw [← elo, ← ehi]
  have hhl : (hist (1 + w) (1 + many) L).length ≤ 256 := by unfold hist; rw [hist_len]; simp; omega
  have p31 : ∀ (a : Int) (ok : Bool) (b : Int) (is : Bool) (s0 s1 s2 s3 s4 : Int), EV 43 [] [.r (ints L), .i a, .b ok, .i b, .b is, .i L.length, .i s0, .i s1, .i s2, .i s3, .i s4] → ∀ (d m : Nat) (s : Int), (hist (1 + w) (1 + many) L).length - m < d → m ≤ (hist (1 + w) (1 + many) L).length → sumW ((hist (1 + w) (1 + many) L).drop m) s = L.length →
      EV 31 [ints (hist (1 + w) (1 + many) L)] [.r (ints L), .i a, .b ok, .i b, .b is, .i s, .i (hist (1 + w) (1 + many) L).length, .i m, .i s0, .i s1, .i s2, .i s3, .i s4] := by
    intro a ok b is s0 s1 s2 s3 s4 h43 d
    induction d with
    | zero => intro m s hd; omega
    | succ d ih =>
      intro m s hd hm hs
      refine V.p31 fun _ => ⟨fun hlt => ?_, fun hge => ?_⟩
      · have hmL : m < (hist (1 + w) (1 + many) L).length := by omega
        rw [Int.toNat_natCast, show IntKind.wrap .i64 ((m : Int) + 1) = ((m + 1 : Nat) : Int) by rw [wrap64 (by omega) (by omega)]; rfl]
        refine ⟨by omega, by rw [ints_length]; omega, ints_get hmL, ih (m + 1) _ (by omega) (by omega) ?_⟩
        rw [drop_cI hmL] at hs
        exact hs
      · rw [List.drop_of_length_le (by omega)] at hs
        have hs : s = L.length := hs
        rw [hs]
        exact h43
  by_cases h0 : L.length = 0
  · obtain rfl := List.eq_nil_of_length_eq_zero h0
    have nr : ∀ part of, ¬ rankC ([] : List Int).length part of := fun part of h => h.1 rfl
    refine (Rank_E [] hl lo 255).mono ?_
    rintro _ _ _ ⟨rfl, rfl, rfl⟩
    rw [if_neg (nr _ _)]
    refine ⟨rfl, _, _, rfl, rfl, (Rank_E [] hl hi 255).mono ?_⟩
    rintro _ _ _ ⟨rfl, rfl, rfl⟩
    rw [if_neg (nr _ _)]
    refine ⟨rfl, _, _, rfl, rfl, Of_nil.mono ?_⟩
    rintro _ _ _ ⟨rfl, rfl, rfl⟩
    refine ⟨rfl, _, _, _, _, _, rfl, rfl, (Bins_E [] hl hx (1 + w) (1 + many)).mono ?_⟩
    rintro _ _ _ ⟨rfl, rfl, rfl⟩
    rw [if_pos hc]
    refine ⟨rfl, _, rfl, rfl, ?_⟩
    rw [ints_length]
    refine p31 _ _ _ _ _ _ _ _ _ (V.p43 ⟨fun _ => ⟨fun _ => ⟨fun _ => ⟨rfl, rfl⟩, fun h => by cases h⟩, fun h => by cases h⟩, fun h => absurd rfl h⟩) _ 0 0 (Nat.lt_succ_self _) (Nat.zero_le _) htot
  · have rc : ∀ part of, 1 ≤ of → of ≤ 1048576 → 0 ≤ part → part ≤ of → rankC L.length part of := fun part of a b c d => ⟨h0, a, b, c, d⟩
    have rlo := rc lo 255 (by omega) (by omega) (by omega) (by omega)
    have rhi := rc hi 255 (by omega) (by omega) (by omega) (by omega)
    have r0 := rc 0 1 (by omega) (by omega) (by omega) (by omega)
    have r1 := rc 1 1 (by omega) (by omega) (by omega) (by omega)
    have e0 : atQ L.length 0 1 = 0 := by unfold atQ; simp
    have e1 : atQ L.length 1 1 = L.length := by unfold atQ; simp
    have bl := (atQ_b rlo hl).2.2.2.2.2
    have bh := (atQ_b rhi hl).2.2.2.2.2
    have hmo := atQ_mono (n := L.length) (of := 255) (by omega) (show lo ≤ hi by omega)
    refine (Rank_E L hl lo 255).mono ?_
    rintro _ _ _ ⟨rfl, rfl, rfl⟩
    rw [if_pos rlo]
    refine ⟨rfl, _, _, rfl, rfl, (Rank_E L hl hi 255).mono ?_⟩
    rintro _ _ _ ⟨rfl, rfl, rfl⟩
    rw [if_pos rhi]
    refine ⟨rfl, _, _, rfl, rfl, (Of_E L h0 hl).mono ?_⟩
    rintro _ _ _ ⟨rfl, rfl, rfl⟩
    refine ⟨rfl, _, _, _, _, _, rfl, rfl, (Bins_E L hl hx (1 + w) (1 + many)).mono ?_⟩
    rintro _ _ _ ⟨rfl, rfl, rfl⟩
    rw [if_pos hc]
    refine ⟨rfl, _, rfl, rfl, ?_⟩
    rw [ints_length]
    refine p31 _ _ _ _ _ _ _ _ _ (V.p43 ⟨fun h => by rw [ints_length] at h; omega, fun _ => V.p51 ?_⟩) _ 0 0 (Nat.lt_succ_self _) (Nat.zero_le _) htot
    refine (Rank_E L hl 0 1).mono ?_
    rintro _ _ _ ⟨rfl, rfl, rfl⟩
    rw [if_pos r0]
    refine ⟨rfl, _, _, rfl, rfl, V.p53 ?_⟩
    refine (Rank_E L hl 1 1).mono ?_
    rintro _ _ _ ⟨rfl, rfl, rfl⟩
    rw [if_pos r1]
    refine ⟨rfl, _, _, rfl, rfl, V.p55 ?_⟩
    rw [e0, e1, ints_length]
    have m1 : cIS (ints (SL L)) (max (atQ L.length lo 255 - 1) 0).toNat 0 ≤ cIS (ints (SL L)) (max (atQ L.length hi 255 - 1) 0).toNat 0 := SL_mono L (by omega) (by omega)
    have m2 : cIS (ints (SL L)) 0 0 ≤ cIS (ints (SL L)) ((L.length - 1) / 2) 0 := SL_mono L (by omega) (by omega)
    have m3 : cIS (ints (SL L)) ((L.length - 1) / 2) 0 ≤ cIS (ints (SL L)) (L.length - 1) 0 := SL_mono L (by omega) (by omega)
    have i0 : (max ((0 : Int) - 1) 0).toNat = 0 := by decide
    have i1 : (max ((L.length : Int) - 1) 0).toNat = L.length - 1 := by omega
    rw [i0, i1]
    refine ⟨fun _ => ⟨fun _ => ⟨fun _ => ⟨fun _ => ⟨fun _ => ⟨fun _ => ⟨fun _ => ⟨rfl, by rw [decide_eq_true m3]⟩, fun h => by omega⟩, fun h => absurd rfl h⟩, fun h => absurd rfl h⟩, fun h => absurd rfl h⟩, fun h => by omega⟩, fun h => by cases h⟩, fun h => by cases h⟩
end Go.Ab
