/- Spans: the laws of sets. For every input. -/
import Derived.Test.YtjkjcfpphhionaaSpansF
namespace Go.Ab
open Go Go.Proofs Spn
set_option linter.unusedVariables false
set_option linter.unusedSimpArgs false
set_option maxRecDepth 100000
set_option maxHeartbeats 1000000

theorem CL_id {X : List Sp} (hb : ∀ s ∈ X, Bd s) : CL X = X := by
  unfold CL
  rw [List.map_congr_left (g := id) (fun s hs => ?_), List.map_id]
  have b := hb s hs
  unfold Bd at b
  show cS s = s
  cases s with
  | mk f t =>
    simp only at b
    unfold cS clampI
    simp only [Sp.mk.injEq]
    omega
theorem JN_id {X : List Sp} (hn : NF X) (hb : ∀ s ∈ X, Bd s) : JN X = X := by
  obtain ⟨h1, h2⟩ := JN_nf X
  exact nf_ext h1 hn fun n => by rw [h2, CL_id hb]
def LO : Int := -1099511627776
def KK : Nat := 2199023255552
theorem tot_c {J : List Sp} (hn : NF J) (hb : ∀ s ∈ J, Bd s) : totF J = cnt (memB J) LO KK := tot_cnt hn fun s hs => by
  have b := hb s hs
  unfold Bd at b
  unfold LO KK
  omega
theorem memB_eq {X Y : List Sp} {n : Int} (h : mem X n ↔ mem Y n) : memB X n = memB Y n := by
  rw [Bool.eq_iff_iff, memB_iff, memB_iff]; exact h
/-- A set and its gaps make the whole. -/
theorem whole_eq (A : List Sp) {f t : Int} (hft : f ≤ t) (hf : -32768 ≤ f) (ht : t ≤ 32767) : totF (MT A [⟨f, t⟩]) + totF (GP A f t) = t - f := by
  have cf : clampI f = f := by unfold clampI; omega
  have ct : clampI t = t := by unfold clampI; omega
  have hC : CL [⟨f, t⟩] = [⟨f, t⟩] := by simp [CL, cS, cf, ct]
  obtain ⟨m1, m2⟩ := MT_nf A [⟨f, t⟩]
  obtain ⟨g1, g2⟩ := GP_nf A f t
  rw [hC] at m2
  rw [cf, ct] at g2
  rw [tot_c m1 (MT_bd _ _), tot_c g1 (GP_bd _ _ _), cnt_incl]
  have e1 : cnt (fun n => memB (MT A [⟨f, t⟩]) n && memB (GP A f t) n) LO KK = 0 := cnt_zero fun i _ => by
    cases h1 : memB (MT A [⟨f, t⟩]) (LO + i) with
    | false => rfl
    | true =>
      cases h2 : memB (GP A f t) (LO + i) with
      | false => rfl
      | true => exact absurd ((m2 _).1 (memB_iff.1 h1)).1 ((g2 _).1 (memB_iff.1 h2)).2
  have e2 : cnt (fun n => memB (MT A [⟨f, t⟩]) n || memB (GP A f t) n) LO KK = cnt (fun n => decide (f ≤ n) && decide (n < t)) LO KK := cnt_congr fun i _ => by
    rw [Bool.eq_iff_iff]
    simp only [Bool.or_eq_true, memB_iff, m2, g2, mem_one, Bool.and_eq_true, decide_eq_true_eq]
    constructor
    · rintro (h | h)
      · exact h.2
      · exact h.1
    · intro h
      by_cases hm : mem (CL A) (LO + i)
      · exact .inl ⟨hm, h⟩
      · exact .inr ⟨h, hm⟩
  rw [e1, e2, cnt_one f t LO KK (by unfold LO; omega) hft]
  have h2 : LO + ((KK : Nat) : Int) = 1099511627776 := by unfold LO KK; omega
  rw [h2]
  omega
/-- What two have in common counts twice. -/
theorem incl_eq (A B : List Sp) : totF (JN A) + totF (JN B) = totF (JN (A ++ B)) + totF (MT A B) := by
  obtain ⟨a1, a2⟩ := JN_nf A
  obtain ⟨b1, b2⟩ := JN_nf B
  obtain ⟨c1, c2⟩ := JN_nf (A ++ B)
  obtain ⟨m1, m2⟩ := MT_nf A B
  have hC : CL (A ++ B) = CL A ++ CL B := by simp [CL]
  rw [hC] at c2
  rw [tot_c a1 (JN_bd A), tot_c b1 (JN_bd B), tot_c c1 (JN_bd _), tot_c m1 (MT_bd A B), cnt_incl]
  have k1 : cnt (fun n => memB (JN A) n || memB (JN B) n) LO KK = cnt (memB (JN (A ++ B))) LO KK := cnt_congr fun i _ => by
    rw [Bool.eq_iff_iff]
    simp only [Bool.or_eq_true, memB_iff, a2, b2, c2, mem_app]
  have k2 : cnt (fun n => memB (JN A) n && memB (JN B) n) LO KK = cnt (memB (MT A B)) LO KK := cnt_congr fun i _ => by
    rw [Bool.eq_iff_iff]
    simp only [Bool.and_eq_true, memB_iff, a2, b2, m2]
  rw [k1, k2]
theorem tot_b {J : List Sp} (hn : NF J) (hb : ∀ s ∈ J, Bd s) : 0 ≤ totF J ∧ totF J ≤ 2199023255552 := by
  rw [tot_c hn hb]
  have key : ∀ (p : Int → Bool) (lo : Int) (k : Nat), 0 ≤ cnt p lo k ∧ cnt p lo k ≤ k := by
    intro p lo k
    induction k with
    | zero => exact ⟨Int.le_refl _, Int.le_refl _⟩
    | succ k ih =>
      rw [cnt]
      cases p (lo + k) <;> simp only [b2i] <;> omega
  have h1 := key (memB J) LO KK
  have h2 : ((KK : Nat) : Int) = 2199023255552 := by unfold KK; omega
  rw [h2] at h1
  exact h1
theorem i16b {x : Int} (h : (Lit.int .i16 x).wf = true) : -32768 ≤ x ∧ x ≤ 32767 := by
  simp only [Lit.wf, Bool.and_eq_true, decide_eq_true_eq] at h
  have e1 : IntKind.min .i16 = -32768 := rfl
  have e2 : IntKind.max .i16 = 32767 := rfl
  rw [e1, e2] at h; exact h

theorem Laws50 (a : List (List AV)) (_ : a.length ≤ maxLen) (ga : ∀ r ∈ a, GdL [.int .i64, .int .i64] r) (b : List (List AV)) (_ : b.length ≤ maxLen) (gb : ∀ r ∈ b, GdL [.int .i64, .int .i64] r) (f : Int) (hf : (Lit.int .i16 f).wf = true) (t : Int) (ht : (Lit.int .i16 t).wf = true) : EC Try.prog G10 [] [.r a, .r b, .i f, .i t] fun x rs vs => x = 0 ∧ vs = [.b true] := by
  obtain ⟨A, rfl⟩ := exSp ga
  obtain ⟨B, rfl⟩ := exSp gb
  have bf := i16b hf
  have bt := i16b ht
  refine E10 fun EV V => fixed24.mono ?_
  rintro _ _ _ ⟨rfl, rfl, rfl⟩
  rw [R2_len, R2_len, mnS, mxS, wrap64 (x := min f t) (by omega) (by omega), wrap64 (x := max f t) (by omega) (by omega)]
  obtain ⟨lo, hlo⟩ : ∃ lo, lo = min f t := ⟨_, rfl⟩
  obtain ⟨hi, hhi⟩ : ∃ hi, hi = max f t := ⟨_, rfl⟩
  rw [← hlo, ← hhi]
  refine ⟨rfl, _, rfl, rfl, fun h => (by cases h), fun _ => ⟨fun h1 => ⟨fun h2 => ⟨rfl, rfl⟩, fun h2 => ?_⟩, fun _ => ⟨rfl, rfl⟩⟩⟩
  have hA : A.length ≤ 1000 := by omega
  have hB : B.length ≤ 1000 := by omega
  have l1 := JN_len A
  have l2 := GP_len A lo hi
  have l3 := MT_len A B
  have l4 := MT_len A [⟨lo, hi⟩]
  simp only [List.length_singleton] at l4
  have eI : JN (MT A [⟨lo, hi⟩]) = MT A [⟨lo, hi⟩] := JN_id (MT_nf _ _).1 (MT_bd _ _)
  have eG : JN (GP A lo hi) = GP A lo hi := JN_id (GP_nf _ _ _).1 (GP_bd _ _ _)
  have eM : JN (MT A B) = MT A B := JN_id (MT_nf _ _).1 (MT_bd _ _)
  have eJ : JN (JN A) = JN A := JN_id (JN_nf A).1 (JN_bd A)
  have eBA : MT B A = MT A B := nf_ext (MT_nf B A).1 (MT_nf A B).1 fun n => by rw [(MT_nf B A).2, (MT_nf A B).2]; exact And.comm
  have eN : MT (MT A [⟨lo, hi⟩]) (GP A lo hi) = [] := nf_nil (MT_nf _ _).1 fun n hn => by
    have h := ((MT_nf _ _).2 n).1 hn
    rw [CL_id (MT_bd _ _), CL_id (GP_bd _ _ _)] at h
    exact (((GP_nf A lo hi).2 n).1 h.2).2 (((MT_nf _ _).2 n).1 h.1).1
  have hw := whole_eq A (f := lo) (t := hi) (by omega) (by omega) (by omega)
  have hin := incl_eq A B
  have t1 := tot_b (JN_nf A).1 (JN_bd A)
  have t2 := tot_b (JN_nf B).1 (JN_bd B)
  have t3 := tot_b (JN_nf (A ++ B)).1 (JN_bd (A ++ B))
  have t4 := tot_b (MT_nf A B).1 (MT_bd A B)
  show EC Try.prog G31 [] [.r (R2 A), .r (R2 [⟨lo, hi⟩])] _
  refine (Meet_E A [⟨lo, hi⟩] hA (by simp)).mono ?_
  rintro _ _ _ ⟨rfl, rfl, rfl⟩
  refine ⟨rfl, _, rfl, rfl, (Gaps_E A lo hi hA).mono ?_⟩
  rintro _ _ _ ⟨rfl, rfl, rfl⟩
  refine ⟨rfl, _, rfl, rfl, (Meet_E A B hA hB).mono ?_⟩
  rintro _ _ _ ⟨rfl, rfl, rfl⟩
  refine ⟨rfl, _, rfl, rfl, (Join_E A hA).mono ?_⟩
  rintro _ _ _ ⟨rfl, rfl, rfl⟩
  refine ⟨rfl, _, rfl, rfl, ?_⟩
  rw [R2_take_all]
  refine (Total_E (MT A [⟨lo, hi⟩]) (by omega)).mono ?_
  rintro _ _ _ ⟨rfl, rfl, rfl⟩
  refine ⟨rfl, _, rfl, rfl, ?_⟩
  rw [R2_take_all]
  refine (Total_E (GP A lo hi) (by omega)).mono ?_
  rintro _ _ _ ⟨rfl, rfl, rfl⟩
  rw [eI, eG]
  refine ⟨rfl, _, rfl, rfl, ?_⟩
  rw [hw, wrap64 (x := hi - lo) (by omega) (by omega)]
  refine ⟨fun _ => ?_, fun h => absurd rfl h⟩
  rw [R2_take_all, R2_take_all]
  refine (Meet_E (MT A [⟨lo, hi⟩]) (GP A lo hi) (by omega) (by omega)).mono ?_
  rintro _ _ _ ⟨rfl, rfl, rfl⟩
  rw [eN]
  refine ⟨rfl, _, rfl, rfl, fun _ => ?_, fun h => absurd rfl h⟩
  refine (Meet_E B A hB hA).mono ?_
  rintro _ _ _ ⟨rfl, rfl, rfl⟩
  refine ⟨rfl, _, rfl, rfl, ?_⟩
  rw [R2_take_all, eBA]
  refine (Rows_E (MT A B) (by omega)).mono ?_
  rintro _ _ _ ⟨rfl, rfl, rfl⟩
  refine ⟨rfl, _, rfl, rfl, ?_⟩
  rw [R2_take_all]
  refine (Same_E (MT A B) (by omega)).mono ?_
  rintro _ _ _ ⟨rfl, rfl, rfl⟩
  refine ⟨rfl, _, rfl, rfl, fun _ => ?_, fun h => by cases h⟩
  refine (Join_E (JN A) (by omega)).mono ?_
  rintro _ _ _ ⟨rfl, rfl, rfl⟩
  rw [eJ]
  refine ⟨rfl, _, rfl, rfl, (Rows_E (JN A) (by omega)).mono ?_⟩
  rintro _ _ _ ⟨rfl, rfl, rfl⟩
  refine ⟨rfl, _, rfl, rfl, ?_⟩
  rw [R2_take_all]
  refine (Same_E (JN A) (by omega)).mono ?_
  rintro _ _ _ ⟨rfl, rfl, rfl⟩
  refine ⟨rfl, _, rfl, rfl, fun _ => ?_, fun h => by cases h⟩
  refine (Total_E A hA).mono ?_
  rintro _ _ _ ⟨rfl, rfl, rfl⟩
  refine ⟨rfl, _, rfl, rfl, (Total_E B hB).mono ?_⟩
  rintro _ _ _ ⟨rfl, rfl, rfl⟩
  have et : List.take (A.length + B.length) (List.drop 0 (R2 (A ++ B))) = R2 (A ++ B) := by
    have := R2_take_all (A ++ B)
    rwa [R2_len, List.length_append] at this
  rw [R2_apps, et]
  refine ⟨rfl, _, rfl, rfl, by omega, by omega, by omega, by omega, rowF_pure _ _, (Total_E (A ++ B) (by simp; omega)).mono ?_⟩
  rintro _ _ _ ⟨rfl, rfl, rfl⟩
  refine ⟨rfl, _, rfl, rfl, ?_⟩
  refine (Total_E (MT A B) (by omega)).mono ?_
  rintro _ _ _ ⟨rfl, rfl, rfl⟩
  rw [eM, hin]
  exact ⟨rfl, _, rfl, rfl, rfl, by simp⟩
end Go.Ab
