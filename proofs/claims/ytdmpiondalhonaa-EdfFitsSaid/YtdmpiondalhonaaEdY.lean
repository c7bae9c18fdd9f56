import Derived.Test.YtdmpiondalhonaaEdS
import Derived.Test.YtdmpiondalhonaaEdX
import Derived.Test.YtdmpiondalhonaaAbLaw
import Derived.Lib.Mul64
import Derived.Test.YtdmpiondalhonaaEdZ
import Derived.Test.YtdmpiondalhonaaEdA
namespace Go.Ab
open Go Go.Proofs
set_option linter.unusedVariables false
set_option linter.unusedSimpArgs false
set_option maxRecDepth 100000
set_option maxHeartbeats 1000000

abbrev UM : Int := 18446744073709551615
def U64 (x : Int) : Prop := 0 ≤ x ∧ x ≤ 18446744073709551615
def addZ (a b : Int) : Int := min (a + b) UM
def mulZ (a b : Int) : Int := min (a * b) UM
theorem addZ_u {a b : Int} (ha : U64 a) (hb : U64 b) : U64 (addZ a b) := by unfold U64 addZ UM at *; omega
theorem mulZ_u {a b : Int} (ha : U64 a) (hb : U64 b) : U64 (mulZ a b) := by
  have := Int.mul_nonneg ha.1 hb.1
  unfold U64 mulZ UM at *; omega
theorem wrapu {x : Int} (h : U64 x) : IntKind.wrap .u64 x = x := by
  unfold U64 at h
  have : IntKind.wrap .u64 x = x % 18446744073709551616 := rfl
  rw [this, Int.emod_eq_of_lt h.1 (by omega)]

theorem Mul64_E {a b : Int} (ha : U64 a) (hb : U64 b) : EC Try.prog G74 [] [.i a, .i b] fun x rs vs => x = 0 ∧ rs = [] ∧ vs = [.i (a * b / 18446744073709551616), .i (a * b % 18446744073709551616)] := by
  obtain ⟨m, rfl⟩ := Int.eq_ofNat_of_zero_le ha.1
  obtain ⟨n, rfl⟩ := Int.eq_ofNat_of_zero_le hb.1
  unfold U64 at ha hb
  have hm : m < 18446744073709551616 := by omega
  have hn : n < 18446744073709551616 := by omega
  obtain ⟨l1, l2, l3, l4⟩ := Go.Lib.mul64_hi m n hm hn
  have W : ∀ k : Nat, k < 18446744073709551616 → IntKind.wrap .u64 ((k : Nat) : Int) = ((k : Nat) : Int) := fun k hk => wrapu (by unfold U64; omega)
  have SH : ∀ k : Nat, iopS .shr .u64 ((k : Nat) : Int) 32 = ((k / 4294967296 : Nat) : Int) := fun k => by
    show Int.fdiv (k : Int) 4294967296 = _
    rw [Int.fdiv_eq_ediv_of_nonneg _ (by omega)]; omega
  have AN : ∀ k : Nat, k < 18446744073709551616 → iopS .and .u64 ((k : Nat) : Int) 4294967295 = ((k % 4294967296 : Nat) : Int) := fun k hk => by
    show IntKind.wrap .u64 (((BitVec.ofInt 64 (k : Int) &&& BitVec.ofInt 64 4294967295).toNat : Nat) : Int) = _
    have h1 : (BitVec.ofInt 64 (k : Int)).toNat = k := by rw [BitVec.toNat_ofInt]; omega
    have h2 : (BitVec.ofInt 64 4294967295).toNat = 4294967295 := by decide
    rw [BitVec.toNat_and, h1, h2, show k &&& 4294967295 = k % 4294967296 from Nat.and_two_pow_sub_one_eq_mod k 32]
    exact W _ (by omega)
  have hx1 : m / 4294967296 ≤ 4294967295 := by omega
  have hy1 : n / 4294967296 ≤ 4294967295 := by omega
  have hx0 : m % 4294967296 ≤ 4294967295 := by omega
  have hy0 : n % 4294967296 ≤ 4294967295 := by omega
  have b11 := Go.Lib.half_mul_le hx1 hy1
  have b10 := Go.Lib.half_mul_le hx1 hy0
  have b01 := Go.Lib.half_mul_le hx0 hy1
  have b00 := Go.Lib.half_mul_le hx0 hy0
  refine E74 fun EV V => ⟨by omega, rfl, rfl, ?_⟩
  rw [SH m, SH n, AN m hm, AN n hn]
  have hmn : m * n / 18446744073709551616 < 18446744073709551616 := Nat.div_lt_of_lt_mul (Nat.mul_lt_mul_of_lt_of_lt hm hn)
  have lo : IntKind.wrap .u64 ((m : Int) * (n : Int)) = (m : Int) * (n : Int) % 18446744073709551616 := rfl
  rw [lo]
  generalize m / 4294967296 = x1 at *
  generalize m % 4294967296 = x0 at *
  generalize n / 4294967296 = y1 at *
  generalize n % 4294967296 = y0 at *
  rw [← Int.natCast_mul x1 y1, ← Int.natCast_mul x1 y0, ← Int.natCast_mul x0 y0, ← Int.natCast_mul x0 y1, W (x1 * y1) (by omega), W (x1 * y0) (by omega), W (x0 * y0) (by omega), W (x0 * y1) (by omega), SH (x0 * y0), ← Int.natCast_add, W (x1 * y0 + x0 * y0 / 4294967296) (by omega)]
  generalize x1 * y0 + x0 * y0 / 4294967296 = t at *
  rw [SH t, AN t (by omega), ← Int.natCast_add, W (x1 * y1 + t / 4294967296) (by omega), ← Int.natCast_add, W (t % 4294967296 + x0 * y1) (by omega), SH (t % 4294967296 + x0 * y1), ← Int.natCast_add, W _ (by omega), l4]
  rfl

theorem Add_E {a b : Int} (ha : U64 a) (hb : U64 b) : EC Try.prog G56 [] [.i a, .i b] fun x rs vs => x = 0 ∧ rs = [] ∧ vs = [.i (addZ a b)] := by
  unfold U64 at ha hb
  have ec : arS.c0 a b = (a + b) / 18446744073709551616 := by show ((a.toNat + b.toNat : Nat) : Int) / 18446744073709551616 = _; omega
  have es : arS.s0 a b = (a + b) % 18446744073709551616 := by show ((a.toNat + b.toNat : Nat) : Int) % 18446744073709551616 = _; omega
  refine E56 fun EV V => ?_
  rw [ec, es]
  refine ⟨fun h => ⟨rfl, rfl, ?_⟩, fun h => ⟨rfl, rfl, ?_⟩⟩ <;> (congr 2; unfold addZ UM; omega)
theorem Mul_E {a b : Int} (ha : U64 a) (hb : U64 b) : EC Try.prog G57 [] [.i a, .i b] fun x rs vs => x = 0 ∧ rs = [] ∧ vs = [.i (mulZ a b)] := by
  refine E57 fun EV V => (Mul64_E ha hb).mono ?_
  rintro _ _ _ ⟨rfl, rfl, rfl⟩
  have q := Int.mul_nonneg ha.1 hb.1
  refine ⟨rfl, _, _, rfl, rfl, fun h => ⟨rfl, rfl, ?_⟩, fun h => ⟨rfl, rfl, ?_⟩⟩ <;> (congr 2; unfold mulZ UM; omega)
structure Sm where
  c : Int
  d : Int
  p : Int
  deriving Inhabited
def encM (s : Sm) : List AV := [.int .u64 s.c, .int .u64 s.d, .int .u64 s.p]
def sm (L : List Sm) (i : Nat) : Sm := L.getD i default
theorem sm_lt {L : List Sm} {i : Nat} (h : i < L.length) : sm L i = L[i] := by
  unfold sm; rw [List.getD_eq_getElem?_getD, List.getElem?_eq_getElem h]; rfl
section
variable {L : List Sm} {i : Nat}
theorem sm_c (h : i < L.length) : cIS (L.map encM) i 0 = (sm L i).c := by unfold cIS cellS; rw [sm_lt h, List.getElem?_map, List.getElem?_eq_getElem h]; rfl
theorem sm_d (h : i < L.length) : cIS (L.map encM) i 1 = (sm L i).d := by unfold cIS cellS; rw [sm_lt h, List.getElem?_map, List.getElem?_eq_getElem h]; rfl
theorem sm_p (h : i < L.length) : cIS (L.map encM) i 2 = (sm L i).p := by unfold cIS cellS; rw [sm_lt h, List.getElem?_map, List.getElem?_eq_getElem h]; rfl
theorem sm_get (h : i < L.length) : (L.map encM)[i]? = some [.int .u64 (cIS (L.map encM) i 0), .int .u64 (cIS (L.map encM) i 1), .int .u64 (cIS (L.map encM) i 2)] := by
  rw [sm_c h, sm_d h, sm_p h, sm_lt h, List.getElem?_map, List.getElem?_eq_getElem h]; rfl
end
def SmU (s : Sm) : Prop := U64 s.c ∧ U64 s.d ∧ U64 s.p
def demZ (s : Sm) (x : Int) : Int := if x < s.d then 0 else if s.p = 0 then mulZ s.c UM else mulZ s.c (addZ ((x - s.d) / s.p) 1)
theorem div_u {a b : Int} (ha : U64 a) (hb : 0 ≤ b) : U64 (a / b) := by
  have h1 : 0 ≤ a / b := Int.ediv_nonneg ha.1 hb
  have h2 : a / b ≤ a := Int.ediv_le_self _ ha.1
  unfold U64 at *; omega
theorem demZ_u {s : Sm} {x : Int} (hs : SmU s) (hx : U64 x) : U64 (demZ s x) := by
  obtain ⟨h1, h2, h3⟩ := hs
  unfold demZ
  split
  · unfold U64; omega
  · rename_i h
    split
    · exact mulZ_u h1 (by unfold U64 UM; omega)
    · exact mulZ_u h1 (addZ_u (div_u (by unfold U64 at *; omega) h3.1) (by unfold U64; omega))
def demL (l : List Sm) (x n : Int) : Int := l.foldl (fun n s => addZ n (demZ s x)) n
theorem demL_u {x : Int} (hx : U64 x) : ∀ (l : List Sm) (n : Int), (∀ s ∈ l, SmU s) → U64 n → U64 (demL l x n)
  | [], n, _, hn => hn
  | s :: l, n, h, hn => demL_u hx l _ (fun y hy => h y (List.mem_cons_of_mem _ hy)) (addZ_u hn (demZ_u (h s (List.mem_cons_self ..)) hx))
theorem sm_drop {L : List Sm} {m : Nat} (h : m < L.length) : L.drop m = sm L m :: L.drop (m + 1) := by
  rw [List.drop_eq_getElem_cons h, sm_lt h]

theorem Demand_E (L : List Sm) (hL : ∀ s ∈ L, SmU s) (hl : L.length ≤ 1000) {x : Int} (hx : U64 x) : EC Try.prog G30 [] [.r (L.map encM), .i x] fun y rs vs => y = 0 ∧ rs = [] ∧ vs = [.i (demL L x 0)] := by
  refine E30 fun EV V => ?_
  have p9 : ∀ (d m : Nat) (n : Int), L.length - m < d → m ≤ L.length → U64 n → demL (L.drop m) x n = demL L x 0 → EV 9 [] [.i x, .i n, .r (L.map encM), .i L.length, .i m] := by
    intro d
    induction d with
    | zero => intro m n hd; omega
    | succ d ih =>
      intro m n hd hm hn hs
      refine V.p9 ⟨fun hlt => ?_, fun hge => ?_⟩
      · have hmL : m < L.length := by omega
        have hsu : SmU (sm L m) := by rw [sm_lt hmL]; exact hL _ (List.getElem_mem hmL)
        obtain ⟨h1, h2, h3⟩ := hsu
        have hsu : SmU (sm L m) := ⟨h1, h2, h3⟩
        have ev : IntKind.wrap .i64 ((m : Int) + 1) = ((m + 1 : Nat) : Int) := by rw [wrap64 (by omega) (by omega)]; rfl
        rw [sm_drop hmL] at hs
        have hs : demL (L.drop (m + 1)) x (addZ n (demZ (sm L m) x)) = demL L x 0 := hs
        have h33 : ∀ t : Int, U64 t → demZ (sm L m) x = mulZ (sm L m).c t → EV 33 [] [.i x, .i n, .i t, .r (L.map encM), .i L.length, .i m, .i (sm L m).c, .i (sm L m).d, .i (sm L m).p] := fun t ht hd2 => by
          refine V.p33 ((Mul_E h1 ht).mono ?_)
          rintro _ _ _ ⟨rfl, rfl, rfl⟩
          refine ⟨rfl, _, rfl, rfl, (Add_E hn (mulZ_u h1 ht)).mono ?_⟩
          rintro _ _ _ ⟨rfl, rfl, rfl⟩
          refine ⟨rfl, _, rfl, rfl, ?_⟩
          rw [ev, ← hd2]
          exact ih (m + 1) _ (by omega) (by omega) (addZ_u hn (demZ_u hsu hx)) hs
        rw [Int.toNat_natCast, ev]
        refine ⟨by omega, sm_get hmL, ?_⟩
        rw [sm_c hmL, sm_d hmL, sm_p hmL]
        refine ⟨fun h => ?_, fun h => ⟨fun h0 => ⟨by omega, ?_⟩, fun h0 => ?_⟩⟩
        · rw [demZ, if_pos h] at hs
          have e : addZ n 0 = n := by unfold addZ UM U64 at *; omega
          rw [e] at hs
          exact ih (m + 1) n (by omega) (by omega) hn hs
        · have hxd : U64 (x - (sm L m).d) := by unfold U64 at *; omega
          have hq := div_u hxd h3.1
          have h1u : U64 1 := by unfold U64; omega
          rw [wrapu hxd, Int.tdiv_eq_ediv_of_nonneg hxd.1, wrapu hq]
          refine (Add_E hq h1u).mono ?_
          rintro _ _ _ ⟨rfl, rfl, rfl⟩
          exact ⟨rfl, _, rfl, rfl, h33 _ (addZ_u hq h1u) (by rw [demZ, if_neg (by omega), if_neg (by omega)])⟩
        · have hp0 : (sm L m).p = 0 := by have := h3.1; omega
          exact h33 _ (by unfold U64; omega) (by rw [demZ, if_neg (by omega), if_pos hp0])
      · rw [List.drop_of_length_le (by omega)] at hs
        exact ⟨rfl, rfl, by rw [← hs]; rfl⟩
  rw [List.length_map]
  exact p9 _ 0 0 (Nat.lt_succ_self _) (by omega) (by unfold U64; omega) rfl

def fitsZ (L : List Sm) (m : Nat) : Bool := (List.range m).all fun i : Nat => decide (demL L ((i : Int) + 1) 0 ≤ (i : Int) + 1)
theorem fits_succ (L : List Sm) (m : Nat) : fitsZ L (m + 1) = (fitsZ L m && decide (demL L ((m : Int) + 1) 0 ≤ (m : Int) + 1)) := by simp [fitsZ, List.range_succ]
theorem fits_lt {L : List Sm} {i m : Nat} (h : i < m) (hn : ¬ demL L ((i : Int) + 1) 0 ≤ (i : Int) + 1) : fitsZ L m = false := by
  simp only [fitsZ, List.all_eq_false, List.mem_range]
  exact ⟨i, h, by simpa using hn⟩

theorem Fits_E (L : List Sm) (hL : ∀ s ∈ L, SmU s) (hl : L.length ≤ 1000) (n : Nat) (hn : n ≤ 400) : EC Try.prog G31 [] [.r (L.map encM), .i n] fun y rs vs => y = 0 ∧ rs = [] ∧ vs = [.b (fitsZ L n)] := by
  refine E31 fun EV V => ?_
  have p7 : ∀ (d j : Nat), n - j < d → j ≤ n → fitsZ L j = true → EV 7 [] [.r (L.map encM), .i n, .i ((j + 1 : Nat) : Int)] := by
    intro d
    induction d with
    | zero => intro j hd; omega
    | succ d ih =>
      intro j hd hj hf
      refine V.p7 ?_
      rw [mnS]
      refine ⟨fun hle => ?_, fun hgt => ?_⟩
      · have hx : U64 ((j + 1 : Nat) : Int) := by unfold U64; omega
        refine (Demand_E L hL hl hx).mono ?_
        rintro _ _ _ ⟨rfl, rfl, rfl⟩
        refine ⟨rfl, _, rfl, rfl, fun h => ⟨rfl, rfl, ?_⟩, fun h => ?_⟩
        · rw [fits_lt (i := j) (by omega) (by rw [show ((j + 1 : Nat) : Int) = (j : Int) + 1 by rfl] at h; omega)]
        · rw [wrapu (x := ((j + 1 : Nat) : Int) + 1) (by unfold U64; omega)]
          refine ih (j + 1) (by omega) (by omega) ?_
          rw [fits_succ, hf]
          rw [show ((j + 1 : Nat) : Int) = (j : Int) + 1 by rfl] at h
          simp [h]
      · obtain rfl : j = n := by omega
        exact ⟨rfl, rfl, by rw [hf]⟩
  exact p7 _ 0 (Nat.lt_succ_self _) (by omega) rfl

theorem exM : ∀ {rows : List (List AV)}, (∀ r ∈ rows, GdL [.int .u64, .int .u64, .int .u64] r) → ∃ l : List Sm, rows = l.map encM ∧ ∀ s ∈ l, SmU s
  | [], _ => ⟨[], rfl, fun x hx => by simp at hx⟩
  | r :: rows, h => by
    obtain ⟨l, hl, hw⟩ := exM fun x hx => h x (List.mem_cons_of_mem _ hx)
    have h0 := h r (List.mem_cons_self ..)
    simp only [GdL, GdC] at h0
    obtain ⟨_, _, e, ⟨a, rfl, ha⟩, _, _, rfl, ⟨b, rfl, hb⟩, _, _, rfl, ⟨c, rfl, hc⟩, rfl⟩ := h0
    refine ⟨⟨a, b, c⟩ :: l, by rw [e, hl]; rfl, fun x hx => ?_⟩
    rcases List.mem_cons.1 hx with rfl | hx
    · simp only [Lit.wf, Bool.and_eq_true, decide_eq_true_eq] at ha hb hc
      exact ⟨ha, hb, hc⟩
    · exact hw x hx

end Go.Ab

namespace Go.Ab
open Go Go.Proofs Stb HeapM
set_option linter.unusedVariables false
set_option linter.unusedSimpArgs false
set_option maxRecDepth 100000
set_option maxHeartbeats 1000000

/-! what works want, as a sum over the row -/
def dsum (a d : Int) (W : List Wrk) : Int := (W.map fun w => if a ≤ w.r ∧ w.d ≤ d then w.c else 0).sum
theorem dsum_app (a d : Int) (A B : List Wrk) : dsum a d (A ++ B) = dsum a d A + dsum a d B := by simp [dsum]
theorem Dm_eq (W : List Wrk) (a d : Int) : Dm W a d = dsum a d W := by
  unfold Dm wsum dsum
  congr 1
  apply List.ext_getElem
  · simp [costsW]
  intro i h1 h2
  have hi : i < W.length := by simpa using h2
  simp only [List.getElem_map, List.getElem_range]
  rw [costsW_get]
  have hg : gW W i = W[i] := by unfold gW; rw [List.getD_eq_getElem?_getD, List.getElem?_eq_getElem hi]; rfl
  unfold inW
  rw [hg]
  by_cases h : a ≤ W[i].r ∧ W[i].d ≤ d
  · rw [if_pos (decide_eq_true h), if_pos h]
  · rw [if_neg (by rw [decide_eq_false h]; decide), if_neg h]

def job (s : Sm) (k : Nat) : Wrk := ⟨s.p * k, s.c, s.p * k + s.d⟩
def jobs (s : Sm) (m : Nat) : List Wrk := (List.range m).map (job s)
theorem jobs_succ (s : Sm) (m : Nat) : jobs s (m + 1) = jobs s m ++ [job s m] := by simp [jobs, List.range_succ]
/-- How many of a stream's works can lie in so many ticks. -/
def nmax (s : Sm) (x : Int) : Int := if x < s.d then 0 else (x - s.d) / s.p + 1
theorem jobs_count {s : Sm} (hp : 0 < s.p) (hc : 0 ≤ s.c) (a d : Int) : ∀ m : Nat, ∃ N : Nat, dsum a d (jobs s m) = s.c * N ∧ (N = 0 ∨ ∃ k1 : Nat, k1 < m ∧ s.p * ((N : Int) - 1) + a ≤ s.p * k1 ∧ s.p * k1 + s.d ≤ d)
  | 0 => ⟨0, by simp [dsum, jobs], .inl rfl⟩
  | m + 1 => by
    obtain ⟨N, h1, h2⟩ := jobs_count hp hc a d m
    rw [jobs_succ, dsum_app, h1]
    by_cases h : a ≤ s.p * m ∧ s.p * m + s.d ≤ d
    · refine ⟨N + 1, ?_, .inr ⟨m, by omega, ?_, h.2⟩⟩
      · simp only [dsum, job, List.map_cons, List.map_nil, List.sum_cons, List.sum_nil]
        rw [if_pos h, Int.natCast_add, Int.mul_add]; simp
      · rw [show ((N + 1 : Nat) : Int) - 1 = (N : Int) from by omega]
        rcases h2 with rfl | ⟨k1, k2, k3, k4⟩
        · simpa using h.1
        · have e1 : s.p * ((N : Int) - 1) = s.p * N - s.p := by rw [Int.mul_sub, Int.mul_one]
          have e2 : s.p * ((k1 : Int) + 1) ≤ s.p * m := Int.mul_le_mul_of_nonneg_left (by omega) (by omega)
          rw [Int.mul_add, Int.mul_one] at e2
          omega
    · refine ⟨N, ?_, ?_⟩
      · simp only [dsum, job, List.map_cons, List.map_nil, List.sum_cons, List.sum_nil]
        rw [if_neg h]; omega
      · rcases h2 with h2 | ⟨k1, k2, k3, k4⟩
        · exact .inl h2
        · exact .inr ⟨k1, by omega, k3, k4⟩
theorem jobs_max {s : Sm} (hp : 0 < s.p) (hc : 0 ≤ s.c) (hd : 0 ≤ s.d) (a d : Int) (m : Nat) : dsum a d (jobs s m) ≤ s.c * nmax s (d - a) := by
  obtain ⟨N, h1, h2⟩ := jobs_count hp hc a d m
  rw [h1]
  refine Int.mul_le_mul_of_nonneg_left ?_ hc
  unfold nmax
  rcases h2 with rfl | ⟨k1, k2, k3, k4⟩
  · split
    · omega
    · have := Int.ediv_nonneg (a := d - a - s.d) (b := s.p) (by omega) (by omega)
      omega
  · by_cases hN : N = 0
    · subst hN
      split
      · omega
      · have := Int.ediv_nonneg (a := d - a - s.d) (b := s.p) (by omega) (by omega)
        omega
    · have h0 : 0 ≤ s.p * ((N : Int) - 1) := Int.mul_nonneg (by omega) (by omega)
      rw [if_neg (by omega)]
      have : ((N : Int) - 1) ≤ (d - a - s.d) / s.p := by
        rw [Int.le_ediv_iff_mul_le hp, Int.mul_comm]
        omega
      omega
/-- What streams want, unbounded. -/
def nsum (L : List Sm) (x : Int) : Int := (L.map fun s => s.c * nmax s x).sum
theorem nsum_dem {x v : Int} (hv : v < UM) : ∀ (L : List Sm) (n : Int), (∀ s ∈ L, SmU s ∧ 0 < s.p ∧ s.c ≤ 1000) → 0 ≤ n → 0 ≤ x → x ≤ 1000 → demL L x n ≤ v → n + nsum L x ≤ v
  | [], n, _, _, _, _, h => by simpa [nsum, demL] using h
  | s :: L, n, hL, hn, hx, hx2, h => by
    have h := nsum_dem (x := x) hv L (addZ n (demZ s x)) (fun t ht => hL t (by simp [ht]))
    obtain ⟨⟨u1, u2, u3⟩, hp, hc⟩ := hL s (by simp)
    unfold U64 at u1 u2 u3
    have e : demZ s x = s.c * nmax s x ∧ 0 ≤ demZ s x := by
      unfold demZ nmax
      split
      · simp
      · rw [if_neg (by omega)]
        have q0 := Int.ediv_nonneg (a := x - s.d) (b := s.p) (by omega) (by omega)
        have q1 := Int.ediv_le_self (a := x - s.d) s.p (by omega)
        have m0 : 0 ≤ s.c * ((x - s.d) / s.p + 1) := Int.mul_nonneg u1.1 (by omega)
        have m1 : s.c * ((x - s.d) / s.p + 1) ≤ 1000 * 1001 := Int.mul_le_mul hc (by omega) (by omega) (by omega)
        unfold mulZ addZ UM
        rw [Int.min_eq_left (a := (x - s.d) / s.p + 1) (by omega), Int.min_eq_left (by omega)]
        exact ⟨rfl, m0⟩
    have h2 := h (by unfold addZ UM; omega) hx hx2 ‹_›
    have h3 : 0 ≤ nsum L x := by
      have : ∀ (M : List Sm), (∀ s ∈ M, SmU s ∧ 0 < s.p ∧ s.c ≤ 1000) → 0 ≤ nsum M x := by
        intro M
        induction M with
        | nil => intro _; simp [nsum]
        | cons t M ih =>
          intro hM
          have a1 := ih (fun y hy => hM y (by simp [hy]))
          obtain ⟨⟨u1, u2, u3⟩, hp, hc⟩ := hM t (by simp)
          unfold U64 at u1 u2 u3
          have a2 : 0 ≤ nmax t x := by
            unfold nmax
            split
            · omega
            · have := Int.ediv_nonneg (a := x - t.d) (b := t.p) (by omega) (by omega); omega
          have := Int.mul_nonneg u1.1 a2
          simp only [nsum, List.map_cons, List.sum_cons] at *
          omega
      exact this L fun t ht => hL t (by simp [ht])
    have e4 : nsum (s :: L) x = s.c * nmax s x + nsum L x := by simp [nsum]
    rw [e4, ← e.1]
    unfold addZ UM at h2
    unfold UM at hv
    omega

/-- What is known of the works so far. -/
structure GoodW (n : Int) (pre : List Sm) (W : List Wrk) : Prop where
  b : ∀ w ∈ W, 0 ≤ w.c ∧ w.c ≤ 1000 ∧ 0 ≤ w.r ∧ w.r ≤ w.d ∧ w.d ≤ n
  s : ∀ a d : Int, 0 ≤ a → a ≤ d → dsum a d W ≤ nsum pre (d - a)
  z : ∀ s ∈ pre, s.d = 0 → ∃ w ∈ W, w.d = 0 ∧ w.c = s.c
  l : W.length ≤ 1500 * pre.length
def Smy (s : Sm) : Prop := SmU s ∧ 0 < s.p ∧ s.p ≤ 1000 ∧ s.d ≤ 1000 ∧ s.c ≤ 1000

theorem cl_id {W : List Wrk} {n : Int} (hn : n ≤ 1000) (h : ∀ w ∈ W, 0 ≤ w.c ∧ w.c ≤ 1000 ∧ 0 ≤ w.r ∧ w.r ≤ w.d ∧ w.d ≤ n) : W.map clW = W := by
  refine (List.map_congr_left fun w hw => ?_).trans (List.map_id W)
  obtain ⟨h1, h2, h3, h4, h5⟩ := h w hw
  cases w
  simp only [clW, clZ, id_eq, Wrk.mk.injEq] at *
  omega

theorem fit_not_late {n : Nat} (hn : n < 300) {L : List Sm} (hL : ∀ s ∈ L, Smy s) (hf : fitsZ L n = true) {W : List Wrk} (G : GoodW n L W) (h0 : ∀ w ∈ W, w.d = 0 → w.c ≤ 0) {T : Nat} (hT : EndR W T) : ∀ i < W.length, (doneT W T (costsW W) (relsW W) 0).getD i 0 ≤ (gW W i).d := by
  refine not_late (fun w hw => (G.b w hw).1) (fun w hw => ⟨(G.b w hw).2.2.1, (G.b w hw).2.2.2.1⟩) (fun a d ha had hd => ?_) hT
  rw [Dm_eq]
  obtain ⟨w, hw, hwd⟩ := hd
  have hdn := (G.b w hw).2.2.2.2
  have h1 := G.s a d ha had
  by_cases hx : a = d
  · subst hx
    have : nsum L (a - a) ≤ 0 := by
      have : ∀ (M : List Sm), (∀ s ∈ M, s ∈ L) → nsum M (a - a) ≤ 0 := by
        intro M
        induction M with
        | nil => intro _; simp [nsum]
        | cons t M ih =>
          intro hM
          have a1 := ih (fun y hy => hM y (by simp [hy]))
          have ht := hL t (hM t (by simp))
          have hs := ht.1
          unfold SmU U64 at hs
          have : t.c * nmax t (a - a) ≤ 0 := by
            by_cases hd0 : t.d = 0
            · obtain ⟨w, h1, h2, h3⟩ := G.z t (hM t (by simp)) hd0
              have := h0 w h1 h2
              have hc : t.c = 0 := by omega
              rw [hc]; simp
            · have : nmax t (a - a) = 0 := by unfold nmax; rw [if_pos (by omega)]
              rw [this]; simp
          simp only [nsum, List.map_cons, List.sum_cons] at *
          omega
      exact this L fun s hs => hs
    omega
  · have hx1 : 1 ≤ d - a := by omega
    have hfx : demL L (d - a) 0 ≤ d - a := by
      unfold fitsZ at hf
      rw [List.all_eq_true] at hf
      have := hf (d - a - 1).toNat (by rw [List.mem_range]; omega)
      have := of_decide_eq_true this
      rwa [show (((d - a - 1).toNat : Nat) : Int) + 1 = d - a from by omega] at this
    have := nsum_dem (x := d - a) (v := d - a) (by unfold UM; omega) L 0 (fun s hs => ⟨(hL s hs).1, (hL s hs).2.1, (hL s hs).2.2.2.2⟩) (Int.le_refl _) (by omega) (by omega) hfx
    omega

theorem Fits33 (l : List (List AV)) (_ : l.length ≤ maxLen) (g : ∀ r ∈ l, GdL [.int .u64, .int .u64, .int .u64] r) (upto : Int) (hu : (Lit.int .u16 upto).wf = true) : EC Try.prog G9 [] [.r l, .i upto] fun y rs vs => y = 0 ∧ vs = [.b true] := by
  obtain ⟨L, rfl, hLu⟩ := exM g
  simp only [Lit.wf, Bool.and_eq_true, decide_eq_true_eq] at hu
  have hu0 : 0 ≤ upto := hu.1
  have hu1 : upto ≤ 65535 := hu.2
  refine E9 fun EV V => fixed22.mono ?_
  rintro _ _ _ ⟨rfl, rfl, rfl⟩
  obtain ⟨n, hn⟩ : ∃ n : Nat, IntKind.wrap .u64 (Int.tmod upto 300) = n := by
    rw [Int.tmod_eq_emod_of_nonneg hu0, wrapu (by unfold U64; omega)]
    exact ⟨(upto % 300).toNat, by omega⟩
  have hn3 : n < 300 := by
    rw [Int.tmod_eq_emod_of_nonneg hu0, wrapu (by unfold U64; omega)] at hn
    omega
  rw [hn, List.length_map]
  refine ⟨rfl, _, rfl, rfl, ⟨fun h => absurd h (by decide), fun _ => ⟨fun h5 => (Fits_E L hLu (by omega) n (by omega)).mono ?_, fun _ => ⟨rfl, rfl⟩⟩⟩⟩
  rintro _ _ _ ⟨rfl, rfl, rfl⟩
  refine ⟨rfl, _, rfl, rfl, ⟨fun _ => ⟨rfl, rfl⟩, fun hf => ?_⟩⟩
  have hL5 : L.length ≤ 5 := by omega
  have p65 : ∀ (W : List Wrk), (∀ s ∈ L, Smy s) → GoodW n L W → ∀ (d i : Nat), W.length - i < d → (∀ j < i, j < W.length → (gW W j).d = 0 → (gW W j).c ≤ 0) → i ≤ W.length → EV 65 [W.map encW] [.i W.length, .i i] := by
    intro W hLs G d
    induction d with
    | zero => intro i h; omega
    | succ d ih =>
      intro i hd hz hi
      have hWl := G.l
      refine V.p65 fun _ => ⟨fun h => ?_, fun h => ?_⟩
      · have hi : i < W.length := by omega
        rw [Int.toNat_natCast, List.length_map, sW (n := i + 1) (by omega) (by omega)]
        refine ⟨by omega, by omega, encW_get hi, ?_⟩
        rw [(encW_c hi).2.2, (encW_c hi).2.1]
        refine ⟨fun h1 => ⟨fun h2 => ⟨rfl, rfl⟩, fun h2 => ih (i + 1) (by omega) (fun j hj hjl hjd => ?_) (by omega)⟩, fun h1 => ih (i + 1) (by omega) (fun j hj hjl hjd => ?_) (by omega)⟩
        · rcases Nat.lt_succ_iff_lt_or_eq.1 hj with q | rfl
          · exact hz j q hjl hjd
          · exact h2
        · rcases Nat.lt_succ_iff_lt_or_eq.1 hj with q | rfl
          · exact hz j q hjl hjd
          · exact absurd hjd h1
      · have hi : i = W.length := by omega
        subst hi
        rw [List.drop_zero, List.take_length]
        refine (Late_E W (by omega)).mono ?_
        rintro _ _ _ ⟨rfl, rfl, T, hT, rfl⟩
        have hid := cl_id (by omega) G.b
        rw [hid] at hT ⊢
        refine ⟨rfl, _, rfl, rfl, rfl, ?_⟩
        have hnl := fit_not_late hn3 hLs hf G (fun w hw hd0 => by
          obtain ⟨j, hj, rfl⟩ := List.getElem_of_mem hw
          have hg : gW W j = W[j] := by unfold gW; rw [List.getD_eq_getElem?_getD, List.getElem?_eq_getElem hj]; rfl
          have := hz j hj hj
          rw [hg] at this
          exact this hd0) hT
        have he : lateN W (doneT W T (costsW W) (relsW W) 0) W.length = [] := by
          unfold lateN
          rw [List.map_eq_nil_iff, List.filter_eq_nil_iff]
          intro i hi
          rw [List.mem_range] at hi
          have := hnl i hi
          rw [decide_eq_true_iff]; omega
        rw [he]; rfl
  have p27 : ∀ (rest pre : List Sm) (W : List Wrk), L = pre ++ rest → (∀ s ∈ pre, Smy s) → GoodW n pre W → EV 27 [W.map encW] [.i n, .r (L.map encM), .i L.length, .i pre.length] := by
    intro rest
    induction rest with
    | nil =>
      intro pre W hp hs G
      rw [List.append_nil] at hp
      subst hp
      refine V.p27 fun _ => ⟨fun h => by omega, fun _ => ?_⟩
      rw [List.length_map]
      exact p65 W hs G _ 0 (Nat.lt_succ_self _) (fun j hj => by omega) (Nat.zero_le _)
    | cons s rest ih =>
      intro pre W hp hs G
      have hlen := congrArg List.length hp
      rw [List.length_append, List.length_cons] at hlen
      have hlt : pre.length < L.length := by omega
      have hw : sm L pre.length = s := by rw [sm_lt hlt]; simp [hp]
      have hsu := hLu s (by rw [hp]; simp)
      obtain ⟨u1, u2, u3⟩ := hsu
      have hsu : SmU s := ⟨u1, u2, u3⟩
      unfold U64 at u1 u2 u3
      refine V.p27 fun _ => ⟨fun _ => ?_, fun h => by omega⟩
      rw [Int.toNat_natCast]
      refine ⟨by omega, sm_get hlt, ?_⟩
      rw [sm_c hlt, sm_d hlt, sm_p hlt, hw]
      refine ⟨fun hp0 => ⟨fun hp1 => ⟨fun hd1 => ⟨fun _ => ⟨rfl, rfl⟩, fun hc1 => ?_⟩, fun _ => ⟨rfl, rfl⟩⟩, fun _ => ⟨rfl, rfl⟩⟩, fun _ => ⟨rfl, rfl⟩⟩
      have hpp : 0 < s.p := by omega
      have hl := G.l
      have p49 : ∀ (f k : Nat) (at' : Int), at' = s.p * k → (1400 - at').toNat < f → at' ≤ 1399 → (∀ j < k, s.p * (j : Int) + s.d ≤ n) → (k : Int) ≤ at' → EV 49 [(W ++ jobs s k).map encW] [.i n, .i at', .r (L.map encM), .i L.length, .i pre.length, .i s.c, .i s.d, .i s.p] := by
        intro f
        induction f with
        | zero => intro k at' _ h; omega
        | succ f ihf =>
          intro k at' hat hf' hb hj hk
          have hat0 : 0 ≤ at' := by rw [hat]; exact Int.mul_nonneg (by omega) (by omega)
          have hjl : (jobs s k).length = k := by simp [jobs]
          refine V.p49 fun _ => ?_
          rw [wrapu (x := at' + s.d) (by unfold U64; omega)]
          refine ⟨fun h => ?_, fun h => ?_⟩
          · rw [wrapu (x := at' + s.p) (by unfold U64; omega), wrap64 (x := at') (by omega) (by omega), wrap64 (x := s.c) (by omega) (by omega), wrap64 (x := at' + s.d) (by omega) (by omega)]
            have e : (W ++ jobs s k).map encW ++ [[AV.int .i64 at', AV.int .i64 s.c, AV.int .i64 (at' + s.d)]] = (W ++ jobs s (k + 1)).map encW := by
              rw [jobs_succ, ← List.append_assoc, List.map_append (l₁ := W ++ jobs s k), hat]; rfl
            rw [e]
            refine ⟨by rw [List.length_map, List.length_append, hjl]; omega, by rw [List.length_map, List.length_append, hjl]; omega, ?_⟩
            refine ihf (k + 1) _ ?_ (by omega) (by omega) (fun j hjk => ?_) (by omega)
            · rw [hat, Int.natCast_add, Int.mul_add]; simp
            · rcases Nat.lt_succ_iff_lt_or_eq.1 hjk with q | rfl
              · exact hj j q
              · rw [← hat]; exact h
          · rw [sW (n := pre.length + 1) (by omega) (by omega)]
            have hG : GoodW n (pre ++ [s]) (W ++ jobs s k) := by
              refine ⟨fun w hw => ?_, fun a d ha had => ?_, fun t ht htd => ?_, by rw [List.length_append, List.length_append, hjl]; simp only [List.length_cons, List.length_nil]; omega⟩
              · rcases List.mem_append.1 hw with hw | hw
                · exact G.b w hw
                · obtain ⟨j, hj1, rfl⟩ := List.mem_map.1 hw
                  rw [List.mem_range] at hj1
                  have := hj j hj1
                  have q0 : 0 ≤ s.p * (j : Int) := Int.mul_nonneg (by omega) (by omega)
                  simp only [job]
                  omega
              · rw [dsum_app]
                have a1 := G.s a d ha had
                have a2 := jobs_max hpp u1.1 u2.1 a d k
                have : nsum (pre ++ [s]) (d - a) = nsum pre (d - a) + s.c * nmax s (d - a) := by simp [nsum]
                omega
              · rcases List.mem_append.1 ht with ht | ht
                · obtain ⟨w, h1, h2⟩ := G.z t ht htd
                  exact ⟨w, List.mem_append.2 (.inl h1), h2⟩
                · obtain rfl := List.mem_singleton.1 ht
                  have hk0 : 0 < k := by
                    rcases Nat.eq_zero_or_pos k with rfl | h
                    · rw [hat] at h; simp at h; omega
                    · exact h
                  refine ⟨job t 0, List.mem_append.2 (.inr (List.mem_map.2 ⟨0, by rw [List.mem_range]; exact hk0, rfl⟩)), ?_, rfl⟩
                  simp [job, htd]
            have := ih (pre ++ [s]) (W ++ jobs s k) (by rw [hp]; simp) (fun t ht => ?_) hG
            · rw [List.length_append] at this; exact this
            · rcases List.mem_append.1 ht with ht | ht
              · exact hs t ht
              · obtain rfl := List.mem_singleton.1 ht
                exact ⟨hsu, hpp, hp1, hd1, hc1⟩
      have := p49 _ 0 0 (by simp) (Nat.lt_succ_self _) (by omega) (fun j hj => by omega) (Int.le_refl _)
      simpa [jobs] using this
  exact p27 L [] [] rfl (fun s hs => by simp at hs) ⟨fun w hw => by simp at hw, fun a d _ _ => by simp [dsum, nsum], fun s hs => by simp at hs, Nat.zero_le _⟩
end Go.Ab
