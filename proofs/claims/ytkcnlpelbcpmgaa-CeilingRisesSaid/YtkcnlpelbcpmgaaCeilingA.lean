import Derived.Test.YtkcnlpelbcpmgaaFns
namespace Go.Ab
set_option linter.unusedVariables false
set_option linter.unusedSimpArgs false
open Go Go.Proofs

/-- The locks' memory. -/
def HK (n : Nat) (rows : List (List AV)) : List ABlk := [.box 69 [.sl 1 n 0 n], .arr 71 3 rows]

/-- How rows are spelt. -/
def sg : RowF := fun A e rows i => match e with
  | 71 => [.int .i64 (A.cI rows i 0), .int .i64 (A.cI rows i 1), .bool (A.cB rows i 2)]
  | 3 => [.int .i64 (A.cI rows i 0)]
  | _ => A.cX rows i

section
variable {P : Program} {n : Nat} {rows : List (List AV)}

theorem Len_spec (hP : P = Try.prog) (hn : n = rows.length) : CallsA P 17 [.bptr 0 0] (HK n rows) (fun r H => r = .int .i64 (n : Int) ∧ H = HK n rows) := by
  obtain ⟨A, hA⟩ : ∃ A, A = arS := ⟨_, rfl⟩
  refine CallsA.inA hA (hP ▸ F17_at) sg 60 fun C Rn RR hC hRn hRR => ?_
  unfold HK
  cbv
  subst hC hRn hRR
  try simp only [nc, nc2] at *
  exact ⟨ndI hA (lenI hA hn), by subst hA; exact ⟨rfl, rfl⟩⟩

theorem at_spec (hP : P = Try.prog) (hn : n = rows.length) (i : Int) : CallsA P 36 [.bptr 0 0, .int .i64 i] (HK n rows) (fun r H => (r = if 0 ≤ i ∧ i < (n : Int) then .ptr 1 n i.toNat 0 else .nilp) ∧ H = HK n rows) := by
  obtain ⟨A, hA⟩ : ∃ A, A = arS := ⟨_, rfl⟩
  refine CallsA.inA hA (hP ▸ F36_at) sg 60 fun C Rn RR hC hRn hRR => ?_
  unfold HK
  cbv
  subst hC hRn hRR
  try simp only [nc, nc2] at *
  refine ⟨imI hA fun h0 => ?_, imI hA fun h0 => ⟨by rw [if_neg]; have q0 := lssT hA h0; omega, rfl⟩⟩
  have q0 := lssF hA h0
  refine (Len_spec hP hn).mono fun r H' hR => ?_
  obtain ⟨rfl, rfl⟩ := hR
  refine Run.gA hA sg 60 (rs := F36.res) (hP ▸ F36_at.res) fun C Rn RR hC hRn hRR => ?_
  unfold HK
  cbv
  subst hC hRn hRR
  try simp only [nc, nc2] at *
  refine ⟨imI hA fun h1 => ⟨by have q1 : (n : Int) ≤ i := geqT hA h1; rw [if_neg]; omega, rfl⟩, imI hA fun h1 => ?_⟩
  have q1 : i < (n : Int) := geqF hA h1
  refine ⟨ndI hA ⟨leII hA q0, ltOI hA q1, lenI hA hn⟩, ?_, rfl⟩
  rw [if_pos ⟨q0, q1⟩]
  subst hA
  simp [arS]

theorem at_in (hP : P = Try.prog) (hn : n = rows.length) (j : Nat) (hj : j < n) : CallsA P 36 [.bptr 0 0, .int .i64 (j : Int)] (HK n rows) (fun r H => r = .ptr 1 n j 0 ∧ H = HK n rows) :=
  (at_spec hP hn j).mono fun r H ⟨h1, h2⟩ => ⟨by rw [h1, if_pos (by omega)]; rfl, h2⟩
theorem at_out (hP : P = Try.prog) (hn : n = rows.length) (i : Int) (hi : ¬ (0 ≤ i ∧ i < (n : Int))) : CallsA P 36 [.bptr 0 0, .int .i64 i] (HK n rows) (fun r H => r = .nilp ∧ H = HK n rows) :=
  (at_spec hP hn i).mono fun r H ⟨h1, h2⟩ => ⟨by rw [h1, if_neg hi], h2⟩

theorem HK_blw (hp : pursS rows = true) : blwH 2 (HK n rows) = true := by
  simp [HK, blwH, blwR_pursS hp, blws, blw]

def okR (rows : List (List AV)) : Prop := ∀ j, j < rows.length → rows[j]? = some (sg arS 71 rows j)
def fH (n : Nat) (who : Int) (s : Nat × Nat × List (List AV)) : List AV :=
  [.bptr 0 0, .int .i64 who, .junk, .junk, .nils, .sl 2 s.2.1 0 s.2.1, .junk, .junk, .junk, .int .i64 (n : Int), .int .i64 (s.1 : Int), .junk, .junk, .junk, .junk, .junk, .junk, .junk, .junk, .junk, .junk, .junk, .junk, .junk, .junk, .junk, .junk, .junk, .junk, .junk, .junk, .junk, .junk, .junk]
def hH (n : Nat) (rows : List (List AV)) (s : Nat × Nat × List (List AV)) : List ABlk := HK n rows ++ [.arr 3 1 s.2.2]
def heldL (rows : List (List AV)) (who : Int) (k : Nat) : List Nat := (List.range k).filter fun i => cBS rows i 2 && decide (cIS rows i 1 = who)
def natR (l : List Nat) : List (List AV) := l.map fun (i : Nat) => [AV.int .i64 (i : Int)]

theorem Held_own (hP : P = Try.prog) (hn : n = rows.length) (who : Int) (hp : pursS rows = true) (hok : okR rows) (hb : n ≤ 1000000) : CallsA P 14 [.bptr 0 0, .int .i64 who] (HK n rows) (fun r H => (∃ m, r = .sl 2 m 0 m ∧ m = (natR (heldL rows who n)).length) ∧ H = HK n rows ++ [.arr 3 1 (natR (heldL rows who n))]) := by
  obtain ⟨A, hA⟩ : ∃ A, A = arS := ⟨_, rfl⟩
  refine CallsA.inA hA (hP ▸ F14_at) sg 60 fun C Rn RR hC hRn hRR => ?_
  unfold HK
  cbv
  subst hC hRn hRR
  try simp only [nc, nc2] at *
  refine (Len_spec hP hn).mono fun r H' hR => ?_
  obtain ⟨rfl, rfl⟩ := hR
  refine Run.gA hA sg 60 (rs := F14.res) (hP ▸ F14_at.res) fun C Rn RR hC hRn hRR => ?_
  unfold HK
  cbv
  subst hC hRn hRR
  try simp only [nc, nc2] at *
  refine Run.own 3 1 (by decide) (fr' := fH n who (0, 0, [])) (H' := HK n rows) (by simp [ownL, fH]) (by simp [ownH, HK]) ?_
  refine Run.loopN (by rfl) (fun s => n - s.1) (fH n who) (hH n rows) (fun s => s.1 ≤ n ∧ s.2.1 = s.2.2.length ∧ s.2.2 = natR (heldL rows who s.1)) ?_ (0, 0, []) (by simp [natR, heldL])
  rintro ⟨k, m, Ls⟩ ⟨hk, hm, hLs⟩ ih
  simp only at hk hm hLs
  refine Run.gA hA sg 60 (rs := F14.res) (hP ▸ F14_at.res) fun C Rn RR hC hRn hRR => ?_
  unfold hH fH HK
  cbv
  subst hC hRn hRR
  try simp only [nc, nc2] at *
  refine ⟨imI hA fun h1 => ?_, imI hA fun h1 => ?_⟩
  · have q1 : (k : Int) < (n : Int) := lssT hA h1
    refine ((at_in hP hn k (by omega)).beside rfl rfl (HK_blw hp) [.arr 3 1 Ls]).mono fun r H' hR => ?_
    obtain ⟨rfl, rfl⟩ := hR
    refine Run.gA hA sg 60 (rs := F14.res) (hP ▸ F14_at.res) fun C Rn RR hC hRn hRR => ?_
    unfold HK
    cbv
    subst hC hRn hRR
    try simp only [nc, nc2] at *
    have hkn : k < n := by omega
    have hrow : rows[k]? = some (sg A 71 rows k) := by subst hA; exact hok k (by omega)
    have w1 : IntKind.i64.wrap ((k : Int) + 1) = (k : Int) + 1 := wrap_i64 (by omega) (by omega)
    refine ⟨ndI hA ⟨lenI hA hn, rgI hA hrow⟩, imI hA fun h2 => ⟨ndI hA ⟨lenI hA hn, rgI hA hrow⟩, imI hA fun h3 => ⟨ndI hA ?_, ?_⟩, imI hA fun h3 => ?_⟩, imI hA fun h2 => ?_⟩
    · subst hA
      have hmk : m ≤ k := by rw [hm, hLs]; simp only [natR, heldL, List.length_map]; exact Nat.le_trans (List.length_filter_le _ _) (by simp)
      exact ⟨hm, Nat.le_of_eq hm, by simp [arS]; omega, by simp [arS]; omega⟩
    · have e3 := eqlT hA h3
      subst hA
      have hL : natR (heldL rows who (k + 1)) = Ls ++ [[AV.int .i64 (k : Int)]] := by
        rw [hLs, natR, natR, heldL, List.range_succ, List.filter_append, List.map_append]
        have hf : (cBS rows k 2 && decide (cIS rows k 1 = who)) = true := by
          rw [show cBS rows k 2 = true from h2, show cIS rows k 1 = who from e3]; simp
        simp [hf, heldL]
      refine Run.toS (ih (k + 1, m + 1, natR (heldL rows who (k + 1))) ⟨by omega, by simp only [hL, List.length_append, ← hm]; rfl, rfl⟩ (by simp only; omega)) ?_ ?_
      · simp [subL, fH, arS, rappS, hm, iopS, w1]
      · simp [hH, HK, arS, rappS, hm, hL]
    · have e3 := eqlF hA h3
      subst hA
      have hL : natR (heldL rows who (k + 1)) = Ls := by
        rw [hLs, natR, natR, heldL, List.range_succ, List.filter_append, List.map_append]
        have hf : (cBS rows k 2 && decide (cIS rows k 1 = who)) = false := by
          have e3 : cIS rows k 1 ≠ who := e3
          simp [e3]
        simp [hf, heldL]
      refine Run.toS (ih (k + 1, m, natR (heldL rows who (k + 1))) ⟨by omega, by simp only [hL, ← hm], rfl⟩ (by simp only; omega)) ?_ ?_
      · simp [subL, fH, arS, iopS, w1]
      · simp [hH, HK, hL]
    · subst hA
      have hL : natR (heldL rows who (k + 1)) = Ls := by
        rw [hLs, natR, natR, heldL, List.range_succ, List.filter_append, List.map_append]
        have hf : (cBS rows k 2 && decide (cIS rows k 1 = who)) = false := by
          rw [show cBS rows k 2 = false from h2]; rfl
        simp [hf, heldL]
      refine Run.toS (ih (k + 1, m, natR (heldL rows who (k + 1))) ⟨by omega, by simp only [hL, ← hm], rfl⟩ (by simp only; omega)) ?_ ?_
      · simp [subL, fH, arS, iopS, w1]
      · simp [hH, HK, hL]
  · have q1 : (n : Int) ≤ (k : Int) := lssF hA h1
    have : k = n := by omega
    subst this
    refine ⟨⟨m, rfl, by rw [hm, hLs]⟩, ?_⟩
    rw [hLs]; rfl

theorem pursS_ok (hok : okR rows) : pursS rows = true := by
  have key : ∀ (l : List (List AV)), (∀ r ∈ l, purs r = true) → pursS l = true := by
    intro l
    induction l with
    | nil => intro _; rfl
    | cons r l ih => intro h; simp only [pursS, Bool.and_eq_true]; exact ⟨h r (by simp), ih fun r hr => h r (by simp [hr])⟩
  refine key rows fun r hr => ?_
  obtain ⟨j, hj⟩ := List.getElem?_of_mem hr
  have := hok j (List.getElem?_eq_some_iff.1 hj).1
  rw [hj] at this
  injection this with this
  subst this
  rfl

theorem pursS_natR (l : List Nat) : pursS (natR l) = true := by
  induction l with
  | nil => rfl
  | cons x l ih => simp only [natR, List.map_cons, pursS] at ih ⊢; rw [ih]; rfl

theorem Held_spec (hP : P = Try.prog) (hn : n = rows.length) (who : Int) (hok : okR rows) (hb : n ≤ 1000000) : CallsA P 14 [.bptr 0 0, .int .i64 who] (HK n rows) (fun r H => r = .inl 1 (natR (heldL rows who n)) ∧ H = HK n rows) := by
  have hp := pursS_ok hok
  have := (Held_own hP hn who hp hok hb).mono (R' := fun r H' => (∃ m, r = .sl (HK n rows).length m 0 m ∧ m = (natR (heldL rows who n)).length) ∧ H' = HK n rows ++ [.arr 3 1 (natR (heldL rows who n))] ∧ True) (fun r H ⟨h1, h2⟩ => ⟨h1, h2, trivial⟩)
  exact (this.out rfl (pursS_natR _) (HK_blw hp)).mono fun r H ⟨h1, h2, _⟩ => ⟨h1, h2⟩

theorem Lock_out (hP : P = Try.prog) (hn : n = rows.length) (i : Int) (hi : ¬ (0 ≤ i ∧ i < (n : Int))) (who : Int) : CallsA P 11 [.bptr 0 0, .int .i64 i, .int .i64 who] (HK n rows) (fun r H => r = .int .i64 6 ∧ H = HK n rows) := by
  obtain ⟨A, hA⟩ : ∃ A, A = arS := ⟨_, rfl⟩
  refine CallsA.inA hA (hP ▸ F11_at) sg 60 fun C Rn RR hC hRn hRR => ?_
  unfold HK
  cbv
  subst hC hRn hRR
  try simp only [nc, nc2] at *
  refine (at_out hP hn i hi).mono fun r H' hR => ?_
  obtain ⟨rfl, rfl⟩ := hR
  refine Run.gA hA sg 60 (rs := F11.res) (hP ▸ F11_at.res) fun C Rn RR hC hRn hRR => ?_
  unfold HK
  cbv
  subst hC hRn hRR
  subst hA
  exact ⟨rfl, rfl⟩

theorem Lock_in (hP : P = Try.prog) (hn : n = rows.length) (j : Nat) (hj : j < n) (who : Int) (hok : okR rows) : CallsA P 11 [.bptr 0 0, .int .i64 (j : Int), .int .i64 who] (HK n rows) (fun r H =>
    (r = .int .i64 (if cBS rows j 2 = true then 10 else 0)) ∧ H = HK n (if cBS rows j 2 = true then rows else rows.set j [.int .i64 (cIS rows j 0), .int .i64 who, .bool true])) := by
  obtain ⟨A, hA⟩ : ∃ A, A = arS := ⟨_, rfl⟩
  refine CallsA.inA hA (hP ▸ F11_at) sg 60 fun C Rn RR hC hRn hRR => ?_
  unfold HK
  cbv
  subst hC hRn hRR
  try simp only [nc, nc2] at *
  refine (at_in hP hn j hj).mono fun r H' hR => ?_
  obtain ⟨rfl, rfl⟩ := hR
  refine Run.gA hA sg 60 (rs := F11.res) (hP ▸ F11_at.res) fun C Rn RR hC hRn hRR => ?_
  unfold HK
  cbv
  subst hC hRn hRR
  try simp only [nc, nc2] at *
  have hj' : j < rows.length := hn ▸ hj
  have hrow : rows[j]? = some (sg A 71 rows j) := by subst hA; exact hok j hj'
  refine ⟨ndI hA ⟨lenI hA hn, rgI hA hrow⟩, imI hA fun hb => ?_, imI hA fun hb => ?_⟩
  · subst hA
    have hb : cBS rows j 2 = true := hb
    simp [hb, HK]
  · subst hA
    have hb : cBS rows j 2 = false := hb
    refine ⟨⟨hn, hrow⟩, ⟨by simpa [arS] using hn, ?_⟩, ?_⟩
    · show (rows.set j _)[j]? = some [_, _, _]
      rw [List.getElem?_set]
      simp [hj', arS, cIS, cBS, cellS_set]
    · simp [hb, HK, hj', arS, cIS, cellS_set]

theorem Unlock_in (hP : P = Try.prog) (hn : n = rows.length) (j : Nat) (hj : j < n) (who : Int) (hok : okR rows) : CallsA P 12 [.bptr 0 0, .int .i64 (j : Int), .int .i64 who] (HK n rows) (fun r H =>
    (r = .int .i64 (if cBS rows j 2 = true ∧ cIS rows j 1 = who then 0 else 8)) ∧ H = HK n (if cBS rows j 2 = true ∧ cIS rows j 1 = who then rows.set j [.int .i64 (cIS rows j 0), .int .i64 0, .bool false] else rows)) := by
  obtain ⟨A, hA⟩ : ∃ A, A = arS := ⟨_, rfl⟩
  refine CallsA.inA hA (hP ▸ F12_at) sg 60 fun C Rn RR hC hRn hRR => ?_
  unfold HK
  cbv
  subst hC hRn hRR
  try simp only [nc, nc2] at *
  refine (at_in hP hn j hj).mono fun r H' hR => ?_
  obtain ⟨rfl, rfl⟩ := hR
  refine Run.gA hA sg 60 (rs := F12.res) (hP ▸ F12_at.res) fun C Rn RR hC hRn hRR => ?_
  unfold HK
  cbv
  subst hC hRn hRR
  try simp only [nc, nc2] at *
  have hj' : j < rows.length := hn ▸ hj
  have hrow : rows[j]? = some (sg A 71 rows j) := by subst hA; exact hok j hj'
  refine ⟨ndI hA ⟨lenI hA hn, rgI hA hrow⟩, imI hA fun hb => ⟨ndI hA ⟨lenI hA hn, rgI hA hrow⟩, imI hA fun hc => ?_, imI hA fun hc => ⟨ndI hA ⟨lenI hA hn, rgI hA hrow⟩, ?_⟩⟩, imI hA fun hb => ?_⟩
  · have q := neqT hA hc
    subst hA
    have q : cIS rows j 1 ≠ who := q
    simp [q, HK]
  · have q := neqF hA hc
    have q2 := notF hA hb
    subst hA
    have q : cIS rows j 1 = who := q
    have q2 : cBS rows j 2 = true := q2
    refine ⟨⟨by simpa [arS] using hn, ?_⟩, ?_⟩
    · show (rows.set j _)[j]? = some [_, _, _]
      rw [List.getElem?_set]
      simp [hj', arS, cIS, cBS, cellS_set]
    · simp [q, q2, HK, arS, cIS_set hj', ivI]
  · have q2 := notT hA hb
    subst hA
    have q2 : cBS rows j 2 = false := q2
    simp [q2, HK]

/-- The level by what is held. -/
def lvl (rows : List (List AV)) (base : Int) (l : List Nat) : Int := l.foldl (fun b i => if cIS rows i 0 > b then cIS rows i 0 else b) base

def fL (who : Int) (L : List (List AV)) (s : Nat × Int) : List AV :=
  [.bptr 0 0, .int .i64 who, .int .i64 s.2, .junk, .junk, .junk, .int .i64 0, .junk, .junk, .junk, .junk, .inl 1 L, .int .i64 (L.length : Int), .int .i64 (s.1 : Int), .junk, .junk, .junk, .junk, .junk, .junk, .junk, .junk, .junk, .junk, .junk, .junk, .junk]

theorem Level_spec (hP : P = Try.prog) (hn : n = rows.length) (who base : Int) (hok : okR rows) (hb : n ≤ 1000000) : CallsA P 16 [.bptr 0 0, .int .i64 who, .int .i64 base] (HK n rows) (fun r H => r = .int .i64 (lvl rows base (heldL rows who n)) ∧ H = HK n rows) := by
  obtain ⟨A, hA⟩ : ∃ A, A = arS := ⟨_, rfl⟩
  refine CallsA.inA hA (hP ▸ F16_at) sg 60 fun C Rn RR hC hRn hRR => ?_
  unfold HK
  cbv
  subst hC hRn hRR
  try simp only [nc, nc2] at *
  refine (Held_spec hP hn who hok hb).mono fun r H' hR => ?_
  obtain ⟨rfl, rfl⟩ := hR
  obtain ⟨L, hL⟩ : ∃ L, L = heldL rows who n := ⟨_, rfl⟩
  rw [← hL]
  have hLn : ∀ i ∈ L, i < n := fun i hi => by rw [hL] at hi; have := (List.mem_filter.1 hi).1; simpa using this
  obtain ⟨N, hN⟩ : ∃ N, N = natR L := ⟨_, rfl⟩
  rw [← hN]
  have hNl : N.length = L.length := by rw [hN]; simp [natR]
  have hLl : L.length ≤ n := by rw [hL]; exact Nat.le_trans (List.length_filter_le _ _) (by simp)
  refine Run.gA hA sg 60 (rs := F16.res) (hP ▸ F16_at.res) fun C Rn RR hC hRn hRR => ?_
  unfold HK
  cbv
  subst hC hRn hRR
  try simp only [nc, nc2] at *
  refine Run.toS (fr' := fL who N (0, base)) (H' := HK n rows) ?_ (by subst hA; simp [subL, fL, arS]) rfl
  refine Run.loopN (by rfl) (fun s => L.length - s.1) (fL who N) (fun _ => HK n rows) (fun s => s.1 ≤ L.length ∧ s.2 = lvl rows base (L.take s.1)) ?_ (0, base) (by simp [lvl])
  rintro ⟨k, b⟩ ⟨hk, hbv⟩ ih
  simp only at hk hbv
  obtain ⟨ln, hln⟩ : ∃ ln, ln = N.length := ⟨_, rfl⟩
  refine Run.gA hA sg 60 (rs := F16.res) (hP ▸ F16_at.res) fun C Rn RR hC hRn hRR => ?_
  unfold fL HK
  rw [← hln]
  cbv
  subst hC hRn hRR
  try simp only [nc, nc2] at *
  have w1 : IntKind.i64.wrap ((k : Int) + 1) = (k : Int) + 1 := wrap_i64 (by omega) (by omega)
  refine ⟨imI hA fun h1 => ?_, imI hA fun h1 => ?_⟩
  · have q1 : (k : Int) < (ln : Int) := lssT hA h1
    have hkL : k < L.length := by omega
    have hNk : N[k]? = some [.int .i64 ((L[k] : Nat) : Int)] := by rw [hN, natR, List.getElem?_map, List.getElem?_eq_getElem hkL]; rfl
    have e : A.cI N (A.tn (k : Int)) 0 = ((L[k] : Nat) : Int) := cI_of hA hNk rfl
    refine ⟨ndI hA ⟨leII hA (by omega), rgI hA ?_⟩, ?_⟩
    · rw [show A.tn (k : Int) = k by subst hA; rfl]
      subst hA
      rw [hNk]
      show some [_] = some [AV.int .i64 (cIS N k 0)]
      have : cIS N k 0 = ((L[k] : Nat) : Int) := e
      rw [this]
    · delta Ar.cI Ar.tn at e
      rw [e]
      obtain ⟨i, hi⟩ : ∃ i, i = L[k] := ⟨_, rfl⟩
      rw [← hi]
      have hin : i < n := hi ▸ hLn _ (List.getElem_mem hkL)
      refine (at_in hP hn i hin).mono fun r H' hR => ?_
      obtain ⟨rfl, rfl⟩ := hR
      clear e
      refine Run.gA hA sg 60 (rs := F16.res) (hP ▸ F16_at.res) fun C Rn RR hC hRn hRR => ?_
      unfold HK
      cbv
      subst hC hRn hRR
      try simp only [nc, nc2] at *
      have hrow : rows[i]? = some (sg A 71 rows i) := by subst hA; exact hok i (by omega)
      refine ⟨ndI hA ⟨lenI hA hn, rgI hA hrow⟩, ?_⟩
      subst hA
      refine Run.toS (ih (k + 1, if cIS rows i 0 > b then cIS rows i 0 else b) ⟨by simp only; omega, ?_⟩ (by simp only; omega)) ?_ rfl
      · simp only [lvl] at hbv ⊢
        rw [List.take_add_one, List.foldl_append, ← hbv, List.getElem?_eq_getElem hkL, ← hi]
        rfl
      · simp [subL, fL, arS, iopS, w1, hln]
  · have q1 : (ln : Int) ≤ (k : Int) := lssF hA h1
    have : k = L.length := by omega
    subst this
    rw [List.take_length] at hbv
    exact ⟨by rw [hbv], rfl⟩

theorem okR_set (hok : okR rows) (j : Nat) (a b : Int) (c : Bool) : okR (rows.set j [.int .i64 a, .int .i64 b, .bool c]) := by
  intro i hi
  rw [List.length_set] at hi
  rw [List.getElem?_set]
  by_cases h : j = i
  · subst h
    simp [hi, sg, arS, cIS_set hi, cBS_set hi, ivI, ivB]
  · rw [if_neg h, hok i hi]
    simp only [sg, arS, cIS_iv, cBS_iv, cellS_set, h, false_and, if_false]

def fF (who : Int) (L : List (List AV)) (k : Nat) : List AV :=
  [.bptr 0 0, .int .i64 who, .junk, .junk, .int .i64 0, .inl 1 L, .junk, .junk, .junk, .junk, .junk, .inl 1 L, .int .i64 (L.length : Int), .int .i64 (k : Int), .junk, .junk, .junk, .junk, .junk, .junk, .junk, .junk, .junk, .junk]

structure Freed (rows rk : List (List AV)) (l : List Nat) : Prop where
  len : rk.length = rows.length
  ok : okR rk
  col : ∀ j, cIS rk j 0 = cIS rows j 0
  free : ∀ j ∈ l, cBS rk j 2 = false
  keep : ∀ j, j ∉ l → ∀ c, cellS rk j c = cellS rows j c

theorem Free_spec (hP : P = Try.prog) (hn : n = rows.length) (who : Int) (hok : okR rows) (hb : n ≤ 1000000) : CallsA P 13 [.bptr 0 0, .int .i64 who] (HK n rows) (fun r H => ∃ rk, Freed rows rk (heldL rows who n) ∧ r = .int .i64 ((heldL rows who n).length : Int) ∧ H = HK n rk) := by
  obtain ⟨A, hA⟩ : ∃ A, A = arS := ⟨_, rfl⟩
  refine CallsA.inA hA (hP ▸ F13_at) sg 60 fun C Rn RR hC hRn hRR => ?_
  unfold HK
  cbv
  subst hC hRn hRR
  try simp only [nc, nc2] at *
  refine (Held_spec hP hn who hok hb).mono fun r H' hR => ?_
  obtain ⟨rfl, rfl⟩ := hR
  obtain ⟨L, hL⟩ : ∃ L, L = heldL rows who n := ⟨_, rfl⟩
  rw [← hL]
  have hLn : ∀ i ∈ L, i < n := fun i hi => by rw [hL] at hi; have := (List.mem_filter.1 hi).1; simpa using this
  have hLh : ∀ i ∈ L, cBS rows i 2 = true ∧ cIS rows i 1 = who := fun i hi => by rw [hL] at hi; have := (List.mem_filter.1 hi).2; simpa using this
  have hnd : L.Nodup := by rw [hL]; exact List.Nodup.sublist List.filter_sublist List.nodup_range
  obtain ⟨N, hN⟩ : ∃ N, N = natR L := ⟨_, rfl⟩
  rw [← hN]
  have hNl : N.length = L.length := by rw [hN]; simp [natR]
  have hLl : L.length ≤ n := by rw [hL]; exact Nat.le_trans (List.length_filter_le _ _) (by simp)
  refine Run.gA hA sg 60 (rs := F13.res) (hP ▸ F13_at.res) fun C Rn RR hC hRn hRR => ?_
  unfold HK
  cbv
  subst hC hRn hRR
  try simp only [nc, nc2] at *
  refine Run.toS (fr' := fF who N 0) (H' := HK n rows) ?_ (by subst hA; simp [subL, fF, arS]) rfl
  refine Run.loopN (σ := Nat × List (List AV)) (by rfl) (fun s => L.length - s.1) (fun s => fF who N s.1) (fun s => HK n s.2) (fun s => s.1 ≤ L.length ∧ Freed rows s.2 (L.take s.1)) ?_ (0, rows) ⟨by simp, rfl, hok, fun _ => rfl, by simp, fun _ _ _ => rfl⟩
  rintro ⟨k, rk⟩ ⟨hk, hF⟩ ih
  simp only at hk hF
  obtain ⟨ln, hln⟩ : ∃ ln, ln = N.length := ⟨_, rfl⟩
  refine Run.gA hA sg 60 (rs := F13.res) (hP ▸ F13_at.res) fun C Rn RR hC hRn hRR => ?_
  unfold fF HK
  rw [← hln]
  cbv
  subst hC hRn hRR
  try simp only [nc, nc2] at *
  have w1 : IntKind.i64.wrap ((k : Int) + 1) = (k : Int) + 1 := wrap_i64 (by omega) (by omega)
  have hrn : n = rk.length := by rw [hF.len, hn]
  refine ⟨imI hA fun h1 => ?_, imI hA fun h1 => ?_⟩
  · have q1 : (k : Int) < (ln : Int) := lssT hA h1
    have hkL : k < L.length := by omega
    have hNk : N[k]? = some [.int .i64 ((L[k] : Nat) : Int)] := by rw [hN, natR, List.getElem?_map, List.getElem?_eq_getElem hkL]; rfl
    have e : A.cI N (A.tn (k : Int)) 0 = ((L[k] : Nat) : Int) := cI_of hA hNk rfl
    refine ⟨ndI hA ⟨leII hA (by omega), rgI hA ?_⟩, ?_⟩
    · rw [show A.tn (k : Int) = k by subst hA; rfl]
      subst hA
      rw [hNk]
      show some [_] = some [AV.int .i64 (cIS N k 0)]
      have : cIS N k 0 = ((L[k] : Nat) : Int) := e
      rw [this]
    · delta Ar.cI Ar.tn at e
      rw [e]
      obtain ⟨i, hi⟩ : ∃ i, i = L[k] := ⟨_, rfl⟩
      rw [← hi]
      have hmem : i ∈ L := hi ▸ List.getElem_mem hkL
      have hin : i < n := hLn i hmem
      have hni : i ∉ L.take k := fun h => by
        rw [hi] at h
        obtain ⟨a, ha, hae⟩ := List.getElem_of_mem h
        rw [List.getElem_take] at hae
        rw [List.length_take] at ha
        exact (List.pairwise_iff_getElem.1 hnd) a k (by omega) hkL (by omega) hae
      refine (Unlock_in hP hrn i hin who hF.ok).mono fun r H' hR => ?_
      have hc : cBS rk i 2 = true ∧ cIS rk i 1 = who := by
        obtain ⟨a, b⟩ := hLh i hmem
        rw [cBS_iv, cIS_iv, hF.keep i hni, hF.keep i hni, ← cBS_iv, ← cIS_iv]
        exact ⟨a, b⟩
      simp only [hc, and_self, if_true] at hR
      obtain ⟨rfl, rfl⟩ := hR
      clear e
      obtain ⟨rk', hrk'⟩ : ∃ x, x = rk.set i [AV.int .i64 (cIS rk i 0), .int .i64 0, .bool false] := ⟨_, rfl⟩
      rw [← hrk']
      refine Run.gA hA sg 60 (rs := F13.res) (hP ▸ F13_at.res) fun C Rn RR hC hRn hRR => ?_
      unfold HK
      cbv
      subst hC hRn hRR
      try simp only [nc, nc2] at *
      subst hA
      have hir : i < rk.length := by omega
      have htk : L.take (k + 1) = L.take k ++ [i] := by rw [List.take_add_one, List.getElem?_eq_getElem hkL, ← hi]; rfl
      refine Run.toS (ih (k + 1, rk') ⟨by simp only; omega, ?_⟩ (by simp only; omega)) ?_ rfl
      · simp only [htk, hrk']
        refine ⟨by rw [List.length_set, hF.len], okR_set hF.ok i _ _ _, fun j => ?_, fun j hj => ?_, fun j hj c => ?_⟩
        · by_cases h : i = j
          · subst h
            rw [cIS_set hir]
            exact hF.col i
          · rw [cIS_iv, cellS_set, if_neg (fun x => h x.1), ← cIS_iv]
            exact hF.col j
        · rcases List.mem_append.1 hj with hj | hj
          · have h : ¬ i = j := fun h => hni (h ▸ hj)
            rw [cBS_iv, cellS_set, if_neg (fun x => h x.1), ← cBS_iv]
            exact hF.free j hj
          · simp only [List.mem_singleton] at hj
            subst hj
            rw [cBS_set hir]
            rfl
        · have h : ¬ i = j := fun h => hj (by simp [h])
          rw [cellS_set, if_neg (fun x => h x.1)]
          exact hF.keep j (fun hm => hj (by simp [hm])) c
      · simp [subL, fF, arS, iopS, w1, hln]
  · have q1 : (ln : Int) ≤ (k : Int) := lssF hA h1
    have : k = L.length := by omega
    subst this
    rw [List.take_length] at hF
    subst hA
    exact ⟨rk, hF, by simp [arS, hln, hNl], rfl⟩

theorem Holder_in (hP : P = Try.prog) (hn : n = rows.length) (j : Nat) (hj : j < n) (hok : okR rows) : CallsA P 15 [.bptr 0 0, .int .i64 (j : Int)] (HK n rows) (fun r H => r = .tup [.int .i64 (cIS rows j 1), .bool (cBS rows j 2)] ∧ H = HK n rows) := by
  obtain ⟨A, hA⟩ : ∃ A, A = arS := ⟨_, rfl⟩
  refine CallsA.inA hA (hP ▸ F15_at) sg 60 fun C Rn RR hC hRn hRR => ?_
  unfold HK
  cbv
  subst hC hRn hRR
  try simp only [nc, nc2] at *
  refine (at_in hP hn j hj).mono fun r H' hR => ?_
  obtain ⟨rfl, rfl⟩ := hR
  refine Run.gA hA sg 60 (rs := F15.res) (hP ▸ F15_at.res) fun C Rn RR hC hRn hRR => ?_
  unfold HK
  cbv
  subst hC hRn hRR
  try simp only [nc, nc2] at *
  have hrow : rows[j]? = some (sg A 71 rows j) := by subst hA; exact hok j (by omega)
  have hm : P.follows .mixedOrders = true := by rw [hP]; kernel_rfl
  refine Run.gD hA hm (by rfl) sg [true, true] (by simp) fun C Fin Dr hC hFin hDr => ?_
  cbv
  subst hC hFin hDr
  try simp only [nc, nc2] at *
  refine ⟨ndI hA ⟨lenI hA hn, rgI hA hrow⟩, ndI hA ⟨lenI hA hn, rgI hA hrow⟩, ?_⟩
  refine Run.gA hA sg 60 (rs := F15.res) (hP ▸ F15_at.res) fun C Rn RR hC hRn hRR => ?_
  cbv
  subst hC hRn hRR
  subst hA
  exact ⟨rfl, rfl⟩
end

section
variable {P : Program}

def rowC (l : List Int) : List (List AV) := l.map fun c => [AV.int .i64 c, .int .i64 0, .bool false]
def intR (l : List Int) : List (List AV) := l.map fun c => [AV.int .i64 c]

theorem okR_rowC (l : List Int) : okR (rowC l) := by
  intro j hj
  simp only [rowC, List.length_map] at hj
  simp [rowC, sg, arS, cIS_iv, cBS_iv, cellS_map, hj, ivI, ivB]

def fN (L : List (List AV)) (k : Nat) : List AV :=
  [.inl 1 L, .junk, .nilp, .bptr 0 0, .junk, .junk, .junk, .junk, .inl 1 L, .int .i64 (L.length : Int), .int .i64 (k : Int), .junk, .junk, .junk, .junk, .junk, .junk, .junk, .junk, .junk, .junk, .junk, .junk, .junk, .junk, .junk, .junk]

theorem New_spec (hP : P = Try.prog) (l : List Int) (hb : l.length ≤ 1000000) : CallsA P 10 [.inl 1 (intR l)] [] (fun r H => r = .bptr 0 0 ∧ H = HK l.length (rowC l)) := by
  obtain ⟨A, hA⟩ : ∃ A, A = arS := ⟨_, rfl⟩
  obtain ⟨N, hN⟩ : ∃ N, N = intR l := ⟨_, rfl⟩
  rw [← hN]
  have hNl : N.length = l.length := by rw [hN]; simp [intR]
  refine CallsA.inA hA (hP ▸ F10_at) sg 60 fun C Rn RR hC hRn hRR => ?_
  cbv
  subst hC hRn hRR
  try simp only [nc, nc2] at *
  refine Run.own 71 3 (by decide) (fr' := fN N 0) (H' := [.box 69 [.sl 1 0 0 0]]) (by subst hA; simp [ownL, fN, arS]) ⟨.inr ⟨69, _, _, rfl, rfl, ⟨.inr (.inr ⟨rfl, rfl⟩), trivial⟩⟩, trivial⟩ ?_
  refine Run.loopN (by rfl) (fun s => l.length - s) (fun s => fN N s) (fun s => HK s (rowC (l.take s))) (fun s => s ≤ l.length) ?_ 0 (by simp)
  intro k hk ih
  obtain ⟨rk, hrk⟩ : ∃ rk, rk = rowC (l.take k) := ⟨_, rfl⟩
  have hkk : k = rk.length := by rw [hrk]; simp [rowC]; omega
  obtain ⟨ln, hln⟩ : ∃ ln, ln = N.length := ⟨_, rfl⟩
  refine Run.gA hA sg 60 (rs := F10.res) (hP ▸ F10_at.res) fun C Rn RR hC hRn hRR => ?_
  unfold fN HK
  rw [← hln, ← hrk]
  cbv
  subst hC hRn hRR
  try simp only [nc, nc2] at *
  have w1 : IntKind.i64.wrap ((k : Int) + 1) = (k : Int) + 1 := wrap_i64 (by omega) (by omega)
  refine ⟨imI hA fun h1 => ?_, imI hA fun h1 => ?_⟩
  · have q1 : (k : Int) < (ln : Int) := lssT hA h1
    have hkL : k < l.length := by omega
    have hNk : N[k]? = some [.int .i64 l[k]] := by rw [hN, intR, List.getElem?_map, List.getElem?_eq_getElem hkL]; rfl
    have e : cIS N k 0 = l[k] := by rw [cIS_iv, hN, intR, cellS_map, List.getElem?_eq_getElem hkL]; rfl
    subst hA
    have htk : rowC (l.take (k + 1)) = rk ++ [[.int .i64 l[k], .int .i64 0, .bool false]] := by
      rw [hrk, rowC, rowC, List.take_add_one, List.getElem?_eq_getElem hkL, List.map_append]
      rfl
    refine ⟨⟨by show (0 : Int) ≤ (k : Int); omega, ?_⟩, ⟨hkk, Nat.le_of_eq hkk, by simp [arS]; omega, by simp [arS]; omega⟩, ?_⟩
    · show N[k]? = some [AV.int .i64 (cIS N k 0)]
      rw [hNk, e]
    · refine Run.toS (ih (k + 1) (by omega) (by omega)) ?_ ?_
      · simp [subL, fN, arS, iopS, w1, hln]
      · have e2 : rappS rk k [[AV.int .i64 (cIS N k 0), .int .i64 0, .bool false]] = rk ++ [[.int .i64 l[k], .int .i64 0, .bool false]] := by
          rw [e]
          simp [rappS, hkk]
        rw [htk, ← e2]
        have e3 : (rappS rk k [[AV.int .i64 (cIS N k 0), .int .i64 0, .bool false]]).length = k + 1 := by rw [e2]; simp [hkk]
        show [ABlk.box 69 [.sl 1 (rappS rk k [[AV.int .i64 (cIS N k 0), .int .i64 0, .bool false]]).length 0 (k + 1)], .arr 71 3 _] = _
        rw [e3]
        rfl
  · have q1 : (ln : Int) ≤ (k : Int) := lssF hA h1
    have : k = l.length := by omega
    subst this
    refine ⟨trivial, ?_⟩
    rw [hrk, List.take_length]
    rfl

def r13a : List (List AV) := [[.int .i64 7, .int .i64 0, .bool false], [.int .i64 2, .int .i64 0, .bool false]]
def r13b : List (List AV) := [[.int .i64 7, .int .i64 5, .bool true], [.int .i64 2, .int .i64 0, .bool false]]
theorem ok13a : okR r13a := okR_rowC [7, 2]
theorem ok13b : okR r13b := okR_set (rows := r13a) ok13a 0 7 5 true

theorem fixed13 (hP : P = Try.prog) : CallsA P 9 [] [] (fun r H => r = .bool true ∧ H = []) := by
  obtain ⟨A, hA⟩ : ∃ A, A = arS := ⟨_, rfl⟩
  refine CallsA.trim (R := fun r H => r = .bool true) ?_ (fun r H h => by subst h; exact ⟨rfl, by simp [blwH], rfl, by simp⟩)
  refine CallsA.inA hA (hP ▸ F9_at) sg 60 fun C Rn RR hC hRn hRR => ?_
  cbv
  subst hC hRn hRR
  refine (New_spec hP [7, 2] (by simp)).mono fun r H' hR => ?_
  obtain ⟨rfl, rfl⟩ := hR
  refine Run.gA hA sg 60 (rs := F9.res) (hP ▸ F9_at.res) fun C Rn RR hC hRn hRR => ?_
  cbv
  subst hC hRn hRR
  refine (Lock_in hP (rows := r13a) rfl 0 (by decide) 5 ok13a).mono fun r H' hR => ?_
  have hR : r = .int .i64 0 ∧ H' = HK 2 r13b := hR
  obtain ⟨rfl, rfl⟩ := hR
  refine Run.gA hA sg 60 (rs := F9.res) (hP ▸ F9_at.res) fun C Rn RR hC hRn hRR => ?_
  cbv
  subst hC hRn hRR
  refine (Lock_in hP (rows := r13b) rfl 0 (by decide) 6 ok13b).mono fun r H' hR => ?_
  have hR : r = .int .i64 10 ∧ H' = HK 2 r13b := hR
  obtain ⟨rfl, rfl⟩ := hR
  refine Run.gA hA sg 60 (rs := F9.res) (hP ▸ F9_at.res) fun C Rn RR hC hRn hRR => ?_
  cbv
  subst hC hRn hRR
  refine (Unlock_in hP (rows := r13b) rfl 0 (by decide) 6 ok13b).mono fun r H' hR => ?_
  have hR : r = .int .i64 8 ∧ H' = HK 2 r13b := hR
  obtain ⟨rfl, rfl⟩ := hR
  refine Run.gA hA sg 60 (rs := F9.res) (hP ▸ F9_at.res) fun C Rn RR hC hRn hRR => ?_
  cbv
  subst hC hRn hRR
  refine (Holder_in hP (rows := r13b) rfl 0 (by decide) ok13b).mono fun r H' hR => ?_
  have hR : r = .tup [.int .i64 5, .bool true] ∧ H' = HK 2 r13b := hR
  obtain ⟨rfl, rfl⟩ := hR
  refine Run.gA hA sg 60 (rs := F9.res) (hP ▸ F9_at.res) fun C Rn RR hC hRn hRR => ?_
  cbv
  subst hC hRn hRR
  refine (Holder_in hP (rows := r13b) rfl 1 (by decide) ok13b).mono fun r H' hR => ?_
  have hR : r = .tup [.int .i64 0, .bool false] ∧ H' = HK 2 r13b := hR
  obtain ⟨rfl, rfl⟩ := hR
  refine Run.gA hA sg 60 (rs := F9.res) (hP ▸ F9_at.res) fun C Rn RR hC hRn hRR => ?_
  cbv
  subst hC hRn hRR
  refine ⟨imI hA fun _ => ⟨imI hA fun _ => ⟨imI hA fun _ => ?_, imI hA fun h => absurd rfl (eqlF hA h)⟩, imI hA fun h => absurd rfl (eqlF hA h)⟩, imI hA fun h => absurd rfl (eqlF hA h)⟩
  refine (Level_spec hP (rows := r13b) rfl 5 3 ok13b (by decide)).mono fun r H' hR => ?_
  have hR : r = .int .i64 7 ∧ H' = HK 2 r13b := hR
  obtain ⟨rfl, rfl⟩ := hR
  refine Run.gA hA sg 60 (rs := F9.res) (hP ▸ F9_at.res) fun C Rn RR hC hRn hRR => ?_
  cbv
  subst hC hRn hRR
  refine ⟨imI hA fun _ => ?_, imI hA fun h => absurd rfl (eqlF hA h)⟩
  refine (Level_spec hP (rows := r13b) rfl 6 3 ok13b (by decide)).mono fun r H' hR => ?_
  have hR : r = .int .i64 3 ∧ H' = HK 2 r13b := hR
  obtain ⟨rfl, rfl⟩ := hR
  refine Run.gA hA sg 60 (rs := F9.res) (hP ▸ F9_at.res) fun C Rn RR hC hRn hRR => ?_
  cbv
  subst hC hRn hRR
  refine ⟨imI hA fun _ => ⟨imI hA fun _ => ⟨imI hA fun _ => ⟨imI hA fun _ => ?_, imI hA fun h => Bool.noConfusion (notF hA h)⟩, imI hA fun h => Bool.noConfusion h⟩, imI hA fun h => absurd rfl (eqlF hA h)⟩, imI hA fun h => absurd rfl (eqlF hA h)⟩
  refine (Free_spec hP (rows := r13b) rfl 5 ok13b (by decide)).mono fun r H' hR => ?_
  obtain ⟨rk, hF, hr, rfl⟩ := hR
  have hr : r = .int .i64 1 := hr
  subst hr
  have hF : Freed r13b rk [0] := hF
  have hlk : 2 = rk.length := hF.len.symm
  have hh : heldL rk 5 2 = [] := by
    have h0 := hF.free 0 (by simp)
    have h1 : cBS rk 1 2 = false := by rw [cBS_iv, hF.keep 1 (by simp)]; rfl
    simp [heldL, List.range_succ, h0, h1]
  refine Run.gA hA sg 60 (rs := F9.res) (hP ▸ F9_at.res) fun C Rn RR hC hRn hRR => ?_
  cbv
  subst hC hRn hRR
  refine ⟨imI hA fun _ => ?_, imI hA fun h => absurd rfl (eqlF hA h)⟩
  refine (Held_spec hP hlk 5 hF.ok (by decide)).mono fun r H' hR => ?_
  rw [hh] at hR
  have hR : r = .inl 1 [] ∧ H' = HK 2 rk := hR
  obtain ⟨rfl, rfl⟩ := hR
  refine Run.gA hA sg 60 (rs := F9.res) (hP ▸ F9_at.res) fun C Rn RR hC hRn hRR => ?_
  cbv
  subst hC hRn hRR
  refine ⟨imI hA fun _ => ?_, imI hA fun h => absurd (by subst hA; rfl) (eqlF hA h)⟩
  refine (Lock_out hP hlk 2 (by decide) 1).mono fun r H' hR => ?_
  obtain ⟨rfl, rfl⟩ := hR
  refine Run.gA hA sg 60 (rs := F9.res) (hP ▸ F9_at.res) fun C Rn RR hC hRn hRR => ?_
  cbv
  subst hC hRn hRR
  subst hA
  rfl

/-! ### CeilingRises -/
def mxC (cs : List Int) (base : Int) (k : Nat) : Int := (cs.take k).foldl (fun b c => if c > b then c else b) base

theorem filter_range (p : Nat → Bool) (m : Nat) : ∀ n, m ≤ n → (∀ i, i < n → p i = decide (i < m)) → (List.range n).filter p = List.range m
  | 0, hm, _ => by rw [Nat.le_zero.1 hm]; rfl
  | n + 1, hm, h => by
    rw [List.range_succ, List.filter_append]
    rcases Nat.eq_or_lt_of_le hm with rfl | hlt
    · rw [List.range_succ]
      have h1 : (List.range n).filter p = List.range n := by
        rw [List.filter_eq_self]
        intro a ha
        rw [h a (by have := List.mem_range.1 ha; omega)]
        simp at ha ⊢
        omega
      rw [h1]
      simp [h n (by omega)]
    · rw [filter_range p m n (by omega) (fun i hi => h i (by omega))]
      simp [h n (by omega)]
      omega

theorem lvl_range (rk : List (List AV)) (cs : List Int) (base : Int) : ∀ m, m ≤ cs.length → (∀ i (hi : i < cs.length), i < m → cIS rk i 0 = cs[i]) → lvl rk base (List.range m) = mxC cs base m
  | 0, _, _ => rfl
  | m + 1, hm, h => by
    have ih := lvl_range rk cs base m (by omega) (fun i hi hm => h i hi (by omega))
    simp only [lvl, mxC] at ih ⊢
    rw [List.range_succ, List.foldl_append, ih, List.take_add_one, List.getElem?_eq_getElem (show m < cs.length by omega), List.foldl_append, ]
    simp [h m (by omega) (by omega)]

structure Rise (cs : List Int) (who : Int) (k : Nat) (rk : List (List AV)) : Prop where
  len : rk.length = cs.length
  ok : okR rk
  col : ∀ i (hi : i < cs.length), cIS rk i 0 = cs[i]
  held : ∀ i, i < cs.length → cBS rk i 2 = decide (i < k)
  who : ∀ i, i < k → i < cs.length → cIS rk i 1 = who

theorem Rise.heldL {cs : List Int} {who : Int} {k : Nat} {rk : List (List AV)} (h : Rise cs who k rk) (hk : k ≤ cs.length) : heldL rk who cs.length = List.range k := by
  refine filter_range _ k cs.length hk fun i hi => ?_
  rw [h.held i hi]
  by_cases hik : i < k
  · simp [hik, h.who i hik hi]
  · simp [hik]

theorem Rise.init (cs : List Int) (who : Int) : Rise cs who 0 (rowC cs) where
  len := by simp [rowC]
  ok := okR_rowC cs
  col := fun i hi => by rw [cIS_iv, rowC, cellS_map, List.getElem?_eq_getElem hi]; rfl
  held := fun i hi => by rw [cBS_iv, rowC, cellS_map, List.getElem?_eq_getElem hi]; rfl
  who := fun i hi => by omega

theorem Rise.step {cs : List Int} {who : Int} {k : Nat} {rk : List (List AV)} (h : Rise cs who k rk) (hk : k < cs.length) : Rise cs who (k + 1) (rk.set k [.int .i64 (cIS rk k 0), .int .i64 who, .bool true]) := by
  have hkr : k < rk.length := by rw [h.len]; exact hk
  refine ⟨by rw [List.length_set, h.len], okR_set h.ok _ _ _ _, fun i hi => ?_, fun i hi => ?_, fun i hi hi2 => ?_⟩
  · by_cases hik : k = i
    · subst hik; rw [cIS_set hkr]; exact h.col k hi
    · rw [cIS_iv, cellS_set, if_neg (fun x => hik x.1), ← cIS_iv]; exact h.col i hi
  · by_cases hik : k = i
    · subst hik; rw [cBS_set hkr]; simp [ivB]
    · rw [cBS_iv, cellS_set, if_neg (fun x => hik x.1), ← cBS_iv, h.held i hi]
      congr 1
      simp; omega
  · by_cases hik : k = i
    · subst hik; rw [cIS_set hkr]; rfl
    · rw [cIS_iv, cellS_set, if_neg (fun x => hik x.1), ← cIS_iv]; exact h.who i (by omega) hi2

def fR (who base : Int) (N : List (List AV)) (s : Nat × Int) : List AV :=
  [.inl 1 N, .int .i64 who, .int .i64 base, .junk, .junk, .junk, .bool false, .bptr 0 0, .int .i64 s.2, .junk, .junk, .junk, .junk, .junk, .junk, .junk, .junk, .junk, .junk, .junk, .inl 1 N, .int .i64 (N.length : Int), .int .i64 (s.1 : Int)] ++ List.replicate 47 .junk

theorem Rises (hP : P = Try.prog) (cs : List Int) (who base : Int) : CallsA P 4 [.inl 1 (intR cs), .int .i64 who, .int .i64 base] [] (fun r H => r = .bool true) := by
  obtain ⟨A, hA⟩ : ∃ A, A = arS := ⟨_, rfl⟩
  obtain ⟨N, hN⟩ : ∃ N, N = intR cs := ⟨_, rfl⟩
  rw [← hN]
  have hNl : N.length = cs.length := by rw [hN]; simp [intR]
  refine CallsA.inA hA (hP ▸ F4_at) sg 60 fun C Rn RR hC hRn hRR => ?_
  cbv
  subst hC hRn hRR
  refine (fixed13 hP).mono fun r H' hR => ?_
  obtain ⟨rfl, rfl⟩ := hR
  refine Run.gA hA sg 60 (rs := F4.res) (hP ▸ F4_at.res) fun C Rn RR hC hRn hRR => ?_
  cbv
  subst hC hRn hRR
  try simp only [nc, nc2] at *
  refine ⟨imI hA fun h => Bool.noConfusion (notT hA h), imI hA fun _ => ⟨imI hA fun _ => trivial, imI hA fun h30 => ?_⟩⟩
  have q30 : N.length ≤ 30 := by
    have := gtrF hA h30
    subst hA
    have q : (N.length : Int) ≤ 30 := this
    omega
  rw [hN]
  refine (New_spec hP cs (by omega)).mono fun r H' hR => ?_
  obtain ⟨rfl, rfl⟩ := hR
  rw [← hN]
  obtain ⟨n, hn⟩ : ∃ n, n = cs.length := ⟨_, rfl⟩
  obtain ⟨rk0, hrk0⟩ : ∃ x, x = rowC cs := ⟨_, rfl⟩
  rw [← hn, ← hrk0]
  refine Run.gA hA sg 60 (rs := F4.res) (hP ▸ F4_at.res) fun C Rn RR hC hRn hRR => ?_
  unfold HK
  cbv
  subst hC hRn hRR
  try simp only [nc, nc2] at *
  refine Run.toS (fr' := fR who base N (0, base)) (H' := HK n rk0) ?_ (by subst hA; simp [subL, fR, arS]) rfl
  refine Run.loopN (σ := Nat × Int × List (List AV)) (by rfl) (fun s => n - s.1) (fun s => fR who base N (s.1, s.2.1)) (fun s => HK n s.2.2) (fun s => s.1 ≤ n ∧ s.2.1 = mxC cs base s.1 ∧ Rise cs who s.1 s.2.2) ?_ (0, base, rk0) ⟨by simp, rfl, hrk0 ▸ Rise.init cs who⟩
  rintro ⟨k, was, rk⟩ ⟨hk, hwas, hRi⟩ ih
  simp only at hk hwas hRi
  obtain ⟨ln, hln⟩ : ∃ ln, ln = N.length := ⟨_, rfl⟩
  refine Run.gA hA sg 60 (rs := F4.res) (hP ▸ F4_at.res) fun C Rn RR hC hRn hRR => ?_
  unfold fR HK
  rw [← hln]
  cbv
  subst hC hRn hRR
  try simp only [nc, nc2] at *
  have w1 : IntKind.i64.wrap ((k : Int) + 1) = (k : Int) + 1 := wrap_i64 (by omega) (by omega)
  have hnr : n = rk.length := by rw [hRi.len, hn]
  refine ⟨imI hA fun h1 => ?_, imI hA fun h1 => ?_⟩
  · have q1 : (k : Int) < (ln : Int) := lssT hA h1
    have hkn : k < n := by omega
    have hkc : k < cs.length := by omega
    have hNk : N[k]? = some [.int .i64 cs[k]] := by rw [hN, intR, List.getElem?_map, List.getElem?_eq_getElem hkc]; rfl
    have e : A.cI N (A.tn (k : Int)) 0 = cs[k] := cI_of hA hNk rfl
    refine ⟨ndI hA ⟨leII hA (by omega), rgI hA ?_⟩, ?_⟩
    · rw [show A.tn (k : Int) = k by subst hA; rfl]
      subst hA
      rw [hNk]
      show some [_] = some [AV.int .i64 (cIS N k 0)]
      rw [show cIS N k 0 = cs[k] from e]
    · delta Ar.cI Ar.tn at e
      rw [e]
      clear e
      obtain ⟨c, hc⟩ : ∃ c, c = cs[k] := ⟨_, rfl⟩
      rw [← hc]
      refine (Lock_in hP hnr k hkn who hRi.ok).mono fun r H' hR => ?_
      have hb : cBS rk k 2 = false := by rw [hRi.held k hkc]; simp
      simp only [hb, Bool.false_eq_true, if_false] at hR
      obtain ⟨rfl, rfl⟩ := hR
      have hRs := hRi.step hkc
      obtain ⟨rk', hrk'⟩ : ∃ x, x = rk.set k [AV.int .i64 (cIS rk k 0), .int .i64 who, .bool true] := ⟨_, rfl⟩
      rw [← hrk'] at hRs ⊢
      refine Run.gA hA sg 60 (rs := F4.res) (hP ▸ F4_at.res) fun C Rn RR hC hRn hRR => ?_
      unfold HK
      cbv
      subst hC hRn hRR
      try simp only [nc, nc2] at *
      refine ⟨imI hA fun h => absurd rfl (neqT hA h), imI hA fun _ => ?_⟩
      refine (Level_spec hP (n := n) (rows := rk') (by rw [hRs.len, hn]) who base hRs.ok (by omega)).mono fun r H' hR => ?_
      rw [hn, hRs.heldL (by omega), lvl_range rk' cs base (k + 1) (by omega) (fun i hi _ => hRs.col i hi), ← hn] at hR
      obtain ⟨rfl, rfl⟩ := hR
      obtain ⟨now, hnow⟩ : ∃ x, x = mxC cs base (k + 1) := ⟨_, rfl⟩
      rw [← hnow]
      have hstep : now = if c > was then c else was := by
        rw [hnow, hwas, mxC, mxC, List.take_add_one, List.getElem?_eq_getElem hkc, List.foldl_append, hc]
        rfl
      refine Run.gA hA sg 60 (rs := F4.res) (hP ▸ F4_at.res) fun C Rn RR hC hRn hRR => ?_
      unfold HK
      cbv
      subst hC hRn hRR
      try simp only [nc, nc2] at *
      refine ⟨imI hA fun h2 => ⟨imI hA fun h3 => ⟨imI hA fun h4 => ⟨imI hA fun h5 => ?_, imI hA fun h5 => ?_⟩, imI hA fun h4 => ?_⟩, imI hA fun h3 => ?_⟩, imI hA fun h2 => ?_⟩
      · exfalso
        have a := neqT hA h4
        have b := neqT hA h5
        by_cases h : was < c
        · rw [if_pos h] at hstep; exact b hstep
        · rw [if_neg h] at hstep; exact a hstep
      · subst hA
        exact Run.toS (ih (k + 1, now, rk') ⟨by simp only; omega, hnow, hRs⟩ (by simp only; omega)) (by simp [subL, fR, arS, iopS, w1, hln]) rfl
      · subst hA
        exact Run.toS (ih (k + 1, now, rk') ⟨by simp only; omega, hnow, hRs⟩ (by simp only; omega)) (by simp [subL, fR, arS, iopS, w1, hln]) rfl
      · have a := lssT hA h3
        exfalso
        by_cases h : was < c
        · rw [if_pos h] at hstep; omega
        · rw [if_neg h] at hstep; omega
      · have a := lssT hA h2
        exfalso
        by_cases h : was < c
        · rw [if_pos h] at hstep; omega
        · rw [if_neg h] at hstep; omega
  · have q1 : (ln : Int) ≤ (k : Int) := lssF hA h1
    have : k = n := by omega
    subst this
    refine (Free_spec hP (n := k) (rows := rk) hnr who hRi.ok (by omega)).mono fun r H' hR => ?_
    obtain ⟨rk2, hF, rfl, rfl⟩ := hR
    have hh : heldL rk who k = List.range k := by
      have := hRi.heldL (by omega)
      rwa [← hn] at this
    rw [hh] at hF ⊢
    rw [List.length_range]
    have hlk : k = rk2.length := by rw [hF.len]; exact hnr
    have hh2 : heldL rk2 who k = [] := by
      rw [heldL, List.filter_eq_nil_iff]
      intro a ha
      rw [hF.free a ha]
      simp
    refine Run.gA hA sg 60 (rs := F4.res) (hP ▸ F4_at.res) fun C Rn RR hC hRn hRR => ?_
    unfold HK
    cbv
    subst hC hRn hRR
    try simp only [nc, nc2] at *
    refine ⟨imI hA fun _ => ?_, imI hA fun h => absurd (by subst hA; show (k : Int) = (N.length : Int); omega) (eqlF hA h)⟩
    refine (Level_spec hP (n := k) (rows := rk2) hlk who base hF.ok (by omega)).mono fun r H' hR => ?_
    rw [hh2] at hR
    have hR : r = .int .i64 base ∧ H' = HK k rk2 := hR
    obtain ⟨rfl, rfl⟩ := hR
    refine Run.gA hA sg 60 (rs := F4.res) (hP ▸ F4_at.res) fun C Rn RR hC hRn hRR => ?_
    unfold HK
    cbv
    subst hC hRn hRR
    subst hA
    simp [arS, cmpS]
end
end Go.Ab
