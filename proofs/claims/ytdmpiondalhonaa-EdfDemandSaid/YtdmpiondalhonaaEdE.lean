/- EdfDemand: streams' wants; the walk of the law but for the calls that the document fixes. For every input. -/
import Derived.Test.YtdmpiondalhonaaEdD
namespace Go.Ab
open Go Go.Proofs
set_option linter.unusedVariables false
set_option linter.unusedSimpArgs false
set_option maxRecDepth 100000
set_option maxHeartbeats 1000000

structure Sm where
  c : Int
  d : Int
  p : Int
  deriving Inhabited
def encS (s : Sm) : List AV := [.int .u64 s.c, .int .u64 s.d, .int .u64 s.p]
def sm (L : List Sm) (i : Nat) : Sm := L.getD i default
theorem sm_lt {L : List Sm} {i : Nat} (h : i < L.length) : sm L i = L[i] := by
  unfold sm; rw [List.getD_eq_getElem?_getD, List.getElem?_eq_getElem h]; rfl
section
variable {L : List Sm} {i : Nat}
theorem sm_c (h : i < L.length) : cIS (L.map encS) i 0 = (sm L i).c := by unfold cIS cellS; rw [sm_lt h, List.getElem?_map, List.getElem?_eq_getElem h]; rfl
theorem sm_d (h : i < L.length) : cIS (L.map encS) i 1 = (sm L i).d := by unfold cIS cellS; rw [sm_lt h, List.getElem?_map, List.getElem?_eq_getElem h]; rfl
theorem sm_p (h : i < L.length) : cIS (L.map encS) i 2 = (sm L i).p := by unfold cIS cellS; rw [sm_lt h, List.getElem?_map, List.getElem?_eq_getElem h]; rfl
theorem sm_get (h : i < L.length) : (L.map encS)[i]? = some [.int .u64 (cIS (L.map encS) i 0), .int .u64 (cIS (L.map encS) i 1), .int .u64 (cIS (L.map encS) i 2)] := by
  rw [sm_c h, sm_d h, sm_p h, sm_lt h, List.getElem?_map, List.getElem?_eq_getElem h]; rfl
end
def SmU (s : Sm) : Prop := U64 s.c ∧ U64 s.d ∧ U64 s.p
def demZ (s : Sm) (x : Int) : Int := if x < s.d then 0 else if s.p = 0 then mulZ s.c UM else mulZ s.c (addZ ((x - s.d) / s.p) 1)
theorem div_u {a b : Int} (ha : U64 a) (hb : 0 ≤ b) : U64 (a / b) := by
  have h1 : 0 ≤ a / b := Int.ediv_nonneg ha.1 hb
  have h2 : a / b ≤ a := Int.ediv_le_self _ ha.1
  unfold U64 at *; omega
theorem demZ_u {s : Sm} {x : Int} (hs : SmU s) (hx : U64 x) : U64 (demZ s x) := by
  obtain ⟨h1, h2, h3⟩ := hs
  unfold demZ
  split
  · unfold U64; omega
  · rename_i h
    split
    · exact mulZ_u h1 (by unfold U64 UM; omega)
    · exact mulZ_u h1 (addZ_u (div_u (by unfold U64 at *; omega) h3.1) (by unfold U64; omega))
def demL (l : List Sm) (x n : Int) : Int := l.foldl (fun n s => addZ n (demZ s x)) n
theorem demL_u {x : Int} (hx : U64 x) : ∀ (l : List Sm) (n : Int), (∀ s ∈ l, SmU s) → U64 n → U64 (demL l x n)
  | [], n, _, hn => hn
  | s :: l, n, h, hn => demL_u hx l _ (fun y hy => h y (List.mem_cons_of_mem _ hy)) (addZ_u hn (demZ_u (h s (List.mem_cons_self ..)) hx))
theorem sm_drop {L : List Sm} {m : Nat} (h : m < L.length) : L.drop m = sm L m :: L.drop (m + 1) := by
  rw [List.drop_eq_getElem_cons h, sm_lt h]

theorem RDemand_E {s : Sm} {x : Int} (hs : SmU s) (hx : U64 x) : EC Try.prog G29 [] [.i s.c, .i s.d, .i s.p, .i x] fun y rs vs => y = 0 ∧ rs = [] ∧ vs = [.i (demZ s x)] := by
  obtain ⟨h1, h2, h3⟩ := hs
  refine E29 fun EV V => ⟨fun h => ⟨rfl, rfl, by rw [demZ, if_pos h]⟩, fun h => ⟨fun h0 => ?_, fun h0 => ⟨h0, ?_⟩⟩⟩
  · refine (RMul_E h1 _ UM rfl (by unfold U64 UM; omega)).mono ?_
    rintro _ _ _ ⟨rfl, rfl, rfl⟩
    exact ⟨rfl, _, rfl, rfl, rfl, rfl, by rw [demZ, if_neg (by omega), if_pos h0]⟩
  · have hxd : U64 (x - s.d) := by unfold U64 at *; omega
    have hq := div_u hxd h3.1
    rw [wrapu hxd, Int.tdiv_eq_ediv_of_nonneg hxd.1, wrapu hq]
    have h1u : U64 1 := by unfold U64; omega
    refine (RAdd_E hq h1u).mono ?_
    rintro _ _ _ ⟨rfl, rfl, rfl⟩
    refine ⟨rfl, _, rfl, rfl, (RMul_E h1 _ _ rfl (addZ_u hq h1u)).mono ?_⟩
    rintro _ _ _ ⟨rfl, rfl, rfl⟩
    exact ⟨rfl, _, rfl, rfl, rfl, rfl, by rw [demZ, if_neg (by omega), if_neg h0]⟩

theorem Demand_E (L : List Sm) (hL : ∀ s ∈ L, SmU s) (hl : L.length ≤ 1000) {x : Int} (hx : U64 x) : EC Try.prog G30 [] [.r (L.map encS), .i x] fun y rs vs => y = 0 ∧ rs = [] ∧ vs = [.i (demL L x 0)] := by
  refine E30 fun EV V => ?_
  have p9 : ∀ (d m : Nat) (n : Int), L.length - m < d → m ≤ L.length → U64 n → demL (L.drop m) x n = demL L x 0 → EV 9 [] [.i x, .i n, .r (L.map encS), .i L.length, .i m] := by
    intro d
    induction d with
    | zero => intro m n hd; omega
    | succ d ih =>
      intro m n hd hm hn hs
      refine V.p9 ⟨fun hlt => ?_, fun hge => ?_⟩
      · have hmL : m < L.length := by omega
        have hsu : SmU (sm L m) := by rw [sm_lt hmL]; exact hL _ (List.getElem_mem hmL)
        obtain ⟨h1, h2, h3⟩ := hsu
        have hsu : SmU (sm L m) := ⟨h1, h2, h3⟩
        have ev : IntKind.wrap .i64 ((m : Int) + 1) = ((m + 1 : Nat) : Int) := by rw [wrap64 (by omega) (by omega)]; rfl
        rw [sm_drop hmL] at hs
        have hs : demL (L.drop (m + 1)) x (addZ n (demZ (sm L m) x)) = demL L x 0 := hs
        have h33 : ∀ t : Int, U64 t → demZ (sm L m) x = mulZ (sm L m).c t → EV 33 [] [.i x, .i n, .i t, .r (L.map encS), .i L.length, .i m, .i (sm L m).c, .i (sm L m).d, .i (sm L m).p] := fun t ht hd2 => by
          refine V.p33 ((Mul_E h1 ht).mono ?_)
          rintro _ _ _ ⟨rfl, rfl, rfl⟩
          refine ⟨rfl, _, rfl, rfl, (Add_E hn (mulZ_u h1 ht)).mono ?_⟩
          rintro _ _ _ ⟨rfl, rfl, rfl⟩
          refine ⟨rfl, _, rfl, rfl, ?_⟩
          rw [ev, ← hd2]
          exact ih (m + 1) _ (by omega) (by omega) (addZ_u hn (demZ_u hsu hx)) hs
        rw [Int.toNat_natCast, ev]
        refine ⟨by omega, sm_get hmL, ?_⟩
        rw [sm_c hmL, sm_d hmL, sm_p hmL]
        refine ⟨fun h => ?_, fun h => ⟨fun h0 => ⟨by omega, ?_⟩, fun h0 => ?_⟩⟩
        · rw [demZ, if_pos h] at hs
          have e : addZ n 0 = n := by unfold addZ UM U64 at *; omega
          rw [e] at hs
          exact ih (m + 1) n (by omega) (by omega) hn hs
        · have hxd : U64 (x - (sm L m).d) := by unfold U64 at *; omega
          have hq := div_u hxd h3.1
          have h1u : U64 1 := by unfold U64; omega
          rw [wrapu hxd, Int.tdiv_eq_ediv_of_nonneg hxd.1, wrapu hq]
          refine (Add_E hq h1u).mono ?_
          rintro _ _ _ ⟨rfl, rfl, rfl⟩
          exact ⟨rfl, _, rfl, rfl, h33 _ (addZ_u hq h1u) (by rw [demZ, if_neg (by omega), if_neg (by omega)])⟩
        · have hp0 : (sm L m).p = 0 := by have := h3.1; omega
          exact h33 _ (by unfold U64; omega) (by rw [demZ, if_neg (by omega), if_pos hp0])
      · rw [List.drop_of_length_le (by omega)] at hs
        exact ⟨rfl, rfl, by rw [← hs]; rfl⟩
  rw [List.length_map]
  exact p9 _ 0 0 (Nat.lt_succ_self _) (by omega) (by unfold U64; omega) rfl

def fitsZ (L : List Sm) (m : Nat) : Bool := (List.range m).all fun i : Nat => decide (demL L ((i : Int) + 1) 0 ≤ (i : Int) + 1)
theorem fits_succ (L : List Sm) (m : Nat) : fitsZ L (m + 1) = (fitsZ L m && decide (demL L ((m : Int) + 1) 0 ≤ (m : Int) + 1)) := by simp [fitsZ, List.range_succ]
theorem fits_lt {L : List Sm} {i m : Nat} (h : i < m) (hn : ¬ demL L ((i : Int) + 1) 0 ≤ (i : Int) + 1) : fitsZ L m = false := by
  simp only [fitsZ, List.all_eq_false, List.mem_range]
  exact ⟨i, h, by simpa using hn⟩

theorem Fits_E (L : List Sm) (hL : ∀ s ∈ L, SmU s) (hl : L.length ≤ 1000) (n : Nat) (hn : n ≤ 400) : EC Try.prog G31 [] [.r (L.map encS), .i n] fun y rs vs => y = 0 ∧ rs = [] ∧ vs = [.b (fitsZ L n)] := by
  refine E31 fun EV V => ?_
  have p7 : ∀ (d j : Nat), n - j < d → j ≤ n → fitsZ L j = true → EV 7 [] [.r (L.map encS), .i n, .i ((j + 1 : Nat) : Int)] := by
    intro d
    induction d with
    | zero => intro j hd; omega
    | succ d ih =>
      intro j hd hj hf
      refine V.p7 ?_
      rw [mnS]
      refine ⟨fun hle => ?_, fun hgt => ?_⟩
      · have hx : U64 ((j + 1 : Nat) : Int) := by unfold U64; omega
        refine (Demand_E L hL hl hx).mono ?_
        rintro _ _ _ ⟨rfl, rfl, rfl⟩
        refine ⟨rfl, _, rfl, rfl, fun h => ⟨rfl, rfl, ?_⟩, fun h => ?_⟩
        · rw [fits_lt (i := j) (by omega) (by rw [show ((j + 1 : Nat) : Int) = (j : Int) + 1 by rfl] at h; omega)]
        · rw [wrapu (x := ((j + 1 : Nat) : Int) + 1) (by unfold U64; omega)]
          refine ih (j + 1) (by omega) (by omega) ?_
          rw [fits_succ, hf]
          rw [show ((j + 1 : Nat) : Int) = (j : Int) + 1 by rfl] at h
          simp [h]
      · obtain rfl : j = n := by omega
        exact ⟨rfl, rfl, by rw [hf]⟩
  exact p7 _ 0 (Nat.lt_succ_self _) (by omega) rfl

theorem exS : ∀ {rows : List (List AV)}, (∀ r ∈ rows, GdL [.int .u64, .int .u64, .int .u64] r) → ∃ l : List Sm, rows = l.map encS ∧ ∀ s ∈ l, SmU s
  | [], _ => ⟨[], rfl, fun x hx => by simp at hx⟩
  | r :: rows, h => by
    obtain ⟨l, hl, hw⟩ := exS fun x hx => h x (List.mem_cons_of_mem _ hx)
    have h0 := h r (List.mem_cons_self ..)
    simp only [GdL, GdC] at h0
    obtain ⟨_, _, e, ⟨a, rfl, ha⟩, _, _, rfl, ⟨b, rfl, hb⟩, _, _, rfl, ⟨c, rfl, hc⟩, rfl⟩ := h0
    refine ⟨⟨a, b, c⟩ :: l, by rw [e, hl]; rfl, fun x hx => ?_⟩
    rcases List.mem_cons.1 hx with rfl | hx
    · simp only [Lit.wf, Bool.and_eq_true, decide_eq_true_eq] at ha hb hc
      exact ⟨ha, hb, hc⟩
    · exact hw x hx

theorem Demand33 (fixed22 : EC Try.prog G22 [] [] fun x rs vs => x = 0 ∧ rs = [] ∧ vs = [.b true]) (l : List (List AV)) (hl : l.length ≤ maxLen) (g : ∀ r ∈ l, GdL [.int .u64, .int .u64, .int .u64] r) (x : Int) (hx : (Lit.int .u64 x).wf = true) (upto : Int) (hu : (Lit.int .u64 upto).wf = true) : EC Try.prog G8 [] [.r l, .i x, .i upto] fun y rs vs => y = 0 ∧ vs = [.b true] := by
  obtain ⟨L, rfl, hL⟩ := exS g
  simp only [Lit.wf, Bool.and_eq_true, decide_eq_true_eq] at hx hu
  have hx : U64 x := hx
  have hu : U64 upto := hu
  refine E8 fun EV V => fixed22.mono ?_
  rintro _ _ _ ⟨rfl, rfl, rfl⟩
  rw [List.length_map]
  refine ⟨rfl, _, rfl, rfl, fun h => (by cases h), fun _ => ⟨fun h12 => ⟨fun _ => ⟨rfl, rfl⟩, fun h400 => ?_⟩, fun _ => ⟨rfl, rfl⟩⟩⟩
  obtain ⟨n, rfl⟩ := Int.eq_ofNat_of_zero_le hu.1
  have hl : L.length ≤ 1000 := by omega
  have hn : n ≤ 400 := by omega
  have loop : ∀ (f : Nat → Int → Int → List Lf) (P : Nat) (x : Int), U64 x → True := fun _ _ _ _ => trivial
  have p42 : ∀ (d j : Nat), n - j < d → j ≤ n → EV 42 [] [.r (L.map encS), .i x, .i (n : Int), .i (demL L x 0), .b (fitsZ L j), .i ((j + 1 : Nat) : Int)] := by
    intro d
    induction d with
    | zero => intro j hd; omega
    | succ d ih =>
      intro j hd hj
      refine V.p42 ⟨fun hle => ?_, fun hgt => ?_⟩
      · have hy : U64 ((j + 1 : Nat) : Int) := by unfold U64; omega
        have p57 : ∀ (d m : Nat) (s : Int), L.length - m < d → m ≤ L.length → U64 s → demL (L.drop m) ((j + 1 : Nat) : Int) s = demL L ((j + 1 : Nat) : Int) 0 → EV 57 [] [.r (L.map encS), .i x, .i (n : Int), .i (demL L x 0), .b (fitsZ L j), .i ((j + 1 : Nat) : Int), .i s, .r (L.map encS), .i L.length, .i m] := by
          intro d
          induction d with
          | zero => intro m s hd; omega
          | succ d ihm =>
            intro m s hd hm hs0 hs
            refine V.p57 ⟨fun hlt => ?_, fun hge => ?_⟩
            · have hmL : m < L.length := by omega
              have hsu : SmU (sm L m) := by rw [sm_lt hmL]; exact hL _ (List.getElem_mem hmL)
              rw [Int.toNat_natCast, show IntKind.wrap .i64 ((m : Int) + 1) = ((m + 1 : Nat) : Int) by rw [wrap64 (by omega) (by omega)]; rfl]
              refine ⟨by omega, sm_get hmL, ?_⟩
              rw [sm_c hmL, sm_d hmL, sm_p hmL]
              refine (RDemand_E hsu hy).mono ?_
              rintro _ _ _ ⟨rfl, rfl, rfl⟩
              refine ⟨rfl, _, rfl, rfl, (RAdd_E hs0 (demZ_u hsu hy)).mono ?_⟩
              rintro _ _ _ ⟨rfl, rfl, rfl⟩
              rw [sm_drop hmL] at hs
              exact ⟨rfl, _, rfl, rfl, ihm (m + 1) _ (by omega) (by omega) (addZ_u hs0 (demZ_u hsu hy)) hs⟩
            · rw [List.drop_of_length_le (by omega)] at hs
              have hs : s = demL L ((j + 1 : Nat) : Int) 0 := hs
              rw [wrapu (x := ((j + 1 : Nat) : Int) + 1) (by unfold U64; omega)]
              have next := ih (j + 1) (by omega) (by omega)
              rw [fits_succ] at next
              refine ⟨fun h => ?_, fun h => ?_⟩
              · rw [h, Bool.true_and] at next
                rw [hs]; exact next
              · rw [h, Bool.false_and] at next
                exact next
        rw [List.length_map]
        exact p57 _ 0 0 (Nat.lt_succ_self _) (by omega) (by unfold U64; omega) rfl
      · obtain rfl : j = n := by omega
        refine (Demand_E L hL hl hx).mono ?_
        rintro _ _ _ ⟨rfl, rfl, rfl⟩
        refine ⟨rfl, _, rfl, rfl, fun _ => (Fits_E L hL hl j hn).mono ?_, fun h => absurd rfl h⟩
        rintro _ _ _ ⟨rfl, rfl, rfl⟩
        exact ⟨rfl, _, rfl, rfl, rfl, by simp⟩
  have p25 : ∀ (d m : Nat) (s : Int), L.length - m < d → m ≤ L.length → U64 s → demL (L.drop m) x s = demL L x 0 → EV 25 [] [.r (L.map encS), .i x, .i (n : Int), .i s, .r (L.map encS), .i L.length, .i m] := by
    intro d
    induction d with
    | zero => intro m s hd; omega
    | succ d ihm =>
      intro m s hd hm hs0 hs
      refine V.p25 ⟨fun hlt => ?_, fun hge => ?_⟩
      · have hmL : m < L.length := by omega
        have hsu : SmU (sm L m) := by rw [sm_lt hmL]; exact hL _ (List.getElem_mem hmL)
        rw [Int.toNat_natCast, show IntKind.wrap .i64 ((m : Int) + 1) = ((m + 1 : Nat) : Int) by rw [wrap64 (by omega) (by omega)]; rfl]
        refine ⟨by omega, sm_get hmL, ?_⟩
        rw [sm_c hmL, sm_d hmL, sm_p hmL]
        refine (RDemand_E hsu hx).mono ?_
        rintro _ _ _ ⟨rfl, rfl, rfl⟩
        refine ⟨rfl, _, rfl, rfl, (RAdd_E hs0 (demZ_u hsu hx)).mono ?_⟩
        rintro _ _ _ ⟨rfl, rfl, rfl⟩
        rw [sm_drop hmL] at hs
        exact ⟨rfl, _, rfl, rfl, ihm (m + 1) _ (by omega) (by omega) (addZ_u hs0 (demZ_u hsu hx)) hs⟩
      · rw [List.drop_of_length_le (by omega)] at hs
        have hs : s = demL L x 0 := hs
        rw [hs]
        exact p42 _ 0 (Nat.lt_succ_self _) (by omega)
  exact p25 _ 0 0 (Nat.lt_succ_self _) (by omega) (by unfold U64; omega) rfl
end Go.Ab
