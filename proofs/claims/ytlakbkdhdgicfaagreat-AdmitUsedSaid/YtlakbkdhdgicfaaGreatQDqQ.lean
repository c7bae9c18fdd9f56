import Derived.Test.YtlakbkdhdgicfaaGreatQDqP
import Derived.Test.YtlakbkdhdgicfaaGreatQVA
import Derived.Test.YtlakbkdhdgicfaaGreatQVB
import Derived.Test.YtlakbkdhdgicfaaGreatQVC
import Derived.Test.YtlakbkdhdgicfaaGreatQVD
import Derived.Test.YtlakbkdhdgicfaaGreatQS
import Derived.Test.YtlakbkdhdgicfaaGreatLayE
namespace Go.Ab
open Go Go.Proofs
set_option linter.unusedVariables false
set_option linter.unusedSimpArgs false
set_option maxRecDepth 100000
set_option maxHeartbeats 1000000
def t28 (d : Int) : Tk := ⟨1, 1, 10, d, 4, 0, [⟨1, 5, 0⟩]⟩
theorem one53 : EC Tryz.prog G53 [] [] fun x rs vs => x = 0 ∧ rs = [[t28 10].map encT] ∧ vs = [.i 1, .i 1, .i 1, .i 5, .i 0] := E53 fun _ _ => ⟨rfl, rfl, rfl⟩
theorem conf28 : confZ 1 1 1 5 [] 0 [] [] [t28 10] [] = 0 := by decide
theorem conf28b : confZ 1 1 1 5 [] 0 [] [] [t28 4] [] = 0 := by decide
theorem all28 : allTm 1 5 [] [t28 10] 1 = true := by decide
theorem all28b : allTm 1 5 [] [t28 4] 1 = false := by decide
theorem fixed28 : EC Tryz.prog G14 [] [] fun x rs vs => x = 0 ∧ rs = [] ∧ vs = [.b true] := by
 refine E14 fun _ _ => one53.mono ?_
 rintro _ _ _ ⟨rfl, rfl, rfl⟩
 refine ⟨rfl, _, _, _, _, _, _, rfl, rfl, ?_⟩
 refine (Analyse_E (c0 := 1) (c1 := 1) (c2 := 1) (c3 := 5) (M := []) (c5 := 0) (K := []) (C := []) (T := [t28 10]) (L := [])).mono ?_
 rintro _ _ _ ⟨rfl, rfl, R, z, e, rfl, _, h2⟩
 obtain ⟨hR, he, hl, hz⟩ := h2 conf28
 have hz := hz ⟨(fun t ht => by simp at ht; subst ht; decide), List.pairwise_singleton _ _⟩ rfl
 obtain ⟨w, ok, q, e2, hr0, hw⟩ := hl 0 (by rw [hR]; simp)
 have hw5 : w = 5 := by
  have hd5 : demZ 5 (ldL 1 5 [t28 10] 0) (delZ [] [t28 10] 1 5 0 (lowerL [t28 10] 0)) ≤ 5 := by decide
  have hd4 : ∀ y : Int, 1 ≤ y → y < 5 → ¬ demZ y (ldL 1 5 [t28 10] 0) (delZ [] [t28 10] 1 5 0 (lowerL [t28 10] 0)) ≤ y := by
   intro y h1 h2
   have : y = 1 ∨ y = 2 ∨ y = 3 ∨ y = 4 := by omega
   rcases this with rfl | rfl | rfl | rfl <;> decide
  cases ok with
  | true =>
   obtain ⟨g1, g2, g3, g4⟩ := hw.1 rfl
   rcases Int.lt_or_le w 5 with h | h
   ·exact absurd g3 (hd4 w g1 h)
   ·rcases Int.lt_or_le 5 w with h' | h'
    ·exact absurd hd5 (g4 5 (by omega) h')
    ·omega
  | false => exact absurd hd5 ((hw.2 rfl).2 5 (by omega) (by omega))
 have he : e = 0 := he.trans (if_pos all28)
 have hc2 : cIS R (Int.toNat (0 : Int)) 2 = 5 := by
  show cIS R 0 2 = 5
  unfold cIS cellS
  rw [hr0]
  exact hw5
 refine ⟨rfl, _, _, _, rfl, rfl, one53.mono ?_⟩
 rintro _ _ _ ⟨rfl, rfl, rfl⟩
 refine ⟨rfl, _, _, _, _, _, _, rfl, rfl, by decide, rfl, ?_⟩
 refine (Analyse_E (c0 := 1) (c1 := 1) (c2 := 1) (c3 := 5) (M := []) (c5 := 0) (K := []) (C := []) (T := [t28 4]) (L := [])).mono ?_
 rintro _ _ _ ⟨rfl, rfl, R3, z3, e3, rfl, _, h3⟩
 have he3 : e3 = 12 := by rw [(h3 conf28b).2.1]; rfl
 refine ⟨rfl, _, _, _, rfl, rfl, ?_⟩
 refine (Analyse_E (c0 := 0) (c1 := 0) (c2 := 0) (c3 := 0) (M := []) (c5 := 0) (K := []) (C := []) (T := []) (L := [])).mono ?_
 rintro _ _ _ ⟨rfl, rfl, R4, z4, e4, rfl, h4, _⟩
 have he4 : e4 = 5 := (h4 (by decide)).2.2
 refine ⟨rfl, _, _, _, rfl, rfl, one53.mono ?_⟩
 rintro _ _ _ ⟨rfl, rfl, rfl⟩
 refine ⟨rfl, _, _, _, _, _, _, rfl, rfl, ?_⟩
 refine (Used_E (c0 := 1) (c1 := 1) (c2 := 1) (c3 := 5) (M := []) (c5 := 0) (K := []) (C := []) (T := [t28 10]) (L := [])).mono ?_
 rintro _ _ _ ⟨rfl, rfl, rfl⟩
 rw [if_pos conf28]
 refine ⟨rfl, _, _, rfl, rfl, fun _ => ⟨fun _ => ⟨?_, fun _ => ⟨fun _ => ⟨fun _ => ⟨fun _ => ?_, fun h => absurd he4 h⟩, fun h => absurd he3 h⟩, fun h => absurd hz h⟩, fun h => absurd hc2 h⟩, fun h => absurd (by rw [hR]; rfl) h⟩, fun h => absurd he h⟩
 ·rw [show Int.toNat (0 : Int) = 0 from rfl]
  have cc : ∀ j, cIS R 0 j = cIS [lineU 1 1 1 5 [] [t28 10] 0 w q e2] 0 j := fun j => by unfold cIS cellS; rw [hr0]; rfl
  rw [cc 0, cc 1, cc 2, cc 3, cc 4, cc 5]; exact hr0
 ·refine (Admitted_E (c0 := 1) (c1 := 1) (c2 := 1) (c3 := 5) (M := []) (c5 := 0) (K := []) (C := []) (T := [t28 4]) (L := [])).mono ?_
  rintro _ _ _ ⟨rfl, rfl, rfl⟩
  have ha : admZ 1 1 1 5 [] 0 [] [] [t28 4] [] = false := by
   unfold admZ; rw [show [t28 4].length = 1 from rfl, all28b]; simp
  rw [ha]
  refine ⟨rfl, _, rfl, rfl, fun _ => ⟨fun _ => ⟨fun _ => ?_, fun h => (h (by decide)).elim⟩, fun h => (h (by decide)).elim⟩, fun h => by cases h⟩
  have hF : Fits [] [t28 4] := (confZ_ok conf28b).fits
  refine (ALoads_E (c0 := 1) (c1 := 1) (c2 := 1) (c3 := 5) (c4 := []) (c5 := 0) (c6 := []) (c9 := []) hF 0 (by decide)).mono ?_
  rintro _ _ _ ⟨rfl, rfl, rfl⟩
  exact ⟨rfl, _, rfl, rfl, rfl, rfl, rfl⟩
section
variable {c0 c1 c2 c3 c5 : Int} {M K C L : List Int} {T : List Tk}
theorem Few15_E (hT : T.length ≤ maxLen) : EC Tryz.prog G15 [] [.i c0, .i c1, .i c2, .i c3, .r (ints M), .i c5, .r (ints K), .r (ints C), .r (T.map encT), .r (ints L)] fun x rs vs => x = 0 ∧ rs = [] ∧ ∃ b, vs = [.b b] ∧ (b = true → M.length ≤ 20 ∧ K.length ≤ 20 ∧ C.length ≤ 20 ∧ T.length ≤ 20 ∧ L.length ≤ 20 ∧ ∀ t ∈ T, t.pg.length ≤ 80) := by
 have hT' : T.length ≤ 9223372036854775807 := hT
 refine E15 fun EV V => ?_
 rw [List.length_map]
 have no : ∀ {p : Prop}, (0 : Nat) = 0 ∧ ([] : Rs) = [] ∧ ∃ b, [Lf.b false] = [.b b] ∧ (b = true → p) := ⟨rfl, rfl, false, rfl, fun h => by cases h⟩
 have loop : ∀ d m : Nat, m + d = T.length → (∀ i, i < m → (tk T i).pg.length ≤ 80) → EV 7 [] [.r (T.map encT), .i (T.length : Int), .i (m : Int), .i c0, .i c1, .i c2, .i c3, .r (ints M), .i c5, .r (ints K), .r (ints C), .r (T.map encT), .r (ints L)] := by
  intro d
  induction d with
  | zero =>
   intro m hm hi
   obtain rfl : m = T.length := by omega
   refine V.p7 ⟨fun h => by omega, fun _ => ?_⟩
   rw [ints_length M, ints_length K, ints_length C, ints_length L, List.length_map]
   refine ⟨fun q0 => ⟨fun q1 => ⟨fun q2 => ⟨fun q3 => ⟨rfl, rfl, _, rfl, fun h => ?_⟩, fun _ => no⟩, fun _ => no⟩, fun _ => no⟩, fun _ => no⟩
   have q4 : (L.length : Int) ≤ 20 := of_decide_eq_true h
   exact ⟨by omega, by omega, by omega, by omega, by omega, all_tk.2 hi⟩
  | succ d ih =>
   intro m hm hi
   have hlt : m < T.length := by omega
   refine V.p7 ⟨fun _ => ⟨by omega, tk_get hlt, fun _ => no, fun h => ?_⟩, fun h => by omega⟩
   rw [Int.toNat_natCast, tk6, List.length_map] at h
   rw [wrap64 (by omega) (by omega), show (m : Int) + 1 = ((m + 1 : Nat) : Int) by omega]
   refine ih (m + 1) (by omega) fun i hi2 => ?_
   by_cases e : i = m
   ·subst e; omega
   ·exact hi i (by omega)
 exact loop T.length 0 (by omega) fun i hi => by omega
end
theorem Used28 (c0 : Int) (_ : (Lit.int .i64 c0).wf = true) (c1 : Int) (_ : (Lit.int .i64 c1).wf = true) (c2 : Int) (_ : (Lit.int .i64 c2).wf = true) (c3 : Int) (_ : (Lit.int .i64 c3).wf = true) (c4 : List (List AV)) (_ : c4.length ≤ maxLen) (g4 : ∀ r ∈ c4, GdL [.int .i64] r) (c5 : Int) (_ : (Lit.int .i64 c5).wf = true) (c6 : List (List AV)) (_ : c6.length ≤ maxLen) (g6 : ∀ r ∈ c6, GdL [.int .i64] r) (c7 : List (List AV)) (_ : c7.length ≤ maxLen) (g7 : ∀ r ∈ c7, GdL [.int .i64] r) (tasks : List (List AV)) (ht : tasks.length ≤ maxLen) (gt : ∀ r ∈ tasks, GdL TKd r) (c9 : List (List AV)) (_ : c9.length ≤ maxLen) (g9 : ∀ r ∈ c9, GdL [.int .i64] r) : EC Tryz.prog G4 [] [.i c0, .i c1, .i c2, .i c3, .r c4, .i c5, .r c6, .r c7, .r tasks, .r c9] fun x rs vs => x = 0 ∧ vs = [.b true] := by
 obtain ⟨M, rfl⟩ := exC g4
 obtain ⟨K, rfl⟩ := exC g6
 obtain ⟨C, rfl⟩ := exC g7
 obtain ⟨T, rfl, _⟩ := exTk gt
 obtain ⟨L, rfl⟩ := exC g9
 rw [List.length_map] at ht
 refine E4 fun _ _ => fixed28.mono ?_
 rintro _ _ _ ⟨rfl, rfl, rfl⟩
 refine ⟨rfl, _, rfl, rfl, fun h => (by cases h), fun _ => (Few15_E ht).mono ?_⟩
 rintro _ _ _ ⟨rfl, rfl, b, rfl, _⟩
 refine ⟨rfl, _, rfl, rfl, fun _ => ⟨fun h3 => Admitted_E.mono ?_, fun _ => ⟨rfl, rfl⟩⟩, fun _ => ⟨rfl, rfl⟩⟩
 rw [List.length_map] at h3
 rintro _ _ _ ⟨rfl, rfl, rfl⟩
 refine ⟨rfl, _, rfl, rfl, fun _ => ⟨rfl, rfl⟩, fun ha => Used_E.mono ?_⟩
 rintro _ _ _ ⟨rfl, rfl, rfl⟩
 rw [if_pos (admZ_iff.1 ha).1]
 have hu := used_le (by omega) ha
 exact ⟨rfl, _, _, rfl, rfl, fun h => by omega, fun _ => ⟨rfl, rfl⟩⟩
end Go.Ab
