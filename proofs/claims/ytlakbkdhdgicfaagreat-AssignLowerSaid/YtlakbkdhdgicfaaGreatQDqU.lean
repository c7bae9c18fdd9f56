import Derived.Test.YtlakbkdhdgicfaaGreatQDqT
import Derived.Test.YtlakbkdhdgicfaaGreatQVA
import Derived.Test.YtlakbkdhdgicfaaGreatQVB
import Derived.Test.YtlakbkdhdgicfaaGreatQVC
import Derived.Test.YtlakbkdhdgicfaaGreatQVD
import Derived.Test.YtlakbkdhdgicfaaGreatQS
import Derived.Test.YtlakbkdhdgicfaaGreatLayE
namespace Go.Ab
open Go Go.Proofs
set_option linter.unusedVariables false
set_option linter.unusedSimpArgs false
set_option maxRecDepth 100000
set_option maxHeartbeats 1000000
def t29 (d : Int) : Tk := ⟨1, 1, 10, d, 0, 0, [⟨1, 5, 0⟩]⟩
theorem EH : EC Tryz.prog G79 [] [] fun x rs vs => x = 0 ∧ rs = [[t29 10].map aF] ∧ vs = [.i 1, .i 1, .i 1, .i 5, .i 0] := E79 fun _ _ => ⟨rfl, rfl, rfl⟩
theorem x9 : EC Tryz.prog G36 [] [] fun x rs vs => x = 0 ∧ rs = [] ∧ vs = [.b true] := by
 refine E36 fun _ _ => EH.mono ?_
 rintro _ _ _ ⟨rfl, rfl, rfl⟩
 refine ⟨rfl, _, _, _, _, _, _, rfl, rfl, ?_⟩
 refine (vU (c0 := 1) (c1 := 1) (c2 := 1) (c3 := 5) (M := []) (c5 := 0) (K := []) (C := []) (T := [t29 10]) (L := []) (by simp)).mono ?_
 rintro _ _ _ ⟨rfl, B, ok, rfl, rfl, h1, h2, h3⟩
 have hok : ok = true := by rw [h1]; decide
 obtain ⟨h4, h5⟩ := h3 hok
 have h6 := h5 0 (by simp)
 have hB : B.getD 0 0 = 63 := by
  have g1 := yR h6.1
  have g2 := h6.2 63 ⟨by decide, fun i hi hp => by
   obtain rfl : i = 0 := by simp at hi; omega
   exact absurd hp (Int.lt_irrefl _)⟩
  omega
 refine ⟨rfl, _, _, rfl, rfl, EH.mono ?_⟩
 rintro _ _ _ ⟨rfl, rfl, rfl⟩
 refine ⟨rfl, _, _, _, _, _, _, rfl, rfl, by decide, rfl, ?_⟩
 refine (vU (c0 := 1) (c1 := 1) (c2 := 1) (c3 := 5) (M := []) (c5 := 0) (K := []) (C := []) (T := [t29 4]) (L := []) (by simp)).mono ?_
 rintro _ _ _ ⟨rfl, B2, ok2, rfl, rfl, h7, _, _⟩
 have hok2 : ok2 = false := by rw [h7]; decide
 refine ⟨rfl, _, _, rfl, rfl, ?_⟩
 refine (Ip (c0 := 1) (c1 := 1) (c2 := 1) (c3 := 5) (M := []) (c5 := 0) (K := []) (C := []) (T := [t29 4]) (L := []) (by simp) []).mono ?_
 rintro _ _ _ ⟨rfl, rfl, rfl⟩
 rw [if_neg (by simp), if_neg (by simp)]
 refine ⟨rfl, _, _, _, _, _, _, _, _, _, _, _, rfl, rfl, fun _ => ⟨fun _ => ⟨?_, ?_, fun _ => ⟨fun _ => ⟨fun _ => EH.mono ?_, fun h => absurd rfl h⟩, fun h => by rw [hok2] at h; cases h⟩, fun h => ?_⟩, fun h => ?_⟩, fun h => by rw [hok] at h; cases h⟩
 ·rw [ints_length, h4]; decide
 ·rw [show Int.toNat (0 : Int) = 0 from rfl]; exact aJ (by rw [h4]; decide)
 ·rintro _ _ _ ⟨rfl, rfl, rfl⟩
  refine ⟨rfl, _, _, _, _, _, _, rfl, rfl, ?_⟩
  refine (ku (c0 := 1) (c1 := 1) (c2 := 1) (c3 := 5) (M := []) (c5 := 0) (K := []) (C := []) (T := [t29 10]) (L := []) (by simp) [9]).mono ?_
  rintro _ _ _ ⟨rfl, rfl, rfl⟩
  refine ⟨rfl, _, rfl, rfl, fun _ => EH.mono ?_, fun h => absurd h (by decide)⟩
  rintro _ _ _ ⟨rfl, rfl, rfl⟩
  refine ⟨rfl, _, _, _, _, _, _, rfl, rfl, ?_⟩
  refine (ku (c0 := 1) (c1 := 1) (c2 := 1) (c3 := 5) (M := []) (c5 := 0) (K := []) (C := []) (T := [t29 10]) (L := []) (by simp) [0]).mono ?_
  rintro _ _ _ ⟨rfl, rfl, rfl⟩
  refine ⟨rfl, _, rfl, rfl, fun _ => EH.mono ?_, fun h => absurd h (by decide)⟩
  rintro _ _ _ ⟨rfl, rfl, rfl⟩
  refine ⟨rfl, _, _, _, _, _, _, rfl, rfl, ?_⟩
  refine (JS (c0 := 1) (c1 := 1) (c2 := 1) (c3 := 5) (M := []) (c5 := 0) (K := []) (C := []) (T := [t29 10]) (L := []) (by simp)).mono ?_
  rintro _ _ _ ⟨rfl, rfl, rfl⟩
  exact ⟨rfl, _, rfl, rfl, rfl, rfl, congrArg (fun b => [Lf.b b]) (by decide)⟩
 ·exfalso; rw [show Int.toNat (0 : Int) = 0 from rfl, aN] at h; exact h hB
 ·exfalso; rw [ints_length, h4] at h; exact h rfl
def uZ (l : List Int) : List (List AV) := l.map fun n => [.int .u8 n]
theorem exU8 : ∀ {rows : List (List AV)}, (∀ r ∈ rows, GdL [.int .u8] r) → ∃ l : List Int, rows = uZ l ∧ ∀ n ∈ l, 0 ≤ n ∧ n ≤ 255
 | [], _ => ⟨[], rfl, fun n hn => by cases hn⟩
 | r :: rows, h => by
  obtain ⟨l, hl, hb⟩ := exU8 fun x hx => h x (List.mem_cons_of_mem _ hx)
  have h0 := h r (List.mem_cons_self ..)
  simp only [GdL, GdC] at h0
  obtain ⟨_, _, e, ⟨t, rfl, w⟩, rfl⟩ := h0
  refine ⟨t :: l, ?_, fun n hn => ?_⟩
  ·subst e; rw [hl]; rfl
  ·rcases List.mem_cons.1 hn with rfl | hn
   ·exact wf8 w
   ·exact hb n hn
theorem Nl (l : List Int) : (uZ l).length = l.length := by simp [uZ]
theorem Fv (l : List Int) (i : Nat) : cIS (uZ l) i 0 = l.getD i 0 := by
 unfold cIS cellS uZ
 rw [List.getElem?_map, List.getD_eq_getElem?_getD]
 cases l[i]? <;> rfl
theorem Np {l : List Int} {i : Nat} (h : i < l.length) : (uZ l)[i]? = some [.int .u8 (cIS (uZ l) i 0)] := by
 rw [Fv, uZ, List.getElem?_map, List.getElem?_eq_getElem h, List.getD_eq_getElem?_getD, List.getElem?_eq_getElem h]
 rfl
theorem Lower10 (c0 : Int) (_ : (Lit.int .i64 c0).wf = true) (c1 : Int) (_ : (Lit.int .i64 c1).wf = true) (c2 : Int) (_ : (Lit.int .i64 c2).wf = true) (c3 : Int) (_ : (Lit.int .i64 c3).wf = true) (c4 : List (List AV)) (_ : c4.length ≤ maxLen) (g4 : ∀ r ∈ c4, GdL [.int .i64] r) (c5 : Int) (_ : (Lit.int .i64 c5).wf = true) (c6 : List (List AV)) (_ : c6.length ≤ maxLen) (g6 : ∀ r ∈ c6, GdL [.int .i64] r) (c7 : List (List AV)) (_ : c7.length ≤ maxLen) (g7 : ∀ r ∈ c7, GdL [.int .i64] r) (tasks : List (List AV)) (ht : tasks.length ≤ maxLen) (gt : ∀ r ∈ tasks, GdL TKd r) (c9 : List (List AV)) (_ : c9.length ≤ maxLen) (g9 : ∀ r ∈ c9, GdL [.int .i64] r) (ls : List (List AV)) (_ : ls.length ≤ maxLen) (gl : ∀ r ∈ ls, GdL [.int .i64] r) (bs : List (List AV)) (hbs : bs.length ≤ maxLen) (gb : ∀ r ∈ bs, GdL [.int .u8] r) : EC Tryz.prog G10 [] [.i c0, .i c1, .i c2, .i c3, .r c4, .i c5, .r c6, .r c7, .r tasks, .r c9, .r ls, .r bs] fun x rs vs => x = 0 ∧ vs = [.b true] := by
 obtain ⟨M, rfl⟩ := exC g4
 obtain ⟨K, rfl⟩ := exC g6
 obtain ⟨C, rfl⟩ := exC g7
 obtain ⟨T, rfl, _⟩ := FP gt
 obtain ⟨L, rfl⟩ := exC g9
 rw [List.length_map] at ht
 obtain ⟨l, rfl⟩ := exC gl
 obtain ⟨y, rfl, hy⟩ := exU8 gb
 refine E10 fun EV V => x9.mono ?_
 rintro _ _ _ ⟨rfl, rfl, rfl⟩
 refine ⟨rfl, _, rfl, rfl, fun h => (by cases h), fun _ => (JC ht).mono ?_⟩
 rintro _ _ _ ⟨rfl, rfl, b, rfl, hb⟩
 refine ⟨rfl, _, rfl, rfl, fun h => ⟨fun hl30 => ?_, fun _ => ⟨rfl, rfl⟩⟩, fun _ => ⟨rfl, rfl⟩⟩
 rw [ints_length] at hl30
 have hT20 := hb h
 have hT : T.length ≤ 1000 := by omega
 refine (ku hT l).mono ?_
 rintro _ _ _ ⟨rfl, rfl, rfl⟩
 refine ⟨rfl, _, rfl, rfl, fun _ => ⟨rfl, rfl⟩, fun hp => ?_⟩
 obtain ⟨hll, hpl⟩ := dN.1 hp
 have hok := ((jL l).1 hpl).2
 rw [ints_length]
 refine ⟨by omega, by omega, Oo l, ?_⟩
 have loop : ∀ (d m : Nat) (q : List Int), m + d = l.length → q.length = l.length → (∀ j, j < T.length → (tk T j).p ≤ q.getD j 0 ∧ q.getD j 0 ≤ l.getD j 0) → EV 25 [ints q] [.r (uZ y), .i (l.length : Int), .i (m : Int), .i c0, .i c1, .i c2, .i c3, .r (ints M), .i c5, .r (ints K), .r (ints C), .r (T.map aF), .r (ints L)] := by
  intro d
  induction d with
  | zero =>
   intro m q hm hq hj
   refine V.p25 fun _ => ⟨fun g => by omega, fun _ => ?_⟩
   rw [lD]
   refine (ku hT q).mono ?_
   rintro _ _ _ ⟨rfl, rfl, rfl⟩
   refine ⟨rfl, _, rfl, rfl, rfl, ?_⟩
   rw [dN.2 ⟨by omega, GV hj hpl⟩]
  | succ d ih =>
   intro m q hm hq hj
   have hmT : m < T.length := by omega
   refine V.p25 fun _ => ⟨fun _ => ⟨fun hlt => ?_, fun _ => ?_⟩, fun g => by omega⟩
   ·rw [Nl] at hlt
    have hmy : m < y.length := by omega
    have hb8 := hy _ (List.getElem_mem hmy)
    have hpj := hj m hmT
    have hpb := yR (hok m hmT)
    have hp0 : 0 ≤ (tk T m).p := (dm (hok m hmT).1).1.1
    refine ⟨by omega, Np (by omega), aW hmT, by rw [ints_length]; omega, aJ (by omega), ?_⟩
    rw [Int.toNat_natCast, aN, Fv, tk0, Jr hmy, wrap64 (x := y[m]) (by omega) (by omega), wrap64 (x := q.getD m 0 - y[m]) (by omega) (by omega), mxS, uG, wrap64 (by omega) (by omega), show (m : Int) + 1 = ((m + 1 : Nat) : Int) by omega]
    refine ih (m + 1) _ (by omega) (by rw [List.length_set]; exact hq) fun j hj2 => ?_
    rw [List.getD_eq_getElem?_getD, List.getElem?_set]
    by_cases e : m = j
    ·subst e
     rw [if_pos rfl, if_pos (by omega)]
     simp only [Option.getD_some]
     omega
    ·rw [if_neg e, ← List.getD_eq_getElem?_getD]
     exact hj j hj2
   ·rw [wrap64 (by omega) (by omega), show (m : Int) + 1 = ((m + 1 : Nat) : Int) by omega]
    exact ih (m + 1) q (by omega) hq hj
 exact loop l.length 0 l (by omega) rfl fun j hj => ⟨(yR (hok j hj)).1, Int.le_refl _⟩
end Go.Ab
