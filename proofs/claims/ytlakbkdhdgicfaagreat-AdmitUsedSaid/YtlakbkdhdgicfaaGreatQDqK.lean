import Derived.Test.YtlakbkdhdgicfaaGreatQDqI
namespace Go.Ab
open Go Go.Proofs
set_option linter.unusedVariables false
set_option linter.unusedSimpArgs false
set_option maxRecDepth 100000
set_option maxHeartbeats 1000000
def useS (s q : Int × Int) : Int × Int := (addZ (mulZ s.1 q.2) (mulZ q.1 s.2), mulZ s.2 q.2)
def useF (l : List (Int × Int)) (s : Int × Int) : Int × Int := l.foldl useS s
section
variable {c0 c1 c2 c3 c5 : Int} {M K C L : List Int} {T : List Tk}
theorem Used_E : EC Tryz.prog G17 [] [.i c0, .i c1, .i c2, .i c3, .r (ints M), .i c5, .r (ints K), .r (ints C), .r (T.map encT), .r (ints L)] fun x rs vs => x = 0 ∧ rs = [] ∧ vs = if confZ c0 c1 c2 c3 M c5 K C T L = 0 then [.i (useF (T.map (ldP c2 c3)) (0, 1)).1, .i (useF (T.map (ldP c2 c3)) (0, 1)).2] else [.i 0, .i 0] := by
 refine E17 fun EV V => Check_E.mono ?_
 rintro _ _ _ ⟨rfl, rfl, rfl⟩
 refine ⟨rfl, _, rfl, rfl, fun h => ⟨rfl, rfl, by rw [if_neg h]⟩, fun h => ?_⟩
 have hc := confZ_ok h
 have hF := hc.fits
 have ht8 := hc.t8
 rw [if_pos h] at V
 rw [List.length_map]
 have loop : ∀ (d m : Nat) (s : Int × Int), m + d = T.length → U s.1 → U s.2 → useF ((T.drop m).map (ldP c2 c3)) s = useF (T.map (ldP c2 c3)) (0, 1) → EV 17 [] [.i s.1, .i s.2, .i (T.length : Int), .i (m : Int), .i c0, .i c1, .i c2, .i c3, .r (ints M), .i c5, .r (ints K), .r (ints C), .r (T.map encT), .r (ints L)] := by
  intro d
  induction d with
  | zero =>
   intro m s hm h1 h2 hs
   rw [List.drop_of_length_le (by omega)] at hs
   refine V.p17 ⟨fun h => by omega, fun _ => ⟨rfl, rfl, ?_⟩⟩
   rw [← hs]; rfl
  | succ d ih =>
   intro m s hm h1 h2 hs
   have hlt : m < T.length := by omega
   obtain ⟨u1, u2⟩ := ldP_U hF (c2 := c2) (c3 := c3) hlt
   rw [List.drop_eq_getElem_cons hlt, ← tk_lt hlt, List.map_cons] at hs
   refine V.p17 ⟨fun _ => (load_E hF (m : Int) (by omega)).mono ?_, fun h => by omega⟩
   rintro _ _ _ ⟨rfl, rfl, rfl⟩
   rw [Int.toNat_natCast]
   refine ⟨rfl, _, _, rfl, rfl, (Mul_E h1 u2).mono ?_⟩
   rintro _ _ _ ⟨rfl, rfl, rfl⟩
   refine ⟨rfl, _, rfl, rfl, (Mul_E u1 h2).mono ?_⟩
   rintro _ _ _ ⟨rfl, rfl, rfl⟩
   refine ⟨rfl, _, rfl, rfl, (Add_E (mulZ_U h1 u2) (mulZ_U u1 h2)).mono ?_⟩
   rintro _ _ _ ⟨rfl, rfl, rfl⟩
   refine ⟨rfl, _, rfl, rfl, V.p31 ((Mul_E h2 u2).mono ?_)⟩
   rintro _ _ _ ⟨rfl, rfl, rfl⟩
   refine ⟨rfl, _, rfl, rfl, ?_⟩
   rw [wrap64 (by omega) (by omega), show (m : Int) + 1 = ((m + 1 : Nat) : Int) by omega]
   exact ih (m + 1) (useS s (ldP c2 c3 (tk T m))) (by omega) (addZ_U (mulZ_U h1 u2) (mulZ_U u1 h2)) (mulZ_U h2 u2) hs
 exact loop T.length 0 (0, 1) (by omega) (by unfold U; omega) (by unfold U; omega) rfl
end
end Go.Ab
