import Derived.Test.YtmmoffbompnihaaDoorQVB
import Derived.Test.YtmmoffbompnihaaDoorQPcA
import Derived.Test.YtmmoffbompnihaaDoorQTxB
namespace Go.Ab
open Go Go.Proofs Go.Lib
set_option linter.unusedVariables false
set_option linter.unusedSimpArgs false
set_option maxRecDepth 100000
set_option maxHeartbeats 1000000
def namL : List (List UInt8) := [[], [99, 111, 109, 112, 117, 116, 101], [97, 99, 99, 101, 115, 115], [101, 110, 116, 101, 114], [101, 120, 105, 116], [108, 111, 99, 107], [117, 110, 108, 111, 99, 107], [112, 117, 115, 104], [112, 111, 112], [115, 101, 110, 100], [114, 101, 99, 118], [115, 101, 116], [99, 108, 101, 97, 114], [116, 101, 115, 116], [103, 105, 118, 101], [116, 97, 107, 101]]
def nam (k : Int) : List UInt8 := namL.getD k.toNat []
theorem nam_len (k : Int) : (nam k).length ≤ 7 := by
 unfold nam
 rw [List.getD_eq_getElem?_getD]
 cases h : namL[k.toNat]? with
 | none => simp
 | some l =>
  have : ∀ l ∈ namL, l.length ≤ 7 := by decide
  exact this l (List.mem_of_getElem? h)
theorem kindsY_E : EC Tryd.prog G77 [] [] fun x rs vs => x = 0 ∧ rs = [] ∧ ∃ R, vs = [.r R] ∧ R.length = 16 ∧ ∀ i : Nat, i < 16 → R[i]? = some [.str (cSS R i 0), .int .i64 (cIS R i 1)] ∧ cSS R i 0 = By (nam i) := by
 refine E77 fun _ _ => ⟨rfl, rfl, _, rfl, rfl, fun i hi => ?_⟩
 have : i = 0 ∨ i = 1 ∨ i = 2 ∨ i = 3 ∨ i = 4 ∨ i = 5 ∨ i = 6 ∨ i = 7 ∨ i = 8 ∨ i = 9 ∨ i = 10 ∨ i = 11 ∨ i = 12 ∨ i = 13 ∨ i = 14 ∨ i = 15 := by omega
 rcases this with rfl | rfl | rfl | rfl | rfl | rfl | rfl | rfl | rfl | rfl | rfl | rfl | rfl | rfl | rfl | rfl <;> exact ⟨rfl, rfl⟩
theorem namesR_E : EC Tryd.prog G100 [] [] fun x rs vs => x = 0 ∧ rs = [] ∧ ∃ R, vs = [.r R] ∧ ∀ i : Nat, i < 16 → R[i]? = some [.str (cSS R i 0)] ∧ cSS R i 0 = By (nam i) := by
 refine E100 fun _ _ => ⟨rfl, rfl, _, rfl, fun i hi => ?_⟩
 have : i = 0 ∨ i = 1 ∨ i = 2 ∨ i = 3 ∨ i = 4 ∨ i = 5 ∨ i = 6 ∨ i = 7 ∨ i = 8 ∨ i = 9 ∨ i = 10 ∨ i = 11 ∨ i = 12 ∨ i = 13 ∨ i = 14 ∨ i = 15 := by omega
 rcases this with rfl | rfl | rfl | rfl | rfl | rfl | rfl | rfl | rfl | rfl | rfl | rfl | rfl | rfl | rfl | rfl <;> exact ⟨rfl, rfl⟩
theorem wrap8 {x : Int} (h0 : 0 ≤ x) (h1 : x < 256) : IntKind.wrap .u8 x = x := by
 simp only [IntKind.wrap]
 have hb : IntKind.u8.bits = 8 := rfl
 first
  | (simp [IntKind.signed, hb]; done)
  | (simp [IntKind.signed, hb]; omega)
theorem dgB {d : Nat} (h : d < 10) : bstrS (List.take 1 (List.drop 0 [[(AV.int .u8 (IntKind.wrap .u8 (IntKind.wrap .i64 (48 + (d : Int)))))]])) = By [UInt8.ofNat (48 + d)] := by
 rw [wrap64 (by omega) (by omega), wrap8 (by omega) (by omega)]
 show By [((48 + (d : Int)).toNat).toUInt8] = _
 rw [show (48 + (d : Int)).toNat = 48 + d by omega]
theorem dgOk (z : Int) : ∀ r ∈ (List.take 1 (List.drop 0 [[(AV.int .u8 z)]])), ∃ n : Int, r = [.int .u8 n] := fun r hr => by
 simp at hr
 exact ⟨z, hr⟩
theorem nDig_le {u : Nat} (h : u ≤ 9223372036854775807) : nDigits u ≤ 21 := by
 have := itoa_length_le (u : Int) (by omega) (by omega)
 rw [itoa_nonneg, decDigits_length] at this
 exact this
theorem Digits_E (u0 : Nat) (hu : u0 ≤ 9223372036854775807) : EC Tryd.prog G68 [] [.i (u0 : Int)] fun x rs vs => x = 0 ∧ rs = [] ∧ vs = [.s (By (decDigits u0))] := by
 refine E68 fun EV V => ?_
 have loop : ∀ (f u : Nat) (m : List UInt8), u < f → u ≤ u0 → m.length ≤ 21 → decDigits u ++ m = decDigits u0 → EV 7 [] [.i (u : Int), .s (By m)] := by
  intro f
  induction f with
  | zero => intro u m h; omega
  | succ f ih =>
   intro u m hf hu0 hm he
   have hlen : (decDigits u0).length ≤ 21 := by rw [decDigits_length]; exact nDig_le hu
   have e1 : Int.tmod (u : Int) 10 = ((u % 10 : Nat) : Int) := by rw [Int.tmod_eq_emod_of_nonneg (by omega)]; omega
   have e2 : Int.tdiv (u : Int) 10 = ((u / 10 : Nat) : Int) := by rw [Int.tdiv_eq_ediv_of_nonneg (by omega)]; omega
   refine V.p7 ⟨fun h10 => ?_, fun h10 => ?_⟩
   ·rw [e1, e2, dgB (by omega), By_app, wrap64 (x := ((u / 10 : Nat) : Int)) (by omega) (by omega)]
    have hx : decDigits (u / 10) ++ (UInt8.ofNat (48 + u % 10) :: m) = decDigits u0 := by
     rw [← he]
     conv => rhs; rw [decDigits, dif_neg (show ¬ u < 10 by omega)]
     simp
    refine ⟨dgOk _, by rw [By_size, By_size]; simp only [List.length_cons, List.length_nil]; omega, ih (u / 10) _ (by omega) (by omega) ?_ hx⟩
    have := congrArg List.length hx
    simp only [List.length_append, List.length_cons, List.length_nil] at this ⊢
    omega
   ·have hu10 : u < 10 := by omega
    rw [dgB hu10, By_app]
    refine ⟨dgOk _, by rw [By_size, By_size]; simp only [List.length_cons, List.length_nil]; omega, rfl, rfl, ?_⟩
    rw [← he, decDigits, dif_pos hu10]
 exact loop (u0 + 1) u0 [] (by omega) (Nat.le_refl _) (by simp) (by simp)
theorem DigitsZ_E {n : Int} (h0 : 0 ≤ n) (h1 : n ≤ 9223372036854775807) : EC Tryd.prog G68 [] [.i n] fun x rs vs => x = 0 ∧ rs = [] ∧ vs = [.s (By (itoa n))] := by
 have := Digits_E n.toNat (by omega)
 rw [show ((n.toNat : Nat) : Int) = n by omega] at this
 rw [show itoa n = decDigits n.toNat by unfold itoa; rw [if_neg (by omega)]]
 exact this
theorem numZ_cases (k : Int) : numZ k = -1 ∨ ((numZ k = 0 ∨ numZ k = 1 ∨ numZ k = 2) ∧ 1 ≤ k ∧ k ≤ 15) := by
 unfold numZ
 split
 ·exact .inl rfl
 ·right; refine ⟨?_, by omega, by omega⟩; split; · exact .inr (.inr rfl)
  split; · exact .inl rfl
  exact .inr (.inl rfl)
def wordsO (o : Op3) : List (List UInt8) := nam o.k :: ([o.a, o.b].take (numZ o.k).toNat).map itoa
def oneL (o : Op3) : List UInt8 := Lib.join (wordsO o) [32]
def okP (o : Op3) : Prop := 0 ≤ numZ o.k ∧ 0 ≤ o.a ∧ 0 ≤ o.b ∧ (numZ o.k < 1 → o.a = 0) ∧ (numZ o.k < 2 → o.b = 0)
instance (o : Op3) : Decidable (okP o) := by unfold okP; infer_instance
structure WfO (o : Op3) : Prop where
 a0 : -9223372036854775808 ≤ o.a
 a1 : o.a ≤ 9223372036854775807
 b0 : -9223372036854775808 ≤ o.b
 b1 : o.b ≤ 9223372036854775807
def ansO (o : Op3) : List Lf := if okP o then [.s (By (oneL o)), .b true] else [.s (By []), .b false]
theorem oneL_eq (o : Op3) : oneL o = nam o.k ++ ((if 0 < numZ o.k then 32 :: itoa o.a else []) ++ (if 1 < numZ o.k then 32 :: itoa o.b else [])) := by
 unfold oneL wordsO
 rcases numZ_cases o.k with h | ⟨h | h | h, _⟩ <;> rw [h]
 ·simp [Lib.join_one]
 ·simp [Lib.join_one]
 ·simp [join_cc, Lib.join_one]
 ·simp [join_cc, Lib.join_one]
theorem oneL_len {o : Op3} (h : WfO o) : (oneL o).length ≤ 60 := by
 rw [oneL_eq]
 have h1 := nam_len o.k
 have h2 := itoa_length_le o.a h.a0 h.a1
 have h3 := itoa_length_le o.b h.b0 h.b1
 simp only [List.length_append]
 split <;> split <;> simp only [List.length_cons, List.length_nil] <;> omega
theorem One_E {o : Op3} (w : WfO o) : EC Tryd.prog G80 [] [.i o.k, .i o.a, .i o.b] fun x rs vs => x = 0 ∧ rs = [] ∧ vs = ansO o := by
 refine E80 fun EV V => (numX_E o.k).mono ?_
 rintro _ _ _ ⟨rfl, rfl, rfl⟩
 refine ⟨rfl, _, rfl, rfl, ?_⟩
 have bad : ¬ okP o → (0 = 0 ∧ ([] : Rs) = [] ∧ ([.s (ByteArray.mk (Array.mk [])), .b false] : List Lf) = ansO o) := fun h => ⟨rfl, rfl, by unfold ansO; rw [if_neg h]⟩
 have hw := oneL_len w
 have good : okP o → EZ G77 [] [] (fun x rs vs => (x = 0 ∧ ∃ y8_0, rs = [] ∧ vs = [.r y8_0] ∧ ((0 ≤ o.k) ∧ (y8_0[o.k.toNat]? = some [.str (cSS y8_0 o.k.toNat 0), .int .i64 (cIS y8_0 o.k.toNat 1)]) ∧ (EV 14 [[[(AV.str (cSS y8_0 o.k.toNat 0))]]] [.i (numZ o.k), .i o.k, .i o.a, .i o.b])))) := by
  intro ok
  rcases numZ_cases o.k with h | ⟨hn, h1, h2⟩
  ·have := ok.1; omega
  refine kindsY_E.mono ?_
  rintro _ _ _ ⟨rfl, rfl, R, rfl, hl, hR⟩
  have hk := hR o.k.toNat (by omega)
  refine ⟨rfl, _, rfl, rfl, by omega, hk.1, ?_⟩
  rw [hk.2, show ((o.k.toNat : Nat) : Int) = o.k by omega]
  refine V.p14 fun _ => ⟨by omega, by omega, ?_⟩
  have hW : ∀ x ∈ [o.a, o.b].take (numZ o.k).toNat, -9223372036854775808 ≤ x ∧ x ≤ 9223372036854775807 := fun x hx => by
   have := List.mem_of_mem_take hx
   simp at this
   rcases this with rfl | rfl
   ·exact ⟨w.a0, w.a1⟩
   ·exact ⟨w.b0, w.b1⟩
  have eW : List.take (numZ o.k).toNat [[(AV.int .i64 o.a)], [(AV.int .i64 o.b)]] = ([o.a, o.b].take (numZ o.k).toNat).map fun z => [AV.int .i64 z] := by rw [List.map_take]; rfl
  have hlW : ([o.a, o.b].take (numZ o.k).toNat).length ≤ 2 := by simp; omega
  rw [eW, List.length_map]
  have hj : oneL o = Lib.join (nam o.k :: ([o.a, o.b].take (numZ o.k).toNat).map itoa) [32] := rfl
  generalize hWd : [o.a, o.b].take (numZ o.k).toNat = W at *
  have loop : ∀ (n m : Nat), m + n = W.length → EV 19 [(nam o.k :: (W.take m).map itoa).map fun l => [.str (By l)]] [.r (W.map fun z => [AV.int .i64 z]), .i (W.length : Int), .i (m : Int)] := by
   intro n
   induction n with
   | zero =>
    intro m hm
    refine V.p19 fun _ => ⟨fun h => by omega, fun _ => ?_⟩
    rw [List.drop_zero, List.take_length, List.take_of_length_le (show W.length ≤ m by omega)]
    refine (Join_E (nam o.k :: W.map itoa) 32 (by simp; omega) (by rw [← hj]; omega)).mono ?_
    rintro _ _ _ ⟨rfl, rfl, rfl⟩
    exact ⟨rfl, _, rfl, rfl, rfl, rfl, by unfold ansO; rw [if_pos ok, hj]⟩
   | succ n ih =>
    intro m hm
    have hmW : m < W.length := by omega
    refine V.p19 fun _ => ⟨fun _ => ?_, fun h => by omega⟩
    have ec : cIS (W.map fun z => [AV.int .i64 z]) m 0 = W[m] := by
     unfold cIS cellS; rw [List.getElem?_map, List.getElem?_eq_getElem hmW]; rfl
    rw [show ((m : Int).toNat) = m by omega, ec]
    refine ⟨by omega, by rw [List.getElem?_map, List.getElem?_eq_getElem hmW]; rfl, ?_⟩
    have hx := hW W[m] (List.getElem_mem hmW)
    refine (Itoa_E W[m] hx.1 hx.2).mono ?_
    rintro _ _ _ ⟨rfl, rfl, rfl⟩
    refine ⟨rfl, _, rfl, rfl, by simp; omega, by simp; omega, ?_⟩
    rw [wrap64 (by omega) (by omega)]
    have e : ((nam o.k :: (W.take m).map itoa).map fun l => [AV.str (By l)]) ++ List.take 1 (List.drop 0 [[AV.str (By (itoa W[m]))]]) = (nam o.k :: (W.take (m + 1)).map itoa).map fun l => [AV.str (By l)] := by rw [List.take_succ_eq_append_getElem hmW, List.map_append, List.map_cons, List.map_cons, List.map_append]; rfl
    rw [e, show (m : Int) + 1 = ((m + 1 : Nat) : Int) by omega]
    exact ih (m + 1) (by omega)
  exact loop W.length 0 (by omega)
 unfold okP at good bad
 refine ⟨fun h1 => ⟨fun h2 => ⟨fun h3 => ⟨fun h4 => ⟨fun h5 => ⟨fun h6 => ⟨fun h7 => bad (by omega), fun h7 => good (by omega)⟩, fun h6 => good (by omega)⟩, fun h5 => bad (by omega)⟩, fun h4 => ⟨fun h6 => ⟨fun h7 => bad (by omega), fun h7 => good (by omega)⟩, fun h6 => good (by omega)⟩⟩, fun h3 => bad (by omega)⟩, fun h2 => bad (by omega)⟩, fun h1 => bad (by omega)⟩
theorem ROne_E {o : Op3} (w : WfO o) : EC Tryd.prog G81 [] [.i o.k, .i o.a, .i o.b] fun x rs vs => x = 0 ∧ rs = [] ∧ vs = ansO o := by
 refine E81 fun EV V => (RnumX_E o.k).mono ?_
 rintro _ _ _ ⟨rfl, rfl, rfl⟩
 refine ⟨rfl, _, rfl, rfl, ?_⟩
 have bad : ¬ okP o → (0 = 0 ∧ ([] : Rs) = [] ∧ ([.s (ByteArray.mk (Array.mk [])), .b false] : List Lf) = ansO o) := fun h => ⟨rfl, rfl, by unfold ansO; rw [if_neg h]⟩
 have l1 := nam_len o.k
 have l2 := itoa_length_le o.a w.a0 w.a1
 have l3 := itoa_length_le o.b w.b0 w.b1
 have good : okP o → EZ G100 [] [] (fun x rs vs => (x = 0 ∧ ∃ y8_0, rs = [] ∧ vs = [.r y8_0] ∧ ((0 ≤ o.k) ∧ (y8_0[o.k.toNat]? = some [.str (cSS y8_0 o.k.toNat 0)]) ∧ (numZ o.k > 0 → (((ByteArray.size (cSS y8_0 o.k.toNat 0)) + (ByteArray.size (ByteArray.mk (Array.mk [32])))) ≤ 9223372036854775807) ∧ (EZ G68 [] [.i o.a] (fun x rs vs => (x = 0 ∧ ∃ y10_0, rs = [] ∧ vs = [.s y10_0] ∧ ((((ByteArray.size ((cSS y8_0 o.k.toNat 0) ++ (ByteArray.mk (Array.mk [32])))) + (ByteArray.size y10_0)) ≤ 9223372036854775807) ∧ (EV 20 [] [.i (numZ o.k), .s (((cSS y8_0 o.k.toNat 0) ++ (ByteArray.mk (Array.mk [32]))) ++ y10_0), .i o.k, .i o.a, .i o.b])))))) ∧ (numZ o.k ≤ 0 → EV 20 [] [.i (numZ o.k), .s (cSS y8_0 o.k.toNat 0), .i o.k, .i o.a, .i o.b])))) := by
  intro ok
  rcases numZ_cases o.k with h | ⟨hn, h1, h2⟩
  ·have := ok.1; omega
  have h20 : ∀ m : List UInt8, m.length ≤ 40 → oneL o = m ++ (if 1 < numZ o.k then 32 :: itoa o.b else []) → EV 20 [] [.i (numZ o.k), .s (By m), .i o.k, .i o.a, .i o.b] := fun m hm he => V.p20 ⟨fun h => ⟨by rw [By_size]; show m.length + 1 ≤ _; omega, (DigitsZ_E ok.2.2.1 w.b1).mono (by
    rintro _ _ _ ⟨rfl, rfl, rfl⟩
    refine ⟨rfl, _, rfl, rfl, by rw [By_app, By_size, By_size, List.length_append]; show m.length + 1 + _ ≤ _; omega, rfl, rfl, ?_⟩
    unfold ansO
    rw [if_pos ok, he, if_pos h, By_app, By_app]
    simp)⟩, fun h => ⟨rfl, rfl, by unfold ansO; rw [if_pos ok, he, if_neg (by omega)]; simp⟩⟩
  refine namesR_E.mono ?_
  rintro _ _ _ ⟨rfl, rfl, R, rfl, hR⟩
  have hk := hR o.k.toNat (by omega)
  refine ⟨rfl, _, rfl, rfl, by omega, hk.1, ?_⟩
  rw [hk.2, show ((o.k.toNat : Nat) : Int) = o.k by omega]
  refine ⟨fun h => ⟨by rw [By_size]; show (nam o.k).length + 1 ≤ _; omega, (DigitsZ_E ok.2.1 w.a1).mono ?_⟩, fun h => ?_⟩
  ·rintro _ _ _ ⟨rfl, rfl, rfl⟩
   refine ⟨rfl, _, rfl, rfl, by rw [By_app, By_size, By_size, List.length_append]; show (nam o.k).length + 1 + _ ≤ _; omega, ?_⟩
   rw [By_app, By_app]
   refine h20 _ (by simp; omega) ?_
   rw [oneL_eq, if_pos h]; simp
  ·refine h20 _ (by omega) ?_
   rw [oneL_eq, if_neg (by omega)]; simp
 unfold okP at good bad
 refine ⟨fun h1 => ⟨fun h2 => ⟨fun h3 => ⟨fun h4 => ⟨fun h5 => ⟨fun h6 => ⟨fun h7 => bad (by omega), fun h7 => good (by omega)⟩, fun h6 => good (by omega)⟩, fun h5 => bad (by omega)⟩, fun h4 => ⟨fun h6 => ⟨fun h7 => bad (by omega), fun h7 => good (by omega)⟩, fun h6 => good (by omega)⟩⟩, fun h3 => bad (by omega)⟩, fun h2 => bad (by omega)⟩, fun h1 => bad (by omega)⟩
end Go.Ab
