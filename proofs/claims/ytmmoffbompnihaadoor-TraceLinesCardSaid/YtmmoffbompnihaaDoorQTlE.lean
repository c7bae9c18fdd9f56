import Derived.Test.YtmmoffbompnihaaDoorQTlD
namespace Go.Ab
open Go Go.Proofs Go.Lib
set_option linter.unusedVariables false
set_option linter.unusedSimpArgs false
set_option maxRecDepth 100000
set_option maxHeartbeats 1000000
def DelE : Prop := ∀ L : List (List UInt8), L.length = 7 → EC Tryd.prog G54 [L.map fun l => [.str (By l)]] [.i 1, .i 2] fun x rs vs => x = 0 ∧ rs = [(L.take 1 ++ L.drop 2 ++ [[]]).map fun l => [.str (By l)]] ∧ vs = [.n 6]
def numsR (r : Rc) : List Int := r.t :: tailR r
theorem Parse_E (hD : DelE) {r : Rc} (w : WfR r) (ok : okR r) : EC Tryd.prog G15 [] [.s (By (lineR r))] fun x rs vs => x = 0 ∧ rs = [] ∧ vs = [.i r.t, .i r.k, .i r.a, .i r.b, .i r.c, .i r.d, .i r.e, .b true] := by
 have hlen := lineR_len w
 have hkk : ((r.k.toNat : Nat) : Int) = r.k := by have := ok.1; omega
 refine E15 fun EV V => (SplitO_E (itoa r.t) (nam r.k :: (tailR r).map itoa) 32 (wordsR_no r) (show (lineR r).length < _ by omega)).mono ?_
 rintro _ _ _ ⟨rfl, rfl, rfl⟩
 refine ⟨rfl, _, rfl, rfl, fun h => absurd rfl h, fun _ => ⟨by omega, by simp [tailR], rfl, names_E.mono ?_⟩⟩
 rintro _ _ _ ⟨rfl, rfl, R, rfl, hR⟩
 have hI := Idx_E hR (k := r.k.toNat) (by have := ok.1; have := ok.2; omega)
 rw [hkk] at hI
 refine ⟨rfl, _, rfl, rfl, EC.mono hI ?_⟩
 rintro _ _ _ ⟨rfl, rfl, rfl⟩
 refine ⟨rfl, _, rfl, rfl, V.p14 fun _ => ⟨fun h => by have := ok.1; omega, fun _ => (hD (wordsR r) rfl).mono ?_⟩⟩
 rintro _ _ _ ⟨rfl, rfl, rfl⟩
 refine ⟨rfl, _, _, rfl, rfl, ?_⟩
 have hN : ∀ z ∈ numsR r, I64 z := fun z hz => by
  unfold numsR at hz
  rcases List.mem_cons.1 hz with h | h
  ·rw [h]; exact w.t
  ·exact w.tail z h
 have h6 : (numsR r).length = 6 := rfl
 have eD : (wordsR r).take 1 ++ (wordsR r).drop 2 ++ [[]] = (numsR r).map itoa ++ [[]] := rfl
 rw [eD]
 have loop : ∀ (n m : Nat), m + n = 6 → EV 29 [((numsR r).take m).map fun z => [AV.int .i64 z], ((numsR r).map itoa ++ [[]]).map fun l => [.str (By l)]] [.i r.k, .n 6, .i ((6 : Nat) : Int), .i (m : Int), .i 0, .i 0, .i 0, .i 0, .i 0, .i 0, .i 0] := by
  intro n
  induction n with
  | zero =>
   intro m hm
   obtain rfl : m = 6 := by omega
   refine V.p29 fun _ _ => ⟨fun h => by omega, fun _ => ?_⟩
   exact ⟨(show (0 : Int) < ((6 : Nat) : Int) by decide), rfl, by decide, (show (1 : Int) < ((6 : Nat) : Int) by decide), rfl, by decide, (show (2 : Int) < ((6 : Nat) : Int) by decide), rfl, by decide, (show (3 : Int) < ((6 : Nat) : Int) by decide), rfl, by decide, (show (4 : Int) < ((6 : Nat) : Int) by decide), rfl, by decide, (show (5 : Int) < ((6 : Nat) : Int) by decide), rfl, rfl, rfl, rfl⟩
  | succ n ih =>
   intro m hm
   have hmN : m < (numsR r).length := by omega
   have hx := hN _ (List.getElem_mem hmN)
   have eg : (((numsR r).map itoa ++ [[]]).map fun l => [AV.str (By l)])[m]? = some [.str (By (itoa (numsR r)[m]))] := by
    rw [List.getElem?_map, List.getElem?_append_left (by rw [List.length_map]; omega), List.getElem?_map, List.getElem?_eq_getElem hmN]; rfl
   have ec : cSS (((numsR r).map itoa ++ [[]]).map fun l => [AV.str (By l)]) m 0 = By (itoa (numsR r)[m]) := by
    unfold cSS cellS; rw [eg]; rfl
   refine V.p29 fun _ _ => ⟨fun _ => ?_, fun h => by omega⟩
   rw [show ((m : Int).toNat) = m by omega, ec]
   refine ⟨by omega, by omega, eg, (Number_E hx).mono ?_⟩
   rintro _ _ _ ⟨rfl, rfl, rfl⟩
   refine ⟨rfl, _, _, rfl, rfl, fun h => (by cases h), fun _ => ⟨by simp; omega, by simp; omega, ?_⟩⟩
   rw [wrap64 (by omega) (by omega)]
   have e : (((numsR r).take m).map fun z => [AV.int .i64 z]) ++ List.take 1 (List.drop 0 [[AV.int .i64 (numsR r)[m]]]) = ((numsR r).take (m + 1)).map fun z => [AV.int .i64 z] := by
    rw [List.take_succ_eq_append_getElem hmN, List.map_append]; rfl
   rw [e, show (m : Int) + 1 = ((m + 1 : Nat) : Int) by omega]
   exact ih (m + 1) (by omega)
 exact loop 6 0 rfl
theorem ParseNil_E : EC Tryd.prog G15 [] [.s (By [])] fun x rs vs => x = 0 ∧ rs = [] ∧ vs = [.i 0, .i 0, .i 0, .i 0, .i 0, .i 0, .i 0, .b false] := by
 refine E15 fun EV V => ?_
 have hS := SplitO_E [] [] 32 (fun p hp => by simp at hp; subst hp; simp) (by rw [Lib.join_one]; simp)
 rw [Lib.join_one] at hS
 refine hS.mono ?_
 rintro _ _ _ ⟨rfl, rfl, rfl⟩
 exact ⟨rfl, _, rfl, rfl, fun _ => ⟨rfl, rfl, rfl⟩, fun h => by simp at h⟩
theorem Lines3 (hD : DelE) (hF : EC Tryd.prog G12 [] [] fun x rs vs => x = 0 ∧ rs = [] ∧ vs = [.b true])
  (t : Int) (wt : (Lit.int .i64 t).wf = true) (k : Int) (wk : (Lit.int .i64 k).wf = true) (a : Int) (wa : (Lit.int .i64 a).wf = true) (b : Int) (wb : (Lit.int .i64 b).wf = true) (c : Int) (wc : (Lit.int .i64 c).wf = true) (d : Int) (wd : (Lit.int .i64 d).wf = true) (e : Int) (we : (Lit.int .i64 e).wf = true) :
  EC Tryd.prog G3 [] [.i t, .i k, .i a, .i b, .i c, .i d, .i e] fun x rs vs => x = 0 ∧ vs = [.b true] := by
 have i64 : ∀ {z : Int}, (Lit.int .i64 z).wf = true → I64 z := fun h => ⟨(wf_i64 h).1, (wf_i64 h).2⟩
 have w : WfR ⟨t, k, a, b, c, d, e⟩ := ⟨i64 wt, i64 wa, i64 wb, i64 wc, i64 wd, i64 we⟩
 refine E3 fun EV V => hF.mono ?_
 rintro _ _ _ ⟨rfl, rfl, rfl⟩
 refine ⟨rfl, _, rfl, rfl, fun h => (by cases h), fun _ => (Line_E w).mono ?_⟩
 rintro _ _ _ ⟨rfl, rfl, rfl⟩
 by_cases ok : okR ⟨t, k, a, b, c, d, e⟩
 ·refine ⟨rfl, By (lineR ⟨t, k, a, b, c, d, e⟩), true, rfl, by unfold ansR; rw [if_pos ok], (RLine_E w).mono ?_⟩
  rintro _ _ _ ⟨rfl, rfl, rfl⟩
  refine ⟨rfl, By (lineR ⟨t, k, a, b, c, d, e⟩), true, rfl, by unfold ansR; rw [if_pos ok], (Parse_E hD w ok).mono ?_⟩
  rintro _ _ _ ⟨rfl, rfl, rfl⟩
  refine ⟨rfl, _, _, _, _, _, _, _, _, rfl, rfl, fun _ => ⟨fun _ => ⟨fun _ => ⟨fun _ => ⟨rfl, by simp⟩, fun h => (by cases h)⟩, fun h => (by cases h)⟩, fun h => (by cases h)⟩, fun h => ?_⟩
  rw [sopE] at h; simp at h
 ·refine ⟨rfl, By [], false, rfl, by unfold ansR; rw [if_neg ok], (RLine_E w).mono ?_⟩
  rintro _ _ _ ⟨rfl, rfl, rfl⟩
  refine ⟨rfl, By [], false, rfl, by unfold ansR; rw [if_neg ok], ParseNil_E.mono ?_⟩
  rintro _ _ _ ⟨rfl, rfl, rfl⟩
  refine ⟨rfl, _, _, _, _, _, _, _, _, rfl, rfl, fun _ => ⟨fun _ => ⟨fun _ => ⟨fun h => (by cases h), fun _ => ⟨rfl, rfl⟩⟩, fun h => (by cases h)⟩, fun h => (by cases h)⟩, fun h => ?_⟩
  rw [sopE] at h; simp at h
end Go.Ab
