import Derived.Test.YtmmoffbompnihaaDoorQTlC
namespace Go.Ab
open Go Go.Proofs Go.Lib
set_option linter.unusedVariables false
set_option linter.unusedSimpArgs false
set_option maxRecDepth 100000
set_option maxHeartbeats 1000000
structure Rc where
 t : Int
 k : Int
 a : Int
 b : Int
 c : Int
 d : Int
 e : Int
structure WfR (r : Rc) : Prop where
 t : I64 r.t
 a : I64 r.a
 b : I64 r.b
 c : I64 r.c
 d : I64 r.d
 e : I64 r.e
def tailR (r : Rc) : List Int := [r.a, r.b, r.c, r.d, r.e]
theorem WfR.tail {r : Rc} (w : WfR r) : ∀ z ∈ tailR r, I64 z := fun z hz => by
 simp only [tailR, List.mem_cons, List.not_mem_nil, or_false] at hz
 rcases hz with h | h | h | h | h <;> rw [h]
 ·exact w.a
 ·exact w.b
 ·exact w.c
 ·exact w.d
 ·exact w.e
def okR (r : Rc) : Prop := 1 ≤ r.k ∧ r.k ≤ 8
instance (r : Rc) : Decidable (okR r) := by unfold okR; infer_instance
def wordsR (r : Rc) : List (List UInt8) := itoa r.t :: nam r.k :: (tailR r).map itoa
def lineR (r : Rc) : List UInt8 := Lib.join (wordsR r) [32]
def ansR (r : Rc) : List Lf := if okR r then [.s (By (lineR r)), .b true] else [.s (By []), .b false]
theorem wordsR_len {r : Rc} (w : WfR r) : ∀ x ∈ wordsR r, x.length ≤ 21 := by
 intro x hx
 unfold wordsR at hx
 rcases List.mem_cons.1 hx with h | hx
 ·rw [h]; exact w.t.len
 rcases List.mem_cons.1 hx with h | hx
 ·rw [h]; have := nam_len r.k; omega
 obtain ⟨z, hz, rfl⟩ := List.mem_map.1 hx
 exact (w.tail z hz).len
theorem lineR_len {r : Rc} (w : WfR r) : (lineR r).length ≤ 154 := Nat.le_trans (join_len (d := 21) _ (wordsR_len w)) (by simp [wordsR, tailR])
theorem wordsR_no (r : Rc) : ∀ p ∈ wordsR r, (32 : UInt8) ∉ p := by
 intro p hp hc
 unfold wordsR at hp
 rcases List.mem_cons.1 hp with h | hp
 ·rw [h] at hc; exact (itoa_chars _ hc).1 rfl
 rcases List.mem_cons.1 hp with h | hp
 ·rw [h] at hc; exact (nam_chars _ _ hc).1 rfl
 obtain ⟨z, hz, rfl⟩ := List.mem_map.1 hp
 exact (itoa_chars _ hc).1 rfl
theorem Line_E {r : Rc} (w : WfR r) : EC Tryd.prog G13 [] [.i r.t, .i r.k, .i r.a, .i r.b, .i r.c, .i r.d, .i r.e] fun x rs vs => x = 0 ∧ rs = [] ∧ vs = ansR r := by
 have bad : ¬ okR r → (0 = 0 ∧ ([] : Rs) = [] ∧ ([.s (ByteArray.mk (Array.mk [])), .b false] : List Lf) = ansR r) := fun h => ⟨rfl, rfl, by unfold ansR; rw [if_neg h]⟩
 refine E13 fun EV V => names_E.mono ?_
 rintro _ _ _ ⟨rfl, rfl, R, rfl, hR⟩
 refine ⟨rfl, _, rfl, rfl, fun h1 => ⟨fun h2 => bad fun ok => by have := ok.2; rw [hR.1] at h2; omega, fun h2 => ?_⟩, fun h1 => bad fun ok => by have := ok.1; omega⟩
 rw [hR.1] at h2
 have ok : okR r := ⟨h1, by omega⟩
 have hk := hR.2 r.k.toNat (by omega)
 have hkk : ((r.k.toNat : Nat) : Int) = r.k := by omega
 rw [hkk] at hk
 refine ⟨by omega, hk.1, (Itoa_E _ w.t.lo w.t.hi).mono ?_⟩
 rintro _ _ _ ⟨rfl, rfl, rfl⟩
 rw [hk.2]
 refine ⟨rfl, _, rfl, rfl, V.p14 fun _ => ?_⟩
 have hlen := lineR_len w
 have hj : lineR r = Lib.join (itoa r.t :: nam r.k :: (tailR r).map itoa) [32] := rfl
 have hW := w.tail
 have hl5 : (tailR r).length = 5 := rfl
 have loop : ∀ (n m : Nat), m + n = 5 → EV 19 [(itoa r.t :: nam r.k :: ((tailR r).take m).map itoa).map fun l => [.str (By l)]] [.r ((tailR r).map fun z => [AV.int .i64 z]), .i 5, .i (m : Int)] := by
  intro n
  induction n with
  | zero =>
   intro m hm
   refine V.p19 fun _ => ⟨fun h => by omega, fun _ => ?_⟩
   rw [List.drop_zero, List.take_length, List.take_of_length_le (show (tailR r).length ≤ m by omega)]
   refine (Join_E (itoa r.t :: nam r.k :: (tailR r).map itoa) 32 (by simp [hl5]) (by rw [← hj]; omega)).mono ?_
   rintro _ _ _ ⟨rfl, rfl, rfl⟩
   exact ⟨rfl, _, rfl, rfl, rfl, rfl, by unfold ansR; rw [if_pos ok, hj]⟩
  | succ n ih =>
   intro m hm
   have hmW : m < (tailR r).length := by omega
   refine V.p19 fun _ => ⟨fun _ => ?_, fun h => by omega⟩
   have ec : cIS ((tailR r).map fun z => [AV.int .i64 z]) m 0 = (tailR r)[m] := by
    unfold cIS cellS; rw [List.getElem?_map, List.getElem?_eq_getElem hmW]; rfl
   rw [show ((m : Int).toNat) = m by omega, ec]
   refine ⟨by omega, by rw [List.getElem?_map, List.getElem?_eq_getElem hmW]; rfl, ?_⟩
   have hx := hW _ (List.getElem_mem hmW)
   refine (Itoa_E _ hx.lo hx.hi).mono ?_
   rintro _ _ _ ⟨rfl, rfl, rfl⟩
   refine ⟨rfl, _, rfl, rfl, by simp; omega, by simp; omega, ?_⟩
   rw [wrap64 (by omega) (by omega)]
   have e : ((itoa r.t :: nam r.k :: ((tailR r).take m).map itoa).map fun l => [AV.str (By l)]) ++ List.take 1 (List.drop 0 [[AV.str (By (itoa (tailR r)[m]))]]) = (itoa r.t :: nam r.k :: ((tailR r).take (m + 1)).map itoa).map fun l => [AV.str (By l)] := by rw [List.take_succ_eq_append_getElem hmW, List.map_append, List.map_cons, List.map_cons, List.map_cons, List.map_cons, List.map_append]; rfl
   rw [e, show (m : Int) + 1 = ((m + 1 : Nat) : Int) by omega]
   exact ih (m + 1) (by omega)
 exact loop 5 0 rfl
theorem RLine_E {r : Rc} (w : WfR r) : EC Tryd.prog G14 [] [.i r.t, .i r.k, .i r.a, .i r.b, .i r.c, .i r.d, .i r.e] fun x rs vs => x = 0 ∧ rs = [] ∧ vs = ansR r := by
 have bad : ¬ okR r → (0 = 0 ∧ ([] : Rs) = [] ∧ ([.s (ByteArray.mk (Array.mk [])), .b false] : List Lf) = ansR r) := fun h => ⟨rfl, rfl, by unfold ansR; rw [if_neg h]⟩
 have l0 := w.t.len
 have l1 := nam_len r.k
 refine E14 fun EV V => ⟨fun h1 => ⟨fun h8 => bad fun ok => by have := ok.2; omega, fun h8 => (Num_E w.t).mono ?_⟩, fun h1 => bad fun ok => by have := ok.1; omega⟩
 have ok : okR r := ⟨h1, h8⟩
 rintro _ _ _ ⟨rfl, rfl, rfl⟩
 refine ⟨rfl, _, rfl, rfl, by simp only [By_size, List.length_cons, List.length_nil]; omega, Rnames_E.mono ?_⟩
 rintro _ _ _ ⟨rfl, rfl, R, rfl, hR⟩
 have hk := hR.2 r.k.toNat (by omega)
 rw [show ((r.k.toNat : Nat) : Int) = r.k by omega] at hk
 refine ⟨rfl, _, rfl, rfl, by omega, hk.1, ?_⟩
 rw [hk.2]
 refine ⟨by simp only [By_app, By_size, List.length_append, List.length_cons, List.length_nil]; omega, V.p12 ?_⟩
 have hW := w.tail
 have hl5 : (tailR r).length = 5 := rfl
 have hjl : ∀ m, (Lib.join ((wordsR r).take m) [32]).length ≤ 154 := fun m => Nat.le_trans (join_len (d := 21) _ fun x hx => wordsR_len w x (List.mem_of_mem_take hx)) (by
  have : ((wordsR r).take m).length ≤ 7 := by rw [List.length_take]; simp [wordsR, hl5]; omega
  omega)
 have snoc : ∀ (x : List UInt8) (a : List UInt8) (L : List (List UInt8)), Lib.join ((a :: L) ++ [x]) [32] = Lib.join (a :: L) [32] ++ ([32] ++ x) := by
  intro x a L
  induction L generalizing a with
  | nil => simp [join_cc, Lib.join_one]
  | cons b L ih =>
   have := ih b
   rw [List.cons_append, List.cons_append, join_cc, ← List.cons_append, this, join_cc]
   simp
 have loop : ∀ (n m : Nat), m + n = 5 → EV 17 [] [.s (By (Lib.join (itoa r.t :: nam r.k :: ((tailR r).take m).map itoa) [32])), .r ((tailR r).map fun z => [AV.int .i64 z]), .i 5, .i (m : Int)] := by
  intro n
  induction n with
  | zero =>
   intro m hm
   refine V.p17 ⟨fun h => by omega, fun _ => ⟨rfl, rfl, ?_⟩⟩
   rw [List.take_of_length_le (show (tailR r).length ≤ m by omega)]
   unfold ansR
   rw [if_pos ok]
   rfl
  | succ n ih =>
   intro m hm
   have hmW : m < (tailR r).length := by omega
   have ec : cIS ((tailR r).map fun z => [AV.int .i64 z]) m 0 = (tailR r)[m] := by
    unfold cIS cellS; rw [List.getElem?_map, List.getElem?_eq_getElem hmW]; rfl
   have hx := hW _ (List.getElem_mem hmW)
   have hxl := hx.len
   have hb := hjl (m + 2)
   have ew : (wordsR r).take (m + 2) = itoa r.t :: nam r.k :: ((tailR r).take m).map itoa := by unfold wordsR; rw [List.take_succ_cons, List.take_succ_cons, List.map_take]
   rw [ew] at hb
   refine V.p17 ⟨fun _ => ?_, fun h => by omega⟩
   rw [show ((m : Int).toNat) = m by omega, ec]
   refine ⟨by omega, by rw [List.getElem?_map, List.getElem?_eq_getElem hmW]; rfl, by simp only [By_size, List.length_cons, List.length_nil]; omega, (Num_E hx).mono ?_⟩
   rintro _ _ _ ⟨rfl, rfl, rfl⟩
   refine ⟨rfl, _, rfl, rfl, by simp only [By_app, By_size, List.length_append, List.length_cons, List.length_nil]; omega, ?_⟩
   rw [wrap64 (by omega) (by omega), show (m : Int) + 1 = ((m + 1 : Nat) : Int) by omega, By_app, By_app]
   have := ih (m + 1) (by omega)
   rw [List.take_succ_eq_append_getElem hmW, List.map_append] at this
   have e := snoc (itoa (tailR r)[m]) (itoa r.t) (nam r.k :: ((tailR r).take m).map itoa)
   rw [show (itoa r.t :: nam r.k :: (((tailR r).take m).map itoa ++ [(tailR r)[m]].map itoa)) = (itoa r.t :: nam r.k :: ((tailR r).take m).map itoa) ++ [itoa (tailR r)[m]] from rfl, e] at this
   rw [List.append_assoc]
   exact this
 have h0 := loop 5 0 rfl
 have e0 : Lib.join (itoa r.t :: nam r.k :: ((tailR r).take 0).map itoa) [32] = itoa r.t ++ ([32] ++ nam r.k) := by
  show Lib.join [itoa r.t, nam r.k] [32] = _
  rw [join_cc, Lib.join_one]
 rw [e0] at h0
 rw [By_app, By_app, List.append_assoc]
 exact h0
end Go.Ab
