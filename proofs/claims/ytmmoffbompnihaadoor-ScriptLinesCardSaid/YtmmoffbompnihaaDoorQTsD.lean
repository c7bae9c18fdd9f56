import Derived.Test.YtmmoffbompnihaaDoorQTsC
namespace Go.Ab
open Go Go.Proofs Go.Lib
set_option linter.unusedVariables false
set_option linter.unusedSimpArgs false
set_option maxRecDepth 100000
set_option maxHeartbeats 1000000
theorem join_len {c : UInt8} {d : Nat} : ∀ (L : List (List UInt8)), (∀ x ∈ L, x.length ≤ d) → (Lib.join L [c]).length ≤ (d + 1) * L.length
 | [], _ => by simp [Lib.join_nil]
 | [a], h => by rw [Lib.join_one]; have := h a (by simp); simp; omega
 | a :: b :: L, h => by
  have ih := join_len (c := c) (b :: L) fun x hx => h x (List.mem_cons_of_mem _ hx)
  have := h a (by simp)
  rw [join_cc]
  simp only [List.length_append, List.length_cons, List.length_nil, Nat.mul_add, Nat.mul_one] at ih ⊢
  omega
structure Ev where
 t : Int
 k : Int
 a : Int
 b : Int
 c : Int
def okE (e : Ev) : Prop := 1 ≤ e.k ∧ e.k ≤ 5 ∧ inZ e.t ∧ inZ e.a ∧ inZ e.b ∧ inZ e.c ∧ (e.k ≠ 5 → e.b = 0 ∧ e.c = 0)
instance (e : Ev) : Decidable (okE e) := by unfold okE; infer_instance
def w5 (e : Ev) : List (List UInt8) := [itoa e.t, nam e.k, itoa e.a, itoa e.b, itoa e.c]
def w3 (e : Ev) : List (List UInt8) := [itoa e.t, nam e.k, itoa e.a]
def lineE (e : Ev) : List UInt8 := if e.k = 5 then Lib.join (w5 e) [32] else Lib.join (w3 e) [32]
def ansE (e : Ev) : List Lf := if okE e then [.s (By (lineE e)), .b true] else [.s (By []), .b false]
theorem inZ_len {z : Int} (h : inZ z) : (itoa z).length ≤ 21 := itoa_length_le z (by have := h.1; omega) (by have := h.2; omega)
theorem Words_E (k : Int) : EC Tryd.prog G64 [] [.i k] fun x rs vs => x = 0 ∧ rs = [] ∧ vs = [.i (if k = 5 then 5 else 3)] := by
 refine E64 fun _ _ => ⟨fun h => ⟨rfl, rfl, by rw [if_pos h]⟩, fun h => ⟨rfl, rfl, by rw [if_neg h]⟩⟩
theorem w5_len {e : Ev} (h : inZ e.t ∧ inZ e.a ∧ inZ e.b ∧ inZ e.c) : ∀ x ∈ w5 e, x.length ≤ 21 := by
 intro x hx
 simp only [w5, List.mem_cons, List.not_mem_nil, or_false] at hx
 rcases hx with h1 | h1 | h1 | h1 | h1 <;> rw [h1]
 ·exact inZ_len h.1
 ·have := nam_len e.k; omega
 ·exact inZ_len h.2.1
 ·exact inZ_len h.2.2.1
 ·exact inZ_len h.2.2.2
theorem Line_E (e : Ev) : EC Tryd.prog G24 [] [.i e.t, .i e.k, .i e.a, .i e.b, .i e.c] fun x rs vs => x = 0 ∧ rs = [] ∧ vs = ansE e := by
 have bad : ¬ okE e → (0 = 0 ∧ ([] : Rs) = [] ∧ ([.s (ByteArray.mk (Array.mk [])), .b false] : List Lf) = ansE e) := fun h => ⟨rfl, rfl, by unfold ansE; rw [if_neg h]⟩
 refine E24 fun EV V => names_E.mono ?_
 rintro _ _ _ ⟨rfl, rfl, R, rfl, hR⟩
 refine ⟨rfl, _, rfl, rfl, fun h1 => ⟨fun h6 => (Small_E [e.t, e.a, e.b, e.c] (by simp)).mono ?_, fun h6 => bad fun ok => ?_⟩, fun h1 => bad fun ok => by have := ok.1; omega⟩
 ·rintro _ _ _ ⟨rfl, rfl, rfl⟩
  refine ⟨rfl, _, rfl, rfl, fun hb => bad fun ok => ?_, fun hb => ?_⟩
  ·have hn := of_decide_eq_false hb
   exact hn fun z hz => by
    simp only [List.mem_cons, List.not_mem_nil, or_false] at hz
    rcases hz with h | h | h | h <;> rw [h]
    ·exact ok.2.2.1
    ·exact ok.2.2.2.1
    ·exact ok.2.2.2.2.1
    ·exact ok.2.2.2.2.2.1
  ·have hs := of_decide_eq_true hb
   have st : inZ e.t := hs _ (by simp)
   have sa : inZ e.a := hs _ (by simp)
   have sb : inZ e.b := hs _ (by simp)
   have sc : inZ e.c := hs _ (by simp)
   have hk5 : e.k < 6 := by rw [hR.1] at h6; omega
   have hk := hR.2 e.k.toNat (by omega)
   have hkk : ((e.k.toNat : Nat) : Int) = e.k := by omega
   rw [hkk] at hk
   rw [hk.2]
   have io : ∀ {z : Int}, inZ z → EC Tryd.prog G48 [] [.i z] fun x rs vs => x = 0 ∧ rs = [] ∧ vs = [.s (By (itoa z))] := fun h => Itoa_E _ (by have := h.1; omega) (by have := h.2; omega)
   refine ⟨by omega, by rw [← hk.2]; exact hk.1, (io st).mono ?_⟩
   rintro _ _ _ ⟨rfl, rfl, rfl⟩
   refine ⟨rfl, _, rfl, rfl, (io sa).mono ?_⟩
   rintro _ _ _ ⟨rfl, rfl, rfl⟩
   refine ⟨rfl, _, rfl, rfl, (io sb).mono ?_⟩
   rintro _ _ _ ⟨rfl, rfl, rfl⟩
   refine ⟨rfl, _, rfl, rfl, (io sc).mono ?_⟩
   rintro _ _ _ ⟨rfl, rfl, rfl⟩
   refine ⟨rfl, _, rfl, rfl, V.p14 ((Words_E e.k).mono ?_)⟩
   rintro _ _ _ ⟨rfl, rfl, rfl⟩
   have hl := w5_len ⟨st, sa, sb, sc⟩
   by_cases h5 : e.k = 5
   ·rw [if_pos h5]
    refine ⟨rfl, _, rfl, rfl, by omega, by simp, (Nz_E [] (by simp)).mono ?_⟩
    rintro _ _ _ ⟨rfl, rfl, rfl⟩
    refine ⟨rfl, _, rfl, rfl, fun h => (by simp at h), fun _ => ⟨by omega, by simp, (Join_E (w5 e) 32 (by simp [w5]) (Nat.le_trans (join_len (d := 21) _ hl) (by simp [w5]))).mono ?_⟩⟩
    rintro _ _ _ ⟨rfl, rfl, rfl⟩
    refine ⟨rfl, _, rfl, rfl, rfl, rfl, ?_⟩
    unfold ansE lineE
    rw [if_pos h5, if_pos ⟨by omega, by omega, st, sa, sb, sc, fun h => absurd h5 h⟩]
   ·rw [if_neg h5]
    refine ⟨rfl, _, rfl, rfl, by omega, by simp, (Nz_E [itoa e.b, itoa e.c] (by simp)).mono ?_⟩
    rintro _ _ _ ⟨rfl, rfl, rfl⟩
    have hz : (∀ w ∈ [itoa e.b, itoa e.c], w = [48]) ↔ e.b = 0 ∧ e.c = 0 := by
     simp only [List.mem_cons, List.not_mem_nil, or_false, forall_eq_or_imp, forall_eq]
     rw [itoa_zero sb.1, itoa_zero sc.1]
    refine ⟨rfl, _, rfl, rfl, fun h => bad fun ok => (of_decide_eq_true h) (hz.2 (ok.2.2.2.2.2.2 h5)), fun h => ⟨by omega, by simp, (Join_E (w3 e) 32 (by simp [w3]) (Nat.le_trans (join_len (d := 21) _ fun x hx => hl x (by simp only [w3, w5, List.mem_cons, List.not_mem_nil, or_false] at hx ⊢; rcases hx with h | h | h <;> simp [h])) (by simp [w3]))).mono ?_⟩⟩
    rintro _ _ _ ⟨rfl, rfl, rfl⟩
    refine ⟨rfl, _, rfl, rfl, rfl, rfl, ?_⟩
    unfold ansE lineE
    rw [if_neg h5, if_pos ⟨by omega, by omega, st, sa, sb, sc, fun _ => hz.1 (Decidable.not_not.1 (of_decide_eq_false h))⟩]
 ·have := ok.2.1
  rw [hR.1] at h6
  omega
theorem RLine_E (e : Ev) : EC Tryd.prog G25 [] [.i e.t, .i e.k, .i e.a, .i e.b, .i e.c] fun x rs vs => x = 0 ∧ rs = [] ∧ vs = ansE e := by
 have bad : ¬ okE e → (0 = 0 ∧ ([] : Rs) = [] ∧ ([.s (ByteArray.mk (Array.mk [])), .b false] : List Lf) = ansE e) := fun h => ⟨rfl, rfl, by unfold ansE; rw [if_neg h]⟩
 refine E25 fun EV V => ?_
 have good : okE e → EZ G68 [] [.i e.t] (fun x rs vs => (x = 0 ∧ ∃ y13_0, rs = [] ∧ vs = [.s y13_0] ∧ ((((ByteArray.size y13_0) + (ByteArray.size (ByteArray.mk (Array.mk [32])))) ≤ 9223372036854775807) ∧ (EZ G69 [] [] (fun x rs vs => (x = 0 ∧ ∃ y14_0, rs = [] ∧ vs = [.r y14_0] ∧ ((0 ≤ e.k) ∧ (y14_0[e.k.toNat]? = some [.str (cSS y14_0 e.k.toNat 0)]) ∧ (((ByteArray.size (y13_0 ++ (ByteArray.mk (Array.mk [32])))) + (ByteArray.size (cSS y14_0 e.k.toNat 0))) ≤ 9223372036854775807) ∧ (((ByteArray.size ((y13_0 ++ (ByteArray.mk (Array.mk [32]))) ++ (cSS y14_0 e.k.toNat 0))) + (ByteArray.size (ByteArray.mk (Array.mk [32])))) ≤ 9223372036854775807) ∧ (EZ G68 [] [.i e.a] (fun x rs vs => (x = 0 ∧ ∃ y15_0, rs = [] ∧ vs = [.s y15_0] ∧ ((((ByteArray.size (((y13_0 ++ (ByteArray.mk (Array.mk [32]))) ++ (cSS y14_0 e.k.toNat 0)) ++ (ByteArray.mk (Array.mk [32])))) + (ByteArray.size y15_0)) ≤ 9223372036854775807) ∧ (EV 12 [] [.s ((((y13_0 ++ (ByteArray.mk (Array.mk [32]))) ++ (cSS y14_0 e.k.toNat 0)) ++ (ByteArray.mk (Array.mk [32]))) ++ y15_0), .i e.t, .i e.k, .i e.a, .i e.b, .i e.c])))))))))))) := by
  intro ok
  obtain ⟨k1, k5, st, sa, sb, sc, hz⟩ := id ok
  have dz : ∀ {z : Int}, inZ z → EC Tryd.prog G68 [] [.i z] fun x rs vs => x = 0 ∧ rs = [] ∧ vs = [.s (By (itoa z))] := fun h => DigitsZ_E h.1 (by have := h.2; omega)
  have l1 := inZ_len st
  have l2 := inZ_len sa
  have l3 := inZ_len sb
  have l4 := inZ_len sc
  have l5 := nam_len e.k
  refine (dz st).mono ?_
  rintro _ _ _ ⟨rfl, rfl, rfl⟩
  refine ⟨rfl, _, rfl, rfl, by simp only [By_size, List.length_cons, List.length_nil]; omega, Rnames_E.mono ?_⟩
  rintro _ _ _ ⟨rfl, rfl, R, rfl, hR⟩
  have hk := hR.2 e.k.toNat (by omega)
  rw [show ((e.k.toNat : Nat) : Int) = e.k by omega] at hk
  refine ⟨rfl, _, rfl, rfl, by omega, hk.1, ?_⟩
  rw [hk.2]
  refine ⟨by simp only [By_app, By_size, List.length_append, List.length_cons, List.length_nil]; omega, by simp only [By_app, By_size, List.length_append, List.length_cons, List.length_nil]; omega, (dz sa).mono ?_⟩
  rintro _ _ _ ⟨rfl, rfl, rfl⟩
  refine ⟨rfl, _, rfl, rfl, by simp only [By_app, By_size, List.length_append, List.length_cons, List.length_nil]; omega, V.p12 ⟨fun h5 => ⟨by simp only [By_app, By_size, List.length_append, List.length_cons, List.length_nil]; omega, (dz sb).mono ?_⟩, fun h5 => ⟨rfl, rfl, ?_⟩⟩⟩
  ·rintro _ _ _ ⟨rfl, rfl, rfl⟩
   refine ⟨rfl, _, rfl, rfl, by simp only [By_app, By_size, List.length_append, List.length_cons, List.length_nil]; omega, by simp only [By_app, By_size, List.length_append, List.length_cons, List.length_nil]; omega, (dz sc).mono ?_⟩
   rintro _ _ _ ⟨rfl, rfl, rfl⟩
   refine ⟨rfl, _, rfl, rfl, by simp only [By_app, By_size, List.length_append, List.length_cons, List.length_nil]; omega, rfl, rfl, ?_⟩
   unfold ansE lineE
   rw [if_pos ok, if_pos h5]
   simp only [By_app, w5, join_cc, Lib.join_one, List.append_assoc]
  ·unfold ansE lineE
   rw [if_pos ok, if_neg h5]
   simp only [By_app, w3, join_cc, Lib.join_one, List.append_assoc]
 refine ⟨fun h1 => ⟨fun h5 => (in_E e.t).mono ?_, fun h5 => bad fun ok => by have := ok.2.1; omega⟩, fun h1 => bad fun ok => by have := ok.1; omega⟩
 rintro _ _ _ ⟨rfl, rfl, rfl⟩
 refine ⟨rfl, _, rfl, rfl, fun ht => (in_E e.a).mono ?_, fun h => bad fun ok => (of_decide_eq_false h) ok.2.2.1⟩
 rintro _ _ _ ⟨rfl, rfl, rfl⟩
 refine ⟨rfl, _, rfl, rfl, fun ha => (in_E e.b).mono ?_, fun h => bad fun ok => (of_decide_eq_false h) ok.2.2.2.1⟩
 rintro _ _ _ ⟨rfl, rfl, rfl⟩
 refine ⟨rfl, _, rfl, rfl, fun hb => (in_E e.c).mono ?_, fun h => bad fun ok => (of_decide_eq_false h) ok.2.2.2.2.1⟩
 rintro _ _ _ ⟨rfl, rfl, rfl⟩
 have ok : (e.k ≠ 5 → e.b = 0 ∧ e.c = 0) → decide (inZ e.c) = true → okE e := fun hz hc => ⟨by omega, by omega, of_decide_eq_true ht, of_decide_eq_true ha, of_decide_eq_true hb, of_decide_eq_true hc, hz⟩
 refine ⟨rfl, _, rfl, rfl, fun hc => ⟨fun h5 => ⟨fun h3 => ⟨fun h4 => bad fun ok => h4 (ok.2.2.2.2.2.2 h5).2, fun h4 => good (ok (fun _ => ⟨h3, h4⟩) hc)⟩, fun h3 => bad fun ok => h3 (ok.2.2.2.2.2.2 h5).1⟩, fun h5 => good (ok (fun h => absurd h5 h) hc)⟩, fun h => bad fun ok => (of_decide_eq_false h) ok.2.2.2.2.2.1⟩
end Go.Ab
