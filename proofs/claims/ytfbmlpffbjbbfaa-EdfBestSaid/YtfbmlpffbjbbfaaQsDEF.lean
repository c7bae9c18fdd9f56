import Derived.Test.YtfbmlpffbjbbfaaQEV
import Derived.Test.YtfbmlpffbjbbfaaQHp
import Derived.Test.YtfbmlpffbjbbfaaLayG
namespace Go.Ab
open Go Go.Proofs Stb
set_option linter.unusedVariables false
set_option linter.unusedSimpArgs false
set_option maxRecDepth 100000
set_option maxHeartbeats 1000000
theorem sW {x : Int} {n : Nat} (e : x = (n : Int)) (h : n < 4611686018427387904) : IntKind.wrap .i64 x = (n : Int) := by rw [e, wrap64 (by omega) (by omega)]
theorem sHalf {x y : Int} {i j : Nat} (ex : x = (i : Int)) (ey : y = (j : Int)) (h : i < 1152921504606846976) (h' : j < 1152921504606846976) : IntKind.wrap .i64 (iopS .shr .u64 (IntKind.wrap .u64 (IntKind.wrap .i64 (x + y))) (1 : Int)) = (((i + j) / 2 : Nat) : Int) := by
 subst ex ey
 rw [sW (x := (i : Int) + j) (n := i + j) (by omega) (by omega)]
 have e1 : IntKind.wrap .u64 ((i + j : Nat) : Int) = ((i + j : Nat) : Int) := by
  have : IntKind.wrap .u64 ((i + j : Nat) : Int) = ((i + j : Nat) : Int) % 18446744073709551616 := rfl
  rw [this, Int.emod_eq_of_lt (by omega) (by omega)]
 rw [e1]
 have e2 : iopS .shr .u64 ((i + j : Nat) : Int) (1 : Int) = ((i + j : Nat) : Int).fdiv 2 := rfl
 rw [e2, Int.fdiv_eq_ediv_of_nonneg _ (by omega)]
 exact sW (by omega) (by omega)
theorem ints_set (L : List Int) (k : Nat) (v : Int) : (ints L).set k [.int .i64 v] = ints (L.set k v) := by simp [ints, List.map_set]
theorem get_mid2 {α : Type} (P : List α) (x y : α) (Q : List α) (d : α) {k : Nat} (h : k = P.length + 1) : (P ++ x :: y :: Q).getD k d = y := by
 subst h; simp [List.getD_eq_getElem?_getD]
theorem set_swap {α : Type} (P : List α) (x y : α) (Q : List α) {k k' : Nat} (h : k = P.length) (h' : k' = P.length + 1) : ((P ++ x :: y :: Q).set k' x).set k y = P ++ y :: x :: Q := by
 subst h h'; simp
theorem set_swap' {α : Type} (P : List α) (x y : α) (Q : List α) {k k' : Nat} (h : k = P.length) (h' : k' = P.length + 1) : ((P ++ x :: y :: Q).set k y).set k' x = P ++ y :: x :: Q := by
 subst h h'; simp
theorem Swap_E (tb : List (List AV)) (W M Z : List Int) (n : Nat) (P Q : List Int) (hP : P.length = n) (hQ : Q.length = n) (hlen : (W ++ P ++ M ++ Q ++ Z).length < 1099511627776) {R0 : List (List AV)} (hR : R0 = ints (W ++ P ++ M ++ Q ++ Z)) {a b c : Int} (ha : a = W.length) (hb : b = ((W ++ P ++ M).length : Nat)) (hc : c = n) :
  EC Try.prog G27a [R0] [.i a, .i b, .i c, .r tb] fun e rs vs => e = 0 ∧ rs = [ints (W ++ Q ++ M ++ P ++ Z)] ∧ vs = [.r tb] := by
 subst hR ha hb hc
 refine E27a fun _ EV V => ?_
 simp only [List.length_append] at hlen
 have p4 : ∀ (P2 Q2 P1 Q1 : List Int), P1 ++ P2 = P → Q1 ++ Q2 = Q → P1.length = Q1.length → EV 4 [ints (W ++ Q1 ++ P2 ++ M ++ P1 ++ Q2 ++ Z)] [.i W.length, .i ((W ++ P ++ M).length : Nat), .i n, .i Q1.length, .r tb] := by
  intro P2
  induction P2 with
  | nil =>
   intro Q2 P1 Q1 h1 h2 h3
   rw [List.append_nil] at h1
   subst h1
   have hq : Q2 = [] := List.eq_nil_of_length_eq_zero (by have := congrArg List.length h2; rw [List.length_append] at this; omega)
   subst hq
   rw [List.append_nil] at h2
   subst h2
   refine V.p4 fun _ => ⟨fun h => by omega, fun h => ⟨rfl, ?_, rfl⟩⟩
   simp
  | cons p P2 ih =>
   intro Q2 P1 Q1 h1 h2 h3
   have hl1 := congrArg List.length h1
   have hl2 := congrArg List.length h2
   simp only [List.length_append, List.length_cons] at hl1 hl2
   obtain ⟨q, Q2, rfl⟩ : ∃ q Q2', Q2 = q :: Q2' := by
    cases Q2 with
    | nil => exfalso; simp only [List.length_nil] at hl2; omega
    | cons q Q2 => exact ⟨q, Q2, rfl⟩
   simp only [List.length_cons] at hl2
   have eA : W ++ Q1 ++ p :: P2 ++ M ++ P1 ++ q :: Q2 ++ Z = (W ++ Q1) ++ p :: (P2 ++ M ++ P1 ++ q :: Q2 ++ Z) := by simp
   have eB : W ++ Q1 ++ p :: P2 ++ M ++ P1 ++ q :: Q2 ++ Z = (W ++ Q1 ++ p :: P2 ++ M ++ P1) ++ q :: (Q2 ++ Z) := by simp
   have eL : (W ++ Q1 ++ p :: P2 ++ M ++ P1 ++ q :: Q2 ++ Z).length < 1099511627776 := by simp only [List.length_append, List.length_cons]; omega
   have ka : IntKind.wrap .i64 ((W.length : Int) + (Q1.length : Int)) = ((W ++ Q1).length : Nat) := sW (by rw [List.length_append]; omega) (by rw [List.length_append]; omega)
   have kb : IntKind.wrap .i64 ((((W ++ P ++ M).length : Nat) : Int) + (Q1.length : Int)) = ((W ++ Q1 ++ p :: P2 ++ M ++ P1).length : Nat) := sW (by simp only [List.length_append, List.length_cons]; omega) (by simp only [List.length_append, List.length_cons]; omega)
   have lA : (W ++ Q1).length < (W ++ Q1 ++ p :: P2 ++ M ++ P1 ++ q :: Q2 ++ Z).length := by rw [eA]; simp
   have lB : (W ++ Q1 ++ p :: P2 ++ M ++ P1).length < (W ++ Q1 ++ p :: P2 ++ M ++ P1 ++ q :: Q2 ++ Z).length := by rw [eB]; simp
   have gA : (W ++ Q1 ++ p :: P2 ++ M ++ P1 ++ q :: Q2 ++ Z).getD (W ++ Q1).length 0 = p := by rw [eA]; exact get_mid _ _ _ _ rfl
   have gB : (W ++ Q1 ++ p :: P2 ++ M ++ P1 ++ q :: Q2 ++ Z).getD (W ++ Q1 ++ p :: P2 ++ M ++ P1).length 0 = q := by rw [eB]; exact get_mid _ _ _ _ rfl
   refine V.p4 fun _ => ⟨fun h => ?_, fun h => by omega⟩
   rw [ka, kb, Int.toNat_natCast, Int.toNat_natCast, ints_length]
   refine ⟨by omega, by omega, ints_get lB, by omega, by omega, ints_get lA, ?_⟩
   rw [ints_cI, ints_cI, gA, gB, ints_set]
   refine ⟨ints_get (by rw [List.length_set]; exact lB), ?_⟩
   have e1 : (W ++ Q1 ++ p :: P2 ++ M ++ P1 ++ q :: Q2 ++ Z).set (W ++ Q1).length q = (W ++ Q1 ++ q :: P2 ++ M ++ P1) ++ q :: (Q2 ++ Z) := by
    rw [eA, set_mid _ _ _ _ rfl]; simp
   have e2 : ((W ++ Q1 ++ q :: P2 ++ M ++ P1) ++ q :: (Q2 ++ Z)).set (W ++ Q1 ++ p :: P2 ++ M ++ P1).length p = W ++ (Q1 ++ [q]) ++ P2 ++ M ++ (P1 ++ [p]) ++ Q2 ++ Z := by
    rw [set_mid _ _ _ _ (by simp)]; simp
   rw [ints_set, e1, e2, sW (x := (Q1.length : Int) + 1) (n := (Q1 ++ [q]).length) (by simp) (by simp only [List.length_append, List.length_cons, List.length_nil]; omega)]
   exact ih Q2 (P1 ++ [p]) (Q1 ++ [q]) (by simpa using h1) (by simpa using h2) (by simp [h3])
 have := p4 P Q [] [] (by simp) (by simp) rfl
 simpa using this
theorem Turn_E (tb : List (List AV)) (X A B Y : List Int) (hA : 0 < A.length) (hB : 0 < B.length) (hlen : (X ++ A ++ B ++ Y).length < 1099511627776) {R0 : List (List AV)} (hR : R0 = ints (X ++ A ++ B ++ Y)) {a m b : Int} (ha : a = X.length) (hm : m = ((X ++ A).length : Nat)) (hb : b = ((X ++ A ++ B).length : Nat)) :
  EC Try.prog G26a [R0] [.i a, .i m, .i b, .r tb] fun e rs vs => e = 0 ∧ rs = [ints (X ++ B ++ A ++ Y)] ∧ vs = [.r tb] := by
 subst hR ha hm hb
 refine E26a fun _ EV V => ?_
 have p7 : ∀ (n : Nat) (W U T Z : List Int), U.length + T.length = n → 0 < U.length → 0 < T.length → (W ++ U).length = (X ++ A).length → W ++ T ++ U ++ Z = X ++ B ++ A ++ Y → EV 7 [ints (W ++ U ++ T ++ Z)] [.i ((X ++ A).length : Nat), .i U.length, .i T.length, .r tb] := by
  intro n
  induction n using Nat.strongRecOn with
  | ind n ih =>
   intro W U T Z hn hU hT hW hF
   have hl := congrArg List.length hF
   simp only [List.length_append] at hl hlen hW
   refine V.p7 fun _ => ⟨fun hne => ⟨fun hgt => ?_, fun hle => ?_⟩, fun he => ?_⟩
   ·
    have e1 : U = U.take T.length ++ U.drop T.length := (List.take_append_drop _ _).symm
    have l1 : (U.take T.length).length = T.length := by rw [List.length_take]; omega
    have l2 : (U.drop T.length).length = U.length - T.length := List.length_drop
    generalize U.take T.length = U1 at *
    generalize U.drop T.length = U2 at *
    subst e1
    simp only [List.length_append] at *
    refine (Swap_E tb W U2 Z T.length U1 T l1 rfl (by simp only [List.length_append]; omega) (by simp) (sW (n := W.length) (by omega) (by omega)) (by simp only [List.length_append]; omega) rfl).mono ?_
    rintro _ _ _ ⟨rfl, rfl, rfl⟩
    refine ⟨rfl, _, _, rfl, rfl, by simp; omega, ?_⟩
    rw [sW (n := U2.length) (by omega) (by omega)]
    have := ih (U2.length + U1.length) (by omega) (W ++ T) U2 U1 Z rfl (by omega) (by omega) (by simp only [List.length_append]; omega) (by rw [← hF]; simp)
    rw [l1] at this
    simpa only [List.length_append] using this
   ·
    have e1 : T = T.take (T.length - U.length) ++ T.drop (T.length - U.length) := (List.take_append_drop _ _).symm
    have l1 : (T.take (T.length - U.length)).length = T.length - U.length := by rw [List.length_take]; omega
    have l2 : (T.drop (T.length - U.length)).length = U.length := by rw [List.length_drop]; omega
    generalize T.take (T.length - U.length) = T1 at *
    generalize T.drop (T.length - U.length) = T2 at *
    subst e1
    simp only [List.length_append] at *
    refine (Swap_E tb W T1 Z U.length U T2 rfl l2 (by simp only [List.length_append]; omega) (by simp) (sW (n := W.length) (by omega) (by omega)) ?_ rfl).mono ?_
    ·rw [sW (x := _ + _) (n := X.length + A.length + (T1.length + T2.length)) (by omega) (by omega)]
     rw [sW (n := W.length + U.length + T1.length) (by omega) (by omega)]
     simp only [List.length_append]
    rintro _ _ _ ⟨rfl, rfl, rfl⟩
    refine ⟨rfl, _, _, rfl, rfl, by simp; omega, ?_⟩
    rw [sW (n := T1.length) (by omega) (by omega)]
    have := ih (T2.length + T1.length) (by omega) W T2 T1 (U ++ Z) rfl (by omega) (by omega) (by omega) (by rw [← hF]; simp)
    rw [l2] at this
    simpa only [List.length_append, List.append_assoc] using this
   ·refine (Swap_E tb W [] Z U.length U T rfl (by omega) (by simp only [List.length_append, List.length_nil]; omega) (by simp) (sW (n := W.length) (by simp only [List.length_append]; omega) (by omega)) (by simp only [List.length_append, List.length_nil]; omega) rfl).mono ?_
    rintro _ _ _ ⟨rfl, rfl, rfl⟩
    refine ⟨rfl, _, _, rfl, rfl, rfl, ?_, rfl⟩
    rw [← hF]; simp
 have hl := hlen
 simp only [List.length_append] at hl
 rw [sW (n := A.length) (by simp only [List.length_append]; omega) (by omega), sW (n := B.length) (by simp only [List.length_append]; omega) (by omega)]
 exact p7 _ X A B Y rfl hA hB rfl rfl
end Go.Ab

namespace Go.Ab
open Go Go.Proofs Stb
set_option linter.unusedVariables false
set_option linter.unusedSimpArgs false
set_option maxRecDepth 100000
set_option maxHeartbeats 1000000
def CmpOk (tb : List (List AV)) (lt : Int → Int → Bool) (Vd : Int → Prop) : Prop :=
 ∀ x y, Vd x → Vd y → EC Try.prog G15 [] [.i x, .i y, .r tb] fun e rs vs => e = 0 ∧ rs = [] ∧ ∃ r, vs = [.i r, .r tb] ∧ (r < 0 ↔ lt x y = true)
theorem Insert_E {tb : List (List AV)} {lt : Int → Int → Bool} {Vd : Int → Prop} {rk : Int → Int} (hc : CmpOk tb lt Vd) (X S Y : List Int) (hV : ∀ x ∈ S, Vd x) (hT : Td rk lt S) (hlen : (X ++ S ++ Y).length < 1099511627776) {R0 : List (List AV)} (hR : R0 = ints (X ++ S ++ Y)) {a b : Int} (ha : a = X.length) (hb : b = ((X ++ S).length : Nat)) :
  EC Try.prog G24a [R0] [.i a, .i b, .r tb] fun e rs vs => e = 0 ∧ ∃ C, rs = [ints (X ++ C ++ Y)] ∧ vs = [.r tb] ∧ C.Perm S ∧ Sd rk C := by
 subst hR ha hb
 refine E24a fun _ EV V => ?_
 simp only [List.length_append] at hlen
 have p4 : ∀ (U S1 P : List Int), S = S1 ++ U → P.Perm S1 → Sd rk P → EV 4 [ints (X ++ P ++ U ++ Y)] [.i X.length, .i ((X ++ S).length : Nat), .i ((X ++ P).length : Nat), .r tb] := by
  intro U
  induction U with
  | nil =>
   intro S1 P h1 h2 h3
   rw [List.append_nil] at h1
   subst h1
   have hl := h2.length_eq
   refine V.p4 fun _ => ⟨fun h => ?_, fun h => ⟨rfl, P, by simp, rfl, h2, h3⟩⟩
   simp only [List.length_append] at h; omega
  | cons x U ih =>
   intro S1 P h1 h2 h3
   have hl := h2.length_eq
   have hl1 := congrArg List.length h1
   simp only [List.length_append, List.length_cons] at hl1
   have hx : Vd x := hV x (by rw [h1]; simp)
   have hTr : ∀ y ∈ P, Tr rk lt y x := fun y hy => by
    rw [h1] at hT
    exact hT.pair y (h2.mem_iff.1 hy) x (by simp)
   have nxt : ∀ P', P'.Perm (x :: P) → Sd rk P' → EV 4 [ints (X ++ P' ++ U ++ Y)] [.i X.length, .i ((X ++ S).length : Nat), .i (IntKind.wrap .i64 ((((X ++ P).length : Nat) : Int) + 1)), .r tb] := fun P' hp hs => by
    have hlp := hp.length_eq
    simp only [List.length_cons] at hlp
    rw [sW (n := (X ++ P').length) (by simp only [List.length_append]; omega) (by simp only [List.length_append]; omega)]
    refine ih (S1 ++ [x]) P' (by simpa using h1) (hp.trans ?_) hs
    exact (h2.cons x).trans (List.perm_append_singleton x S1).symm
   have p16 : ∀ (n : Nat) (P1 P2 : List Int), P1.length = n → P = P1 ++ P2 → (∀ q ∈ P2, rk x < rk q) → EV 16 [ints (X ++ P1 ++ x :: P2 ++ U ++ Y)] [.i X.length, .i ((X ++ S).length : Nat), .i ((X ++ P).length : Nat), .i ((X ++ P1).length : Nat), .r tb] := by
    intro n
    induction n with
    | zero =>
     intro P1 P2 hn h4 h5
     have : P1 = [] := List.eq_nil_of_length_eq_zero hn
     subst this
     refine V.p16 fun _ => ⟨fun h => ?_, fun h => ?_⟩
     ·simp only [List.append_nil] at h; omega
     ·have := nxt (x :: P2) (by rw [h4]; simp) (Sd.ins (P := []) (by rw [← h4]; exact h3) (fun p hp => by cases hp) h5)
      simpa using this
    | succ n ih16 =>
     intro P1 P2 hn h4 h5
     obtain ⟨P1, p, rfl⟩ : ∃ P1' p, P1 = P1' ++ [p] := by
      rcases List.eq_nil_or_concat P1 with rfl | ⟨P1', p, h⟩
      ·simp at hn
      ·exact ⟨P1', p, by simpa using h⟩
     simp only [List.length_append, List.length_cons, List.length_nil] at hn
     have hlP := congrArg List.length h4
     simp only [List.length_append, List.length_cons, List.length_nil] at hlP
     have hpP : p ∈ P := by rw [h4]; simp
     have hpV : Vd p := hV p (by rw [h1]; exact List.mem_append.2 (.inl (h2.mem_iff.1 hpP)))
     have hpx := hTr p hpP
     have eD : X ++ (P1 ++ [p]) ++ x :: P2 ++ U ++ Y = (X ++ P1) ++ p :: x :: (P2 ++ U ++ Y) := by simp
     have lD : ((X ++ P1) ++ p :: x :: (P2 ++ U ++ Y)).length = X.length + S.length + Y.length := by simp only [List.length_append, List.length_cons]; omega
     have k1 : (X ++ (P1 ++ [p])).length = (X ++ P1).length + 1 := by simp; omega
     have kp : IntKind.wrap .i64 ((((X ++ (P1 ++ [p])).length : Nat) : Int) - 1) = ((X ++ P1).length : Nat) := sW (by omega) (by simp only [List.length_append]; omega)
     have lk : (X ++ P1).length + 1 < ((X ++ P1) ++ p :: x :: (P2 ++ U ++ Y)).length := by simp; omega
     refine V.p16 fun _ => ⟨fun h => ?_, fun h => ?_⟩
     ·rw [kp, eD, k1, Int.toNat_natCast, Int.toNat_natCast, ints_length]
      have g0 : ((X ++ P1) ++ p :: x :: (P2 ++ U ++ Y)).getD (X ++ P1).length 0 = p := get_mid _ _ _ _ rfl
      have g1 : ((X ++ P1) ++ p :: x :: (P2 ++ U ++ Y)).getD ((X ++ P1).length + 1) 0 = x := get_mid2 _ _ _ _ _ rfl
      have GX0 := ints_get (l := (X ++ P1) ++ p :: x :: (P2 ++ U ++ Y)) (i := (X ++ P1).length) (by omega)
      have GX1 := ints_get lk
      refine ⟨by omega, by omega, ints_get lk, by omega, by omega, ints_get (by omega), ?_⟩
      rw [ints_cI, ints_cI, g0, g1]
      rw [ints_cI, g0] at GX0
      rw [ints_cI, g1] at GX1
      refine (hc x p hx hpV).mono ?_
      rintro _ _ _ ⟨rfl, rfl, r, rfl, hr⟩
      refine ⟨rfl, _, _, rfl, rfl, fun h6 => ⟨by omega, by omega, GX0, by omega, by omega, GX1, ?_⟩, fun h6 => ?_⟩
      ·rw [ints_set]
       refine ⟨ints_get (by rw [List.length_set]; omega), ?_⟩
       rw [ints_set, set_swap _ _ _ _ rfl rfl]
       have := ih16 P1 (p :: P2) (by omega) (by rw [h4]; simp) (fun q hq => by
        rcases List.mem_cons.1 hq with rfl | hq
        ·exact (hpx.1.1 (hr.1 h6))
        ·exact h5 q hq)
       simpa using this
      ·have hlt : rk p < rk x := by
        have h7 : ¬ rk x < rk p := fun h7 => by have := hr.2 (hpx.1.2 h7); omega
        have := hpx.2
        omega
       have hs : Sd rk ((P1 ++ [p]) ++ P2) := by rw [← h4]; exact h3
       have := nxt (P1 ++ [p] ++ x :: P2) (by rw [h4]; exact List.perm_middle) (Sd.ins hs (fun q hq => by
        rcases List.mem_append.1 hq with hq | hq
        ·have := hs.left.cross q hq p (by simp)
         omega
        ·obtain rfl := List.mem_singleton.1 hq
         exact hlt) h5)
       simpa using this
     ·exfalso; simp only [List.length_append, List.length_cons, List.length_nil] at h; omega
   refine V.p4 fun _ => ⟨fun h => ?_, fun h => ?_⟩
   ·have := p16 P.length P [] rfl (by simp) (fun q hq => by cases hq)
    simpa using this
   ·exfalso; simp only [List.length_append] at h; omega
 cases S with
 | nil =>
  rw [sW (n := X.length + 1) (by omega) (by omega)]
  refine V.p4 fun _ => ⟨fun h => ?_, fun h => ⟨rfl, [], by simp, rfl, List.Perm.refl _, Sd.nil⟩⟩
  simp only [List.append_nil] at h; omega
 | cons x S =>
  rw [sW (n := (X ++ [x]).length) (by simp) (by simp only [List.length_cons] at hlen; simp; omega)]
  have := p4 S [x] [x] rfl (List.Perm.refl _) (Sd.one x)
  simpa using this
end Go.Ab

namespace Go.Ab
open Go Go.Proofs Stb
set_option linter.unusedVariables false
set_option linter.unusedSimpArgs false
set_option maxRecDepth 100000
set_option maxHeartbeats 1000000
theorem get_in {P B Y : List Int} {k w : Nat} (h : k = P.length + w) (hw : w < B.length) : (P ++ (B ++ Y)).getD k 0 = B.getD w 0 := by
 subst h
 rw [List.getD_eq_getElem?_getD, List.getD_eq_getElem?_getD, List.getElem?_append_right (by omega), Nat.add_sub_cancel_left, List.getElem?_append_left hw]
theorem getD_mem' {l : List Int} {i : Nat} (h : i < l.length) : l.getD i 0 ∈ l := by
 rw [List.getD_eq_getElem?_getD, List.getElem?_eq_getElem h]; exact List.getElem_mem h
def MergeQ (tb : List (List AV)) (rk : Int → Int) (X A B Y : List Int) : Nat → Rs → List Lf → Prop := fun e rs vs => e = 0 ∧ ∃ C, rs = [ints (X ++ C ++ Y)] ∧ vs = [.r tb] ∧ C.Perm (A ++ B) ∧ Sd rk C
theorem Merge1 {tb : List (List AV)} {lt : Int → Int → Bool} {Vd : Int → Prop} {rk : Int → Int} (hc : CmpOk tb lt Vd) {X B Y : List Int} {x : Int} (hx : Vd x) (hV : ∀ b ∈ B, Vd b) (hT : ∀ b ∈ B, Tr rk lt x b) (hB : Sd rk B) (hlen : (X ++ [x] ++ B ++ Y).length < 1099511627776) {EV : Nat → Rs → List Lf → Prop} (V : V25a EV (MergeQ tb rk X [x] B Y)) :
  EV 11 [ints (X ++ [x] ++ B ++ Y)] [.i X.length, .i ((X.length + 1 : Nat) : Int), .i ((X.length + 1 + B.length : Nat) : Int), .r tb] := by
 have hl := hlen
 simp only [List.length_append, List.length_cons, List.length_nil] at hl
 have p30 : ∀ (T R : List Int), T ++ R = B → (∀ p ∈ T, rk p < rk x) → (∀ q ∈ R, rk x < rk q) → ∀ (B2 B1 : List Int), B1 ++ B2 = T → EV 30 [ints (X ++ B1 ++ x :: B2 ++ R ++ Y)] [.i ((X.length + 1 + T.length : Nat) : Int), .i ((X ++ B1).length : Nat), .r tb] := by
  intro T R hTR h1 h2 B2
  have lT := congrArg List.length hTR
  simp only [List.length_append] at lT
  induction B2 with
  | nil =>
   intro B1 h3
   rw [List.append_nil] at h3
   subst h3
   refine V.p30 fun _ => ⟨fun h => ?_, fun h => ⟨rfl, B1 ++ x :: R, by simp, rfl, ?_, Sd.ins (by rw [hTR]; exact hB) h1 h2⟩⟩
   ·rw [sW (n := X.length + B1.length) (by omega) (by omega)] at h
    simp only [List.length_append] at h
    omega
   ·rw [← hTR]; exact List.perm_middle
  | cons q B2 ih =>
   intro B1 h3
   have l3 := congrArg List.length h3
   simp only [List.length_append, List.length_cons] at l3
   have eD : X ++ B1 ++ x :: q :: B2 ++ R ++ Y = (X ++ B1) ++ x :: q :: (B2 ++ R ++ Y) := by simp
   have lD : ((X ++ B1) ++ x :: q :: (B2 ++ R ++ Y)).length < 1099511627776 := by simp only [List.length_append, List.length_cons]; omega
   have kk : IntKind.wrap .i64 ((((X ++ B1).length : Nat) : Int) + 1) = (((X ++ B1).length + 1 : Nat) : Int) := sW (by omega) (by simp only [List.length_append] at *; omega)
   have lk : (X ++ B1).length + 1 < ((X ++ B1) ++ x :: q :: (B2 ++ R ++ Y)).length := by simp only [List.length_append, List.length_cons]; omega
   refine V.p30 fun _ => ⟨fun h => ?_, fun h => ?_⟩
   ·rw [kk, eD, Int.toNat_natCast, Int.toNat_natCast, ints_length]
    have GX0 := ints_get (l := (X ++ B1) ++ x :: q :: (B2 ++ R ++ Y)) (i := (X ++ B1).length) (by omega)
    have GX1 := ints_get lk
    refine ⟨by omega, by omega, GX1, by omega, by omega, GX0, ?_⟩
    rw [ints_cI, ints_cI, get_mid _ _ _ _ rfl, get_mid2 _ _ _ _ _ rfl, ints_set]
    refine ⟨ints_get (by rw [List.length_set]; omega), ?_⟩
    rw [ints_set, set_swap' _ _ _ _ rfl rfl]
    have := ih (B1 ++ [q]) (by simpa using h3)
    have e2 : (X ++ (B1 ++ [q])).length = (X ++ B1).length + 1 := by simp; omega
    rw [e2] at this
    simpa using this
   ·rw [sW (n := X.length + T.length) (by omega) (by omega)] at h
    simp only [List.length_append] at h
    omega
 have p11 : ∀ (d u v : Nat), v - u < d → u ≤ v → v ≤ B.length → (∀ k < u, rk (B.getD k 0) < rk x) → (∀ k, v ≤ k → k < B.length → rk x < rk (B.getD k 0)) → EV 11 [ints (X ++ [x] ++ B ++ Y)] [.i X.length, .i ((X.length + 1 + u : Nat) : Int), .i ((X.length + 1 + v : Nat) : Int), .r tb] := by
  intro d
  induction d with
  | zero => intro u v hd; omega
  | succ d ih =>
   intro u v hd huv hvB h1 h2
   refine V.p11 fun _ => ⟨fun hlt => ?_, fun hge => ?_⟩
   ·have hw : (u + v) / 2 < B.length := by omega
    have ek : (X.length + 1 + u + (X.length + 1 + v)) / 2 = (X ++ [x]).length + (u + v) / 2 := by simp only [List.length_append, List.length_cons, List.length_nil]; omega
    have eD : X ++ [x] ++ B ++ Y = (X ++ [x]) ++ (B ++ Y) := by simp
    have eD2 : (X ++ [x]) ++ (B ++ Y) = X ++ x :: (B ++ Y) := by simp
    have lD : ((X ++ [x]) ++ (B ++ Y)).length = X.length + 1 + B.length + Y.length := by simp only [List.length_append, List.length_cons, List.length_nil]; omega
    have lX : (X ++ [x]).length = X.length + 1 := by simp
    rw [sHalf rfl rfl (by omega) (by omega), ek, eD, Int.toNat_natCast, Int.toNat_natCast, ints_length]
    have gB : ((X ++ [x]) ++ (B ++ Y)).getD ((X ++ [x]).length + (u + v) / 2) 0 = B.getD ((u + v) / 2) 0 := get_in rfl hw
    have gx : ((X ++ [x]) ++ (B ++ Y)).getD X.length 0 = x := by rw [eD2]; exact get_mid _ _ _ _ rfl
    refine ⟨by omega, by omega, by omega, ints_get (by omega), by omega, by omega, ints_get (by omega), ?_⟩
    rw [ints_cI, ints_cI, gB, gx]
    have hm := getD_mem' hw
    have ht := hT _ hm
    refine (hc _ _ (hV _ hm) hx).mono ?_
    rintro _ _ _ ⟨rfl, rfl, r, rfl, hr⟩
    refine ⟨rfl, _, _, rfl, rfl, fun h6 => ?_, fun h6 => ?_⟩
    ·rw [sW (n := X.length + 1 + ((u + v) / 2 + 1)) (by omega) (by omega), ← eD]
     refine ih _ _ (by omega) (by omega) hvB (fun k hk => ?_) h2
     have e1 := hB.leD (i := k) (j := (u + v) / 2) (by omega) hw 0
     have e2 := ht.1.1 (hr.1 h6)
     omega
    ·rw [lX, ← eD]
     refine ih _ _ (by omega) (by omega) (by omega) h1 (fun k hk hkB => ?_)
     have e1 := hB.leD (i := (u + v) / 2) (j := k) (by omega) hkB 0
     have e2 : ¬ rk (B.getD ((u + v) / 2) 0) < rk x := fun h7 => by have := hr.2 (ht.1.2 h7); omega
     have e3 := ht.2
     omega
   ·have e : v = u := by omega
    subst e
    have := p30 (B.take v) (B.drop v) (List.take_append_drop _ _) (fun p hp => by obtain ⟨i, i1, i2, rfl⟩ := mem_take_getD hp 0; exact h1 i i1) (fun q hq => by obtain ⟨i, i1, i2, rfl⟩ := mem_drop_getD hq 0; exact h2 i i1 i2) (B.take v) [] rfl
    rw [List.length_take, Nat.min_eq_left hvB] at this
    simpa using this
 exact p11 _ 0 B.length (Nat.lt_succ_self _) (by omega) (Nat.le_refl _) (fun k hk => by omega) (fun k h1 h2 => by omega)
theorem Merge2 {tb : List (List AV)} {lt : Int → Int → Bool} {Vd : Int → Prop} {rk : Int → Int} (hc : CmpOk tb lt Vd) {X A Y : List Int} {x : Int} (hx : Vd x) (hV : ∀ b ∈ A, Vd b) (hT : ∀ b ∈ A, Tr rk lt b x) (hA : Sd rk A) (hlen : (X ++ A ++ [x] ++ Y).length < 1099511627776) {EV : Nat → Rs → List Lf → Prop} (V : V25a EV (MergeQ tb rk X A [x] Y)) :
  EV 53 [ints (X ++ A ++ [x] ++ Y)] [.i ((X.length + A.length : Nat) : Int), .i X.length, .i ((X.length + A.length : Nat) : Int), .r tb] := by
 have hl := hlen
 simp only [List.length_append, List.length_cons, List.length_nil] at hl
 have p72 : ∀ (T R : List Int), T ++ R = A → (∀ p ∈ T, rk p < rk x) → (∀ q ∈ R, rk x < rk q) → ∀ (n : Nat) (R1 R2 : List Int), R1.length = n → R1 ++ R2 = R → EV 72 [ints (X ++ T ++ R1 ++ x :: R2 ++ Y)] [.i ((X.length + T.length : Nat) : Int), .i ((X ++ T ++ R1).length : Nat), .r tb] := by
  intro T R hTR h1 h2 n
  have lT := congrArg List.length hTR
  simp only [List.length_append] at lT
  induction n with
  | zero =>
   intro R1 R2 hn h3
   have : R1 = [] := List.eq_nil_of_length_eq_zero hn
   subst this
   rw [List.nil_append] at h3
   subst h3
   refine V.p72 fun _ => ⟨fun h => ?_, fun h => ⟨rfl, T ++ x :: R2, by simp, rfl, ?_, Sd.ins (by rw [hTR]; exact hA) h1 h2⟩⟩
   ·simp only [List.length_append, List.length_nil] at h; omega
   ·rw [← hTR]; exact List.perm_middle.trans (List.perm_append_singleton x _).symm
  | succ n ih =>
   intro R1 R2 hn h3
   obtain ⟨R1, p, rfl⟩ : ∃ R1' p, R1 = R1' ++ [p] := by
    rcases List.eq_nil_or_concat R1 with rfl | ⟨P1', p, h⟩
    ·simp at hn
    ·exact ⟨P1', p, by simpa using h⟩
   have l3 := congrArg List.length h3
   simp only [List.length_append, List.length_cons, List.length_nil] at l3 hn
   have eD : X ++ T ++ (R1 ++ [p]) ++ x :: R2 ++ Y = (X ++ T ++ R1) ++ p :: x :: (R2 ++ Y) := by simp
   have k1 : (X ++ T ++ (R1 ++ [p])).length = (X ++ T ++ R1).length + 1 := by simp; omega
   have lD : ((X ++ T ++ R1) ++ p :: x :: (R2 ++ Y)).length < 1099511627776 := by simp only [List.length_append, List.length_cons]; omega
   have lk : (X ++ T ++ R1).length + 1 < ((X ++ T ++ R1) ++ p :: x :: (R2 ++ Y)).length := by simp only [List.length_append, List.length_cons]; omega
   have kp : IntKind.wrap .i64 ((((X ++ T ++ R1).length + 1 : Nat) : Int) - 1) = ((X ++ T ++ R1).length : Nat) := sW (by omega) (by omega)
   refine V.p72 fun _ => ⟨fun h => ?_, fun h => ?_⟩
   ·rw [k1, kp, eD, Int.toNat_natCast, Int.toNat_natCast, ints_length]
    have GX0 := ints_get (l := (X ++ T ++ R1) ++ p :: x :: (R2 ++ Y)) (i := (X ++ T ++ R1).length) (by omega)
    have GX1 := ints_get lk
    refine ⟨by omega, by omega, GX0, by omega, by omega, GX1, ?_⟩
    rw [ints_cI, ints_cI, get_mid _ _ _ _ rfl, get_mid2 _ _ _ _ _ rfl, ints_set]
    refine ⟨ints_get (by rw [List.length_set]; omega), ?_⟩
    rw [ints_set, set_swap _ _ _ _ rfl rfl]
    have := ih R1 (p :: R2) (by omega) (by simpa using h3)
    simpa using this
   ·simp only [List.length_append, List.length_cons, List.length_nil] at h; omega
 have p53 : ∀ (d u v : Nat), v - u < d → u ≤ v → v ≤ A.length → (∀ k < u, rk (A.getD k 0) < rk x) → (∀ k, v ≤ k → k < A.length → rk x < rk (A.getD k 0)) → EV 53 [ints (X ++ A ++ [x] ++ Y)] [.i ((X.length + A.length : Nat) : Int), .i ((X.length + u : Nat) : Int), .i ((X.length + v : Nat) : Int), .r tb] := by
  intro d
  induction d with
  | zero => intro u v hd; omega
  | succ d ih =>
   intro u v hd huv hvA h1 h2
   refine V.p53 fun _ => ⟨fun hlt => ?_, fun hge => ?_⟩
   ·have hw : (u + v) / 2 < A.length := by omega
    have ek : (X.length + u + (X.length + v)) / 2 = X.length + (u + v) / 2 := by omega
    have eD : X ++ A ++ [x] ++ Y = X ++ (A ++ ([x] ++ Y)) := by simp
    have eD2 : X ++ (A ++ ([x] ++ Y)) = (X ++ A) ++ x :: Y := by simp
    have lD : (X ++ (A ++ ([x] ++ Y))).length = X.length + A.length + 1 + Y.length := by simp only [List.length_append, List.length_cons, List.length_nil]; omega
    rw [sHalf rfl rfl (by omega) (by omega), ek, eD, Int.toNat_natCast, Int.toNat_natCast, ints_length]
    have gA : (X ++ (A ++ ([x] ++ Y))).getD (X.length + (u + v) / 2) 0 = A.getD ((u + v) / 2) 0 := get_in rfl hw
    have gx : (X ++ (A ++ ([x] ++ Y))).getD (X.length + A.length) 0 = x := by rw [eD2]; exact get_mid _ _ _ _ (by simp)
    refine ⟨by omega, by omega, by omega, ints_get (by omega), by omega, by omega, ints_get (by omega), ?_⟩
    rw [ints_cI, ints_cI, gA, gx]
    have hm := getD_mem' hw
    have ht := hT _ hm
    refine (hc _ _ hx (hV _ hm)).mono ?_
    rintro _ _ _ ⟨rfl, rfl, r, rfl, hr⟩
    refine ⟨rfl, _, _, rfl, rfl, fun h6 => ?_, fun h6 => ?_⟩
    ·rw [sW (n := X.length + ((u + v) / 2 + 1)) (by omega) (by omega), ← eD]
     refine ih _ _ (by omega) (by omega) hvA (fun k hk => ?_) h2
     have e1 := hA.leD (i := k) (j := (u + v) / 2) (by omega) hw 0
     have e2 : ¬ rk x < rk (A.getD ((u + v) / 2) 0) := fun h7 => by have := hr.2 (ht.1.2 h7); omega
     have e3 := ht.2
     omega
    ·rw [← eD]
     refine ih _ _ (by omega) (by omega) (by omega) h1 (fun k hk hkA => ?_)
     have e1 := hA.leD (i := (u + v) / 2) (j := k) (by omega) hkA 0
     have e2 := ht.1.1 (hr.1 h6)
     omega
   ·have e : v = u := by omega
    subst e
    have := p72 (A.take v) (A.drop v) (List.take_append_drop _ _) (fun p hp => by obtain ⟨i, i1, i2, rfl⟩ := mem_take_getD hp 0; exact h1 i i1) (fun q hq => by obtain ⟨i, i1, i2, rfl⟩ := mem_drop_getD hq 0; exact h2 i i1 i2) _ (A.drop v) [] rfl (by simp)
    have e3 : X ++ A.take v ++ A.drop v = X ++ A := by rw [List.append_assoc, List.take_append_drop]
    rw [e3, List.length_take, Nat.min_eq_left hvA] at this
    simpa using this
 exact p53 _ 0 A.length (Nat.lt_succ_self _) (by omega) (Nat.le_refl _) (fun k hk => by omega) (fun k h1 h2 => by omega)
end Go.Ab
