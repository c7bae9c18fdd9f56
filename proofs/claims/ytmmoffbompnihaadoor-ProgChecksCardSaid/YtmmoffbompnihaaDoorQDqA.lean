import Derived.Test.YtmmoffbompnihaaDoorQVA
import Derived.Test.YtmmoffbompnihaaDoorQPtA
namespace Go.Ab
open Go Go.Proofs
set_option linter.unusedVariables false
set_option linter.unusedSimpArgs false
set_option maxRecDepth 100000
set_option maxHeartbeats 1000000
def inZ (n a b : Int) : Bool := decide (a ≤ n) && decide (n ≤ b)
theorem in161 (n a b : Int) : EC Tryd.prog G76 [] [.i n, .i a, .i b] fun x rs vs => x = 0 ∧ rs = [] ∧ vs = [.b (inZ n a b)] :=
 E76 fun _ V => ⟨fun h => ⟨rfl, rfl, by simp [inZ, show a ≤ n from h]⟩, fun h => ⟨rfl, rfl, by simp [inZ]; omega⟩⟩
theorem getD_get {l : List Int} {k : Nat} (hk : k < l.length) : l.getD k 0 = l[k] := by
 rw [List.getD_eq_getElem?_getD, List.getElem?_eq_getElem hk]; rfl
def loZ (k : Int) : Int := if k = 1 ∨ k = 7 ∨ k = 8 then 1 else 0
def hiZ (nm ng nc nl k : Int) : Int :=
 if k = 1 then 1000 else if k = 2 then 255 else if k = 5 ∨ k = 6 then nl - 1 else if k = 7 ∨ k = 8 then 4096
 else if k = 9 ∨ k = 10 then nm - 1 else if k = 11 ∨ k = 12 ∨ k = 13 then ng - 1 else if k = 14 ∨ k = 15 then nc - 1 else 0
def hbZ (k : Int) : Int := if k = 9 ∨ k = 11 ∨ k = 12 ∨ k = 13 then 255 else 0
def opZ (nm ng nc nl : Int) (o : Op3) : Int :=
 if o.k < 1 ∨ 15 < o.k then 1 else if inZ o.a (loZ o.k) (hiZ nm ng nc nl o.k) && inZ o.b 0 (hbZ o.k) then 0 else 5
theorem kinds_E : EC Tryd.prog G77 [] [] fun x rs vs => x = 0 ∧ rs = [] ∧ ∃ R, vs = [.r R] ∧ R.length = 16 ∧ ∀ i : Nat, i < 16 → R[i]? = some [.str (cSS R i 0), .int .i64 (cIS R i 1)] ∧ (cIS R i 1 < 0 ↔ i = 0) := by
 refine E77 fun _ _ => ⟨rfl, rfl, _, rfl, rfl, fun i hi => ?_⟩
 have : i = 0 ∨ i = 1 ∨ i = 2 ∨ i = 3 ∨ i = 4 ∨ i = 5 ∨ i = 6 ∨ i = 7 ∨ i = 8 ∨ i = 9 ∨ i = 10 ∨ i = 11 ∨ i = 12 ∨ i = 13 ∨ i = 14 ∨ i = 15 := by omega
 rcases this with rfl | rfl | rfl | rfl | rfl | rfl | rfl | rfl | rfl | rfl | rfl | rfl | rfl | rfl | rfl | rfl <;> exact ⟨rfl, by decide⟩
theorem Numbers_E (k : Int) : EC Tryd.prog G37 [] [.i k] fun x rs vs => x = 0 ∧ rs = [] ∧ ∃ n, vs = [.i n] ∧ (n < 0 ↔ k < 1 ∨ 15 < k) := by
 refine E37 fun _ _ => kinds_E.mono ?_
 rintro _ _ _ ⟨rfl, rfl, R, rfl, hl, hR⟩
 refine ⟨rfl, _, rfl, rfl, fun h0 => ⟨fun h1 => ⟨rfl, rfl, _, rfl, by rw [hl] at h1; omega⟩, fun h1 => ?_⟩, fun h0 => ⟨rfl, rfl, _, rfl, by omega⟩⟩
 rw [hl] at h1
 have := hR k.toNat (by omega)
 exact ⟨h0, this.1, rfl, rfl, _, rfl, this.2.trans (by omega)⟩
theorem RNumbers_E (k : Int) : EC Tryd.prog G38 [] [.i k] fun x rs vs => x = 0 ∧ rs = [] ∧ ∃ n, vs = [.i n] ∧ (n < 0 ↔ k < 1 ∨ 15 < k) := by
 refine E38 fun EV V => ?_
 have h35 : EV 35 [] [.i k] := by
  refine V.p35 ⟨fun h => ⟨fun h1 => ⟨rfl, rfl, _, rfl, by omega⟩, fun h1 => ⟨rfl, rfl, _, rfl, by omega⟩⟩, fun h => ⟨rfl, rfl, _, rfl, by omega⟩⟩
 have h30 : ∀ b : Bool, (b = true → 1 ≤ k ∧ k ≤ 15) → EV 30 [] [.i k, .b b] := fun b hb =>
  V.p30 ⟨fun h => ⟨rfl, rfl, _, rfl, by have := hb h; omega⟩, fun h => h35⟩
 have h12 : ∀ b : Bool, (b = true → 1 ≤ k ∧ k ≤ 15) → EV 12 [] [.i k, .i k, .b b] := fun b hb =>
  V.p12 ⟨fun h => ⟨rfl, rfl, _, rfl, by have := hb h; omega⟩, fun h => ⟨fun h1 => h30 _ fun _ => by omega, fun h1 => ⟨fun h2 => h30 _ fun _ => by omega, fun h2 => ⟨fun h3 => h30 _ fun _ => by omega, fun h3 => h30 _ fun h4 => by simp at h4; omega⟩⟩⟩⟩
 exact ⟨fun h => h12 _ fun _ => by omega, fun h => h12 _ fun h4 => by simp at h4; omega⟩
theorem each_E (n : Int) (hn : -1000000 ≤ n ∧ n ≤ 1000000) : EC Tryd.prog G98 [] [.i n] fun x rs vs => x = 0 ∧ rs = [] ∧ vs = [.i 0, .i (n - 1)] :=
 E98 fun _ _ => ⟨rfl, rfl, by rw [wrap64 (by omega) (by omega)]⟩
structure Rm (nm ng nc nl : Int) : Prop where
 m : -1000 ≤ nm ∧ nm ≤ 1000
 g : -1000 ≤ ng ∧ ng ≤ 1000
 c : -1000 ≤ nc ∧ nc ≤ 1000
 l : -1000 ≤ nl ∧ nl ≤ 1000
theorem spans_E {nm ng nc nl : Int} (hr : Rm nm ng nc nl) (k : Int) (hk : 1 ≤ k ∧ k ≤ 15) : EC Tryd.prog G74 [] [.i nm, .i ng, .i nc, .i nl, .i k] fun x rs vs => x = 0 ∧ rs = [] ∧ vs = [.i (loZ k), .i (hiZ nm ng nc nl k), .i 0, .i (hbZ k)] := by
 have hm := hr.m
 have hg := hr.g
 have hc := hr.c
 have hl := hr.l
 refine E74 fun EV V => ?_
 have h60 : ∀ b : Bool, (b = true ↔ k = 14 ∨ k = 15) → k = 3 ∨ k = 4 ∨ k = 14 ∨ k = 15 → EV 60 [] [.b b, .i nm, .i ng, .i nc, .i nl, .i 0, .i 0, .i 0, .i 0] := by
  intro b hb hk'
  refine V.p60 ⟨fun h => ?_, fun h => ?_⟩
  ·refine (each_E nc (by omega)).mono ?_
   rintro _ _ _ ⟨rfl, rfl, rfl⟩
   have hk2 := hb.1 h
   refine ⟨rfl, _, _, rfl, rfl, rfl, rfl, ?_⟩
   rcases hk2 with rfl | rfl <;> simp [loZ, hiZ, hbZ]
  ·have hk2 : ¬ (k = 14 ∨ k = 15) := fun hx => by rw [hb.2 hx] at h; cases h
   refine ⟨rfl, rfl, ?_⟩
   have : k = 3 ∨ k = 4 := by omega
   rcases this with rfl | rfl <;> simp [loZ, hiZ, hbZ]
 have h52 : ∀ b : Bool, (b = true ↔ k = 11 ∨ k = 12 ∨ k = 13) → k = 3 ∨ k = 4 ∨ 11 ≤ k → EV 52 [] [.i k, .b b, .i nm, .i ng, .i nc, .i nl, .i 0, .i 0, .i 0, .i 0, .i 0, .i 255] := by
  intro b hb hk'
  refine V.p52 ⟨fun h => ?_, fun h => ?_⟩
  ·refine (each_E ng (by omega)).mono ?_
   rintro _ _ _ ⟨rfl, rfl, rfl⟩
   have hk2 := hb.1 h
   refine ⟨rfl, _, _, rfl, rfl, rfl, rfl, ?_⟩
   rcases hk2 with rfl | rfl | rfl <;> simp [loZ, hiZ, hbZ]
  ·have hk2 : ¬ (k = 11 ∨ k = 12 ∨ k = 13) := fun hx => by rw [hb.2 hx] at h; cases h
   exact ⟨fun h1 => h60 _ (by simp [h1]) (by omega), fun h1 => h60 _ (by simp [h1]) (by omega)⟩
 have h32 : ∀ b : Bool, (b = true ↔ k = 7 ∨ k = 8) → k = 3 ∨ k = 4 ∨ 7 ≤ k → EV 32 [] [.i k, .b b, .i nm, .i ng, .i nc, .i nl, .i 0, .i 0, .i 0, .i 0, .i 0, .i 255] := by
  intro b hb hk'
  refine V.p32 ⟨fun h => ?_, fun h => ?_⟩
  ·have hk2 := hb.1 h
   refine ⟨rfl, rfl, ?_⟩
   rcases hk2 with rfl | rfl <;> simp [loZ, hiZ, hbZ]
  ·have hk2 : ¬ (k = 7 ∨ k = 8) := fun hx => by rw [hb.2 hx] at h; cases h
   refine ⟨fun h1 => ?_, fun h1 => ⟨fun h2 => ?_, fun h2 => ⟨fun h3 => h52 _ (by simp [h3]) (by omega), fun h3 => ⟨fun h4 => h52 _ (by simp [h4]) (by omega), fun h4 => h52 _ (by simp [h3, h4]) (by omega)⟩⟩⟩⟩
   ·refine (each_E nm (by omega)).mono ?_
    rintro _ _ _ ⟨rfl, rfl, rfl⟩
    exact ⟨rfl, _, _, rfl, rfl, rfl, rfl, by subst h1; simp [loZ, hiZ, hbZ]⟩
   ·refine (each_E nm (by omega)).mono ?_
    rintro _ _ _ ⟨rfl, rfl, rfl⟩
    exact ⟨rfl, _, _, rfl, rfl, rfl, rfl, by subst h2; simp [loZ, hiZ, hbZ]⟩
 have h24 : ∀ b : Bool, (b = true ↔ k = 5 ∨ k = 6) → 3 ≤ k → EV 24 [] [.i k, .b b, .i nm, .i ng, .i nc, .i nl, .i 0, .i 0, .i 0, .i 0, .i 0, .i 255] := by
  intro b hb hk'
  refine V.p24 ⟨fun h => ?_, fun h => ?_⟩
  ·refine (each_E nl (by omega)).mono ?_
   rintro _ _ _ ⟨rfl, rfl, rfl⟩
   have hk2 := hb.1 h
   refine ⟨rfl, _, _, rfl, rfl, rfl, rfl, ?_⟩
   rcases hk2 with rfl | rfl <;> simp [loZ, hiZ, hbZ]
  ·have hk2 : ¬ (k = 5 ∨ k = 6) := fun hx => by rw [hb.2 hx] at h; cases h
   exact ⟨fun h1 => h32 _ (by simp [h1]) (by omega), fun h1 => h32 _ (by simp [h1]) (by omega)⟩
 refine ⟨fun h => ⟨rfl, rfl, by subst h; simp [loZ, hiZ, hbZ]⟩, fun h => ⟨fun h1 => ⟨rfl, rfl, by subst h1; simp [loZ, hiZ, hbZ]⟩, fun h1 => ⟨fun h2 => h24 _ (by simp [h2]) (by omega), fun h2 => h24 _ (by simp [h2]) (by omega)⟩⟩⟩
theorem has_E (a b n : Int) : EC Tryd.prog G75 [] [.i a, .i b, .i n] fun x rs vs => x = 0 ∧ rs = [] ∧ vs = [.b (inZ n a b)] :=
 E75 fun _ V => ⟨fun h => ⟨rfl, rfl, by simp [inZ, show a ≤ n from h]⟩, fun h => ⟨rfl, rfl, by simp [inZ]; omega⟩⟩
theorem Op_E {nm ng nc nl : Int} (hr : Rm nm ng nc nl) (o : Op3) : EC Tryd.prog G35 [] [.i o.k, .i o.a, .i o.b, .i nm, .i ng, .i nc, .i nl] fun x rs vs => x = 0 ∧ rs = [] ∧ vs = [.i (opZ nm ng nc nl o)] := by
 refine E35 fun _ _ => (Numbers_E o.k).mono ?_
 rintro _ _ _ ⟨rfl, rfl, n, rfl, hn⟩
 refine ⟨rfl, _, rfl, rfl, fun h => ⟨rfl, rfl, ?_⟩, fun h => ?_⟩
 ·rw [opZ, if_pos (hn.1 h)]
 ·have hk : ¬ (o.k < 1 ∨ 15 < o.k) := fun hx => by have := hn.2 hx; omega
  refine (spans_E hr o.k (by omega)).mono ?_
  rintro _ _ _ ⟨rfl, rfl, rfl⟩
  refine ⟨rfl, _, _, _, _, rfl, rfl, (has_E _ _ _).mono ?_⟩
  rintro _ _ _ ⟨rfl, rfl, rfl⟩
  refine ⟨rfl, _, rfl, rfl, fun h1 => (has_E _ _ _).mono ?_, fun h1 => ⟨rfl, rfl, ?_⟩⟩
  ·rintro _ _ _ ⟨rfl, rfl, rfl⟩
   refine ⟨rfl, _, rfl, rfl, fun h2 => ⟨rfl, rfl, ?_⟩, fun h2 => ⟨rfl, rfl, ?_⟩⟩ <;> simp [opZ, hk, h1, h2]
  ·simp [opZ, hk, h1]
theorem ROp_E {nm ng nc nl : Int} (hr : Rm nm ng nc nl) (o : Op3) : EC Tryd.prog G36 [] [.i o.k, .i o.a, .i o.b, .i nm, .i ng, .i nc, .i nl] fun x rs vs => x = 0 ∧ rs = [] ∧ vs = [.i (opZ nm ng nc nl o)] := by
 have hm := hr.m
 have hg := hr.g
 have hc := hr.c
 have hl := hr.l
 refine E36 fun EV V => (RNumbers_E o.k).mono ?_
 rintro _ _ _ ⟨rfl, rfl, n, rfl, hn⟩
 refine ⟨rfl, _, rfl, rfl, fun h => ⟨rfl, rfl, by rw [opZ, if_pos (hn.1 h)]⟩, fun h => ?_⟩
 have hk : ¬ (o.k < 1 ∨ 15 < o.k) := fun hx => by have := hn.2 hx; omega
 have h77 : ∀ a b : Bool, a = inZ o.a (loZ o.k) (hiZ nm ng nc nl o.k) → b = inZ o.b 0 (hbZ o.k) → EV 77 [] [.b a, .b b] := by
  intro a b ha hb
  refine V.p77 ⟨fun h1 => ⟨fun h2 => ⟨rfl, rfl, ?_⟩, fun h2 => ⟨rfl, rfl, ?_⟩⟩, fun h1 => ⟨rfl, rfl, ?_⟩⟩
  ·simp [opZ, hk, ← ha, ← hb, h1, h2]
  ·simp [opZ, hk, ← ha, ← hb, h1, h2]
  ·simp [opZ, hk, ← ha, h1]
 have b0 : hbZ o.k = 0 → (o.b == 0) = inZ o.b 0 (hbZ o.k) := by
  intro h0
  rw [h0]
  by_cases h : o.b = 0
  ·simp [inZ, h]
  ·have e : (o.b == 0) = false := by simp [h]
   rw [e]
   by_cases h1 : 0 ≤ o.b
   ·have : ¬ o.b ≤ 0 := by omega
    simp [inZ, this]
   ·simp [inZ, h1]
 have h74 : ∀ b : Bool, (b = true ↔ o.k = 14 ∨ o.k = 15) → o.k = 14 ∨ o.k = 15 → EV 74 [] [.i nc, .b (o.b == 0), .b b, .i o.k, .i o.a, .i o.b] := by
  intro b hb hk2
  refine V.p74 ⟨fun h1 => (in161 _ _ _).mono ?_, fun h1 => by rw [hb.2 hk2] at h1; cases h1⟩
  rintro _ _ _ ⟨rfl, rfl, rfl⟩
  refine ⟨rfl, _, rfl, rfl, h77 _ _ ?_ (b0 ?_)⟩
  ·rw [wrap64 (by omega) (by omega)]
   rcases hk2 with e | e <;> simp [loZ, hiZ, e]
  ·rcases hk2 with e | e <;> simp [hbZ, e]
 have h66 : ∀ b : Bool, (b = true ↔ o.k = 11 ∨ o.k = 12 ∨ o.k = 13) → 11 ≤ o.k → EV 66 [] [.i ng, .i nc, .b (o.b == 0), .i o.k, .b b, .i o.k, .i o.a, .i o.b] := by
  intro b hb hk2
  refine V.p66 ⟨fun h1 => (in161 _ _ _).mono ?_, fun h1 => ?_⟩
  ·rintro _ _ _ ⟨rfl, rfl, rfl⟩
   refine ⟨rfl, _, rfl, rfl, (in161 _ _ _).mono ?_⟩
   rintro _ _ _ ⟨rfl, rfl, rfl⟩
   refine ⟨rfl, _, rfl, rfl, h77 _ _ ?_ ?_⟩
   ·rw [wrap64 (by omega) (by omega)]
    rcases hb.1 h1 with e | e | e <;> simp [loZ, hiZ, e]
   ·rcases hb.1 h1 with e | e | e <;> simp [hbZ, e]
  ·have hk3 : ¬ (o.k = 11 ∨ o.k = 12 ∨ o.k = 13) := fun hx => by rw [hb.2 hx] at h1; cases h1
   exact ⟨fun h2 => h74 _ (by simp [h2]) (by omega), fun h2 => h74 _ (by simp [h2]) (by omega)⟩
 have h46 : ∀ b : Bool, (b = true ↔ o.k = 7 ∨ o.k = 8) → 7 ≤ o.k → EV 46 [] [.i nm, .i ng, .i nc, .b (o.b == 0), .i o.k, .b b, .i o.k, .i o.a, .i o.b] := by
  intro b hb hk2
  refine V.p46 ⟨fun h1 => (in161 _ _ _).mono ?_, fun h1 => ?_⟩
  ·rintro _ _ _ ⟨rfl, rfl, rfl⟩
   refine ⟨rfl, _, rfl, rfl, h77 _ _ ?_ (b0 ?_)⟩
   ·rcases hb.1 h1 with e | e <;> simp [loZ, hiZ, e]
   ·rcases hb.1 h1 with e | e <;> simp [hbZ, e]
  ·have hk3 : ¬ (o.k = 7 ∨ o.k = 8) := fun hx => by rw [hb.2 hx] at h1; cases h1
   refine ⟨fun h2 => (in161 _ _ _).mono ?_, fun h2 => ⟨fun h3 => (in161 _ _ _).mono ?_, fun h3 => ⟨fun h4 => h66 _ (by simp [h4]) (by omega), fun h4 => ⟨fun h5 => h66 _ (by simp [h5]) (by omega), fun h5 => h66 _ (by simp [h4, h5]) (by omega)⟩⟩⟩⟩
   ·rintro _ _ _ ⟨rfl, rfl, rfl⟩
    refine ⟨rfl, _, rfl, rfl, (in161 _ _ _).mono ?_⟩
    rintro _ _ _ ⟨rfl, rfl, rfl⟩
    refine ⟨rfl, _, rfl, rfl, h77 _ _ ?_ ?_⟩
    ·rw [wrap64 (by omega) (by omega)]
     simp [loZ, hiZ, h2]
    ·simp [hbZ, h2]
   ·rintro _ _ _ ⟨rfl, rfl, rfl⟩
    refine ⟨rfl, _, rfl, rfl, h77 _ _ ?_ (b0 ?_)⟩
    ·rw [wrap64 (by omega) (by omega)]
     simp [loZ, hiZ, h3]
    ·simp [hbZ, h3]
 have h38 : ∀ b : Bool, (b = true ↔ o.k = 5 ∨ o.k = 6) → 5 ≤ o.k → EV 38 [] [.i nm, .i ng, .i nc, .i nl, .b (o.b == 0), .i o.k, .b b, .i o.k, .i o.a, .i o.b] := by
  intro b hb hk2
  refine V.p38 ⟨fun h1 => (in161 _ _ _).mono ?_, fun h1 => ?_⟩
  ·rintro _ _ _ ⟨rfl, rfl, rfl⟩
   refine ⟨rfl, _, rfl, rfl, h77 _ _ ?_ (b0 ?_)⟩
   ·rw [wrap64 (by omega) (by omega)]
    rcases hb.1 h1 with e | e <;> simp [loZ, hiZ, e]
   ·rcases hb.1 h1 with e | e <;> simp [hbZ, e]
  ·have hk3 : ¬ (o.k = 5 ∨ o.k = 6) := fun hx => by rw [hb.2 hx] at h1; cases h1
   exact ⟨fun h2 => h46 _ (by simp [h2]) (by omega), fun h2 => h46 _ (by simp [h2]) (by omega)⟩
 have h30 : ∀ b : Bool, (b = true ↔ o.k = 3 ∨ o.k = 4) → 3 ≤ o.k → EV 30 [] [.i nm, .i ng, .i nc, .i nl, .b (o.b == 0), .i o.k, .b b, .i o.k, .i o.a, .i o.b] := by
  intro b hb hk2
  refine V.p30 ⟨fun h1 => h77 _ _ ?_ (b0 ?_), fun h1 => ?_⟩
  ·have : loZ o.k = 0 ∧ hiZ nm ng nc nl o.k = 0 := by rcases hb.1 h1 with e | e <;> simp [loZ, hiZ, e]
   rw [this.1, this.2]
   by_cases h : o.a = 0
   ·simp [inZ, h]
   ·have e : (o.a == 0) = false := by simp [h]
    rw [e]
    by_cases h1 : 0 ≤ o.a
    ·have : ¬ o.a ≤ 0 := by omega
     simp [inZ, this]
    ·simp [inZ, h1]
  ·rcases hb.1 h1 with e | e <;> simp [hbZ, e]
  ·have hk3 : ¬ (o.k = 3 ∨ o.k = 4) := fun hx => by rw [hb.2 hx] at h1; cases h1
   exact ⟨fun h2 => h38 _ (by simp [h2]) (by omega), fun h2 => h38 _ (by simp [h2]) (by omega)⟩
 refine ⟨fun h1 => (in161 _ _ _).mono ?_, fun h1 => ⟨fun h2 => (in161 _ _ _).mono ?_, fun h2 => ⟨fun h3 => h30 _ (by simp [h3]) (by omega), fun h3 => h30 _ (by simp [h3]) (by omega)⟩⟩⟩
 ·rintro _ _ _ ⟨rfl, rfl, rfl⟩
  exact ⟨rfl, _, rfl, rfl, h77 _ _ (by simp [loZ, hiZ, h1]) (b0 (by simp [hbZ, h1]))⟩
 ·rintro _ _ _ ⟨rfl, rfl, rfl⟩
  exact ⟨rfl, _, rfl, rfl, h77 _ _ (by simp [loZ, hiZ, h2]) (b0 (by simp [hbZ, h2]))⟩
end Go.Ab
