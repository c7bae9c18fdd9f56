import Derived.Test.YtfbmlpffbjbbfaaQsDEF
namespace Go.Ab
open Go Go.Proofs Stb
set_option linter.unusedVariables false
set_option linter.unusedSimpArgs false
set_option maxRecDepth 100000
set_option maxHeartbeats 1000000
theorem Merge_E {tb : List (List AV)} {lt : Int → Int → Bool} {Vd : Int → Prop} {rk : Int → Int} (hc : CmpOk tb lt Vd) : ∀ (n : Nat) (X A B Y : List Int), A.length + B.length = n → 0 < A.length → 0 < B.length → (∀ x ∈ A ++ B, Vd x) → (∀ y ∈ A, ∀ x ∈ B, Tr rk lt y x) → Sd rk A → Sd rk B → (X ++ A ++ B ++ Y).length < 1099511627776 →
  ∀ {R0 : List (List AV)} {a m b : Int}, R0 = ints (X ++ A ++ B ++ Y) → a = X.length → m = ((X.length + A.length : Nat) : Int) → b = ((X.length + A.length + B.length : Nat) : Int) → EC Try.prog G25a [R0] [.i a, .i m, .i b, .r tb] (MergeQ tb rk X A B Y) := by
 intro n
 induction n using Nat.strongRecOn with
 | ind n IH =>
  intro X A B Y hn hA0 hB0 hV hT hA hB hlen R0 a m b hR ha hm hb
  subst hR ha hm hb
  have hl := hlen
  simp only [List.length_append] at hl
  refine E25a fun _ EV V => ?_
  rw [sW (x := _ - _) (n := A.length) (by omega) (by omega), sW (x := _ - _) (n := B.length) (by omega) (by omega), sHalf (x := (X.length : Int)) (i := X.length) (j := X.length + A.length + B.length) rfl rfl (by omega) (by omega)]
  have hVA : ∀ x ∈ A, Vd x := fun x hx => hV x (List.mem_append.2 (.inl hx))
  have hVB : ∀ x ∈ B, Vd x := fun x hx => hV x (List.mem_append.2 (.inr hx))
  refine ⟨fun h1 => ?_, fun h1 => ⟨fun h2 => ?_, fun h2 => ?_⟩⟩
  ·obtain ⟨x, rfl⟩ : ∃ x, A = [x] := List.length_eq_one_iff.1 (by omega)
   exact Merge1 hc (hVA x (by simp)) hVB (fun b hb => hT x (by simp) b hb) hB hlen V
  ·obtain ⟨x, rfl⟩ : ∃ x, B = [x] := List.length_eq_one_iff.1 (by omega)
   exact Merge2 hc (hVB x (by simp)) hVA (fun b hb => hT b hb x (by simp)) hA hlen V
  ·
   obtain ⟨h, hh, hh1, hh2⟩ : ∃ h : Nat, (X.length + (X.length + A.length + B.length)) / 2 = X.length + h ∧ 2 * h ≤ A.length + B.length ∧ A.length + B.length ≤ 2 * h + 1 := ⟨(A.length + B.length) / 2, by omega, by omega, by omega⟩
   rw [hh]
   have hge : 2 ≤ A.length ∧ 2 ≤ B.length := by omega
   have p105 : ∀ (u0 r0 : Nat), (A.length > h ∧ u0 = h - B.length ∧ r0 = h ∨ A.length ≤ h ∧ u0 = 0 ∧ r0 = A.length) → ∀ (d u r : Nat), r - u < d → u0 ≤ u → u ≤ r → r ≤ r0 → (∀ c, u0 ≤ c → c < u → rk (A.getD c 0) < rk (B.getD (h - 1 - c) 0)) → (∀ c, r ≤ c → c < r0 → rk (B.getD (h - 1 - c) 0) < rk (A.getD c 0)) →
     EV 105 [ints (X ++ A ++ B ++ Y)] [.i X.length, .i ((X.length + A.length : Nat) : Int), .i ((X.length + A.length + B.length : Nat) : Int), .i ((X.length + h : Nat) : Int), .i ((X.length + h + (X.length + A.length) : Nat) : Int), .i ((X.length + u : Nat) : Int), .i ((X.length + r : Nat) : Int), .i ((X.length + h + (X.length + A.length) - 1 : Nat) : Int), .r tb] := by
    intro u0 r0 hc0 d
    induction d with
    | zero => intro u r hd; omega
    | succ d ih =>
     intro u r hd hu hur hr i1 i2
     refine V.p105 fun _ => ⟨fun hlt => ?_, fun hge' => ?_⟩
     ·have hw : (u + r) / 2 < A.length := by omega
      have hw2 : h - 1 - (u + r) / 2 < B.length := by omega
      have ek : (X.length + u + (X.length + r)) / 2 = X.length + (u + r) / 2 := by omega
      rw [sHalf rfl rfl (by omega) (by omega), ek]
      have ep : IntKind.wrap .i64 (((X.length + h + (X.length + A.length) - 1 : Nat) : Int) - ((X.length + (u + r) / 2 : Nat) : Int)) = (((X ++ A).length + (h - 1 - (u + r) / 2) : Nat) : Int) := sW (by rw [List.length_append]; omega) (by rw [List.length_append]; omega)
      rw [ep, Int.toNat_natCast, Int.toNat_natCast, ints_length]
      have eA : X ++ A ++ B ++ Y = X ++ (A ++ (B ++ Y)) := by simp
      have eB : X ++ A ++ B ++ Y = (X ++ A) ++ (B ++ Y) := by simp
      have lXA : (X ++ A).length = X.length + A.length := List.length_append
      have lD : (X ++ A ++ B ++ Y).length = X.length + A.length + B.length + Y.length := by simp only [List.length_append]
      have gA : (X ++ A ++ B ++ Y).getD (X.length + (u + r) / 2) 0 = A.getD ((u + r) / 2) 0 := by rw [eA]; exact get_in rfl hw
      have gB : (X ++ A ++ B ++ Y).getD ((X ++ A).length + (h - 1 - (u + r) / 2)) 0 = B.getD (h - 1 - (u + r) / 2) 0 := by rw [eB]; exact get_in rfl hw2
      refine ⟨by omega, by omega, by omega, ints_get (by omega), by omega, by omega, ints_get (by omega), ?_⟩
      rw [ints_cI, ints_cI, gA, gB]
      have mA := getD_mem' hw
      have mB := getD_mem' hw2
      have ht := hT _ mA _ mB
      refine (hc _ _ (hVB _ mB) (hVA _ mA)).mono ?_
      rintro _ _ _ ⟨rfl, rfl, y, rfl, hy⟩
      refine ⟨rfl, _, _, rfl, rfl, fun h6 => ?_, fun h6 => ?_⟩
      ·rw [sW (n := X.length + ((u + r) / 2 + 1)) (by omega) (by omega)]
       refine ih _ _ (by omega) (by omega) (by omega) hr (fun c c1 c2 => ?_) i2
       have e1 := hA.leD (i := c) (j := (u + r) / 2) (by omega) hw 0
       have e2 := hB.leD (i := h - 1 - (u + r) / 2) (j := h - 1 - c) (by omega) (by omega) 0
       have e3 : ¬ rk (B.getD (h - 1 - (u + r) / 2) 0) < rk (A.getD ((u + r) / 2) 0) := fun h7 => by have := hy.2 (ht.1.2 h7); omega
       have e4 := ht.2
       omega
      ·refine ih _ _ (by omega) (by omega) (by omega) (by omega) i1 (fun c c1 c2 => ?_)
       have e1 := hA.leD (i := (u + r) / 2) (j := c) (by omega) (by omega) 0
       have e2 := hB.leD (i := h - 1 - c) (j := h - 1 - (u + r) / 2) (by omega) (by omega) 0
       have e3 := ht.1.1 (hy.1 h6)
       omega
     ·have e : r = u := by omega
      subst e
      have hrh : r ≤ h := by omega
      have hrA : r ≤ A.length := by omega
      have hvB : h - r ≤ B.length := by omega
      have tA : A.take r ++ A.drop r = A := List.take_append_drop _ _
      have tB : B.take (h - r) ++ B.drop (h - r) = B := List.take_append_drop _ _
      have l1 : (A.take r).length = r := by rw [List.length_take]; omega
      have l2 : (A.drop r).length = A.length - r := List.length_drop
      have l3 : (B.take (h - r)).length = h - r := by rw [List.length_take]; omega
      have l4 : (B.drop (h - r)).length = B.length - (h - r) := List.length_drop
      have jn := @Sd.join Int rk A B hA hB r (h - r) hrA hvB 0 (fun a1 a2 => by
       have := i1 (r - 1) (by omega) (by omega)
       rwa [show h - 1 - (r - 1) = h - r from by omega] at this) (fun a1 a2 => by
       have := i2 r (by omega) (by omega)
       rwa [show h - 1 - r = h - r - 1 from by omega] at this)
      have een : IntKind.wrap .i64 (((X.length + h + (X.length + A.length) : Nat) : Int) - ((X.length + r : Nat) : Int)) = ((X.length + A.length + (h - r) : Nat) : Int) := sW (by omega) (by omega)
      rw [een]
      have p133 : ∀ C1 : List Int, C1.Perm (A.take r ++ B.take (h - r)) → Sd rk C1 → EV 133 [ints (X ++ C1 ++ A.drop r ++ B.drop (h - r) ++ Y)] [.i ((X.length + A.length + B.length : Nat) : Int), .i ((X.length + h : Nat) : Int), .i ((X.length + A.length + (h - r) : Nat) : Int), .r tb] := by
       intro C1 q1 q2
       have lC := q1.length_eq
       rw [List.length_append] at lC
       have fin : ∀ C2 : List Int, C2.Perm (A.drop r ++ B.drop (h - r)) → Sd rk C2 → MergeQ tb rk X A B Y 0 [ints (X ++ C1 ++ C2 ++ Y)] [Lf.r tb] := fun C2 q3 q4 => by
        obtain ⟨z1, z2⟩ := jn q2 q1 q4 q3
        exact ⟨rfl, C1 ++ C2, by simp, rfl, z2, z1⟩
       have none : A.drop r = [] ∨ B.drop (h - r) = [] → MergeQ tb rk X A B Y 0 [ints (X ++ C1 ++ A.drop r ++ B.drop (h - r) ++ Y)] [Lf.r tb] := fun hz => by
        have := fin (A.drop r ++ B.drop (h - r)) (List.Perm.refl _) (by
         rcases hz with hz | hz
         ·rw [hz, List.nil_append]; exact hB.drop _
         ·rw [hz, List.append_nil]; exact hA.drop _)
        simpa using this
       refine V.p133 fun _ => ⟨fun a1 => ⟨fun a2 => ?_, fun a2 => none (.inr (List.eq_nil_of_length_eq_zero (by omega)))⟩, fun a1 => none (.inl (List.eq_nil_of_length_eq_zero (by omega)))⟩
       refine (IH (A.length + B.length - h) (by omega) (X ++ C1) (A.drop r) (B.drop (h - r)) Y (by omega) (by omega) (by omega) (fun x hx => ?_) (fun y hy x hx => hT y (List.mem_of_mem_drop hy) x (List.mem_of_mem_drop hx)) (hA.drop _) (hB.drop _) (by simp only [List.length_append]; omega) rfl (by rw [List.length_append]; omega) (by rw [List.length_append]; omega) (by rw [List.length_append]; omega)).mono ?_
       ·rcases List.mem_append.1 hx with hx | hx
        ·exact hVA x (List.mem_of_mem_drop hx)
        ·exact hVB x (List.mem_of_mem_drop hx)
       rintro _ _ _ ⟨rfl, C2, rfl, rfl, q3, q4⟩
       exact ⟨rfl, _, _, rfl, rfl, fin C2 q3 q4⟩
      have p127 : EV 127 [ints (X ++ A.take r ++ B.take (h - r) ++ A.drop r ++ B.drop (h - r) ++ Y)] [.i X.length, .i ((X.length + A.length + B.length : Nat) : Int), .i ((X.length + h : Nat) : Int), .i ((X.length + r : Nat) : Int), .i ((X.length + A.length + (h - r) : Nat) : Int), .r tb] := by
       have none : A.take r = [] ∨ B.take (h - r) = [] → EV 133 [ints (X ++ A.take r ++ B.take (h - r) ++ A.drop r ++ B.drop (h - r) ++ Y)] [.i ((X.length + A.length + B.length : Nat) : Int), .i ((X.length + h : Nat) : Int), .i ((X.length + A.length + (h - r) : Nat) : Int), .r tb] := fun hz => by
        have := p133 (A.take r ++ B.take (h - r)) (List.Perm.refl _) (by
         rcases hz with hz | hz
         ·rw [hz, List.nil_append]; exact hB.take _
         ·rw [hz, List.append_nil]; exact hA.take _)
        simpa only [List.append_assoc] using this
       refine V.p127 fun _ => ⟨fun a1 => ⟨fun a2 => ?_, fun a2 => none (.inr (List.eq_nil_of_length_eq_zero (by omega)))⟩, fun a1 => none (.inl (List.eq_nil_of_length_eq_zero (by omega)))⟩
       refine (IH h (by omega) X (A.take r) (B.take (h - r)) (A.drop r ++ B.drop (h - r) ++ Y) (by omega) (by omega) (by omega) (fun x hx => ?_) (fun y hy x hx => hT y (List.mem_of_mem_take hy) x (List.mem_of_mem_take hx)) (hA.take _) (hB.take _) (by simp only [List.length_append]; omega) (by simp) rfl (by omega) (by omega)).mono ?_
       ·rcases List.mem_append.1 hx with hx | hx
        ·exact hVA x (List.mem_of_mem_take hx)
        ·exact hVB x (List.mem_of_mem_take hx)
       rintro _ _ _ ⟨rfl, C1, rfl, rfl, q3, q4⟩
       have lC := q3.length_eq
       rw [List.length_append] at lC
       refine ⟨rfl, _, _, rfl, rfl, by simp only [ints_length, List.length_append]; omega, ?_⟩
       have := p133 C1 q3 q4
       simpa only [List.append_assoc] using this
      have same : A.drop r = [] ∨ B.take (h - r) = [] → EV 127 [ints (X ++ A ++ B ++ Y)] [.i X.length, .i ((X.length + A.length + B.length : Nat) : Int), .i ((X.length + h : Nat) : Int), .i ((X.length + r : Nat) : Int), .i ((X.length + A.length + (h - r) : Nat) : Int), .r tb] := fun hz => by
       have e : X ++ A ++ B ++ Y = X ++ A.take r ++ B.take (h - r) ++ A.drop r ++ B.drop (h - r) ++ Y := by
        have : A ++ B = A.take r ++ (B.take (h - r) ++ (A.drop r ++ B.drop (h - r))) := by
         rcases hz with hz | hz
         ·rw [hz, List.nil_append, tB]; rw [hz, List.append_nil] at tA; rw [tA]
         ·rw [hz, List.nil_append, ← List.append_assoc, tA]; rw [hz, List.nil_append] at tB; rw [tB]
        rw [List.append_assoc X A B, this]
        simp only [List.append_assoc]
       rw [e]; exact p127
      refine ⟨fun a1 => ⟨fun a2 => ?_, fun a2 => same (.inr (List.eq_nil_of_length_eq_zero (by omega)))⟩, fun a1 => same (.inl (List.eq_nil_of_length_eq_zero (by omega)))⟩
      have e : X ++ A ++ B ++ Y = (X ++ A.take r) ++ A.drop r ++ B.take (h - r) ++ (B.drop (h - r) ++ Y) := by
       have : A ++ B = A.take r ++ (A.drop r ++ (B.take (h - r) ++ B.drop (h - r))) := by rw [tB, ← List.append_assoc, tA]
       rw [List.append_assoc X A B, this]
       simp only [List.append_assoc]
      refine (Turn_E tb (X ++ A.take r) (A.drop r) (B.take (h - r)) (B.drop (h - r) ++ Y) (by omega) (by omega) (by rw [← e]; exact hlen) (by rw [e]) (by rw [List.length_append]; omega) (by simp only [List.length_append]; omega) (by simp only [List.length_append]; omega)).mono ?_
      rintro _ _ _ ⟨rfl, rfl, rfl⟩
      refine ⟨rfl, _, _, rfl, rfl, by simp only [ints_length, List.length_append]; omega, ?_⟩
      simpa only [List.append_assoc] using p127
   have en : IntKind.wrap .i64 (((X.length + h : Nat) : Int) + ((X.length + A.length : Nat) : Int)) = ((X.length + h + (X.length + A.length) : Nat) : Int) := sW (by omega) (by omega)
   have ep : IntKind.wrap .i64 (((X.length + h + (X.length + A.length) : Nat) : Int) - 1) = ((X.length + h + (X.length + A.length) - 1 : Nat) : Int) := sW (by omega) (by omega)
   rw [en]
   refine ⟨by omega, fun h3 => ?_, fun h3 => ?_⟩
   ·rw [sW (n := X.length + (h - B.length)) (by omega) (by omega)]
    refine V.p100 fun _ => ?_
    rw [ep]
    exact p105 (h - B.length) h (.inl ⟨by omega, rfl, rfl⟩) _ _ _ (Nat.lt_succ_self _) (by omega) (by omega) (by omega) (fun c c1 c2 => by omega) (fun c c1 c2 => by omega)
   ·refine V.p100 fun _ => ?_
    rw [ep]
    exact p105 0 A.length (.inr ⟨by omega, rfl, rfl⟩) _ 0 A.length (Nat.lt_succ_self _) (by omega) (by omega) (by omega) (fun c c1 c2 => by omega) (fun c c1 c2 => by omega)
end Go.Ab

namespace Go.Ab
open Go Go.Proofs Stb
set_option linter.unusedVariables false
set_option linter.unusedSimpArgs false
set_option maxRecDepth 100000
set_option maxHeartbeats 1000000
theorem tdV {lt : Int → Int → Bool} {rk : Int → Int} {l : List Int} (hl : ∀ a ∈ l, ∀ b ∈ l, lt a b = true → rk a < rk b) (h : Sd rk l) : Td rk lt l :=
 List.Pairwise.imp_of_mem (fun {a b} ha hb hab => ⟨⟨hl b hb a ha, fun h => by omega⟩, by omega⟩) h
def SortQ (tb : List (List AV)) (rk : Int → Int) (S : List Int) : Nat → Rs → List Lf → Prop := fun e rs vs => e = 0 ∧ ∃ C, rs = [ints C] ∧ vs = [.r tb] ∧ C.Perm S ∧ Sd rk C
theorem Stable_E {tb : List (List AV)} {lt : Int → Int → Bool} {Vd : Int → Prop} {rk : Int → Int} (hc : CmpOk tb lt Vd) (hlt : ∀ a b, Vd a → Vd b → lt a b = true → rk a < rk b) (S : List Int) (hV : ∀ x ∈ S, Vd x) (hT : Td rk lt S) (hlen : S.length < 1099511627776) :
  EC Try.prog G21a [ints S] [.i S.length, .r tb] (SortQ tb rk S) := by
 refine E21a fun _ EV V => ?_
 have seg : ∀ {X M C Y : List Int}, (X ++ M ++ Y).Perm S → Td rk lt (X ++ M ++ Y) → C.Perm M → Sd rk C → (X ++ C ++ Y).Perm S ∧ Td rk lt (X ++ C ++ Y) := fun {X M C Y} h1 h2 h3 h4 => by
  refine ⟨(List.Perm.append_right Y (List.Perm.append_left X h3)).trans h1, h2.seg h3 (tdV (fun a ha b hb => hlt a b (hV a ?_) (hV b ?_)) h4)⟩
  ·exact h1.mem_iff.1 (List.mem_append.2 (.inl (List.mem_append.2 (.inr (h3.mem_iff.1 ha)))))
  ·exact h1.mem_iff.1 (List.mem_append.2 (.inl (List.mem_append.2 (.inr (h3.mem_iff.1 hb)))))
 have hVd : ∀ {X M Y : List Int}, (X ++ M ++ Y).Perm S → ∀ x ∈ M, Vd x := fun {X M Y} h x hx => hV x (h.mem_iff.1 (List.mem_append.2 (.inl (List.mem_append.2 (.inr hx)))))
 have p23 : ∀ (d k : Nat) (L : List Int), S.length - k < d → 0 < k → k < 2199023255552 → L.Perm S → Td rk lt L → Bs rk k L → EV 23 [ints L] [.i S.length, .i k, .r tb] := by
  intro d
  induction d with
  | zero => intro k L hd; omega
  | succ d ih =>
   intro k L hd hk hk2 hp ht hb
   have hlL := hp.length_eq
   refine V.p23 fun _ => ⟨fun h => ?_, fun h => ⟨rfl, L, rfl, rfl, hp, hb.all (by omega)⟩⟩
   have ek : IntKind.wrap .i64 ((2 : Int) * k) = ((2 * k : Nat) : Int) := sW (by omega) (by omega)
   have ek2 : IntKind.wrap .i64 ((k : Int) * 2) = ((2 * k : Nat) : Int) := sW (by omega) (by omega)
   have p35 : ∀ (e t : Nat) (P R : List Int), R.length < e → P.length = t * (2 * k) → (P ++ R).Perm S → Td rk lt (P ++ R) → Bs rk (2 * k) P → Bs rk k R → EV 35 [ints (P ++ R)] [.i S.length, .i k, .i P.length, .i ((P.length + 2 * k : Nat) : Int), .r tb] := by
    intro e
    induction e with
    | zero => intro t P R he; omega
    | succ e ihe =>
     intro t P R he hP hp ht h1 h2
     have hl := hp.length_eq
     rw [List.length_append] at hl
     have em : IntKind.wrap .i64 ((P.length : Int) + k) = ((P.length + k : Nat) : Int) := sW (by omega) (by omega)
     have next : ∀ C : List Int, C.length ≤ 2 * k → (P ++ C).Perm S → Td rk lt (P ++ C) → Sd rk C → EV 23 [ints (P ++ C)] [.i S.length, .i (IntKind.wrap .i64 ((k : Int) * 2)), .r tb] := fun C c1 c2 c3 c4 => by
      rw [ek2]
      exact ih (2 * k) (P ++ C) (by omega) (by omega) (by omega) c2 c3 (Bs.app hP h1 (Bs.one c4))
     refine V.p35 fun _ => ⟨fun h3 => ?_, fun h3 => ⟨fun h4 => ?_, fun h4 => ?_⟩⟩
     ·have eR : R = R.take k ++ (R.drop k).take k ++ (R.drop k).drop k := by rw [List.append_assoc, List.take_append_drop, List.take_append_drop]
      have l1 : (R.take k).length = k := by rw [List.length_take]; omega
      have l2 : ((R.drop k).take k).length = k := by rw [List.length_take, List.length_drop]; omega
      have l3 : ((R.drop k).drop k).length = R.length - k - k := by rw [List.length_drop, List.length_drop]
      have s1 : Sd rk (R.take k) := h2.head
      have s2 : Sd rk ((R.drop k).take k) := h2.drop.head
      have s3 : Bs rk k ((R.drop k).drop k) := h2.drop.drop
      generalize R.take k = A at *
      generalize (R.drop k).take k = B at *
      generalize (R.drop k).drop k = Y at *
      subst eR
      have hp' : (P ++ (A ++ B) ++ Y).Perm S := by simpa using hp
      have ht' : Td rk lt (P ++ (A ++ B) ++ Y) := by simpa using ht
      rw [em]
      refine (Merge_E hc _ P A B Y rfl (by omega) (by omega) (hVd hp') ht'.mid.pair s1 s2 (by simp only [List.length_append] at *; omega) (by simp) rfl (by rw [l1]) (by rw [l1, l2]; omega)).mono ?_
      rintro _ _ _ ⟨rfl, C, rfl, rfl, q1, q2⟩
      obtain ⟨c1, c2⟩ := seg hp' ht' q1 q2
      have lC := q1.length_eq
      rw [List.length_append, l1, l2] at lC
      refine ⟨rfl, _, _, rfl, rfl, by simp only [ints_length, List.length_append]; omega, ?_⟩
      rw [ek]
      rw [sW (x := ((P.length + 2 * k : Nat) : Int) + ((2 * k : Nat) : Int)) (n := (P ++ C).length + 2 * k) (by rw [List.length_append]; omega) (by rw [List.length_append]; omega)]
      have := ihe (t + 1) (P ++ C) Y (by simp only [List.length_append] at he; omega) (by rw [List.length_append, hP, lC, Nat.add_mul, Nat.one_mul]; omega) c1 c2 (Bs.app hP h1 (Bs.one q2)) s3
      rw [List.length_append, lC, show P.length + (k + k) = P.length + 2 * k from by omega] at this
      rw [List.length_append, lC, show P.length + (k + k) = P.length + 2 * k from by omega]
      exact this
     ·rw [em] at h4 ⊢
      have eR : R = R.take k ++ R.drop k := (List.take_append_drop _ _).symm
      have l1 : (R.take k).length = k := by rw [List.length_take]; omega
      have l2 : (R.drop k).length = R.length - k := List.length_drop
      have s1 : Sd rk (R.take k) := h2.head
      have s2 : Sd rk (R.drop k) := h2.drop.all (by omega)
      generalize R.take k = A at *
      generalize R.drop k = B at *
      subst eR
      have hp' : (P ++ (A ++ B) ++ []).Perm S := by simpa using hp
      have ht' : Td rk lt (P ++ (A ++ B) ++ []) := by simpa using ht
      rw [List.length_append] at hl l2
      refine (Merge_E hc _ P A B [] rfl (by omega) (by omega) (hVd hp') ht'.mid.pair s1 s2 (by simp only [List.length_append, List.length_nil] at *; omega) (by simp) rfl (by rw [l1]) (by omega)).mono ?_
      rintro _ _ _ ⟨rfl, C, rfl, rfl, q1, q2⟩
      obtain ⟨c1, c2⟩ := seg hp' ht' q1 q2
      have lC := q1.length_eq
      rw [List.length_append] at lC
      rw [List.append_nil] at c1 c2 ⊢
      exact ⟨rfl, _, _, rfl, rfl, by simp only [ints_length, List.length_append]; omega, next C (by omega) c1 c2 q2⟩
     ·rw [em] at h4
      exact next R (by omega) hp ht (h2.all (by omega))
   rw [ek]
   have := p35 _ 0 [] L (Nat.lt_succ_self _) (by simp) hp ht Bs.nil hb
   simpa using this
 have p7 : ∀ (e t : Nat) (P R : List Int), R.length < e → P.length = t * 20 → (P ++ R).Perm S → Td rk lt (P ++ R) → Bs rk 20 P → EV 7 [ints (P ++ R)] [.i S.length, .i (20 : Int), .i P.length, .i ((P.length + 20 : Nat) : Int), .r tb] := by
  intro e
  induction e with
  | zero => intro t P R he; omega
  | succ e ihe =>
   intro t P R he hP hp ht h1
   have hl := hp.length_eq
   rw [List.length_append] at hl
   refine V.p7 fun _ => ⟨fun h3 => ?_, fun h3 => ?_⟩
   ·have eR : R = R.take 20 ++ R.drop 20 := (List.take_append_drop _ _).symm
    have l1 : (R.take 20).length = 20 := by rw [List.length_take]; omega
    have l2 : (R.drop 20).length = R.length - 20 := List.length_drop
    generalize R.take 20 = A at *
    generalize R.drop 20 = Y at *
    subst eR
    have hp' : (P ++ A ++ Y).Perm S := by simpa using hp
    have ht' : Td rk lt (P ++ A ++ Y) := by simpa using ht
    rw [List.length_append] at hl l2 he
    refine (Insert_E hc P A Y (hVd hp') ht'.mid (by simp only [List.length_append]; omega) (by simp) rfl (by simp only [List.length_append]; omega)).mono ?_
    rintro _ _ _ ⟨rfl, C, rfl, rfl, q1, q2⟩
    obtain ⟨c1, c2⟩ := seg hp' ht' q1 q2
    have lC := q1.length_eq
    refine ⟨rfl, _, _, rfl, rfl, by simp only [ints_length, List.length_append]; omega, ?_⟩
    rw [sW (x := ((P.length + 20 : Nat) : Int) + 20) (n := P.length + 20 + 20) (by omega) (by omega)]
    have := ihe (t + 1) (P ++ C) Y (by omega) (by rw [List.length_append, hP, lC, l1, Nat.add_mul]) c1 c2 (Bs.app hP h1 (Bs.one q2))
    rw [List.length_append, lC, l1] at this
    exact this
   ·have hp' : (P ++ R ++ []).Perm S := by simpa using hp
    have ht' : Td rk lt (P ++ R ++ []) := by simpa using ht
    refine (Insert_E hc P R [] (hVd hp') ht'.mid (by simp only [List.length_append, List.length_nil]; omega) (by simp) rfl (by simp only [List.length_append]; omega)).mono ?_
    rintro _ _ _ ⟨rfl, C, rfl, rfl, q1, q2⟩
    obtain ⟨c1, c2⟩ := seg hp' ht' q1 q2
    have lC := q1.length_eq
    rw [List.append_nil] at c1 c2 ⊢
    exact ⟨rfl, _, _, rfl, rfl, by simp only [ints_length, List.length_append]; omega, p23 _ 20 (P ++ C) (Nat.lt_succ_self _) (by omega) (by omega) c1 c2 (Bs.app hP h1 (Bs.one q2))⟩
 have := p7 _ 0 [] S (Nat.lt_succ_self _) (by simp) (List.Perm.refl _) hT Bs.nil
 simpa using this
theorem SortStable_E {tb : List (List AV)} {lt : Int → Int → Bool} {Vd : Int → Prop} {rk : Int → Int} (hc : CmpOk tb lt Vd) (hlt : ∀ a b, Vd a → Vd b → lt a b = true → rk a < rk b) (S : List Int) (hV : ∀ x ∈ S, Vd x) (hT : Td rk lt S) (hlen : S.length < 1099511627776) :
  EC Try.prog G14a [ints S] [.r tb] (SortQ tb rk S) := by
 refine E14a fun _ EV V => ?_
 rw [ints_length]
 refine (Stable_E hc hlt S hV hT hlen).mono ?_
 rintro _ _ _ ⟨rfl, C, rfl, rfl, q1, q2⟩
 exact ⟨rfl, _, _, rfl, rfl, rfl, C, rfl, rfl, q1, q2⟩
end Go.Ab
