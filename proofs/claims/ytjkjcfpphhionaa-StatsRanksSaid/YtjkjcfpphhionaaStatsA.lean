/- Stats: the numbers in order, their summary, ranks and bins. For every input. -/
import Derived.Test.YtjkjcfpphhionaaStatsV
import Derived.Test.YtjkjcfpphhionaaStatsSo
import Derived.Test.YtjkjcfpphhionaaAbSo
namespace Go.Ab
open Go Go.Proofs
set_option linter.unusedVariables false
set_option linter.unusedSimpArgs false
set_option maxRecDepth 100000
set_option maxHeartbeats 1000000

theorem sortC : SortC Try.prog 67 := ⟨⟨Try.f67, Try.func67, by kernel_rfl, by kernel_rfl⟩, fun p cap w => Any.slices_Sort_int_none Try.lays189 p cap w, fun blk off cap zs w hH hb hl => Any.slices_Sort_int Try.lays189 blk off cap zs w hH hb hl⟩
theorem Sort_E (L : List Int) (hL : L.length < 4611686018427387904) : EC Try.prog G67a [ints L] [] fun x rs vs => x = 0 ∧ rs = [ints (sortI L)] ∧ vs = [] := sort_E sortC L hL
theorem sortI_le (L : List Int) : (sortI L).Pairwise (· ≤ ·) := by
  have := List.pairwise_mergeSort (le := fun x y : Int => decide (x ≤ y)) (fun a b c h1 h2 => by simp at *; omega) (fun a b => by simp; omega) L
  exact this.imp fun h => by simpa using h
theorem sortI_len (L : List Int) : (sortI L).length = L.length := List.length_mergeSort L
theorem sortI_eq {A L : List Int} (h : A.Pairwise (· ≤ ·)) (hp : A.Perm L) : A = sortI L :=
  List.Perm.eq_of_pairwise (fun a b _ _ h1 h2 => Int.le_antisymm h1 h2) h (sortI_le L) (hp.trans (List.mergeSort_perm L _).symm)
theorem fixed18 : EC Try.prog G18 [] [] fun x rs vs => x = 0 ∧ rs = [] ∧ vs = [.b true] := EC.closed mixed TT_at (n := 100000) (by kernel_rfl)

def clampI (x : Int) : Int := min (max x (-1099511627776)) 1099511627776
def SL (L : List Int) : List Int := sortI (L.map clampI)
theorem SL_len (L : List Int) : (SL L).length = L.length := by simp [SL, sortI_len]
theorem RClamp_E (a : Int) : EC Try.prog G46 [] [.i a] fun x rs vs => x = 0 ∧ rs = [] ∧ vs = [.i (clampI a)] := by
  refine E46 fun EV V => ⟨fun h => ⟨rfl, rfl, ?_⟩, fun h => ⟨fun h2 => ⟨rfl, rfl, ?_⟩, fun h2 => ⟨rfl, rfl, ?_⟩⟩⟩ <;> (congr 2; unfold clampI; omega)
theorem Clamp_E (a : Int) : EC Try.prog G66 [] [.i a] fun x rs vs => x = 0 ∧ rs = [] ∧ vs = [.i (clampI a)] := E66 fun EV V => ⟨rfl, rfl, by rw [mnS, mxS]; rfl⟩

theorem ints_set (M : List Int) (k : Nat) (x : Int) : (ints M).set k [.int .i64 x] = ints (M.set k x) := by simp [ints, List.map_set]

theorem take_cl {L : List Int} {m : Nat} (h : m < L.length) : (L.take (m + 1)).map clampI = (L.take m).map clampI ++ [clampI (cIS (ints L) m 0)] := by
  rw [ints_cI, List.getD_eq_getElem?_getD, List.getElem?_eq_getElem h, List.take_add_one, List.getElem?_eq_getElem h, List.map_append]; rfl
theorem rapp_app (P Q : List (List AV)) (r : List AV) : rappS (P ++ [r]) (P.length + 1) Q = P ++ [r] ++ Q := by
  unfold rappS
  rw [List.take_of_length_le (by simp), List.drop_of_length_le (by rw [List.length_append, List.length_singleton]; omega), List.append_nil]

theorem Sorted_E (L : List Int) (hl : L.length ≤ 1000) : EC Try.prog G47 [] [.r (ints L)] fun x rs vs => x = 0 ∧ rs = [ints (SL L)] ∧ vs = [] := by
  refine E47 fun EV V => ?_
  have p9 : ∀ (d m : Nat), L.length - m < d → m ≤ L.length → EV 9 [ints ((L.take m).map clampI)] [.r (ints L), .i L.length, .i m] := by
    intro d
    induction d with
    | zero => intro m hd; omega
    | succ d ih =>
      intro m hd hm
      refine V.p9 fun _ => ⟨fun hlt => ?_, fun hge => ?_⟩
      · have hmL : m < L.length := by omega
        rw [Int.toNat_natCast]
        refine ⟨by omega, ints_get hmL, (Clamp_E _).mono ?_⟩
        rintro _ _ _ ⟨rfl, rfl, rfl⟩
        refine ⟨rfl, _, rfl, rfl, ?_⟩
        rw [ints_length, List.length_map, List.length_take, ints_append]
        refine ⟨by omega, by omega, ?_⟩
        rw [← take_cl hmL, show IntKind.wrap .i64 ((m : Int) + 1) = ((m + 1 : Nat) : Int) by rw [wrap64 (by omega) (by omega)]; rfl]
        exact ih (m + 1) (by omega) (by omega)
      · obtain rfl : m = L.length := by omega
        rw [List.take_length]
        refine (Sort_E _ (by simp; omega)).mono ?_
        rintro _ _ _ ⟨rfl, rfl, rfl⟩
        exact ⟨rfl, _, rfl, rfl, by simp [sortI_len], rfl, rfl, rfl⟩
  rw [ints_length]
  exact p9 _ 0 (Nat.lt_succ_self _) (by omega)

theorem RSorted_E (L : List Int) (hl : L.length ≤ 1000) : EC Try.prog G19 [] [.r (ints L)] fun x rs vs => x = 0 ∧ rs = [ints (SL L)] ∧ vs = [] := by
  refine E19 fun EV V => ?_
  have p9 : ∀ (d m : Nat) (A : List Int), L.length - m < d → m ≤ L.length → A.Pairwise (· ≤ ·) → A.Perm ((L.take m).map clampI) → EV 9 [ints A] [.r (ints L), .i L.length, .i m] := by
    intro d
    induction d with
    | zero => intro m A hd; omega
    | succ d ih =>
      intro m A hd hm hs hp
      have hAl : A.length = m := by rw [hp.length_eq]; simp; omega
      refine V.p9 fun _ => ⟨fun hlt => ?_, fun hge => ?_⟩
      · have hmL : m < L.length := by omega
        rw [Int.toNat_natCast]
        refine ⟨by omega, ints_get hmL, (RClamp_E _).mono ?_⟩
        rintro _ _ _ ⟨rfl, rfl, rfl⟩
        refine ⟨rfl, _, rfl, rfl, ?_⟩
        generalize hx : clampI (cIS (ints L) m 0) = x
        have put : ∀ j, j ≤ A.length → (∀ v ∈ A.take j, v ≤ x) → (∀ v ∈ A.drop j, x ≤ v) → EV 9 [ints (A.take j ++ [x] ++ A.drop j)] [.r (ints L), .i L.length, .i ((m + 1 : Nat) : Int)] := fun j hj h1 h2 => by
          refine ih (m + 1) _ (by omega) (by omega) ?_ ?_
          · have hsp : (A.take j ++ A.drop j).Pairwise (· ≤ ·) := by rw [List.take_append_drop]; exact hs
            obtain ⟨s1, s2, s3⟩ := List.pairwise_append.1 hsp
            rw [List.append_assoc, List.pairwise_append]
            refine ⟨s1, List.pairwise_cons.2 ⟨h2, s2⟩, fun a ha b hb => ?_⟩
            rcases List.mem_cons.1 hb with rfl | hb
            · exact h1 a ha
            · exact s3 a ha b hb
          · have e : (L.take (m + 1)).map clampI = (L.take m).map clampI ++ [x] := by rw [← hx]; exact take_cl hmL
            rw [e, List.append_assoc]
            have q1 : (A.take j ++ ([x] ++ A.drop j)).Perm ([x] ++ (A.take j ++ A.drop j)) := List.perm_middle
            rw [List.take_append_drop] at q1
            exact q1.trans ((List.Perm.append_left _ hp).trans List.perm_append_comm)
        have ev1 : IntKind.wrap .i64 ((m : Int) + 1) = ((m + 1 : Nat) : Int) := by rw [wrap64 (by omega) (by omega)]; rfl
        have p26 : ∀ (d j : Nat), A.length - j < d → j ≤ A.length → (∀ v ∈ A.take j, v ≤ x) → EV 26 [ints A] [.i x, .i j, .r (ints L), .i L.length, .i m] := by
          intro d
          induction d with
          | zero => intro j hd; omega
          | succ d ihj =>
            intro j hd hj hle
            have er : rappS (List.take j (List.drop 0 (ints A)) ++ [[.int .i64 x]]) ((List.take j (List.drop 0 (ints A))).length + 1) (List.take ((ints A).length - j) (List.drop j (ints A))) = ints (A.take j ++ [x] ++ A.drop j) := by
              rw [rapp_app, List.drop_zero, List.take_of_length_le (l := List.drop j (ints A)) (by simp)]
              simp [ints, List.map_take, List.map_drop]
            have dr : (∀ v ∈ A.drop j, x ≤ v) → EV 9 [rappS (List.take j (List.drop 0 (ints A)) ++ [[.int .i64 x]]) ((List.take j (List.drop 0 (ints A))).length + 1) (List.take ((ints A).length - j) (List.drop j (ints A)))] [.r (ints L), .i L.length, .i (IntKind.wrap .i64 ((m : Int) + 1))] := fun h => by
              rw [er, ev1]; exact put j hj hle h
            have lt0 : (List.take j (List.drop 0 (ints A))).length = j := by simp; omega
            have lt1 : (List.take ((ints A).length - j) (List.drop j (ints A))).length = A.length - j := by simp
            have le0 : (rappS (List.take j (List.drop 0 (ints A)) ++ [[.int .i64 x]]) ((List.take j (List.drop 0 (ints A))).length + 1) (List.take ((ints A).length - j) (List.drop j (ints A)))).length = A.length + 1 := by rw [er]; simp; omega
            refine V.p26 fun _ => ⟨fun hlt => ?_, fun hge => ?_⟩
            · have hjA : j < A.length := by rw [ints_length] at hlt; omega
              rw [Int.toNat_natCast]
              refine ⟨by omega, by omega, ints_get hjA, fun h => ?_, fun h => ?_⟩
              · rw [show IntKind.wrap .i64 ((j : Int) + 1) = ((j + 1 : Nat) : Int) by rw [wrap64 (by omega) (by omega)]; rfl]
                refine ihj (j + 1) (by omega) (by omega) fun v hv => ?_
                rw [List.take_add_one, List.getElem?_eq_getElem hjA] at hv
                rcases List.mem_append.1 hv with hv | hv
                · exact hle v hv
                · simp at hv
                  subst hv
                  rw [ints_cI, List.getD_eq_getElem?_getD, List.getElem?_eq_getElem hjA] at h
                  exact h
              · have hd2 : ∀ v ∈ A.drop j, x ≤ v := fun v hv => by
                  rw [ints_cI, List.getD_eq_getElem?_getD, List.getElem?_eq_getElem hjA] at h
                  simp at h
                  obtain ⟨i, hi, rfl⟩ := List.mem_iff_getElem.1 hv
                  rw [List.getElem_drop]
                  rcases Nat.eq_zero_or_pos i with h0 | h0
                  · subst h0; simp; omega
                  · have := List.pairwise_iff_getElem.1 hs j (j + i) hjA (by simp at hi; omega) (by omega)
                    omega
                have fin := dr hd2
                rw [lt0, lt1, ints_length] at *
                rw [lt0] at le0
                exact ⟨by omega, by omega, by omega, by omega, by omega, by omega, by omega, by omega, by simp; omega, by omega, by omega, by omega, fin⟩
            · have hjA : j = A.length := by rw [ints_length] at hge; omega
              have fin := dr fun v hv => by rw [hjA, List.drop_length] at hv; simp at hv
              rw [Int.toNat_natCast]
              rw [lt0, lt1, ints_length] at *
              rw [lt0] at le0
              exact ⟨by omega, by omega, by omega, by omega, by omega, by omega, by omega, by omega, by simp; omega, by omega, by omega, by omega, fin⟩
        exact p26 _ 0 (Nat.lt_succ_self _) (by omega) fun v hv => by simp at hv
      · obtain rfl : m = L.length := by omega
        rw [List.take_length] at hp
        exact ⟨rfl, by rw [sortI_eq hs hp]; rfl, rfl⟩
  rw [ints_length]
  exact p9 _ 0 [] (Nat.lt_succ_self _) (by omega) List.Pairwise.nil (by simp)
end Go.Ab
