/- Packing: any things' boxes are the document's. For every input. -/
import Derived.Test.YtdmpiondalhonaaPackK
namespace Go.Ab
open Go Go.Proofs Stb Pak
set_option linter.unusedVariables false
set_option linter.unusedSimpArgs false
set_option maxRecDepth 100000
set_option maxHeartbeats 1000000

theorem ints_ins (O : List Int) (v : Int) (k : Nat) (hk : k ≤ O.length) : rappS (List.take k (List.drop 0 (ints O)) ++ [[AV.int .i64 v]]) ((List.take k (List.drop 0 (ints O))).length + 1) (List.take (O.length - k) (List.drop k (ints O))) = ints (O.take k ++ v :: O.drop k) := by
  have e1 : List.take k (List.drop 0 (ints O)) = ints (O.take k) := by simp [ints, List.map_take]
  have e2 : List.take (O.length - k) (List.drop k (ints O)) = ints (O.drop k) := by
    rw [List.take_of_length_le (by rw [List.length_drop, ints_length]; omega)]
    simp [ints, List.map_drop]
  rw [e1, e2]
  have l1 : (ints (O.take k) ++ [[AV.int .i64 v]]).length = (ints (O.take k)).length + 1 := by simp
  rw [← l1, rappS_end]
  simp [ints]
theorem len_tk (O : List Int) (k : Nat) (hk : k ≤ O.length) : (List.take k (List.drop 0 (ints O))).length = k := by simp; omega
theorem len_dr (O : List Int) (k : Nat) (hk : k ≤ O.length) : (List.take (O.length - k) (List.drop k (ints O))).length = O.length - k := by simp

theorem ROrder_E (l : List Int) (falling : Bool) (hl : l.length ≤ 1000) : EC Try.prog G40 [] [.r (ints l), .b falling] fun x rs vs => x = 0 ∧ ∃ O : List Int, rs = [ints O] ∧ vs = [] ∧ O.Perm (rngF l.length) ∧ (falling = true → Sd (rkF l) O) ∧ (falling = false → O = rngF l.length) := by
  refine E40 fun EV V => ?_
  rw [ints_length]
  have p9 : ∀ (d m : Nat) (O : List Int), l.length - m < d → m ≤ l.length → O.Perm (rngF m) → (falling = true → Sd (rkF l) O) → (falling = false → O = rngF m) → EV 9 [ints O] [.r (ints l), .b falling, .i l.length, .i m] := by
    intro d
    induction d with
    | zero => intro m O hd; omega
    | succ d ih =>
      intro m O hd hm hp hs hn
      have hO := hp.length_eq
      rw [rngF_len] at hO
      have mO : ∀ q ∈ O, 0 ≤ q ∧ q.toNat < m := fun q hq => rngF_mem.1 (hp.mem_iff.1 hq)
      refine V.p9 fun _ => ⟨fun hlt => ?_, fun hge => ?_⟩
      · have hmL : m < l.length := by omega
        -- it is put where it stands
        have ins : ∀ k : Nat, k ≤ O.length → (falling = true → ∀ p ∈ O.take k, rkF l p < rkF l m) → (falling = true → ∀ q ∈ O.drop k, rkF l m < rkF l q) → (falling = false → k = O.length) →
            EV 9 [rappS (List.take k (List.drop 0 (ints O)) ++ [[AV.int .i64 (m : Int)]]) ((List.take k (List.drop 0 (ints O))).length + 1) (List.take ((ints O).length - k) (List.drop k (ints O)))] [.r (ints l), .b falling, .i l.length, .i (IntKind.wrap .i64 ((m : Int) + 1))] := fun k hk c1 c2 c3 => by
          rw [ints_length, ints_ins O m k hk, w1 m (by omega)]
          refine ih (m + 1) _ (by omega) (by omega) ?_ (fun hf => ?_) (fun hf => ?_)
          · have e : rngF (m + 1) = rngF m ++ [(m : Int)] := by simp [rngF, List.range_succ]
            rw [e]
            have p1 : (O.take k ++ (m : Int) :: O.drop k).Perm ((m : Int) :: (O.take k ++ O.drop k)) := List.perm_middle
            rw [List.take_append_drop] at p1
            exact p1.trans ((List.Perm.cons _ hp).trans (List.perm_append_singleton _ _).symm)
          · exact Sd.ins (by rw [List.take_append_drop]; exact hs hf) (c1 hf) (c2 hf)
          · rw [c3 hf, List.take_length, List.drop_length, hn hf]
            simp [rngF, List.range_succ]
        have tail : ∀ k : Nat, k ≤ O.length → ((0 : Int) ≤ (k : Int)) ∧ ((k : Int) ≤ (((ints O).length : Nat) : Int)) ∧ (k ≤ (ints O).length) ∧ ((List.take k (List.drop 0 (ints O))).length ≤ 140737488355328) ∧ ((List.take k (List.drop 0 (ints O))).length * 8 ≤ 140737488355328) ∧ ((List.take k (List.drop 0 (ints O))).length + 1 ≤ 140737488355328) ∧ (((List.take k (List.drop 0 (ints O))).length + 1) * 8 ≤ 140737488355328) ∧ (k + ((ints O).length - k) ≤ (ints O).length) ∧ ((List.take k (List.drop 0 (ints O))).length + 1 ≤ (List.take k (List.drop 0 (ints O)) ++ [[AV.int .i64 (m : Int)]]).length) ∧ ((List.take k (List.drop 0 (ints O))).length + 1 + (List.take ((ints O).length - k) (List.drop k (ints O))).length ≤ 140737488355328) ∧ (((List.take k (List.drop 0 (ints O))).length + 1 + (List.take ((ints O).length - k) (List.drop k (ints O))).length) * 8 ≤ 140737488355328) ∧ ((List.take k (List.drop 0 (ints O))).length + 1 + (List.take ((ints O).length - k) (List.drop k (ints O))).length = (rappS (List.take k (List.drop 0 (ints O)) ++ [[AV.int .i64 (m : Int)]]) ((List.take k (List.drop 0 (ints O))).length + 1) (List.take ((ints O).length - k) (List.drop k (ints O)))).length) := fun k hk => by
          rw [ints_length, ints_ins O m k hk, len_tk O k hk, len_dr O k hk, ints_length]
          refine ⟨by omega, by omega, hk, by omega, by omega, by omega, by omega, by omega, ?_, by omega, by omega, ?_⟩
          · rw [List.length_append, len_tk O k hk]; exact Nat.le_refl _
          · rw [List.length_append, List.length_cons, List.length_take, List.length_drop]; omega
        have p24 : ∀ k : Nat, k ≤ O.length → (falling = true → ∀ q ∈ O.drop k, rkF l m < rkF l q) → (falling = false → k = O.length) → EV 24 [ints O] [.r (ints l), .b falling, .i m, .i k, .i l.length, .i m] := by
          intro k
          induction k with
          | zero =>
            intro hk c2 c3
            obtain ⟨g1, g2, g3, g4, g5, g6, g7, g8, g9, g10, g11, g12⟩ := tail 0 hk
            have e := ins 0 hk (fun _ p hp => by simp at hp) c2 c3
            exact V.p24 fun _ => ⟨fun hf => ⟨fun h => absurd h (by omega), fun h => ⟨g1, g2, g3, g4, g5, g6, g7, g8, g9, g10, g11, g12, e⟩⟩, fun hf => ⟨g1, g2, g3, g4, g5, g6, g7, g8, g9, g10, g11, g12, e⟩⟩
          | succ k ihk =>
            intro hk c2 c3
            obtain ⟨g1, g2, g3, g4, g5, g6, g7, g8, g9, g10, g11, g12⟩ := tail (k + 1) hk
            have hkO : k < O.length := by omega
            obtain ⟨q, hq⟩ : ∃ q, O.getD k 0 = q := ⟨_, rfl⟩
            have hqO : q ∈ O := by rw [← hq]; exact getD_mem' hkO
            have hqm := mO q hqO
            have hqL : q.toNat < l.length := by omega
            have ek : IntKind.wrap .i64 (((k + 1 : Nat) : Int) - 1) = (k : Int) := sW (by omega) (by omega)
            have eq' : O[k] = q := by rw [← hq]; simp [List.getD_eq_getElem?_getD, hkO]
            have gq := ints_get hqL
            have gm := ints_get hmL
            rw [ints_cI] at gq gm
            refine V.p24 fun _ => ⟨fun hf => ⟨fun h => ?_, fun h => absurd h (by omega)⟩, fun hf => ?_⟩
            · rw [ek, Int.toNat_natCast, Int.toNat_natCast]
              refine ⟨by omega, by rw [ints_length]; omega, ints_get hkO, ?_⟩
              rw [ints_cI, hq, ints_cI, ints_cI]
              refine ⟨hqm.1, gq, by omega, gm, fun h7 => ihk (by omega) (fun hf' x hx => ?_) (fun hf' => by rw [hf] at hf'; cases hf'), fun h7 => ⟨g1, g2, g3, g4, g5, g6, g7, g8, g9, g10, g11, g12, ins (k + 1) hk (fun hf' p hp => ?_) c2 c3⟩⟩
              · rw [List.drop_eq_getElem_cons hkO, eq'] at hx
                rcases List.mem_cons.1 hx with rfl | hx
                · simp only [rkF, Int.toNat_natCast]
                  omega
                · exact c2 hf x hx
              · obtain ⟨j, j1, j2, rfl⟩ := mem_take_getD hp 0
                have := (hs hf).leD (i := j) (j := k) (by omega) hkO 0
                rw [hq] at this
                have h8 : rkF l q < rkF l m := by
                  simp only [rkF, Int.toNat_natCast]
                  omega
                omega
            · exact ⟨g1, g2, g3, g4, g5, g6, g7, g8, g9, g10, g11, g12, ins (k + 1) hk (fun hf' => by rw [hf] at hf'; cases hf') c2 c3⟩
        rw [ints_length]
        exact p24 O.length (Nat.le_refl _) (fun _ q hq => by simp at hq) (fun _ => rfl)
      · have e : m = l.length := by omega
        subst e
        exact ⟨rfl, O, rfl, rfl, hp, hs, hn⟩
  exact p9 _ 0 [] (Nat.lt_succ_self _) (by omega) (List.Perm.refl _) (fun _ => Sd.nil) (fun _ => rfl)

theorem same_E (a b : List Int) (ha : a.length ≤ 1000) : EC Try.prog G41 [] [.r (ints a), .r (ints b)] fun x rs vs => x = 0 ∧ rs = [] ∧ (a = b → vs = [.b true]) ∧ ∃ y, vs = [.b y] := by
  refine E41 fun EV V => ?_
  rw [ints_length, ints_length]
  refine ⟨fun h => ⟨rfl, rfl, fun e => absurd (by rw [e]) h, _, rfl⟩, fun h => ?_⟩
  have hl : a.length = b.length := by omega
  have p15 : ∀ (d m : Nat), a.length - m < d → m ≤ a.length → EV 15 [] [.r (ints a), .r (ints b), .i a.length, .i m] := by
    intro d
    induction d with
    | zero => intro m hd; omega
    | succ d ih =>
      intro m hd hm
      refine V.p15 ⟨fun hlt => ?_, fun hge => ⟨rfl, rfl, fun _ => rfl, _, rfl⟩⟩
      have hmA : m < a.length := by omega
      have hmB : m < b.length := by omega
      rw [Int.toNat_natCast]
      refine ⟨by omega, ints_get hmA, ints_get hmB, ?_⟩
      rw [ints_cI, ints_cI, w1 m (by omega)]
      exact ⟨fun h => ⟨rfl, rfl, fun e => absurd (by rw [e]) h, _, rfl⟩, fun h => ih (m + 1) (by omega) (by omega)⟩
  exact p15 _ 0 (Nat.lt_succ_self _) (by omega)

theorem Least0_E (l : List Int) (room : Int) (h : ¬ RightP l room) : EC Try.prog G38 [] [.r (ints l), .i room] fun x rs vs => x = 0 ∧ rs = [] ∧ vs = [.i 0] := by
  refine E38 fun EV V => (Right_E l room).mono ?_
  rintro _ _ _ ⟨rfl, rfl, rfl⟩
  exact ⟨rfl, _, rfl, rfl, fun _ => ⟨rfl, rfl, rfl⟩, fun h1 => absurd (of_decide_eq_true h1) h⟩

theorem run_same (tight : Bool) (l : List Int) (room : Int) (p : List Int) (hr : RightP l room) (hp : p.Perm (rngF l.length)) : runF tight l room p (List.replicate l.length (-1), []) = layF tight l room p := by
  show _ = (if RightP l room then _ else _)
  rw [if_pos hr]
  exact runF_any tight l room p _ _ [] (by simp) (fun k hk => .inl (hp.mem_iff.2 (rngF_mem.2 ⟨by omega, by simpa using hk⟩))) (fun i hi => (rngF_mem.1 (hp.mem_iff.1 hi)).1)
theorem rngF_nodup (n : Nat) : (rngF n).Nodup := by
  unfold rngF
  exact List.Pairwise.map _ (fun a b h => by omega) List.nodup_range

theorem Tells44 (a : List (List AV)) (_ : a.length ≤ maxLen) (ga : ∀ r ∈ a, GdL [.int .i64] r) (room : Int) (_ : (Lit.int .i64 room).wf = true) : EC Try.prog G11 [] [.r a, .i room] fun x rs vs => x = 0 ∧ vs = [.b true] := by
  obtain ⟨l, rfl⟩ := exC ga
  refine E11 fun EV V => fixed44.mono ?_
  rintro _ _ _ ⟨rfl, rfl, rfl⟩
  rw [ints_length]
  refine ⟨rfl, _, rfl, rfl, fun h => (by cases h), fun _ => ⟨fun h1 => ⟨rfl, rfl⟩, fun h1 => (First_E l room (by omega)).mono ?_⟩⟩
  rintro _ _ _ ⟨rfl, rfl, rfl⟩
  refine ⟨rfl, _, _, rfl, rfl, (Falling_E l room (by omega)).mono ?_⟩
  rintro _ _ _ ⟨rfl, C, hC1, hC2, rfl, rfl⟩
  refine ⟨rfl, _, _, rfl, rfl, (Best_E l room (by omega)).mono ?_⟩
  rintro _ _ _ ⟨rfl, rfl, rfl⟩
  refine ⟨rfl, _, _, rfl, rfl, (RRight_E l room (by omega)).mono ?_⟩
  rintro _ _ _ ⟨rfl, rfl, rfl⟩
  refine ⟨rfl, _, rfl, rfl, fun h2 => ?_, fun h2 => ?_⟩
  · have hn : ¬ RightP l room := of_decide_eq_false h2
    have e0 : ∀ t p, layF t l room p = ([], []) := fun t p => if_neg hn
    refine (Least0_E l room hn).mono ?_
    rintro _ _ _ ⟨rfl, rfl, rfl⟩
    rw [e0, e0, e0]
    refine ⟨rfl, _, rfl, rfl, fun _ => ⟨by omega, by omega, ?_⟩, fun h => absurd (by decide) h⟩
    have e1 : List.take l.length (List.drop 0 (List.replicate l.length [AV.int .i64 0])) = ints (List.replicate l.length 0) := by rw [repI, List.drop_zero, List.take_of_length_le (by simp)]
    rw [e1]
    refine (Check_E l room (List.replicate l.length 0) (by omega) (by simp; omega)).mono ?_
    rintro _ _ _ ⟨rfl, rfl, rfl⟩
    refine ⟨rfl, _, rfl, rfl, rfl, ?_⟩
    rw [decide_eq_false (fun h : CheckP l room _ => hn h.1)]
    rfl
  · have hr : RightP l room := of_decide_eq_true h2
    have hin : ∀ p : List Int, p.Perm (rngF l.length) → (∀ i ∈ p, 0 ≤ i ∧ i.toNat < l.length) ∧ p.Nodup ∧ p.length ≤ 1000 := fun p hp => ⟨fun i hi => rngF_mem.1 (hp.mem_iff.1 hi), hp.nodup_iff.2 (rngF_nodup _), by rw [hp.length_eq, rngF_len]; omega⟩
    have hR := List.Perm.refl (rngF l.length)
    refine (ROrder_E l false (by omega)).mono ?_
    rintro _ _ _ ⟨rfl, O, rfl, rfl, o1, o2, o3⟩
    obtain rfl := o3 rfl
    refine ⟨rfl, _, rfl, rfl, ?_⟩
    rw [take_drop0]
    refine (RPack_E l _ room false (by omega) (hin _ hR).2.2 (hin _ hR).1 (hin _ hR).2.1 hr).mono ?_
    rintro _ _ _ ⟨rfl, rfl, rfl⟩
    rw [run_same false l room _ hr hR]
    refine ⟨rfl, _, _, rfl, rfl, (ROrder_E l true (by omega)).mono ?_⟩
    rintro _ _ _ ⟨rfl, O, rfl, rfl, o1, o2, o3⟩
    obtain rfl : O = C := (o2 rfl).uniq hC2 (o1.trans hC1.symm)
    refine ⟨rfl, _, rfl, rfl, ?_⟩
    rw [take_drop0]
    refine (RPack_E l _ room false (by omega) (hin _ o1).2.2 (hin _ o1).1 (hin _ o1).2.1 hr).mono ?_
    rintro _ _ _ ⟨rfl, rfl, rfl⟩
    rw [run_same false l room _ hr o1]
    refine ⟨rfl, _, _, rfl, rfl, (ROrder_E l false (by omega)).mono ?_⟩
    rintro _ _ _ ⟨rfl, O', rfl, rfl, o1', o2', o3'⟩
    obtain rfl := o3' rfl
    refine ⟨rfl, _, rfl, rfl, ?_⟩
    rw [take_drop0]
    refine (RPack_E l _ room true (by omega) (hin _ hR).2.2 (hin _ hR).1 (hin _ hR).2.1 hr).mono ?_
    rintro _ _ _ ⟨rfl, rfl, rfl⟩
    rw [run_same true l room _ hr hR]
    refine ⟨rfl, _, _, rfl, rfl, ?_⟩
    have lay_len : ∀ t p, (layF t l room p).1.length ≤ 1000 := fun t p => by
      have : layF t l room p = runF t l room p (List.replicate l.length 0, []) := if_pos hr
      rw [this, runF_len, List.length_replicate]; omega
    rw [take_drop0, take_drop0, take_drop0]
    refine (same_E _ _ (lay_len _ _)).mono ?_
    rintro _ _ _ ⟨rfl, rfl, s1, y, hy⟩
    obtain rfl := s1 rfl
    refine ⟨rfl, _, rfl, rfl, fun _ => ⟨fun _ => ?_, fun h => absurd rfl h⟩, fun h => by cases h⟩
    refine (same_E _ _ (lay_len _ _)).mono ?_
    rintro _ _ _ ⟨rfl, rfl, s1, y, hy⟩
    obtain rfl := s1 rfl
    refine ⟨rfl, _, rfl, rfl, fun _ => ⟨fun _ => ?_, fun h => absurd rfl h⟩, fun h => by cases h⟩
    refine (same_E _ _ (lay_len _ _)).mono ?_
    rintro _ _ _ ⟨rfl, rfl, s1, y, hy⟩
    obtain rfl := s1 rfl
    exact ⟨rfl, _, rfl, rfl, fun _ => ⟨rfl, by simp⟩, fun h => by cases h⟩
end Go.Ab
