/- EdfRuns, the walk: when each is done, who is late, and whose each tick is, is what the document says. For every input. -/
import Derived.Test.YtdmpiondalhonaaEdT
import Derived.Test.YtdmpiondalhonaaEdA
namespace Go.Ab
open Go Go.Proofs Stb HeapM
set_option linter.unusedVariables false
set_option linter.unusedSimpArgs false
set_option maxRecDepth 100000
set_option maxHeartbeats 1000000

theorem exW : ∀ {rows : List (List AV)}, (∀ r ∈ rows, GdL [.int .i64, .int .i64, .int .i64] r) → ∃ l : List Wrk, rows = l.map encW
  | [], _ => ⟨[], rfl⟩
  | r :: rows, h => by
    obtain ⟨l, hl⟩ := exW fun x hx => h x (List.mem_cons_of_mem _ hx)
    have h0 := h r (List.mem_cons_self ..)
    simp only [GdL, GdC] at h0
    obtain ⟨_, _, e, ⟨a, rfl, ha⟩, _, _, rfl, ⟨b, rfl, hb⟩, _, _, rfl, ⟨c, rfl, hc⟩, rfl⟩ := h0
    exact ⟨⟨a, b, c⟩ :: l, by rw [e, hl]; rfl⟩

theorem Runs33 (l : List (List AV)) (_ : l.length ≤ maxLen) (g : ∀ r ∈ l, GdL [.int .i64, .int .i64, .int .i64] r) (hl : l.length * 24 ≤ 140737488351232) (ticks : Int) (ht : (Lit.int .i64 ticks).wf = true) : EC Try.prog G6 [] [.r l, .i ticks] fun y rs vs => y = 0 ∧ vs = [.b true] := by
  obtain ⟨L, rfl⟩ := exW g
  rw [List.length_map] at hl
  refine E6 fun EV V => fixed22.mono ?_
  rintro _ _ _ ⟨rfl, rfl, rfl⟩
  refine ⟨rfl, _, rfl, rfl, ⟨fun h => absurd h (by decide), fun _ => (Works_E L hl).mono ?_⟩⟩
  rintro _ _ _ ⟨rfl, b, R, rfl, rfl, hb⟩
  refine ⟨rfl, _, _, rfl, rfl, ⟨fun h => ?_, fun _ => ⟨rfl, rfl⟩⟩⟩
  obtain ⟨rfl, hl30, hr, hs⟩ := hb h
  rw [List.drop_zero, List.take_length]
  refine ⟨fun _ => ⟨rfl, rfl⟩, fun htk => ?_⟩
  have hcs : (costsW (L.map clW)).sum = sumC L := by
    have : costsW (L.map clW) = L.map fun w => clZ w.c := by simp [costsW, clW, Function.comp_def]
    rw [this]; rfl
  refine (RRun_E (L.map clW) (by rw [List.length_map]; exact hl30) (fun w hw => ?_) (fun w hw => ?_) (by rw [hcs]; exact hs)).mono ?_
  · obtain ⟨x, hx, rfl⟩ := List.mem_map.1 hw; exact hr x hx
  · obtain ⟨x, hx, rfl⟩ := List.mem_map.1 hw; exact (clZ_bd x.c).1
  rintro _ _ _ ⟨rfl, rfl, T, hTb, rfl, hT⟩
  refine ⟨rfl, _, _, rfl, rfl, (Run25_E L (by omega)).mono ?_⟩
  rintro _ _ _ ⟨rfl, rfl, T1, hT1, rfl⟩
  refine ⟨rfl, _, rfl, rfl, (Late_E L (by omega)).mono ?_⟩
  rintro _ _ _ ⟨rfl, rfl, T2, hT2, rfl⟩
  refine ⟨rfl, _, rfl, rfl, (Order_E L (by omega) ticks (by omega)).mono ?_⟩
  rintro _ _ _ ⟨rfl, rfl, T3, hT3, rfl⟩
  refine ⟨rfl, _, rfl, rfl, ?_⟩
  have hT' : EndR (L.map clW) T := hT
  rw [← (end_same hT' hT1).1, ← (end_same hT' hT2).1]
  have hlm : (L.map clW).length = L.length := List.length_map ..
  have hD : (doneT (L.map clW) T (costsW (L.map clW)) (relsW (L.map clW)) 0).length = L.length := by rw [doneT_len]; simp [relsW]
  have hTk : ∀ t : Nat, t < ticks.toNat → (ordR ticks.toNat (runT (L.map clW) T3 (costsW (L.map clW)) 0).1).getD t 0 = (runT (L.map clW) T (costsW (L.map clW)) 0).1.getD t (-1) := fun t h => by
    rw [ordR_get h, (end_same hT' (hT3 (by omega))).2]
  have hTl : (runT (L.map clW) T (costsW (L.map clW)) 0).1.length = T := (runT_len _ _ _ _).1
  have hOl := ordR_len ticks.toNat (runT (L.map clW) T3 (costsW (L.map clW)) 0).1
  generalize ordR ticks.toNat (runT (L.map clW) T3 (costsW (L.map clW)) 0).1 = O at *
  generalize (runT (L.map clW) T (costsW (L.map clW)) 0).1 = X at *
  generalize doneT (L.map clW) T (costsW (L.map clW)) (relsW (L.map clW)) 0 = D at *
  generalize hC : L.map clW = C at *
  have p76 : ∀ (d t : Nat), O.length - t < d → t ≤ O.length → EV 76 [ints X, ints (lateN C D L.length), ints O] [.i (lateN C D L.length).length, .i O.length, .i t] := by
    intro d
    induction d with
    | zero => intro t h; omega
    | succ d ih =>
      intro t hd ht
      refine V.p76 fun _ _ _ => ⟨fun h => ?_, fun h => ⟨rfl, by rw [ints_length]; simp⟩⟩
      have hlt : t < O.length := by omega
      rw [Int.toNat_natCast, ints_length, ints_length, ints_cI, ints_cI, hTk t (by omega)]
      have nx : EV 76 [ints X, ints (lateN C D L.length), ints O] [.i (lateN C D L.length).length, .i O.length, .i (IntKind.wrap .i64 ((t : Int) + 1))] := by
        rw [wrap64 (by omega) (by omega)]
        exact ih (t + 1) (by omega) (by omega)
      have gO := ints_get hlt
      rw [ints_cI, hTk t (by omega)] at gO
      refine ⟨by omega, by omega, gO, fun h1 => ⟨by omega, by omega, ?_, ?_⟩, fun h1 => ?_⟩
      · have := ints_get (l := X) (i := t) (by omega)
        rwa [ints_cI] at this
      · have e : X.getD t (-1) = X.getD t 0 := by
          rw [List.getD_eq_getElem?_getD, List.getD_eq_getElem?_getD, List.getElem?_eq_getElem (by omega)]; rfl
        rw [e]
        exact V.p94 fun _ _ _ => ⟨fun h => absurd rfl h, fun _ => nx⟩
      · have e : X.getD t (-1) = -1 := by
          rw [List.getD_eq_getElem?_getD, List.getElem?_eq_none (by omega)]; rfl
        rw [e]
        exact V.p94 fun _ _ _ => ⟨fun h => absurd rfl h, fun _ => nx⟩
  have p39 : ∀ (d i : Nat), L.length - i < d → i ≤ L.length → EV 39 [ints X, ints D, ints D, ints (lateN C D L.length), ints O] [.r (C.map encW), .i (lateN C D i).length, .i L.length, .i i] := by
    intro d
    induction d with
    | zero => intro i h; omega
    | succ d ih =>
      intro i hd hi
      refine V.p39 fun _ _ _ _ _ => ⟨fun h => ?_, fun h => ?_⟩
      · have hi : i < L.length := by omega
        rw [Int.toNat_natCast, ints_length, ints_length]
        have gD := ints_get (l := D) (i := i) (by omega)
        have nx := ih (i + 1) (by omega) (by omega)
        rw [lateN_succ] at nx
        have hll := lateN_len C D i
        have hw : IntKind.wrap .i64 ((i : Int) + 1) = ((i + 1 : Nat) : Int) := sW rfl (by omega)
        have hiC : i < C.length := by omega
        refine ⟨by omega, by omega, gD, by omega, gD, fun h => absurd rfl h, fun _ => ⟨by omega, by omega, gD, encW_get hiC, ?_⟩⟩
        rw [(encW_c hiC).2.2, ints_cI, hw]
        refine ⟨fun h1 => ?_, fun h1 => ?_⟩
        · rw [if_pos h1, List.length_append] at nx
          obtain ⟨Z, hZ⟩ := lateN_pre C D (i + 1) (L.length - (i + 1))
          rw [show i + 1 + (L.length - (i + 1)) = L.length from by omega, lateN_succ, if_pos h1] at hZ
          have hlt : (lateN C D i).length < (lateN C D L.length).length := by rw [hZ]; simp
          have hg : (lateN C D L.length).getD (lateN C D i).length 0 = i := by rw [hZ]; simp [List.getD_eq_getElem?_getD]
          rw [Int.toNat_natCast, ints_cI, hg]
          have gl := ints_get hlt
          rw [ints_cI, hg] at gl
          refine ⟨fun _ => ⟨by omega, by omega, gl, fun h => absurd rfl h, fun _ => ?_⟩, fun h => by omega⟩
          rw [sW (x := ((lateN C D i).length : Int) + 1) (n := (lateN C D i).length + 1) rfl (by omega)]
          exact nx
        · rw [if_neg (by omega)] at nx
          exact nx
      · have hi : i = L.length := by omega
        subst hi
        rw [ints_length]
        exact p76 _ 0 (Nat.lt_succ_self _) (Nat.zero_le _)
  rw [ints_length, ints_length, hD, hOl, mxS]
  refine ⟨fun _ => ⟨fun h => absurd (by omega) h, fun _ => ?_⟩, fun h => absurd rfl h⟩
  have := p39 _ 0 (Nat.lt_succ_self _) (Nat.zero_le _)
  exact this
end Go.Ab
