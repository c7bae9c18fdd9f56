/- Earliest due first: when each is done, who is late, and whose each tick is. For every input. -/
import Derived.Test.YtdmpiondalhonaaEdQ
namespace Go.Ab
open Go Go.Proofs Stb HeapM
set_option linter.unusedVariables false
set_option linter.unusedSimpArgs false
set_option maxRecDepth 100000
set_option maxHeartbeats 1000000

/-- By `T` all is done. -/
def EndR (C : List Wrk) (T : Nat) : Prop := Zr (runT C T (costsW C) 0).2
theorem end_more {C : List Wrk} {T : Nat} (h : EndR C T) (k : Nat) : runT C (T + k) (costsW C) 0 = ((runT C T (costsW C) 0).1 ++ List.replicate k (-1), (runT C T (costsW C) 0).2) ∧ doneT C (T + k) (costsW C) (relsW C) 0 = doneT C T (costsW C) (relsW C) 0 := by
  have hl : (runT C T (costsW C) 0).2.length = C.length := by rw [(runT_len C T (costsW C) 0).2]; simp [costsW]
  have hr : ∀ s : Nat, s < k → ∀ i < C.length, ¬ Rdy C (runT C T (costsW C) 0).2 (0 + (T : Int) + s) i := fun s hs i hi hq => by
    have := h i (by rw [hl]; exact hi)
    have := hq.2.2
    omega
  rw [runT_add, doneT_add, span_none _ _ _ hr, doneT_none _ _ _ _ hr]
  exact ⟨rfl, rfl⟩
theorem end_same {C : List Wrk} {T T' : Nat} (h : EndR C T) (h' : EndR C T') : doneT C T (costsW C) (relsW C) 0 = doneT C T' (costsW C) (relsW C) 0 ∧ ∀ i, (runT C T (costsW C) 0).1.getD i (-1) = (runT C T' (costsW C) 0).1.getD i (-1) := by
  have q : ∀ {T T' : Nat}, EndR C T → T ≤ T' → doneT C T (costsW C) (relsW C) 0 = doneT C T' (costsW C) (relsW C) 0 ∧ ∀ i, (runT C T (costsW C) 0).1.getD i (-1) = (runT C T' (costsW C) 0).1.getD i (-1) := fun {T T'} h hle => by
    obtain ⟨e1, e2⟩ := end_more h (T' - T)
    rw [show T + (T' - T) = T' from by omega] at e1 e2
    refine ⟨e2.symm, fun i => ?_⟩
    rw [e1]
    simp only []
    rw [List.getD_eq_getElem?_getD, List.getD_eq_getElem?_getD]
    by_cases hi : i < (runT C T (costsW C) 0).1.length
    · rw [List.getElem?_append_left hi]
    · rw [List.getElem?_append_right (by omega), List.getElem?_eq_none (by omega), List.getElem?_replicate]
      split <;> rfl
  rcases Nat.le_total T T' with hle | hle
  · exact q h hle
  · have := q h' hle
    exact ⟨this.1.symm, fun i => (this.2 i).symm⟩
theorem RunSP.en {C : List Wrk} {SP : List Spn} {T : Nat} (h : RunSP C SP T) : EndR C T := h.2.2.2.2.1

theorem encS_c {S : List Spn} {i : Nat} (h : i < S.length) : cIS (S.map encS) i 0 = S[i].f ∧ cIS (S.map encS) i 1 = S[i].t ∧ cIS (S.map encS) i 2 = S[i].p := by
  unfold cIS cellS
  rw [List.getElem?_map, List.getElem?_eq_getElem h]; exact ⟨rfl, rfl, rfl⟩
theorem encS_get {S : List Spn} {i : Nat} (h : i < S.length) : (S.map encS)[i]? = some [.int .i64 (cIS (S.map encS) i 0), .int .i64 (cIS (S.map encS) i 1), .int .i64 (cIS (S.map encS) i 2)] := by
  obtain ⟨e0, e1, e2⟩ := encS_c h
  rw [e0, e1, e2, List.getElem?_map, List.getElem?_eq_getElem h]; rfl
theorem ChnS_mid {n : Nat} {s : Spn} {B : List Spn} : ∀ (A : List Spn) (a : Int), ChnS n a (A ++ s :: B) → s.f = a + (tksS A).length ∧ s.f < s.t ∧ (s.p = -1 ∨ 0 ≤ s.p ∧ s.p.toNat < n)
  | [], a, h => ⟨by simpa [tksS] using h.1, h.2.1, h.2.2.1⟩
  | x :: A, a, ⟨h1, h2, h3, h4⟩ => by
    have := ChnS_mid A x.t h4
    refine ⟨?_, this.2⟩
    rw [this.1]
    simp only [tksS, List.flatMap_cons, List.length_append, List.length_replicate]
    omega
theorem tksS_app (A B : List Spn) : tksS (A ++ B) = tksS A ++ tksS B := by simp [tksS]

theorem Run25_E (L : List Wrk) (hl : L.length ≤ 50000) : EC Try.prog G25 [] [.r (L.map encW)] fun e rs vs => e = 0 ∧ vs = [] ∧ ∃ T, EndR (L.map clW) T ∧ rs = [ints (doneT (L.map clW) T (costsW (L.map clW)) (relsW (L.map clW)) 0)] := by
  refine E25 fun EV V => ?_
  have hlm : (L.map encW).length = L.length := List.length_map ..
  have p26 : ∀ (SP : List Spn) (T : Nat), RunSP (L.map clW) SP T → ∀ (B A : List Spn), SP = A ++ B → EV 26 [ints (outS (relsW (L.map clW)) A), SP.map encS] [.i SP.length, .i A.length] := by
    intro SP T hR B
    obtain ⟨h1, h2, h3, h4, h5, h6⟩ := hR
    have hSPl := ChnS_le _ _ h2
    induction B with
    | nil =>
      intro A hA
      rw [List.append_nil] at hA
      subst hA
      exact V.p26 fun _ _ => ⟨fun h => by omega, fun _ => ⟨rfl, rfl, T, h5, by rw [h6]⟩⟩
    | cons s B ih =>
      intro A hA
      have hlen := congrArg List.length hA
      rw [List.length_append, List.length_cons] at hlen
      have hg : SP[A.length]'(by omega) = s := by simp [hA]
      have hlt : A.length < SP.length := by omega
      obtain ⟨c0, c1, c2⟩ := encS_c hlt
      rw [hg] at c0 c1 c2
      rw [hA] at h2
      obtain ⟨m1, m2, m3⟩ := ChnS_mid A 0 h2
      have := ih (A ++ [s]) (by rw [hA]; simp)
      rw [outS_snoc, List.length_append] at this
      refine V.p26 fun _ _ => ⟨fun _ => ?_, fun h => by omega⟩
      rw [Int.toNat_natCast, List.length_map]
      refine ⟨by omega, by omega, encS_get hlt, ?_⟩
      rw [c1, c2, sW (n := A.length + 1) (by omega) (by omega), ints_length, outS_len]
      have hrl : (relsW (L.map clW)).length = (L.map clW).length := List.length_map ..
      rw [hrl]
      refine ⟨fun h => ?_, fun h => ?_⟩
      · refine ⟨by omega, by omega, ints_get (by rw [outS_len, hrl]; omega), ?_⟩
        rw [ints_set]
        unfold out1 at this
        rw [if_neg h] at this
        exact this
      · unfold out1 at this
        rw [if_pos h] at this
        exact this
  have p9 : ∀ (ws pre : List Wrk), L = pre ++ ws → EV 9 [ints (relsW (pre.map clW))] [.r (L.map encW), .r (L.map encW), .i L.length, .i pre.length] := by
    intro ws
    induction ws with
    | nil =>
      intro pre hp
      rw [List.append_nil] at hp
      subst hp
      refine V.p9 fun _ => ⟨fun h => by omega, fun _ => (Run54_E L hl).mono ?_⟩
      rintro _ _ _ ⟨rfl, rfl, SP, T, rfl, hR⟩
      refine ⟨rfl, _, rfl, rfl, ?_⟩
      rw [List.length_map]
      exact p26 SP T hR SP [] rfl
    | cons w ws ih =>
      intro pre hp
      have hlen := congrArg List.length hp
      rw [List.length_append, List.length_cons] at hlen
      have hw : gW L pre.length = w := by rw [hp]; unfold gW; simp [List.getD_eq_getElem?_getD]
      have e : relsW ((pre ++ [w]).map clW) = relsW (pre.map clW) ++ [clZ w.r] := by simp [relsW, clW]
      have := ih (pre ++ [w]) (by rw [hp]; simp)
      rw [e, List.length_append] at this
      refine V.p9 fun _ => ⟨fun _ => ?_, fun h => by omega⟩
      rw [Int.toNat_natCast]
      refine ⟨by omega, encW_get (by omega), ?_⟩
      rw [(encW_c (L := L) (i := pre.length) (by omega)).1, hw]
      refine (clamp_E _).mono ?_
      rintro _ _ _ ⟨rfl, rfl, rfl⟩
      refine ⟨rfl, _, rfl, rfl, by rw [ints_length]; simp [relsW]; omega, by rw [ints_length]; simp [relsW]; omega, ?_⟩
      rw [ints_append, sW (n := pre.length + 1) (by omega) (by omega)]
      exact this
  rw [hlm]
  exact p9 L [] rfl

/-- Who is late, of the first `n`. -/
def lateN (C : List Wrk) (D : List Int) (n : Nat) : List Int := ((List.range n).filter fun i => decide ((gW C i).d < D.getD i 0)).map fun (i : Nat) => (i : Int)
theorem lateN_succ (C : List Wrk) (D : List Int) (n : Nat) : lateN C D (n + 1) = if (gW C n).d < D.getD n 0 then lateN C D n ++ [(n : Int)] else lateN C D n := by
  unfold lateN
  rw [List.range_succ, List.filter_append]
  split
  · rename_i h
    rw [List.filter_cons_of_pos (by simpa using h)]; simp
  · rename_i h
    rw [List.filter_cons_of_neg (by simpa using h)]; simp
theorem lateN_pre (C : List Wrk) (D : List Int) (n : Nat) : ∀ k, ∃ Z, lateN C D (n + k) = lateN C D n ++ Z
  | 0 => ⟨[], by simp⟩
  | k + 1 => by
    obtain ⟨Z, hZ⟩ := lateN_pre C D n k
    rw [show n + (k + 1) = (n + k) + 1 from by omega, lateN_succ, hZ]
    split
    · exact ⟨Z ++ [((n + k : Nat) : Int)], by simp⟩
    · exact ⟨Z, rfl⟩
theorem lateN_len (C : List Wrk) (D : List Int) (n : Nat) : (lateN C D n).length ≤ n := by
  unfold lateN
  rw [List.length_map]
  have := List.length_filter_le (fun i => decide ((gW C i).d < D.getD i 0)) (List.range n)
  rwa [List.length_range] at this

theorem Late_E (L : List Wrk) (hl : L.length ≤ 50000) : EC Try.prog G26 [] [.r (L.map encW)] fun e rs vs => e = 0 ∧ vs = [] ∧ ∃ T, EndR (L.map clW) T ∧ rs = [ints (lateN (L.map clW) (doneT (L.map clW) T (costsW (L.map clW)) (relsW (L.map clW)) 0) L.length)] := by
  refine E26 fun EV V => (Run25_E L hl).mono ?_
  rintro _ _ _ ⟨rfl, rfl, T, hT, rfl⟩
  refine ⟨rfl, _, rfl, rfl, ?_⟩
  have hD : (doneT (L.map clW) T (costsW (L.map clW)) (relsW (L.map clW)) 0).length = L.length := by rw [doneT_len]; simp [relsW]
  generalize hDD : doneT (L.map clW) T (costsW (L.map clW)) (relsW (L.map clW)) 0 = D at *
  have p9 : ∀ (d i : Nat), L.length - i < d → i ≤ L.length → EV 9 [ints (lateN (L.map clW) D i), ints D] [.r (L.map encW), .i L.length, .i i] := by
    intro d
    induction d with
    | zero => intro i h; omega
    | succ d ih =>
      intro i hd hi
      refine V.p9 fun _ _ => ⟨fun h => ?_, fun h => ⟨rfl, rfl, T, hT, by rw [hDD, show i = L.length from by omega]⟩⟩
      have hi : i < L.length := by omega
      have hll := lateN_len (L.map clW) D i
      rw [Int.toNat_natCast]
      refine ⟨by omega, by rw [ints_length]; omega, ints_get (by omega), encW_get hi, ?_⟩
      rw [(encW_c hi).2.2, ints_cI, sW (n := i + 1) (by omega) (by omega)]
      have := ih (i + 1) (by omega) (by omega)
      rw [lateN_succ, gW_cl] at this
      refine (clamp_E _).mono ?_
      rintro _ _ _ ⟨rfl, rfl, rfl⟩
      refine ⟨rfl, _, rfl, rfl, fun h1 => ⟨by rw [ints_length]; omega, by rw [ints_length]; omega, ?_⟩, fun h1 => ?_⟩
      · rw [ints_append]
        rw [if_pos (show (clW (gW L i)).d < D.getD i 0 from h1)] at this
        exact this
      · rw [if_neg (show ¬ (clW (gW L i)).d < D.getD i 0 from fun h2 => by simp only [clW] at h2; omega)] at this
        exact this
  rw [ints_length, hD]
  exact p9 _ 0 (Nat.lt_succ_self _) (Nat.zero_le _)

/-- Ticks laid into `n` places. -/
def ordR (n : Nat) (X : List Int) : List Int := (List.range n).map fun i => X.getD i (-1)
theorem ordR_len (n : Nat) (X : List Int) : (ordR n X).length = n := by simp [ordR]
theorem ordR_get {n : Nat} {X : List Int} {i : Nat} (h : i < n) : (ordR n X).getD i 0 = X.getD i (-1) := by
  rw [List.getD_eq_getElem?_getD, List.getElem?_eq_getElem (by rw [ordR_len]; exact h)]
  simp [ordR]
theorem ordR_set {n : Nat} {X : List Int} {p : Int} (h : X.length < n) : (ordR n X).set X.length p = ordR n (X ++ [p]) := by
  apply List.ext_getElem
  · simp [ordR]
  intro i h1 h2
  rw [List.getElem_set]
  simp only [ordR, List.getElem_map, List.getElem_range]
  rw [List.getD_eq_getElem?_getD, List.getD_eq_getElem?_getD]
  split
  · rename_i e; subst e; simp
  · by_cases hi : i < X.length
    · rw [List.getElem?_append_left hi]
    · rw [List.getElem?_append_right (by omega), List.getElem?_eq_none (by omega), List.getElem?_eq_none (by simp; omega)]
theorem ordR_more {n : Nat} {X Y : List Int} (h : n ≤ X.length) : ordR n (X ++ Y) = ordR n X := by
  unfold ordR
  refine List.map_congr_left fun i hi => ?_
  rw [List.mem_range] at hi
  rw [List.getD_eq_getElem?_getD, List.getD_eq_getElem?_getD, List.getElem?_append_left (by omega)]

theorem Order_E (L : List Wrk) (hl : L.length ≤ 50000) (ticks : Int) (ht : ticks ≤ 4096) : EC Try.prog G27 [] [.r (L.map encW), .i ticks] fun e rs vs => e = 0 ∧ vs = [] ∧ ∃ T, (0 ≤ ticks → EndR (L.map clW) T) ∧ rs = [ints (ordR ticks.toNat (runT (L.map clW) T (costsW (L.map clW)) 0).1)] := by
  refine E27 fun EV V => ⟨fun h0 => ⟨fun h => by omega, fun _ => ⟨h0, by omega, by omega, ?_⟩⟩, fun h => ?_⟩
  · obtain ⟨n, rfl⟩ := Int.eq_ofNat_of_zero_le h0
    rw [Int.toNat_natCast]
    have hn : n ≤ 4096 := by omega
    have p34 : ∀ (SP : List Spn) (T : Nat), RunSP (L.map clW) SP T → ∀ (B A : List Spn), SP = A ++ B → EV 34 [ints (ordR n (tksS A)), SP.map encS] [.i n, .i SP.length, .i A.length] := by
      intro SP T hR B
      obtain ⟨h1, h2, h3, h4, h5, h6⟩ := hR
      have hSPl := ChnS_le _ _ h2
      induction B with
      | nil =>
        intro A hA
        rw [List.append_nil] at hA
        subst hA
        exact V.p34 fun _ _ => ⟨fun h => by omega, fun _ => ⟨rfl, rfl, T, fun _ => h5, by rw [h4]; rfl⟩⟩
      | cons s B ih =>
        intro A hA
        have hlen := congrArg List.length hA
        rw [List.length_append, List.length_cons] at hlen
        have hg : SP[A.length]'(by omega) = s := by simp [hA]
        have hlt : A.length < SP.length := by omega
        obtain ⟨c0, c1, c2⟩ := encS_c hlt
        rw [hg] at c0 c1 c2
        rw [hA] at h2
        obtain ⟨m1, m2, m3⟩ := ChnS_mid A 0 h2
        have ht3 : (tksS A).length + (s.t - s.f).toNat ≤ T := by
          have e : tksS (s :: B) = List.replicate (s.t - s.f).toNat s.p ++ tksS B := rfl
          rw [← h3, hA, tksS_app, e, List.length_append, List.length_append, List.length_replicate]
          omega
        have nx := ih (A ++ [s]) (by rw [hA]; simp)
        rw [tksS_snoc, List.length_append] at nx
        have p48 : ∀ (d j : Nat), (s.t - s.f).toNat - j < d → j ≤ (s.t - s.f).toNat → EV 48 [ints (ordR n (tksS A ++ List.replicate j s.p)), SP.map encS] [.i n, .i (s.f + j), .i SP.length, .i A.length, .i s.f, .i s.t, .i s.p] := by
          intro d
          induction d with
          | zero => intro j h; omega
          | succ d ihd =>
            intro j hd hj
            refine V.p48 fun _ _ => ?_
            rw [mnS]
            have hXl : (tksS A ++ List.replicate j s.p).length = (s.f + j).toNat := by rw [List.length_append, List.length_replicate]; omega
            refine ⟨fun h => ?_, fun h => ?_⟩
            · have hi : (s.f + j).toNat < n := by omega
              refine ⟨by omega, by rw [ints_length, ordR_len]; omega, ints_get (by rw [ordR_len]; exact hi), ?_⟩
              rw [ints_set, ← hXl, ordR_set (by omega), List.append_assoc, wrap64 (by omega) (by omega)]
              have := ihd (j + 1) (by omega) (by omega)
              rw [List.replicate_succ'] at this
              rwa [show s.f + (j : Int) + 1 = s.f + ((j + 1 : Nat) : Int) from by omega]
            · rw [sW (n := A.length + 1) (by omega) (by omega)]
              have : ordR n (tksS A ++ List.replicate j s.p) = ordR n (tksS A ++ List.replicate (s.t - s.f).toNat s.p) := by
                by_cases hjj : j = (s.t - s.f).toNat
                · rw [hjj]
                · have e : List.replicate (s.t - s.f).toNat s.p = List.replicate j s.p ++ List.replicate ((s.t - s.f).toNat - j) s.p := by rw [List.replicate_append_replicate]; congr 1; omega
                  rw [e, ← List.append_assoc, ordR_more (X := tksS A ++ List.replicate j s.p) (by rw [hXl]; omega)]
              rw [this]; exact nx
        refine V.p34 fun _ _ => ⟨fun _ => ?_, fun h => by omega⟩
        rw [Int.toNat_natCast, List.length_map]
        refine ⟨by omega, by omega, encS_get hlt, ?_⟩
        rw [c0, c1, c2]
        have := p48 _ 0 (Nat.lt_succ_self _) (Nat.zero_le _)
        simpa using this
    have p17 : ∀ (d i : Nat), n - i < d → i ≤ n → EV 17 [ints (List.replicate i (-1) ++ List.replicate (n - i) 0)] [.r (L.map encW), .i n, .i n, .i i] := by
      intro d
      induction d with
      | zero => intro i h; omega
      | succ d ih =>
        intro i hd hi
        refine V.p17 fun _ => ⟨fun h => ?_, fun h => ?_⟩
        · have hi : i < n := by omega
          rw [Int.toNat_natCast]
          refine ⟨by omega, by rw [ints_length, List.length_append, List.length_replicate, List.length_replicate]; omega, ints_get (by rw [List.length_append, List.length_replicate, List.length_replicate]; omega), ?_⟩
          have := ih (i + 1) (by omega) (by omega)
          have e : (List.replicate i (-1) ++ List.replicate (n - i) 0).set i (-1) = (List.replicate (i + 1) (-1) ++ List.replicate (n - (i + 1)) 0 : List Int) := by
            rw [List.set_append_right _ _ (by rw [List.length_replicate]; omega), List.length_replicate, Nat.sub_self, show n - i = (n - (i + 1)) + 1 from by omega, List.replicate_succ, List.set_cons_zero, List.replicate_succ', List.append_assoc]; rfl
          rw [ints_set, e, sW (n := i + 1) (by omega) (by omega)]
          exact this
        · have hi : i = n := by omega
          subst hi
          refine (Run54_E L hl).mono ?_
          rintro _ _ _ ⟨rfl, rfl, SP, T, rfl, hR⟩
          refine ⟨rfl, _, rfl, rfl, ?_⟩
          rw [List.length_map]
          have := p34 SP T hR SP [] rfl
          have e : ordR i (tksS []) = List.replicate i (-1) ++ List.replicate (i - i) 0 := by
            apply List.ext_getElem
            · simp [ordR]
            intro j h1 h2
            simp [ordR, tksS]
          rw [e] at this
          exact this
    have := p17 _ 0 (Nat.lt_succ_self _) (Nat.zero_le _)
    have e : List.replicate n [AV.int .i64 0] = ints (List.replicate n 0) := by simp [ints]
    rw [e]
    simpa using this
  · exact ⟨rfl, rfl, 0, fun h0 => by omega, by rw [show ticks.toNat = 0 from by omega]; rfl⟩
end Go.Ab
