import Derived.Test.YtfbmlpffbjbbfaaQsS
namespace Go.Ab
open Go Go.Proofs Stb HeapM
set_option linter.unusedVariables false
set_option linter.unusedSimpArgs false
set_option maxRecDepth 100000
set_option maxHeartbeats 1000000
def EndR (C : List Wrk) (T : Nat) : Prop := Zr (runT C T (costsW C) 0).2
theorem take1 (x : List AV) : List.take 1 (List.drop 0 [x]) = [x] := rfl
theorem RunSP.en {C : List Wrk} {SP : List Spn} {T : Nat} (h : RunSP C SP T) : EndR C T := h.2.2.2.2.1
theorem encS_c {S : List Spn} {i : Nat} (h : i < S.length) : cIS (S.map encS) i 0 = S[i].f ∧ cIS (S.map encS) i 1 = S[i].t ∧ cIS (S.map encS) i 2 = S[i].p := by
 unfold cIS cellS
 rw [List.getElem?_map, List.getElem?_eq_getElem h]; exact ⟨rfl, rfl, rfl⟩
theorem encS_get {S : List Spn} {i : Nat} (h : i < S.length) : (S.map encS)[i]? = some [.int .i64 (cIS (S.map encS) i 0), .int .i64 (cIS (S.map encS) i 1), .int .i64 (cIS (S.map encS) i 2)] := by
 obtain ⟨e0, e1, e2⟩ := encS_c h
 rw [e0, e1, e2, List.getElem?_map, List.getElem?_eq_getElem h]; rfl
theorem ChnS_mid {n : Nat} {s : Spn} {B : List Spn} : ∀ (A : List Spn) (a : Int), ChnS n a (A ++ s :: B) → s.f = a + (tksS A).length ∧ s.f < s.t ∧ (s.p = -1 ∨ 0 ≤ s.p ∧ s.p.toNat < n)
 | [], a, h => ⟨by simpa [tksS] using h.1, h.2.1, h.2.2.1⟩
 | x :: A, a, ⟨h1, h2, h3, h4⟩ => by
  have := ChnS_mid A x.t h4
  refine ⟨?_, this.2⟩
  rw [this.1]
  simp only [tksS, List.flatMap_cons, List.length_append, List.length_replicate]
  omega
theorem Run25_E (L : List Wrk) (hl : L.length ≤ 50000) : EC Try.prog G6 [] [.r (L.map encW)] fun e rs vs => e = 0 ∧ vs = [] ∧ ∃ T, EndR (L.map clW) T ∧ rs = [ints (doneT (L.map clW) T (costsW (L.map clW)) (relsW (L.map clW)) 0)] := by
 refine E6 fun EV V => ?_
 have hlm : (L.map encW).length = L.length := List.length_map ..
 have p26 : ∀ (SP : List Spn) (T : Nat), RunSP (L.map clW) SP T → ∀ (B A : List Spn), SP = A ++ B → EV 26 [ints (outS (relsW (L.map clW)) A), SP.map encS] [.i SP.length, .i A.length] := by
  intro SP T hR B
  obtain ⟨h1, h2, h3, h4, h5, h6⟩ := hR
  have hSPl := ChnS_le _ _ h2
  induction B with
  | nil =>
   intro A hA
   rw [List.append_nil] at hA
   subst hA
   exact V.p26 fun _ _ => ⟨fun h => by omega, fun _ => ⟨rfl, rfl, T, h5, by rw [h6]⟩⟩
  | cons s B ih =>
   intro A hA
   have hlen := congrArg List.length hA
   rw [List.length_append, List.length_cons] at hlen
   have hg : SP[A.length]'(by omega) = s := by simp [hA]
   have hlt : A.length < SP.length := by omega
   obtain ⟨c0, c1, c2⟩ := encS_c hlt
   rw [hg] at c0 c1 c2
   rw [hA] at h2
   obtain ⟨m1, m2, m3⟩ := ChnS_mid A 0 h2
   have := ih (A ++ [s]) (by rw [hA]; simp)
   rw [outS_snoc, List.length_append] at this
   refine V.p26 fun _ _ => ⟨fun _ => ?_, fun h => by omega⟩
   rw [Int.toNat_natCast, List.length_map]
   refine ⟨by omega, by omega, encS_get hlt, ?_⟩
   rw [c1, c2, sW (n := A.length + 1) (by omega) (by omega), ints_length, outS_len]
   have hrl : (relsW (L.map clW)).length = (L.map clW).length := List.length_map ..
   rw [hrl]
   refine ⟨fun h => ?_, fun h => ?_⟩
   ·refine ⟨by omega, by omega, ints_get (by rw [outS_len, hrl]; omega), ?_⟩
    rw [ints_set]
    unfold out1 at this
    rw [if_neg h] at this
    exact this
   ·unfold out1 at this
    rw [if_pos h] at this
    exact this
 have p9 : ∀ (ws pre : List Wrk), L = pre ++ ws → EV 9 [ints (relsW (pre.map clW))] [.r (L.map encW), .r (L.map encW), .i L.length, .i pre.length] := by
  intro ws
  induction ws with
  | nil =>
   intro pre hp
   rw [List.append_nil] at hp
   subst hp
   refine V.p9 fun _ => ⟨fun h => by omega, fun _ => (Run54_E L hl).mono ?_⟩
   rintro _ _ _ ⟨rfl, rfl, SP, T, rfl, hR⟩
   refine ⟨rfl, _, rfl, rfl, ?_⟩
   rw [List.length_map]
   exact p26 SP T hR SP [] rfl
  | cons w ws ih =>
   intro pre hp
   have hlen := congrArg List.length hp
   rw [List.length_append, List.length_cons] at hlen
   have hw : gW L pre.length = w := by rw [hp]; unfold gW; simp [List.getD_eq_getElem?_getD]
   have e : relsW ((pre ++ [w]).map clW) = relsW (pre.map clW) ++ [clZ w.r] := by simp [relsW, clW]
   have := ih (pre ++ [w]) (by rw [hp]; simp)
   rw [e, List.length_append] at this
   refine V.p9 fun _ => ⟨fun _ => ?_, fun h => by omega⟩
   rw [Int.toNat_natCast]
   refine ⟨by omega, encW_get (by omega), ?_⟩
   rw [(encW_c (L := L) (i := pre.length) (by omega)).1, hw]
   refine (clamp_E _).mono ?_
   rintro _ _ _ ⟨rfl, rfl, rfl⟩
   refine ⟨rfl, _, rfl, rfl, by rw [ints_length]; simp [relsW]; omega, by rw [ints_length]; simp [relsW]; omega, ?_⟩
   rw [take1, ints_append, sW (n := pre.length + 1) (by omega) (by omega)]
   exact this
 rw [hlm]
 exact p9 L [] rfl
def lateN (C : List Wrk) (D : List Int) (n : Nat) : List Int := ((List.range n).filter fun i => decide ((gW C i).d < D.getD i 0)).map fun (i : Nat) => (i : Int)
theorem lateN_succ (C : List Wrk) (D : List Int) (n : Nat) : lateN C D (n + 1) = if (gW C n).d < D.getD n 0 then lateN C D n ++ [(n : Int)] else lateN C D n := by
 unfold lateN
 rw [List.range_succ, List.filter_append]
 split
 ·rename_i h
  rw [List.filter_cons_of_pos (by simpa using h)]; simp
 ·rename_i h
  rw [List.filter_cons_of_neg (by simpa using h)]; simp
theorem lateN_len (C : List Wrk) (D : List Int) (n : Nat) : (lateN C D n).length ≤ n := by
 unfold lateN
 rw [List.length_map]
 have := List.length_filter_le (fun i => decide ((gW C i).d < D.getD i 0)) (List.range n)
 rwa [List.length_range] at this
theorem Late_E (L : List Wrk) (hl : L.length ≤ 50000) : EC Try.prog G5 [] [.r (L.map encW)] fun e rs vs => e = 0 ∧ vs = [] ∧ ∃ T, EndR (L.map clW) T ∧ rs = [ints (lateN (L.map clW) (doneT (L.map clW) T (costsW (L.map clW)) (relsW (L.map clW)) 0) L.length)] := by
 refine E5 fun EV V => (Run25_E L hl).mono ?_
 rintro _ _ _ ⟨rfl, rfl, T, hT, rfl⟩
 refine ⟨rfl, _, rfl, rfl, ?_⟩
 have hD : (doneT (L.map clW) T (costsW (L.map clW)) (relsW (L.map clW)) 0).length = L.length := by rw [doneT_len]; simp [relsW]
 generalize hDD : doneT (L.map clW) T (costsW (L.map clW)) (relsW (L.map clW)) 0 = D at *
 have p9 : ∀ (d i : Nat), L.length - i < d → i ≤ L.length → EV 9 [ints (lateN (L.map clW) D i), ints D] [.r (L.map encW), .i L.length, .i i] := by
  intro d
  induction d with
  | zero => intro i h; omega
  | succ d ih =>
   intro i hd hi
   refine V.p9 fun _ _ => ⟨fun h => ?_, fun h => ⟨rfl, rfl, T, hT, by rw [hDD, show i = L.length from by omega]⟩⟩
   have hi : i < L.length := by omega
   have hll := lateN_len (L.map clW) D i
   rw [Int.toNat_natCast]
   refine ⟨by omega, by rw [ints_length]; omega, ints_get (by omega), encW_get hi, ?_⟩
   rw [(encW_c hi).2.2, ints_cI, sW (n := i + 1) (by omega) (by omega)]
   have := ih (i + 1) (by omega) (by omega)
   rw [lateN_succ, gW_cl] at this
   refine (clamp_E _).mono ?_
   rintro _ _ _ ⟨rfl, rfl, rfl⟩
   refine ⟨rfl, _, rfl, rfl, fun h1 => ⟨by rw [ints_length, take1, List.length_singleton]; omega, by rw [ints_length, take1, List.length_singleton]; omega, ?_⟩, fun h1 => ?_⟩
   ·rw [take1, ints_append]
    rw [if_pos (show (clW (gW L i)).d < D.getD i 0 from h1)] at this
    exact this
   ·rw [if_neg (show ¬ (clW (gW L i)).d < D.getD i 0 from fun h2 => by simp only [clW] at h2; omega)] at this
    exact this
 rw [ints_length, hD]
 exact p9 _ 0 (Nat.lt_succ_self _) (Nat.zero_le _)
end Go.Ab
