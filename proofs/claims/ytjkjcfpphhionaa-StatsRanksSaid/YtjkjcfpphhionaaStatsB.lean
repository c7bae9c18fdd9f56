/- Stats: summary, ranks, bins: what the program's and the document's functions compute. For every input. -/
import Derived.Test.YtjkjcfpphhionaaStatsA
namespace Go.Ab
open Go Go.Proofs
set_option linter.unusedVariables false
set_option linter.unusedSimpArgs false
set_option maxRecDepth 100000
set_option maxHeartbeats 1000000

def sumW (l : List Int) (s : Int) : Int := l.foldl (fun s x => IntKind.wrap .i64 (s + x)) s
theorem drop_cI {S : List Int} {m : Nat} (h : m < S.length) : S.drop m = cIS (ints S) m 0 :: S.drop (m + 1) := by
  rw [List.drop_eq_getElem_cons h, ints_cI, List.getD_eq_getElem?_getD, List.getElem?_eq_getElem h]; rfl

theorem Of_nil : EC Try.prog G20 [] [.r (ints [])] fun x rs vs => x = 0 ∧ rs = [] ∧ vs = [.i 0, .i 0, .i 0, .i 0, .i 0] :=
  E20 fun EV V => ⟨fun _ => ⟨rfl, rfl, rfl⟩, fun h => absurd rfl h⟩
theorem Of_E (L : List Int) (h0 : L.length ≠ 0) (hl : L.length ≤ 1000) : EC Try.prog G20 [] [.r (ints L)] fun x rs vs => x = 0 ∧ rs = [] ∧ vs = [.i L.length, .i (cIS (ints (SL L)) 0 0), .i (cIS (ints (SL L)) (L.length - 1) 0), .i (sumW (SL L) 0), .i (cIS (ints (SL L)) ((L.length - 1) / 2) 0)] := by
  have hS := SL_len L
  refine E20 fun EV V => ⟨fun h => absurd (by simpa using h) h0, fun _ => (Sorted_E L hl).mono ?_⟩
  rintro _ _ _ ⟨rfl, rfl, rfl⟩
  have e1 : IntKind.wrap .i64 (((ints (SL L)).length : Int) - 1) = ((L.length - 1 : Nat) : Int) := by rw [ints_length, hS, wrap64 (by omega) (by omega)]; omega
  have e2 : IntKind.wrap .i64 (Int.tdiv ((L.length - 1 : Nat) : Int) 2) = (((L.length - 1) / 2 : Nat) : Int) := by
    rw [show Int.tdiv ((L.length - 1 : Nat) : Int) 2 = (((L.length - 1) / 2 : Nat) : Int) from rfl, wrap64 (by omega) (by omega)]
  refine ⟨rfl, _, rfl, rfl, ?_⟩
  rw [e1, e2]
  simp only [Int.toNat_natCast]
  refine ⟨by rw [ints_length]; omega, ints_get (by omega), by omega, by rw [ints_length]; omega, ints_get (by omega), by omega, by rw [ints_length]; omega, ints_get (by omega), V.p14 fun _ => ?_⟩
  have p19 : ∀ (d m : Nat) (b0 b1 b2 b3 b4 c0 c1 c2 s c4 : Int), L.length - m < d → m ≤ L.length → c0 = L.length → c1 = cIS (ints (SL L)) 0 0 → c2 = cIS (ints (SL L)) (L.length - 1) 0 → c4 = cIS (ints (SL L)) ((L.length - 1) / 2) 0 → sumW ((SL L).drop m) s = sumW (SL L) 0 → EV 19 [ints (SL L)] [.i L.length, .i m, .i b0, .i b1, .i b2, .i b3, .i b4, .i c0, .i c1, .i c2, .i s, .i c4] := by
    intro d
    induction d with
    | zero => intro m _ _ _ _ _ _ _ _ _ _ hd; omega
    | succ d ih =>
      intro m b0 b1 b2 b3 b4 c0 c1 c2 s c4 hd hm q0 q1 q2 q4 hs
      refine V.p19 fun _ => ⟨fun hlt => ?_, fun hge => ?_⟩
      · have hmL : m < (SL L).length := by omega
        rw [Int.toNat_natCast, show IntKind.wrap .i64 ((m : Int) + 1) = ((m + 1 : Nat) : Int) by rw [wrap64 (by omega) (by omega)]; rfl]
        refine ⟨by omega, by rw [ints_length]; omega, ints_get hmL, ih (m + 1) _ _ _ _ _ _ _ _ _ _ (by omega) (by omega) q0 q1 q2 q4 ?_⟩
        rw [drop_cI hmL] at hs
        exact hs
      · rw [List.drop_of_length_le (by omega)] at hs
        refine ⟨rfl, rfl, ?_⟩
        rw [q0, q1, q2, q4, ← hs]; rfl
  rw [ints_length, hS]
  exact p19 _ 0 _ _ _ _ _ _ _ _ _ _ (Nat.lt_succ_self _) (by omega) rfl rfl rfl rfl rfl

/-! ### ranks -/
def rankC (n : Nat) (part of : Int) : Prop := n ≠ 0 ∧ 1 ≤ of ∧ of ≤ 1048576 ∧ 0 ≤ part ∧ part ≤ of
instance (n : Nat) (part of : Int) : Decidable (rankC n part of) := by unfold rankC; infer_instance
def atQ (n : Nat) (part of : Int) : Int := ((n : Int) * part + of - 1) / of
theorem atQ_b {n : Nat} {part of : Int} (h : rankC n part of) (hn : n ≤ 1000) : 0 ≤ (n : Int) * part ∧ (n : Int) * part ≤ n * of ∧ (n : Int) * of ≤ 1000 * 1048576 ∧ of * atQ n part of ≤ (n : Int) * part + of - 1 ∧ (n : Int) * part + of - 1 < of * atQ n part of + of ∧ 0 ≤ atQ n part of ∧ atQ n part of ≤ n := by
  obtain ⟨h0, h1, h2, h3, h4⟩ := h
  have a1 : 0 ≤ (n : Int) * part := Int.mul_nonneg (by omega) h3
  have a2 : (n : Int) * part ≤ n * of := Int.mul_le_mul_of_nonneg_left h4 (by omega)
  have a3 : (n : Int) * of ≤ 1000 * 1048576 := Int.mul_le_mul (by omega) h2 (by omega) (by omega)
  have a4 : of * atQ n part of ≤ (n : Int) * part + of - 1 := Int.mul_ediv_self_le (by omega)
  have a5 : (n : Int) * part + of - 1 < of * atQ n part of + of := Int.lt_mul_ediv_self_add (by omega)
  have a6 : 0 ≤ atQ n part of := Int.ediv_nonneg (by omega) (by omega)
  refine ⟨a1, a2, a3, a4, a5, a6, ?_⟩
  apply Int.le_of_lt_add_one
  apply Int.lt_of_mul_lt_mul_left (a := of) _ (by omega)
  rw [Int.mul_add, Int.mul_comm of n]
  omega
theorem Rank_E (L : List Int) (hl : L.length ≤ 1000) (part of : Int) : EC Try.prog G21 [] [.r (ints L), .i part, .i of] fun x rs vs => x = 0 ∧ rs = [] ∧ vs = if rankC L.length part of then [.i (cIS (ints (SL L)) (max (atQ L.length part of - 1) 0).toNat 0), .b true] else [.i 0, .b false] := by
  have hS := SL_len L
  have no : ¬ rankC L.length part of → (0 : Nat) = 0 ∧ ([] : Rs) = [] ∧ [Lf.i 0, Lf.b false] = if rankC L.length part of then [.i (cIS (ints (SL L)) (max (atQ L.length part of - 1) 0).toNat 0), .b true] else [.i 0, .b false] := fun h => ⟨rfl, rfl, by rw [if_neg h]⟩
  refine E21 fun EV V => ?_
  rw [ints_length]
  refine ⟨fun h0 => ⟨fun h1 => ⟨fun h2 => ⟨fun h3 => ⟨fun h4 => no fun h => by have := h.2.2.2.2; omega, fun h4 => ⟨by omega, (Sorted_E L hl).mono ?_⟩⟩, fun h3 => no fun h => by have := h.2.2.2.1; omega⟩, fun h2 => no fun h => by have := h.2.2.1; omega⟩, fun h1 => no fun h => by have := h.2.1; omega⟩, fun h0 => no fun h => by have := h.1; omega⟩
  rintro _ _ _ ⟨rfl, rfl, rfl⟩
  have hc : rankC L.length part of := ⟨by omega, h1, h2, h3, h4⟩
  obtain ⟨a1, a2, a3, a4, a5, a6, a7⟩ := atQ_b hc hl
  have ed : Int.tdiv ((L.length : Int) * part + of - 1) of = atQ L.length part of := Int.tdiv_eq_ediv_of_nonneg (by omega)
  have eK : arS.mx (IntKind.wrap .i64 ((IntKind.wrap .i64 (Int.tdiv (IntKind.wrap .i64 ((IntKind.wrap .i64 ((IntKind.wrap .i64 ((L.length : Int) * part)) + of)) - (1 : Int))) of)) - (1 : Int))) (0 : Int) = (((max (atQ L.length part of - 1) 0).toNat : Nat) : Int) := by
    rw [wrap64 (x := (L.length : Int) * part) (by omega) (by omega), wrap64 (x := (L.length : Int) * part + of) (by omega) (by omega), wrap64 (x := (L.length : Int) * part + of - 1) (by omega) (by omega), ed, wrap64 (x := atQ L.length part of) (by omega) (by omega), wrap64 (by omega) (by omega), mxS]
    omega
  rw [eK, Int.toNat_natCast]
  refine ⟨rfl, _, rfl, rfl, by omega, by rw [ints_length]; omega, ints_get (by omega), rfl, rfl, ?_⟩
  rw [if_pos hc]

/-! ### bins -/
def binC (w many : Int) : Prop := 1 ≤ w ∧ w ≤ 1048576 ∧ 1 ≤ many ∧ many ≤ 256
instance (w many : Int) : Decidable (binC w many) := by unfold binC; infer_instance
def binZ (x w many : Int) : Int := min (max x 0 / w) (many - 1)
def hstep (w many : Int) (H : List Int) (x : Int) : List Int := H.set (binZ x w many).toNat (IntKind.wrap .i64 (cIS (ints H) (binZ x w many).toNat 0 + 1))
def hist (w many : Int) (L : List Int) : List Int := L.foldl (hstep w many) (List.replicate many.toNat 0)
theorem hstep_len (w many : Int) (H : List Int) (x : Int) : (hstep w many H x).length = H.length := by simp [hstep]
theorem binZ_b {x w many : Int} (h : binC w many) : 0 ≤ binZ x w many ∧ binZ x w many < many := by
  obtain ⟨h1, h2, h3, h4⟩ := h
  have : 0 ≤ max x 0 / w := Int.ediv_nonneg (by omega) (by omega)
  unfold binZ; omega
theorem ints_rep (n : Nat) : List.replicate n [AV.int .i64 0] = ints (List.replicate n 0) := by simp [ints]

theorem Bins_E (L : List Int) (hl : L.length ≤ 1000) (hx : ∀ x ∈ L, x ≤ 9223372036854775807) (w many : Int) : EC Try.prog G22 [] [.r (ints L), .i w, .i many] fun x rs vs => x = 0 ∧ rs = [if binC w many then ints (hist w many L) else []] ∧ vs = [] := by
  have no : ¬ binC w many → (0 : Nat) = 0 ∧ [([] : List (List AV))] = [if binC w many then ints (hist w many L) else []] ∧ ([] : List Lf) = [] := fun h => ⟨rfl, by rw [if_neg h], rfl⟩
  refine E22 fun EV V => ⟨fun h1 => ⟨fun h2 => ⟨fun h3 => ⟨fun h4 => no fun h => by have := h.2.2.2; omega, fun h4 => ⟨by omega, by omega, by omega, ?_⟩⟩, fun h3 => no fun h => by have := h.2.2.1; omega⟩, fun h2 => no fun h => by have := h.2.1; omega⟩, fun h1 => no fun h => by have := h.1; omega⟩
  have hc : binC w many := ⟨h1, h2, h3, h4⟩
  have p17 : ∀ (d m : Nat) (H : List Int), L.length - m < d → m ≤ L.length → H.length = many.toNat → (L.drop m).foldl (hstep w many) H = hist w many L → EV 17 [ints H] [.i w, .i many, .r (ints L), .i L.length, .i m] := by
    intro d
    induction d with
    | zero => intro m H hd; omega
    | succ d ih =>
      intro m H hd hm hH hs
      refine V.p17 fun _ => ⟨fun hlt => ?_, fun hge => ?_⟩
      · have hmL : m < L.length := by omega
        rw [Int.toNat_natCast, show IntKind.wrap .i64 ((m : Int) + 1) = ((m + 1 : Nat) : Int) by rw [wrap64 (by omega) (by omega)]; rfl]
        have hxm : cIS (ints L) m 0 ≤ 9223372036854775807 := by
          rw [ints_cI, List.getD_eq_getElem?_getD, List.getElem?_eq_getElem hmL]; exact hx _ (List.getElem_mem hmL)
        have b0 := binZ_b (x := cIS (ints L) m 0) hc
        have d0 : 0 ≤ max (cIS (ints L) m 0) 0 / w := Int.ediv_nonneg (by omega) (by omega)
        have d1 : max (cIS (ints L) m 0) 0 / w ≤ max (cIS (ints L) m 0) 0 := Int.ediv_le_self _ (by omega)
        have eK : arS.mn (IntKind.wrap .i64 (Int.tdiv (arS.mx (cIS (ints L) m 0) (0 : Int)) w)) (IntKind.wrap .i64 (many - (1 : Int))) = (((binZ (cIS (ints L) m 0) w many).toNat : Nat) : Int) := by
          rw [mnS, mxS, Int.tdiv_eq_ediv_of_nonneg (by omega), wrap64 (x := max (cIS (ints L) m 0) 0 / w) (by omega) (by omega), wrap64 (by omega) (by omega)]
          unfold binZ at b0 ⊢
          omega
        rw [eK, Int.toNat_natCast, ints_set]
        have hb : (binZ (cIS (ints L) m 0) w many).toNat < H.length := by omega
        refine ⟨by omega, ints_get hmL, by omega, by omega, by rw [ints_length]; omega, ints_get hb, ih (m + 1) _ (by omega) (by omega) (by simpa using hH) ?_⟩
        rw [drop_cI hmL, List.foldl_cons] at hs
        exact hs
      · rw [List.drop_of_length_le (by omega)] at hs
        refine ⟨rfl, ?_, rfl⟩
        rw [if_pos hc, ← hs]; rfl
  rw [ints_rep, ints_length]
  exact p17 _ 0 _ (Nat.lt_succ_self _) (by omega) (by simp) rfl

theorem RBin_E (x w many : Int) (hc : binC w many) (hx : x ≤ 9223372036854775807) : EC Try.prog G23 [] [.i x, .i w, .i many] fun y rs vs => y = 0 ∧ rs = [] ∧ vs = [.i (binZ x w many)] := by
  obtain ⟨h1, h2, h3, h4⟩ := hc
  refine E23 fun EV V => ?_
  have p7 : ∀ (d : Nat) (b : Nat), (many - 1).toNat - b < d → (b : Int) ≤ many - 1 → (b = 0 ∨ (b : Int) * w ≤ x) → EV 7 [] [.i x, .i w, .i many, .i b] := by
    intro d
    induction d with
    | zero => intro b hd; omega
    | succ d ih =>
      intro b hd hb hi
      have ew : IntKind.wrap .i64 (many - 1) = many - 1 := wrap64 (by omega) (by omega)
      have eb : IntKind.wrap .i64 ((b : Int) + 1) = ((b + 1 : Nat) : Int) := by rw [wrap64 (by omega) (by omega)]; rfl
      have m0 : 0 ≤ ((b + 1 : Nat) : Int) * w := Int.mul_nonneg (by omega) (by omega)
      have m1 : ((b + 1 : Nat) : Int) * w ≤ 256 * 1048576 := Int.mul_le_mul (by omega) h2 (by omega) (by omega)
      have m2 : ((b + 1 : Nat) : Int) * w = (b : Int) * w + w := by rw [show ((b + 1 : Nat) : Int) = (b : Int) + 1 by rfl, Int.add_mul, Int.one_mul]
      have m3 : 0 ≤ (b : Int) * w := Int.mul_nonneg (by omega) (by omega)
      refine V.p7 ?_
      rw [ew, eb, wrap64 (x := ((b + 1 : Nat) : Int) * w) (by omega) (by omega)]
      refine ⟨fun hlt => ⟨fun h => ⟨rfl, rfl, ?_⟩, fun h => ih (b + 1) (by omega) (by omega) (.inr (by omega))⟩, fun hge => ⟨rfl, rfl, ?_⟩⟩
      · have e : max x 0 / w = b := by
          have q1 : (b : Int) * w ≤ max x 0 := by
            rcases hi with h0 | h0
            · subst h0; simp; omega
            · omega
          have q2 : max x 0 < ((b : Int) + 1) * w := by rw [Int.add_mul, Int.one_mul]; omega
          exact Int.le_antisymm (Int.le_of_lt_add_one (Int.ediv_lt_of_lt_mul (by omega) q2)) (Int.le_ediv_of_mul_le (by omega) q1)
        unfold binZ
        rw [e]
        congr 2
        omega
      · have e : (b : Int) ≤ max x 0 / w := by
          refine Int.le_ediv_of_mul_le (by omega) ?_
          rcases hi with h0 | h0
          · subst h0; simp; omega
          · omega
        unfold binZ
        congr 2
        omega
  exact p7 _ 0 (Nat.lt_succ_self _) (by omega) (.inl rfl)
end Go.Ab
