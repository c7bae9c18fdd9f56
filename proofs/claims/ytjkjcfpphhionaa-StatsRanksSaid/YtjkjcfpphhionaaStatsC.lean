/- StatsTell: the walk of the law. For every input. -/
import Derived.Test.YtjkjcfpphhionaaStatsB
import Derived.Test.YtjkjcfpphhionaaAbLaw
namespace Go.Ab
open Go Go.Proofs
set_option linter.unusedVariables false
set_option linter.unusedSimpArgs false
set_option maxRecDepth 100000
set_option maxHeartbeats 1000000

theorem hist_len (w many : Int) : ∀ (L : List Int) (H : List Int), (L.foldl (hstep w many) H).length = H.length
  | [], H => rfl
  | x :: L, H => by rw [List.foldl_cons, hist_len w many L, hstep_len]
theorem exCw : ∀ {rows : List (List AV)}, (∀ r ∈ rows, GdL [.int .i64] r) → ∃ l : List Int, rows = ints l ∧ ∀ x ∈ l, -9223372036854775808 ≤ x ∧ x ≤ 9223372036854775807
  | [], _ => ⟨[], rfl, fun x hx => by simp at hx⟩
  | r :: rows, h => by
    obtain ⟨l, hl, hw⟩ := exCw fun x hx => h x (List.mem_cons_of_mem _ hx)
    have h0 := h r (List.mem_cons_self ..)
    simp only [GdL, GdC] at h0
    obtain ⟨_, _, e, ⟨t, rfl, hwf⟩, rfl⟩ := h0
    refine ⟨t :: l, by rw [e, hl]; rfl, fun x hx => ?_⟩
    rcases List.mem_cons.1 hx with rfl | hx
    · simp only [Lit.wf, Bool.and_eq_true, decide_eq_true_eq] at hwf
      have e1 : IntKind.min .i64 = -9223372036854775808 := rfl
      have e2 : IntKind.max .i64 = 9223372036854775807 := rfl
      rw [e1, e2] at hwf; exact hwf
    · exact hw x hx

theorem Tell35 (l : List (List AV)) (hl : l.length ≤ maxLen) (g : ∀ r ∈ l, GdL [.int .i64] r) (part : Int) (_ : (Lit.int .i64 part).wf = true) (of : Int) (_ : (Lit.int .i64 of).wf = true) (w : Int) (_ : (Lit.int .i64 w).wf = true) (many : Int) (_ : (Lit.int .i64 many).wf = true) : EC Try.prog G6 [] [.r l, .i part, .i of, .i w, .i many] fun x rs vs => x = 0 ∧ vs = [.b true] := by
  obtain ⟨L, rfl, hw⟩ := exCw g
  have hx : ∀ x ∈ L, x ≤ 9223372036854775807 := fun x h => (hw x h).2
  refine E6 fun EV V => fixed18.mono ?_
  rintro _ _ _ ⟨rfl, rfl, rfl⟩
  rw [ints_length]
  refine ⟨rfl, _, rfl, rfl, fun h => (by cases h), fun _ => ⟨fun _ => ⟨rfl, rfl⟩, fun h100 => ?_⟩⟩
  have hl : L.length ≤ 1000 := by omega
  have hS := SL_len L
  have p134 : ∀ (H : List Int), H.length ≤ 1000 → ∀ (d m : Nat), H.length - m < d → m ≤ H.length → EV 134 [ints H, ints H] [.i H.length, .i m] := by
    intro H hH d
    induction d with
    | zero => intro m hd; omega
    | succ d ih =>
      intro m hd hm
      refine V.p134 fun _ _ => ⟨fun hlt => ?_, fun _ => ⟨rfl, rfl⟩⟩
      have hmH : m < H.length := by omega
      rw [Int.toNat_natCast, show IntKind.wrap .i64 ((m : Int) + 1) = ((m + 1 : Nat) : Int) by rw [wrap64 (by omega) (by omega)]; rfl]
      exact ⟨by omega, by rw [ints_length]; omega, ints_get hmH, by rw [ints_length]; omega, ints_get hmH, fun h => absurd rfl h, fun _ => ih (m + 1) (by omega) (by omega)⟩
  have p92 : EV 92 [] [.r (ints L), .i w, .i many] := by
    refine V.p92 ((Bins_E L hl hx w many).mono ?_)
    rintro _ _ _ ⟨rfl, rfl, rfl⟩
    refine ⟨rfl, _, rfl, rfl, ?_⟩
    have no : ¬ binC w many → (0 : Nat) = 0 ∧ [Lf.b ((((if binC w many then ints (hist w many L) else []).length : Nat) : Int) == (0 : Int))] = [Lf.b true] := fun h => by rw [if_neg h]; exact ⟨rfl, rfl⟩
    refine ⟨fun h1 => ⟨fun h2 => ⟨fun h3 => ⟨fun h4 => no fun h => by have := h.2.2.2; omega, fun h4 => ⟨by omega, by omega, by omega, ?_⟩⟩, fun h3 => no fun h => by have := h.2.2.1; omega⟩, fun h2 => no fun h => by have := h.2.1; omega⟩, fun h1 => no fun h => by have := h.1; omega⟩
    have hc : binC w many := ⟨h1, h2, h3, h4⟩
    rw [if_pos hc, ints_rep, ints_length]
    have hHl : (hist w many L).length = many.toNat := by unfold hist; rw [hist_len]; simp
    have p109 : ∀ (d m : Nat) (H : List Int), L.length - m < d → m ≤ L.length → H.length = many.toNat → (L.drop m).foldl (hstep w many) H = hist w many L → EV 109 [ints (hist w many L), ints H] [.i w, .i many, .r (ints L), .i L.length, .i m] := by
      intro d
      induction d with
      | zero => intro m H hd; omega
      | succ d ih =>
        intro m H hd hm hH hs
        refine V.p109 fun _ _ => ⟨fun hlt => ?_, fun hge => ?_⟩
        · have hmL : m < L.length := by omega
          rw [Int.toNat_natCast, show IntKind.wrap .i64 ((m : Int) + 1) = ((m + 1 : Nat) : Int) by rw [wrap64 (by omega) (by omega)]; rfl]
          have hxm : cIS (ints L) m 0 ≤ 9223372036854775807 := by
            rw [ints_cI, List.getD_eq_getElem?_getD, List.getElem?_eq_getElem hmL]; exact hx _ (List.getElem_mem hmL)
          have b0 := binZ_b (x := cIS (ints L) m 0) hc
          refine ⟨by omega, ints_get hmL, (RBin_E _ w many hc hxm).mono ?_⟩
          rintro _ _ _ ⟨rfl, rfl, rfl⟩
          refine ⟨rfl, _, rfl, rfl, ?_⟩
          have hb : (binZ (cIS (ints L) m 0) w many).toNat < H.length := by omega
          rw [ints_set]
          refine ⟨by omega, by rw [ints_length]; omega, ints_get hb, ih (m + 1) _ (by omega) (by omega) (by simpa using hH) ?_⟩
          rw [drop_cI hmL, List.foldl_cons] at hs
          exact hs
        · rw [List.drop_of_length_le (by omega)] at hs
          have hs : H = hist w many L := hs
          subst hs
          rw [ints_length, hHl]
          refine ⟨fun h => absurd (by omega) h, fun _ => ?_⟩
          have := p134 (hist w many L) (by omega) _ 0 (Nat.lt_succ_self _) (by omega)
          rw [hHl] at this
          exact this
    exact p109 _ 0 _ (Nat.lt_succ_self _) (by omega) (by simp) rfl
  have p59 : EV 59 [ints (SL L)] [.r (ints L), .i part, .i of, .i w, .i many] := by
    refine V.p59 fun _ => (Rank_E (of := of) L hl part).mono ?_
    rintro _ _ _ ⟨rfl, rfl, rfl⟩
    rw [ints_length]
    by_cases hc : rankC L.length part of
    · obtain ⟨c0, c1, c2, c3, c4⟩ := hc
      have hc : rankC L.length part of := ⟨c0, c1, c2, c3, c4⟩
      obtain ⟨a1, a2, a3, a4, a5, a6, a7⟩ := atQ_b hc hl
      rw [if_pos hc]
      refine ⟨rfl, _, _, rfl, rfl, fun _ => ⟨fun _ => ⟨fun _ => ⟨fun _ => ⟨fun h => by omega, fun _ => ?_⟩, fun h => by omega⟩, fun h => by omega⟩, fun h => by omega⟩, fun h => by omega⟩
      have p77 : ∀ (d j : Nat), (atQ L.length part of).toNat - j < d → (j : Int) ≤ atQ L.length part of → EV 77 [ints (SL L)] [.r (ints L), .i part, .i of, .i w, .i many, .i (cIS (ints (SL L)) (max (atQ L.length part of - 1) 0).toNat 0), .b true, .i j] := by
        intro d
        induction d with
        | zero => intro j hd; omega
        | succ d ih =>
          intro j hd hj
          have b1 : (j : Int) * of ≤ of * atQ L.length part of := by rw [Int.mul_comm]; exact Int.mul_le_mul_of_nonneg_left hj (by omega)
          have b0 : 0 ≤ (j : Int) * of := Int.mul_nonneg (by omega) (by omega)
          refine V.p77 fun _ => ?_
          rw [ints_length, wrap64 (x := (j : Int) * of) (by omega) (by omega), wrap64 (x := (L.length : Int) * part) (by omega) (by omega), show IntKind.wrap .i64 ((j : Int) + 1) = ((j + 1 : Nat) : Int) by rw [wrap64 (by omega) (by omega)]; rfl]
          refine ⟨fun hlt => ?_, fun hge => ⟨fun _ => ?_, fun h => by cases h⟩⟩
          · have hjq : (j : Int) < atQ L.length part of := by
              apply Int.lt_of_mul_lt_mul_left (a := of) _ (by omega)
              rw [Int.mul_comm of j]
              omega
            exact ih (j + 1) (by omega) (by omega)
          · have ej : (j : Int) = atQ L.length part of := by
              refine Int.le_antisymm hj (Int.le_of_lt_add_one ?_)
              apply Int.lt_of_mul_lt_mul_left (a := of) _ (by omega)
              rw [Int.mul_add, Int.mul_comm of j, Int.mul_one]
              omega
            have eK : arS.mx (IntKind.wrap .i64 ((j : Int) - (1 : Int))) (0 : Int) = (((max (atQ L.length part of - 1) 0).toNat : Nat) : Int) := by
              rw [wrap64 (x := (j : Int) - 1) (by omega) (by omega), mxS, ej]; omega
            rw [eK, Int.toNat_natCast]
            exact ⟨by omega, by rw [ints_length]; omega, ints_get (by omega), fun h => absurd rfl h, fun _ => p92⟩
      exact p77 _ 0 (Nat.lt_succ_self _) (by omega)
    · rw [if_neg hc]
      have ok : (false = false → ((0 : Int) ≠ 0 → (0 : Nat) = 0 ∧ [Lf.b false] = [Lf.b true]) ∧ ((0 : Int) = 0 → EV 92 [] [.r (ints L), .i w, .i many])) ∧ (false = true → (0 : Nat) = 0 ∧ [Lf.b false] = [Lf.b true]) := ⟨fun _ => ⟨fun h => absurd rfl h, fun _ => p92⟩, fun h => by cases h⟩
      exact ⟨rfl, _, _, rfl, rfl, fun h0 => ⟨fun h1 => ⟨fun h2 => ⟨fun h3 => ⟨fun _ => ok, fun h4 => absurd ⟨by omega, h1, h2, h3, h4⟩ hc⟩, fun _ => ok⟩, fun _ => ok⟩, fun _ => ok⟩, fun _ => ok⟩
  refine (RSorted_E L hl).mono ?_
  rintro _ _ _ ⟨rfl, rfl, rfl⟩
  refine ⟨rfl, _, rfl, rfl, ?_⟩
  by_cases h0 : L.length = 0
  · obtain rfl := List.eq_nil_of_length_eq_zero h0
    refine Of_nil.mono ?_
    rintro _ _ _ ⟨rfl, rfl, rfl⟩
    exact ⟨rfl, _, _, _, _, _, rfl, rfl, fun _ => ⟨fun h => absurd h (by decide), fun _ => p59⟩, fun h => absurd rfl h⟩
  · refine (Of_E L h0 hl).mono ?_
    rintro _ _ _ ⟨rfl, rfl, rfl⟩
    refine ⟨rfl, _, _, _, _, _, rfl, rfl, fun h => by omega, fun _ => ?_⟩
    have p40 : ∀ (d m : Nat) (s : Int), L.length - m < d → m ≤ L.length → sumW ((SL L).drop m) s = sumW (SL L) 0 → EV 40 [ints (SL L)] [.r (ints L), .i part, .i of, .i w, .i many, .i s, .i L.length, .i m, .i L.length, .i (cIS (ints (SL L)) 0 0), .i (cIS (ints (SL L)) (L.length - 1) 0), .i (sumW (SL L) 0), .i (cIS (ints (SL L)) ((L.length - 1) / 2) 0)] := by
      intro d
      induction d with
      | zero => intro m s hd; omega
      | succ d ih =>
        intro m s hd hm hs
        refine V.p40 fun _ => ⟨fun hlt => ?_, fun hge => ?_⟩
        · have hmL : m < (SL L).length := by omega
          rw [Int.toNat_natCast, show IntKind.wrap .i64 ((m : Int) + 1) = ((m + 1 : Nat) : Int) by rw [wrap64 (by omega) (by omega)]; rfl]
          refine ⟨by omega, by rw [ints_length]; omega, ints_get hmL, ih (m + 1) _ (by omega) (by omega) ?_⟩
          rw [drop_cI hmL] at hs
          exact hs
        · rw [List.drop_of_length_le (by omega)] at hs
          have hs : s = sumW (SL L) 0 := hs
          have e1 : IntKind.wrap .i64 (((ints (SL L)).length : Int) - 1) = ((L.length - 1 : Nat) : Int) := by rw [ints_length, hS, wrap64 (by omega) (by omega)]; omega
          have e2 : IntKind.wrap .i64 (Int.tdiv ((L.length - 1 : Nat) : Int) 2) = (((L.length - 1) / 2 : Nat) : Int) := by
            rw [show Int.tdiv ((L.length - 1 : Nat) : Int) 2 = (((L.length - 1) / 2 : Nat) : Int) from rfl, wrap64 (by omega) (by omega)]
          rw [e1, e2, hs]
          simp only [Int.toNat_natCast]
          refine ⟨by rw [ints_length]; omega, ints_get (by omega), by omega, by rw [ints_length]; omega, ints_get (by omega), by omega, by rw [ints_length]; omega, ints_get (by omega), fun h => ?_, fun _ => p59⟩
          rw [ints_length] at h
          simp at h
    rw [ints_length, hS]
    exact p40 _ 0 0 (Nat.lt_succ_self _) (by omega) rfl
end Go.Ab
