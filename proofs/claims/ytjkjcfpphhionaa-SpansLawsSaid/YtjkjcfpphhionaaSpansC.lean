/- Spans: the walks of the program's functions. For every input within a thousand spans. -/
import Derived.Test.YtjkjcfpphhionaaSpV
import Derived.Test.YtjkjcfpphhionaaSpansB
import Derived.Test.YtjkjcfpphhionaaSpansQ
namespace Go.Ab
open Go Go.Proofs Spn
set_option linter.unusedVariables false
set_option linter.unusedSimpArgs false
set_option maxRecDepth 100000
set_option maxHeartbeats 1000000

abbrev R2 (L : List Sp) : List (List AV) := rowF eiS L
theorem R2_len (L : List Sp) : (R2 L).length = L.length := by simp [rowF]
theorem R2_c0 (L : List Sp) (i : Nat) : cIS (R2 L) i 0 = (L.getD i ⟨0, 0⟩).f := by
  unfold cIS cellS
  simp only [R2, rowF, List.getElem?_map, List.getD_eq_getElem?_getD]
  cases L[i]? <;> rfl
theorem R2_c1 (L : List Sp) (i : Nat) : cIS (R2 L) i 1 = (L.getD i ⟨0, 0⟩).t := by
  unfold cIS cellS
  simp only [R2, rowF, List.getElem?_map, List.getD_eq_getElem?_getD]
  cases L[i]? <;> rfl
theorem R2_get {L : List Sp} {i : Nat} (h : i < L.length) : (R2 L)[i]? = some [.int .i64 (cIS (R2 L) i 0), .int .i64 (cIS (R2 L) i 1)] := by
  rw [R2_c0, R2_c1]
  simp only [R2, rowF, List.getElem?_map, List.getD_eq_getElem?_getD, List.getElem?_eq_getElem h]
  rfl
theorem R2_app (L : List Sp) (a b : Int) : R2 L ++ [[.int .i64 a, .int .i64 b]] = R2 (L ++ [⟨a, b⟩]) := by simp [rowF, eiS]
theorem R2_apps (L K : List Sp) : R2 L ++ R2 K = R2 (L ++ K) := by simp [rowF]
theorem R2_set (L : List Sp) (i : Nat) (a b : Int) : (R2 L).set i [.int .i64 a, .int .i64 b] = R2 (L.set i ⟨a, b⟩) := by simp [rowF, eiS, List.map_set]
theorem getD_of {L : List Sp} {i : Nat} (h : i < L.length) : L.getD i ⟨0, 0⟩ = L[i] := by simp [List.getD_eq_getElem?_getD, h]
theorem getD_snoc (L : List Sp) (t : Sp) : (L ++ [t]).getD L.length ⟨0, 0⟩ = t := by simp [List.getD_eq_getElem?_getD]

def clampI (x : Int) : Int := min (max x (-1099511627776)) 1099511627776
theorem clampI_b (x : Int) : -1099511627776 ≤ clampI x ∧ clampI x ≤ 1099511627776 := by unfold clampI; omega
def cS (s : Sp) : Sp := ⟨clampI s.f, clampI s.t⟩
def CL (L : List Sp) : List Sp := L.map cS
def PF (L : List Sp) : List Sp := (CL L).filter fun s => decide (s.f < s.t)
def Bd (s : Sp) : Prop := (-1099511627776 ≤ s.f ∧ s.f ≤ 1099511627776) ∧ (-1099511627776 ≤ s.t ∧ s.t ≤ 1099511627776)
theorem CL_bd {L : List Sp} : ∀ s ∈ CL L, Bd s := fun s h => by
  obtain ⟨x, _, rfl⟩ := List.mem_map.1 h
  exact ⟨clampI_b _, clampI_b _⟩
theorem PF_bd {L : List Sp} : ∀ s ∈ PF L, Bd s := fun s h => CL_bd s (List.mem_filter.1 h).1
theorem PF_lt {L : List Sp} : ∀ s ∈ PF L, s.f < s.t := fun s h => by simpa using (List.mem_filter.1 h).2
theorem PF_mem {L : List Sp} {n : Int} : mem (PF L) n ↔ mem (CL L) n := by
  constructor
  · rintro ⟨s, hs, h⟩; exact ⟨s, (List.mem_filter.1 hs).1, h⟩
  · rintro ⟨s, hs, h⟩; exact ⟨s, List.mem_filter.2 ⟨hs, by simp only [decide_eq_true_eq]; omega⟩, h⟩
theorem PF_len (L : List Sp) : (PF L).length ≤ L.length := Nat.le_trans (List.length_filter_le _ _) (by simp [CL])
theorem PF_take {L : List Sp} {m : Nat} (h : m < L.length) : PF (L.take (m + 1)) = PF (L.take m) ++ (if (cS L[m]).f < (cS L[m]).t then [cS L[m]] else []) := by
  unfold PF CL
  rw [List.take_succ_eq_append_getElem h, List.map_append, List.filter_append]
  congr 1
  simp only [List.map_cons, List.map_nil, List.filter_cons, List.filter_nil, decide_eq_true_eq]

theorem Clamp_E (a : Int) : EC Try.prog G50 [] [.i a] fun x rs vs => x = 0 ∧ rs = [] ∧ vs = [.i (clampI a)] := E50 fun EV V => ⟨rfl, rfl, by rw [mnS, mxS]; rfl⟩
theorem RClamp_E (a : Int) : EC Try.prog G52 [] [.i a] fun x rs vs => x = 0 ∧ rs = [] ∧ vs = [.i (clampI a)] := by
  refine E52 fun EV V => ⟨fun h => ⟨rfl, rfl, ?_⟩, fun h => ⟨fun h2 => ⟨rfl, rfl, ?_⟩, fun h2 => ⟨rfl, rfl, ?_⟩⟩⟩ <;> (congr 2; unfold clampI; omega)
theorem Size_E (a b : Int) (h0 : -9000000000000000000 ≤ b - a) (h1 : b - a ≤ 9000000000000000000) : EC Try.prog G51 [] [.i a, .i b] fun x rs vs => x = 0 ∧ rs = [] ∧ vs = [.i (b - a)] := E51 fun EV V => ⟨rfl, rfl, by rw [wrap64 (by omega) (by omega)]⟩
theorem w1 (m : Nat) (h : m < 100000) : IntKind.wrap .i64 ((m : Int) + 1) = ((m + 1 : Nat) : Int) := by rw [wrap64 (by omega) (by omega)]; rfl

theorem Proper_E (L : List Sp) (hl : L.length ≤ 1000) : EC Try.prog G48 [] [.r (R2 L)] fun x rs vs => x = 0 ∧ (∃ L', SortedF cfF (PF L) L' ∧ rs = [R2 L']) ∧ vs = [] := by
  refine E48 fun EV V => ?_
  have loop : ∀ (d m : Nat), L.length - m < d → m ≤ L.length → EV 9 [R2 (PF (L.take m))] [.r (R2 L), .i L.length, .i m] := by
    intro d
    induction d with
    | zero => intro m hd; omega
    | succ d ih =>
      intro m hd hm
      have hPl : (PF (L.take m)).length ≤ 1000 := Nat.le_trans (PF_len _) (by rw [List.length_take]; omega)
      refine V.p9 fun _ => ⟨fun hlt => ?_, fun hge => ?_⟩
      · have hmL : m < L.length := by omega
        have e0 : clampI (cIS (R2 L) m 0) = (cS L[m]).f := by rw [R2_c0, getD_of hmL]; rfl
        have e1 : clampI (cIS (R2 L) m 1) = (cS L[m]).t := by rw [R2_c1, getD_of hmL]; rfl
        have hnext : EV 21 [R2 (PF (L.take m))] [.r (R2 L), .i L.length, .i m, .i (clampI (cIS (R2 L) m 0)), .i (clampI (cIS (R2 L) m 1))] := by
          have hb0 := clampI_b (cIS (R2 L) m 0)
          have hb1 := clampI_b (cIS (R2 L) m 1)
          refine V.p21 fun _ => (Size_E _ _ (by omega) (by omega)).mono ?_
          rintro _ _ _ ⟨rfl, rfl, rfl⟩
          have hi := ih (m + 1) (by omega) (by omega)
          rw [PF_take hmL] at hi
          rw [w1 m (by omega), R2_len, R2_app, e0, e1]
          refine ⟨rfl, _, rfl, rfl, fun hp => ⟨by omega, by omega, ?_⟩, fun hp => ?_⟩
          · rw [if_pos (by omega)] at hi; exact hi
          · rw [if_neg (by omega), List.append_nil] at hi; exact hi
        rw [Int.toNat_natCast]
        refine ⟨by omega, R2_get hmL, ⟨_, Clamp_E _, (Clamp_E _).mono ?_⟩, (Clamp_E _).mono ?_⟩
        · rintro _ _ _ ⟨rfl, rfl, rfl⟩; exact ⟨rfl, _, rfl, rfl, hnext⟩
        · rintro _ _ _ ⟨rfl, rfl, rfl⟩
          refine ⟨rfl, _, rfl, rfl, (Clamp_E _).mono ?_⟩
          rintro _ _ _ ⟨rfl, rfl, rfl⟩
          exact ⟨rfl, _, rfl, rfl, hnext⟩
      · obtain rfl : m = L.length := by omega
        rw [List.take_length]
        refine (sortFrom 63 (PF L) (by have := PF_len L; omega)).mono ?_
        rintro _ _ _ ⟨rfl, ⟨L', hS, rfl⟩, rfl⟩
        exact ⟨rfl, _, rfl, rfl, by rw [R2_len, R2_len, hS.1.length_eq], rfl, ⟨L', hS, rfl⟩, rfl⟩
  have h0 := loop _ 0 (Nat.lt_succ_self _) (Nat.zero_le _)
  rw [R2_len]
  exact h0

theorem sorted_f {L L' : List Sp} (h : SortedF cfF L L') : L'.Pairwise fun a b => a.f ≤ b.f := h.2.imp fun {a b} hab => by
  have := (cmp_lt b.f a.f)
  simp only [cfF] at hab
  simp only [hab, decide_false, Bool.false_eq, decide_eq_false_iff_not] at this
  omega
theorem sorted_t {L L' : List Sp} (h : SortedF cfT L L') : L'.Pairwise fun a b => a.t ≤ b.t := h.2.imp fun {a b} hab => by
  have := (cmp_lt b.t a.t)
  simp only [cfT] at hab
  simp only [hab, decide_false, Bool.false_eq, decide_eq_false_iff_not] at this
  omega

/-- The set of spans. -/
def JN (L : List Sp) : List Sp := refJoin (CL L)
theorem join_eq {L L' : List Sp} (h : SortedF cfF (PF L) L') : joinF L' = JN L := by
  obtain ⟨h1, h2⟩ := joinF_nf (L := L') (fun s hs => PF_lt s (h.1.mem_iff.1 hs)) (sorted_f h)
  obtain ⟨k1, k2⟩ := refJoin_nf (CL L)
  exact nf_ext h1 k1 fun n => by
    show mem (joinF L') n ↔ mem (refJoin (CL L)) n
    rw [h2, k2, mem_perm h.1, PF_mem]
theorem NF_bd {J K : List Sp} (hJ : NF J) (hm : ∀ n, mem J n → mem K n) (hK : ∀ s ∈ K, Bd s) : ∀ s ∈ J, Bd s := fun s hs => by
  have hlt := hJ.2 s hs
  obtain ⟨a, ha, h1, h2⟩ := hm s.f ⟨s, hs, Int.le_refl _, hlt⟩
  obtain ⟨b, hb, h3, h4⟩ := hm (s.t - 1) ⟨s, hs, by omega, by omega⟩
  have ka := hK a ha
  have kb := hK b hb
  unfold Bd at *
  omega
theorem JN_nf (L : List Sp) : NF (JN L) ∧ ∀ n, mem (JN L) n ↔ mem (CL L) n := refJoin_nf (CL L)
theorem JN_bd (L : List Sp) : ∀ s ∈ JN L, Bd s := NF_bd (JN_nf L).1 (fun n h => ((JN_nf L).2 n).1 h) CL_bd
/-- Some order by begins. -/
theorem exists_sorted (L : List Sp) : ∃ L' : List Sp, SortedF cfF L L' := by
  refine ⟨L.mergeSort fun a b => decide (a.f ≤ b.f), List.mergeSort_perm _ _, ?_⟩
  have := List.pairwise_mergeSort (le := fun a b : Sp => decide (a.f ≤ b.f)) (fun a b c h1 h2 => by simp at *; omega) (fun a b => by simp; omega) L
  refine this.imp fun {a b} hab => ?_
  have h := (cmp_lt b.f a.f)
  simp only [decide_eq_true_eq] at hab
  intro hc
  have hc : Lib.compareInt b.f a.f < 0 := hc
  simp only [hc, decide_true] at h
  have := of_decide_eq_true h.symm
  omega
theorem JN_len (L : List Sp) : (JN L).length ≤ L.length := by
  obtain ⟨L', h⟩ := exists_sorted (PF L)
  rw [← join_eq h]
  have h1 := joinF_len L' []
  have h2 := h.1.length_eq
  have h3 := PF_len L
  unfold joinF
  simp only [List.length_nil] at h1
  omega

theorem Join_E (L : List Sp) (hl : L.length ≤ 1000) : EC Try.prog G26 [] [.r (R2 L)] fun x rs vs => x = 0 ∧ rs = [R2 (JN L)] ∧ vs = [] := by
  refine E26 fun EV V => (Proper_E L hl).mono ?_
  rintro _ _ _ ⟨rfl, ⟨L', hS, rfl⟩, rfl⟩
  refine ⟨rfl, _, rfl, rfl, ?_⟩
  have hL' : L'.length ≤ 1000 := by rw [hS.1.length_eq]; exact Nat.le_trans (PF_len L) hl
  have loop : ∀ (d m : Nat) (out : List Sp), L'.length - m < d → m ≤ L'.length → out.length ≤ m → (L'.drop m).foldl stepJ out = joinF L' → EV 9 [R2 out, R2 L'] [.i L'.length, .i m] := by
    intro d
    induction d with
    | zero => intro m out hd; omega
    | succ d ih =>
      intro m out hd hm ho hf
      refine V.p9 fun _ _ => ⟨fun hlt => ?_, fun hge => ?_⟩
      · have hmL : m < L'.length := by omega
        rw [List.drop_eq_getElem_cons hmL, List.foldl_cons] at hf
        have ih := ih (m + 1) (stepJ out L'[m]) (by omega) (by omega) (by have := stepJ_len out L'[m]; omega) hf
        rw [Int.toNat_natCast, R2_len, R2_len, w1 m (by omega), R2_c0 L' m, R2_c1 L' m, getD_of hmL]
        refine ⟨by omega, by omega, ?_, ?_⟩
        · have := R2_get hmL
          rw [R2_c0, R2_c1, getD_of hmL] at this; exact this
        rcases nil_or_snoc out with rfl | ⟨a, t, rfl⟩
        · rw [R2_app]
          refine ⟨fun h => absurd h (by decide), fun _ => ⟨by simp, by simp, ih⟩⟩
        · have ho' : a.length + 1 ≤ m := by simpa using ho
          have e1 : IntKind.wrap .i64 (((a ++ [t]).length : Int) - 1) = (a.length : Int) := by
            rw [List.length_append, List.length_singleton, wrap64 (by omega) (by omega)]; omega
          rw [e1, Int.toNat_natCast, R2_c0 (a ++ [t]), R2_c1 (a ++ [t]), getD_snoc, mxS]
          have hg : (R2 (a ++ [t]))[a.length]? = some [.int .i64 t.f, .int .i64 t.t] := by
            have := R2_get (L := a ++ [t]) (i := a.length) (by simp)
            rw [R2_c0, R2_c1, getD_snoc] at this; exact this
          rw [stepJ_snoc] at ih
          simp only [List.length_append, List.length_singleton] at ho ⊢
          refine ⟨fun _ => ⟨by omega, by omega, hg, fun hle => ⟨by omega, by omega, hg, ?_⟩, fun hgt => ⟨by omega, by omega, ?_⟩⟩, fun h => by omega⟩
          · rw [if_pos hle] at ih
            rw [R2_set]
            have : (a ++ [t]).set a.length ⟨t.f, max t.t L'[m].t⟩ = a ++ [⟨t.f, max t.t L'[m].t⟩] := by simp
            rw [this]; exact ih
          · rw [if_neg (by omega)] at ih
            rw [R2_app]; exact ih
      · rw [List.drop_of_length_le (by omega)] at hf
        have hf : out = joinF L' := hf
        rw [hf, join_eq hS]
        exact ⟨rfl, rfl, rfl⟩
  have h0 := loop _ 0 [] (Nat.lt_succ_self _) (Nat.zero_le _) (Nat.le_refl _) rfl
  rw [R2_len]
  exact h0

/-! ### gaps -/
def stepG (e : Int) (s : List Sp × Int) (x : Sp) : List Sp × Int := ((if min x.f e - s.2 > 0 then s.1 ++ [⟨s.2, min x.f e⟩] else s.1), max s.2 x.t)
theorem foldG (e : Int) : ∀ (J out : List Sp) (a : Int), ((J ++ ([⟨e, e⟩] : List Sp)).foldl (stepG e) (out, a)).1 = out ++ gapsF J a e
  | [], out, a => by
    simp only [List.nil_append, List.foldl_cons, List.foldl_nil, stepG, gapsF, Int.min_self]
    split <;> simp
  | s :: J, out, a => by
    rw [List.cons_append, List.foldl_cons]
    simp only [stepG]
    rw [foldG e J, gapsF]
    split <;> simp
def GP (L : List Sp) (a b : Int) : List Sp := refGaps (CL L) ⟨clampI a, clampI b⟩
theorem GP_nf (L : List Sp) (a b : Int) : NF (GP L a b) ∧ ∀ n, mem (GP L a b) n ↔ (clampI a ≤ n ∧ n < clampI b) ∧ ¬ mem (CL L) n := refGaps_nf (CL L) ⟨clampI a, clampI b⟩
theorem GP_bd (L : List Sp) (a b : Int) : ∀ s ∈ GP L a b, Bd s := NF_bd (K := [⟨clampI a, clampI b⟩]) (GP_nf L a b).1 (fun n h => mem_one.2 (((GP_nf L a b).2 n).1 h).1) fun s hs => by
  obtain rfl := List.mem_singleton.1 hs
  exact ⟨clampI_b _, clampI_b _⟩
theorem gaps_eq (L : List Sp) (a b : Int) : gapsF (JN L) (clampI a) (clampI b) = GP L a b := by
  obtain ⟨h1, h2⟩ := gapsF_nf (JN L) (clampI a) (clampI b) (JN_nf L).1
  obtain ⟨k1, k2⟩ := GP_nf L a b
  exact nf_ext h1 k1 fun n => by rw [h2, k2, (JN_nf L).2]
theorem gapsF_len : ∀ (J : List Sp) (a e : Int), (gapsF J a e).length ≤ J.length + 1
  | [], a, e => by simp only [gapsF]; split <;> simp
  | s :: J, a, e => by
    have := gapsF_len J (max a s.t) e
    simp only [gapsF, List.length_append, List.length_cons]
    split <;> simp <;> omega
theorem GP_len (L : List Sp) (a b : Int) : (GP L a b).length ≤ L.length + 1 := by
  rw [← gaps_eq]
  have := gapsF_len (JN L) (clampI a) (clampI b)
  have := JN_len L
  omega

theorem Gaps_E (L : List Sp) (a b : Int) (hl : L.length ≤ 1000) : EC Try.prog G29 [] [.r (R2 L), .i a, .i b] fun x rs vs => x = 0 ∧ rs = [R2 (GP L a b)] ∧ vs = [] := by
  refine E29 fun EV V => (Clamp_E a).mono ?_
  rintro _ _ _ ⟨rfl, rfl, rfl⟩
  refine ⟨rfl, _, rfl, rfl, (Clamp_E b).mono ?_⟩
  rintro _ _ _ ⟨rfl, rfl, rfl⟩
  refine ⟨rfl, _, rfl, rfl, (Join_E L hl).mono ?_⟩
  rintro _ _ _ ⟨rfl, rfl, rfl⟩
  have hJl := JN_len L
  refine ⟨rfl, _, rfl, rfl, by rw [R2_len]; omega, by rw [R2_len]; omega, ?_⟩
  rw [R2_app, R2_len]
  obtain ⟨K, hK⟩ : ∃ K, K = JN L ++ [⟨clampI b, clampI b⟩] := ⟨_, rfl⟩
  have hKl : K.length = (JN L).length + 1 := by rw [hK]; simp
  have hKb : ∀ s ∈ K, Bd s := fun s hs => by
    rw [hK] at hs
    rcases List.mem_append.1 hs with h | h
    · exact JN_bd L s h
    · obtain rfl := List.mem_singleton.1 h; exact ⟨clampI_b _, clampI_b _⟩
  have hres : (K.foldl (stepG (clampI b)) ([], clampI a)).1 = GP L a b := by rw [hK, foldG, List.nil_append, gaps_eq]
  have cb := clampI_b b
  rw [← hK, ← hKl]
  have loop : ∀ (d m : Nat) (out : List Sp) (at' : Int), K.length - m < d → m ≤ K.length → out.length ≤ m → (-1099511627776 ≤ at' ∧ at' ≤ 1099511627776) → ((K.drop m).foldl (stepG (clampI b)) (out, at')).1 = GP L a b → EV 11 [R2 out, R2 K] [.i at', .i (clampI b), .i K.length, .i m] := by
    intro d
    induction d with
    | zero => intro m out at' hd; omega
    | succ d ih =>
      intro m out at' hd hm ho hat hf
      refine V.p11 fun _ _ => ⟨fun hlt => ?_, fun hge => ?_⟩
      · have hmL : m < K.length := by omega
        have hbd := hKb K[m] (List.getElem_mem hmL)
        unfold Bd at hbd
        rw [List.drop_eq_getElem_cons hmL, List.foldl_cons] at hf
        have hg := R2_get hmL
        rw [R2_c0, R2_c1, getD_of hmL] at hg
        rw [Int.toNat_natCast, R2_len, R2_len, R2_c0 K m, R2_c1 K m, getD_of hmL, mnS, mxS, w1 m (by omega)]
        refine ⟨by omega, by omega, hg, (Size_E _ _ (by omega) (by omega)).mono ?_⟩
        rintro _ _ _ ⟨rfl, rfl, rfl⟩
        simp only [stepG] at hf
        refine ⟨rfl, _, rfl, rfl, fun hp => ⟨by omega, by omega, ?_⟩, fun hp => ?_⟩
        · rw [if_pos hp] at hf
          rw [R2_app]
          exact ih (m + 1) _ _ (by omega) (by omega) (by simp; omega) (by omega) hf
        · rw [if_neg (by omega)] at hf
          exact ih (m + 1) _ _ (by omega) (by omega) (by omega) (by omega) hf
      · rw [List.drop_of_length_le (by omega)] at hf
        have hf : out = GP L a b := hf
        rw [hf]
        exact ⟨rfl, rfl, rfl⟩
  exact loop _ 0 [] (clampI a) (Nat.lt_succ_self _) (Nat.zero_le _) (Nat.le_refl _) (clampI_b a) hres

/-! ### meet -/
def MT (A B : List Sp) : List Sp := refMeet (CL A) (CL B)
theorem MT_nf (A B : List Sp) : NF (MT A B) ∧ ∀ n, mem (MT A B) n ↔ mem (CL A) n ∧ mem (CL B) n := refMeet_nf (CL A) (CL B)
theorem MT_bd (A B : List Sp) : ∀ s ∈ MT A B, Bd s := NF_bd (MT_nf A B).1 (fun n h => (((MT_nf A B).2 n).1 h).1) CL_bd
theorem meet_eq (A B : List Sp) : meetF (JN A) (JN B) = MT A B := by
  obtain ⟨h1, h2⟩ := meetF_nf _ (JN A) (JN B) (Nat.le_refl _) (JN_nf A).1 (JN_nf B).1
  obtain ⟨k1, k2⟩ := MT_nf A B
  exact nf_ext h1 k1 fun n => by rw [h2, k2, (JN_nf A).2, (JN_nf B).2]
theorem meetF_len : ∀ (k : Nat) (x y : List Sp), x.length + y.length ≤ k → (meetF x y).length ≤ x.length + y.length := by
  intro k
  induction k with
  | zero =>
    intro x y hk
    cases x with
    | nil => simp [meetF]
    | cons a x => simp at hk
  | succ k ih =>
    intro x y hk
    cases x with
    | nil => simp [meetF]
    | cons a x =>
      cases y with
      | nil => simp [meetF]
      | cons b y =>
        rw [meetF]
        simp only [List.length_cons] at hk
        have h1 := ih x (b :: y) (by simp; omega)
        have h2 := ih (a :: x) y (by simp; omega)
        simp only [List.length_append, List.length_cons] at h1 h2 ⊢
        split <;> split <;> simp <;> omega
theorem MT_len (A B : List Sp) : (MT A B).length ≤ A.length + B.length := by
  rw [← meet_eq]
  have := meetF_len _ (JN A) (JN B) (Nat.le_refl _)
  have := JN_len A
  have := JN_len B
  omega

theorem Meet_E (A B : List Sp) (ha : A.length ≤ 1000) (hb : B.length ≤ 1000) : EC Try.prog G31 [] [.r (R2 A), .r (R2 B)] fun x rs vs => x = 0 ∧ rs = [R2 (MT A B)] ∧ vs = [] := by
  refine E31 fun EV V => (Join_E A ha).mono ?_
  rintro _ _ _ ⟨rfl, rfl, rfl⟩
  refine ⟨rfl, _, rfl, rfl, (Join_E B hb).mono ?_⟩
  rintro _ _ _ ⟨rfl, rfl, rfl⟩
  refine ⟨rfl, _, rfl, rfl, ?_⟩
  have hX := JN_len A
  have hY := JN_len B
  have bX := JN_bd A
  have bY := JN_bd B
  have hM := MT_len A B
  rw [R2_len, R2_len]
  have hres := meet_eq A B
  generalize JN A = X at *
  generalize JN B = Y at *
  have loop : ∀ (d i j : Nat) (out : List Sp), (X.length - i) + (Y.length - j) < d → i ≤ X.length → j ≤ Y.length → out ++ meetF (X.drop i) (Y.drop j) = MT A B → EV 9 [R2 X, R2 Y, R2 out] [.n i, .n (X.length - i), .n j, .n (Y.length - j)] := by
    intro d
    induction d with
    | zero => intro i j out hd; omega
    | succ d ih =>
      intro i j out hd hi hj hf
      have fin : meetF (X.drop i) (Y.drop j) = [] → (0 : Nat) = 0 ∧ [R2 out] = [R2 (MT A B)] ∧ ([] : List Lf) = [] := fun h => by
        rw [h, List.append_nil] at hf
        exact ⟨rfl, by rw [hf], rfl⟩
      refine V.p9 fun _ _ _ => ⟨fun h1 => ⟨fun h2 => ?_, fun h2 => ?_⟩, fun h1 => ?_⟩
      · have hiX : i < X.length := by omega
        have hjY : j < Y.length := by omega
        have b1 := bX X[i] (List.getElem_mem hiX)
        have b2 := bY Y[j] (List.getElem_mem hjY)
        unfold Bd at b1 b2
        have ez : ((0 : Int).toNat) = 0 := rfl
        rw [List.drop_eq_getElem_cons hiX, List.drop_eq_getElem_cons hjY, meetF] at hf
        have g1 := R2_get hiX
        have g2 := R2_get hjY
        rw [R2_c0, R2_c1, getD_of hiX] at g1
        rw [R2_c0, R2_c1, getD_of hjY] at g2
        rw [ez, Nat.add_zero, Nat.add_zero, R2_c0 X, R2_c1 X, R2_c0 Y, R2_c1 Y, getD_of hiX, getD_of hjY, mxS, mnS]
        refine ⟨by omega, g1, by omega, g2, V.p19 fun _ _ _ => (Size_E _ _ (by omega) (by omega)).mono ?_⟩
        rintro _ _ _ ⟨rfl, rfl, rfl⟩
        have next : ∀ out', out' ++ (if X[i].t < Y[j].t then meetF (X.drop (i + 1)) (Y[j] :: Y.drop (j + 1)) else meetF (X[i] :: X.drop (i + 1)) (Y.drop (j + 1))) = MT A B → EV 24 [R2 X, R2 Y, R2 out'] [.n i, .n (X.length - i), .n j, .n (Y.length - j)] := fun out' hf' => by
          refine V.p24 fun _ _ _ => ?_
          rw [ez, Nat.add_zero, Nat.add_zero, R2_c0 X, R2_c1 X, R2_c0 Y, R2_c1 Y, getD_of hiX, getD_of hjY]
          refine ⟨by omega, g1, by omega, g2, fun hlt => ⟨by omega, by omega, ?_⟩, fun hge => ⟨by omega, by omega, ?_⟩⟩
          · rw [if_pos hlt, ← List.drop_eq_getElem_cons hjY] at hf'
            have := ih (i + 1) j out' (by omega) (by omega) hj hf'
            rwa [show X.length - (i + 1) = X.length - i - 1 by omega] at this
          · rw [if_neg (by omega), ← List.drop_eq_getElem_cons hiX] at hf'
            have := ih i (j + 1) out' (by omega) hi (by omega) hf'
            rwa [show Y.length - (j + 1) = Y.length - j - 1 by omega] at this
        have hol : out.length ≤ 2000 := by
          have := congrArg List.length hf
          rw [List.length_append] at this
          omega
        rw [R2_len, R2_app]
        refine ⟨rfl, _, rfl, rfl, fun hp => ⟨by omega, by omega, next _ ?_⟩, fun hp => next _ ?_⟩
        · rw [if_pos hp] at hf
          rw [List.append_assoc]; exact hf
        · rw [if_neg (by omega), List.nil_append] at hf
          exact hf
      · refine fin ?_
        rw [List.drop_of_length_le (l := Y) (by omega), meetF_nil]
      · refine fin ?_
        rw [List.drop_of_length_le (l := X) (by omega)]
        simp [meetF]
  have := loop _ 0 0 [] (Nat.lt_succ_self _) (Nat.zero_le _) (Nat.zero_le _) (by simpa using hres)
  exact this
end Go.Ab
