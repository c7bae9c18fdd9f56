/- PreemptTells: how often, how long, by the program and by the document: the same; the law. For every input. -/
import Derived.Test.YtkcnlpelbcpmgaaTellsB
namespace Go.Ab
open Go Go.Proofs
set_option linter.unusedVariables false
set_option linter.unusedSimpArgs false
set_option maxRecDepth 100000
set_option maxHeartbeats 1000000

theorem fixed25 : EC Try.prog G25 [] [] fun x rs vs => x = 0 ∧ rs = [] ∧ vs = [.b true] := EC.closed mixed TT_at (n := 100000) (by kernel_rfl)

/-- The tasks that fit, up to one. -/
def idxF (f : Tk → Bool) (T : List Tk) (n : Nat) : List Int := ((List.range n).filter fun m => f (tk T m)).map fun (m : Nat) => (m : Int)
theorem idxF_succ (f : Tk → Bool) (T : List Tk) (n : Nat) : idxF f T (n + 1) = idxF f T n ++ if f (tk T n) = true then [(n : Int)] else [] := by
  simp only [idxF, List.range_succ, List.filter_append, List.map_append]
  congr 1
  cases h : f (tk T n) <;> simp [h]
theorem idxF_len (f : Tk → Bool) (T : List Tk) (n : Nat) : (idxF f T n).length ≤ n := by
  have := List.length_filter_le (fun m => f (tk T m)) (List.range n)
  simp [idxF] at *; omega
theorem idxF_mem {f : Tk → Bool} {T : List Tk} {n : Nat} {i : Int} (h : i ∈ idxF f T n) : 0 ≤ i ∧ i < n := by
  simp only [idxF, List.mem_map, List.mem_filter, List.mem_range] at h
  obtain ⟨m, ⟨h1, _⟩, rfl⟩ := h
  omega

section
variable {c0 c1 c2 c3 c5 : Int} {c4 c6 c9 : List (List AV)} {C : List Int} {T : List Tk}

theorem is44_E (a : Int) : EC Try.prog G44 [] [.i c0, .i c1, .i c2, .i c3, .r c4, .i c5, .r c6, .r (ints C), .r (T.map encT), .r c9, .i a] fun x rs vs => x = 0 ∧ rs = [] ∧ vs = [.b (decide (0 ≤ a ∧ a < T.length))] :=
  E44 fun EV V => ⟨fun h => ⟨rfl, rfl, by simp [h]⟩, fun h => ⟨rfl, rfl, by simp; omega⟩⟩
theorem is59_E (a : Int) : EC Try.prog G59 [] [.i c0, .i c1, .i c2, .i c3, .r c4, .i c5, .r c6, .r (ints C), .r (T.map encT), .r c9, .i a] fun x rs vs => x = 0 ∧ rs = [] ∧ vs = [.b (decide (0 ≤ a ∧ a < T.length))] :=
  E59 fun EV V => ⟨fun h => ⟨rfl, rfl, by simp [h]⟩, fun h => ⟨rfl, rfl, by simp; omega⟩⟩

def above (T : List Tk) (a : Int) : List Int := idxF (fun t => decide (t.p > (tk T a.toNat).th)) T T.length
def lowerL (T : List Tk) (a : Int) : List Int := idxF (fun t => decide (t.p < (tk T a.toNat).p)) T T.length
def higherL (T : List Tk) (a : Int) : List Int := idxF (fun t => decide (t.p ≥ (tk T a.toNat).p)) T T.length

theorem Above_E (hT : T.length ≤ 20) (a : Int) : EC Try.prog G40 [] [.i c0, .i c1, .i c2, .i c3, .r c4, .i c5, .r c6, .r (ints C), .r (T.map encT), .r c9, .i a] fun x rs vs => x = 0 ∧ vs = [] ∧ rs = [ints (if 0 ≤ a ∧ a < T.length then above T a else [])] := by
  refine E40 fun EV V => (is59_E a).mono ?_
  rintro _ _ _ ⟨rfl, rfl, rfl⟩
  refine ⟨rfl, _, rfl, rfl, fun h => ⟨rfl, rfl, by rw [if_neg (by simpa using h)]; rfl⟩, fun h => ?_⟩
  have ha : 0 ≤ a ∧ a < T.length := by simpa using h
  have hat : a.toNat < T.length := by omega
  have loop : ∀ (d m : Nat), T.length - m < d → m ≤ T.length → EV 17 [ints (idxF (fun t => decide (t.p > (tk T a.toNat).th)) T m)] [.i a, .r (T.map encT), .i T.length, .i m, .i c0, .i c1, .i c2, .i c3, .r c4, .i c5, .r c6, .r (ints C), .r (T.map encT), .r c9] := by
    intro d
    induction d with
    | zero => intro m hd; omega
    | succ d ih =>
      intro m hd hm
      have hl := idxF_len (fun t => decide (t.p > (tk T a.toNat).th)) T m
      refine V.p17 fun _ => ⟨fun hlt => ?_, fun hge => ?_⟩
      · have hmT : m < T.length := by omega
        have ev1 : IntKind.wrap .i64 ((m : Int) + 1) = ((m + 1 : Nat) : Int) := by rw [wrap64 (by omega) (by omega)]; rfl
        have next := ih (m + 1) (by omega) (by omega)
        rw [idxF_succ] at next
        refine ⟨by omega, tk_get hmT, ha.1, tk_get hat, fun hx => ⟨by rw [ints_length]; omega, by rw [ints_length]; omega, ?_⟩, fun hx => ?_⟩
        · rw [Int.toNat_natCast, tk0, tk1] at hx
          rw [if_pos (by simpa using hx), ← ints_append] at next
          rw [ev1]; exact next
        · rw [Int.toNat_natCast, tk0, tk1] at hx
          rw [if_neg (by simp; omega), List.append_nil] at next
          rw [ev1]; exact next
      · obtain rfl : m = T.length := by omega
        exact ⟨rfl, rfl, by rw [if_pos ha]; rfl⟩
  rw [List.length_map]
  exact loop _ 0 (Nat.lt_succ_self _) (by omega)
theorem RAbove_E (hT : T.length ≤ 20) (a : Int) (ha : 0 ≤ a ∧ a < T.length) : EC Try.prog G51 [] [.i c0, .i c1, .i c2, .i c3, .r c4, .i c5, .r c6, .r (ints C), .r (T.map encT), .r c9, .i a] fun x rs vs => x = 0 ∧ vs = [] ∧ rs = [ints (above T a)] := by
  refine E51 fun EV V => ?_
  have hat : a.toNat < T.length := by omega
  have loop : ∀ (d m : Nat), T.length - m < d → m ≤ T.length → EV 9 [ints (idxF (fun t => decide (t.p > (tk T a.toNat).th)) T m)] [.i a, .r (T.map encT), .i T.length, .i m, .i c0, .i c1, .i c2, .i c3, .r c4, .i c5, .r c6, .r (ints C), .r (T.map encT), .r c9] := by
    intro d
    induction d with
    | zero => intro m hd; omega
    | succ d ih =>
      intro m hd hm
      have hl := idxF_len (fun t => decide (t.p > (tk T a.toNat).th)) T m
      refine V.p9 fun _ => ⟨fun hlt => ?_, fun hge => ?_⟩
      · have hmT : m < T.length := by omega
        have ev1 : IntKind.wrap .i64 ((m : Int) + 1) = ((m + 1 : Nat) : Int) := by rw [wrap64 (by omega) (by omega)]; rfl
        have next := ih (m + 1) (by omega) (by omega)
        rw [idxF_succ] at next
        refine ⟨by omega, tk_get hmT, ha.1, tk_get hat, fun hx => ⟨by rw [ints_length]; omega, by rw [ints_length]; omega, ?_⟩, fun hx => ?_⟩
        · rw [Int.toNat_natCast, tk0, tk1] at hx
          rw [if_pos (by simpa using hx), ← ints_append] at next
          rw [ev1]; exact next
        · rw [Int.toNat_natCast, tk0, tk1] at hx
          rw [if_neg (by simp; omega), List.append_nil] at next
          rw [ev1]; exact next
      · obtain rfl : m = T.length := by omega
        exact ⟨rfl, rfl, rfl⟩
  rw [List.length_map]
  exact loop _ 0 (Nat.lt_succ_self _) (by omega)
theorem Lower_E (hT : T.length ≤ 20) (a : Int) : EC Try.prog G30 [] [.i c0, .i c1, .i c2, .i c3, .r c4, .i c5, .r c6, .r (ints C), .r (T.map encT), .r c9, .i a] fun x rs vs => x = 0 ∧ vs = [] ∧ rs = [ints (if 0 ≤ a ∧ a < T.length then lowerL T a else [])] := by
  refine E30 fun EV V => EC.mono (Q := fun x rs vs => x = 0 ∧ vs = [] ∧ rs = [ints (if 0 ≤ a ∧ a < T.length then lowerL T a else [])]) ?_ (by
    rintro _ _ _ ⟨rfl, rfl, rfl⟩
    exact ⟨rfl, _, rfl, rfl, rfl, rfl, rfl⟩)
  refine E48 fun EV V => (is44_E a).mono ?_
  rintro _ _ _ ⟨rfl, rfl, rfl⟩
  refine ⟨rfl, _, rfl, rfl, fun h => ⟨rfl, rfl, by rw [if_neg (by simpa using h)]; rfl⟩, fun h => ?_⟩
  have ha : 0 ≤ a ∧ a < T.length := by simpa using h
  have hat : a.toNat < T.length := by omega
  have loop : ∀ (d m : Nat), T.length - m < d → m ≤ T.length → EV 17 [ints (idxF (fun t => decide (t.p < (tk T a.toNat).p)) T m)] [.i a, .r (T.map encT), .i T.length, .i m, .i c0, .i c1, .i c2, .i c3, .r c4, .i c5, .r c6, .r (ints C), .r (T.map encT), .r c9] := by
    intro d
    induction d with
    | zero => intro m hd; omega
    | succ d ih =>
      intro m hd hm
      have hl := idxF_len (fun t => decide (t.p < (tk T a.toNat).p)) T m
      refine V.p17 fun _ => ⟨fun hlt => ?_, fun hge => ?_⟩
      · have hmT : m < T.length := by omega
        have ev1 : IntKind.wrap .i64 ((m : Int) + 1) = ((m + 1 : Nat) : Int) := by rw [wrap64 (by omega) (by omega)]; rfl
        have next := ih (m + 1) (by omega) (by omega)
        rw [idxF_succ] at next
        refine ⟨by omega, tk_get hmT, ha.1, tk_get hat, E49 fun _ _ => ⟨rfl, _, rfl, rfl, fun hx => ⟨by rw [ints_length]; omega, by rw [ints_length]; omega, ?_⟩, fun hx => ?_⟩⟩
        · rw [Int.toNat_natCast, tk0, tk0] at hx
          rw [if_pos hx, ← ints_append] at next
          rw [ev1]; exact next
        · rw [Int.toNat_natCast, tk0, tk0] at hx
          rw [if_neg (by rw [hx]; simp), List.append_nil] at next
          rw [ev1]; exact next
      · obtain rfl : m = T.length := by omega
        exact ⟨rfl, rfl, by rw [if_pos ha]; rfl⟩
  rw [List.length_map]
  exact loop _ 0 (Nat.lt_succ_self _) (by omega)
theorem Higher_E (hT : T.length ≤ 20) (a : Int) : EC Try.prog G31 [] [.i c0, .i c1, .i c2, .i c3, .r c4, .i c5, .r c6, .r (ints C), .r (T.map encT), .r c9, .i a] fun x rs vs => x = 0 ∧ vs = [] ∧ rs = [ints (if 0 ≤ a ∧ a < T.length then higherL T a else [])] := by
  refine E31 fun EV V => EC.mono (Q := fun x rs vs => x = 0 ∧ vs = [] ∧ rs = [ints (if 0 ≤ a ∧ a < T.length then higherL T a else [])]) ?_ (by
    rintro _ _ _ ⟨rfl, rfl, rfl⟩
    exact ⟨rfl, _, rfl, rfl, rfl, rfl, rfl⟩)
  refine E48a fun EV V => (is44_E a).mono ?_
  rintro _ _ _ ⟨rfl, rfl, rfl⟩
  refine ⟨rfl, _, rfl, rfl, fun h => ⟨rfl, rfl, by rw [if_neg (by simpa using h)]; rfl⟩, fun h => ?_⟩
  have ha : 0 ≤ a ∧ a < T.length := by simpa using h
  have hat : a.toNat < T.length := by omega
  have loop : ∀ (d m : Nat), T.length - m < d → m ≤ T.length → EV 17 [ints (idxF (fun t => decide (t.p ≥ (tk T a.toNat).p)) T m)] [.i a, .r (T.map encT), .i T.length, .i m, .i c0, .i c1, .i c2, .i c3, .r c4, .i c5, .r c6, .r (ints C), .r (T.map encT), .r c9] := by
    intro d
    induction d with
    | zero => intro m hd; omega
    | succ d ih =>
      intro m hd hm
      have hl := idxF_len (fun t => decide (t.p ≥ (tk T a.toNat).p)) T m
      refine V.p17 fun _ => ⟨fun hlt => ?_, fun hge => ?_⟩
      · have hmT : m < T.length := by omega
        have ev1 : IntKind.wrap .i64 ((m : Int) + 1) = ((m + 1 : Nat) : Int) := by rw [wrap64 (by omega) (by omega)]; rfl
        have next := ih (m + 1) (by omega) (by omega)
        rw [idxF_succ] at next
        refine ⟨by omega, tk_get hmT, ha.1, tk_get hat, E50 fun _ _ => ⟨rfl, _, rfl, rfl, fun hx => ⟨by rw [ints_length]; omega, by rw [ints_length]; omega, ?_⟩, fun hx => ?_⟩⟩
        · rw [Int.toNat_natCast, tk0, tk0] at hx
          rw [if_pos hx, ← ints_append] at next
          rw [ev1]; exact next
        · rw [Int.toNat_natCast, tk0, tk0] at hx
          rw [if_neg (by rw [hx]; simp), List.append_nil] at next
          rw [ev1]; exact next
      · obtain rfl : m = T.length := by omega
        exact ⟨rfl, rfl, by rw [if_pos ha]; rfl⟩
  rw [List.length_map]
  exact loop _ 0 (Nat.lt_succ_self _) (by omega)

/-- What a configuration that is asked about keeps to. -/
structure Fits (C : List Int) (T : List Tk) : Prop where
  c : C.length ≤ 20
  t : T.length ≤ 20
  pg : ∀ t ∈ T, t.pg.length ≤ 30
  fl : ∀ t ∈ T, t.fl ≤ 1099511627776
  pe : ∀ t ∈ T, t.pe ≤ 9223372036854775807
theorem Fits.pg2 (h : Fits C T) : ∀ t ∈ T, t.pg.length ≤ 100 := fun t ht => by have := h.pg t ht; omega
theorem Fits.at (h : Fits C T) {i : Nat} (hi : i < T.length) : (tk T i).pg.length ≤ 30 ∧ (tk T i).fl ≤ 1099511627776 ∧ (tk T i).pe ≤ 9223372036854775807 := by
  rw [tk_lt hi]
  exact ⟨h.pg _ (List.getElem_mem hi), h.fl _ (List.getElem_mem hi), h.pe _ (List.getElem_mem hi)⟩

def cntZ (T : List Tk) (w : Int) (l : List Int) : Int := l.foldl (fun n i => addZ n (ceilZ w (max (tk T i.toNat).pe 0))) 0
theorem cntZ_succ (T : List Tk) (w : Int) (l : List Int) {m : Nat} (h : m < l.length) : cntZ T w (l.take (m + 1)) = addZ (cntZ T w (l.take m)) (ceilZ w (max (tk T l[m].toNat).pe 0)) := by
  rw [List.take_add_one, List.getElem?_eq_getElem h]
  simp only [cntZ, Option.toList, List.foldl_append, List.foldl_cons, List.foldl_nil]
theorem cntZ_U (hF : Fits C T) {w : Int} (hw : U w) (l : List Int) (hl : ∀ i ∈ l, 0 ≤ i ∧ i < T.length) : ∀ m : Nat, m ≤ l.length → U (cntZ T w (l.take m))
  | 0, _ => by unfold U; simp [cntZ]
  | m + 1, h => by
    have hm := hl _ (List.getElem_mem (show m < l.length by omega))
    rw [cntZ_succ T w l (by omega)]
    exact addZ_U (cntZ_U hF hw l hl m (by omega)) (ceilZ_U hw (max_U (hF.at (by omega)).2.2))

theorem Count_E (hF : Fits C T) (a w : Int) (hw : U w) : EC Try.prog G27 [] [.i c0, .i c1, .i c2, .i c3, .r c4, .i c5, .r c6, .r (ints C), .r (T.map encT), .r c9, .i a, .i w] fun x rs vs => x = 0 ∧ rs = [] ∧ vs = [.i (cntZ T w (if 0 ≤ a ∧ a < T.length then above T a else []))] := by
  refine E27 fun EV V => (Above_E hF.t a).mono ?_
  rintro _ _ _ ⟨rfl, rfl, rfl⟩
  refine ⟨rfl, _, rfl, rfl, ?_⟩
  generalize hl : (if 0 ≤ a ∧ a < T.length then above T a else []) = l
  have hmem : ∀ i ∈ l, 0 ≤ i ∧ i < T.length := fun i hi => by
    rw [← hl] at hi
    split at hi
    · exact idxF_mem hi
    · cases hi
  have hll : l.length ≤ 20 := by
    rw [← hl]
    split
    · have := idxF_len (fun t => decide (t.p > (tk T a.toNat).th)) T T.length
      have := hF.t
      unfold above; omega
    · simp
  have loop : ∀ (d m : Nat), l.length - m < d → m ≤ l.length → EV 9 [ints l] [.i w, .i (cntZ T w (l.take m)), .i l.length, .i m, .i c0, .i c1, .i c2, .i c3, .r c4, .i c5, .r c6, .r (ints C), .r (T.map encT), .r c9] := by
    intro d
    induction d with
    | zero => intro m hd; omega
    | succ d ih =>
      intro m hd hm
      refine V.p9 fun _ => ⟨fun hlt => ?_, fun hge => ?_⟩
      · have hml : m < l.length := by omega
        have hmm := hmem _ (List.getElem_mem hml)
        have ev1 : IntKind.wrap .i64 ((m : Int) + 1) = ((m + 1 : Nat) : Int) := by rw [wrap64 (by omega) (by omega)]; rfl
        have hg : l.getD m 0 = l[m] := by rw [List.getD_eq_getElem?_getD, List.getElem?_eq_getElem hml]; rfl
        have hf := hF.at (i := l[m].toNat) (by omega)
        rw [Int.toNat_natCast, ints_cI, hg, ev1]
        refine ⟨by omega, by simp; omega, by rw [← hg, ← ints_cI]; exact ints_get hml, hmm.1, tk_get (by omega), ?_⟩
        rw [tk2]
        refine (Of_E hf.2.2).mono ?_
        rintro _ _ _ ⟨rfl, rfl, rfl⟩
        refine ⟨rfl, _, rfl, rfl, (Ceil_E hw (max_U hf.2.2)).mono ?_⟩
        rintro _ _ _ ⟨rfl, rfl, rfl⟩
        refine ⟨rfl, _, rfl, rfl, (Add_E (cntZ_U hF hw l hmem m hm) (ceilZ_U hw (max_U hf.2.2))).mono ?_⟩
        rintro _ _ _ ⟨rfl, rfl, rfl⟩
        refine ⟨rfl, _, rfl, rfl, ?_⟩
        rw [← cntZ_succ T w l hml]
        exact ih (m + 1) (by omega) (by omega)
      · obtain rfl : m = l.length := by omega
        exact ⟨rfl, rfl, by rw [List.take_length, hl]⟩
  rw [ints_length]
  exact loop _ 0 (Nat.lt_succ_self _) (by omega)
theorem RCount_E (hF : Fits C T) (a w : Int) (hw : U w) (ha : 0 ≤ a ∧ a < T.length) : EC Try.prog G32 [] [.i c0, .i c1, .i c2, .i c3, .r c4, .i c5, .r c6, .r (ints C), .r (T.map encT), .r c9, .i a, .i w] fun x rs vs => x = 0 ∧ rs = [] ∧ vs = [.i (cntZ T w (above T a))] := by
  refine E32 fun EV V => (RAbove_E hF.t a ha).mono ?_
  rintro _ _ _ ⟨rfl, rfl, rfl⟩
  refine ⟨rfl, _, rfl, rfl, ?_⟩
  generalize hl : above T a = l
  have hmem : ∀ i ∈ l, 0 ≤ i ∧ i < T.length := fun i hi => by
    rw [← hl] at hi
    exact idxF_mem hi
  have hll : l.length ≤ 20 := by
    rw [← hl]
    have := idxF_len (fun t => decide (t.p > (tk T a.toNat).th)) T T.length
    have := hF.t
    unfold above; omega
  have loop : ∀ (d m : Nat), l.length - m < d → m ≤ l.length → EV 9 [ints l] [.i w, .i (cntZ T w (l.take m)), .i l.length, .i m, .i c0, .i c1, .i c2, .i c3, .r c4, .i c5, .r c6, .r (ints C), .r (T.map encT), .r c9] := by
    intro d
    induction d with
    | zero => intro m hd; omega
    | succ d ih =>
      intro m hd hm
      refine V.p9 fun _ => ⟨fun hlt => ?_, fun hge => ?_⟩
      · have hml : m < l.length := by omega
        have hmm := hmem _ (List.getElem_mem hml)
        have ev1 : IntKind.wrap .i64 ((m : Int) + 1) = ((m + 1 : Nat) : Int) := by rw [wrap64 (by omega) (by omega)]; rfl
        have hg : l.getD m 0 = l[m] := by rw [List.getD_eq_getElem?_getD, List.getElem?_eq_getElem hml]; rfl
        have hf := hF.at (i := l[m].toNat) (by omega)
        rw [Int.toNat_natCast, ints_cI, hg, ev1]
        refine ⟨by omega, by simp; omega, by rw [← hg, ← ints_cI]; exact ints_get hml, hmm.1, tk_get (by omega), ?_⟩
        rw [tk2]
        refine (ROf_E hf.2.2).mono ?_
        rintro _ _ _ ⟨rfl, rfl, rfl⟩
        refine ⟨rfl, _, rfl, rfl, (RCeil_E hw (max_U hf.2.2)).mono ?_⟩
        rintro _ _ _ ⟨rfl, rfl, rfl⟩
        refine ⟨rfl, _, rfl, rfl, (RAdd_E (cntZ_U hF hw l hmem m hm) (ceilZ_U hw (max_U hf.2.2))).mono ?_⟩
        rintro _ _ _ ⟨rfl, rfl, rfl⟩
        refine ⟨rfl, _, rfl, rfl, ?_⟩
        rw [← cntZ_succ T w l hml]
        exact ih (m + 1) (by omega) (by omega)
      · obtain rfl : m = l.length := by omega
        exact ⟨rfl, rfl, by rw [List.take_length, hl]⟩
  rw [ints_length]
  exact loop _ 0 (Nat.lt_succ_self _) (by omega)

theorem longF_b (level : Int) : ∀ (l : List (Int × Int)) (n b : Int), 0 ≤ n → (∀ p ∈ l, 0 ≤ p.2 ∧ p.2 ≤ 1073741824) → b ≤ longF level l n b ∧ longF level l n b ≤ max b (n + l.length * 1073741824)
  | [], n, b, hn, _ => by simp only [longF, List.length_nil]; omega
  | (x, c) :: l, n, b, hn, h => by
    have hc := h (x, c) (List.mem_cons_self ..)
    simp only at hc
    have h' : ∀ p ∈ l, 0 ≤ p.2 ∧ p.2 ≤ 1073741824 := fun p hp => h p (List.mem_cons_of_mem _ hp)
    simp only [longF, List.length_cons]
    split
    · have := longF_b level l 0 b (Int.le_refl _) h'
      omega
    · have := longF_b level l (n + c) (max b (n + c)) (by omega) h'
      omega
theorem longZ_b (C : List Int) (hit miss base : Int) (P : List Op3) (level : Int) : 0 ≤ longZ C hit miss base P level ∧ longZ C hit miss base P level ≤ P.length * 1073741824 := by
  have := longF_b level (dat C hit miss base P) 0 0 (Int.le_refl _) (fun p hp => by
    simp only [dat, List.mem_map] at hp
    obtain ⟨m, _, rfl⟩ := hp
    exact costZ_b _ _ _ _)
  rw [dat_len] at this
  unfold longZ
  omega

def blkZ (C : List Int) (T : List Tk) (hit miss lo a : Int) : Int :=
  if (tk T lo.toNat).th ≥ (tk T a.toNat).p then sumZ hit miss false (tk T lo.toNat).pg else
    min (sumZ hit miss false (tk T lo.toNat).pg) (if (tk T lo.toNat).fl > 0 then (tk T lo.toNat).fl + 2 * longZ C hit miss (tk T lo.toNat).th (tk T lo.toNat).pg (tk T a.toNat).p else longZ C hit miss (tk T lo.toNat).th (tk T lo.toNat).pg (tk T a.toNat).p)

theorem Blocking_E (hF : Fits C T) (lo a : Int) : EC Try.prog G29 [] [.i c0, .i c1, .i c2, .i c3, .r c4, .i c5, .r c6, .r (ints C), .r (T.map encT), .r c9, .i lo, .i a] fun x rs vs => x = 0 ∧ rs = [] ∧ vs = [.i (if (0 ≤ lo ∧ lo < T.length) ∧ (0 ≤ a ∧ a < T.length) then blkZ C T c2 c3 lo a else 0)] := by
  refine E29 fun EV V => (is44_E lo).mono ?_
  rintro _ _ _ ⟨rfl, rfl, rfl⟩
  refine ⟨rfl, _, rfl, rfl, fun h1 => (is44_E a).mono ?_, fun h1 => ⟨rfl, rfl, by rw [if_neg fun h => by have := of_decide_eq_false h1; exact this h.1]⟩⟩
  rintro _ _ _ ⟨rfl, rfl, rfl⟩
  have hlo : 0 ≤ lo ∧ lo < T.length := of_decide_eq_true h1
  refine ⟨rfl, _, rfl, rfl, fun h2 => ⟨rfl, rfl, by rw [if_neg fun h => by have := of_decide_eq_false h2; exact this h.2]⟩, fun h2 => ?_⟩
  have ha : 0 ≤ a ∧ a < T.length := of_decide_eq_true h2
  have hf := hF.at (i := lo.toNat) (by omega)
  have hs := sumZ_b c2 c3 false (tk T lo.toNat).pg
  have hlz := longZ_b C c2 c3 (tk T lo.toNat).th (tk T lo.toNat).pg (tk T a.toNat).p
  refine ⟨hlo.1, tk_get (by omega), ha.1, tk_get (by omega), ?_⟩
  simp only [tk0, tk1, tk2, tk3, tk4, tk5, tk6]
  refine V.p12 ((Worst_E _ (by omega) c0 c1 c2 c3).mono ?_)
  rintro _ _ _ ⟨rfl, rfl, rfl⟩
  refine ⟨rfl, _, rfl, rfl, (Of_E (by omega)).mono ?_⟩
  rintro _ _ _ ⟨rfl, rfl, rfl⟩
  rw [show max (sumZ c2 c3 false (tk T lo.toNat).pg) 0 = sumZ c2 c3 false (tk T lo.toNat).pg by omega]
  refine ⟨rfl, _, rfl, rfl, fun hx => ⟨rfl, rfl, by rw [if_pos ⟨hlo, ha⟩, blkZ, if_pos hx]⟩, fun hx => (Longest_E hF.c hF.pg2 lo _ hlo).mono ?_⟩
  rintro _ _ _ ⟨rfl, rfl, rfl⟩
  refine ⟨rfl, _, rfl, rfl, (Of_E (by omega)).mono ?_⟩
  rintro _ _ _ ⟨rfl, rfl, rfl⟩
  rw [show max (longZ C c2 c3 (tk T lo.toNat).th (tk T lo.toNat).pg (tk T a.toNat).p) 0 = longZ C c2 c3 (tk T lo.toNat).th (tk T lo.toNat).pg (tk T a.toNat).p by omega]
  refine ⟨rfl, _, rfl, rfl, fun hy => (Of_E (by omega)).mono ?_, fun hy => ⟨rfl, rfl, by rw [if_pos ⟨hlo, ha⟩, blkZ, if_neg (by omega), if_neg (by omega), mnS]⟩⟩
  rintro _ _ _ ⟨rfl, rfl, rfl⟩
  rw [show max (tk T lo.toNat).fl 0 = (tk T lo.toNat).fl by omega]
  refine ⟨rfl, _, rfl, rfl, (SumL_E ⟨by omega, hf.2.1⟩ ⟨hlz.1, by omega⟩ ⟨hlz.1, by omega⟩).mono ?_⟩
  rintro _ _ _ ⟨rfl, rfl, rfl⟩
  refine ⟨rfl, _, rfl, rfl, rfl, rfl, ?_⟩
  rw [if_pos ⟨hlo, ha⟩, blkZ, if_neg (by omega), if_pos hy, mnS]
  congr 3; omega

theorem RBlocking_E (hF : Fits C T) (lo a : Int) (hlo : 0 ≤ lo ∧ lo < T.length) (ha : 0 ≤ a ∧ a < T.length) : EC Try.prog G34 [] [.i c0, .i c1, .i c2, .i c3, .r c4, .i c5, .r c6, .r (ints C), .r (T.map encT), .r c9, .i lo, .i a] fun x rs vs => x = 0 ∧ rs = [] ∧ vs = [.i (blkZ C T c2 c3 lo a)] := by
  have hf := hF.at (i := lo.toNat) (by omega)
  have hs := sumZ_b c2 c3 false (tk T lo.toNat).pg
  have hlz := longZ_b C c2 c3 (tk T lo.toNat).th (tk T lo.toNat).pg (tk T a.toNat).p
  refine E34 fun EV V => ⟨hlo.1, tk_get (by omega), ?_⟩
  simp only [tk0, tk1, tk2, tk3, tk4, tk5, tk6]
  refine (RSum_E _ (by omega) c0 c1 c2 c3 false).mono ?_
  rintro _ _ _ ⟨rfl, rfl, rfl⟩
  refine ⟨rfl, _, rfl, rfl, (ROf_E (by omega)).mono ?_⟩
  rintro _ _ _ ⟨rfl, rfl, rfl⟩
  rw [show max (sumZ c2 c3 false (tk T lo.toNat).pg) 0 = sumZ c2 c3 false (tk T lo.toNat).pg by omega]
  have hga := tk_get (T := T) (i := a.toNat) (by omega)
  simp only [tk0, tk1, tk2, tk3, tk4, tk5, tk6] at hga
  refine ⟨rfl, _, rfl, rfl, ha.1, hga, fun hx => ⟨trivial, trivial, by rw [blkZ, if_pos hx]⟩, fun hx => ⟨ha.1, hga, (RLongest_E hF.c hF.pg2 lo _ hlo).mono ?_⟩⟩
  rintro _ _ _ ⟨rfl, rfl, rfl⟩
  refine ⟨rfl, _, rfl, rfl, (ROf_E (by omega)).mono ?_⟩
  rintro _ _ _ ⟨rfl, rfl, rfl⟩
  rw [show max (longZ C c2 c3 (tk T lo.toNat).th (tk T lo.toNat).pg (tk T a.toNat).p) 0 = longZ C c2 c3 (tk T lo.toNat).th (tk T lo.toNat).pg (tk T a.toNat).p by omega]
  refine ⟨rfl, _, rfl, rfl, V.p16 ⟨fun hy => (ROf_E (by omega)).mono ?_, fun hy => ⟨rfl, rfl, by rw [blkZ, if_neg (by omega), if_neg (by omega), mnS]⟩⟩⟩
  rintro _ _ _ ⟨rfl, rfl, rfl⟩
  rw [show max (tk T lo.toNat).fl 0 = (tk T lo.toNat).fl by omega]
  refine ⟨rfl, _, rfl, rfl, rfl, rfl, ?_⟩
  rw [blkZ, if_neg (by omega), if_pos hy, mnS, wrapu (x := 2 * _) (by omega) (by omega), wrapu (by omega) (by omega)]

def delZ (C : List Int) (T : List Tk) (hit miss a : Int) (l : List Int) : Int := l.foldl (fun n i => max n (blkZ C T hit miss i a)) 0
theorem Delay_E (hF : Fits C T) (a : Int) : EC Try.prog G28 [] [.i c0, .i c1, .i c2, .i c3, .r c4, .i c5, .r c6, .r (ints C), .r (T.map encT), .r c9, .i a] fun x rs vs => x = 0 ∧ rs = [] ∧ vs = [.i (delZ C T c2 c3 a (if 0 ≤ a ∧ a < T.length then lowerL T a else []))] := by
  refine E28 fun EV V => (Lower_E hF.t a).mono ?_
  rintro _ _ _ ⟨rfl, rfl, rfl⟩
  refine ⟨rfl, _, rfl, rfl, ?_⟩
  generalize hl : (if 0 ≤ a ∧ a < T.length then lowerL T a else []) = l
  have hmem : ∀ i ∈ l, (0 ≤ i ∧ i < T.length) ∧ (0 ≤ a ∧ a < T.length) := fun i hi => by
    rw [← hl] at hi
    split at hi
    · rename_i h; exact ⟨idxF_mem hi, h⟩
    · cases hi
  have hll : l.length ≤ 20 := by
    rw [← hl]
    split
    · have := idxF_len (fun t => decide (t.p < (tk T a.toNat).p)) T T.length
      have := hF.t
      unfold lowerL; omega
    · simp
  have loop : ∀ (d m : Nat), l.length - m < d → m ≤ l.length → EV 9 [ints l] [.i a, .i (delZ C T c2 c3 a (l.take m)), .i l.length, .i m, .i c0, .i c1, .i c2, .i c3, .r c4, .i c5, .r c6, .r (ints C), .r (T.map encT), .r c9] := by
    intro d
    induction d with
    | zero => intro m hd; omega
    | succ d ih =>
      intro m hd hm
      refine V.p9 fun _ => ⟨fun hlt => ?_, fun hge => ?_⟩
      · have hml : m < l.length := by omega
        have hmm := hmem _ (List.getElem_mem hml)
        have ev1 : IntKind.wrap .i64 ((m : Int) + 1) = ((m + 1 : Nat) : Int) := by rw [wrap64 (by omega) (by omega)]; rfl
        have hg : l.getD m 0 = l[m] := by rw [List.getD_eq_getElem?_getD, List.getElem?_eq_getElem hml]; rfl
        rw [Int.toNat_natCast, ints_cI, hg, ev1]
        refine ⟨by omega, by simp; omega, by rw [← hg, ← ints_cI]; exact ints_get hml, (Blocking_E hF _ a).mono ?_⟩
        rintro _ _ _ ⟨rfl, rfl, rfl⟩
        rw [if_pos hmm]
        refine ⟨rfl, _, rfl, rfl, ?_⟩
        rw [mxS]
        have := ih (m + 1) (by omega) (by omega)
        rw [List.take_add_one, List.getElem?_eq_getElem hml] at this
        simp only [delZ, Option.toList, List.foldl_append, List.foldl_cons, List.foldl_nil] at this ⊢
        exact this
      · obtain rfl : m = l.length := by omega
        exact ⟨rfl, rfl, by rw [List.take_length, hl]⟩
  rw [ints_length]
  exact loop _ 0 (Nat.lt_succ_self _) (by omega)
theorem RDelay_E (hF : Fits C T) (a : Int) (ha : 0 ≤ a ∧ a < T.length) : EC Try.prog G33 [] [.i c0, .i c1, .i c2, .i c3, .r c4, .i c5, .r c6, .r (ints C), .r (T.map encT), .r c9, .i a] fun x rs vs => x = 0 ∧ rs = [] ∧ vs = [.i (delZ C T c2 c3 a (lowerL T a))] := by
  refine E33 fun EV V => ?_
  have hT := hF.t
  have loop : ∀ (d m : Nat), T.length - m < d → m ≤ T.length → EV 9 [] [.i a, .i (delZ C T c2 c3 a (idxF (fun t => decide (t.p < (tk T a.toNat).p)) T m)), .r (T.map encT), .i T.length, .i m, .i c0, .i c1, .i c2, .i c3, .r c4, .i c5, .r c6, .r (ints C), .r (T.map encT), .r c9] := by
    intro d
    induction d with
    | zero => intro m hd; omega
    | succ d ih =>
      intro m hd hm
      refine V.p9 ⟨fun hlt => ?_, fun hge => ?_⟩
      · have hmT : m < T.length := by omega
        have ev1 : IntKind.wrap .i64 ((m : Int) + 1) = ((m + 1 : Nat) : Int) := by rw [wrap64 (by omega) (by omega)]; rfl
        have next := ih (m + 1) (by omega) (by omega)
        rw [idxF_succ] at next
        refine ⟨by omega, tk_get hmT, ha.1, tk_get (by omega), fun hx => (RBlocking_E hF _ a (by omega) ha).mono ?_, fun hx => ?_⟩
        · rintro _ _ _ ⟨rfl, rfl, rfl⟩
          refine ⟨rfl, _, rfl, rfl, ?_⟩
          rw [Int.toNat_natCast, tk0, tk0] at hx
          rw [if_pos (by simpa using hx)] at next
          rw [ev1, mxS]
          simp only [delZ, List.foldl_append, List.foldl_cons, List.foldl_nil] at next ⊢
          exact next
        · rw [Int.toNat_natCast, tk0, tk0] at hx
          rw [if_neg (by simp; omega), List.append_nil] at next
          rw [ev1]; exact next
      · obtain rfl : m = T.length := by omega
        exact ⟨rfl, rfl, rfl⟩
  rw [List.length_map]
  exact loop _ 0 (Nat.lt_succ_self _) (by omega)

/-! ### what is asked about -/
def encM (p : Int × Bool) : List AV := [.int .i64 p.1, .bool p.2]
theorem mget_M (n : Int) : ∀ M : List (Int × Bool), (∃ b, ∀ z, mgetS .i64 n z (M.map encM) = some (.bool b)) ∨ ∀ z, mgetS .i64 n z (M.map encM) = some z
  | [] => .inr fun z => rfl
  | (k, b) :: M => by
    simp only [List.map_cons, encM, mgetS, if_true]
    by_cases h : n = k
    · simp only [if_pos h]; exact .inl ⟨b, fun _ => rfl⟩
    · simp only [if_neg h]; exact mget_M n M
theorem mget_ok (n : Int) (M : List (Int × Bool)) : mgetS .i64 n (.bool false) (M.map encM) = some (.bool (mBS (M.map encM) .i64 n)) := by
  unfold mBS
  rcases mget_M n M with ⟨b, h⟩ | h
  · rw [h, h]
  · rw [h, h]
theorem mset_M (n : Int) (v : Bool) : ∀ M : List (Int × Bool), ∃ M', msetS .i64 n (.bool v) (M.map encM) = some (List.map encM M')
  | [] => ⟨[(n, v)], rfl⟩
  | (k, b) :: M => by
    simp only [List.map_cons, encM, msetS, if_true]
    by_cases h : n = k
    · simp only [if_pos h]; exact ⟨(n, v) :: M, rfl⟩
    · simp only [if_neg h]
      obtain ⟨M', h1⟩ := mset_M n v M
      rw [h1]; exact ⟨(k, b) :: M', rfl⟩

theorem Few_E (hT : T.length ≤ maxLen) : EC Try.prog G35 [] [.i c0, .i c1, .i c2, .i c3, .r c4, .i c5, .r c6, .r (ints C), .r (T.map encT), .r c9] fun x rs vs => x = 0 ∧ rs = [] ∧ ∃ b, vs = [.b b] ∧ (b = true → C.length ≤ 20 ∧ T.length ≤ 20) := by
  have hT : T.length ≤ 9223372036854775807 := hT
  refine E35 fun EV V => ?_
  have loop : ∀ (d m : Nat), T.length - m < d → m ≤ T.length → EV 7 [] [.r (T.map encT), .i T.length, .i m, .i c0, .i c1, .i c2, .i c3, .r c4, .i c5, .r c6, .r (ints C), .r (T.map encT), .r c9] := by
    intro d
    induction d with
    | zero => intro m hd; omega
    | succ d ih =>
      intro m hd hm
      refine V.p7 ⟨fun hlt => ⟨by omega, tk_get (by omega), fun hx => ⟨rfl, rfl, false, rfl, fun h => by cases h⟩, fun hx => ?_⟩, fun hge => ?_⟩
      · rw [wrap64 (by omega) (by omega)]
        exact ih (m + 1) (by omega) (by omega)
      · rw [ints_length, List.length_map]
        exact ⟨fun _ => ⟨fun _ => ⟨fun h1 => ⟨fun h2 => ⟨rfl, rfl, _, rfl, fun _ => ⟨by omega, by omega⟩⟩, fun _ => ⟨rfl, rfl, false, rfl, fun h => by cases h⟩⟩, fun _ => ⟨rfl, rfl, false, rfl, fun h => by cases h⟩⟩, fun _ => ⟨rfl, rfl, false, rfl, fun h => by cases h⟩⟩, fun _ => ⟨rfl, rfl, false, rfl, fun h => by cases h⟩⟩
  rw [List.length_map]
  exact loop _ 0 (Nat.lt_succ_self _) (by omega)

theorem few_E (hC : C.length ≤ maxLen) (hT : T.length ≤ maxLen) : EC Try.prog G26 [] [.i c0, .i c1, .i c2, .i c3, .r c4, .i c5, .r c6, .r (ints C), .r (T.map encT), .r c9] fun x rs vs => x = 0 ∧ rs = [] ∧ ∃ b, vs = [.b b] ∧ (b = true → C.length ≤ 20 ∧ T.length ≤ 20 ∧ ∀ t ∈ T, t.pg.length ≤ 30 ∧ t.fl ≤ 1099511627776) := by
  have hC : C.length ≤ 9223372036854775807 := hC
  have hT' : T.length ≤ 9223372036854775807 := hT
  refine E26 fun EV V => ?_
  have no : ∀ {p : Prop}, (0 : Nat) = 0 ∧ ([] : Rs) = [] ∧ ∃ b, [Lf.b false] = [.b b] ∧ (b = true → p) := ⟨rfl, rfl, false, rfl, fun h => by cases h⟩
  have p30 : ∀ (d m : Nat), T.length - m < d → m ≤ T.length → (∀ i, i < m → (tk T i).pg.length ≤ 30 ∧ (tk T i).fl ≤ 1099511627776) → EV 30 [] [.r (T.map encT), .i T.length, .i m, .i c0, .i c1, .i c2, .i c3, .r c4, .i c5, .r c6, .r (ints C), .r (T.map encT), .r c9] := by
    intro d
    induction d with
    | zero => intro m hd; omega
    | succ d ih =>
      intro m hd hm hinv
      refine V.p30 ⟨fun hlt => ?_, fun hge => (Few_E hT).mono ?_⟩
      · have hmT : m < T.length := by omega
        refine ⟨by omega, tk_get hmT, fun _ => ⟨fun _ => ⟨fun h3 => ⟨fun _ => no, fun h4 => ?_⟩, fun _ => no⟩, fun _ => no⟩, fun _ => no⟩
        rw [Int.toNat_natCast, tk6, List.length_map] at h3 ⊢
        rw [Int.toNat_natCast, tk5] at h4
        have h3 : (tk T m).pg.length ≤ 30 := by omega
        have next := ih (m + 1) (by omega) (by omega) fun i hi => by
          by_cases e : i = m
          · subst e; exact ⟨h3, h4⟩
          · exact hinv i (by omega)
        have ev1 : IntKind.wrap .i64 ((m : Int) + 1) = ((m + 1 : Nat) : Int) := by rw [wrap64 (by omega) (by omega)]; rfl
        have p54 : ∀ (d k : Nat) (M : List (Int × Bool)), (tk T m).pg.length - k < d → k ≤ (tk T m).pg.length → EV 54 [M.map encM] [.r (T.map encT), .i T.length, .i m, .r ((tk T m).pg.map encO), .i (tk T m).pg.length, .i k, .i c0, .i c1, .i c2, .i c3, .r c4, .i c5, .r c6, .r (ints C), .r (T.map encT), .r c9] := by
          intro d
          induction d with
          | zero => intro k M hd; omega
          | succ d ihk =>
            intro k M hd hk
            refine V.p54 fun _ => ⟨fun hlt => ?_, fun hge => by rw [ev1]; exact next⟩
            have hkP : k < (tk T m).pg.length := by omega
            have evk : IntKind.wrap .i64 ((k : Int) + 1) = ((k + 1 : Nat) : Int) := by rw [wrap64 (by omega) (by omega)]; rfl
            have go : ∀ M, EV 54 [List.map encM M] [.r (T.map encT), .i T.length, .i m, .r ((tk T m).pg.map encO), .i (tk T m).pg.length, .i (IntKind.wrap .i64 ((k : Int) + 1)), .i c0, .i c1, .i c2, .i c3, .r c4, .i c5, .r c6, .r (ints C), .r (T.map encT), .r c9] := fun M => by
              rw [evk]; exact ihk (k + 1) M (by omega) (by omega)
            have set : ∀ (n : Int) (v : Bool), msetS .i64 n (.bool v) (M.map encM) = some (mSS (M.map encM) .i64 n (.bool v)) ∧ EV 54 [mSS (M.map encM) .i64 n (.bool v)] [.r (T.map encT), .i T.length, .i m, .r ((tk T m).pg.map encO), .i (tk T m).pg.length, .i (IntKind.wrap .i64 ((k : Int) + 1)), .i c0, .i c1, .i c2, .i c3, .r c4, .i c5, .r c6, .r (ints C), .r (T.map encT), .r c9] := fun n v => by
              obtain ⟨M', h⟩ := mset_M n v M
              have e : mSS (M.map encM) .i64 n (.bool v) = List.map encM M' := by unfold mSS; rw [h]; rfl
              rw [e]; exact ⟨h, go M'⟩
            exact ⟨by omega, op3_get hkP, fun h5 => ⟨mget_ok _ M, fun _ => no, fun _ => ⟨fun hn => (hn h5).elim, fun _ => set _ _⟩⟩, fun h5 => ⟨fun _ => ⟨fun _ => set _ _, fun _ => go M⟩, fun h => (h5 h).elim⟩⟩
        exact p54 _ 0 [] (Nat.lt_succ_self _) (by omega)
      · rintro _ _ _ ⟨rfl, rfl, b, rfl, hb⟩
        obtain rfl : m = T.length := by omega
        refine ⟨rfl, _, rfl, rfl, rfl, rfl, b, rfl, fun h => ⟨(hb h).1, (hb h).2, fun t ht => ?_⟩⟩
        obtain ⟨i, hi, rfl⟩ := List.getElem_of_mem ht
        have := hinv i hi
        rwa [tk_lt hi] at this
  have p7 : ∀ (d m : Nat), C.length - m < d → m ≤ C.length → EV 7 [] [.r (ints C), .i C.length, .i m, .i c0, .i c1, .i c2, .i c3, .r c4, .i c5, .r c6, .r (ints C), .r (T.map encT), .r c9] := by
    intro d
    induction d with
    | zero => intro m hd; omega
    | succ d ih =>
      intro m hd hm
      refine V.p7 ⟨fun hlt => ⟨by omega, ints_get (by omega), fun _ => ⟨fun _ => no, fun _ => ?_⟩, fun _ => no⟩, fun hge => ?_⟩
      · rw [wrap64 (by omega) (by omega)]
        exact ih (m + 1) (by omega) (by omega)
      · rw [List.length_map]
        exact p30 _ 0 (Nat.lt_succ_self _) (by omega) fun i hi => by omega
  rw [ints_length]
  exact p7 _ 0 (Nat.lt_succ_self _) (by omega)
end

/-! ### the law -/
abbrev TKd : List DT := [.int .i64, .int .i64, .int .i64, .int .i64, .int .i64, .int .i64, .rows [.int .i64, .int .i64, .int .i64]]
theorem exO : ∀ {rows : List (List AV)}, (∀ r ∈ rows, GdL [.int .i64, .int .i64, .int .i64] r) → ∃ l : List Op3, rows = l.map encO
  | [], _ => ⟨[], rfl⟩
  | r :: rows, h => by
    obtain ⟨l, hl⟩ := exO fun x hx => h x (List.mem_cons_of_mem _ hx)
    have h0 := h r (List.mem_cons_self ..)
    simp only [GdL, GdC] at h0
    obtain ⟨_, _, e, ⟨t, rfl, _⟩, _, _, rfl, ⟨k', rfl, _⟩, _, _, rfl, ⟨a, rfl, _⟩, rfl⟩ := h0
    exact ⟨⟨t, k', a⟩ :: l, by rw [e, hl]; rfl⟩
theorem wf64 {n : Int} (h : (Lit.int .i64 n).wf = true) : -9223372036854775808 ≤ n ∧ n ≤ 9223372036854775807 := by
  simp only [Lit.wf, Bool.and_eq_true, decide_eq_true_eq] at h
  have e1 : IntKind.min .i64 = -9223372036854775808 := rfl
  have e2 : IntKind.max .i64 = 9223372036854775807 := rfl
  rw [e1, e2] at h; exact h
theorem wfU {n : Int} (h : (Lit.int .u64 n).wf = true) : U n := by
  simp only [Lit.wf, Bool.and_eq_true, decide_eq_true_eq] at h
  have e1 : IntKind.min .u64 = 0 := rfl
  have e2 : IntKind.max .u64 = 18446744073709551615 := rfl
  rw [e1, e2] at h; exact h
theorem exTk : ∀ {rows : List (List AV)}, (∀ r ∈ rows, GdL TKd r) → ∃ l : List Tk, rows = l.map encT ∧ ∀ t ∈ l, t.pe ≤ 9223372036854775807
  | [], _ => ⟨[], rfl, fun t ht => by cases ht⟩
  | r :: rows, h => by
    obtain ⟨l, hl, hp⟩ := exTk fun x hx => h x (List.mem_cons_of_mem _ hx)
    have h0 := h r (List.mem_cons_self ..)
    simp only [GdL, GdC] at h0
    obtain ⟨_, _, e, ⟨t0, rfl, _⟩, _, _, rfl, ⟨t1, rfl, _⟩, _, _, rfl, ⟨t2, rfl, w2⟩, _, _, rfl, ⟨t3, rfl, _⟩, _, _, rfl, ⟨t4, rfl, _⟩, _, _, rfl, ⟨t5, rfl, _⟩, _, _, rfl, ⟨t6, rfl, _, g6⟩, rfl⟩ := h0
    obtain ⟨P, rfl⟩ := exO g6
    refine ⟨⟨t0, t1, t2, t3, t4, t5, P⟩ :: l, by rw [e, hl]; rfl, fun t ht => ?_⟩
    rcases List.mem_cons.1 ht with rfl | ht
    · exact (wf64 w2).2
    · exact hp t ht
theorem exC : ∀ {rows : List (List AV)}, (∀ r ∈ rows, GdL [.int .i64] r) → ∃ l : List Int, rows = ints l
  | [], _ => ⟨[], rfl⟩
  | r :: rows, h => by
    obtain ⟨l, hl⟩ := exC fun x hx => h x (List.mem_cons_of_mem _ hx)
    have h0 := h r (List.mem_cons_self ..)
    simp only [GdL, GdC] at h0
    obtain ⟨_, _, e, ⟨t, rfl, _⟩, rfl⟩ := h0
    exact ⟨t :: l, by rw [e, hl]; rfl⟩

theorem Tells27 (c0 : Int) (_ : (Lit.int .i64 c0).wf = true) (c1 : Int) (_ : (Lit.int .i64 c1).wf = true) (c2 : Int) (_ : (Lit.int .i64 c2).wf = true) (c3 : Int) (_ : (Lit.int .i64 c3).wf = true) (c4 : List (List AV)) (_ : c4.length ≤ maxLen) (g4 : ∀ r ∈ c4, GdL [.int .i64] r) (c5 : Int) (_ : (Lit.int .i64 c5).wf = true) (c6 : List (List AV)) (_ : c6.length ≤ maxLen) (g6 : ∀ r ∈ c6, GdL [.int .i64] r) (c7 : List (List AV)) (h7 : c7.length ≤ maxLen) (g7 : ∀ r ∈ c7, GdL [.int .i64] r) (tasks : List (List AV)) (ht : tasks.length ≤ maxLen) (gt : ∀ r ∈ tasks, GdL TKd r) (c9 : List (List AV)) (_ : c9.length ≤ maxLen) (g9 : ∀ r ∈ c9, GdL [.int .i64] r) (task : Int) (_ : (Lit.int .i64 task).wf = true) (lower : Int) (_ : (Lit.int .i64 lower).wf = true) (w : Int) (hw : (Lit.int .u64 w).wf = true) : EC Try.prog G7 [] [.i c0, .i c1, .i c2, .i c3, .r c4, .i c5, .r c6, .r c7, .r tasks, .r c9, .i task, .i lower, .i w] fun x rs vs => x = 0 ∧ vs = [.b true] := by
  obtain ⟨C, rfl⟩ := exC g7
  obtain ⟨T, rfl, hpe⟩ := exTk gt
  rw [ints_length] at h7
  rw [List.length_map] at ht
  have hw := wfU hw
  refine E7 fun EV V => fixed25.mono ?_
  rintro _ _ _ ⟨rfl, rfl, rfl⟩
  refine ⟨rfl, _, rfl, rfl, fun h => (by cases h), fun _ => (few_E h7 ht).mono ?_⟩
  rintro _ _ _ ⟨rfl, rfl, b, rfl, hb⟩
  refine ⟨rfl, _, rfl, rfl, fun _ => ⟨rfl, rfl⟩, fun hbt => ?_⟩
  obtain ⟨f1, f2, f3⟩ := hb hbt
  have hF : Fits C T := ⟨f1, f2, fun t h => (f3 t h).1, fun t h => (f3 t h).2, hpe⟩
  have out : ¬ (0 ≤ task ∧ task < T.length) → EC Try.prog G27 [] [.i c0, .i c1, .i c2, .i c3, .r c4, .i c5, .r c6, .r (ints C), .r (T.map encT), .r c9, .i task, .i w] (fun x rs vs => (x = 0 ∧ ∃ (y6_0 : Int), rs = [] ∧ vs = [.i y6_0] ∧ (EC Try.prog G28 [] [.i c0, .i c1, .i c2, .i c3, .r c4, .i c5, .r c6, .r (ints C), .r (T.map encT), .r c9, .i task] (fun x rs vs => (x = 0 ∧ ∃ (y7_0 : Int), rs = [] ∧ vs = [.i y7_0] ∧ (EC Try.prog G29 [] [.i c0, .i c1, .i c2, .i c3, .r c4, .i c5, .r c6, .r (ints C), .r (T.map encT), .r c9, .i 0, .i task] (fun x rs vs => (x = 0 ∧ ∃ (y8_0 : Int), rs = [] ∧ vs = [.i y8_0] ∧ (((IntKind.wrap .u64 ((IntKind.wrap .u64 (y6_0 + y7_0)) + y8_0)) = (0 : Int) → EC Try.prog G30 [] [.i c0, .i c1, .i c2, .i c3, .r c4, .i c5, .r c6, .r (ints C), .r (T.map encT), .r c9, .i task] (fun x rs vs => (x = 0 ∧ ∃ (Y10_0 : List (List AV)), rs = [Y10_0] ∧ vs = [] ∧ (EC Try.prog G31 [] [.i c0, .i c1, .i c2, .i c3, .r c4, .i c5, .r c6, .r (ints C), .r (T.map encT), .r c9, .i task] (fun x rs vs => (x = 0 ∧ ∃ (Y11_0 : List (List AV)), rs = [Y11_0] ∧ vs = [] ∧ ((0 : Nat) = 0 ∧ [Lf.b ((IntKind.wrap .i64 ((((List.length Y10_0) : Nat) : Int) + (((List.length Y11_0) : Nat) : Int))) == (0 : Int))] = [.b true]))))))) ∧ ((IntKind.wrap .u64 ((IntKind.wrap .u64 (y6_0 + y7_0)) + y8_0)) ≠ (0 : Int) → ((0 : Nat) = 0 ∧ [Lf.b false] = [.b true])))))))))))  := by
    intro hno
    refine (Count_E hF task w hw).mono ?_
    rintro _ _ _ ⟨rfl, rfl, rfl⟩
    refine ⟨rfl, _, rfl, rfl, (Delay_E hF task).mono ?_⟩
    rintro _ _ _ ⟨rfl, rfl, rfl⟩
    refine ⟨rfl, _, rfl, rfl, (Blocking_E hF 0 task).mono ?_⟩
    rintro _ _ _ ⟨rfl, rfl, rfl⟩
    rw [if_neg hno, if_neg hno, if_neg fun h => hno h.2]
    refine ⟨rfl, _, rfl, rfl, fun _ => (Lower_E hF.t task).mono ?_, fun h => (h rfl).elim⟩
    rintro _ _ _ ⟨rfl, rfl, rfl⟩
    refine ⟨rfl, _, rfl, rfl, (Higher_E hF.t task).mono ?_⟩
    rintro _ _ _ ⟨rfl, rfl, rfl⟩
    rw [if_neg hno, if_neg hno]
    exact ⟨rfl, _, rfl, rfl, rfl, rfl⟩
  have p29 : (0 ≤ task ∧ task < T.length) → EV 29 [] [.i task, .i lower, .b false, .i c0, .i c1, .i c2, .i c3, .r c4, .i c5, .r c6, .r (ints C), .r (T.map encT), .r c9] := by
    intro ha
    refine V.p29 ⟨fun h => (by cases h), fun _ => ⟨fun h0 => ⟨fun h1 => (Blocking_E hF lower task).mono ?_, fun h1 => (Blocking_E hF lower task).mono ?_⟩, fun h0 => (Blocking_E hF lower task).mono ?_⟩⟩
    · rintro _ _ _ ⟨rfl, rfl, rfl⟩
      rw [List.length_map] at h1
      rw [if_neg (by omega)]
      exact ⟨rfl, _, rfl, rfl, rfl, rfl⟩
    · rintro _ _ _ ⟨rfl, rfl, rfl⟩
      rw [List.length_map] at h1
      rw [if_pos ⟨⟨h0, h1⟩, ha⟩]
      refine ⟨rfl, _, rfl, rfl, (RBlocking_E hF lower task ⟨h0, h1⟩ ha).mono ?_⟩
      rintro _ _ _ ⟨rfl, rfl, rfl⟩
      exact ⟨rfl, _, rfl, rfl, rfl, by simp⟩
    · rintro _ _ _ ⟨rfl, rfl, rfl⟩
      rw [if_neg (by omega)]
      exact ⟨rfl, _, rfl, rfl, rfl, rfl⟩
  rw [List.length_map]
  refine ⟨fun h0 => ⟨fun h1 => out (by omega), fun h1 => (Count_E hF task w hw).mono ?_⟩, fun h0 => out (by omega)⟩
  rintro _ _ _ ⟨rfl, rfl, rfl⟩
  rw [if_pos ⟨h0, h1⟩]
  refine ⟨rfl, _, rfl, rfl, (RCount_E hF task w hw ⟨h0, h1⟩).mono ?_⟩
  rintro _ _ _ ⟨rfl, rfl, rfl⟩
  refine ⟨rfl, _, rfl, rfl, fun h => (h rfl).elim, fun _ => (Delay_E hF task).mono ?_⟩
  rintro _ _ _ ⟨rfl, rfl, rfl⟩
  rw [if_pos ⟨h0, h1⟩]
  refine ⟨rfl, _, rfl, rfl, (RDelay_E hF task ⟨h0, h1⟩).mono ?_⟩
  rintro _ _ _ ⟨rfl, rfl, rfl⟩
  refine ⟨rfl, _, rfl, rfl, ?_⟩
  rw [show (delZ C T c2 c3 task (lowerL T task) != delZ C T c2 c3 task (lowerL T task)) = false by simp]
  exact p29 ⟨h0, h1⟩
end Go.Ab
