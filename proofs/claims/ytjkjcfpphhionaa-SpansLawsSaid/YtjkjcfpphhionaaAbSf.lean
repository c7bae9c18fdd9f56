/- slices.SortFunc at structs of whole numbers: the shelf's contract as one of the machine's. -/
import Derived.Test.YtjkjcfpphhionaaAbZr
import Derived.Shelf.SlSortCmp.NoneTotal
namespace Go.Ab
open Go Go.Proofs Go.Sort
set_option linter.unusedVariables false
set_option linter.unusedSimpArgs false

/-- Rows of whole numbers. -/
def rowF {α : Type} (ei : α → List Int) (L : List α) : List (List AV) := L.map fun x => (ei x).map (AV.int .i64)
def encF {α : Type} (ei : α → List Int) (x : α) : List Value := (ei x).map (Value.int .i64)
theorem rowF_pure {α : Type} (ei : α → List Int) (L : List α) : pursS (rowF ei L) = true := by
  have hp : ∀ l : List Int, purs (l.map (AV.int .i64)) = true := fun l => by
    induction l with
    | nil => rfl
    | cons x l ih => simpa [purs, pur] using ih
  induction L with
  | nil => rfl
  | cons x L ih => simp only [rowF, List.map_cons, pursS, hp, Bool.true_and]; exact ih

/-- What slices.SortFunc does, with a comparison that is a function of its own. -/
def SortFC {α : Type} [Inhabited α] (P : Program) (f g k : Nat) (ei : α → List Int) (cf : α → α → Int) : Prop :=
  Callable P f ∧ (∀ p cap fv w, Calls P f #[.slice p 0 cap, fv] w fun e w' => e = .returned (.tuple #[]) ∧ w' = w) ∧
  ∀ blk off cap (d : Array α) w, CmpLays P g #[] (encF ei) k cf blk off d.size w → HoldsK (encF ei) k w blk off d → blk < w.heap.size → d.size < 4611686018427387904 →
    Calls P f #[.slice (some ⟨blk, off, none⟩) d.size cap, .func (.func g) #[] #[]] w fun e w' => e = .returned (.tuple #[]) ∧ ∃ d' n os, PermIn 0 d.size d d' ∧ SortedIn (ltOf cf) 0 d.size d' ∧ w' = sortWorldK (encF ei) k w blk off n d' os

/-- L' is L in an order that no comparison speaks against. -/
def SortedF {α : Type} (cf : α → α → Int) (L L' : List α) : Prop := L'.Perm L ∧ L'.Pairwise fun x y => ¬ cf y x < 0

theorem sortedF_of {α : Type} [Inhabited α] {cf : α → α → Int} {L : List α} {d' : Array α} (h1 : PermIn 0 L.toArray.size L.toArray d') (h2 : SortedIn (ltOf cf) 0 L.toArray.size d') : SortedF cf L d'.toList ∧ d'.size = L.length := by
  obtain ⟨p1, p2, p3⟩ := h1
  have e1 : d'.size = L.length := by simpa using p1
  refine ⟨⟨?_, ?_⟩, e1⟩
  · have a1 : d'.extract 0 L.toArray.size = d' := by rw [List.size_toArray, ← e1, Array.extract_size]
    have a2 : L.toArray.extract 0 L.toArray.size = L.toArray := Array.extract_size
    rw [a1, a2] at p3
    exact p3
  · rw [List.pairwise_iff_getElem]
    intro i j hi hj hij
    have := h2 i j (Nat.zero_le _) hij (by simp at hj; simpa [e1] using hj)
    simp only [ltOf, decide_eq_false_iff_not] at this
    rw [getElem!_pos d' j (by simpa using hj), getElem!_pos d' i (by simpa using hi)] at this
    simpa using this

theorem sortF_A {α : Type} [Inhabited α] {P : Program} {f g k : Nat} {ei : α → List Int} {cf : α → α → Int} (hc : SortFC P f g k ei cf) (hk : ∀ x, (ei x).length = k) (hk0 : 0 < k)
    (hcmp : ∀ W x y, Calls P g #[.agg (encF ei x).toArray, .agg (encF ei y).toArray] W fun e w' => e = .returned (.int .i64 (cf x y)) ∧ ∃ q os', w' = grow (W.drewN q) os') {e : TypeId} (L : List α) (hL : L.length < 4611686018427387904) :
    CallsA P f [.sl 0 L.length 0 L.length, .fn (.func g) [] []] [.arr e k (rowF ei L)] fun r H => r = .tup [] ∧ ∃ L', SortedF cf L L' ∧ H = [.arr e k (rowF ei L')] := by
  refine ⟨hc.1, fun S w vs hw hr => ?_⟩
  simp only [rels] at hr
  obtain ⟨v, _, rfl, hv, v', _, rfl, hv', rfl⟩ := hr
  obtain ⟨fa, fb, rfl, hfa, hfb⟩ : ∃ a b, v' = .func (.func g) a b ∧ a = #[] ∧ b = #[] := by
    simp only [rel, rels] at hv'
    obtain ⟨a, b, h1, h2, h3⟩ := hv'
    exact ⟨a, b, h1, Array.toList_eq_nil_iff.1 h2, Array.toList_eq_nil_iff.1 h3⟩
  subst hfa hfb
  have hb : ([.arr e k (rowF ei L)] : List ABlk)[0]? = some (.arr e k (rowF ei L)) := rfl
  obtain ⟨v1, v2⟩ := sl_valid hv hb (by simp [rowF])
  obtain ⟨_, hblk⟩ := hw.blk 0 _ hb
  rcases Nat.eq_zero_or_pos L.length with hn | hn
  · obtain ⟨a, c, rfl⟩ := sl_len hv hb (by simp [rowF])
    obtain rfl := List.eq_nil_of_length_eq_zero hn
    refine (hc.2.1 a c _ w).mono ?_
    rintro _ _ ⟨rfl, rfl⟩
    exact ⟨_, rfl, S, .tup [], _, Ext.refl _ _, hw, by simp [rel, rels], rfl, [], ⟨List.Perm.refl _, List.Pairwise.nil⟩, rfl⟩
  · cases hr : S.ρ 0 with
    | none => rw [hr] at v2; omega
    | some p =>
      obtain ⟨B, c⟩ := p
      rw [hr] at v2 hblk
      obtain ⟨aa, q1, q2⟩ := v2
      obtain ⟨arr, m1, m2, m3, m4, m5⟩ := hblk
      have hcl : L.length ≤ c := by simpa [rowF] using m3
      obtain rfl := q2 (by omega)
      subst q1
      have hcell : ∀ (i j : Nat) (h : i < L.length) (hj : j < (ei L[i]).length), arr[i * k + j]? = some (.int .i64 (ei L[i])[j]) := fun i j h hj => by
        obtain ⟨_, g⟩ := m4 i ((ei L[i]).map (AV.int .i64)) (by simp [rowF, h])
        obtain ⟨u, g1, g2, _⟩ := g j (.int .i64 (ei L[i])[j]) (by simp [hj])
        simp only [rel] at g2
        rw [← g2, ← g1]
      have hdiv : ∀ t, t < L.length * k → t / k < L.length ∧ t % k < k ∧ t / k * k + t % k = t := fun t ht => ⟨by rwa [Nat.div_lt_iff_lt_mul hk0], Nat.mod_lt _ hk0, by have := Nat.div_add_mod t k; rw [Nat.mul_comm]; omega⟩
      have hflat : ∀ (d : Array α) (hd : d.size = L.length) (t : Nat) (ht : t < L.length * k), (flatK (encF ei) k d)[t]! = .int .i64 ((ei (d[t / k]'(by rw [hd]; exact (hdiv t ht).1)))[t % k]'(by rw [hk]; exact (hdiv t ht).2.1)) := fun d hd t ht => by
        obtain ⟨h1, h2, h3⟩ := hdiv t ht
        rw [get_flatK _ _ _ _ (by rw [hd]; exact ht), getElem!_pos d _ (by rw [hd]; exact h1)]
        rw [getElem!_pos _ _ (by simp [encF, hk, h2])]
        simp [encF]
      have hH : HoldsK (encF ei) k w B (0 * k) L.toArray := fun t ht => by
        have ht' : t < L.length * k := by simpa using ht
        obtain ⟨h1, h2, h3⟩ := hdiv t ht'
        refine ⟨?_, ?_⟩
        · simp only [World.cell?, m1]
          rw [hflat L.toArray (by simp) t ht', Nat.zero_mul, Nat.zero_add]
          have := hcell (t / k) (t % k) h1 (by rw [hk]; exact h2)
          rw [h3] at this
          simpa using this
        · simp [World.frozen?, m1]
      have hBw : B < w.heap.size := block_lt m1
      have hcm : CmpLays P g #[] (encF ei) k cf B (0 * k) L.toArray.size w := fun m os dk _ x y => hcmp _ x y
      refine (hc.2.2 B (0 * k) (c - 0) L.toArray w hcm hH hBw (by simpa using hL)).mono ?_
      rintro _ _ ⟨rfl, d', n, os, hp, hs, rfl⟩
      obtain ⟨hS, hd'⟩ := sortedF_of hp hs
      have hlen : d'.toList.length = L.length := by simpa using hd'
      have hheap : ∀ j : Nat, j < w.heap.size → (sortWorldK (encF ei) k w B (0 * k) n d' os).heap[j]? = if j = B then (w.heap[j]?).map (onCells (putCells id (0 * k) (flatK (encF ei) k d'))) else w.heap[j]? := fun j hj => by
        simp only [sortWorldK, putRowK, grow, putRow, mapBlock, Sort.ahead]
        rw [Array.getElem?_append_left (by simpa using hj), Array.getElem?_modify]
        by_cases hjb : B = j
        · rw [if_pos hjb, if_pos hjb.symm]
        · rw [if_neg hjb, if_neg (fun h => hjb h.symm)]
      obtain ⟨w1, w2⟩ := hw.arr_upd hb hr (w' := sortWorldK (encF ei) k w B (0 * k) n d' os) ⟨rfl, rfl, rfl, by simp [sortWorldK, putRowK, grow, putRow, mapBlock, Sort.ahead], fun j hj hne => by rw [hheap j hj, if_neg hne]⟩
        (by rw [hheap B hBw, if_pos rfl, m1]; rfl) (rows' := rowF ei d'.toList) (by simp [putCells, m2]) (by simp [rowF, hd']) (by simpa [rowF, hd'] using hcl)
        (fun i r hi => by
          have hir : i < L.length := by
            have := (List.getElem?_eq_some_iff.1 hi).1
            simpa [rowF, hd'] using this
          have hi2 : i < d'.size := by rw [hd']; exact hir
          have er : r = (ei d'[i]).map (AV.int .i64) := by simp [rowF, hi2] at hi; exact hi.symm
          subst er
          refine ⟨by simp [hk], fun j c' hj => ?_⟩
          have hjk : j < k := by
            have := (List.getElem?_eq_some_iff.1 hj).1
            simpa [hk] using this
          have hj2 : j < (ei d'[i]).length := by rw [hk]; exact hjk
          simp [hj2] at hj
          subst hj
          refine ⟨.int .i64 (ei d'[i])[j], ?_, rfl, rfl⟩
          have hb1 : i * k + k ≤ L.length * k := by
            have := Nat.mul_le_mul_right k (show i + 1 ≤ L.length from hir)
            rwa [Nat.add_mul, Nat.one_mul] at this
          have ht : i * k + j < L.length * k := by omega
          have e1 : (i * k + j) / k = i := (blk_iff k i _ hk0).1 ⟨by omega, by omega⟩
          have e2 : (i * k + j) % k = j := by rw [Nat.mod_eq_sub_div_mul, e1]; omega
          have hj3 : j < (ei L[i]).length := by rw [hk]; exact hjk
          simp only [putCells, Array.getElem?_mapIdx]
          rw [hcell i j hir hj3]
          simp only [Option.map_some, Option.some.injEq, id]
          rw [if_pos ⟨by omega, by rw [size_flatK, hd', Nat.zero_mul, Nat.zero_add]; exact ht⟩]
          rw [Nat.zero_mul, Nat.sub_zero, hflat d' hd' _ ht]
          simp only [e1, e2])
      exact ⟨_, rfl, S, .tup [], _, w2, w1, by simp [rel, rels], rfl, _, hS, rfl⟩

theorem sortF_E {α : Type} [Inhabited α] {P : Program} {f g k : Nat} {ei : α → List Int} {cf : α → α → Int} (hc : SortFC P f g k ei cf) (hk : ∀ x, (ei x).length = k) (hk0 : 0 < k)
    (hcmp : ∀ W x y, Calls P g #[.agg (encF ei x).toArray, .agg (encF ei y).toArray] W fun e w' => e = .returned (.int .i64 (cf x y)) ∧ ∃ q os', w' = grow (W.drewN q) os') {e : TypeId} (L : List α) (hL : L.length < 4611686018427387904) :
    EC P ⟨f, [.sl 0, .fn g [] []], [.arr e k], [⟨true, ⟨[], [.arr e k]⟩⟩]⟩ [rowF ei L] [] fun x rs vs => x = 0 ∧ (∃ L', SortedF cf L L' ∧ rs = [rowF ei L']) ∧ vs = [] := by
  intro _
  have h := sortF_A hc hk hk0 hcmp (e := e) L hL
  have e1 : bldC arS [.sl 0, .fn g [] []] [.arr e k] [rowF ei L] [] = ([.sl 0 L.length 0 L.length, .fn (.func g) [] []], [.arr e k (rowF ei L)]) := by
    show ([AV.sl 0 (rowF ei L).length 0 (rowF ei L).length, .fn (.func g) [] []], _) = _
    simp [rowF]; rfl
  rw [e1]
  refine h.mono ?_
  rintro _ _ ⟨rfl, L', hS, rfl⟩
  exact ⟨0, _, [rowF ei L'], [], rfl, ⟨rowF_pure _ _, trivial⟩, ⟨rfl, ⟨L', hS, rfl⟩, rfl⟩, rfl, Nat.le_refl _, bldS_pure (A := arS) (nt := 0) (st := ⟨[], [.arr e k]⟩) (rs := [rowF ei L']) (vs := []) ⟨rowF_pure _ _, trivial⟩⟩
end Go.Ab
