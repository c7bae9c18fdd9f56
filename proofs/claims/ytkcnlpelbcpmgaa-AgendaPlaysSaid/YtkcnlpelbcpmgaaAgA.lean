/- AgendaPlays: the walk of the law. -/
import Derived.Test.YtkcnlpelbcpmgaaAgU
import Derived.Test.YtkcnlpelbcpmgaaAbLaw
namespace Go.Ab
open Go Go.Proofs HeapM
set_option linter.unusedVariables false
set_option linter.unusedSimpArgs false
set_option maxRecDepth 100000

theorem evs_of : ∀ {l : List (List AV)} (k : Int), (∀ r ∈ l, GdL [.int .i64, .int .i64, .int .i64, .int .i64, .int .i64] r) → ∃ N : List Evt, l = N.map enc5 ∧ ∀ a, a < N.length → (g N a).o = k + a
  | [], k, _ => ⟨[], rfl, fun a h => absurd h (by simp)⟩
  | r :: l, k, h => by
    obtain ⟨N, h1, h2⟩ := evs_of (l := l) (k + 1) fun r hr => h r (List.mem_cons_of_mem _ hr)
    have h0 := h r (List.mem_cons_self ..)
    simp only [GdL, GdC] at h0
    obtain ⟨_, _, rfl, ⟨t, rfl, _⟩, _, _, rfl, ⟨k', rfl, _⟩, _, _, rfl, ⟨a, rfl, _⟩, _, _, rfl, ⟨b, rfl, _⟩, _, _, rfl, ⟨c, rfl, _⟩, rfl⟩ := h0
    refine ⟨⟨t, k', a, b, c, k⟩ :: N, by rw [h1]; rfl, fun i hi => ?_⟩
    cases i with
    | zero => simp [g]
    | succ i =>
      have := h2 i (by simpa using hi)
      simp only [g, List.getD_cons_succ] at this ⊢
      rw [this]; omega
theorem ints_of : ∀ {l : List (List AV)}, (∀ r ∈ l, GdL [.int .i64] r) → ∃ T : List Int, l = ints T
  | [], _ => ⟨[], rfl⟩
  | r :: l, h => by
    obtain ⟨T, h1⟩ := ints_of (l := l) fun r hr => h r (List.mem_cons_of_mem _ hr)
    have h0 := h r (List.mem_cons_self ..)
    simp only [GdL, GdC] at h0
    obtain ⟨_, _, rfl, ⟨t, rfl, _⟩, rfl⟩ := h0
    exact ⟨t :: T, by rw [h1]; rfl⟩

theorem fixed18 : EC Try.prog G18 [] [] fun x rs vs => x = 0 ∧ rs = [] ∧ vs = [.b true] := EC.closed mixed TT_at (n := 100000) (by kernel_rfl)

/-- The row and the heap have the same. -/
structure Same (R L : List Evt) (o : Int) : Prop where
  perm : L.Perm R
  up : R.Pairwise fun x y => x.o < y.o
  top : ∀ e ∈ R, e.o < o

theorem Same.put {R L L' : List Evt} {o : Int} (h : Same R L o) {e : Evt} (he : e.o = o) (hp : L'.Perm (L ++ [e])) : Same (R ++ [e]) L' (o + 1) := by
  refine ⟨hp.trans (List.Perm.append_right [e] h.perm), ?_, ?_⟩
  · rw [List.pairwise_append]
    refine ⟨h.up, List.pairwise_singleton _ _, fun a ha b hb => ?_⟩
    rw [List.mem_singleton.1 hb, he]; exact h.top a ha
  · intro x hx
    rcases List.mem_append.1 hx with hx | hx
    · have := h.top x hx; omega
    · rw [List.mem_singleton.1 hx]; omega

/-- The row, what was taken and not yet compared, and the heap. -/
structure Rest (R O L : List Evt) (at' o : Int) : Prop where
  perm : (O ++ L).Perm R
  up : R.Pairwise fun x y => x.o < y.o
  top : ∀ e ∈ R, e.o < o
  pw : O.Pairwise le
  cross : ∀ e ∈ O, ∀ x ∈ L, le e x
  due : ∀ e ∈ O, e.t ≤ at'
  late : ∀ x ∈ L, at' < x.t

theorem Rest.start {R L0 L O : List Evt} {at' o : Int} (h : Same R L0 o) (hT : TakeP L0 O L at') (hl : ∀ x ∈ L, at' < x.t) : Rest R O L at' o :=
  ⟨hT.perm.trans h.perm, h.up, h.top, hT.pw, hT.cross, hT.due, hl⟩
theorem Rest.done {R L : List Evt} {at' o : Int} (h : Rest R [] L at' o) : Same R L o := ⟨h.perm, h.up, h.top⟩

theorem g_mem {L : List Evt} {a : Nat} (h : a < L.length) : g L a ∈ L := by rw [g_get h]; exact List.getElem_mem h
theorem Rest.head {R O L : List Evt} {at' o : Int} {e : Evt} {k : Int} (h : Rest R (e :: O) L at' o) (hF : FirstP R R.length k) : 0 ≤ k ∧ k.toNat < R.length ∧ g R k.toNat = e := by
  have heR : e ∈ R := h.perm.subset (by simp)
  have hR : 0 < R.length := List.length_pos_of_mem heR
  rcases hF with ⟨h0, _⟩ | ⟨h0, h1, h2, h3⟩
  · omega
  · refine ⟨h0, by omega, ?_⟩
    obtain ⟨a, ha, hae⟩ := List.mem_iff_getElem.1 heR
    have hga : g R a = e := by rw [g_get ha]; exact hae
    have hfR : g R k.toNat ∈ R := g_mem (by omega)
    have hef : le e (g R k.toNat) := by
      have := h.perm.symm.subset hfR
      simp only [List.cons_append, List.mem_cons, List.mem_append] at this
      rcases this with h' | h' | h'
      · rw [h']; exact le_refl _
      · exact (List.pairwise_cons.1 h.pw).1 _ h'
      · exact h.cross e (by simp) _ h'
    have hfe := h2 a ha
    rw [hga] at hfe
    rcases Nat.lt_trichotomy a k.toNat with hl | rfl | hl
    · have := h3 a hl
      rw [hga] at this
      unfold le at hef
      omega
    · exact hga
    · have := List.pairwise_iff_getElem.1 h.up k.toNat a (by omega) ha hl
      rw [← g_get, ← g_get, hga] at this
      unfold le at hef
      omega
theorem Rest.step {R O L : List Evt} {at' o : Int} {e : Evt} {k : Nat} (h : Rest R (e :: O) L at' o) (hk : k < R.length) (he : g R k = e) : Rest (R.take k ++ R.drop (k + 1)) O L at' o := by
  have hsub : (R.take k ++ R.drop (k + 1)).Sublist R := by
    rw [← List.eraseIdx_eq_take_drop_succ]; exact List.eraseIdx_sublist _ _
  have hd : R.drop k = e :: R.drop (k + 1) := by rw [List.drop_eq_getElem_cons hk, ← g_get hk, he]
  refine ⟨?_, h.up.sublist hsub, fun x hx => h.top x (hsub.subset hx), (List.pairwise_cons.1 h.pw).2, fun x hx => h.cross x (by simp [hx]), fun x hx => h.due x (by simp [hx]), h.late⟩
  have h1 : R.Perm (e :: (R.take k ++ R.drop (k + 1))) := by
    have h2 : R = R.take k ++ e :: R.drop (k + 1) := by rw [← hd, List.take_append_drop]
    exact (List.Perm.of_eq h2).trans List.perm_middle
  exact (h.perm.trans h1).cons_inv

theorem igE {A : Ar} (hA : A = arS) {l : List (List AV)} {M : List Int} (hl : l = ints M) {i : Nat} (h : i < M.length) : l[i]? = some [.int .i64 (A.cI l i 0)] := by
  subst hA hl
  exact ints_get h
theorem lt_more {A : Ar} (hA : A = arS) {i : Int} {more : List (List AV)} {n : Nat} (hm : more.length = n) (h0 : 0 ≤ i) (h : i < A.ofN (A.rlen more)) : A.tn i < n := by
  subst hA
  simp only [arS] at h ⊢
  omega

end Go.Ab
