/- Spans: sets, gaps and meets of the document; totals, the longest, the deepest. -/
import Derived.Test.YtjkjcfpphhionaaSpansD
namespace Go.Ab
open Go Go.Proofs Spn
set_option linter.unusedVariables false
set_option linter.unusedSimpArgs false
set_option maxRecDepth 100000
set_option maxHeartbeats 1000000

theorem R2_last (a : List Sp) (t : Sp) : (R2 (a ++ [t]))[a.length]? = some [.int .i64 t.f, .int .i64 t.t] := by
  have := R2_get (L := a ++ [t]) (i := a.length) (by simp)
  rw [R2_c0, R2_c1, getD_snoc] at this; exact this
theorem R2_set_last (a : List Sp) (t : Sp) (x y : Int) : (R2 (a ++ [t])).set a.length [.int .i64 x, .int .i64 y] = R2 (a ++ [⟨x, y⟩]) := by
  rw [R2_set]; congr 1; simp

theorem RAdd_E (l : List Sp) (x y : Int) (hl : l.length ≤ 10000) : EC Try.prog G49a [R2 l] [.i x, .i y] fun z rs vs => z = 0 ∧ rs = [R2 l, R2 (addS l ⟨x, y⟩)] ∧ vs = [] := by
  refine E49a fun _ EV V => ?_
  rw [R2_take_all, R2_app]
  rcases nil_or_snoc l with rfl | ⟨a, t, rfl⟩
  · exact ⟨fun h => absurd h (by decide), fun _ => ⟨Nat.le_refl _, by simp [rowF], by simp [rowF], by simp [rowF], by simp [rowF], rfl, rfl, rfl⟩⟩
  · have ho' : a.length + 1 ≤ 10000 := by simpa using hl
    have e1 : IntKind.wrap .i64 (((R2 (a ++ [t])).length : Int) - 1) = (a.length : Int) := by
      rw [R2_len, List.length_append, List.length_singleton, wrap64 (by omega) (by omega)]; omega
    have e2 : (R2 (a ++ [t])).length = a.length + 1 := by rw [R2_len]; simp
    rw [e1, Int.toNat_natCast, R2_c0, R2_c1, getD_snoc, R2_set_last, e2, addS_snoc]
    simp only
    refine ⟨fun _ => ⟨by omega, by omega, R2_last a t, fun h => ⟨by omega, by omega, by omega, by omega, by omega, R2_last a t, trivial, ?_, trivial⟩, fun h => ⟨by omega, by omega, by omega, by omega, by omega, trivial, ?_, trivial⟩⟩, fun h => by omega⟩
    · rw [if_pos h]
    · rw [if_neg h]

theorem refG_drop (p : Int → Bool) {e : List Int} {i : Nat} (h : i + 1 < e.length) (out : List Sp) : refG p (e.drop i) out = refG p (e.drop (i + 1)) (if p (e.getD i 0) = true then addS out ⟨e.getD i 0, e.getD (i + 1) 0⟩ else out) := by
  have e1 : e.getD i 0 = e[i] := by simp [List.getD_eq_getElem?_getD, show i < e.length by omega]
  have e2 : e.getD (i + 1) 0 = e[i + 1] := by simp [List.getD_eq_getElem?_getD, h]
  rw [List.drop_eq_getElem_cons (show i < e.length by omega), List.drop_eq_getElem_cons h, refG, e1, e2]
theorem refG_end (p : Int → Bool) {e : List Int} {i : Nat} (h : e.length ≤ i + 1) (out : List Sp) : refG p (e.drop i) out = out := by
  rcases Nat.lt_or_ge i e.length with hi | hi
  · rw [List.drop_eq_getElem_cons hi, List.drop_of_length_le h]; rfl
  · rw [List.drop_of_length_le hi]; rfl
theorem edges_len (L : List Sp) : (edgesF L).length ≤ 2 * L.length := by
  have key : ∀ (L : List Sp) (e : List Int), (L.foldl (fun e s => insE (insE e s.f) s.t) e).length ≤ e.length + 2 * L.length := by
    intro L
    induction L with
    | nil => intro e; simp
    | cons s L ih =>
      intro e
      rw [List.foldl_cons]
      have h1 := ih (insE (insE e s.f) s.t)
      have h2 := insE_len e s.f
      have h3 := insE_len (insE e s.f) s.t
      simp only [List.length_cons]; omega
  have := key L []
  simpa [edgesF] using this
theorem CL_len (L : List Sp) : (CL L).length = L.length := by simp [CL]

theorem RJoin_E (L : List Sp) (hl : L.length ≤ 1000) : EC Try.prog G27 [] [.r (R2 L)] fun x rs vs => x = 0 ∧ rs = [R2 (JN L)] ∧ vs = [] := by
  refine E27 fun EV V => (REdges_E L (by omega)).mono ?_
  rintro _ _ _ ⟨rfl, rfl, rfl⟩
  refine ⟨rfl, _, rfl, rfl, ?_⟩
  have hel := edges_len (CL L)
  rw [CL_len] at hel
  have hres : refG (fun n => decide (0 < depthF (CL L) n)) (edgesF (CL L)) [] = JN L := rfl
  generalize edgesF (CL L) = e at *
  have loop : ∀ (d i : Nat) (out : List Sp), e.length - i < d → out.length ≤ i → i ≤ 3000 → refG (fun n => decide (0 < depthF (CL L) n)) (e.drop i) out = JN L → EV 11 [R2 out, ints e] [.r (R2 L), .i i] := by
    intro d
    induction d with
    | zero => intro i out hd; omega
    | succ d ih =>
      intro i out hd ho hi hf
      refine V.p11 fun _ _ => ?_
      rw [w1 i (by omega), Int.toNat_natCast, Int.toNat_natCast, ints_length]
      refine ⟨fun hlt => ?_, fun hge => ?_⟩
      · have hlt' : i + 1 < e.length := by omega
        rw [refG_drop _ hlt'] at hf
        have ih := fun out' h => ih (i + 1) out' (by omega) h (by omega)
        refine ⟨by omega, by omega, ints_get (by omega), (RDepth_E L _ (by omega)).mono ?_⟩
        rintro _ _ _ ⟨rfl, rfl, rfl⟩
        rw [ints_cI, ints_cI]
        refine ⟨rfl, _, rfl, rfl, fun hp => ⟨by omega, by omega, by have := ints_get (l := e) (i := i) (by omega); rwa [ints_cI] at this, by omega, by omega, by have := ints_get (l := e) (i := i + 1) (by omega); rwa [ints_cI] at this, ?_⟩, fun hp => ?_⟩
        · rw [if_pos (by simp only [decide_eq_true_eq]; omega)] at hf
          refine (RAdd_E out _ _ (by omega)).mono ?_
          rintro _ _ _ ⟨rfl, rfl, rfl⟩
          exact ⟨rfl, _, _, rfl, rfl, ih _ (by have := addS_len out ⟨e.getD i 0, e.getD (i + 1) 0⟩; omega) hf⟩
        · rw [if_neg (by simp only [decide_eq_true_eq]; omega)] at hf
          exact ih _ (by omega) hf
      · rw [refG_end _ (by omega)] at hf
        rw [hf]
        exact ⟨rfl, rfl, rfl⟩
  exact loop _ 0 [] (Nat.lt_succ_self _) (Nat.le_refl _) (by omega) hres

theorem clampI_idem (x : Int) : clampI (clampI x) = clampI x := by unfold clampI; omega
theorem RGaps_E (L : List Sp) (a b : Int) (hl : L.length ≤ 1000) : EC Try.prog G30 [] [.r (R2 L), .i a, .i b] fun x rs vs => x = 0 ∧ rs = [R2 (GP L a b)] ∧ vs = [] := by
  refine E30 fun EV V => (RClamp_E a).mono ?_
  rintro _ _ _ ⟨rfl, rfl, rfl⟩
  refine ⟨rfl, _, rfl, rfl, (RClamp_E b).mono ?_⟩
  rintro _ _ _ ⟨rfl, rfl, rfl⟩
  refine ⟨rfl, _, rfl, rfl, ?_⟩
  rw [R2_len, R2_app]
  refine ⟨by omega, by omega, by omega, by omega, rowF_pure _ _, (REdgesO_E (L ++ [⟨clampI a, clampI b⟩]) (by simp; omega)).mono ?_⟩
  rintro _ _ _ ⟨rfl, rfl, rfl⟩
  have hCL : CL (L ++ [⟨clampI a, clampI b⟩]) = CL L ++ [⟨clampI a, clampI b⟩] := by simp [CL, cS, clampI_idem]
  refine ⟨rfl, _, _, rfl, rfl, V.p8 fun _ => ?_⟩
  have hel := edges_len (CL (L ++ [⟨clampI a, clampI b⟩]))
  rw [CL_len] at hel
  simp only [List.length_append, List.length_singleton] at hel
  rw [hCL] at hel ⊢
  have hres : refG (fun n => (decide (clampI a ≤ n) && decide (n < clampI b)) && decide (depthF (CL L) n = 0)) (edgesF (CL L ++ [⟨clampI a, clampI b⟩])) [] = GP L a b := rfl
  generalize edgesF (CL L ++ [⟨clampI a, clampI b⟩]) = e at *
  have loop : ∀ (d i : Nat) (out : List Sp), e.length - i < d → out.length ≤ i → i ≤ 3000 → refG (fun n => (decide (clampI a ≤ n) && decide (n < clampI b)) && decide (depthF (CL L) n = 0)) (e.drop i) out = GP L a b → EV 13 [R2 out, ints e] [.r (R2 L), .i i, .i (clampI a), .i (clampI b)] := by
    intro d
    induction d with
    | zero => intro i out hd; omega
    | succ d ih =>
      intro i out hd ho hi hf
      refine V.p13 fun _ _ => ?_
      rw [w1 i (by omega), Int.toNat_natCast, Int.toNat_natCast, ints_length]
      refine ⟨fun hlt => ?_, fun hge => ?_⟩
      · have hlt' : i + 1 < e.length := by omega
        rw [refG_drop _ hlt'] at hf
        have ih := fun out' h => ih (i + 1) out' (by omega) h (by omega)
        have hg := ints_get (l := e) (i := i) (by omega)
        have hg1 := ints_get (l := e) (i := i + 1) (by omega)
        refine ⟨by omega, by omega, hg, fun h1 => ⟨by omega, by omega, hg, fun h2 => ⟨by omega, by omega, hg, (RDepth_E L _ (by omega)).mono ?_⟩, fun h2 => ?_⟩, fun h1 => ?_⟩
        · rintro _ _ _ ⟨rfl, rfl, rfl⟩
          refine ⟨rfl, _, rfl, rfl, fun hp => ⟨by omega, by omega, hg, by omega, by omega, hg1, ?_⟩, fun hp => ?_⟩
          · rw [ints_cI] at h1 h2 hp ⊢
            rw [ints_cI]
            rw [if_pos (by simp only [Bool.and_eq_true, decide_eq_true_eq]; omega)] at hf
            refine (RAdd_E out _ _ (by omega)).mono ?_
            rintro _ _ _ ⟨rfl, rfl, rfl⟩
            exact ⟨rfl, _, _, rfl, rfl, ih _ (by have := addS_len out ⟨e.getD i 0, e.getD (i + 1) 0⟩; omega) hf⟩
          · rw [ints_cI] at hp
            rw [if_neg (by simp only [Bool.and_eq_true, decide_eq_true_eq]; omega)] at hf
            exact ih _ (by omega) hf
        · rw [ints_cI] at h2
          rw [if_neg (by simp only [Bool.and_eq_true, decide_eq_true_eq]; omega)] at hf
          exact ih _ (by omega) hf
        · rw [ints_cI] at h1
          rw [if_neg (by simp only [Bool.and_eq_true, decide_eq_true_eq]; omega)] at hf
          exact ih _ (by omega) hf
      · rw [refG_end _ (by omega)] at hf
        rw [hf]
        exact ⟨rfl, rfl, rfl⟩
  exact loop _ 0 [] (Nat.lt_succ_self _) (Nat.le_refl _) (by omega) hres

theorem RMeet_E (A B : List Sp) (ha : A.length ≤ 1000) (hb : B.length ≤ 1000) : EC Try.prog G32 [] [.r (R2 A), .r (R2 B)] fun x rs vs => x = 0 ∧ rs = [R2 (MT A B)] ∧ vs = [] := by
  refine E32 fun EV V => ?_
  have et : List.take (A.length + B.length) (List.drop 0 (R2 (A ++ B))) = R2 (A ++ B) := by
    have := R2_take_all (A ++ B)
    rwa [R2_len, List.length_append] at this
  rw [R2_len, R2_len, R2_apps, et]
  refine ⟨by omega, by omega, by omega, by omega, rowF_pure _ _, (REdges_E (A ++ B) (by simp; omega)).mono ?_⟩
  rintro _ _ _ ⟨rfl, rfl, rfl⟩
  have hCL : CL (A ++ B) = CL A ++ CL B := by simp [CL]
  refine ⟨rfl, _, rfl, rfl, ?_⟩
  have hel := edges_len (CL (A ++ B))
  rw [CL_len, List.length_append] at hel
  rw [hCL] at hel ⊢
  have hres : refG (fun n => decide (0 < depthF (CL A) n) && decide (0 < depthF (CL B) n)) (edgesF (CL A ++ CL B)) [] = MT A B := rfl
  generalize edgesF (CL A ++ CL B) = e at *
  have loop : ∀ (d i : Nat) (out : List Sp), e.length - i < d → out.length ≤ i → i ≤ 5000 → refG (fun n => decide (0 < depthF (CL A) n) && decide (0 < depthF (CL B) n)) (e.drop i) out = MT A B → EV 11 [R2 out, ints e] [.r (R2 A), .r (R2 B), .i i] := by
    intro d
    induction d with
    | zero => intro i out hd; omega
    | succ d ih =>
      intro i out hd ho hi hf
      refine V.p11 fun _ _ => ?_
      rw [w1 i (by omega), Int.toNat_natCast, Int.toNat_natCast, ints_length]
      refine ⟨fun hlt => ?_, fun hge => ?_⟩
      · have hlt' : i + 1 < e.length := by omega
        rw [refG_drop _ hlt'] at hf
        have ih := fun out' h => ih (i + 1) out' (by omega) h (by omega)
        have hg := ints_get (l := e) (i := i) (by omega)
        have hg1 := ints_get (l := e) (i := i + 1) (by omega)
        refine ⟨by omega, by omega, hg, (RDepth_E A _ (by omega)).mono ?_⟩
        rintro _ _ _ ⟨rfl, rfl, rfl⟩
        refine ⟨rfl, _, rfl, rfl, fun hp => ⟨by omega, by omega, hg, (RDepth_E B _ (by omega)).mono ?_⟩, fun hp => ?_⟩
        · rintro _ _ _ ⟨rfl, rfl, rfl⟩
          refine ⟨rfl, _, rfl, rfl, fun hq => ⟨by omega, by omega, hg, by omega, by omega, hg1, ?_⟩, fun hq => ?_⟩
          · rw [ints_cI] at hp hq ⊢
            rw [ints_cI]
            rw [if_pos (by simp only [Bool.and_eq_true, decide_eq_true_eq]; omega)] at hf
            refine (RAdd_E out _ _ (by omega)).mono ?_
            rintro _ _ _ ⟨rfl, rfl, rfl⟩
            exact ⟨rfl, _, _, rfl, rfl, ih _ (by have := addS_len out ⟨e.getD i 0, e.getD (i + 1) 0⟩; omega) hf⟩
          · rw [ints_cI] at hq
            rw [if_neg (by simp only [Bool.and_eq_true, decide_eq_true_eq]; omega)] at hf
            exact ih _ (by omega) hf
        · rw [ints_cI] at hp
          rw [if_neg (by simp only [Bool.and_eq_true, decide_eq_true_eq]; omega)] at hf
          exact ih _ (by omega) hf
      · rw [refG_end _ (by omega)] at hf
        rw [hf]
        exact ⟨rfl, rfl, rfl⟩
  exact loop _ 0 [] (Nat.lt_succ_self _) (Nat.le_refl _) (by omega) hres

/-! ### numbers -/
def szs (l : List Sp) (s : Int) : Int := l.foldl (fun n s => n + (s.t - s.f)) s
theorem Total_E (L : List Sp) (hl : L.length ≤ 1000) : EC Try.prog G37 [] [.r (R2 L)] fun x rs vs => x = 0 ∧ rs = [] ∧ vs = [.i (totF (JN L))] := by
  refine E37 fun EV V => (Join_E L hl).mono ?_
  rintro _ _ _ ⟨rfl, rfl, rfl⟩
  refine ⟨rfl, _, rfl, rfl, ?_⟩
  have hJl := JN_len L
  have hb := JN_bd L
  have hlt := (JN_nf L).1.2
  generalize JN L = J at *
  have loop : ∀ (d m : Nat) (s : Int), J.length - m < d → m ≤ J.length → (0 ≤ s ∧ s ≤ m * 2199023255552) → szs (J.drop m) s = totF J → EV 9 [R2 J] [.i s, .i J.length, .i m] := by
    intro d
    induction d with
    | zero => intro m s hd; omega
    | succ d ih =>
      intro m s hd hm hs hf
      refine V.p9 fun _ => ⟨fun hlt' => ?_, fun hge => ?_⟩
      · have hmL : m < J.length := by omega
        have b := hb _ (List.getElem_mem hmL)
        have b2 := hlt _ (List.getElem_mem hmL)
        unfold Bd at b
        rw [List.drop_eq_getElem_cons hmL] at hf
        have hf : szs (J.drop (m + 1)) (s + (J[m].t - J[m].f)) = totF J := hf
        have hg := R2_get hmL
        rw [Int.toNat_natCast, w1 m (by omega)]
        refine ⟨by omega, by rw [R2_len]; omega, hg, ?_⟩
        rw [R2_c0, R2_c1, getD_of hmL]
        refine (Size_E _ _ (by omega) (by omega)).mono ?_
        rintro _ _ _ ⟨rfl, rfl, rfl⟩
        refine ⟨rfl, _, rfl, rfl, ?_⟩
        rw [wrap64 (by omega) (by omega)]
        exact ih (m + 1) _ (by omega) (by omega) (by omega) hf
      · rw [List.drop_of_length_le (by omega)] at hf
        have hf : s = totF J := hf
        rw [hf]
        exact ⟨rfl, rfl, rfl⟩
  have h0 := loop _ 0 0 (Nat.lt_succ_self _) (Nat.zero_le _) (by omega) rfl
  rw [R2_len]
  exact h0

def lgs (l : List Sp) (b : Sp) : Sp := l.foldl (fun b x => if x.t - x.f > b.t - b.f then x else b) b
theorem Longest_E (L : List Sp) (hl : L.length ≤ 1000) : EC Try.prog G35 [] [.r (R2 L)] fun x rs vs => x = 0 ∧ rs = [] ∧ vs = (match longF (JN L) with | some s => [.i s.f, .i s.t, .b true] | none => [.i 0, .i 0, .b false]) := by
  refine E35 fun EV V => (Join_E L hl).mono ?_
  rintro _ _ _ ⟨rfl, rfl, rfl⟩
  refine ⟨rfl, _, rfl, rfl, ?_⟩
  have hJl := JN_len L
  have hb := JN_bd L
  generalize JN L = J at *
  have e1 : (1 : Int).toNat = 1 := rfl
  have e0 : (0 : Int).toNat = 0 := rfl
  rw [R2_len, e1, e0]
  refine ⟨fun h => ?_, fun h => ?_⟩
  · obtain rfl : J = [] := List.eq_nil_of_length_eq_zero (by omega)
    exact ⟨rfl, rfl, rfl⟩
  · cases J with
    | nil => simp at h
    | cons s0 J =>
      have hJ : (s0 :: J).length = J.length + 1 := rfl
      have b0 := hb s0 (by simp)
      refine ⟨by omega, R2_get (by simp), by omega, by omega, ?_⟩
      rw [R2_c0, R2_c1]
      simp only [List.getD_cons_zero]
      show EV 19 [R2 (s0 :: J)] [.n 1, .n J.length, .i J.length, .i 0, .i 0, .i 0, .i s0.f, .i s0.t]
      have loop : ∀ (d m : Nat) (b : Sp), J.length - m < d → m ≤ J.length → Bd b → lgs (J.drop m) b = lgs J s0 → EV 19 [R2 (s0 :: J)] [.n 1, .n J.length, .i J.length, .i m, .i 0, .i 0, .i b.f, .i b.t] := by
        intro d
        induction d with
        | zero => intro m b hd; omega
        | succ d ih =>
          intro m b hd hm hbb hf
          refine V.p19 fun _ => ⟨fun hlt => ?_, fun hge => ?_⟩
          · have hmL : m < J.length := by omega
            have bm := hb J[m] (by simp)
            have hm1 : 1 + m < (s0 :: J).length := by omega
            have hget : (s0 :: J).getD (1 + m) ⟨0, 0⟩ = J[m] := by rw [Nat.add_comm, List.getD_cons_succ, getD_of hmL]
            rw [List.drop_eq_getElem_cons hmL] at hf
            have hf : lgs (J.drop (m + 1)) (if J[m].t - J[m].f > b.t - b.f then J[m] else b) = lgs J s0 := hf
            have hg := R2_get hm1
            unfold Bd at bm hbb
            rw [Int.toNat_natCast]
            refine ⟨by omega, by omega, hg, ?_⟩
            rw [R2_c0, R2_c1, hget]
            refine (Size_E _ _ (by omega) (by omega)).mono ?_
            rintro _ _ _ ⟨rfl, rfl, rfl⟩
            refine ⟨rfl, _, rfl, rfl, (Size_E _ _ (by omega) (by omega)).mono ?_⟩
            rintro _ _ _ ⟨rfl, rfl, rfl⟩
            refine ⟨rfl, _, rfl, rfl, V.p31 fun _ => ⟨fun h => ?_, fun h => ?_⟩⟩
            · have h := of_decide_eq_true h
              rw [if_pos h] at hf
              rw [w1 m (by omega)]
              exact ih (m + 1) _ (by omega) (by omega) (by unfold Bd; omega) hf
            · have h := of_decide_eq_false h
              rw [if_neg h] at hf
              rw [w1 m (by omega)]
              exact ih (m + 1) _ (by omega) (by omega) (by unfold Bd; omega) hf
          · rw [List.drop_of_length_le (by omega)] at hf
            have hf : b = lgs J s0 := hf
            rw [hf]
            exact ⟨rfl, rfl, rfl⟩
      exact loop _ 0 s0 (Nat.lt_succ_self _) (Nat.zero_le _) b0 rfl

theorem Clone_E (L : List Sp) (hl : L.length ≤ 1000) : EC Try.prog G53 [] [.r (R2 L)] fun x rs vs => x = 0 ∧ rs = [R2 L] ∧ vs = [] := by
  refine E53 fun EV V => ?_
  rw [R2_len]
  refine ⟨fun h => ?_, by omega, by omega, rowF_pure _ _, rfl, rfl, rfl⟩
  obtain rfl : L = [] := List.eq_nil_of_length_eq_zero (by omega)
  exact ⟨rfl, rfl, rfl⟩

/-! ### the deepest -/
def DP (L : List Sp) : Int × Int := deepG (CL L) (edgesF (CL L)) (0, 0)
theorem depth_PF (L : List Sp) (n : Int) : depthF (CL L) n = depthF (PF L) n := by
  unfold PF depthF
  rw [List.countP_filter]
  refine List.countP_congr fun s _ => ?_
  simp only [Bool.and_eq_true, decide_eq_true_eq]
  omega
theorem DP_deep (L : List Sp) : Deep (PF L) (DP L).1 (DP L).2 := by
  have e : DP L = deepG (PF L) (edgesF (CL L)) (0, 0) := by
    unfold DP deepG
    congr 1
    funext s x
    rw [depth_PF]
  rw [e]
  exact deepG_deep PF_lt (edgesF_sorted _) fun s hs => (edgesF_mem _ _).2 ⟨s, (List.mem_filter.1 hs).1, .inl rfl⟩
theorem count_stop {E : List Sp} (hs : E.Pairwise fun a b => a.t ≤ b.t) {g : Nat} (hg : g ≤ E.length) {x : Int} (h1 : ∀ j, j < g → (E.getD j ⟨0, 0⟩).t ≤ x) (h2 : g < E.length → x < (E.getD g ⟨0, 0⟩).t) : E.countP (fun s => decide (s.t ≤ x)) = g := by
  have h3 := congrArg (List.countP (fun s : Sp => decide (s.t ≤ x))) (List.take_append_drop g E)
  rw [List.countP_append] at h3
  have a : (E.take g).countP (fun s => decide (s.t ≤ x)) = g := by
    rw [List.countP_eq_length.2]
    · rw [List.length_take]; omega
    · intro y hy
      obtain ⟨j, hj, rfl⟩ := List.getElem_of_mem hy
      rw [List.length_take] at hj
      have := h1 j (by omega)
      rw [getD_of (by omega)] at this
      rw [List.getElem_take]
      simpa using this
  have b : (E.drop g).countP (fun s => decide (s.t ≤ x)) = 0 := by
    rw [List.countP_eq_zero]
    intro y hy
    obtain ⟨j, hj, rfl⟩ := List.getElem_of_mem hy
    rw [List.length_drop] at hj
    have k := h2 (by omega)
    rw [getD_of (by omega)] at k
    rw [List.getElem_drop]
    have : E[g].t ≤ E[g + j].t := by
      rcases Nat.eq_or_lt_of_le (Nat.le_add_right g j) with he | hl
      · have : j = 0 := by omega
        subst this; exact Int.le_refl _
      · exact List.pairwise_iff_getElem.1 hs g (g + j) (by omega) (by omega) hl
    simp only [decide_eq_true_eq]; omega
  omega

theorem Deepest_E (L : List Sp) (hl : L.length ≤ 1000) : EC Try.prog G36 [] [.r (R2 L)] fun x rs vs => x = 0 ∧ rs = [] ∧ vs = [.i (DP L).1, .i (DP L).2] := by
  refine E36 fun EV V => (Proper_E L hl).mono ?_
  rintro _ _ _ ⟨rfl, ⟨S, hS, rfl⟩, rfl⟩
  have hSl : S.length ≤ 1000 := by rw [hS.1.length_eq]; exact Nat.le_trans (PF_len L) hl
  refine ⟨rfl, _, rfl, rfl, ?_⟩
  rw [R2_take_all]
  refine (Clone_E S hSl).mono ?_
  rintro _ _ _ ⟨rfl, rfl, rfl⟩
  refine ⟨rfl, _, rfl, rfl, (sortTo 63 S (by omega)).mono ?_⟩
  rintro _ _ _ ⟨rfl, ⟨E, hE, rfl⟩, rfl⟩
  have hEl : E.length = S.length := hE.1.length_eq
  refine ⟨rfl, _, rfl, rfl, by rw [R2_len, R2_len, hEl], ?_⟩
  have hso := sorted_f hS
  have heo := sorted_t hE
  have hpS : ∀ s ∈ S, s.f < s.t := fun s hs => PF_lt s (hS.1.mem_iff.1 hs)
  have hcnt : ∀ x : Int, S.countP (fun s => decide (s.t ≤ x)) = E.countP (fun s => decide (s.t ≤ x)) := fun x => (hE.1.countP_eq _).symm
  have fin : ∀ M a, First S S.length M a → M = (DP L).1 ∧ a = (DP L).2 := fun M a h => ((First.deep hso hpS h).perm hS.1).eq (DP_deep L)
  have hnb : ∀ i, i < S.length → (S.getD i ⟨0, 0⟩ = S.getD i ⟨0, 0⟩) ∧ 0 < nAt S i ∧ nAt S i ≤ 1000 ∧ (S.countP (fun s => decide (s.t ≤ (S.getD i ⟨0, 0⟩).f)) ≤ i) := fun i hi => by
    have h1 := nAt_pos hso hpS hi
    refine ⟨rfl, h1.1, ?_, ?_⟩
    · unfold nAt; omega
    · have := h1.1; unfold nAt at this; omega
  have loop : ∀ (d m g : Nat) (M a : Int), S.length - m < d → m ≤ S.length → g ≤ S.length → First S m M a → (0 ≤ M ∧ M ≤ 1000) → (∀ i, m ≤ i → i < S.length → ∀ j, j < g → (E.getD j ⟨0, 0⟩).t ≤ (S.getD i ⟨0, 0⟩).f) → EV 15 [R2 E] [.i M, .i a, .i g, .r (R2 S), .i S.length, .i m] := by
    intro d
    induction d with
    | zero => intro m g M a hd; omega
    | succ d ih =>
      intro m g M a hd hm hg hF hM hinv
      refine V.p15 fun _ => ⟨fun hlt => ?_, fun hge => ?_⟩
      · have hmL : m < S.length := by omega
        obtain ⟨_, n1, n2, n3⟩ := hnb m hmL
        rw [Int.toNat_natCast]
        refine ⟨by omega, R2_get hmL, ?_⟩
        rw [R2_c0, R2_c1]
        -- those that have ended
        have inner : ∀ (d2 g : Nat), S.length - g < d2 → g ≤ S.length → (∀ j, j < g → (E.getD j ⟨0, 0⟩).t ≤ (S.getD m ⟨0, 0⟩).f) → EV 28 [R2 E] [.i M, .i a, .i g, .i m, .r (R2 S), .i S.length, .i m, .i (S.getD m ⟨0, 0⟩).f, .i (S.getD m ⟨0, 0⟩).t] := by
          intro d2
          induction d2 with
          | zero => intro g hd2; omega
          | succ d2 ih2 =>
            intro g hd2 hg2 hj
            have hgl : g < E.length := by
              rcases Nat.lt_or_ge g E.length with h | h
              · exact h
              · exfalso
                have : E.countP (fun s => decide (s.t ≤ (S.getD m ⟨0, 0⟩).f)) = g := count_stop heo (by omega) hj (fun h' => by omega)
                rw [← hcnt] at this
                omega
            refine V.p28 fun _ => ?_
            rw [Int.toNat_natCast, R2_len]
            refine ⟨by omega, by omega, R2_get hgl, fun hle => ?_, fun hgt => ?_⟩
            · rw [R2_c1] at hle
              rw [w1 g (by omega)]
              refine ih2 (g + 1) (by omega) (by omega) fun j hj' => ?_
              rcases Nat.lt_or_ge j g with h | h
              · exact hj j h
              · have : j = g := by omega
                subst this; exact hle
            · rw [R2_c1] at hgt
              have hc : E.countP (fun s => decide (s.t ≤ (S.getD m ⟨0, 0⟩).f)) = g := count_stop heo (by omega) hj (fun _ => hgt)
              have hn : IntKind.wrap .i64 (IntKind.wrap .i64 ((m : Int) + 1) - (g : Int)) = nAt S m := by
                rw [w1 m (by omega), wrap64 (by omega) (by omega)]
                unfold nAt
                rw [hcnt, hc]; omega
              rw [hn, w1 m (by omega)]
              have hinv' : ∀ i, m + 1 ≤ i → i < S.length → ∀ j, j < g → (E.getD j ⟨0, 0⟩).t ≤ (S.getD i ⟨0, 0⟩).f := fun i hi hil j hj' => by
                have h1 := hj j hj'
                have h2 : (S.getD m ⟨0, 0⟩).f ≤ (S.getD i ⟨0, 0⟩).f := by
                  rw [getD_of hmL, getD_of hil]
                  exact List.pairwise_iff_getElem.1 hso m i hmL hil (by omega)
                omega
              refine ⟨fun hp => ih (m + 1) g _ _ (by omega) (by omega) (by omega) ⟨fun i hi => ?_, .inr ⟨m, by omega, rfl, rfl, fun i hi => ?_⟩⟩ (by omega) hinv', fun hp => ih (m + 1) g _ _ (by omega) (by omega) (by omega) ⟨fun i hi => ?_, ?_⟩ hM hinv'⟩
              · rcases Nat.lt_or_ge i m with h | h
                · have := hF.1 i h; omega
                · have : i = m := by omega
                  subst this; exact Int.le_refl _
              · have := hF.1 i hi; omega
              · rcases Nat.lt_or_ge i m with h | h
                · exact hF.1 i h
                · have : i = m := by omega
                  subst this; omega
              · rcases hF.2 with ⟨h0, hM0, _⟩ | ⟨j, hj1, hj2⟩
                · omega
                · exact .inr ⟨j, by omega, hj2⟩
        exact inner _ g (Nat.lt_succ_self _) hg (fun j hj => hinv m (Nat.le_refl _) hmL j hj)
      · obtain rfl : m = S.length := by omega
        obtain ⟨e1, e2⟩ := fin M a hF
        rw [e1, e2]
        exact ⟨rfl, rfl, rfl⟩
  have h0 := loop _ 0 0 0 0 (Nat.lt_succ_self _) (Nat.zero_le _) (Nat.zero_le _) ⟨fun i hi => by omega, .inl ⟨rfl, rfl, rfl⟩⟩ (by omega) (fun i _ _ j hj => by omega)
  rw [R2_len]
  exact h0
end Go.Ab
