/- CeilingPlays: the walk of the law, for every input. -/
import Derived.Test.YtkcnlpelbcpmgaaCeil
import Derived.Test.YtkcnlpelbcpmgaaSteps
namespace Go.Ab
open Go Go.Proofs
set_option linter.unusedVariables false
set_option linter.unusedSimpArgs false
set_option maxRecDepth 100000
set_option maxHeartbeats 1000000

theorem fixed9 : EC Try.prog G9 [] [] fun x rs vs => x = 0 ∧ rs = [] ∧ vs = [.b true] := EC.closed mixed TT_at (n := 100000) (by kernel_rfl)
theorem N_Len : EC Try.prog G17a [] [] fun x rs vs => x = 0 ∧ rs = [] ∧ vs = [.i 0] :=
  E17a fun EV V => ⟨rfl, rfl, rfl⟩
theorem N_at (i : Int) : EC Try.prog G36a [] [.i i] fun x rs vs => x = 0 ∧ rs = [] ∧ vs = [] := by
  refine E36a fun EV V => ⟨fun _ => N_Len.mono ?_, fun _ => ⟨rfl, rfl, rfl⟩⟩
  rintro _ _ _ ⟨rfl, rfl, rfl⟩
  exact ⟨rfl, _, rfl, rfl, fun _ => ⟨rfl, rfl, rfl⟩, fun _ => by omega⟩
theorem N_Holder (i : Int) : EC Try.prog G15a [] [.i i] fun x rs vs => x = 0 ∧ rs = [] ∧ vs = [.i 0, .b false] :=
  E15a fun EV V => (N_at i).mono fun _ _ _ ⟨h1, h2, h3⟩ => ⟨h1, h2, h3, rfl, rfl, rfl⟩
theorem N_Lock (i who : Int) : EC Try.prog G11a [] [.i i, .i who] fun x rs vs => x = 0 ∧ rs = [] ∧ vs = [.i 6] :=
  E11a fun EV V => (N_at i).mono fun _ _ _ ⟨h1, h2, h3⟩ => ⟨h1, h2, h3, rfl, rfl, rfl⟩
theorem N_Held (who : Int) : EC Try.prog G14a [] [.i who] fun x rs vs => x = 0 ∧ rs = [] ∧ vs = [] :=
  E14a fun EV V => N_Len.mono fun _ _ _ ⟨h1, h2, h3⟩ => ⟨h1, 0, h2, h3, V.p9 ⟨fun h => by omega, fun _ => ⟨rfl, rfl, rfl⟩⟩⟩
theorem N_Free (who : Int) : EC Try.prog G13a [] [.i who] fun x rs vs => x = 0 ∧ rs = [] ∧ vs = [.i 0] :=
  E13a fun EV V => (N_Held who).mono fun _ _ _ ⟨h1, h2, h3⟩ => ⟨h1, h2, h3, V.p9 ⟨fun h => by omega, fun _ => ⟨rfl, rfl, rfl⟩⟩⟩
theorem N_Level (who base : Int) : EC Try.prog G16a [] [.i who, .i base] fun x rs vs => x = 0 ∧ rs = [] ∧ vs = [.i base] :=
  E16a fun EV V => (N_Held who).mono fun _ _ _ ⟨h1, h2, h3⟩ => ⟨h1, h2, h3, V.p7 ⟨fun h => by omega, fun _ => ⟨rfl, rfl, rfl⟩⟩⟩

/-- Whether they are held. -/
def encB (k : Lk) : List AV := [.bool k.b]
theorem encB_cB (K : List Lk) (i : Nat) : cBS (K.map encB) i 0 = (lk K i).b := by
  unfold cBS cellS lk
  rw [List.getElem?_map, List.getD_eq_getElem?_getD]
  cases K[i]? <;> rfl
theorem encB_get {K : List Lk} {i : Nat} (h : i < K.length) : (K.map encB)[i]? = some [.bool (cBS (K.map encB) i 0)] := by
  rw [encB_cB, List.getElem?_map, List.getElem?_eq_getElem h, lk_get h]
  rfl
theorem encB_set (K : List Lk) (i : Nat) (k : Lk) (b : Bool) (hb : k.b = b) : (K.map encB).set i [.bool b] = (K.set i k).map encB := by
  rw [List.map_set, encB, hb]
theorem ints_set (B : List Int) (i : Nat) (v : Int) : (ints B).set i [.int .i64 v] = ints (B.set i v) := by
  simp only [ints, List.map_set]

structure A13 where
  k : Int
  i : Int
  w : Int
  deriving Inhabited
def encA (a : A13) : List AV := [.int .u8 a.k, .int .i64 a.i, .int .i64 a.w]
theorem exA : ∀ {rows : List (List AV)}, (∀ r ∈ rows, GdL [.int .u8, .int .i64, .int .i64] r) → ∃ l : List A13, rows = l.map encA
  | [], _ => ⟨[], rfl⟩
  | r :: rows, h => by
    obtain ⟨l, hl⟩ := exA fun x hx => h x (List.mem_cons_of_mem _ hx)
    have h0 := h r (List.mem_cons_self ..)
    simp only [GdL, GdC] at h0
    obtain ⟨_, _, e, ⟨t, rfl, _⟩, _, _, rfl, ⟨k', rfl, _⟩, _, _, rfl, ⟨a, rfl, _⟩, rfl⟩ := h0
    exact ⟨⟨t, k', a⟩ :: l, by rw [e, hl]; rfl⟩
theorem exI : ∀ {rows : List (List AV)}, (∀ r ∈ rows, GdL [.int .i64] r) → ∃ l : List Int, rows = ints l
  | [], _ => ⟨[], rfl⟩
  | r :: rows, h => by
    obtain ⟨l, hl⟩ := exI fun x hx => h x (List.mem_cons_of_mem _ hx)
    have h0 := h r (List.mem_cons_self ..)
    simp only [GdL, GdC] at h0
    obtain ⟨_, _, e, ⟨t, rfl, _⟩, rfl⟩ := h0
    exact ⟨t :: l, by rw [e, hl]; rfl⟩
theorem encA_get {l : List A13} {i : Nat} (h : i < l.length) : (l.map encA)[i]? = some [.int .u8 (cIS (l.map encA) i 0), .int .i64 (cIS (l.map encA) i 1), .int .i64 (cIS (l.map encA) i 2)] := by
  simp only [cIS, cellS, List.getElem?_map, List.getElem?_eq_getElem h]
  rfl

/-- What the locks and the law's row of holders have to do with one another. -/
structure R13 (C : List Int) (K : List Lk) (B : List Int) : Prop where
  kl : K.length = C.length
  bl : B.length = C.length
  c : ∀ a, a < C.length → (lk K a).c = C.getD a 0
  b : ∀ a, a < C.length → (lk K a).b = true → B.getD a 0 = (lk K a).h

theorem heldL_append (who : Int) : ∀ (a b : List Lk) (i : Int), heldL who (a ++ b) i = heldL who a i ++ heldL who b (i + a.length)
  | [], b, i => by simp [heldL]
  | k :: a, b, i => by
    have ih := heldL_append who a b (i + 1)
    have e : i + 1 + (a.length : Int) = i + ((k :: a).length : Nat) := by simp; omega
    simp only [List.cons_append, heldL]
    rw [ih, e]
    split <;> simp
theorem freeK_lk (who : Int) (K : List Lk) {a : Nat} (h : a < K.length) : lk (freeK who K) a = if (lk K a).b = true ∧ (lk K a).h = who then ⟨(lk K a).c, 0, false⟩ else lk K a := by
  rw [lk_get (by simp [freeK]; omega), lk_get h]
  simp [freeK]
theorem setB (B : List Int) {i a : Nat} (v : Int) (h : a < B.length) : (B.set i v).getD a 0 = if i = a then v else B.getD a 0 := by
  rw [List.getD_eq_getElem?_getD, List.getD_eq_getElem?_getD, List.getElem?_set]
  split
  · rename_i e; subst e; simp [h]
  · rfl
theorem lk_set_all (K : List Lk) {i a : Nat} (k : Lk) (h : a < K.length) : lk (K.set i k) a = if i = a then k else lk K a := by
  split
  · rename_i e; subst e; exact lk_set h k
  · rename_i e; exact lk_set_ne e k
theorem lk_app (P : List Lk) (k : Lk) (D : List Lk) : lk (P ++ k :: D) P.length = k := by
  unfold lk; rw [List.getD_eq_getElem?_getD]; simp

theorem Plays13 (cs : List (List AV)) (_ : cs.length ≤ maxLen) (gc : ∀ r ∈ cs, GdL [.int .i64] r) (l : List (List AV)) (_ : l.length ≤ maxLen) (gl : ∀ r ∈ l, GdL [.int .u8, .int .i64, .int .i64] r) (who : Int) (_ : (Lit.int .i64 who).wf = true) (base : Int) (_ : (Lit.int .i64 base).wf = true) : EC Try.prog G3 [] [.r cs, .r l, .i who, .i base] fun x rs vs => x = 0 ∧ vs = [.b true] := by
  obtain ⟨C, rfl⟩ := exI gc
  obtain ⟨L, rfl⟩ := exA gl
  refine E3 fun EV V => ?_
  -- the end
  have p178 : ∀ K : List Lk, K.length = C.length → EV 178 [K.map encL] [.r (ints C), .i who, .i base] := by
    intro K hK
    refine V.p178 fun _ => (N_Holder 0).mono ?_
    rintro _ _ _ ⟨rfl, rfl, rfl⟩
    refine ⟨rfl, _, _, rfl, rfl, V.p182 fun _ => (C_Len _).mono ?_⟩
    rintro _ _ _ ⟨rfl, rfl, k, hk, rfl⟩
    refine ⟨rfl, _, _, rfl, rfl, fun _ => N_Len.mono ?_, fun h => (h (by rw [hk]; simp [hK])).elim⟩
    rintro _ _ _ ⟨rfl, rfl, rfl⟩
    refine ⟨rfl, _, rfl, rfl, (N_Free who).mono ?_⟩
    rintro _ _ _ ⟨rfl, rfl, rfl⟩
    refine ⟨rfl, _, rfl, rfl, (N_Held who).mono ?_⟩
    rintro _ _ _ ⟨rfl, rfl, rfl⟩
    refine ⟨rfl, rfl, rfl, fun _ => (N_Lock 0 1).mono ?_, fun h => (h rfl).elim⟩
    rintro _ _ _ ⟨rfl, rfl, rfl⟩
    refine ⟨rfl, _, rfl, rfl, fun _ => (N_Level who base).mono ?_, fun h => (h rfl).elim⟩
    rintro _ _ _ ⟨rfl, rfl, rfl⟩
    exact ⟨rfl, _, rfl, rfl, fun _ => ⟨rfl, rfl⟩, fun h => (h rfl).elim⟩
  -- an act's end: all is asked
  have ask : C.length ≤ 20 → L.length ≤ 150 → ∀ (K : List Lk) (B : List Int) (i : Int), R13 C K B → 0 ≤ i → i < L.length →
      (∀ j : Int, j = i + 1 → EV 29 [K.map encB, ints B, K.map encL] [.r (ints C), .i who, .i base, .r (L.map encA), .i L.length, .i j]) →
      EV 125 [K.map encB, ints B, K.map encL] [.r (ints C), .i who, .i base, .r (L.map encA), .i L.length, .i i] := by
    intro hC hL K B i hR hi0 hi1 next
    have hKl := hR.kl
    refine V.p125 fun _ _ _ => (C_Held K _ rfl (by omega) who).mono ?_
    rintro _ _ _ ⟨rfl, rfl, O, hO, rfl⟩
    subst hO
    refine ⟨rfl, _, _, rfl, rfl, ?_⟩
    have loop : ∀ (d m : Nat) (pre : List Int) (lev : Int), K.length - m < d → m ≤ K.length → heldL who K 0 = pre ++ heldL who (K.drop m) m → levL K lev (heldL who (K.drop m) m) = levL K base (heldL who K 0) → EV 134 [K.map encB, ints B, ints (heldL who K 0), K.map encL] [.r (ints C), .i who, .i base, .i lev, .i pre.length, .r (L.map encA), .i L.length, .i i, .i K.length, .i m] := by
      intro d
      induction d with
      | zero => intro m pre lev hd; omega
      | succ d ih =>
        intro m pre lev hd hm hpre hlev
        refine V.p134 fun _ _ _ _ => ⟨fun hlt => ?_, fun hge => ?_⟩
        · have hmK : m < K.length := by omega
          have ev1 : IntKind.wrap .i64 ((m : Int) + 1) = ((m + 1 : Nat) : Int) := by rw [wrap64 (by omega) (by omega)]; rfl
          have hpl : pre.length ≤ 20 := by
            have h1 := congrArg List.length hpre
            have h2 := heldL_len who K 0
            simp at h1; omega
          rw [List.drop_eq_getElem_cons hmK, ← lk_get hmK] at hpre hlev
          refine (C_Holder K _ rfl m).mono ?_
          rintro _ _ _ ⟨rfl, rfl, h, b, rfl, hh⟩
          rw [if_neg (by omega), Int.toNat_natCast] at hh
          obtain ⟨rfl, rfl⟩ := hh
          refine ⟨rfl, _, _, _, rfl, rfl, by omega, by simp; omega, encB_get (by simpa using hmK), ?_, ?_⟩
          · intro _
            have p154 : EV 154 [K.map encB, ints B, ints (heldL who K 0), K.map encL] [.r (ints C), .i who, .i base, .i lev, .i pre.length, .i m, .r (L.map encA), .i L.length, .i i, .i K.length, .i m] := by
              refine V.p154 fun _ _ _ _ => ⟨by omega, by simp; omega, encB_get (by simpa using hmK), ?_, ?_⟩
              · intro hb
                rw [Int.toNat_natCast, encB_cB] at hb
                have hBm := hR.b m (by omega) hb
                refine ⟨by omega, by simp; have := hR.bl; omega, ints_get (by have := hR.bl; simp; omega), ?_, ?_⟩
                · intro hw
                  rw [Int.toNat_natCast, ints_cI, hBm] at hw
                  rw [heldL, if_pos ⟨hb, hw⟩] at hpre hlev
                  refine ⟨by omega, ints_get (by simp; omega), fun _ => ⟨by omega, ?_, ?_, ?_, ?_⟩, fun hx => ?_⟩
                  · rw [hpre]; simp; omega
                  · refine ints_get ?_
                    rw [hpre]; simp
                  · intro hne
                    exfalso
                    apply hne
                    rw [ints_cI, hpre, Int.toNat_natCast]
                    simp
                  · intro _
                    rw [ev1, mxS, Int.toNat_natCast, ints_cI, wrap64 (by omega) (by omega)]
                    have := ih (m + 1) (pre ++ [(m : Int)]) (max lev (C.getD m 0)) (by omega) (by omega) (by rw [hpre, List.append_assoc]; rfl) ?_
                    · simpa using this
                    · rw [← hlev]
                      simp only [levL, List.foldl_cons, Int.toNat_natCast]
                      rw [hR.c m (by omega)]
                      rfl
                  · exfalso
                    rw [hpre] at hx
                    simp at hx; omega
                · intro hw
                  rw [Int.toNat_natCast, ints_cI, hBm] at hw
                  rw [heldL, if_neg fun h => hw h.2] at hpre hlev
                  rw [ev1]
                  exact ih (m + 1) pre lev (by omega) (by omega) hpre hlev
              · intro hb
                rw [Int.toNat_natCast, encB_cB] at hb
                rw [heldL, if_neg (by rw [hb]; simp)] at hpre hlev
                rw [ev1]
                exact ih (m + 1) pre lev (by omega) (by omega) hpre hlev
            refine ⟨fun hb => ⟨by omega, by simp; have := hR.bl; omega, ints_get (by have := hR.bl; simp; omega), ?_, fun _ => p154⟩, fun _ => p154⟩
            intro hne
            exfalso
            apply hne
            rw [Int.toNat_natCast, ints_cI, hR.b m (by omega) hb]
          · intro hne
            rw [Int.toNat_natCast, encB_cB] at hne
            simp at hne
        · obtain rfl : m = K.length := by omega
          rw [List.drop_length] at hpre hlev
          simp only [heldL, List.append_nil] at hpre hlev
          refine V.p170 fun _ _ _ _ => ⟨fun _ => (C_Level K _ rfl (by omega) who base).mono ?_, fun hne => ?_⟩
          · rintro _ _ _ ⟨rfl, rfl, v, hv, rfl⟩
            refine ⟨rfl, _, _, rfl, rfl, fun hne => (hne (by rw [hv, ← hlev]; rfl)).elim, fun _ => ?_⟩
            exact next _ (wrap64 (by omega) (by omega))
          · exact (hne (by rw [hpre]; simp)).elim
    have := loop _ 0 [] base (Nat.lt_succ_self _) (by omega) (by simp) (by simp)
    simpa using this
  have loop : C.length ≤ 20 → L.length ≤ 150 → ∀ (d m : Nat) (K : List Lk) (B : List Int), L.length - m < d → m ≤ L.length → R13 C K B → EV 29 [K.map encB, ints B, K.map encL] [.r (ints C), .i who, .i base, .r (L.map encA), .i L.length, .i m] := by
    intro hC hL d
    induction d with
    | zero => intro m K B hd; omega
    | succ d ih =>
      intro m K B hd hm hR
      have hKl := hR.kl
      have hBl := hR.bl
      refine V.p29 fun _ _ _ => ⟨fun hlt => ?_, fun hge => p178 K hR.kl⟩
      have hml : m < L.length := by omega
      refine ⟨by omega, encA_get hml, ?_⟩
      obtain ⟨k, hk⟩ : ∃ k, k = cIS (L.map encA) (Int.toNat m) 0 := ⟨_, rfl⟩
      obtain ⟨i, hi⟩ : ∃ i, i = cIS (L.map encA) (Int.toNat m) 1 := ⟨_, rfl⟩
      obtain ⟨w, hw⟩ : ∃ w, w = cIS (L.map encA) (Int.toNat m) 2 := ⟨_, rfl⟩
      rw [← hk, ← hi, ← hw]
      have p125 : ∀ (K : List Lk) (B : List Int), R13 C K B → EV 125 [K.map encB, ints B, K.map encL] [.r (ints C), .i who, .i base, .r (L.map encA), .i L.length, .i m] := fun K' B' hR' =>
        ask hC hL K' B' m hR' (by omega) (by omega) fun j hj => by
          rw [show j = ((m + 1 : Nat) : Int) by omega]
          exact ih (m + 1) K' B' (by omega) (by omega) hR'
      have p43 : ∀ b, (b = true ↔ 0 ≤ i ∧ i < C.length) → EV 43 [K.map encB, ints B, K.map encL] [.r (ints C), .i who, .i base, .b b, .i 0, .r (L.map encA), .i L.length, .i m, .i k, .i i, .i w] := by
        intro b hb
        refine V.p43 fun _ _ _ => ⟨fun _ => ?_, fun _ => ⟨fun _ => ?_, fun _ => ⟨fun _ => ?_, fun _ => p125 K B hR⟩⟩⟩
        · -- locking
          have p61 : ∀ (K' : List Lk) (B' : List Int) (want : Int), R13 C K' B' → (∀ R e, (if i < 0 ∨ K.length ≤ i then e = 6 ∧ R = K.map encL else if (lk K i.toNat).b = true then e = 10 ∧ R = K.map encL else e = 0 ∧ R = (K.set i.toNat ⟨(lk K i.toNat).c, w, true⟩).map encL) → e = want ∧ R = K'.map encL) → EV 61 [K'.map encB, ints B', K.map encL] [.r (ints C), .i who, .i base, .i want, .r (L.map encA), .i L.length, .i m, .i k, .i i, .i w] := by
            intro K' B' want hR' hq
            refine V.p61 fun _ _ _ => (C_Lock K _ rfl i w).mono ?_
            rintro _ _ _ ⟨rfl, R, e, _, rfl, rfl, he⟩
            obtain ⟨rfl, rfl⟩ := hq R e he
            exact ⟨rfl, _, _, rfl, rfl, fun h => (h rfl).elim, fun _ => p125 K' B' hR'⟩
          refine V.p50 fun _ _ _ => ⟨fun h => ?_, fun h => ?_⟩
          · refine p61 K B 6 hR fun R e he => ?_
            have : ¬ (0 ≤ i ∧ i < C.length) := by rw [← hb, h]; simp
            rwa [if_pos (by omega)] at he
          · obtain ⟨h0, h1⟩ := hb.1 h
            have hiK : i.toNat < K.length := by omega
            refine ⟨h0, by simp; omega, encB_get (by omega), fun hx => ?_, fun hx => ?_⟩
            · rw [encB_cB] at hx
              refine p61 K B 10 hR fun R e he => ?_
              rwa [if_neg (by omega), if_pos hx] at he
            · rw [encB_cB] at hx
              refine ⟨h0, by simp; omega, encB_get (by omega), by simp; omega, ints_get (by omega), ?_⟩
              rw [encB_set K i.toNat ⟨(lk K i.toNat).c, w, true⟩ true rfl, ints_set]
              refine p61 _ _ 0 ⟨by simp; omega, by simp; omega, fun a ha => ?_, fun a ha hab => ?_⟩ fun R e he => ?_
              · rw [lk_set_all K _ (by omega)]
                split
                · rename_i e; subst e; exact hR.c _ ha
                · exact hR.c a ha
              · rw [setB B _ (by omega)]
                rw [lk_set_all K _ (by omega)] at hab ⊢
                split
                · rfl
                · rename_i e; rw [if_neg e] at hab; exact hR.b a ha hab
              · rwa [if_neg (by omega), if_neg (by rw [hx]; simp)] at he
        · -- unlocking
          have p82 : ∀ (K' : List Lk) (B' : List Int) (want : Int), R13 C K' B' → (∀ R e, (if i < 0 ∨ K.length ≤ i then e = 6 ∧ R = K.map encL else if (lk K i.toNat).b = false ∨ (lk K i.toNat).h ≠ w then e = 8 ∧ R = K.map encL else e = 0 ∧ R = (K.set i.toNat ⟨(lk K i.toNat).c, 0, false⟩).map encL) → e = want ∧ R = K'.map encL) → EV 82 [K'.map encB, ints B', K.map encL] [.r (ints C), .i who, .i base, .i want, .r (L.map encA), .i L.length, .i m, .i k, .i i, .i w] := by
            intro K' B' want hR' hq
            refine V.p82 fun _ _ _ => (C_Unlock K _ rfl i w).mono ?_
            rintro _ _ _ ⟨rfl, R, e, _, rfl, rfl, he⟩
            obtain ⟨rfl, rfl⟩ := hq R e he
            exact ⟨rfl, _, _, rfl, rfl, fun h => (h rfl).elim, fun _ => p125 K' B' hR'⟩
          refine V.p71 fun _ _ _ => ⟨fun h => ?_, fun h => ?_⟩
          · refine p82 K B 6 hR fun R e he => ?_
            have : ¬ (0 ≤ i ∧ i < C.length) := by rw [← hb, h]; simp
            rwa [if_pos (by omega)] at he
          · obtain ⟨h0, h1⟩ := hb.1 h
            have hiK : i.toNat < K.length := by omega
            refine ⟨h0, by simp; omega, encB_get (by omega), fun hx => ?_, fun hx => ?_⟩
            · rw [encB_cB] at hx
              refine p82 K B 8 hR fun R e he => ?_
              rwa [if_neg (by omega), if_pos (.inl hx)] at he
            · rw [encB_cB] at hx
              have hBi := hR.b i.toNat (by omega) hx
              refine ⟨h0, by simp; omega, ints_get (by omega), fun hy => ?_, fun hy => ?_⟩
              · rw [ints_cI, hBi] at hy
                refine p82 K B 8 hR fun R e he => ?_
                rwa [if_neg (by omega), if_pos (.inr hy)] at he
              · rw [ints_cI, hBi] at hy
                refine ⟨h0, by simp; omega, encB_get (by omega), ?_⟩
                rw [encB_set K i.toNat ⟨(lk K i.toNat).c, 0, false⟩ false rfl]
                refine p82 _ _ 0 ⟨by simp; omega, hR.bl, fun a ha => ?_, fun a ha hab => ?_⟩ fun R e he => ?_
                · rw [lk_set_all K _ (by omega)]
                  split
                  · rename_i e; subst e; exact hR.c _ ha
                  · exact hR.c a ha
                · rw [lk_set_all K _ (by omega)] at hab ⊢
                  split
                  · rename_i e; rw [if_pos e] at hab; cases hab
                  · rename_i e; rw [if_neg e] at hab; exact hR.b a ha hab
                · rwa [if_neg (by omega), if_neg (by rw [hx]; simp [hy])] at he
        · -- freeing
          have hfr : ∀ (d a : Nat), K.length - a < d → a ≤ K.length → EV 99 [(freeK w (K.take a) ++ K.drop a).map encB, ints B, K.map encL] [.r (ints C), .i who, .i base, .i (heldL w (K.take a) 0).length, .r (L.map encA), .i L.length, .i m, .i K.length, .i a, .i k, .i i, .i w] := by
            intro d
            induction d with
            | zero => intro a hd; omega
            | succ d ihf =>
              intro a hd ha
              have hfl : (freeK w (K.take a)).length = a := by simp [freeK]; omega
              have hal : (freeK w (K.take a) ++ K.drop a).length = K.length := by simp [hfl]; omega
              have hn := heldL_len w (K.take a) 0
              rw [List.length_take] at hn
              refine V.p99 fun _ _ _ => ⟨fun hlt => ?_, fun hge => ?_⟩
              · have haK : a < K.length := by omega
                have ev1 : IntKind.wrap .i64 ((a : Int) + 1) = ((a + 1 : Nat) : Int) := by rw [wrap64 (by omega) (by omega)]; rfl
                have hlk : lk (freeK w (K.take a) ++ K.drop a) a = lk K a := by
                  rw [List.drop_eq_getElem_cons haK, ← lk_get haK]
                  conv => lhs; rw [← hfl]
                  rw [hfl]
                  have := lk_app (freeK w (K.take a)) (lk K a) (K.drop (a + 1))
                  rwa [hfl] at this
                have ht : K.take (a + 1) = K.take a ++ [lk K a] := by
                  rw [List.take_add_one, List.getElem?_eq_getElem haK, lk_get haK]; rfl
                have htl : (K.take a).length = a := by simp; omega
                have keep : ¬ ((lk K a).b = true ∧ (lk K a).h = w) → EV 99 [(freeK w (K.take a) ++ K.drop a).map encB, ints B, K.map encL] [.r (ints C), .i who, .i base, .i (heldL w (K.take a) 0).length, .r (L.map encA), .i L.length, .i m, .i K.length, .i ((a + 1 : Nat) : Int), .i k, .i i, .i w] := by
                  intro hno
                  have := ihf (a + 1) (by omega) (by omega)
                  rw [ht, heldL_append] at this
                  simp only [heldL, if_neg hno, List.append_nil, freeK, List.map_append, List.map_cons, List.map_nil] at this
                  rw [List.drop_eq_getElem_cons haK, ← lk_get haK]
                  simp only [freeK, List.map_append, List.map_cons, List.append_assoc, List.cons_append, List.nil_append] at this ⊢
                  exact this
                refine ⟨by omega, by simp [hfl]; omega, encB_get (by omega), fun hb => ?_, fun hb => ?_⟩
                · rw [Int.toNat_natCast, encB_cB, hlk] at hb
                  have hBa := hR.b a (by omega) hb
                  refine ⟨by omega, by simp; omega, ints_get (by simp; omega), fun hh => ?_, fun hh => ?_⟩
                  · rw [Int.toNat_natCast, ints_cI, hBa] at hh
                    refine ⟨by omega, by simp [hfl]; omega, encB_get (by omega), ?_⟩
                    rw [ev1, Int.toNat_natCast, encB_set _ a ⟨(lk K a).c, 0, false⟩ false rfl, wrap64 (by omega) (by omega)]
                    have := ihf (a + 1) (by omega) (by omega)
                    rw [ht, heldL_append] at this
                    simp only [heldL, if_pos (And.intro hb hh), freeK, List.map_append, List.map_cons, List.map_nil] at this
                    rw [List.drop_eq_getElem_cons haK, ← lk_get haK]
                    have es : (freeK w (K.take a) ++ lk K a :: K.drop (a + 1)).set a ⟨(lk K a).c, 0, false⟩ = freeK w (K.take a) ++ (⟨(lk K a).c, 0, false⟩ :: K.drop (a + 1)) := by
                      rw [List.set_append_right _ _ (by omega), hfl, Nat.sub_self]; rfl
                    rw [es]
                    simp only [freeK, List.map_append, List.map_cons, List.append_assoc, List.cons_append, List.nil_append, List.length_append, List.length_cons, List.length_nil, if_pos (And.intro hb hh)] at this ⊢
                    simpa using this
                  · rw [Int.toNat_natCast, ints_cI, hBa] at hh
                    rw [ev1]
                    exact keep fun h => hh h.2
                · rw [Int.toNat_natCast, encB_cB, hlk] at hb
                  rw [ev1]
                  exact keep fun h => by rw [hb] at h; simp at h
              · obtain rfl : a = K.length := by omega
                simp only [List.take_length, List.drop_length, List.append_nil]
                refine (C_Free K _ rfl (by omega) w).mono ?_
                rintro _ _ _ ⟨rfl, R, n, _, rfl, rfl, rfl, rfl⟩
                refine ⟨rfl, _, _, rfl, rfl, fun h => (h rfl).elim, fun _ => p125 _ _ ⟨by simp [freeK]; omega, hR.bl, fun a ha => ?_, fun a ha hab => ?_⟩⟩
                · rw [freeK_lk w K (by omega)]
                  split <;> exact hR.c a ha
                · rw [freeK_lk w K (by omega)] at hab ⊢
                  split
                  · rename_i e; rw [if_pos e] at hab; cases hab
                  · rename_i e; rw [if_neg e] at hab; exact hR.b a ha hab
          refine V.p92 fun _ _ _ => ?_
          have := hfr _ 0 (Nat.lt_succ_self _) (by omega)
          simpa [freeK, heldL] using this
      refine ⟨fun h0 => p43 _ ?_, fun h0 => p43 _ ?_⟩
      · simp [h0]
      · simp; omega
  refine fixed9.mono ?_
  rintro _ _ _ ⟨rfl, rfl, rfl⟩
  refine ⟨rfl, _, rfl, rfl, fun h => (by cases h), fun _ => ⟨fun h20 => ⟨fun _ => ⟨rfl, rfl⟩, fun h150 => ?_⟩, fun _ => ⟨rfl, rfl⟩⟩⟩
  simp only [ints_length, List.length_map] at h20 h150
  refine (C_New C _ rfl (by omega)).mono ?_
  rintro _ _ _ ⟨rfl, rfl, R, rfl, rfl⟩
  have hlk : ∀ a, a < C.length → lk (C.map fun c => (⟨c, 0, false⟩ : Lk)) a = ⟨C.getD a 0, 0, false⟩ := fun a ha => by
    rw [lk_get (by simpa using ha), List.getElem_map, List.getD_eq_getElem?_getD, List.getElem?_eq_getElem ha]; rfl
  have := loop (by omega) (by omega) _ 0 (C.map fun c => (⟨c, 0, false⟩ : Lk)) (List.replicate C.length 0) (Nat.lt_succ_self _) (by omega) ⟨by simp, by simp, fun a ha => by rw [hlk a ha], fun a ha h => by rw [hlk a ha] at h; cases h⟩
  have e1 : (C.map fun c => (⟨c, 0, false⟩ : Lk)).map encB = List.replicate (ints C).length [AV.bool false] := by
    rw [List.map_map, ints_length]
    apply List.ext_getElem (by simp)
    intro a h1 h2
    simp [encB]
  have e2 : ints (List.replicate C.length 0) = List.replicate (ints C).length [AV.int .i64 0] := by simp [ints]
  rw [e1, e2] at this
  refine ⟨rfl, _, rfl, rfl, ?_⟩
  simp only [ints_length, List.length_map] at this ⊢
  refine ⟨by omega, by omega, by omega, ?_⟩
  simpa using this
end Go.Ab
