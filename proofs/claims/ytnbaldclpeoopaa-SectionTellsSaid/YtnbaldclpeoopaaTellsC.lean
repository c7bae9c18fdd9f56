/- ceiling's locks, by shapes: for every row of at most a million locks. -/
import Derived.Test.YtnbaldclpeoopaaTellsS
import Derived.Test.YtnbaldclpeoopaaAbLaw
namespace Go.Ab
open Go Go.Proofs
set_option linter.unusedVariables false
set_option linter.unusedSimpArgs false
set_option maxRecDepth 100000
set_option maxHeartbeats 2000000

theorem iopC {A : Ar} (hA : A = arS) (x y : Int) : A.iop .add .i64 x y = IntKind.i64.wrap (x + y) := by subst hA; rfl
theorem addC {A : Ar} (hA : A = arS) {i : Int} (h0 : -10 ≤ i) (h1 : i ≤ 1000000000) : A.iop .add .i64 i 1 = i + 1 := by
  rw [iopC hA, wrap_i64 (by omega) (by omega)]

structure Lk where
  c : Int
  h : Int
  b : Bool
  deriving Inhabited
def encL (k : Lk) : List AV := [.int .i64 k.c, .int .i64 k.h, .bool k.b]
theorem encL_pure (K : List Lk) : pursS (K.map encL) = true := pursS_map _ (fun _ => rfl) K
def lk (K : List Lk) (i : Nat) : Lk := K.getD i default
theorem lk_get {K : List Lk} {i : Nat} (h : i < K.length) : lk K i = K[i] := by
  unfold lk; rw [List.getD_eq_getElem?_getD, List.getElem?_eq_getElem h]; rfl
theorem lk_cI {K : List Lk} {i : Nat} (h : i < K.length) : cIS (K.map encL) i 0 = (lk K i).c ∧ cIS (K.map encL) i 1 = (lk K i).h ∧ cBS (K.map encL) i 2 = (lk K i).b := by
  simp only [cIS, cBS, cellS_map, lk_get h, List.getElem?_eq_getElem h]
  exact ⟨rfl, rfl, rfl⟩
theorem rgL {A : Ar} (hA : A = arS) {rows : List (List AV)} {K : List Lk} (hR : rows = K.map encL) {i : Nat} (h : i < K.length) : rows[i]? = some [.int .i64 (A.cI rows i 0), .int .i64 (A.cI rows i 1), .bool (A.cB rows i 2)] := by
  subst hA hR
  obtain ⟨h0, h1, h2⟩ := lk_cI h
  simp only [arS]
  rw [h0, h1, h2, List.getElem?_map, List.getElem?_eq_getElem h, lk_get h]
  rfl

theorem C_Len (rows : List (List AV)) : EC Try.prog G72 [rows] [] fun x rs vs => x = 0 ∧ rs = [rows] ∧ ∃ k : Int, k = rows.length ∧ vs = [.i k] := by
  obtain ⟨A, hA⟩ : ∃ A, A = arS := ⟨_, rfl⟩
  refine Inst.enter (I := I72) hA mixed F72_at sg L72 80 rfl fun CE CK Dn EV RR W hp => ?_
  cbv
  repeat' first | apply And.intro | (apply imC hA; intro) | (apply imN hA; intro) | (apply imI hA; intro) | (apply ndI hA; simp only [Cnd.holds])
  all_goals try simp (maxSteps := 10000000) only [nc, nc2, cmpR, Bool.not_true, Bool.not_false] at *
  all_goals try first | rfl | assumption | exact hp.1 | exact hp.2.1 | exact hp.2.2.1 | exact hp.2.2.2.1
  all_goals try (exfalso; first | omega | contradiction | simp_all; done)
  rw [W.rr]; exact ⟨rfl, rfl, _, by subst hA; rfl, rfl⟩

theorem C_at (rows : List (List AV)) (i : Int) : EC Try.prog G57 [rows] [.i i] fun x rs vs => rs = [rows] ∧ ((x = 0 ∧ (i < 0 ∨ rows.length ≤ i) ∧ vs = []) ∨ (x = 1 ∧ 0 ≤ i ∧ i < rows.length ∧ ∃ m : Nat, m = i.toNat ∧ vs = [.n m])) := by
  obtain ⟨A, hA⟩ : ∃ A, A = arS := ⟨_, rfl⟩
  refine Inst.enter (I := I57) hA mixed F57_at sg L57 80 rfl fun CE CK Dn EV RR W hp => ?_
  cbv
  repeat' first | apply And.intro | (apply imC hA; intro) | (apply imN hA; intro) | (apply imI hA; intro) | (apply ndI hA; simp only [Cnd.holds])
  all_goals try simp (maxSteps := 10000000) only [nc, nc2, cmpR, Bool.not_true, Bool.not_false] at *
  all_goals try first | rfl | assumption | exact hp.1 | exact hp.2.1 | exact hp.2.2.1 | exact hp.2.2.2.1
  all_goals try (exfalso; first | omega | contradiction | simp_all; done)
  · rename_i h0
    refine W.call 80 (by rfl) (C_Len rows) (by first | rfl | (subst hA; simp [arS])) (by first | rfl | (subst hA; simp [arS])) ?_
    rintro _ _ _ hp ⟨rfl, rfl, k, hk, rfl⟩
    cbv
    repeat' first | apply And.intro | (apply imC hA; intro) | (apply imN hA; intro) | (apply imI hA; intro) | (apply ndI hA; simp only [Cnd.holds])
    all_goals try simp (maxSteps := 10000000) only [nc, nc2, cmpR, Bool.not_true, Bool.not_false] at *
    all_goals try first | rfl | assumption | exact hp.1 | exact hp.2.1 | exact hp.2.2.1 | exact hp.2.2.2.1
    all_goals try (exfalso; first | omega | contradiction)
    all_goals try first | omega | (subst hA; simp only [arS]; omega)
    · rw [W.rr]; exact ⟨rfl, .inl ⟨rfl, .inr (by omega), rfl⟩⟩
    · have hl : i < k := by assumption
      rw [W.rr]
      exact ⟨rfl, .inr ⟨rfl, h0, by omega, _, by subst hA; simp [arS], rfl⟩⟩
  · rename_i h0
    rw [W.rr]; exact ⟨rfl, .inl ⟨rfl, .inl h0, rfl⟩⟩

theorem set_enc {A : Ar} (hA : A = arS) {rows : List (List AV)} {K : List Lk} (hR : rows = K.map encL) (m : Nat) (k : Lk) : A.rset rows m [.int .i64 k.c, .int .i64 k.h, .bool k.b] = (K.set m k).map encL := by
  subst hA hR
  simp only [arS, List.map_set]
  rfl
theorem lk_set {K : List Lk} {i : Nat} (h : i < K.length) (k : Lk) : lk (K.set i k) i = k := by
  rw [lk_get (by simpa using h)]; simp
theorem c_cI {A : Ar} (hA : A = arS) {rows : List (List AV)} {K : List Lk} (hR : rows = K.map encL) {m : Nat} (h : m < K.length) : A.cI rows m 0 = (lk K m).c ∧ A.cI rows m 1 = (lk K m).h ∧ A.cB rows m 2 = (lk K m).b := by
  subst hA hR
  exact lk_cI h

theorem C_Lock (K : List Lk) (rows : List (List AV)) (hR : rows = K.map encL) (i who : Int) : EC Try.prog G47 [rows] [.i i, .i who] fun x rs vs => x = 0 ∧ ∃ R e, R.length = rows.length ∧ rs = [R] ∧ vs = [.i e] ∧ (if i < 0 ∨ K.length ≤ i then e = 6 ∧ R = rows else if (lk K i.toNat).b = true then e = 10 ∧ R = rows else e = 0 ∧ R = (K.set i.toNat ⟨(lk K i.toNat).c, who, true⟩).map encL) := by
  have hrl : rows.length = K.length := by rw [hR]; simp
  obtain ⟨A, hA⟩ : ∃ A, A = arS := ⟨_, rfl⟩
  refine Inst.enter (I := I47) hA mixed F47_at sg L47 80 rfl fun CE CK Dn EV RR W hp => ?_
  cbv
  repeat' first | apply And.intro | (apply imC hA; intro) | (apply imN hA; intro) | (apply imI hA; intro) | (apply ndI hA; simp only [Cnd.holds])
  all_goals try simp (maxSteps := 10000000) only [nc, nc2, cmpR, Bool.not_true, Bool.not_false] at *
  all_goals try first | rfl | assumption | exact hp.1 | exact hp.2.1 | exact hp.2.2.1 | exact hp.2.2.2.1
  all_goals try (exfalso; first | omega | contradiction | simp_all; done)
  refine W.call 80 (by rfl) (C_at rows i) (by first | rfl | (subst hA; simp [arS])) (by first | rfl | (subst hA; simp [arS])) ?_
  rintro _ _ _ hp ⟨rfl, ⟨rfl, hi, rfl⟩ | ⟨rfl, h0, h1, m, hm, rfl⟩⟩
  · cbv
    repeat' first | apply And.intro | (apply imC hA; intro) | (apply imN hA; intro) | (apply imI hA; intro) | (apply ndI hA; simp only [Cnd.holds])
    all_goals try simp (maxSteps := 10000000) only [nc, nc2, cmpR, Bool.not_true, Bool.not_false] at *
    all_goals try first | rfl | assumption | exact hp.1 | exact hp.2.1 | exact hp.2.2.1 | exact hp.2.2.2.1
    all_goals try (exfalso; first | omega | contradiction)
    rw [W.rr]; exact ⟨rfl, rows, 6, rfl, rfl, rfl, by rw [if_pos (by omega)]; exact ⟨rfl, rfl⟩⟩
  · have hmK : m < K.length := by omega
    obtain ⟨q0, q1, q2⟩ := c_cI hA hR hmK
    obtain ⟨kc, hkc⟩ : ∃ x, x = (lk K m).c := ⟨_, rfl⟩
    obtain ⟨kh, hkh⟩ : ∃ x, x = (lk K m).h := ⟨_, rfl⟩
    obtain ⟨kb, hkb⟩ : ∃ x, x = (lk K m).b := ⟨_, rfl⟩
    rw [← hkc] at q0
    rw [← hkh] at q1
    rw [← hkb] at q2
    have hg : rows[m]? = some [.int .i64 (A.cI rows m 0), .int .i64 (A.cI rows m 1), .bool (A.cB rows m 2)] := rgL hA hR hmK
    obtain ⟨r1, hr1⟩ : ∃ r1, r1 = (K.set m ⟨kc, who, kb⟩).map encL := ⟨_, rfl⟩
    obtain ⟨r2, hr2⟩ : ∃ r2, r2 = (K.set m ⟨kc, who, true⟩).map encL := ⟨_, rfl⟩
    have s1 : A.rset rows m [.int .i64 kc, .int .i64 who, .bool kb] = r1 := (set_enc hA hR m ⟨kc, who, kb⟩).trans hr1.symm
    have s2 : A.rset r1 m [.int .i64 kc, .int .i64 who, .bool true] = r2 := (set_enc hA hr1 m ⟨kc, who, true⟩).trans (by rw [List.set_set]; exact hr2.symm)
    obtain ⟨w0, w1, w2⟩ := c_cI hA hr1 (m := m) (by simpa using hmK)
    rw [lk_set hmK] at w0 w1 w2
    have hg1 : r1[m]? = some [.int .i64 (A.cI r1 m 0), .int .i64 (A.cI r1 m 1), .bool (A.cB r1 m 2)] := rgL hA hr1 (by simpa using hmK)
    rw [w0, w1, w2] at hg1
    rw [q0, q1, q2] at hg
    have hl1 : r1.length = rows.length := by rw [hr1, hR]; simp
    have hl2 : r2.length = rows.length := by rw [hr2, hR]; simp
    have p2 : pursS r2 = true := by rw [hr2]; exact encL_pure _
    simp only at w0 w1 w2
    unfold Ar.cI at q0 q1 w0 w1
    unfold Ar.cB at q2 w2
    unfold Ar.rset at s1 s2
    cbv
    repeat' first | apply And.intro | (apply imC hA; intro) | (apply imN hA; intro) | (apply imI hA; intro) | (apply ndI hA; simp only [Cnd.holds])
    all_goals try simp (maxSteps := 10000000) only [nc, nc2, cmpR, Bool.not_true, Bool.not_false] at *
    all_goals try first | rfl | assumption | exact hp.1 | exact hp.2.1 | exact hp.2.2.1 | exact hp.2.2.2.1
    all_goals try (exfalso; first | omega | contradiction)
    all_goals try simp only [q0, q1, q2, s1, w0, w1, w2, s2]
    all_goals try first | exact hg | exact hg1 | exact p2 | (subst hA; simp only [arS]; omega)
    · rename_i hb
      have hb : kb = true := q2.symm.trans hb
      rw [W.rr]
      refine ⟨rfl, rows, 10, rfl, rfl, rfl, ?_⟩
      rw [if_neg (by omega), if_pos (by rw [← hm, ← hkb]; exact hb)]
      exact ⟨rfl, rfl⟩
    · rename_i hb
      have hb : kb = false := q2.symm.trans hb
      rw [W.rr]
      refine ⟨rfl, r2, 0, hl2, rfl, rfl, ?_⟩
      rw [if_neg (by omega), if_neg (by rw [← hm, ← hkb, hb]; simp), ← hm, ← hkc]
      exact ⟨rfl, hr2⟩

theorem C_Unlock (K : List Lk) (rows : List (List AV)) (hR : rows = K.map encL) (i who : Int) : EC Try.prog G48 [rows] [.i i, .i who] fun x rs vs => x = 0 ∧ ∃ R e, R.length = rows.length ∧ rs = [R] ∧ vs = [.i e] ∧ (if i < 0 ∨ K.length ≤ i then e = 6 ∧ R = rows else if (lk K i.toNat).b = false ∨ (lk K i.toNat).h ≠ who then e = 8 ∧ R = rows else e = 0 ∧ R = (K.set i.toNat ⟨(lk K i.toNat).c, 0, false⟩).map encL) := by
  have hrl : rows.length = K.length := by rw [hR]; simp
  obtain ⟨A, hA⟩ : ∃ A, A = arS := ⟨_, rfl⟩
  refine Inst.enter (I := I48) hA mixed F48_at sg L48 80 rfl fun CE CK Dn EV RR W hp => ?_
  cbv
  repeat' first | apply And.intro | (apply imC hA; intro) | (apply imN hA; intro) | (apply imI hA; intro) | (apply ndI hA; simp only [Cnd.holds])
  all_goals try simp (maxSteps := 10000000) only [nc, nc2, cmpR, Bool.not_true, Bool.not_false] at *
  all_goals try first | rfl | assumption | exact hp.1 | exact hp.2.1 | exact hp.2.2.1 | exact hp.2.2.2.1
  all_goals try (exfalso; first | omega | contradiction | simp_all; done)
  refine W.call 80 (by rfl) (C_at rows i) (by first | rfl | (subst hA; simp [arS])) (by first | rfl | (subst hA; simp [arS])) ?_
  rintro _ _ _ hp ⟨rfl, ⟨rfl, hi, rfl⟩ | ⟨rfl, h0, h1, m, hm, rfl⟩⟩
  · cbv
    repeat' first | apply And.intro | (apply imC hA; intro) | (apply imN hA; intro) | (apply imI hA; intro) | (apply ndI hA; simp only [Cnd.holds])
    all_goals try simp (maxSteps := 10000000) only [nc, nc2, cmpR, Bool.not_true, Bool.not_false] at *
    all_goals try first | rfl | assumption | exact hp.1 | exact hp.2.1 | exact hp.2.2.1 | exact hp.2.2.2.1
    all_goals try (exfalso; first | omega | contradiction)
    rw [W.rr]; exact ⟨rfl, rows, 6, rfl, rfl, rfl, by rw [if_pos (by omega)]; exact ⟨rfl, rfl⟩⟩
  · have hmK : m < K.length := by omega
    obtain ⟨q0, q1, q2⟩ := c_cI hA hR hmK
    obtain ⟨kc, hkc⟩ : ∃ x, x = (lk K m).c := ⟨_, rfl⟩
    obtain ⟨kh, hkh⟩ : ∃ x, x = (lk K m).h := ⟨_, rfl⟩
    obtain ⟨kb, hkb⟩ : ∃ x, x = (lk K m).b := ⟨_, rfl⟩
    rw [← hkc] at q0
    rw [← hkh] at q1
    rw [← hkb] at q2
    have hg : rows[m]? = some [.int .i64 (A.cI rows m 0), .int .i64 (A.cI rows m 1), .bool (A.cB rows m 2)] := rgL hA hR hmK
    obtain ⟨r1, hr1⟩ : ∃ r1, r1 = (K.set m ⟨kc, 0, kb⟩).map encL := ⟨_, rfl⟩
    obtain ⟨r2, hr2⟩ : ∃ r2, r2 = (K.set m ⟨kc, 0, false⟩).map encL := ⟨_, rfl⟩
    have s1 : A.rset rows m [.int .i64 kc, .int .i64 0, .bool kb] = r1 := (set_enc hA hR m ⟨kc, 0, kb⟩).trans hr1.symm
    have s2 : A.rset r1 m [.int .i64 kc, .int .i64 0, .bool false] = r2 := (set_enc hA hr1 m ⟨kc, 0, false⟩).trans (by rw [List.set_set]; exact hr2.symm)
    obtain ⟨w0, w1, w2⟩ := c_cI hA hr1 (m := m) (by simpa using hmK)
    rw [lk_set hmK] at w0 w1 w2
    have hg1 : r1[m]? = some [.int .i64 (A.cI r1 m 0), .int .i64 (A.cI r1 m 1), .bool (A.cB r1 m 2)] := rgL hA hr1 (by simpa using hmK)
    rw [w0, w1, w2] at hg1
    rw [q0, q1, q2] at hg
    have hl1 : r1.length = rows.length := by rw [hr1, hR]; simp
    have hl2 : r2.length = rows.length := by rw [hr2, hR]; simp
    have p2 : pursS r2 = true := by rw [hr2]; exact encL_pure _
    simp only at w0 w1 w2
    unfold Ar.cI at q0 q1 w0 w1
    unfold Ar.cB at q2 w2
    unfold Ar.rset at s1 s2
    cbv
    repeat' first | apply And.intro | (apply imC hA; intro) | (apply imN hA; intro) | (apply imI hA; intro) | (apply ndI hA; simp only [Cnd.holds])
    all_goals try simp (maxSteps := 10000000) only [nc, nc2, cmpR, Bool.not_true, Bool.not_false] at *
    all_goals try first | rfl | assumption | exact hp.1 | exact hp.2.1 | exact hp.2.2.1 | exact hp.2.2.2.1
    all_goals try (exfalso; first | omega | contradiction)
    all_goals try simp only [q0, q1, q2, s1, w0, w1, w2, s2]
    all_goals try first | exact hg | exact hg1 | exact p2 | (subst hA; simp only [arS]; omega)
    · rename_i hh hb
      have hh : kh ≠ who := fun h => hh (q1.trans h)
      rw [W.rr]
      refine ⟨rfl, rows, 8, rfl, rfl, rfl, ?_⟩
      rw [if_neg (by omega), if_pos (.inr (by rw [← hm, ← hkh]; exact hh))]
      exact ⟨rfl, rfl⟩
    · rename_i hh hb
      have hh : kh = who := q1.symm.trans hh
      have hb : kb = true := q2.symm.trans hb
      rw [W.rr]
      refine ⟨rfl, r2, 0, hl2, rfl, rfl, ?_⟩
      rw [if_neg (by omega), if_neg (by rw [← hm, ← hkb, ← hkh, hb, hh]; simp), ← hm, ← hkc]
      exact ⟨rfl, hr2⟩
    · rename_i hb
      have hb : kb = false := q2.symm.trans hb
      rw [W.rr]
      refine ⟨rfl, rows, 8, rfl, rfl, rfl, ?_⟩
      rw [if_neg (by omega), if_pos (.inl (by rw [← hm, ← hkb]; exact hb))]
      exact ⟨rfl, rfl⟩

/-- The locks that somebody holds. -/
def heldL (who : Int) : List Lk → Int → List Int
  | [], _ => []
  | k :: ks, i => if k.b = true ∧ k.h = who then i :: heldL who ks (i + 1) else heldL who ks (i + 1)

theorem C_Held (K : List Lk) (rows : List (List AV)) (hR : rows = K.map encL) (hn : K.length ≤ 1000) (who : Int) : EC Try.prog G71 [rows] [.i who] fun x rs vs => x = 0 ∧ vs = [] ∧ ∃ O, O = ints (heldL who K 0) ∧ rs = [rows, O] := by
  have hrl : rows.length = K.length := by rw [hR]; simp
  obtain ⟨A, hA⟩ : ∃ A, A = arS := ⟨_, rfl⟩
  refine Inst.enter (I := I71) hA mixed F71_at sg L71 80 rfl fun CE CK Dn EV RR W hp => ?_
  have loop : ∀ (d m : Nat) (acc : List Int) (out : List (List AV)) (i z : Int), K.length - m < d → m ≤ K.length → z = K.length → i = m → out = ints acc → acc.length ≤ m → acc ++ heldL who (K.drop m) m = heldL who K 0 → EV 9 [rows, out] [.i who, .i z, .i i] := by
    intro d
    induction d with
    | zero => intro m acc out i z hd; omega
    | succ d ih =>
      intro m acc out i z hd hm hz hi hout hal hinv
      have po : pursS out = true := by rw [hout]; exact ints_pure acc
      obtain ⟨j, hj⟩ : ∃ j : Int, j = i + 1 := ⟨_, rfl⟩
      have e1 : A.iop .add .i64 i 1 = j := (addC hA (by omega) (by omega)).trans (by omega)
      unfold Ar.iop at e1
      have hol : out.length = acc.length := by rw [hout]; simp
      by_cases hmK : m < K.length
      · obtain ⟨q0, q1, q2⟩ := c_cI hA hR hmK
        have hg : rows[m]? = some [.int .i64 (A.cI rows m 0), .int .i64 (A.cI rows m 1), .bool (A.cB rows m 2)] := rgL hA hR hmK
        obtain ⟨kh, hkh⟩ : ∃ x, x = (lk K m).h := ⟨_, rfl⟩
        obtain ⟨kb, hkb⟩ : ∃ x, x = (lk K m).b := ⟨_, rfl⟩
        rw [← hkh] at q1
        rw [← hkb] at q2
        have s1 : A.rapp out (A.rlen out) [[.int .i64 i]] = ints (acc ++ [i]) := by
          subst hA hout
          simp only [arS]
          rw [rappS_end, ints_append]
        rw [List.drop_eq_getElem_cons hmK, ← lk_get hmK] at hinv
        refine W.step 80 fun hp => ?_
        cbv
        repeat' first | apply And.intro | (apply imC hA; intro) | (apply imN hA; intro) | (apply imI hA; intro) | (apply ndI hA; simp only [Cnd.holds])
        all_goals try simp (maxSteps := 10000000) only [nc, nc2, cmpR, Bool.not_true, Bool.not_false] at *
        all_goals try first | rfl | assumption | exact hp.1 | exact hp.2.1 | exact hp.2.2.1 | exact hp.2.2.2.1
        all_goals try (exfalso; first | omega | contradiction)
        refine W.call 80 (by rfl) (C_at rows i) (by first | rfl | (subst hA; simp [arS])) (by first | rfl | (subst hA; simp [arS])) ?_
        rintro _ _ _ hp ⟨rfl, ⟨rfl, hi', rfl⟩ | ⟨rfl, h0, h1, m', hm', rfl⟩⟩
        · exfalso; omega
        obtain rfl : m' = m := by omega
        cbv
        repeat' first | apply And.intro | (apply imC hA; intro) | (apply imN hA; intro) | (apply imI hA; intro) | (apply ndI hA; simp only [Cnd.holds])
        all_goals try simp (maxSteps := 10000000) only [nc, nc2, cmpR, Bool.not_true, Bool.not_false] at *
        all_goals try first | rfl | assumption | exact hp.1 | exact hp.2.1 | exact hp.2.2.1 | exact hp.2.2.2.1
        all_goals try (exfalso; first | omega | contradiction)
        all_goals try simp only [e1]
        all_goals try first | exact hg | exact (congrArg pursS s1).trans (ints_pure _) | (subst hA; simp [arS]; done) | (subst hA; simp [arS]; omega) | (subst hA; simp only [arS, rappS, List.length_append, List.length_take, List.length_drop, List.length_cons, List.length_nil]; omega)
        all_goals try rw [show ((m' : Nat) : Int) + 1 = ((m' + 1 : Nat) : Int) by omega] at hinv
        · rename_i hb hh
          have hb : kb = true := q2.symm.trans hb
          have hh : kh = who := q1.symm.trans hh
          rw [heldL, if_pos ⟨by rw [← hkb]; exact hb, by rw [← hkh]; exact hh⟩] at hinv
          refine ih (m' + 1) (acc ++ [i]) _ j z (by omega) (by omega) hz (by omega) s1 (by simp; omega) ?_
          rw [← hinv, List.append_assoc, hi]
          rfl
        · rename_i hb hh
          have hh : kh ≠ who := fun h => hh (q1.trans h)
          rw [heldL, if_neg (by rw [← hkh]; exact fun h => hh h.2)] at hinv
          exact ih (m' + 1) acc out j z (by omega) (by omega) hz (by omega) hout (by omega) hinv
        · rename_i hb
          have hb : kb = false := q2.symm.trans hb
          rw [heldL, if_neg (by rw [← hkb, hb]; simp)] at hinv
          exact ih (m' + 1) acc out j z (by omega) (by omega) hz (by omega) hout (by omega) hinv
      · rw [List.drop_eq_nil_of_le (by omega)] at hinv
        simp only [heldL, List.append_nil] at hinv
        refine W.step 80 fun hp => ?_
        cbv
        repeat' first | apply And.intro | (apply imC hA; intro) | (apply imN hA; intro) | (apply imI hA; intro) | (apply ndI hA; simp only [Cnd.holds])
        all_goals try simp (maxSteps := 10000000) only [nc, nc2, cmpR, Bool.not_true, Bool.not_false] at *
        all_goals try first | rfl | assumption | exact hp.1 | exact hp.2.1 | exact hp.2.2.1 | exact hp.2.2.2.1
        all_goals try (exfalso; first | omega | contradiction)
        rw [W.rr]; exact ⟨rfl, rfl, out, by rw [hout, hinv], rfl⟩
  cbv
  repeat' first | apply And.intro | (apply imC hA; intro) | (apply imN hA; intro) | (apply imI hA; intro) | (apply ndI hA; simp only [Cnd.holds])
  all_goals try simp (maxSteps := 10000000) only [nc, nc2, cmpR, Bool.not_true, Bool.not_false] at *
  all_goals try first | rfl | assumption | exact hp.1 | exact hp.2.1 | exact hp.2.2.1 | exact hp.2.2.2.1
  all_goals try (exfalso; first | omega | contradiction)
  refine W.call 80 (by rfl) (C_Len rows) (by first | rfl | (subst hA; simp [arS])) (by first | rfl | (subst hA; simp [arS])) ?_
  rintro _ _ _ hp ⟨rfl, rfl, k, hk, rfl⟩
  cbv
  repeat' first | apply And.intro | (apply imC hA; intro) | (apply imN hA; intro) | (apply imI hA; intro) | (apply ndI hA; simp only [Cnd.holds])
  all_goals try simp (maxSteps := 10000000) only [nc, nc2, cmpR, Bool.not_true, Bool.not_false] at *
  all_goals try first | rfl | assumption | exact hp.1 | exact hp.2.1 | exact hp.2.2.1 | exact hp.2.2.2.1
  all_goals try (exfalso; first | omega | contradiction)
  all_goals try (subst hA; rfl)
  exact loop _ 0 [] [] 0 k (Nat.lt_succ_self _) (by omega) (by omega) rfl rfl (by simp) (by simp)
theorem heldL_in (who : Int) : ∀ (ks : List Lk) (i j : Int), j ∈ heldL who ks i → i ≤ j ∧ j < i + ks.length
  | [], _, _, h => by simp [heldL] at h
  | k :: ks, i, j, h => by
    simp only [heldL] at h
    split at h
    · rcases List.mem_cons.1 h with rfl | h
      · simp; omega
      · have := heldL_in who ks (i + 1) j h
        simp; omega
    · have := heldL_in who ks (i + 1) j h
      simp; omega
theorem heldL_len (who : Int) : ∀ (ks : List Lk) (i : Int), (heldL who ks i).length ≤ ks.length
  | [], _ => Nat.le_refl _
  | k :: ks, i => by
    have := heldL_len who ks (i + 1)
    simp only [heldL]
    split <;> simp <;> omega

theorem igC {A : Ar} (hA : A = arS) {l : List (List AV)} {M : List Int} (hl : l = ints M) {i : Nat} (h : i < M.length) : l[i]? = some [.int .i64 (A.cI l i 0)] := by
  subst hA hl
  exact ints_get h
theorem igvC {A : Ar} (hA : A = arS) {l : List (List AV)} {M : List Int} (hl : l = ints M) {i : Nat} (h : i < M.length) : A.cI l i 0 = M[i] := by
  subst hA hl
  simp only [arS]
  rw [ints_cI, List.getD_eq_getElem?_getD, List.getElem?_eq_getElem h]
  rfl
theorem mxE {A : Ar} (hA : A = arS) (x y : Int) : A.mx x y = max x y := by subst hA; simp only [arS]; first | rfl | (split <;> omega) | omega

/-- The level. -/
def levL (K : List Lk) (base : Int) (l : List Int) : Int := l.foldl (fun b i => max b (lk K i.toNat).c) base

theorem C_Level (K : List Lk) (rows : List (List AV)) (hR : rows = K.map encL) (hn : K.length ≤ 1000) (who base : Int) : EC Try.prog G56 [rows] [.i who, .i base] fun x rs vs => x = 0 ∧ rs = [rows] ∧ ∃ v, v = levL K base (heldL who K 0) ∧ vs = [.i v] := by
  have hrl : rows.length = K.length := by rw [hR]; simp
  obtain ⟨A, hA⟩ : ∃ A, A = arS := ⟨_, rfl⟩
  refine Inst.enter (I := I56) hA mixed F56_at sg L56 80 rfl fun CE CK Dn EV RR W hp => ?_
  have loop : ∀ (O : List Int) (hOe : O = heldL who K 0) (hO : ∀ j ∈ O, 0 ≤ j ∧ j < K.length) (hOl : O.length ≤ 1000) (all : List (List AV)) (ha : all = ints O) (d m : Nat) (b i z : Int), O.length - m < d → m ≤ O.length → z = O.length → i = m → levL K b (O.drop m) = levL K base O → EV 7 [rows, all] [.i b, .i z, .i i] := by
    intro O hOe hO hOl all ha d
    have pa : pursS all = true := by rw [ha]; exact ints_pure O
    have hal : all.length = O.length := by rw [ha]; simp
    induction d with
    | zero => intro m b i z hd; omega
    | succ d ih =>
      intro m b i z hd hm hz hi hinv
      obtain ⟨j, hj⟩ : ∃ j : Int, j = i + 1 := ⟨_, rfl⟩
      have e1 : A.iop .add .i64 i 1 = j := (addC hA (by omega) (by omega)).trans (by omega)
      unfold Ar.iop at e1
      by_cases hmO : m < O.length
      · obtain ⟨v, hv⟩ : ∃ v, v = O[m] := ⟨_, rfl⟩
        have hv2 := hO v (by rw [hv]; exact List.getElem_mem hmO)
        have e2 : A.cI all (A.add 0 (A.tn i)) 0 = v := by
          have h1 : A.add 0 (A.tn i) = m := by subst hA; simp only [arS]; omega
          rw [h1, hv]; exact igvC hA ha hmO
        have hg : all[A.add 0 (A.tn i)]? = some [.int .i64 (A.cI all (A.add 0 (A.tn i)) 0)] := igC hA ha (by subst hA; simp only [arS]; omega)
        obtain ⟨q0, q1, q2⟩ := c_cI hA hR (m := v.toNat) (by omega)
        have hgr : rows[v.toNat]? = some [.int .i64 (A.cI rows v.toNat 0), .int .i64 (A.cI rows v.toNat 1), .bool (A.cB rows v.toNat 2)] := rgL hA hR (by omega)
        obtain ⟨w, hw⟩ : ∃ w, w = v.toNat := ⟨_, rfl⟩
        rw [← hw] at q0 hgr
        obtain ⟨kc, hkc⟩ : ∃ x, x = (lk K w).c := ⟨_, rfl⟩
        rw [← hkc] at q0
        obtain ⟨b', hb'⟩ : ∃ b', b' = max b kc := ⟨_, rfl⟩
        have e3 : A.mx b kc = b' := (mxE hA _ _).trans hb'.symm
        unfold Ar.cI Ar.add Ar.tn at e2
        unfold Ar.cI at q0
        unfold Ar.mx at e3
        rw [List.drop_eq_getElem_cons hmO, ← hv] at hinv
        have hinv2 : levL K b' (O.drop (m + 1)) = levL K base O := by
          rw [← hinv, hb', hkc, hw]; rfl
        refine W.step 80 fun hp => ?_
        cbv
        repeat' first | apply And.intro | (apply imC hA; intro) | (apply imN hA; intro) | (apply imI hA; intro) | (apply ndI hA; simp only [Cnd.holds])
        all_goals try simp (maxSteps := 10000000) only [nc, nc2, cmpR, Bool.not_true, Bool.not_false] at *
        all_goals try first | rfl | assumption | exact hp.1 | exact hp.2.1 | exact hp.2.2.1 | exact hp.2.2.2.1
        all_goals try (exfalso; first | omega | contradiction)
        all_goals try first | omega | exact hg | (subst hA; simp only [arS]; omega)
        simp only [e2]
        refine W.call 80 (by rfl) (C_at rows v) (by first | rfl | (subst hA; simp [arS])) (by first | rfl | (subst hA; simp [arS])) ?_
        rintro _ _ _ hp ⟨rfl, ⟨rfl, hi', rfl⟩ | ⟨rfl, h0, h1, m', hm', rfl⟩⟩
        · exfalso; omega
        obtain rfl : m' = w := by omega
        cbv
        repeat' first | apply And.intro | (apply imC hA; intro) | (apply imN hA; intro) | (apply imI hA; intro) | (apply ndI hA; simp only [Cnd.holds])
        all_goals try simp (maxSteps := 10000000) only [nc, nc2, cmpR, Bool.not_true, Bool.not_false] at *
        all_goals try first | rfl | assumption | exact hp.1 | exact hp.2.1 | exact hp.2.2.1 | exact hp.2.2.2.1
        all_goals try (exfalso; first | omega | contradiction)
        all_goals try simp only [e1, q0, e3]
        all_goals try exact hgr
        exact ih (m + 1) b' j z (by omega) (by omega) hz (by omega) hinv2
      · rw [List.drop_eq_nil_of_le (by omega)] at hinv
        refine W.step 80 fun hp => ?_
        cbv
        repeat' first | apply And.intro | (apply imC hA; intro) | (apply imN hA; intro) | (apply imI hA; intro) | (apply ndI hA; simp only [Cnd.holds])
        all_goals try simp (maxSteps := 10000000) only [nc, nc2, cmpR, Bool.not_true, Bool.not_false] at *
        all_goals try first | rfl | assumption | exact hp.1 | exact hp.2.1 | exact hp.2.2.1 | exact hp.2.2.2.1
        all_goals try (exfalso; first | omega | contradiction)
        rw [W.rr]; exact ⟨rfl, rfl, b, by rw [← hOe]; exact hinv, rfl⟩
  cbv
  repeat' first | apply And.intro | (apply imC hA; intro) | (apply imN hA; intro) | (apply imI hA; intro) | (apply ndI hA; simp only [Cnd.holds])
  all_goals try simp (maxSteps := 10000000) only [nc, nc2, cmpR, Bool.not_true, Bool.not_false] at *
  all_goals try first | rfl | assumption | exact hp.1 | exact hp.2.1 | exact hp.2.2.1 | exact hp.2.2.2.1
  all_goals try (exfalso; first | omega | contradiction)
  refine W.call 80 (by rfl) (C_Held K rows hR hn who) (by first | rfl | (subst hA; simp [arS])) (by first | rfl | (subst hA; simp [arS])) ?_
  rintro _ _ _ hp ⟨rfl, rfl, all, ha, rfl⟩
  cbv
  repeat' first | apply And.intro | (apply imC hA; intro) | (apply imN hA; intro) | (apply imI hA; intro) | (apply ndI hA; simp only [Cnd.holds])
  all_goals try simp (maxSteps := 10000000) only [nc, nc2, cmpR, Bool.not_true, Bool.not_false] at *
  all_goals try first | rfl | assumption | exact hp.1 | exact hp.2.1 | exact hp.2.2.1 | exact hp.2.2.2.1
  all_goals try (exfalso; first | omega | contradiction)
  exact loop _ rfl (fun j hj => by have := heldL_in who K 0 j hj; omega) (by have := heldL_len who K 0; omega) all ha _ 0 _ 0 _ (Nat.lt_succ_self _) (by omega) (by subst hA; simp only [arS]; rw [ha]; simp) rfl rfl

theorem C_New (C : List Int) (l : List (List AV)) (hl : l = ints C) (hn : C.length ≤ 1000) : EC Try.prog G36 [] [.r l] fun x rs vs => x = 0 ∧ vs = [] ∧ ∃ R, R = (C.map fun c => (⟨c, 0, false⟩ : Lk)).map encL ∧ rs = [R] := by
  obtain ⟨A, hA⟩ : ∃ A, A = arS := ⟨_, rfl⟩
  refine Inst.enter (I := I36) hA mixed F36_at sg L36 80 rfl fun CE CK Dn EV RR W hp => ?_
  have pl : pursS l = true := by rw [hl]; exact ints_pure C
  have hll : l.length = C.length := by rw [hl]; simp
  have loop : ∀ (d m : Nat) (R : List (List AV)) (i z : Int), C.length - m < d → m ≤ C.length → z = C.length → i = m → R = ((C.take m).map fun c => (⟨c, 0, false⟩ : Lk)).map encL → EV 9 [R] [.r l, .i z, .i i] := by
    intro d
    induction d with
    | zero => intro m R i z hd; omega
    | succ d ih =>
      intro m R i z hd hm hz hi hR
      obtain ⟨j, hj⟩ : ∃ j : Int, j = i + 1 := ⟨_, rfl⟩
      have e1 : A.iop .add .i64 i 1 = j := (addC hA (by omega) (by omega)).trans (by omega)
      unfold Ar.iop at e1
      have hRl : R.length = m := by rw [hR]; simp; omega
      have pR : pursS R = true := by rw [hR]; exact encL_pure _
      by_cases hmC : m < C.length
      · obtain ⟨v, hv⟩ : ∃ v, v = C[m] := ⟨_, rfl⟩
        have him : A.tn i = m := by subst hA; simp only [arS]; omega
        have e2 : A.cI l (A.tn i) 0 = v := by rw [him, hv]; exact igvC hA hl hmC
        have hg : l[A.tn i]? = some [.int .i64 (A.cI l (A.tn i) 0)] := igC hA hl (by omega)
        have s1 : A.rapp R (A.rlen R) [[.int .i64 v, .int .i64 0, .bool false]] = ((C.take (m + 1)).map fun c => (⟨c, 0, false⟩ : Lk)).map encL := by
          rw [hR]
          subst hA
          simp only [arS]
          rw [rappS_end, List.take_add_one, List.getElem?_eq_getElem hmC, ← hv]
          simp [encL]
        unfold Ar.cI Ar.tn at e2
        refine W.step 80 fun hp => ?_
        cbv
        repeat' first | apply And.intro | (apply imC hA; intro) | (apply imN hA; intro) | (apply imI hA; intro) | (apply ndI hA; simp only [Cnd.holds])
        all_goals try simp (maxSteps := 10000000) only [nc, nc2, cmpR, Bool.not_true, Bool.not_false] at *
        all_goals try first | rfl | assumption | exact hp.1 | exact hp.2.1 | exact hp.2.2.1 | exact hp.2.2.2.1
        all_goals try (exfalso; first | omega | contradiction)
        all_goals try first | omega | exact hg
        all_goals try simp only [e1, e2]
        all_goals try first | exact (congrArg pursS s1).trans (encL_pure _) | (subst hA; simp [arS]; done) | (subst hA; simp [arS]; omega) | (subst hA; simp only [arS, rappS, List.length_append, List.length_take, List.length_drop, List.length_cons, List.length_nil]; omega)
        exact ih (m + 1) _ j z (by omega) (by omega) hz (by omega) s1
      · obtain rfl : m = C.length := by omega
        rw [List.take_length] at hR
        refine W.step 80 fun hp => ?_
        cbv
        repeat' first | apply And.intro | (apply imC hA; intro) | (apply imN hA; intro) | (apply imI hA; intro) | (apply ndI hA; simp only [Cnd.holds])
        all_goals try simp (maxSteps := 10000000) only [nc, nc2, cmpR, Bool.not_true, Bool.not_false] at *
        all_goals try first | rfl | assumption | exact hp.1 | exact hp.2.1 | exact hp.2.2.1 | exact hp.2.2.2.1
        all_goals try (exfalso; first | omega | contradiction)
        rw [W.rr]; exact ⟨rfl, rfl, R, hR, rfl⟩
  cbv
  repeat' first | apply And.intro | (apply imC hA; intro) | (apply imN hA; intro) | (apply imI hA; intro) | (apply ndI hA; simp only [Cnd.holds])
  all_goals try simp (maxSteps := 10000000) only [nc, nc2, cmpR, Bool.not_true, Bool.not_false] at *
  all_goals try first | rfl | assumption | exact hp.1 | exact hp.2.1 | exact hp.2.2.1 | exact hp.2.2.2.1
  all_goals try (exfalso; first | omega | contradiction)
  all_goals try (subst hA; rfl)
  exact loop _ 0 [] 0 _ (Nat.lt_succ_self _) (by omega) (by subst hA; simp only [arS]; omega) rfl rfl

/-- What is left when somebody has freed all. -/
def freeK (who : Int) (K : List Lk) : List Lk := K.map fun k => if k.b = true ∧ k.h = who then ⟨k.c, 0, false⟩ else k

theorem heldL_mem (who : Int) : ∀ (ks : List Lk) (i : Int) (a : Nat), i + a ∈ heldL who ks i ↔ a < ks.length ∧ (lk ks a).b = true ∧ (lk ks a).h = who
  | [], i, a => by simp [heldL]
  | k :: ks, i, 0 => by
    have hn : i ∉ heldL who ks (i + 1) := fun h => by have := heldL_in who ks (i + 1) i h; omega
    have h0 : lk (k :: ks) 0 = k := rfl
    rw [h0]
    simp only [heldL]
    split
    · rename_i h; simp [h]
    · rename_i h; simp [hn]; exact fun hb hh => h ⟨hb, hh⟩
  | k :: ks, i, a + 1 => by
    have ih := heldL_mem who ks (i + 1) a
    have h0 : lk (k :: ks) (a + 1) = lk ks a := rfl
    have e : i + ((a + 1 : Nat) : Int) = i + 1 + a := by omega
    rw [h0, e, List.length_cons, show a + 1 < ks.length + 1 ↔ a < ks.length by omega, ← ih]
    simp only [heldL]
    split
    · rw [List.mem_cons]
      exact ⟨fun h => h.resolve_left (by omega), .inr⟩
    · exact Iff.rfl
theorem heldL_pw (who : Int) : ∀ (ks : List Lk) (i : Int), (heldL who ks i).Pairwise (· < ·)
  | [], _ => List.Pairwise.nil
  | k :: ks, i => by
    have ih := heldL_pw who ks (i + 1)
    simp only [heldL]
    split
    · exact List.pairwise_cons.2 ⟨fun j hj => by have := heldL_in who ks (i + 1) j hj; omega, ih⟩
    · exact ih
theorem lk_ext {K M : List Lk} (hl : K.length = M.length) (h : ∀ a, a < K.length → lk K a = lk M a) : K = M := by
  apply List.ext_getElem hl
  intro a h1 h2
  rw [← lk_get h1, ← lk_get h2]
  exact h a h1
theorem lk_set_ne {K : List Lk} {i a : Nat} (h : i ≠ a) (k : Lk) : lk (K.set i k) a = lk K a := by
  unfold lk
  rw [List.getD_eq_getElem?_getD, List.getD_eq_getElem?_getD, List.getElem?_set_ne h]

end Go.Ab
