import Derived.Test.YtlakbkdhdgicfaaGreatQVA
import Derived.Test.YtlakbkdhdgicfaaGreatQVB
import Derived.Test.YtlakbkdhdgicfaaGreatQVC
import Derived.Test.YtlakbkdhdgicfaaGreatLayE
namespace Go.Ab
open Go Go.Proofs
set_option linter.unusedVariables false
set_option linter.unusedSimpArgs false
set_option maxRecDepth 100000
set_option maxHeartbeats 2000000
theorem iopC {A : Ar} (hA : A = arS) (x y : Int) : A.iop .add .i64 x y = IntKind.i64.wrap (x + y) := by subst hA; rfl
theorem addC {A : Ar} (hA : A = arS) {i : Int} (h0 : -10 ≤ i) (h1 : i ≤ 1000000000) : A.iop .add .i64 i 1 = i + 1 := by
 rw [iopC hA, wrap_i64 (by omega) (by omega)]
structure Lk where
 c : Int
 h : Int
 b : Bool
 deriving Inhabited
def encL (k : Lk) : List AV := [.int .i64 k.c, .int .i64 k.h, .bool k.b]
theorem encL_pure (K : List Lk) : pursS (K.map encL) = true := pursS_map _ (fun _ => rfl) K
def lk (K : List Lk) (i : Nat) : Lk := K.getD i default
theorem lk_get {K : List Lk} {i : Nat} (h : i < K.length) : lk K i = K[i] := by
 unfold lk; rw [List.getD_eq_getElem?_getD, List.getElem?_eq_getElem h]; rfl
theorem lk_cI {K : List Lk} {i : Nat} (h : i < K.length) : cIS (K.map encL) i 0 = (lk K i).c ∧ cIS (K.map encL) i 1 = (lk K i).h ∧ cBS (K.map encL) i 2 = (lk K i).b := by
 simp only [cIS, cBS, cellS_map, lk_get h, List.getElem?_eq_getElem h]
 exact ⟨rfl, rfl, rfl⟩
theorem rgL {A : Ar} (hA : A = arS) {rows : List (List AV)} {K : List Lk} (hR : rows = K.map encL) {i : Nat} (h : i < K.length) : rows[i]? = some [.int .i64 (A.cI rows i 0), .int .i64 (A.cI rows i 1), .bool (A.cB rows i 2)] := by
 subst hA hR
 obtain ⟨h0, h1, h2⟩ := lk_cI h
 simp only [arS]
 rw [h0, h1, h2, List.getElem?_map, List.getElem?_eq_getElem h, lk_get h]
 rfl
theorem C_Len (rows : List (List AV)) : EC Tryz.prog G201 [rows] [] fun x rs vs => x = 0 ∧ rs = [rows] ∧ ∃ k : Int, k = rows.length ∧ vs = [.i k] := by
 obtain ⟨A, hA⟩ : ∃ A, A = arS := ⟨_, rfl⟩
 refine Inst.enter (I := I201) hA mixed F201_at sg L201 80 rfl fun CE CK Dn EV RR W hp => ?_
 cbv
 repeat' first | apply And.intro | (apply imC hA; intro) | (apply imN hA; intro) | (apply imI hA; intro) | (apply ndI hA; simp only [Cnd.holds])
 all_goals try simp (maxSteps := 10000000) only [nc, nc2, cmpR, Bool.not_true, Bool.not_false] at *
 all_goals try first | rfl | assumption | exact hp.1 | exact hp.2.1 | exact hp.2.2.1 | exact hp.2.2.2.1
 all_goals try (exfalso; first | omega | contradiction | simp_all; done)
 rw [W.rr]; exact ⟨rfl, rfl, _, by subst hA; rfl, rfl⟩
theorem C_at (rows : List (List AV)) (i : Int) : EC Tryz.prog G177 [rows] [.i i] fun x rs vs => rs = [rows] ∧ ((x = 0 ∧ (i < 0 ∨ rows.length ≤ i) ∧ vs = []) ∨ (x = 1 ∧ 0 ≤ i ∧ i < rows.length ∧ ∃ m : Nat, m = i.toNat ∧ vs = [.n m])) := by
 obtain ⟨A, hA⟩ : ∃ A, A = arS := ⟨_, rfl⟩
 refine Inst.enter (I := I177) hA mixed F177_at sg L177 80 rfl fun CE CK Dn EV RR W hp => ?_
 cbv
 repeat' first | apply And.intro | (apply imC hA; intro) | (apply imN hA; intro) | (apply imI hA; intro) | (apply ndI hA; simp only [Cnd.holds])
 all_goals try simp (maxSteps := 10000000) only [nc, nc2, cmpR, Bool.not_true, Bool.not_false] at *
 all_goals try first | rfl | assumption | exact hp.1 | exact hp.2.1 | exact hp.2.2.1 | exact hp.2.2.2.1
 all_goals try (exfalso; first | omega | contradiction | simp_all; done)
 ·rename_i h0
  refine W.call 80 (by rfl) (C_Len rows) (by first | rfl | (subst hA; simp [arS])) (by first | rfl | (subst hA; simp [arS])) ?_
  rintro _ _ _ hp ⟨rfl, rfl, k, hk, rfl⟩
  cbv
  repeat' first | apply And.intro | (apply imC hA; intro) | (apply imN hA; intro) | (apply imI hA; intro) | (apply ndI hA; simp only [Cnd.holds])
  all_goals try simp (maxSteps := 10000000) only [nc, nc2, cmpR, Bool.not_true, Bool.not_false] at *
  all_goals try first | rfl | assumption | exact hp.1 | exact hp.2.1 | exact hp.2.2.1 | exact hp.2.2.2.1
  all_goals try (exfalso; first | omega | contradiction)
  all_goals try first | omega | (subst hA; simp only [arS]; omega)
  ·rw [W.rr]; exact ⟨rfl, .inl ⟨rfl, .inr (by omega), rfl⟩⟩
  ·have hl : i < k := by assumption
   rw [W.rr]
   exact ⟨rfl, .inr ⟨rfl, h0, by omega, _, by subst hA; rfl, rfl⟩⟩
 ·rename_i h0
  rw [W.rr]; exact ⟨rfl, .inl ⟨rfl, .inl h0, rfl⟩⟩
theorem set_enc {A : Ar} (hA : A = arS) {rows : List (List AV)} {K : List Lk} (hR : rows = K.map encL) (m : Nat) (k : Lk) : A.rset rows m [.int .i64 k.c, .int .i64 k.h, .bool k.b] = (K.set m k).map encL := by
 subst hA hR
 simp only [arS, List.map_set]
 rfl
theorem lk_set {K : List Lk} {i : Nat} (h : i < K.length) (k : Lk) : lk (K.set i k) i = k := by
 rw [lk_get (by simpa using h)]; simp
theorem c_cI {A : Ar} (hA : A = arS) {rows : List (List AV)} {K : List Lk} (hR : rows = K.map encL) {m : Nat} (h : m < K.length) : A.cI rows m 0 = (lk K m).c ∧ A.cI rows m 1 = (lk K m).h ∧ A.cB rows m 2 = (lk K m).b := by
 subst hA hR
 exact lk_cI h
theorem C_Lock (K : List Lk) (rows : List (List AV)) (hR : rows = K.map encL) (i who : Int) : EC Tryz.prog G163 [rows] [.i i, .i who] fun x rs vs => x = 0 ∧ ∃ R e, R.length = rows.length ∧ rs = [R] ∧ vs = [.i e] ∧ (if i < 0 ∨ K.length ≤ i then e = 6 ∧ R = rows else if (lk K i.toNat).b = true then e = 10 ∧ R = rows else e = 0 ∧ R = (K.set i.toNat ⟨(lk K i.toNat).c, who, true⟩).map encL) := by
 have hrl : rows.length = K.length := by rw [hR]; simp
 obtain ⟨A, hA⟩ : ∃ A, A = arS := ⟨_, rfl⟩
 refine Inst.enter (I := I163) hA mixed F163_at sg L163 80 rfl fun CE CK Dn EV RR W hp => ?_
 cbv
 repeat' first | apply And.intro | (apply imC hA; intro) | (apply imN hA; intro) | (apply imI hA; intro) | (apply ndI hA; simp only [Cnd.holds])
 all_goals try simp (maxSteps := 10000000) only [nc, nc2, cmpR, Bool.not_true, Bool.not_false] at *
 all_goals try first | rfl | assumption | exact hp.1 | exact hp.2.1 | exact hp.2.2.1 | exact hp.2.2.2.1
 all_goals try (exfalso; first | omega | contradiction | simp_all; done)
 refine W.call 80 (by rfl) (C_at rows i) (by first | rfl | (subst hA; simp [arS])) (by first | rfl | (subst hA; simp [arS])) ?_
 rintro _ _ _ hp ⟨rfl, ⟨rfl, hi, rfl⟩ | ⟨rfl, h0, h1, m, hm, rfl⟩⟩
 ·cbv
  repeat' first | apply And.intro | (apply imC hA; intro) | (apply imN hA; intro) | (apply imI hA; intro) | (apply ndI hA; simp only [Cnd.holds])
  all_goals try simp (maxSteps := 10000000) only [nc, nc2, cmpR, Bool.not_true, Bool.not_false] at *
  all_goals try first | rfl | assumption | exact hp.1 | exact hp.2.1 | exact hp.2.2.1 | exact hp.2.2.2.1
  all_goals try (exfalso; first | omega | contradiction)
  rw [W.rr]; exact ⟨rfl, rows, 6, rfl, rfl, rfl, by rw [if_pos (by omega)]; exact ⟨rfl, rfl⟩⟩
 ·have hmK : m < K.length := by omega
  obtain ⟨q0, q1, q2⟩ := c_cI hA hR hmK
  obtain ⟨kc, hkc⟩ : ∃ x, x = (lk K m).c := ⟨_, rfl⟩
  obtain ⟨kh, hkh⟩ : ∃ x, x = (lk K m).h := ⟨_, rfl⟩
  obtain ⟨kb, hkb⟩ : ∃ x, x = (lk K m).b := ⟨_, rfl⟩
  rw [← hkc] at q0
  rw [← hkh] at q1
  rw [← hkb] at q2
  have hg : rows[m]? = some [.int .i64 (A.cI rows m 0), .int .i64 (A.cI rows m 1), .bool (A.cB rows m 2)] := rgL hA hR hmK
  obtain ⟨r1, hr1⟩ : ∃ r1, r1 = (K.set m ⟨kc, who, kb⟩).map encL := ⟨_, rfl⟩
  obtain ⟨r2, hr2⟩ : ∃ r2, r2 = (K.set m ⟨kc, who, true⟩).map encL := ⟨_, rfl⟩
  have s1 : A.rset rows m [.int .i64 kc, .int .i64 who, .bool kb] = r1 := (set_enc hA hR m ⟨kc, who, kb⟩).trans hr1.symm
  have s2 : A.rset r1 m [.int .i64 kc, .int .i64 who, .bool true] = r2 := (set_enc hA hr1 m ⟨kc, who, true⟩).trans (by rw [List.set_set]; exact hr2.symm)
  obtain ⟨w0, w1, w2⟩ := c_cI hA hr1 (m := m) (by simpa using hmK)
  rw [lk_set hmK] at w0 w1 w2
  have hg1 : r1[m]? = some [.int .i64 (A.cI r1 m 0), .int .i64 (A.cI r1 m 1), .bool (A.cB r1 m 2)] := rgL hA hr1 (by simpa using hmK)
  rw [w0, w1, w2] at hg1
  rw [q0, q1, q2] at hg
  have hl1 : r1.length = rows.length := by rw [hr1, hR]; simp
  have hl2 : r2.length = rows.length := by rw [hr2, hR]; simp
  have p2 : pursS r2 = true := by rw [hr2]; exact encL_pure _
  simp only at w0 w1 w2
  unfold Ar.cI at q0 q1 w0 w1
  unfold Ar.cB at q2 w2
  unfold Ar.rset at s1 s2
  cbv
  repeat' first | apply And.intro | (apply imC hA; intro) | (apply imN hA; intro) | (apply imI hA; intro) | (apply ndI hA; simp only [Cnd.holds])
  all_goals try simp (maxSteps := 10000000) only [nc, nc2, cmpR, Bool.not_true, Bool.not_false] at *
  all_goals try first | rfl | assumption | exact hp.1 | exact hp.2.1 | exact hp.2.2.1 | exact hp.2.2.2.1
  all_goals try (exfalso; first | omega | contradiction)
  all_goals try simp only [q0, q1, q2, s1, w0, w1, w2, s2]
  all_goals try first | exact hg | exact hg1 | exact p2 | (subst hA; simp only [arS]; omega)
  ·rename_i hb
   have hb : kb = true := q2.symm.trans hb
   rw [W.rr]
   refine ⟨rfl, rows, 10, rfl, rfl, rfl, ?_⟩
   rw [if_neg (by omega), if_pos (by rw [← hm, ← hkb]; exact hb)]
   exact ⟨rfl, rfl⟩
  ·rename_i hb
   have hb : kb = false := q2.symm.trans hb
   rw [W.rr]
   refine ⟨rfl, r2, 0, hl2, rfl, rfl, ?_⟩
   rw [if_neg (by omega), if_neg (by rw [← hm, ← hkb, hb]; simp), ← hm, ← hkc]
   exact ⟨rfl, hr2⟩
theorem C_Unlock (K : List Lk) (rows : List (List AV)) (hR : rows = K.map encL) (i who : Int) : EC Tryz.prog G164 [rows] [.i i, .i who] fun x rs vs => x = 0 ∧ ∃ R e, R.length = rows.length ∧ rs = [R] ∧ vs = [.i e] ∧ (if i < 0 ∨ K.length ≤ i then e = 6 ∧ R = rows else if (lk K i.toNat).b = false ∨ (lk K i.toNat).h ≠ who then e = 8 ∧ R = rows else e = 0 ∧ R = (K.set i.toNat ⟨(lk K i.toNat).c, 0, false⟩).map encL) := by
 have hrl : rows.length = K.length := by rw [hR]; simp
 obtain ⟨A, hA⟩ : ∃ A, A = arS := ⟨_, rfl⟩
 refine Inst.enter (I := I164) hA mixed F164_at sg L164 80 rfl fun CE CK Dn EV RR W hp => ?_
 cbv
 repeat' first | apply And.intro | (apply imC hA; intro) | (apply imN hA; intro) | (apply imI hA; intro) | (apply ndI hA; simp only [Cnd.holds])
 all_goals try simp (maxSteps := 10000000) only [nc, nc2, cmpR, Bool.not_true, Bool.not_false] at *
 all_goals try first | rfl | assumption | exact hp.1 | exact hp.2.1 | exact hp.2.2.1 | exact hp.2.2.2.1
 all_goals try (exfalso; first | omega | contradiction | simp_all; done)
 refine W.call 80 (by rfl) (C_at rows i) (by first | rfl | (subst hA; simp [arS])) (by first | rfl | (subst hA; simp [arS])) ?_
 rintro _ _ _ hp ⟨rfl, ⟨rfl, hi, rfl⟩ | ⟨rfl, h0, h1, m, hm, rfl⟩⟩
 ·cbv
  repeat' first | apply And.intro | (apply imC hA; intro) | (apply imN hA; intro) | (apply imI hA; intro) | (apply ndI hA; simp only [Cnd.holds])
  all_goals try simp (maxSteps := 10000000) only [nc, nc2, cmpR, Bool.not_true, Bool.not_false] at *
  all_goals try first | rfl | assumption | exact hp.1 | exact hp.2.1 | exact hp.2.2.1 | exact hp.2.2.2.1
  all_goals try (exfalso; first | omega | contradiction)
  rw [W.rr]; exact ⟨rfl, rows, 6, rfl, rfl, rfl, by rw [if_pos (by omega)]; exact ⟨rfl, rfl⟩⟩
 ·have hmK : m < K.length := by omega
  obtain ⟨q0, q1, q2⟩ := c_cI hA hR hmK
  obtain ⟨kc, hkc⟩ : ∃ x, x = (lk K m).c := ⟨_, rfl⟩
  obtain ⟨kh, hkh⟩ : ∃ x, x = (lk K m).h := ⟨_, rfl⟩
  obtain ⟨kb, hkb⟩ : ∃ x, x = (lk K m).b := ⟨_, rfl⟩
  rw [← hkc] at q0
  rw [← hkh] at q1
  rw [← hkb] at q2
  have hg : rows[m]? = some [.int .i64 (A.cI rows m 0), .int .i64 (A.cI rows m 1), .bool (A.cB rows m 2)] := rgL hA hR hmK
  obtain ⟨r1, hr1⟩ : ∃ r1, r1 = (K.set m ⟨kc, 0, kb⟩).map encL := ⟨_, rfl⟩
  obtain ⟨r2, hr2⟩ : ∃ r2, r2 = (K.set m ⟨kc, 0, false⟩).map encL := ⟨_, rfl⟩
  have s1 : A.rset rows m [.int .i64 kc, .int .i64 0, .bool kb] = r1 := (set_enc hA hR m ⟨kc, 0, kb⟩).trans hr1.symm
  have s2 : A.rset r1 m [.int .i64 kc, .int .i64 0, .bool false] = r2 := (set_enc hA hr1 m ⟨kc, 0, false⟩).trans (by rw [List.set_set]; exact hr2.symm)
  obtain ⟨w0, w1, w2⟩ := c_cI hA hr1 (m := m) (by simpa using hmK)
  rw [lk_set hmK] at w0 w1 w2
  have hg1 : r1[m]? = some [.int .i64 (A.cI r1 m 0), .int .i64 (A.cI r1 m 1), .bool (A.cB r1 m 2)] := rgL hA hr1 (by simpa using hmK)
  rw [w0, w1, w2] at hg1
  rw [q0, q1, q2] at hg
  have hl1 : r1.length = rows.length := by rw [hr1, hR]; simp
  have hl2 : r2.length = rows.length := by rw [hr2, hR]; simp
  have p2 : pursS r2 = true := by rw [hr2]; exact encL_pure _
  simp only at w0 w1 w2
  unfold Ar.cI at q0 q1 w0 w1
  unfold Ar.cB at q2 w2
  unfold Ar.rset at s1 s2
  cbv
  repeat' first | apply And.intro | (apply imC hA; intro) | (apply imN hA; intro) | (apply imI hA; intro) | (apply ndI hA; simp only [Cnd.holds])
  all_goals try simp (maxSteps := 10000000) only [nc, nc2, cmpR, Bool.not_true, Bool.not_false] at *
  all_goals try first | rfl | assumption | exact hp.1 | exact hp.2.1 | exact hp.2.2.1 | exact hp.2.2.2.1
  all_goals try (exfalso; first | omega | contradiction)
  all_goals try simp only [q0, q1, q2, s1, w0, w1, w2, s2]
  all_goals try first | exact hg | exact hg1 | exact p2 | (subst hA; simp only [arS]; omega)
  ·rename_i hh hb
   have hh : kh ≠ who := fun h => hh (q1.trans h)
   rw [W.rr]
   refine ⟨rfl, rows, 8, rfl, rfl, rfl, ?_⟩
   rw [if_neg (by omega), if_pos (.inr (by rw [← hm, ← hkh]; exact hh))]
   exact ⟨rfl, rfl⟩
  ·rename_i hh hb
   have hh : kh = who := q1.symm.trans hh
   have hb : kb = true := q2.symm.trans hb
   rw [W.rr]
   refine ⟨rfl, r2, 0, hl2, rfl, rfl, ?_⟩
   rw [if_neg (by omega), if_neg (by rw [← hm, ← hkb, ← hkh, hb, hh]; simp), ← hm, ← hkc]
   exact ⟨rfl, hr2⟩
  ·rename_i hb
   have hb : kb = false := q2.symm.trans hb
   rw [W.rr]
   refine ⟨rfl, rows, 8, rfl, rfl, rfl, ?_⟩
   rw [if_neg (by omega), if_pos (.inl (by rw [← hm, ← hkb]; exact hb))]
   exact ⟨rfl, rfl⟩
def heldL (who : Int) : List Lk → Int → List Int
 | [], _ => []
 | k :: ks, i => if k.b = true ∧ k.h = who then i :: heldL who ks (i + 1) else heldL who ks (i + 1)
theorem C_Held (K : List Lk) (rows : List (List AV)) (hR : rows = K.map encL) (hn : K.length ≤ 1000) (who : Int) : EC Tryz.prog G200 [rows] [.i who] fun x rs vs => x = 0 ∧ vs = [] ∧ ∃ O, O = ints (heldL who K 0) ∧ rs = [rows, O] := by
 have hrl : rows.length = K.length := by rw [hR]; simp
 refine E200 fun _ EV V => (C_Len rows).mono ?_
 have loop : ∀ (d m : Nat) (acc : List Int), K.length - m < d → m ≤ K.length → acc.length ≤ m → acc ++ heldL who (K.drop m) m = heldL who K 0 → EV 9 [rows, ints acc] [.i who, .i (K.length : Int), .i (m : Int)] := by
  intro d
  induction d with
  | zero => intro m acc hd; omega
  | succ d ih =>
   intro m acc hd hm hal hinv
   refine V.p9 fun _ _ => ⟨fun hlt => ?_, fun hge => ?_⟩
   ·have hmK : m < K.length := by omega
    obtain ⟨q0, q1, q2⟩ := lk_cI hmK
    rw [← hR] at q0 q1 q2
    have hg := rgL (A := arS) rfl hR hmK
    rw [List.drop_eq_getElem_cons hmK, ← lk_get hmK] at hinv
    refine (C_at rows m).mono ?_
    rintro _ _ _ ⟨rfl, ⟨rfl, hi', rfl⟩ | ⟨rfl, h0, h1, m', hm', rfl⟩⟩
    ·exfalso; omega
    obtain rfl : m' = m := by omega
    refine .inr ⟨rfl, _, _, rfl, rfl, hg, fun hb => ⟨hg, fun hh => ⟨by simp; omega, by simp; omega, ?_⟩, fun hh => ?_⟩, fun hb => ?_⟩
    ·rw [heldL, if_pos ⟨q2.symm.trans hb, q1.symm.trans hh⟩, show ((m' : Nat) : Int) + 1 = ((m' + 1 : Nat) : Int) by omega] at hinv
     rw [wrap64 (by omega) (by omega), show ((m' : Nat) : Int) + 1 = ((m' + 1 : Nat) : Int) by omega]
     show EV 9 [rows, ints acc ++ [[.int .i64 (m' : Int)]]] _
     rw [ints_append]
     refine ih (m' + 1) _ (by omega) (by omega) (by simp; omega) ?_
     rw [← hinv, List.append_assoc]
     rfl
    ·rw [heldL, if_neg (fun h => hh (q1.trans h.2)), show ((m' : Nat) : Int) + 1 = ((m' + 1 : Nat) : Int) by omega] at hinv
     rw [wrap64 (by omega) (by omega), show ((m' : Nat) : Int) + 1 = ((m' + 1 : Nat) : Int) by omega]
     exact ih (m' + 1) acc (by omega) (by omega) (by omega) hinv
    ·rw [heldL, if_neg (by rw [← q2, hb]; simp), show ((m' : Nat) : Int) + 1 = ((m' + 1 : Nat) : Int) by omega] at hinv
     rw [wrap64 (by omega) (by omega), show ((m' : Nat) : Int) + 1 = ((m' + 1 : Nat) : Int) by omega]
     exact ih (m' + 1) acc (by omega) (by omega) (by omega) hinv
   ·rw [List.drop_eq_nil_of_le (by omega)] at hinv
    simp only [heldL, List.append_nil] at hinv
    exact ⟨rfl, rfl, _, by rw [hinv], rfl⟩
 rintro _ _ _ ⟨rfl, rfl, k, hk, rfl⟩
 obtain rfl : k = (K.length : Int) := by omega
 exact ⟨rfl, _, _, rfl, rfl, loop _ 0 [] (Nat.lt_succ_self _) (by omega) (by simp) (by simp)⟩
theorem heldL_in (who : Int) : ∀ (ks : List Lk) (i j : Int), j ∈ heldL who ks i → i ≤ j ∧ j < i + ks.length
 | [], _, _, h => by simp [heldL] at h
 | k :: ks, i, j, h => by
  simp only [heldL] at h
  split at h
  ·rcases List.mem_cons.1 h with rfl | h
   ·simp; omega
   ·have := heldL_in who ks (i + 1) j h
    simp; omega
  ·have := heldL_in who ks (i + 1) j h
   simp; omega
theorem heldL_len (who : Int) : ∀ (ks : List Lk) (i : Int), (heldL who ks i).length ≤ ks.length
 | [], _ => Nat.le_refl _
 | k :: ks, i => by
  have := heldL_len who ks (i + 1)
  simp only [heldL]
  split <;> simp <;> omega
theorem igC {A : Ar} (hA : A = arS) {l : List (List AV)} {M : List Int} (hl : l = ints M) {i : Nat} (h : i < M.length) : l[i]? = some [.int .i64 (A.cI l i 0)] := by
 subst hA hl
 exact ints_get h
theorem igvC {A : Ar} (hA : A = arS) {l : List (List AV)} {M : List Int} (hl : l = ints M) {i : Nat} (h : i < M.length) : A.cI l i 0 = M[i] := by
 subst hA hl
 simp only [arS]
 rw [ints_cI, List.getD_eq_getElem?_getD, List.getElem?_eq_getElem h]
 rfl
theorem mxE {A : Ar} (hA : A = arS) (x y : Int) : A.mx x y = max x y := by subst hA; simp only [arS]; first | rfl | (split <;> omega) | omega
def levL (K : List Lk) (base : Int) (l : List Int) : Int := l.foldl (fun b i => max b (lk K i.toNat).c) base
theorem C_Level (K : List Lk) (rows : List (List AV)) (hR : rows = K.map encL) (hn : K.length ≤ 1000) (who base : Int) : EC Tryz.prog G176 [rows] [.i who, .i base] fun x rs vs => x = 0 ∧ rs = [rows] ∧ ∃ v, v = levL K base (heldL who K 0) ∧ vs = [.i v] := by
 have hrl : rows.length = K.length := by rw [hR]; simp
 obtain ⟨A, hA⟩ : ∃ A, A = arS := ⟨_, rfl⟩
 refine Inst.enter (I := I176) hA mixed F176_at sg L176 80 rfl fun CE CK Dn EV RR W hp => ?_
 have loop : ∀ (O : List Int) (hOe : O = heldL who K 0) (hO : ∀ j ∈ O, 0 ≤ j ∧ j < K.length) (hOl : O.length ≤ 1000) (all : List (List AV)) (ha : all = ints O) (d m : Nat) (b i z : Int), O.length - m < d → m ≤ O.length → z = O.length → i = m → levL K b (O.drop m) = levL K base O → EV 7 [rows, all] [.i b, .i z, .i i] := by
  intro O hOe hO hOl all ha d
  have pa : pursS all = true := by rw [ha]; exact ints_pure O
  have hal : all.length = O.length := by rw [ha]; simp
  induction d with
  | zero => intro m b i z hd; omega
  | succ d ih =>
   intro m b i z hd hm hz hi hinv
   obtain ⟨j, hj⟩ : ∃ j : Int, j = i + 1 := ⟨_, rfl⟩
   have e1 : A.iop .add .i64 i 1 = j := (addC hA (by omega) (by omega)).trans (by omega)
   unfold Ar.iop at e1
   by_cases hmO : m < O.length
   ·obtain ⟨v, hv⟩ : ∃ v, v = O[m] := ⟨_, rfl⟩
    have hv2 := hO v (by rw [hv]; exact List.getElem_mem hmO)
    have e2 : A.cI all (A.adz 0 (A.tn i)) 0 = v := by
     have h1 : A.adz 0 (A.tn i) = m := by subst hA; simp only [arS, adzS]; omega
     rw [h1, hv]; exact igvC hA ha hmO
    have hg : all[A.adz 0 (A.tn i)]? = some [.int .i64 (A.cI all (A.adz 0 (A.tn i)) 0)] := igC hA ha (by subst hA; simp only [arS, adzS]; omega)
    obtain ⟨q0, q1, q2⟩ := c_cI hA hR (m := v.toNat) (by omega)
    have hgr : rows[v.toNat]? = some [.int .i64 (A.cI rows v.toNat 0), .int .i64 (A.cI rows v.toNat 1), .bool (A.cB rows v.toNat 2)] := rgL hA hR (by omega)
    obtain ⟨w, hw⟩ : ∃ w, w = v.toNat := ⟨_, rfl⟩
    rw [← hw] at q0 hgr
    obtain ⟨kc, hkc⟩ : ∃ x, x = (lk K w).c := ⟨_, rfl⟩
    rw [← hkc] at q0
    obtain ⟨b', hb'⟩ : ∃ b', b' = max b kc := ⟨_, rfl⟩
    have e3 : A.mx b kc = b' := (mxE hA _ _).trans hb'.symm
    unfold Ar.cI Ar.adz Ar.tn at e2
    unfold Ar.cI at q0
    unfold Ar.mx at e3
    rw [List.drop_eq_getElem_cons hmO, ← hv] at hinv
    have hinv2 : levL K b' (O.drop (m + 1)) = levL K base O := by
     rw [← hinv, hb', hkc, hw]; rfl
    refine W.step 80 fun hp => ?_
    cbv
    repeat' first | apply And.intro | (apply imC hA; intro) | (apply imN hA; intro) | (apply imI hA; intro) | (apply ndI hA; simp only [Cnd.holds])
    all_goals try simp (maxSteps := 10000000) only [nc, nc2, cmpR, Bool.not_true, Bool.not_false] at *
    all_goals try first | rfl | assumption | exact hp.1 | exact hp.2.1 | exact hp.2.2.1 | exact hp.2.2.2.1
    all_goals try (exfalso; first | omega | contradiction)
    all_goals try first | omega | exact hg | (subst hA; simp only [arS]; omega)
    simp only [e2]
    refine W.call 80 (by rfl) (C_at rows v) (by first | rfl | (subst hA; simp [arS])) (by first | rfl | (subst hA; simp [arS])) ?_
    rintro _ _ _ hp ⟨rfl, ⟨rfl, hi', rfl⟩ | ⟨rfl, h0, h1, m', hm', rfl⟩⟩
    ·exfalso; omega
    obtain rfl : m' = w := by omega
    cbv
    repeat' first | apply And.intro | (apply imC hA; intro) | (apply imN hA; intro) | (apply imI hA; intro) | (apply ndI hA; simp only [Cnd.holds])
    all_goals try simp (maxSteps := 10000000) only [nc, nc2, cmpR, Bool.not_true, Bool.not_false] at *
    all_goals try first | rfl | assumption | exact hp.1 | exact hp.2.1 | exact hp.2.2.1 | exact hp.2.2.2.1
    all_goals try (exfalso; first | omega | contradiction)
    all_goals try simp only [e1, q0, e3]
    all_goals try exact hgr
    exact ih (m + 1) b' j z (by omega) (by omega) hz (by omega) hinv2
   ·rw [List.drop_eq_nil_of_le (by omega)] at hinv
    refine W.step 80 fun hp => ?_
    cbv
    repeat' first | apply And.intro | (apply imC hA; intro) | (apply imN hA; intro) | (apply imI hA; intro) | (apply ndI hA; simp only [Cnd.holds])
    all_goals try simp (maxSteps := 10000000) only [nc, nc2, cmpR, Bool.not_true, Bool.not_false] at *
    all_goals try first | rfl | assumption | exact hp.1 | exact hp.2.1 | exact hp.2.2.1 | exact hp.2.2.2.1
    all_goals try (exfalso; first | omega | contradiction)
    rw [W.rr]; exact ⟨rfl, rfl, b, by rw [← hOe]; exact hinv, rfl⟩
 cbv
 repeat' first | apply And.intro | (apply imC hA; intro) | (apply imN hA; intro) | (apply imI hA; intro) | (apply ndI hA; simp only [Cnd.holds])
 all_goals try simp (maxSteps := 10000000) only [nc, nc2, cmpR, Bool.not_true, Bool.not_false] at *
 all_goals try first | rfl | assumption | exact hp.1 | exact hp.2.1 | exact hp.2.2.1 | exact hp.2.2.2.1
 all_goals try (exfalso; first | omega | contradiction)
 refine W.call 80 (by rfl) (C_Held K rows hR hn who) (by first | rfl | (subst hA; simp [arS])) (by first | rfl | (subst hA; simp [arS])) ?_
 rintro _ _ _ hp ⟨rfl, rfl, all, ha, rfl⟩
 cbv
 repeat' first | apply And.intro | (apply imC hA; intro) | (apply imN hA; intro) | (apply imI hA; intro) | (apply ndI hA; simp only [Cnd.holds])
 all_goals try simp (maxSteps := 10000000) only [nc, nc2, cmpR, Bool.not_true, Bool.not_false] at *
 all_goals try first | rfl | assumption | exact hp.1 | exact hp.2.1 | exact hp.2.2.1 | exact hp.2.2.2.1
 all_goals try (exfalso; first | omega | contradiction)
 exact loop _ rfl (fun j hj => by have := heldL_in who K 0 j hj; omega) (by have := heldL_len who K 0; omega) all ha _ 0 _ 0 _ (Nat.lt_succ_self _) (by omega) (by subst hA; simp only [arS]; rw [ha]; simp) rfl rfl
theorem C_New (C : List Int) (l : List (List AV)) (hl : l = ints C) (hn : C.length ≤ 1000) : EC Tryz.prog G141 [] [.r l] fun x rs vs => x = 0 ∧ vs = [] ∧ ∃ R, R = (C.map fun c => (⟨c, 0, false⟩ : Lk)).map encL ∧ rs = [R] := by
 obtain ⟨A, hA⟩ : ∃ A, A = arS := ⟨_, rfl⟩
 refine Inst.enter (I := I141) hA mixed F141_at sg L141 80 rfl fun CE CK Dn EV RR W hp => ?_
 have pl : pursS l = true := by rw [hl]; exact ints_pure C
 have hll : l.length = C.length := by rw [hl]; simp
 have loop : ∀ (d m : Nat) (R : List (List AV)) (i z : Int), C.length - m < d → m ≤ C.length → z = C.length → i = m → R = ((C.take m).map fun c => (⟨c, 0, false⟩ : Lk)).map encL → EV 9 [R] [.r l, .i z, .i i] := by
  intro d
  induction d with
  | zero => intro m R i z hd; omega
  | succ d ih =>
   intro m R i z hd hm hz hi hR
   obtain ⟨j, hj⟩ : ∃ j : Int, j = i + 1 := ⟨_, rfl⟩
   have e1 : A.iop .add .i64 i 1 = j := (addC hA (by omega) (by omega)).trans (by omega)
   unfold Ar.iop at e1
   have hRl : R.length = m := by rw [hR]; simp; omega
   have pR : pursS R = true := by rw [hR]; exact encL_pure _
   by_cases hmC : m < C.length
   ·obtain ⟨v, hv⟩ : ∃ v, v = C[m] := ⟨_, rfl⟩
    have him : A.tn i = m := by subst hA; simp only [arS]; omega
    have e2 : A.cI l (A.tn i) 0 = v := by rw [him, hv]; exact igvC hA hl hmC
    have hg : l[A.tn i]? = some [.int .i64 (A.cI l (A.tn i) 0)] := igC hA hl (by omega)
    have s1 : A.rapp R (A.rlen R) [[.int .i64 v, .int .i64 0, .bool false]] = ((C.take (m + 1)).map fun c => (⟨c, 0, false⟩ : Lk)).map encL := by
     rw [hR]
     subst hA
     simp only [arS]
     rw [rappS_end, List.take_add_one, List.getElem?_eq_getElem hmC, ← hv]
     simp [encL]
    unfold Ar.cI Ar.tn at e2
    refine W.step 80 fun hp => ?_
    cbv
    repeat' first | apply And.intro | (apply imC hA; intro) | (apply imN hA; intro) | (apply imI hA; intro) | (apply ndI hA; simp only [Cnd.holds])
    all_goals try simp (maxSteps := 10000000) only [nc, nc2, cmpR, Bool.not_true, Bool.not_false] at *
    all_goals try first | rfl | assumption | exact hp.1 | exact hp.2.1 | exact hp.2.2.1 | exact hp.2.2.2.1
    all_goals try (exfalso; first | omega | contradiction)
    all_goals try first | omega | exact hg
    all_goals try simp only [e1, e2]
    all_goals try first | exact (congrArg pursS s1).trans (encL_pure _) | (subst hA; simp [arS]; done) | (subst hA; simp [arS]; omega) | (subst hA; simp only [arS, rappS, List.length_append, List.length_take, List.length_drop, List.length_cons, List.length_nil]; omega)
    exact ih (m + 1) _ j z (by omega) (by omega) hz (by omega) s1
   ·obtain rfl : m = C.length := by omega
    rw [List.take_length] at hR
    refine W.step 80 fun hp => ?_
    cbv
    repeat' first | apply And.intro | (apply imC hA; intro) | (apply imN hA; intro) | (apply imI hA; intro) | (apply ndI hA; simp only [Cnd.holds])
    all_goals try simp (maxSteps := 10000000) only [nc, nc2, cmpR, Bool.not_true, Bool.not_false] at *
    all_goals try first | rfl | assumption | exact hp.1 | exact hp.2.1 | exact hp.2.2.1 | exact hp.2.2.2.1
    all_goals try (exfalso; first | omega | contradiction)
    rw [W.rr]; exact ⟨rfl, rfl, R, hR, rfl⟩
 cbv
 repeat' first | apply And.intro | (apply imC hA; intro) | (apply imN hA; intro) | (apply imI hA; intro) | (apply ndI hA; simp only [Cnd.holds])
 all_goals try simp (maxSteps := 10000000) only [nc, nc2, cmpR, Bool.not_true, Bool.not_false] at *
 all_goals try first | rfl | assumption | exact hp.1 | exact hp.2.1 | exact hp.2.2.1 | exact hp.2.2.2.1
 all_goals try (exfalso; first | omega | contradiction)
 all_goals try (subst hA; rfl)
 exact loop _ 0 [] 0 _ (Nat.lt_succ_self _) (by omega) (by subst hA; simp only [arS]; omega) rfl rfl
end Go.Ab

namespace Go.Ab
open Go Go.Proofs
set_option linter.unusedVariables false
set_option linter.unusedSimpArgs false
set_option maxRecDepth 100000
set_option maxHeartbeats 1000000
structure Op3 where
 k : Int
 a : Int
 b : Int
 deriving Inhabited
def encO (o : Op3) : List AV := [.int .i64 o.k, .int .i64 o.a, .int .i64 o.b]
structure Tk where
 p : Int
 th : Int
 pe : Int
 de : Int
 fr : Int
 fl : Int
 pg : List Op3
 deriving Inhabited
def encT (t : Tk) : List AV := [.int .i64 t.p, .int .i64 t.th, .int .i64 t.pe, .int .i64 t.de, .int .i64 t.fr, .int .i64 t.fl, .inl 3 (t.pg.map encO)]
def tk (T : List Tk) (i : Nat) : Tk := T.getD i default
def op3 (P : List Op3) (i : Nat) : Op3 := P.getD i default
theorem tk_lt {T : List Tk} {i : Nat} (h : i < T.length) : tk T i = T[i] := by
 unfold tk; rw [List.getD_eq_getElem?_getD, List.getElem?_eq_getElem h]; rfl
theorem op3_lt {T : List Op3} {i : Nat} (h : i < T.length) : op3 T i = T[i] := by
 unfold op3; rw [List.getD_eq_getElem?_getD, List.getElem?_eq_getElem h]; rfl
section
variable (T : List Tk) (i : Nat)
theorem tk0 : cIS (T.map encT) i 0 = (tk T i).p := by
 unfold cIS cellS tk; rw [List.getElem?_map, List.getD_eq_getElem?_getD]; cases T[i]? <;> rfl
theorem tk1 : cIS (T.map encT) i 1 = (tk T i).th := by
 unfold cIS cellS tk; rw [List.getElem?_map, List.getD_eq_getElem?_getD]; cases T[i]? <;> rfl
theorem tk2 : cIS (T.map encT) i 2 = (tk T i).pe := by
 unfold cIS cellS tk; rw [List.getElem?_map, List.getD_eq_getElem?_getD]; cases T[i]? <;> rfl
theorem tk3 : cIS (T.map encT) i 3 = (tk T i).de := by
 unfold cIS cellS tk; rw [List.getElem?_map, List.getD_eq_getElem?_getD]; cases T[i]? <;> rfl
theorem tk4 : cIS (T.map encT) i 4 = (tk T i).fr := by
 unfold cIS cellS tk; rw [List.getElem?_map, List.getD_eq_getElem?_getD]; cases T[i]? <;> rfl
theorem tk5 : cIS (T.map encT) i 5 = (tk T i).fl := by
 unfold cIS cellS tk; rw [List.getElem?_map, List.getD_eq_getElem?_getD]; cases T[i]? <;> rfl
theorem tk6 : cRS (T.map encT) i 6 = (tk T i).pg.map encO := by
 unfold cRS cellS tk; rw [List.getElem?_map, List.getD_eq_getElem?_getD]; cases T[i]? <;> rfl
end
section
variable (P : List Op3) (i : Nat)
theorem op30 : cIS (P.map encO) i 0 = (op3 P i).k := by
 unfold cIS cellS op3; rw [List.getElem?_map, List.getD_eq_getElem?_getD]; cases P[i]? <;> rfl
theorem op31 : cIS (P.map encO) i 1 = (op3 P i).a := by
 unfold cIS cellS op3; rw [List.getElem?_map, List.getD_eq_getElem?_getD]; cases P[i]? <;> rfl
theorem op32 : cIS (P.map encO) i 2 = (op3 P i).b := by
 unfold cIS cellS op3; rw [List.getElem?_map, List.getD_eq_getElem?_getD]; cases P[i]? <;> rfl
end
theorem tk_get {T : List Tk} {i : Nat} (h : i < T.length) : (T.map encT)[i]? = some [.int .i64 (cIS (T.map encT) i 0), .int .i64 (cIS (T.map encT) i 1), .int .i64 (cIS (T.map encT) i 2), .int .i64 (cIS (T.map encT) i 3), .int .i64 (cIS (T.map encT) i 4), .int .i64 (cIS (T.map encT) i 5), .inl 3 (cRS (T.map encT) i 6)] := by
 rw [tk0, tk1, tk2, tk3, tk4, tk5, tk6, tk_lt h, List.getElem?_map, List.getElem?_eq_getElem h]
 rfl
theorem op3_get {P : List Op3} {i : Nat} (h : i < P.length) : (P.map encO)[i]? = some [.int .i64 (cIS (P.map encO) i 0), .int .i64 (cIS (P.map encO) i 1), .int .i64 (cIS (P.map encO) i 2)] := by
 rw [op30, op31, op32, op3_lt h, List.getElem?_map, List.getElem?_eq_getElem h]
 rfl
theorem wrapu {x : Int} (h0 : 0 ≤ x) (h1 : x < 18446744073709551616) : IntKind.wrap .u64 x = x := by
 simp only [IntKind.wrap]
 have hb : IntKind.u64.bits = 64 := rfl
 simp [IntKind.signed, hb]
 omega
def topZ : Int := 18446744073709551615
def addZ (a b : Int) : Int := if a + b > topZ then topZ else a + b
def ceilZ (a b : Int) : Int := if a = 0 then 0 else if b = 0 ∨ a = topZ then topZ else (a - 1) / b + 1
def U (a : Int) : Prop := 0 ≤ a ∧ a ≤ 18446744073709551615
theorem addZ_U {a b : Int} (ha : U a) (hb : U b) : U (addZ a b) := by
 unfold addZ topZ U at *; split <;> omega
theorem ceilZ_U {a b : Int} (ha : U a) (hb : U b) : U (ceilZ a b) := by
 unfold ceilZ
 split
 ·unfold U; omega
 ·split
  ·unfold U topZ; omega
  ·rename_i h1 h2
   unfold U topZ at *
   have : (a - 1) / b ≤ a - 1 := Int.ediv_le_self _ (by omega)
   have : 0 ≤ (a - 1) / b := Int.ediv_nonneg (by omega) (by omega)
   omega
theorem Add_E {a b : Int} (ha : U a) (hb : U b) : EC Tryz.prog G60 [] [.i a, .i b] fun x rs vs => x = 0 ∧ rs = [] ∧ vs = [.i (addZ a b)] := by
 have e1 : arS.c0 a b = ((a.toNat + b.toNat : Nat) : Int) / 18446744073709551616 := rfl
 have e2 : arS.s0 a b = ((a.toNat + b.toNat : Nat) : Int) % 18446744073709551616 := rfl
 unfold U at ha hb
 refine E60 fun EV V => ⟨fun h => ⟨rfl, rfl, ?_⟩, fun h => ⟨rfl, rfl, ?_⟩⟩
 ·rw [e1] at h
  unfold addZ topZ
  rw [if_pos (by omega)]
 ·rw [e1] at h
  rw [e2]
  unfold addZ topZ
  rw [if_neg (by omega)]
  congr 2; omega
theorem Ceil_E {a b : Int} (ha : U a) (hb : U b) : EC Tryz.prog G134 [] [.i a, .i b] fun x rs vs => x = 0 ∧ rs = [] ∧ vs = [.i (ceilZ a b)] := by
 unfold U at ha hb
 refine E134 fun EV V => ⟨fun h => ⟨rfl, rfl, by simp [ceilZ, h]⟩, fun h => ⟨fun h1 => ⟨fun h2 => ⟨rfl, rfl, by simp [ceilZ, topZ, h, h2]⟩, fun h2 => ⟨h1, rfl, rfl, ?_⟩⟩, fun h1 => ⟨rfl, rfl, by simp [ceilZ, topZ, h, h1]⟩⟩⟩
 have q1 : (a - 1) / b ≤ a - 1 := Int.ediv_le_self _ (by omega)
 have q2 : 0 ≤ (a - 1) / b := Int.ediv_nonneg (by omega) (by omega)
 rw [wrapu (x := a - 1) (by omega) (by omega), Int.tdiv_eq_ediv_of_nonneg (by omega), wrapu q2 (by omega), wrapu (by omega) (by omega)]
 unfold ceilZ topZ
 rw [if_neg h, if_neg (by omega)]
theorem Of_E {a : Int} (ha : a ≤ 9223372036854775807) : EC Tryz.prog G58 [] [.i a] fun x rs vs => x = 0 ∧ rs = [] ∧ vs = [.i (max a 0)] :=
 E58 fun EV V => ⟨rfl, rfl, by rw [mxS, wrapu (by omega) (by omega)]⟩
theorem max_U {a : Int} (ha : a ≤ 9223372036854775807) : U (max a 0) := by unfold U; omega
theorem addZ_small {a b : Int} (h : 0 ≤ a + b ∧ a + b ≤ 1000000000000000) : addZ a b = a + b := by
 unfold addZ topZ; rw [if_neg (by omega)]
theorem SumL_E {a b c : Int} (ha : 0 ≤ a ∧ a ≤ 1099511627776) (hb : 0 ≤ b ∧ b ≤ 1099511627776) (hc : 0 ≤ c ∧ c ≤ 1099511627776) : EC Tryz.prog G157 [] [.r [[.int .u64 a], [.int .u64 b], [.int .u64 c]]] fun x rs vs => x = 0 ∧ rs = [] ∧ vs = [.i (a + b + c)] := by
 refine E157 fun EV V => ?_
 have u0 : U 0 := by unfold U; omega
 have ua : U a := by unfold U; omega
 have ub : U b := by unfold U; omega
 have uc : U c := by unfold U; omega
 have uab : U (a + b) := by unfold U; omega
 have i1 : IntKind.wrap .i64 ((0 : Int) + 1) = 1 := rfl
 have i2 : IntKind.wrap .i64 ((1 : Int) + 1) = 2 := rfl
 have i3 : IntKind.wrap .i64 ((2 : Int) + 1) = 3 := rfl
 refine V.p9 ⟨fun _ => ⟨by omega, rfl, (Add_E u0 ua).mono ?_⟩, fun h => by simp at h⟩
 rintro _ _ _ ⟨rfl, rfl, rfl⟩
 rw [addZ_small (by omega), i1]
 refine ⟨rfl, _, rfl, rfl, V.p9 ⟨fun _ => ⟨by omega, rfl, (Add_E (by rw [Int.zero_add]; exact ua) ub).mono ?_⟩, fun h => by simp at h⟩⟩
 rintro _ _ _ ⟨rfl, rfl, rfl⟩
 rw [addZ_small (by omega), i2]
 refine ⟨rfl, _, rfl, rfl, V.p9 ⟨fun _ => ⟨by omega, rfl, (Add_E (by rw [Int.zero_add]; exact uab) uc).mono ?_⟩, fun h => by simp at h⟩⟩
 rintro _ _ _ ⟨rfl, rfl, rfl⟩
 rw [addZ_small (by omega), i3]
 refine ⟨rfl, _, rfl, rfl, V.p9 ⟨fun h => by simp at h, fun _ => ⟨rfl, rfl, by rw [Int.zero_add]⟩⟩⟩
def clampZ (n : Int) : Int := min (max n 0) 1073741824
def costZ (hit miss : Int) (h : Bool) (o : Op3) : Int := if o.k = 1 then clampZ o.a else if o.k = 2 then (if h then clampZ hit else clampZ miss) else 1
theorem clampZ_b (n : Int) : 0 ≤ clampZ n ∧ clampZ n ≤ 1073741824 := by unfold clampZ; omega
theorem costZ_b (hit miss : Int) (h : Bool) (o : Op3) : 0 ≤ costZ hit miss h o ∧ costZ hit miss h o ≤ 1073741824 := by
 unfold costZ
 have := clampZ_b o.a; have := clampZ_b hit; have := clampZ_b miss
 split
 ·omega
 ·split
  ·split <;> omega
  ·omega
theorem clamp_E (n : Int) : EC Tryz.prog G143 [] [.i n] fun x rs vs => x = 0 ∧ rs = [] ∧ vs = [.i (clampZ n)] :=
 E143 fun EV V => ⟨rfl, rfl, by rw [mnS, mxS]; rfl⟩
theorem Cost_E (k a b s w hit miss : Int) (h : Bool) : EC Tryz.prog G109 [] [.i k, .i a, .i b, .i s, .i w, .i hit, .i miss, .b h] fun x rs vs => x = 0 ∧ rs = [] ∧ vs = [.i (costZ hit miss h ⟨k, a, b⟩)] := by
 refine E109 fun EV V => ⟨fun h1 => (clamp_E a).mono ?_, fun h1 => ⟨fun h2 => ⟨rfl, rfl, by simp [costZ, h1, h2]⟩, fun h2 => ⟨fun h3 => (clamp_E hit).mono ?_, fun h3 => (clamp_E miss).mono ?_⟩⟩⟩
 all_goals
  rintro _ _ _ ⟨rfl, rfl, rfl⟩
  refine ⟨rfl, _, rfl, rfl, rfl, rfl, ?_⟩
  simp_all [costZ]
def sumZ (hit miss : Int) (h : Bool) (P : List Op3) : Int := (P.map (costZ hit miss h)).sum
theorem sumZ_b (hit miss : Int) (h : Bool) : ∀ P : List Op3, 0 ≤ sumZ hit miss h P ∧ sumZ hit miss h P ≤ P.length * 1073741824
 | [] => by simp [sumZ]
 | o :: P => by
  have := sumZ_b hit miss h P
  have := costZ_b hit miss h o
  simp only [sumZ, List.map_cons, List.sum_cons, List.length_cons] at *
  omega
theorem sumZ_take {hit miss : Int} {h : Bool} {P : List Op3} {m : Nat} (hm : m < P.length) : sumZ hit miss h (P.take (m + 1)) = sumZ hit miss h (P.take m) + costZ hit miss h (op3 P m) := by
 rw [List.take_add_one, List.getElem?_eq_getElem hm, ← op3_lt hm]
 simp [sumZ]
theorem Sum_E (P : List Op3) (hP : P.length ≤ 1000) (s w hit miss : Int) (h : Bool) : EC Tryz.prog G135 [] [.r (P.map encO), .i s, .i w, .i hit, .i miss, .b h] fun x rs vs => x = 0 ∧ rs = [] ∧ vs = [.i (sumZ hit miss h P)] := by
 refine E135 fun EV V => ?_
 have loop : ∀ (d m : Nat), P.length - m < d → m ≤ P.length → EV 9 [] [.b h, .i (sumZ hit miss h (P.take m)), .r (P.map encO), .i P.length, .i m, .i s, .i w, .i hit, .i miss] := by
  intro d
  induction d with
  | zero => intro m hd; omega
  | succ d ih =>
   intro m hd hm
   refine V.p9 ⟨fun hlt => ?_, fun hge => ?_⟩
   ·have hmP : m < P.length := by omega
    refine ⟨by omega, op3_get hmP, (Cost_E _ _ _ s w hit miss h).mono ?_⟩
    rintro _ _ _ ⟨rfl, rfl, rfl⟩
    refine ⟨rfl, _, rfl, rfl, ?_⟩
    rw [op30, op31, op32, Int.toNat_natCast]
    have b1 := sumZ_b hit miss h (P.take m)
    have b2 := costZ_b hit miss h (op3 P m)
    rw [List.length_take] at b1
    have := ih (m + 1) (by omega) (by omega)
    rw [sumZ_take hmP] at this
    have e : costZ hit miss h ⟨(op3 P m).k, (op3 P m).a, (op3 P m).b⟩ = costZ hit miss h (op3 P m) := rfl
    rw [e, wrap64 (x := sumZ hit miss h (P.take m) + costZ hit miss h (op3 P m)) (by omega) (by omega), wrap64 (by omega) (by omega)]
    exact this
   ·obtain rfl : m = P.length := by omega
    rw [List.take_length]
    exact ⟨rfl, rfl, rfl⟩
 have := loop _ 0 (Nat.lt_succ_self _) (by omega)
 simpa [sumZ] using this
theorem Worst_E (P : List Op3) (hP : P.length ≤ 1000) (s w hit miss : Int) : EC Tryz.prog G97 [] [.r (P.map encO), .i s, .i w, .i hit, .i miss] fun x rs vs => x = 0 ∧ rs = [] ∧ vs = [.i (sumZ hit miss false P)] := by
 refine E97 fun EV V => (Sum_E P hP s w hit miss false).mono ?_
 rintro _ _ _ ⟨rfl, rfl, rfl⟩
 exact ⟨rfl, _, rfl, rfl, rfl, rfl, rfl⟩
end Go.Ab
