import Derived.Test.YtmmoffbompnihaaDoorQTxD
namespace Go.Ab
open Go Go.Proofs Go.Lib
set_option linter.unusedVariables false
set_option linter.unusedSimpArgs false
set_option maxRecDepth 100000
set_option maxHeartbeats 1000000
theorem sopE (l m : List UInt8) : sopS .eql (By l) (By m) = (l == m) := by
 show ((By l).toList == (By m).toList) = _
 rw [toList_data, toList_data]
theorem sopN (l m : List UInt8) : sopS .neq (By l) (By m) = !(l == m) := by
 show (!((By l).toList == (By m).toList)) = _
 rw [toList_data, toList_data]
theorem nam_inj : ∀ i k : Nat, i < 16 → k < 16 → nam i = nam k → i = k := by
 have : ∀ i : Fin 16, ∀ k : Fin 16, namL.getD i.val [] = namL.getD k.val [] → i = k := by decide
 intro i k hi hk h
 have := this ⟨i, hi⟩ ⟨k, hk⟩ h
 exact congrArg Fin.val this
theorem nam_chars (k : Int) : ∀ c ∈ nam k, c ≠ 32 ∧ c ≠ 59 := by
 unfold nam
 rw [List.getD_eq_getElem?_getD]
 cases h : namL[k.toNat]? with
 | none => intro c hc; simp at hc
 | some l =>
  have : ∀ l ∈ namL, ∀ c ∈ l, c ≠ 32 ∧ c ≠ 59 := by decide
  exact this l (List.mem_of_getElem? h)
theorem itoa_dec {z : Int} (h : 0 ≤ z) : itoa z = decDigits z.toNat := by unfold itoa; rw [if_neg (by omega)]
theorem itoa_chars {z : Int} (h : 0 ≤ z) : ∀ c ∈ itoa z, c ≠ 32 ∧ c ≠ 59 := by
 rw [itoa_dec h]
 intro c hc
 have := decDigits_num _ c hc
 refine ⟨fun e => ?_, fun e => ?_⟩ <;> subst e
 ·exact absurd this.1 (by decide)
 ·exact absurd this.2 (by decide)
theorem wordsO_no {o : Op3} (ok : okP o) : ∀ p ∈ wordsO o, (32 : UInt8) ∉ p := by
 intro p hp hc
 unfold wordsO at hp
 rcases List.mem_cons.1 hp with rfl | hp
 ·exact (nam_chars _ _ hc).1 rfl
 ·obtain ⟨z, hz, rfl⟩ := List.mem_map.1 hp
  have := List.mem_of_mem_take hz
  simp at this
  have hz0 : 0 ≤ z := by rcases this with h | h <;> rw [h]; exact ok.2.1; exact ok.2.2.1
  exact (itoa_chars hz0 _ hc).1 rfl
theorem oneL_no {o : Op3} (ok : okP o) : (59 : UInt8) ∉ oneL o := by
 rw [oneL_eq]
 intro hc
 rcases List.mem_append.1 hc with hc | hc
 ·exact (nam_chars _ _ hc).2 rfl
 rcases List.mem_append.1 hc with hc | hc
 ·split at hc
  ·rcases List.mem_cons.1 hc with h | hc
   ·exact absurd h (by decide)
   ·exact (itoa_chars ok.2.1 _ hc).2 rfl
  ·simp at hc
 ·split at hc
  ·rcases List.mem_cons.1 hc with h | hc
   ·exact absurd h (by decide)
   ·exact (itoa_chars ok.2.2.1 _ hc).2 rfl
  ·simp at hc
theorem Kind_E {R : List (List AV)} (hl : R.length = 16) (hR : ∀ i : Nat, i < 16 → R[i]? = some [.str (cSS R i 0), .int .i64 (cIS R i 1)] ∧ cSS R i 0 = By (nam i)) {k : Nat} (hk : k < 16) (r : List (List AV)) :
  EC Tryd.prog G101 [] [.r R, .r ([.str (By (nam k))] :: r)] fun x rs vs => x = 0 ∧ rs = [] ∧ vs = [.i (k : Int), .r ([.str (By (nam k))] :: r)] := by
 refine E101 fun EV V => ?_
 rw [hl]
 have loop : ∀ (n m : Nat), m + n = k → EV 7 [] [.r R, .i ((16 : Nat) : Int), .i (m : Int), .r ([.str (By (nam k))] :: r)] := by
  intro n
  induction n with
  | zero =>
   intro m hm
   obtain rfl : m = k := by omega
   have h := hR m hk
   refine V.p7 ⟨fun _ => ?_, fun h => by omega⟩
   rw [show ((m : Int).toNat) = m by omega]
   refine ⟨by omega, h.1, E102 fun _ _ => ⟨rfl, rfl, _, _, rfl, rfl, fun _ => ⟨rfl, rfl, rfl⟩, fun hf => ?_⟩⟩
   rw [h.2] at hf
   rw [show cSS ([.str (By (nam m))] :: r) (Int.toNat 0) 0 = By (nam m) from rfl, sopE] at hf
   simp at hf
  | succ n ih =>
   intro m hm
   have h := hR m (by omega)
   refine V.p7 ⟨fun _ => ?_, fun h => by omega⟩
   rw [show ((m : Int).toNat) = m by omega]
   refine ⟨by omega, h.1, E102 fun _ _ => ⟨rfl, rfl, _, _, rfl, rfl, fun hf => ?_, fun _ => ?_⟩⟩
   ·rw [h.2] at hf
    rw [show cSS ([.str (By (nam k))] :: r) (Int.toNat 0) 0 = By (nam k) from rfl, sopE] at hf
    have := nam_inj m k (by omega) hk (by simpa using hf)
    omega
   ·rw [wrap64 (by omega) (by omega), show (m : Int) + 1 = ((m + 1 : Nat) : Int) by omega]
    exact ih (m + 1) (by omega)
 exact loop k 0 (by omega)
theorem Number_E {z : Int} (h0 : 0 ≤ z) (h1 : z ≤ 999999999) : EC Tryd.prog G103 [] [.s (By (itoa z))] fun x rs vs => x = 0 ∧ rs = [] ∧ vs = [.i z, .b true] := by
 have hs : z.toNat ≤ 999999999 := by omega
 rw [itoa_dec h0]
 refine E103 fun _ _ => (Atoi_E hs).mono ?_
 rintro _ _ _ ⟨rfl, rfl, rfl⟩
 have hd := decDigits_short hs
 refine ⟨rfl, _, rfl, rfl, fun _ => ⟨fun _ => (Itoa_E _ (by omega) (by omega)).mono ?_, fun h => ?_⟩, fun h => by omega⟩
 ·rintro _ _ _ ⟨rfl, rfl, rfl⟩
  refine ⟨rfl, _, rfl, rfl, rfl, rfl, ?_⟩
  rw [itoa_nonneg, sopE, show ((z.toNat : Nat) : Int) = z by omega]
  simp
 ·rw [By_size] at h; omega
def small (o : Op3) : Prop := o.a ≤ 999999999 ∧ o.b ≤ 999999999
theorem Read_E {o : Op3} (w : WfO o) (ok : okP o) (sm : small o) : EC Tryd.prog G82 [] [.s (By (oneL o))] fun x rs vs => x = 0 ∧ rs = [] ∧ vs = [.i o.k, .i o.a, .i o.b, .b true] := by
 rcases numZ_cases o.k with h | ⟨hn, h1, h2⟩
 ·have := ok.1; omega
 have hlen := oneL_len w
 refine E82 fun EV V => (Split_E (nam o.k) (([o.a, o.b].take (numZ o.k).toNat).map itoa) 32 (wordsO_no ok) (show (oneL o).length < _ by omega)).mono ?_
 rintro _ _ _ ⟨rfl, rfl, rfl⟩
 refine ⟨rfl, _, rfl, rfl, kindsY_E.mono ?_⟩
 rintro _ _ _ ⟨rfl, rfl, R, rfl, hl, hR⟩
 have hkk : ((o.k.toNat : Nat) : Int) = o.k := by omega
 have hK := Kind_E hl hR (k := o.k.toNat) (by omega) ((([o.a, o.b].take (numZ o.k).toNat).map itoa).map fun l => [.str (By l)])
 rw [hkk] at hK
 refine ⟨rfl, _, rfl, rfl, EC.mono hK ?_⟩
 rintro _ _ _ ⟨rfl, rfl, rfl⟩
 refine ⟨rfl, _, _, rfl, rfl, fun h => by omega, fun _ => (numX_E o.k).mono ?_⟩
 rintro _ _ _ ⟨rfl, rfl, rfl⟩
 refine ⟨rfl, _, rfl, rfl, ?_⟩
 have na := Number_E ok.2.1 sm.1
 have nb := Number_E ok.2.2.1 sm.2
 have o4 := ok.2.2.2.1
 have o5 := ok.2.2.2.2
 rcases hn with hn | hn | hn <;> rw [hn] at o4 o5 ⊢
 ·refine ⟨fun h => absurd (by rw [wrap64 (by omega) (by omega)]; rfl) h, fun _ => ⟨by omega, by simp, V.p21 ⟨fun h => ?_, fun _ => ?_⟩⟩⟩
  ·simp at h
  ·exact ⟨rfl, rfl, by rw [o4 (by omega), o5 (by omega)]⟩
 ·refine ⟨fun h => absurd (by rw [wrap64 (by omega) (by omega)]; rfl) h, fun _ => ⟨by omega, by simp, V.p21 ⟨fun _ => ⟨by omega, rfl, EC.mono na ?_⟩, fun h => ?_⟩⟩⟩
  ·rintro _ _ _ ⟨rfl, rfl, rfl⟩
   refine ⟨rfl, _, _, rfl, rfl, fun h => (by cases h), fun _ => V.p41a (V.p21 ⟨fun h => ?_, fun _ => ?_⟩)⟩
   ·rw [wrap64 (by omega) (by omega)] at h; simp at h
   ·exact ⟨rfl, rfl, by rw [o5 (by omega)]⟩
  ·simp at h
 ·refine ⟨fun h => absurd (by rw [wrap64 (by omega) (by omega)]; rfl) h, fun _ => ⟨by omega, by simp, V.p21 ⟨fun _ => ⟨by omega, rfl, EC.mono na ?_⟩, fun h => ?_⟩⟩⟩
  ·rintro _ _ _ ⟨rfl, rfl, rfl⟩
   refine ⟨rfl, _, _, rfl, rfl, fun h => (by cases h), fun _ => V.p41a ?_⟩
   rw [wrap64 (by omega) (by omega), show (0 : Int) + 1 = 1 by omega]
   refine V.p21 ⟨fun _ => ⟨by omega, rfl, EC.mono nb ?_⟩, fun h => ?_⟩
   ·rintro _ _ _ ⟨rfl, rfl, rfl⟩
    refine ⟨rfl, _, _, rfl, rfl, fun h => (by cases h), fun _ => V.p41b (V.p21 ⟨fun h => ?_, fun _ => ⟨rfl, rfl, rfl⟩⟩)⟩
    rw [wrap64 (by omega) (by omega)] at h; simp at h
   ·simp at h
  ·simp at h
theorem Parse_E (P : List Op3) (hw : ∀ o ∈ P, WfO o) (hl : P.length ≤ 80) (hne : P ≠ []) (ok : allOk P) (sm : ∀ o ∈ P, small o) : EC Tryd.prog G43 [] [.s (By (Lib.join (partsP P) [59]))] fun x rs vs => x = 0 ∧ rs = [P.map encO] ∧ vs = [.i 0] := by
 refine E43 fun EV V => ?_
 have hS : EC Tryd.prog G52 [] [.s (By (Lib.join (partsP P) [59])), .s (By [59])] fun y rs vs => y = 0 ∧ rs = [] ∧ vs = [.r ((partsP P).map fun l => [.str (By l)])] := by
  cases P with
  | nil => exact absurd rfl hne
  | cons o P =>
   have hb := partsP_len hw ((o :: P).length)
   rw [List.take_of_length_le (show (partsP (o :: P)).length ≤ (o :: P).length by unfold partsP; rw [List.length_map]; omega)] at hb
   refine Split_E (oneL o) (partsP P) 59 ?_ (show (Lib.join (partsP (o :: P)) [59]).length < _ by omega)
   intro p hp
   have : p ∈ partsP (o :: P) := hp
   unfold partsP at this
   obtain ⟨q, hq, rfl⟩ := List.mem_map.1 this
   exact oneL_no (ok q hq)
 refine hS.mono ?_
 rintro _ _ _ ⟨rfl, rfl, rfl⟩
 refine ⟨rfl, _, rfl, rfl, ?_⟩
 have hpl : (partsP P).length = P.length := by unfold partsP; rw [List.length_map]
 rw [List.length_map, hpl]
 have loop : ∀ (n m : Nat), m + n = P.length → EV 9 [(P.take m).map encO] [.r ((partsP P).map fun l => [.str (By l)]), .i (P.length : Int), .i (m : Int)] := by
  intro n
  induction n with
  | zero =>
   intro m hm
   refine V.p9 fun _ => ⟨fun h => by omega, fun _ => ⟨rfl, ?_, rfl⟩⟩
   rw [List.take_of_length_le (by omega)]
  | succ n ih =>
   intro m hm
   have hmP : m < P.length := by omega
   have hmp : m < (partsP P).length := by omega
   have eg : (partsP P)[m] = oneL P[m] := by simp [partsP]
   have ec : cSS ((partsP P).map fun l => [AV.str (By l)]) m 0 = By (oneL P[m]) := by
    unfold cSS cellS; rw [List.getElem?_map, List.getElem?_eq_getElem hmp, ← eg]; rfl
   have hmem := List.getElem_mem hmP
   refine V.p9 fun _ => ⟨fun _ => ?_, fun h => by omega⟩
   rw [show ((m : Int).toNat) = m by omega, ec]
   refine ⟨by omega, by rw [List.getElem?_map, List.getElem?_eq_getElem hmp, eg]; rfl, (Read_E (hw _ hmem) (ok _ hmem) (sm _ hmem)).mono ?_⟩
   rintro _ _ _ ⟨rfl, rfl, rfl⟩
   refine ⟨rfl, _, _, _, _, rfl, rfl, fun h => (by cases h), fun _ => ?_⟩
   have hlt : ((P.take m).map encO).length = m := by rw [List.length_map, List.length_take]; omega
   rw [hlt]
   refine ⟨by omega, by omega, ?_⟩
   rw [wrap64 (by omega) (by omega), show (m : Int) + 1 = ((m + 1 : Nat) : Int) by omega]
   have := ih (m + 1) (by omega)
   rw [List.take_succ_eq_append_getElem hmP, List.map_append] at this
   exact this
 have := loop P.length 0 (by omega)
 simpa using this
theorem Same_E (P : List Op3) (hl : P.length ≤ 80) : EC Tryd.prog G44 [] [.r (P.map encO), .r (P.map encO)] fun x rs vs => x = 0 ∧ rs = [] ∧ vs = [.b true] := by
 refine E44 fun EV V => ⟨fun h => absurd rfl h, fun _ => ?_⟩
 rw [List.length_map]
 have loop : ∀ (n m : Nat), m + n = P.length → EV 15 [] [.r (P.map encO), .r (P.map encO), .i (P.length : Int), .i (m : Int)] := by
  intro n
  induction n with
  | zero => intro m hm; exact V.p15 ⟨fun h => by omega, fun _ => ⟨rfl, rfl, rfl⟩⟩
  | succ n ih =>
   intro m hm
   obtain ⟨e, _⟩ := encO_at (P := P) (m := m) (by omega)
   refine V.p15 ⟨fun _ => ?_, fun h => by omega⟩
   rw [show ((m : Int).toNat) = m by omega]
   refine ⟨by omega, e, e, fun h => by simp at h, fun _ => ?_⟩
   rw [wrap64 (by omega) (by omega), show (m : Int) + 1 = ((m + 1 : Nat) : Int) by omega]
   exact ih (m + 1) (by omega)
 exact loop P.length 0 (by omega)
theorem wf_i64 {x : Int} (h : (Lit.int .i64 x).wf = true) : -9223372036854775808 ≤ x ∧ x ≤ 9223372036854775807 := by
 simp only [Lit.wf, Bool.and_eq_true, decide_eq_true_eq] at h
 have e1 : IntKind.min .i64 = -9223372036854775808 := rfl
 have e2 : IntKind.max .i64 = 9223372036854775807 := rfl
 rw [e1, e2] at h; exact h
theorem exOpW : ∀ {rows : List (List AV)}, (∀ r ∈ rows, GdL [.int .i64, .int .i64, .int .i64] r) → ∃ l : List Op3, rows = l.map encO ∧ ∀ o ∈ l, WfO o
 | [], _ => ⟨[], rfl, fun _ h => by cases h⟩
 | r :: rows, h => by
  obtain ⟨l, rfl, hl⟩ := exOpW (rows := rows) fun r hr => h r (by simp [hr])
  have h0 := h r (by simp)
  simp only [GdL, GdC] at h0
  obtain ⟨x, _, rfl, ⟨a, rfl, wa⟩, y, _, rfl, ⟨b, rfl, wb⟩, z, _, rfl, ⟨c, rfl, wc⟩, rfl⟩ := h0
  have hb := wf_i64 wb
  have hc := wf_i64 wc
  refine ⟨⟨a, b, c⟩ :: l, rfl, fun o ho => ?_⟩
  rcases List.mem_cons.1 ho with rfl | ho
  ·exact ⟨hb.1, hb.2, hc.1, hc.2⟩
  ·exact hl o ho
theorem Texts10 (l : List (List AV)) (_ : l.length ≤ maxLen) (g : ∀ r ∈ l, GdL [.int .i64, .int .i64, .int .i64] r) :
  EC Tryd.prog G10 [] [.r l] fun x rs vs => x = 0 ∧ vs = [.b true] := by
 obtain ⟨P, rfl, hw⟩ := exOpW g
 refine E10 fun EV V => fixed33.mono ?_
 rintro _ _ _ ⟨rfl, rfl, rfl⟩
 refine ⟨rfl, _, rfl, rfl, fun h => (by cases h), fun _ => E34 fun _ _ => ?_⟩
 refine ⟨rfl, _, rfl, rfl, fun _ => ⟨rfl, rfl⟩, fun h80 => ?_⟩
 have h80' : ((P.map encO).length : Int) ≤ 80 := by simpa using h80
 rw [List.length_map] at h80'
 have h80 : P.length ≤ 80 := by omega
 refine (Text_E P hw h80).mono ?_
 rintro _ _ _ ⟨rfl, rfl, rfl⟩
 by_cases ok : allOk P
 ·refine ⟨rfl, By (Lib.join (partsP P) [59]), true, rfl, by unfold ansP; rw [if_pos ok], (RText_E P hw h80).mono ?_⟩
  rintro _ _ _ ⟨rfl, rfl, rfl⟩
  refine ⟨rfl, By (Lib.join (partsP P) [59]), true, rfl, by unfold ansP; rw [if_pos ok], fun _ => ⟨fun h => (by cases h), fun _ => ⟨fun _ => ⟨fun _ => ⟨rfl, rfl⟩, fun hne => ?_⟩, fun h => (by cases h)⟩⟩, fun h => ?_⟩
  ·rw [List.length_map] at hne ⊢
   have loop : ∀ (n m : Nat), m + n = P.length → (∀ o ∈ P.take m, small o) → EV 43 [] [.r (P.map encO), .s (By (Lib.join (partsP P) [59])), .r (P.map encO), .i (P.length : Int), .i (m : Int)] := by
    intro n
    induction n with
    | zero =>
     intro m hm hs
     rw [List.take_of_length_le (by omega)] at hs
     refine V.p43 ⟨fun h => by omega, fun _ => (Parse_E P hw h80 (by rintro rfl; simp at hne) ok hs).mono ?_⟩
     rintro _ _ _ ⟨rfl, rfl, rfl⟩
     refine ⟨rfl, _, _, rfl, rfl, fun _ => ?_, fun h => absurd rfl h⟩
     rw [List.drop_zero, List.take_length]
     refine (Same_E P h80).mono ?_
     rintro _ _ _ ⟨rfl, rfl, rfl⟩
     exact ⟨rfl, _, rfl, rfl, rfl, rfl⟩
    | succ n ih =>
     intro m hm hs
     have hmP : m < P.length := by omega
     obtain ⟨e, e0, e1, e2⟩ := encO_at hmP
     refine V.p43 ⟨fun _ => ?_, fun h => by omega⟩
     rw [show ((m : Int).toNat) = m by omega, e1, e2]
     refine ⟨by omega, e, fun ha => ⟨fun _ => ⟨rfl, rfl⟩, fun hb => ?_⟩, fun _ => ⟨rfl, rfl⟩⟩
     rw [wrap64 (by omega) (by omega), show (m : Int) + 1 = ((m + 1 : Nat) : Int) by omega]
     refine ih (m + 1) (by omega) fun o h => ?_
     rw [List.take_succ_eq_append_getElem hmP] at h
     rcases List.mem_append.1 h with h | h
     ·exact hs o h
     ·simp at h; rw [h]; exact ⟨ha, hb⟩
   exact loop P.length 0 (by omega) (by simp)
  ·rw [sopN] at h; simp at h
 ·refine ⟨rfl, By [], false, rfl, by unfold ansP; rw [if_neg ok], (RText_E P hw h80).mono ?_⟩
  rintro _ _ _ ⟨rfl, rfl, rfl⟩
  refine ⟨rfl, By [], false, rfl, by unfold ansP; rw [if_neg ok], fun _ => ⟨fun h => (by cases h), fun _ => ⟨fun h => (by cases h), fun _ => ⟨rfl, rfl⟩⟩⟩, fun h => ?_⟩
  rw [sopN] at h; simp at h
end Go.Ab
