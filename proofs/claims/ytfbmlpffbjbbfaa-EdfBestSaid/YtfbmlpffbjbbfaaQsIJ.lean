import Derived.Test.YtfbmlpffbjbbfaaQsGH
import Derived.Test.YtfbmlpffbjbbfaaQHp
namespace Go.Ab
open Go Go.Proofs Stb HeapM
set_option linter.unusedVariables false
set_option linter.unusedSimpArgs false
set_option maxRecDepth 100000
set_option maxHeartbeats 1000000
def encH (e : Evt) : List AV := [.int .i64 e.t, .int .i64 e.o]
theorem encH_c0 {M : List Evt} {i : Nat} (h : i < M.length) : cIS (M.map encH) i 0 = (g M i).t := by
 unfold cIS cellS g
 rw [List.getElem?_map, List.getElem?_eq_getElem h, List.getD_eq_getElem?_getD, List.getElem?_eq_getElem h]; rfl
theorem encH_c1 {M : List Evt} {i : Nat} (h : i < M.length) : cIS (M.map encH) i 1 = (g M i).o := by
 unfold cIS cellS g
 rw [List.getElem?_map, List.getElem?_eq_getElem h, List.getD_eq_getElem?_getD, List.getElem?_eq_getElem h]; rfl
theorem encH_get {M : List Evt} {i : Nat} (h : i < M.length) : (M.map encH)[i]? = some [.int .i64 (cIS (M.map encH) i 0), .int .i64 (cIS (M.map encH) i 1)] := by
 rw [encH_c0 h, encH_c1 h, List.getElem?_map, List.getElem?_eq_getElem h]
 unfold g
 rw [List.getD_eq_getElem?_getD, List.getElem?_eq_getElem h]; rfl
theorem encH_set {M : List Evt} {i j : Nat} (hj : j < M.length) : (M.map encH).set i [.int .i64 (cIS (M.map encH) j 0), .int .i64 (cIS (M.map encH) j 1)] = (M.set i (g M j)).map encH := by
 rw [encH_c0 hj, encH_c1 hj, List.map_set]; rfl
theorem LessH_E (M : List Evt) (n i k : Nat) (hn : n ≤ M.length) (hi : i < n) (hk : k < n) {x y : Int} (hx : x = i) (hy : y = k) : EC Try.prog G44 [M.map encH] [.n n, .i x, .i y] fun e rs vs => e = 0 ∧ rs = [M.map encH] ∧ vs = [.b (HeapM.lt (g M i) (g M k))] := by
 subst hx hy
 refine E44 fun _ EV V => ?_
 have gi := encH_get (M := M) (i := i) (by omega)
 have gk := encH_get (M := M) (i := k) (by omega)
 rw [Int.toNat_natCast, Int.toNat_natCast]
 refine ⟨by omega, by omega, gi, by omega, by omega, gk, ?_⟩
 rw [encH_c0 (by omega), encH_c0 (by omega), encH_c1 (by omega), encH_c1 (by omega)]
 rw [encH_c0 (by omega), encH_c1 (by omega)] at gi gk
 unfold HeapM.lt
 refine ⟨fun h => ⟨rfl, rfl, by rw [if_pos (by omega), decide_eq_true h]⟩, fun h => ⟨by omega, by omega, gi, by omega, by omega, gk, fun h1 => ⟨by omega, by omega, gi, by omega, by omega, gk, rfl, rfl, by rw [if_neg (by omega)]⟩, fun h1 => ⟨rfl, rfl, by rw [if_pos h1, decide_eq_false (by omega)]⟩⟩⟩
theorem SwapH_E (M : List Evt) (n i k : Nat) (hn : n ≤ M.length) (hi : i < n) (hk : k < n) {x y : Int} (hx : x = i) (hy : y = k) : EC Try.prog G47 [M.map encH] [.n n, .i x, .i y] fun e rs vs => e = 0 ∧ rs = [(swp M i k).map encH] ∧ vs = [] := by
 subst hx hy
 refine E47 fun _ EV V => ?_
 rw [Int.toNat_natCast, Int.toNat_natCast]
 refine ⟨by omega, by omega, encH_get (by omega), by omega, by omega, encH_get (by omega), ?_⟩
 rw [encH_set (by omega)]
 refine ⟨encH_get (by rw [List.length_set]; omega), rfl, ?_, rfl⟩
 rw [encH_c0 (by omega), encH_c1 (by omega), show ([AV.int .i64 (g M i).t, AV.int .i64 (g M i).o] : List AV) = encH (g M i) from rfl, ← List.map_set]
 rfl
theorem tdiv2 {j : Nat} (h : j < 1000000) (h0 : 0 < j) : IntKind.wrap .i64 (Int.tdiv (IntKind.wrap .i64 ((j : Int) - 1)) 2) = (((j - 1) / 2 : Nat) : Int) := by
 rw [sW (x := (j : Int) - 1) (n := j - 1) (by omega) (by omega), Int.tdiv_eq_ediv_of_nonneg (by omega)]
 exact sW (by omega) (by omega)
theorem swp_app {L G : List Evt} {i j : Nat} (hi : i < L.length) (hj : j < L.length) : swp (L ++ G) i j = swp L i j ++ G := by
 have e : ∀ k, k < L.length → g (L ++ G) k = g L k := fun k hk => by unfold g; rw [List.getD_eq_getElem?_getD, List.getD_eq_getElem?_getD, List.getElem?_append_left hk]
 unfold swp
 rw [e i hi, e j hj, List.set_append_left _ _ hi, List.set_append_left _ _ (by rw [List.length_set]; exact hj)]
theorem g_app {L G : List Evt} {a : Nat} (ha : a < L.length) : g (L ++ G) a = g L a := by unfold g; rw [List.getD_eq_getElem?_getD, List.getD_eq_getElem?_getD, List.getElem?_append_left ha]
theorem UpH_E (G : List Evt) (n : Nat) (hn : n < 1000000) (LX0 : List Evt) (hL0 : LX0.length = n) (j0 : Nat) (hj0 : j0 < n) (hU : UpI LX0 n j0) : EC Try.prog G22 [(LX0 ++ G).map encH] [.i j0, .n n] fun e rs vs => e = 0 ∧ vs = [.n n] ∧ ∃ L, rs = [(L ++ G).map encH] ∧ L.Perm LX0 ∧ HeapN L n := by
 refine E22 fun _ EV V => ?_
 have p2 : ∀ (d j : Nat) (L : List Evt), j < d → j < n → L.Perm LX0 → UpI L n j → EV 2 [(L ++ G).map encH] [.i j, .n n] := by
  intro d
  induction d with
  | zero => intro j L hd; omega
  | succ d ih =>
   intro j L hd hj hp hu
   have hL : L.length = n := by rw [hp.length_eq, hL0]
   by_cases h0 : j = 0
   ·subst h0
    have e : IntKind.wrap .i64 (Int.tdiv (IntKind.wrap .i64 (((0 : Nat) : Int) - 1)) 2) = ((0 : Nat) : Int) := by decide
    refine V.p2 fun _ => ⟨fun h => absurd e h, fun _ => ⟨rfl, rfl, L, rfl, hp, up_done hu (fun h => by omega)⟩⟩
   ·have hpj : (j - 1) / 2 < j := by omega
    have hg : ∀ a, a < n → g (L ++ G) a = g L a := fun a ha => g_app (by omega)
    refine V.p2 fun _ => ?_
    rw [tdiv2 (by omega) (by omega)]
    refine ⟨fun _ => (LessH_E (L ++ G) n j ((j - 1) / 2) (by rw [List.length_append]; omega) hj (by omega) rfl rfl).mono ?_, fun h => by omega⟩
    rintro _ _ _ ⟨rfl, rfl, rfl⟩
    rw [hg j hj, hg _ (by omega)]
    refine ⟨rfl, _, _, rfl, rfl, fun h1 => ⟨rfl, rfl, rfl, L, rfl, hp, up_done hu (fun _ => lt_false h1)⟩, fun h1 => ⟨rfl, (SwapH_E (L ++ G) n ((j - 1) / 2) j (by rw [List.length_append]; omega) (by omega) hj rfl rfl).mono ?_⟩⟩
    rintro _ _ _ ⟨rfl, rfl, rfl⟩
    refine ⟨rfl, _, rfl, rfl, by simp [swp], ?_⟩
    rw [swp_app (by omega) (by omega)]
    exact ih _ _ (by omega) (by omega) ((swp_perm (by omega) (by omega)).trans hp) (up_step (by omega) hj (by omega) hu h1)
 exact p2 _ j0 LX0 (Nat.lt_succ_self _) hj0 (List.Perm.refl _) hU
end Go.Ab

namespace Go.Ab
open Go Go.Proofs Stb HeapM
set_option linter.unusedVariables false
set_option linter.unusedSimpArgs false
set_option maxRecDepth 100000
set_option maxHeartbeats 1000000
theorem LenH_E (R : List (List AV)) (n : Nat) : EC Try.prog G16 [R] [.n n] fun e rs vs => e = 0 ∧ rs = [R] ∧ vs = [.i n] := E16 fun _ EV V => ⟨rfl, rfl, rfl⟩
theorem rapp_encH (L G : List Evt) (x : Evt) : rappS ((L ++ G).map encH) L.length [[.int .i64 x.t, .int .i64 x.o]] = ((L ++ [x]) ++ G.drop 1).map encH := by
 unfold rappS
 have e1 : ((L ++ G).map encH).take L.length = L.map encH := by rw [List.map_append]; simp
 have e2 : ((L ++ G).map encH).drop (L.length + 1) = (G.drop 1).map encH := by
  rw [← List.map_drop, List.drop_append, List.drop_of_length_le (by omega), List.nil_append, Nat.add_sub_cancel_left]
 rw [e1, List.length_cons, List.length_nil, e2]
 simp [encH]
theorem PushH_E (L G : List Evt) (n : Nat) (hL : L.length = n) (hn : n < 100000) (hh : HeapN L n) (x : Evt) : EC Try.prog G17 [(L ++ G).map encH] [.i x.t, .i x.o, .n n] fun e rs vs => e = 0 ∧ ∃ L' G', rs = [(L' ++ G').map encH] ∧ vs = [.n (n + 1)] ∧ L'.Perm (x :: L) ∧ HeapN L' (n + 1) := by
 have push : EC Try.prog G46 [(L ++ G).map encH] [.i x.t, .i x.o, .n n] fun e rs vs => e = 0 ∧ rs = [((L ++ [x]) ++ G.drop 1).map encH] ∧ vs = [.n (n + 1)] := by
  refine E46 fun _ EV V => ⟨fun _ => ⟨by rw [List.length_map, List.length_append]; omega, by omega, by omega, rfl, ?_, rfl⟩, fun h => by cases h⟩
  rw [← hL, rapp_encH]
 refine E17 fun _ EV V => push.mono ?_
 rintro _ _ _ ⟨rfl, rfl, rfl⟩
 refine ⟨rfl, _, _, rfl, rfl, (LenH_E _ _).mono ?_⟩
 rintro _ _ _ ⟨rfl, rfl, rfl⟩
 refine ⟨rfl, _, _, rfl, rfl, rfl, ?_⟩
 rw [sW (n := n) (by omega) (by omega)]
 refine (UpH_E (G.drop 1) (n + 1) (by omega) (L ++ [x]) (by simp [hL]) n (by omega) (up_start hh x (by omega) _ (fun a ha => g_app (by omega)))).mono ?_
 rintro _ _ _ ⟨rfl, rfl, L', rfl, p1, p2⟩
 exact ⟨rfl, _, _, rfl, rfl, rfl, L', G.drop 1, rfl, rfl, p1.trans (List.perm_append_singleton x L), p2⟩
theorem DownH_E (G : List Evt) (m n : Nat) (hmn : m ≤ n) (hm : m < 100000) (hn : n ≤ m + G.length) (LX0 : List Evt) (hL0 : LX0.length = m) (hU : DnI LX0 m 0) : EC Try.prog G23 [(LX0 ++ G).map encH] [.i 0, .i m, .n n] fun e rs vs => e = 0 ∧ ∃ (b : Bool) (L : List Evt), vs = [.b b, .n n] ∧ rs = [(L ++ G).map encH] ∧ L.Perm LX0 ∧ HeapN L m := by
 refine E23 fun _ EV V => ?_
 have p7 : ∀ (d i : Nat) (L : List Evt), m - i < d → i ≤ m → L.Perm LX0 → DnI L m i → EV 7 [(L ++ G).map encH] [.i 0, .i m, .i i, .n n] := by
  intro d
  induction d with
  | zero => intro i L hd; omega
  | succ d ih =>
   intro i L hd hi hp hu
   have hL : L.length = m := by rw [hp.length_eq, hL0]
   have hM : n ≤ (L ++ G).length := by rw [List.length_append]; omega
   have hg : ∀ a, a < m → g (L ++ G) a = g L a := fun a ha => g_app (by omega)
   have e0 : IntKind.wrap .i64 (2 * (i : Int)) = ((2 * i : Nat) : Int) := sW (by omega) (by omega)
   have e1 : IntKind.wrap .i64 (((2 * i : Nat) : Int) + 1) = ((2 * i + 1 : Nat) : Int) := sW (by omega) (by omega)
   have e2 : IntKind.wrap .i64 (((2 * i + 1 : Nat) : Int) + 1) = ((2 * i + 2 : Nat) : Int) := sW (by omega) (by omega)
   have p26 : ∀ j : Nat, j < m → 0 < j → (j - 1) / 2 = i → (∀ a, 0 < a → a < m → (a - 1) / 2 = i → le (g L j) (g L a)) → EV 26 [(L ++ G).map encH] [.i 0, .i m, .i i, .i j, .n n] := fun j hj h0 hji hs => by
    refine V.p26 fun _ => (LessH_E (L ++ G) n j i hM (by omega) (by omega) rfl rfl).mono ?_
    rintro _ _ _ ⟨rfl, rfl, rfl⟩
    rw [hg j hj, hg i (by omega)]
    refine ⟨rfl, _, _, rfl, rfl, fun h1 => ⟨rfl, rfl, _, L, rfl, rfl, hp, dn_done hu (fun a a0 am ai => le_trans (lt_false h1) (hs a a0 am ai))⟩, fun h1 => ⟨rfl, (SwapH_E (L ++ G) n i j hM (by omega) (by omega) rfl rfl).mono ?_⟩⟩
    rintro _ _ _ ⟨rfl, rfl, rfl⟩
    refine ⟨rfl, _, rfl, rfl, by simp [swp], ?_⟩
    rw [swp_app (by omega) (by omega)]
    exact ih _ _ (by omega) (by omega) ((swp_perm (by omega) (by omega)).trans hp) (dn_step (by omega) hj h0 hji hu h1 hs)
   refine V.p7 fun _ => ?_
   rw [e0, e1]
   refine ⟨fun h1 => ⟨fun h2 => absurd h2 (by omega), fun h2 => ?_⟩, fun h1 => ⟨rfl, _, L, rfl, rfl, hp, dn_done hu (fun a a0 am ai => by omega)⟩⟩
   rw [e2]
   refine ⟨fun h3 => (LessH_E (L ++ G) n (2 * i + 2) (2 * i + 1) hM (by omega) (by omega) rfl rfl).mono ?_, fun h3 => p26 (2 * i + 1) (by omega) (by omega) (by omega) (fun a a0 am ai => by
    obtain rfl : a = 2 * i + 1 := by omega
    exact le_refl _)⟩
   rintro _ _ _ ⟨rfl, rfl, rfl⟩
   rw [hg _ (by omega), hg _ (by omega)]
   refine ⟨rfl, _, _, rfl, rfl, fun h4 => ⟨rfl, p26 (2 * i + 2) (by omega) (by omega) (by omega) fun a a0 am ai => ?_⟩, fun h4 => ⟨rfl, p26 (2 * i + 1) (by omega) (by omega) (by omega) fun a a0 am ai => ?_⟩⟩
   ·rcases (by omega : a = 2 * i + 1 ∨ a = 2 * i + 2) with rfl | rfl
    ·exact lt_true h4
    ·exact le_refl _
   ·rcases (by omega : a = 2 * i + 1 ∨ a = 2 * i + 2) with rfl | rfl
    ·exact le_refl _
    ·exact lt_false h4
 exact p7 _ 0 LX0 (Nat.lt_succ_self _) (by omega) (List.Perm.refl _) hU
theorem PopH_E (L G : List Evt) (n : Nat) (hL : L.length = n + 1) (hn : n < 100000) (hh : HeapN L (n + 1)) : EC Try.prog G18 [(L ++ G).map encH] [.n (n + 1)] fun e rs vs => e = 0 ∧ ∃ L' G', rs = [(L' ++ G').map encH] ∧ vs = [.i (g L 0).t, .i (g L 0).o, .n n] ∧ (g L 0 :: L').Perm L ∧ HeapN L' n := by
 refine E18 fun _ EV V => (LenH_E _ _).mono ?_
 rintro _ _ _ ⟨rfl, rfl, rfl⟩
 refine ⟨rfl, _, _, rfl, rfl, rfl, ?_⟩
 rw [sW (n := n) (by omega) (by omega)]
 refine (SwapH_E (L ++ G) (n + 1) 0 n (by rw [List.length_append]; omega) (by omega) (by omega) rfl rfl).mono ?_
 rintro _ _ _ ⟨rfl, rfl, rfl⟩
 have hs : (swp L 0 n).length = n + 1 := by rw [swp_length, hL]
 have hlast : g (swp L 0 n) n = g L 0 := by rw [g_swp (by omega) (by omega), if_pos rfl]
 have hsplit : swp L 0 n = (swp L 0 n).take n ++ [g L 0] := by
  have e : (swp L 0 n).drop n = [g L 0] := by
   rw [List.drop_eq_getElem_cons (by omega), List.drop_of_length_le (by omega), ← hlast, g_get (by omega)]
  rw [← e, List.take_append_drop]
 have lt' : ((swp L 0 n).take n).length = n := by rw [List.length_take]; omega
 have hd : DnI ((swp L 0 n).take n) n 0 := by
  have h1 := dn_start hh (by omega)
  have hg : ∀ a, a < n → g ((swp L 0 n).take n) a = g (swp L 0 n) a := fun a ha => by
   conv => rhs; rw [hsplit]
   exact (g_app (by omega)).symm
  exact ⟨fun a a0 an ai => by rw [hg a an, hg _ (by omega)]; exact h1.1 a a0 an ai, fun h => by omega⟩
 rw [swp_app (by omega) (by omega), hsplit, List.append_assoc]
 refine ⟨rfl, _, rfl, rfl, by rw [List.length_map, List.length_map, ← List.append_assoc, ← hsplit]; simp only [List.length_append, swp_length], ?_⟩
 refine (DownH_E ([g L 0] ++ G) n (n + 1) (by omega) (by omega) (by simp) _ lt' hd).mono ?_
 rintro _ _ _ ⟨rfl, b, L', rfl, rfl, p1, p2⟩
 have hL' : L'.length = n := by rw [p1.length_eq, lt']
 refine ⟨rfl, _, _, _, rfl, rfl, ?_⟩
 refine E45 fun _ EV' V' => ?_
 rw [sW (x := ((n + 1 : Nat) : Int) - 1) (n := n) (by omega) (by omega), Int.toNat_natCast]
 have hgl : g (L' ++ ([g L 0] ++ G)) n = g L 0 := by
  unfold g
  rw [List.getD_eq_getElem?_getD, List.getElem?_append_right (by omega), hL', Nat.sub_self]; rfl
 have hlen : n < (L' ++ ([g L 0] ++ G)).length := by simp; omega
 refine ⟨by omega, by omega, encH_get hlen, by omega, rfl, _, _, _, _, rfl, rfl, rfl, L', [g L 0] ++ G, rfl, ?_, ?_, p2⟩
 ·rw [encH_c0 hlen, encH_c1 hlen, hgl]
 ·have q : (L'.append [g L 0]).Perm ((swp L 0 n).take n ++ [g L 0]) := List.Perm.append_right _ p1
  rw [← hsplit] at q
  exact ((List.perm_append_singleton (g L 0) L').symm.trans q).trans (swp_perm (by omega) (by omega))
end Go.Ab
