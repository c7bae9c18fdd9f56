import Derived.Test.YtmmoffbompnihaaDoorQSL
import Derived.Test.YtmmoffbompnihaaDoorQTyA
import Derived.Test.YtmmoffbompnihaaDoorQTlA
import Derived.Test.YtmmoffbompnihaaDoorQPcS
import Derived.Test.YtmmoffbompnihaaDoorQTxA
import Derived.Shelf.Strconv.Itoa3
namespace Go.Ab
open Go Go.Proofs Go.Lib
set_option linter.unusedVariables false
set_option linter.unusedSimpArgs false
theorem itoa_A (n : Int) (h0 : -9223372036854775808 ≤ n) (h1 : n ≤ 9223372036854775807) : CallsA Tryd.prog 48 [.int .i64 n] [] fun r H => r = .str (By (itoa n)) ∧ H = [] := by
 refine CallsA.ofBelow ⟨Tryd.f48, Tryd.func48, by kernel_rfl, by kernel_rfl⟩ fun S w vs hw hr => ?_
 simp only [rels, rel] at hr
 obtain ⟨v, _, rfl, rfl, rfl⟩ := hr
 obtain ⟨_, _, _, hb⟩ := hw.gl 1 0 _ rfl
 have hT : Lib.TabIs Tryd.prog w "internal/strconv.uint64pow10" .u64 Lib.pow10Tab := by
  have hg : Tryd.prog.globalNamed "internal/strconv.uint64pow10" = some 1 := by kernel_rfl
  unfold Lib.TabIs World.var?
  rw [hg]
  exact hb rfl
 refine ⟨.string (By (itoa n)), by simp only [rel], (Any.strconv_Itoa { Tryd.lays172 with } n h0 h1 w hT).mono ?_⟩
 rintro e w' ⟨rfl, k, os, rfl⟩
 exact ⟨rfl, ⟨rfl, rfl, rfl, by simp [Sort.grow], fun k hk => by simp [Sort.grow, Array.getElem?_append, hk]⟩⟩
theorem Itoa_E (n : Int) (h0 : -9223372036854775808 ≤ n) (h1 : n ≤ 9223372036854775807) : EC Tryd.prog G48 [] [.i n] fun x rs vs => x = 0 ∧ rs = [] ∧ vs = [.s (By (itoa n))] := by
 intro _
 refine CallsA.mono (itoa_A n h0 h1) ?_
 rintro r H ⟨rfl, rfl⟩
 exact ⟨0, _, [], [.s _], rfl, trivial, ⟨rfl, rfl, rfl⟩, rfl, Nat.le_refl _, fun j e sz rows hj => by simp at hj⟩
theorem strR_By (L : List (List UInt8)) : strR (L.map By) = L.map fun l => [.str (By l)] := by simp [strR]
theorem Join_E (L : List (List UInt8)) (c : UInt8) (h1 : L.length ≤ 140737488355328) (h2 : (Lib.join L [c]).length ≤ 140737488355328) : EC Tryd.prog G49 [] [.r (L.map fun l => [.str (By l)]), .s (By [c])] fun x rs vs => x = 0 ∧ rs = [] ∧ vs = [.s (By (Lib.join L [c]))] := by
 intro _
 have hm : (L.map By).map (·.data.toList) = L := by simp [List.map_map, Function.comp_def, By_list]
 have h := join_A joinC (L.map By) (By [c]) (by simpa using h1) (by rw [hm]; exact h2)
 rw [strR_By] at h
 refine CallsA.mono h ?_
 rintro r H ⟨rfl, rfl⟩
 exact ⟨0, _, [], [.s _], rfl, trivial, ⟨rfl, rfl, by unfold joinB; rw [hm]⟩, rfl, Nat.le_refl _, fun j e sz rows hj => by simp at hj⟩
theorem pursStr : ∀ (L : List (List UInt8)), pursS (L.map fun l => [AV.str (By l)]) = true
 | [] => rfl
 | x :: L => pursStr L
theorem SplitO_E (x : List UInt8) (r : List (List UInt8)) (c : UInt8) (h : ∀ p ∈ x :: r, c ∉ p) (hl : (Lib.join (x :: r) [c]).length < 4294967281) : EC Tryd.prog G52 [] [.s (By (Lib.join (x :: r) [c])), .s (By [c])] fun y rs vs => y = 0 ∧ rs = [(x :: r).map fun l => [.str (By l)]] ∧ vs = [] := by
 intro _
 have hs : splitL (By (Lib.join (x :: r) [c])) (By [c]) = (x :: r).map By := splitB_join x r h
 have hA := split_O splitC rfl (By (Lib.join (x :: r) [c])) (By [c]) hl (Nat.le_refl 1) (by rw [hs, count_join_B x r h]; simp)
 rw [hs, strR_By] at hA
 refine CallsA.mono hA ?_
 rintro r1 H ⟨rfl, rfl⟩
 refine ⟨0, _, [(x :: r).map fun l => [.str (By l)]], [], rfl, ⟨pursStr _, trivial⟩, ⟨rfl, rfl, rfl⟩, ?_, (show (0 : Nat) ≤ 1 from Nat.zero_le 1), bldS_pure (A := arS) (nt := 0) (st := ⟨[(0, .sl 0)], [.arr 9 1]⟩) (rs := [(x :: r).map fun l => [.str (By l)]]) (vs := []) ⟨pursStr _, trivial⟩⟩
 show (AV.sl 0 ((x :: r).map fun l => [AV.str (By l)]).length 0 ((x :: r).map fun l => [AV.str (By l)]).length, _) = _
 simp only [List.length_map]
 rfl
theorem AtoiZ_E {n : Int} (h0 : -9223372036854775808 ≤ n) (h1 : n ≤ 9223372036854775807) : EC Tryd.prog G91 [] [.s (By (itoa n))] fun x rs vs => x = 0 ∧ rs = [] ∧ vs = [.i n] := by
 intro _
 refine CallsA.mono (atoi_A atoiC (By (itoa n)) n (by have := itoa_length_le n h0 h1; rw [By_size]; omega) (atoi_itoa h0 h1)) ?_
 rintro r H ⟨rfl, rfl⟩
 exact ⟨0, _, [], [.i _], rfl, trivial, ⟨rfl, rfl, rfl⟩, rfl, Nat.le_refl _, fun j e sz rows hj => by simp at hj⟩
end Go.Ab
