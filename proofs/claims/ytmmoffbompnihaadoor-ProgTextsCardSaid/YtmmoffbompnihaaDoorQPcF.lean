import Derived.Test.YtmmoffbompnihaaDoorQS
import Derived.Test.YtmmoffbompnihaaDoorQPcS
namespace Go.Ab
open Go Go.Proofs
def kn33 : List Kn := [
 ⟨49, [.inl 1 (strR [⟨#[99, 111, 109, 112, 117, 116, 101]⟩, ⟨#[53]⟩]), .str ⟨#[32]⟩], .str ⟨#[99, 111, 109, 112, 117, 116, 101, 32, 53]⟩, []⟩,
 ⟨49, [.inl 1 (strR [⟨#[101, 110, 116, 101, 114]⟩]), .str ⟨#[32]⟩], .str ⟨#[101, 110, 116, 101, 114]⟩, []⟩,
 ⟨49, [.inl 1 (strR [⟨#[101, 120, 105, 116]⟩]), .str ⟨#[32]⟩], .str ⟨#[101, 120, 105, 116]⟩, []⟩,
 ⟨49, [.inl 1 (strR [⟨#[99, 111, 109, 112, 117, 116, 101, 32, 53]⟩, ⟨#[101, 110, 116, 101, 114]⟩, ⟨#[101, 120, 105, 116]⟩]), .str ⟨#[59]⟩], .str ⟨#[99, 111, 109, 112, 117, 116, 101, 32, 53, 59, 101, 110, 116, 101, 114, 59, 101, 120, 105, 116]⟩, []⟩,
 ⟨52, [.str ⟨#[99, 111, 109, 112, 117, 116, 101, 32, 53, 59, 101, 110, 116, 101, 114, 59, 101, 120, 105, 116]⟩, .str ⟨#[59]⟩], .inl 1 (strR [⟨#[99, 111, 109, 112, 117, 116, 101, 32, 53]⟩, ⟨#[101, 110, 116, 101, 114]⟩, ⟨#[101, 120, 105, 116]⟩]), []⟩,
 ⟨52, [.str ⟨#[99, 111, 109, 112, 117, 116, 101, 32, 53]⟩, .str ⟨#[32]⟩], .inl 1 (strR [⟨#[99, 111, 109, 112, 117, 116, 101]⟩, ⟨#[53]⟩]), []⟩,
 ⟨52, [.str ⟨#[101, 110, 116, 101, 114]⟩, .str ⟨#[32]⟩], .inl 1 (strR [⟨#[101, 110, 116, 101, 114]⟩]), []⟩,
 ⟨52, [.str ⟨#[101, 120, 105, 116]⟩, .str ⟨#[32]⟩], .inl 1 (strR [⟨#[101, 120, 105, 116]⟩]), []⟩,
 ⟨52, [.str ⟨#[99, 111, 109, 112, 117, 116, 101, 32, 48, 53]⟩, .str ⟨#[59]⟩], .inl 1 (strR [⟨#[99, 111, 109, 112, 117, 116, 101, 32, 48, 53]⟩]), []⟩,
 ⟨52, [.str ⟨#[99, 111, 109, 112, 117, 116, 101, 32, 48, 53]⟩, .str ⟨#[32]⟩], .inl 1 (strR [⟨#[99, 111, 109, 112, 117, 116, 101]⟩, ⟨#[48, 53]⟩]), []⟩,
 ⟨91, [.str ⟨#[53]⟩], .tup [.int .i64 5, .nili], []⟩,
 ⟨91, [.str ⟨#[48, 53]⟩], .tup [.int .i64 5, .nili], []⟩]
theorem kn33_ok : ∀ k ∈ kn33, KnOk Tryd.prog k := by
 intro k hk
 simp only [kn33, List.mem_cons, List.not_mem_nil, or_false] at hk
 rcases hk with rfl | rfl | rfl | rfl | rfl | rfl | rfl | rfl | rfl | rfl | rfl | rfl
 ·exact kn_join [⟨#[99, 111, 109, 112, 117, 116, 101]⟩, ⟨#[53]⟩] ⟨#[32]⟩ ⟨#[99, 111, 109, 112, 117, 116, 101, 32, 53]⟩ (of_decide_eq_true (by kernel_rfl)) (of_decide_eq_true (by kernel_rfl)) (by kernel_rfl)
 ·exact kn_join [⟨#[101, 110, 116, 101, 114]⟩] ⟨#[32]⟩ ⟨#[101, 110, 116, 101, 114]⟩ (of_decide_eq_true (by kernel_rfl)) (of_decide_eq_true (by kernel_rfl)) (by kernel_rfl)
 ·exact kn_join [⟨#[101, 120, 105, 116]⟩] ⟨#[32]⟩ ⟨#[101, 120, 105, 116]⟩ (of_decide_eq_true (by kernel_rfl)) (of_decide_eq_true (by kernel_rfl)) (by kernel_rfl)
 ·exact kn_join [⟨#[99, 111, 109, 112, 117, 116, 101, 32, 53]⟩, ⟨#[101, 110, 116, 101, 114]⟩, ⟨#[101, 120, 105, 116]⟩] ⟨#[59]⟩ ⟨#[99, 111, 109, 112, 117, 116, 101, 32, 53, 59, 101, 110, 116, 101, 114, 59, 101, 120, 105, 116]⟩ (of_decide_eq_true (by kernel_rfl)) (of_decide_eq_true (by kernel_rfl)) (by kernel_rfl)
 ·exact kn_split ⟨#[99, 111, 109, 112, 117, 116, 101, 32, 53, 59, 101, 110, 116, 101, 114, 59, 101, 120, 105, 116]⟩ ⟨#[59]⟩ [⟨#[99, 111, 109, 112, 117, 116, 101, 32, 53]⟩, ⟨#[101, 110, 116, 101, 114]⟩, ⟨#[101, 120, 105, 116]⟩] (of_decide_eq_true (by kernel_rfl)) (of_decide_eq_true (by kernel_rfl)) (by kernel_rfl) (by kernel_rfl)
 ·exact kn_split ⟨#[99, 111, 109, 112, 117, 116, 101, 32, 53]⟩ ⟨#[32]⟩ [⟨#[99, 111, 109, 112, 117, 116, 101]⟩, ⟨#[53]⟩] (of_decide_eq_true (by kernel_rfl)) (of_decide_eq_true (by kernel_rfl)) (by kernel_rfl) (by kernel_rfl)
 ·exact kn_split ⟨#[101, 110, 116, 101, 114]⟩ ⟨#[32]⟩ [⟨#[101, 110, 116, 101, 114]⟩] (of_decide_eq_true (by kernel_rfl)) (of_decide_eq_true (by kernel_rfl)) (by kernel_rfl) (by kernel_rfl)
 ·exact kn_split ⟨#[101, 120, 105, 116]⟩ ⟨#[32]⟩ [⟨#[101, 120, 105, 116]⟩] (of_decide_eq_true (by kernel_rfl)) (of_decide_eq_true (by kernel_rfl)) (by kernel_rfl) (by kernel_rfl)
 ·exact kn_split ⟨#[99, 111, 109, 112, 117, 116, 101, 32, 48, 53]⟩ ⟨#[59]⟩ [⟨#[99, 111, 109, 112, 117, 116, 101, 32, 48, 53]⟩] (of_decide_eq_true (by kernel_rfl)) (of_decide_eq_true (by kernel_rfl)) (by kernel_rfl) (by kernel_rfl)
 ·exact kn_split ⟨#[99, 111, 109, 112, 117, 116, 101, 32, 48, 53]⟩ ⟨#[32]⟩ [⟨#[99, 111, 109, 112, 117, 116, 101]⟩, ⟨#[48, 53]⟩] (of_decide_eq_true (by kernel_rfl)) (of_decide_eq_true (by kernel_rfl)) (by kernel_rfl) (by kernel_rfl)
 ·exact kn_atoi ⟨#[53]⟩ 5 (of_decide_eq_true (by kernel_rfl)) (by kernel_rfl)
 ·exact kn_atoi ⟨#[48, 53]⟩ 5 (of_decide_eq_true (by kernel_rfl)) (by kernel_rfl)
theorem fixed33 : EC Tryd.prog G33 [] [] fun x rs vs => x = 0 ∧ rs = [] ∧ vs = [.b true] := EC.closedK mixed TT_at kn33_ok (n := 100000) (by kernel_rfl)
end Go.Ab
