import Derived.Test.YtmmoffbompnihaaDoorQTlF
import Derived.Test.YtmmoffbompnihaaDoorQSoB
import Derived.Shelf.Strings.Cut
namespace Go.Ab
open Go Go.Proofs Go.Lib
set_option linter.unusedVariables false
set_option linter.unusedSimpArgs false
set_option maxRecDepth 100000
set_option maxHeartbeats 1000000
theorem cut_A (s sep a b : List UInt8) (ok : Bool) (h1 : s.length < 4294967281) (h : Lib.cut s sep = (a, b, ok)) :
  CallsA Tryd.prog 56 [.str (By s), .str (By sep)] [] fun r H => r = .tup [.str (By a), .str (By b), .bool ok] ∧ H = [] := by
 refine CallsA.ofBelow ⟨Tryd.f56, Tryd.func56, by kernel_rfl, by kernel_rfl⟩ fun S w vs hw hr => ?_
 simp only [rels, rel] at hr
 obtain ⟨v, _, rfl, rfl, v2, _, rfl, rfl, rfl⟩ := hr
 obtain ⟨v, hv, ⟨m, rfl⟩, _⟩ := hw.gl 0 0 _ rfl
 have e1 : Lib.cut (By s).data.toList (By sep).data.toList = (a, b, ok) := h
 refine ⟨.tuple #[.string (By a), .string (By b), .bool ok], ?_, (Any.strings_Cut Tryd.lays145 (By s) (By sep) m w h1 (hw.fro _ _ _ hv)).mono ?_⟩
 ·simp only [rel, rels]
  exact ⟨_, rfl, _, _, rfl, rfl, _, _, rfl, rfl, _, _, rfl, rfl, rfl⟩
 ·rintro e w' ⟨rfl, n, rfl⟩
  rw [e1]
  exact ⟨rfl, ⟨rfl, rfl, rfl, Nat.le_refl _, fun k hk => rfl⟩⟩
theorem dd {u : Nat} (h : u < 10) : decDigits u = [UInt8.ofNat (48 + u)] := by rw [decDigits, dif_pos h]
theorem i0 : itoa 0 = [48] := by unfold itoa; rw [if_neg (by decide), show (0 : Int).toNat = 0 from rfl, dd (by decide)]; rfl
theorem i1 : itoa 1 = [49] := by unfold itoa; rw [if_neg (by decide), show (1 : Int).toNat = 1 from rfl, dd (by decide)]; rfl
theorem i3 : itoa 3 = [51] := by unfold itoa; rw [if_neg (by decide), show (3 : Int).toNat = 3 from rfl, dd (by decide)]; rfl
def sA (l : List UInt8) : AV := .str ⟨⟨l⟩⟩
def iA (z : Int) : AV := .int .i64 z
def ln : List UInt8 := [51, 32, 115, 116, 97, 114, 116, 32, 49, 32, 48, 32, 48, 32, 48, 32, 48]
def recT3 : Rc := ⟨3, 3, 1, 0, 0, 0, 0⟩
theorem okT : okR recT3 := by decide
theorem wfT : WfR recT3 := ⟨⟨by decide, by decide⟩, ⟨by decide, by decide⟩, ⟨by decide, by decide⟩, ⟨by decide, by decide⟩, ⟨by decide, by decide⟩, ⟨by decide, by decide⟩⟩
theorem lineT : lineR recT3 = ln := by
 show Lib.join [itoa 3, nam 3, itoa 1, itoa 0, itoa 0, itoa 0, itoa 0] [32] = ln
 rw [i3, i1, i0]
 rfl
def rcA : List AV := [iA 3, iA 3, iA 1, iA 0, iA 0, iA 0, iA 0]
def knT : List Kn := [
 ⟨13, [.agg rcA], .tup [sA ln, .sb true], []⟩,
 ⟨15, [sA ln], .tup [.agg rcA, .sb true], []⟩,
 ⟨56, [sA (ln ++ [10]), sA [10]], .tup [sA ln, sA [], .bool true], []⟩]
theorem kn_cast {P : Program} {k k' : Kn} (e : k = k') (h : KnOk P k) : KnOk P k' := e ▸ h
theorem knT_ok : ∀ k ∈ knT, KnOk Tryd.prog k := by
 intro k hk
 simp only [knT, List.mem_cons, List.not_mem_nil, or_false] at hk
 rcases hk with h | h | h <;> rw [h]
 ·have h1 := Line_E wfT
  have e1 : ansR recT3 = [.s (By ln), .b true] := by unfold ansR; rw [if_pos okT, lineT]
  rw [e1] at h1
  have h2 := EC.kn (ex := ⟨true, ⟨[(0, .str), (1, .sb)], []⟩⟩) h1 rfl rfl trivial
  exact kn_cast (by kernel_rfl) h2
 ·have h1 := Parse_E delE wfT okT
  rw [lineT] at h1
  have h2 := EC.kn (ex := ⟨true, ⟨[(0, .agg zz0), (1, .sb)], []⟩⟩) h1 rfl rfl trivial
  exact kn_cast (by kernel_rfl) h2
 ·exact kn_of (cut_A (ln ++ [10]) [10] ln [] true (by decide) (by decide))
theorem fixed12 : EC Tryd.prog G12 [] [] fun x rs vs => x = 0 ∧ rs = [] ∧ vs = [.b true] := EC.closedK mixed TT_at knT_ok (n := 100000) (by kernel_rfl)
theorem Lines3d (t : Int) (wt : (Lit.int .i64 t).wf = true) (k : Int) (wk : (Lit.int .i64 k).wf = true) (a : Int) (wa : (Lit.int .i64 a).wf = true) (b : Int) (wb : (Lit.int .i64 b).wf = true) (c : Int) (wc : (Lit.int .i64 c).wf = true) (d : Int) (wd : (Lit.int .i64 d).wf = true) (e : Int) (we : (Lit.int .i64 e).wf = true) :
  EC Tryd.prog G3 [] [.i t, .i k, .i a, .i b, .i c, .i d, .i e] fun x rs vs => x = 0 ∧ vs = [.b true] := Lines3 delE fixed12 t wt k wk a wa b wb c wc d wd e we
end Go.Ab
