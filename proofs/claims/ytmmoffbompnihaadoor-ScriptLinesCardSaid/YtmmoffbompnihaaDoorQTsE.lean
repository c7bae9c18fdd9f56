import Derived.Test.YtmmoffbompnihaaDoorQTsD
import Derived.Test.YtmmoffbompnihaaDoorQSoB
import Derived.Shelf.Strings.Cut
namespace Go.Ab
open Go Go.Proofs Go.Lib
set_option linter.unusedVariables false
set_option linter.unusedSimpArgs false
set_option maxRecDepth 100000
set_option maxHeartbeats 1000000
theorem okE_no {e : Ev} (ok : okE e) : ∀ p ∈ w5 e, (32 : UInt8) ∉ p := by
 obtain ⟨k1, k5, st, sa, sb, sc, hz⟩ := ok
 intro p hp hc
 simp only [w5, List.mem_cons, List.not_mem_nil, or_false] at hp
 rcases hp with h | h | h | h | h <;> rw [h] at hc
 ·exact (itoa_chars st.1 _ hc).1 rfl
 ·exact (nam_chars _ _ hc).1 rfl
 ·exact (itoa_chars sa.1 _ hc).1 rfl
 ·exact (itoa_chars sb.1 _ hc).1 rfl
 ·exact (itoa_chars sc.1 _ hc).1 rfl
theorem Parse_E {e : Ev} (ok : okE e) : EC Tryd.prog G26 [] [.s (By (lineE e))] fun x rs vs => x = 0 ∧ rs = [] ∧ vs = [.i e.t, .i e.k, .i e.a, .i e.b, .i e.c, .b true] := by
 obtain ⟨k1, k5, st, sa, sb, sc, hz⟩ := id ok
 have hno := okE_no ok
 have hl := w5_len ⟨st, sa, sb, sc⟩
 have hkk : ((e.k.toNat : Nat) : Int) = e.k := by omega
 have nt := Number_E st
 have na := Number_E sa
 have nb := Number_E sb
 have nc := Number_E sc
 refine E26 fun EV V => ?_
 by_cases h5 : e.k = 5
 ·have hS := Split_E (itoa e.t) [nam e.k, itoa e.a, itoa e.b, itoa e.c] 32 hno (Nat.lt_of_le_of_lt (join_len (c := 32) (d := 21) (w5 e) hl) (by simp [w5]))
  rw [show lineE e = Lib.join (itoa e.t :: [nam e.k, itoa e.a, itoa e.b, itoa e.c]) [32] by unfold lineE; rw [if_pos h5]; rfl]
  refine hS.mono ?_
  rintro _ _ _ ⟨rfl, rfl, rfl⟩
  refine ⟨rfl, _, rfl, rfl, fun h => by simp at h, fun _ => ⟨by omega, rfl, names_E.mono ?_⟩⟩
  rintro _ _ _ ⟨rfl, rfl, R, rfl, hR⟩
  have hI := Idx_E hR (k := e.k.toNat) (by omega)
  rw [hkk] at hI
  refine ⟨rfl, _, rfl, rfl, EC.mono hI ?_⟩
  rintro _ _ _ ⟨rfl, rfl, rfl⟩
  refine ⟨rfl, _, rfl, rfl, V.p14 ⟨fun _ => (Words_E e.k).mono ?_, fun h => by omega⟩⟩
  rintro _ _ _ ⟨rfl, rfl, rfl⟩
  rw [if_pos h5]
  refine ⟨rfl, _, rfl, rfl, fun h => absurd rfl h, fun _ => V.p26b (EC.mono nt ?_)⟩
  rintro _ _ _ ⟨rfl, rfl, rfl⟩
  refine ⟨rfl, _, _, rfl, rfl, fun h => (by cases h), fun _ => EC.mono na ?_⟩
  rintro _ _ _ ⟨rfl, rfl, rfl⟩
  refine ⟨rfl, _, _, rfl, rfl, fun h => (by cases h), fun _ => EC.mono nb ?_⟩
  rintro _ _ _ ⟨rfl, rfl, rfl⟩
  refine ⟨rfl, _, _, rfl, rfl, fun h => (by cases h), fun _ => EC.mono nc ?_⟩
  rintro _ _ _ ⟨rfl, rfl, rfl⟩
  exact ⟨rfl, _, _, rfl, rfl, fun h => (by cases h), fun _ => ⟨rfl, rfl, rfl⟩⟩
 ·have hl3 : ∀ x ∈ w3 e, x.length ≤ 21 := fun x hx => hl x (by simp only [w3, w5, List.mem_cons, List.not_mem_nil, or_false] at hx ⊢; rcases hx with h | h | h <;> simp [h])
  have hS := Split_E (itoa e.t) [nam e.k, itoa e.a] 32 (fun p hp => hno p (by simp only [w5, List.mem_cons, List.not_mem_nil, or_false] at hp ⊢; rcases hp with h | h | h <;> simp [h])) (Nat.lt_of_le_of_lt (join_len (c := 32) (d := 21) (w3 e) hl3) (by simp [w3]))
  rw [show lineE e = Lib.join (itoa e.t :: [nam e.k, itoa e.a]) [32] by unfold lineE; rw [if_neg h5]; rfl]
  refine hS.mono ?_
  rintro _ _ _ ⟨rfl, rfl, rfl⟩
  refine ⟨rfl, _, rfl, rfl, fun h => by simp at h, fun _ => ⟨by omega, rfl, names_E.mono ?_⟩⟩
  rintro _ _ _ ⟨rfl, rfl, R, rfl, hR⟩
  have hI := Idx_E hR (k := e.k.toNat) (by omega)
  rw [hkk] at hI
  refine ⟨rfl, _, rfl, rfl, EC.mono hI ?_⟩
  rintro _ _ _ ⟨rfl, rfl, rfl⟩
  refine ⟨rfl, _, rfl, rfl, V.p14 ⟨fun _ => (Words_E e.k).mono ?_, fun h => by omega⟩⟩
  rintro _ _ _ ⟨rfl, rfl, rfl⟩
  rw [if_neg h5]
  refine ⟨rfl, _, rfl, rfl, fun h => absurd rfl h, fun _ => V.p26a (EC.mono nt ?_)⟩
  rintro _ _ _ ⟨rfl, rfl, rfl⟩
  refine ⟨rfl, _, _, rfl, rfl, fun h => (by cases h), fun _ => EC.mono na ?_⟩
  rintro _ _ _ ⟨rfl, rfl, rfl⟩
  exact ⟨rfl, _, _, rfl, rfl, fun h => (by cases h), fun _ => ⟨rfl, rfl, by rw [(hz h5).1, (hz h5).2]⟩⟩
theorem ParseNil_E : EC Tryd.prog G26 [] [.s (By [])] fun x rs vs => x = 0 ∧ rs = [] ∧ vs = [.i 0, .i 0, .i 0, .i 0, .i 0, .b false] := by
 refine E26 fun EV V => ?_
 have hS := Split_E [] [] 32 (fun p hp => by simp at hp; subst hp; simp) (by rw [Lib.join_one]; simp)
 rw [Lib.join_one] at hS
 refine hS.mono ?_
 rintro _ _ _ ⟨rfl, rfl, rfl⟩
 exact ⟨rfl, _, rfl, rfl, fun _ => ⟨rfl, rfl, rfl⟩, fun h => by simp at h⟩
theorem dd {u : Nat} (h : u < 10) : decDigits u = [UInt8.ofNat (48 + u)] := by rw [decDigits, dif_pos h]
theorem i0 : itoa 0 = [48] := by rw [itoa_dec (by decide), show (0 : Int).toNat = 0 from rfl, dd (by decide)]; rfl
theorem i1 : itoa 1 = [49] := by rw [itoa_dec (by decide), show (1 : Int).toNat = 1 from rfl, dd (by decide)]; rfl
theorem i3 : itoa 3 = [51] := by rw [itoa_dec (by decide), show (3 : Int).toNat = 3 from rfl, dd (by decide)]; rfl
theorem i9 : itoa 9 = [57] := by rw [itoa_dec (by decide), show (9 : Int).toNat = 9 from rfl, dd (by decide)]; rfl
theorem i10 : itoa 10 = [49, 48] := by
 rw [itoa_dec (by decide), show (10 : Int).toNat = 10 from rfl, decDigits, dif_neg (by decide), show 10 / 10 = 1 from rfl, dd (by decide)]
 rfl
def sA (l : List UInt8) : AV := .str ⟨⟨l⟩⟩
def iA (z : Int) : AV := .int .i64 z
def lT : List UInt8 := [48, 32, 116, 105, 109, 101, 114, 32, 49, 32, 49, 48, 32, 51]
def lR : List UInt8 := [51, 32, 114, 101, 108, 101, 97, 115, 101, 32, 48]
def lU : List UInt8 := [117, 110, 116, 105, 108, 32, 57]
def eT : Ev := ⟨0, 5, 1, 10, 3⟩
def eR : Ev := ⟨3, 1, 0, 0, 0⟩
theorem okT : okE eT := by decide
theorem okR : okE eR := by decide
theorem lineT : lineE eT = lT := by
 show Lib.join [itoa 0, nam 5, itoa 1, itoa 10, itoa 3] [32] = lT
 rw [i0, i1, i10, i3]
 rfl
theorem lineR : lineE eR = lR := by
 show Lib.join [itoa 3, nam 1, itoa 0] [32] = lR
 rw [i3, i0]
 rfl
def knS : List Kn := [
 ⟨24, [.agg [iA 0, iA 5, iA 1, iA 10, iA 3]], .tup [sA lT, .sb true], []⟩,
 ⟨26, [sA lT], .tup [.agg [iA 0, iA 5, iA 1, iA 10, iA 3], .sb true], []⟩,
 ⟨26, [sA lR], .tup [.agg [iA 3, iA 1, iA 0, iA 0, iA 0], .sb true], []⟩,
 ⟨52, [sA (lR ++ [10] ++ lU), sA [10]], .inl 1 [[sA lR], [sA lU]], []⟩,
 ⟨56, [sA lU, sA [32]], .tup [sA [117, 110, 116, 105, 108], sA [57], .bool true], []⟩,
 ⟨70, [sA [57]], .tup [iA 9, .sb true], []⟩]
theorem cut_A (s sep a b : List UInt8) (ok : Bool) (h1 : s.length < 4294967281) (h : Lib.cut s sep = (a, b, ok)) :
  CallsA Tryd.prog 56 [.str (By s), .str (By sep)] [] fun r H => r = .tup [.str (By a), .str (By b), .bool ok] ∧ H = [] := by
 refine CallsA.ofBelow ⟨Tryd.f56, Tryd.func56, by kernel_rfl, by kernel_rfl⟩ fun S w vs hw hr => ?_
 simp only [rels, rel] at hr
 obtain ⟨v, _, rfl, rfl, v2, _, rfl, rfl, rfl⟩ := hr
 obtain ⟨v, hv, ⟨m, rfl⟩, _⟩ := hw.gl 0 0 _ rfl
 have e1 : Lib.cut (By s).data.toList (By sep).data.toList = (a, b, ok) := h
 refine ⟨.tuple #[.string (By a), .string (By b), .bool ok], ?_, (Any.strings_Cut Tryd.lays145 (By s) (By sep) m w h1 (hw.fro _ _ _ hv)).mono ?_⟩
 ·simp only [rel, rels]
  exact ⟨_, rfl, _, _, rfl, rfl, _, _, rfl, rfl, _, _, rfl, rfl, rfl⟩
 ·rintro e w' ⟨rfl, n, rfl⟩
  rw [e1]
  exact ⟨rfl, ⟨rfl, rfl, rfl, Nat.le_refl _, fun k hk => rfl⟩⟩
theorem kn_cast {P : Program} {k k' : Kn} (e : k = k') (h : KnOk P k) : KnOk P k' := e ▸ h
theorem knS_ok : ∀ k ∈ knS, KnOk Tryd.prog k := by
 intro k hk
 simp only [knS, List.mem_cons, List.not_mem_nil, or_false] at hk
 rcases hk with h | h | h | h | h | h <;> rw [h]
 ·have h1 := Line_E eT
  have e1 : ansE eT = [.s (By lT), .b true] := by unfold ansE; rw [if_pos okT, lineT]
  rw [e1] at h1
  have h2 := EC.kn (ex := ⟨true, ⟨[(0, .str), (1, .sb)], []⟩⟩) h1 rfl rfl trivial
  exact kn_cast (by kernel_rfl) h2
 ·have h1 := Parse_E okT
  rw [lineT] at h1
  have h2 := EC.kn (ex := ⟨true, ⟨[(0, .agg zz0), (1, .sb)], []⟩⟩) h1 rfl rfl trivial
  exact kn_cast (by kernel_rfl) h2
 ·have h1 := Parse_E okR
  rw [lineR] at h1
  have h2 := EC.kn (ex := ⟨true, ⟨[(0, .agg zz0), (1, .sb)], []⟩⟩) h1 rfl rfl trivial
  exact kn_cast (by kernel_rfl) h2
 ·have h1 := Split_E lR [lU] 10 (by decide) (by decide)
  have h2 := EC.kn (ex := ⟨false, ⟨[(0, .inl 1)], []⟩⟩) h1 rfl rfl trivial
  exact kn_cast (by kernel_rfl) h2
 ·exact kn_of (cut_A lU [32] [117, 110, 116, 105, 108] [57] true (by decide) (by decide))
 ·have h1 := Number_E (z := 9) (by decide)
  rw [i9] at h1
  have h2 := EC.kn (ex := ⟨true, ⟨[(0, .int .i64), (1, .sb)], []⟩⟩) h1 rfl rfl trivial
  exact kn_cast (by kernel_rfl) h2
theorem fixed23 : EC Tryd.prog G23 [] [] fun x rs vs => x = 0 ∧ rs = [] ∧ vs = [.b true] := EC.closedK mixed TT_at knS_ok (n := 100000) (by kernel_rfl)
theorem Lines6 (t : Int) (_ : (Lit.int .i64 t).wf = true) (k : Int) (_ : (Lit.int .i64 k).wf = true) (a : Int) (_ : (Lit.int .i64 a).wf = true) (b : Int) (_ : (Lit.int .i64 b).wf = true) (c : Int) (_ : (Lit.int .i64 c).wf = true) :
  EC Tryd.prog G6 [] [.i t, .i k, .i a, .i b, .i c] fun x rs vs => x = 0 ∧ vs = [.b true] := by
 refine E6 fun EV V => fixed23.mono ?_
 rintro _ _ _ ⟨rfl, rfl, rfl⟩
 refine ⟨rfl, _, rfl, rfl, fun h => (by cases h), fun _ => (Line_E ⟨t, k, a, b, c⟩).mono ?_⟩
 rintro _ _ _ ⟨rfl, rfl, rfl⟩
 by_cases ok : okE ⟨t, k, a, b, c⟩
 ·refine ⟨rfl, By (lineE ⟨t, k, a, b, c⟩), true, rfl, by unfold ansE; rw [if_pos ok], (RLine_E ⟨t, k, a, b, c⟩).mono ?_⟩
  rintro _ _ _ ⟨rfl, rfl, rfl⟩
  refine ⟨rfl, By (lineE ⟨t, k, a, b, c⟩), true, rfl, by unfold ansE; rw [if_pos ok], (Parse_E ok).mono ?_⟩
  rintro _ _ _ ⟨rfl, rfl, rfl⟩
  refine ⟨rfl, _, _, _, _, _, _, rfl, rfl, fun _ => ⟨fun _ => ⟨fun _ => ⟨fun _ => ⟨rfl, by simp⟩, fun h => (by cases h)⟩, fun h => (by cases h)⟩, fun h => (by cases h)⟩, fun h => ?_⟩
  rw [sopE] at h; simp at h
 ·refine ⟨rfl, By [], false, rfl, by unfold ansE; rw [if_neg ok], (RLine_E ⟨t, k, a, b, c⟩).mono ?_⟩
  rintro _ _ _ ⟨rfl, rfl, rfl⟩
  refine ⟨rfl, By [], false, rfl, by unfold ansE; rw [if_neg ok], ParseNil_E.mono ?_⟩
  rintro _ _ _ ⟨rfl, rfl, rfl⟩
  refine ⟨rfl, _, _, _, _, _, _, rfl, rfl, fun _ => ⟨fun _ => ⟨fun _ => ⟨fun h => (by cases h), fun _ => ⟨rfl, rfl⟩⟩, fun h => (by cases h)⟩, fun h => (by cases h)⟩, fun h => ?_⟩
  rw [sopE] at h; simp at h
end Go.Ab
