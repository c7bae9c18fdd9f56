/- PRINTED BY A PROGRAM (wip/tools/sy.py): shapes of the functions. -/
import Derived.Test.YtkcnlpelbcpmgaaAbZ9
import Derived.Test.YtkcnlpelbcpmgaaFns
namespace Go.Ab
open Go Go.Proofs
set_option linter.unusedVariables false

/-- How rows are spelt. -/
def sg : RowF := fun A e rows i => match e with
  | 3 => [.int .i64 (A.cI rows i 0)]
  | 4 => [.bool (A.cB rows i 0)]
  | 29 => [.int .u8 (A.cI rows i 0), .int .i64 (A.cI rows i 1), .int .i64 (A.cI rows i 2)]
  | 71 => [.int .i64 (A.cI rows i 0), .int .i64 (A.cI rows i 1), .bool (A.cB rows i 2)]
  | _ => A.cX rows i

def TT : List (Nat × AFn) := [(3, F3), (9, F9), (10, F10), (11, F11), (12, F12), (13, F13), (14, F14), (15, F15), (16, F16), (17, F17), (36, F36)]
theorem TT_at : ∀ p ∈ TT, ∃ fn, p.2.at Try.prog p.1 fn := by
  intro p hp
  simp only [TT, List.mem_cons, List.not_mem_nil, or_false] at hp
  rcases hp with rfl | rfl | rfl | rfl | rfl | rfl | rfl | rfl | rfl | rfl | rfl
  · exact ⟨_, F3_at⟩
  · exact ⟨_, F9_at⟩
  · exact ⟨_, F10_at⟩
  · exact ⟨_, F11_at⟩
  · exact ⟨_, F12_at⟩
  · exact ⟨_, F13_at⟩
  · exact ⟨_, F14_at⟩
  · exact ⟨_, F15_at⟩
  · exact ⟨_, F16_at⟩
  · exact ⟨_, F17_at⟩
  · exact ⟨_, F36_at⟩
theorem mixed : Try.prog.follows .mixedOrders = true := by kernel_rfl

-- signalbox/ceiling.New
def G10 : Sig := ⟨10, [.inl 1], [], [⟨false, ⟨[(0, .bptr 0 0)], [.box 69 [.sl 1], .arr 71 3]⟩⟩]⟩
def I10 : Inst := ⟨G10, F10, [⟨9, [.lp 9, .blk 0, .c 21], ⟨[(3, .bptr 0 0), (8, .inl 1), (9, .int .i64), (10, .int .i64)], [.box 69 [.sl 1], .arr 71 3]⟩⟩], [], []⟩
def L10 : List Sig := []

-- (*signalbox/ceiling.Locks).Len
def G17 : Sig := ⟨17, [.bptr 0 0], [.box 69 [.sl 1], .arr 71 3], [⟨false, ⟨[(0, .int .i64)], [.box 69 [.sl 1], .arr 71 3]⟩⟩]⟩
def I17 : Inst := ⟨G17, F17, [], [], []⟩
def L17 : List Sig := []

-- (*signalbox/ceiling.Locks).at
def G36 : Sig := ⟨36, [.bptr 0 0, .int .i64], [.box 69 [.sl 1], .arr 71 3], [⟨false, ⟨[(0, .c .nilp)], [.box 69 [.sl 1], .arr 71 3]⟩⟩, ⟨false, ⟨[(0, .ptr 1 0)], [.box 69 [.sl 1], .arr 71 3]⟩⟩]⟩
def I36 : Inst := ⟨G36, F36, [], [], []⟩
def L36 : List Sig := [G17]

-- (*signalbox/ceiling.Locks).Lock
def G11 : Sig := ⟨11, [.bptr 0 0, .int .i64, .int .i64], [.box 69 [.sl 1], .arr 71 3], [⟨false, ⟨[(0, .int .i64)], [.box 69 [.sl 1], .arr 71 3]⟩⟩]⟩
def I11 : Inst := ⟨G11, F11, [], [], []⟩
def L11 : List Sig := [G36]

-- (*signalbox/ceiling.Locks).Unlock
def G12 : Sig := ⟨12, [.bptr 0 0, .int .i64, .int .i64], [.box 69 [.sl 1], .arr 71 3], [⟨false, ⟨[(0, .int .i64)], [.box 69 [.sl 1], .arr 71 3]⟩⟩]⟩
def I12 : Inst := ⟨G12, F12, [], [], []⟩
def L12 : List Sig := [G36]

-- (*signalbox/ceiling.Locks).Holder DRAWN
def G15 : Sig := ⟨15, [.bptr 0 0, .int .i64], [.box 69 [.sl 1], .arr 71 3], [⟨true, ⟨[(0, .int .i64), (1, .sb)], [.box 69 [.sl 1], .arr 71 3]⟩⟩]⟩
def I15 : Inst := ⟨G15, F15, [], [], []⟩
def L15 : List Sig := [G36]

-- (*signalbox/ceiling.Locks).Held
def G14 : Sig := ⟨14, [.bptr 0 0, .int .i64], [.box 69 [.sl 1], .arr 71 3], [⟨false, ⟨[(0, .sl 2)], [.box 69 [.sl 1], .arr 71 3, .arr 3 1]⟩⟩]⟩
def I14 : Inst := ⟨G14, F14, [⟨9, [.lp 9, .blk 0, .c 27], ⟨[(0, .bptr 0 0), (1, .int .i64), (5, .sl 2), (9, .int .i64), (10, .int .i64)], [.box 69 [.sl 1], .arr 71 3, .arr 3 1]⟩⟩], [], []⟩
def L14 : List Sig := [G17, G36]

-- (*signalbox/ceiling.Locks).Level
def G16 : Sig := ⟨16, [.bptr 0 0, .int .i64, .int .i64], [.box 69 [.sl 1], .arr 71 3], [⟨false, ⟨[(0, .int .i64)], [.box 69 [.sl 1], .arr 71 3]⟩⟩]⟩
def I16 : Inst := ⟨G16, F16, [⟨7, [.lp 7, .blk 0, .c 19], ⟨[(0, .bptr 0 0), (2, .int .i64), (11, .sl 2), (12, .int .i64), (13, .int .i64)], [.box 69 [.sl 1], .arr 71 3, .arr 3 1]⟩⟩], [], []⟩
def L16 : List Sig := [G14, G36]

-- (*signalbox/ceiling.Locks).Free
def G13 : Sig := ⟨13, [.bptr 0 0, .int .i64], [.box 69 [.sl 1], .arr 71 3], [⟨false, ⟨[(0, .int .i64)], [.box 69 [.sl 1], .arr 71 3]⟩⟩]⟩
def I13 : Inst := ⟨G13, F13, [⟨9, [.lp 9, .blk 0, .c 21], ⟨[(0, .bptr 0 0), (1, .int .i64), (5, .sl 2), (11, .sl 2), (12, .int .i64), (13, .int .i64)], [.box 69 [.sl 1], .arr 71 3, .arr 3 1]⟩⟩], [], []⟩
def L13 : List Sig := [G14, G12]

-- signalbox/signalboxlaw13.fixed
def G9 : Sig := ⟨9, [], [], [⟨false, ⟨[(0, .sb)], []⟩⟩]⟩
def I9 : Inst := ⟨G9, F9, [], [], []⟩
def L9 : List Sig := [G10, G11, G12, G15, G16, G13, G14]

-- (*signalbox/ceiling.Locks).Len
def G17a : Sig := ⟨17, [.c .nilp], [], [⟨false, ⟨[(0, .int .i64)], []⟩⟩]⟩
def I17a : Inst := ⟨G17a, F17, [], [], []⟩
def L17a : List Sig := []

-- (*signalbox/ceiling.Locks).at
def G36a : Sig := ⟨36, [.c .nilp, .int .i64], [], [⟨false, ⟨[(0, .c .nilp)], []⟩⟩]⟩
def I36a : Inst := ⟨G36a, F36, [], [], []⟩
def L36a : List Sig := [G17a]

-- (*signalbox/ceiling.Locks).Holder
def G15a : Sig := ⟨15, [.c .nilp, .int .i64], [], [⟨true, ⟨[(0, .int .i64), (1, .sb)], []⟩⟩]⟩
def I15a : Inst := ⟨G15a, F15, [], [], []⟩
def L15a : List Sig := [G36a]

-- (*signalbox/ceiling.Locks).Held
def G14a : Sig := ⟨14, [.c .nilp, .int .i64], [], [⟨false, ⟨[(0, .c .nils)], []⟩⟩]⟩
def I14a : Inst := ⟨G14a, F14, [⟨9, [.lp 9, .blk 0, .c 27], ⟨[(0, .c .nilp), (1, .int .i64), (5, .c .nils), (9, .int .i64), (10, .int .i64)], []⟩⟩], [], []⟩
def L14a : List Sig := [G17a, G36a]

-- (*signalbox/ceiling.Locks).Free
def G13a : Sig := ⟨13, [.c .nilp, .int .i64], [], [⟨false, ⟨[(0, .int .i64)], []⟩⟩]⟩
def I13a : Inst := ⟨G13a, F13, [⟨9, [.lp 9, .blk 0, .c 21], ⟨[(0, .c .nilp), (1, .int .i64), (5, .c .nils), (11, .c .nils), (12, .int .i64), (13, .int .i64)], []⟩⟩], [], []⟩
def L13a : List Sig := [G14a]

-- (*signalbox/ceiling.Locks).Lock
def G11a : Sig := ⟨11, [.c .nilp, .int .i64, .int .i64], [], [⟨false, ⟨[(0, .int .i64)], []⟩⟩]⟩
def I11a : Inst := ⟨G11a, F11, [], [], []⟩
def L11a : List Sig := [G36a]

-- (*signalbox/ceiling.Locks).Level
def G16a : Sig := ⟨16, [.c .nilp, .int .i64, .int .i64], [], [⟨false, ⟨[(0, .int .i64)], []⟩⟩]⟩
def I16a : Inst := ⟨G16a, F16, [⟨7, [.lp 7, .blk 0, .c 19], ⟨[(0, .c .nilp), (2, .int .i64), (11, .c .nils), (12, .int .i64), (13, .int .i64)], []⟩⟩], [], []⟩
def L16a : List Sig := [G14a]

-- signalbox/signalboxlaw13.CeilingPlays DRAWN
def G3 : Sig := ⟨3, [.inl 1, .inl 3, .int .i64, .int .i64], [], [⟨false, ⟨[(0, .sb)], []⟩⟩]⟩
def I3 : Inst := ⟨G3, F3, [⟨29, [.lp 29, .blk 0, .c 178], ⟨[(0, .inl 1), (2, .int .i64), (3, .int .i64), (9, .bptr 0 0), (10, .sl 1), (11, .sl 2), (45, .inl 3), (46, .int .i64), (47, .int .i64)], [.box 69 [.sl 3], .arr 4 1, .arr 3 1, .arr 71 3]⟩⟩,
  ⟨43, [.blk 1, .c 177, .lp 29, .blk 0, .c 178], ⟨[(0, .inl 1), (2, .int .i64), (3, .int .i64), (9, .bptr 0 0), (10, .sl 1), (11, .sl 2), (13, .bptr 3 0), (14, .sb), (15, .int .i64), (45, .inl 3), (46, .int .i64), (47, .int .i64)], [.box 69 [.sl 4], .arr 4 1, .arr 3 1, .box 29 [.int .u8, .int .i64, .int .i64], .arr 71 3]⟩⟩,
  ⟨50, [.blk 2, .c 125, .blk 1, .c 177, .lp 29, .blk 0, .c 178], ⟨[(0, .inl 1), (2, .int .i64), (3, .int .i64), (9, .bptr 0 0), (10, .sl 1), (11, .sl 2), (13, .bptr 3 0), (14, .sb), (15, .int .i64), (45, .inl 3), (46, .int .i64), (47, .int .i64)], [.box 69 [.sl 4], .arr 4 1, .arr 3 1, .box 29 [.int .u8, .int .i64, .int .i64], .arr 71 3]⟩⟩,
  ⟨61, [.blk 2, .c 125, .blk 1, .c 177, .lp 29, .blk 0, .c 178], ⟨[(0, .inl 1), (2, .int .i64), (3, .int .i64), (9, .bptr 0 0), (10, .sl 1), (11, .sl 2), (13, .bptr 3 0), (15, .int .i64), (45, .inl 3), (46, .int .i64), (47, .int .i64)], [.box 69 [.sl 4], .arr 4 1, .arr 3 1, .box 29 [.int .u8, .int .i64, .int .i64], .arr 71 3]⟩⟩,
  ⟨71, [.blk 2, .c 125, .blk 1, .c 177, .lp 29, .blk 0, .c 178], ⟨[(0, .inl 1), (2, .int .i64), (3, .int .i64), (9, .bptr 0 0), (10, .sl 1), (11, .sl 2), (13, .bptr 3 0), (14, .sb), (15, .int .i64), (45, .inl 3), (46, .int .i64), (47, .int .i64)], [.box 69 [.sl 4], .arr 4 1, .arr 3 1, .box 29 [.int .u8, .int .i64, .int .i64], .arr 71 3]⟩⟩,
  ⟨82, [.blk 2, .c 125, .blk 1, .c 177, .lp 29, .blk 0, .c 178], ⟨[(0, .inl 1), (2, .int .i64), (3, .int .i64), (9, .bptr 0 0), (10, .sl 1), (11, .sl 2), (13, .bptr 3 0), (15, .int .i64), (45, .inl 3), (46, .int .i64), (47, .int .i64)], [.box 69 [.sl 4], .arr 4 1, .arr 3 1, .box 29 [.int .u8, .int .i64, .int .i64], .arr 71 3]⟩⟩,
  ⟨92, [.blk 2, .c 125, .blk 1, .c 177, .lp 29, .blk 0, .c 178], ⟨[(0, .inl 1), (2, .int .i64), (3, .int .i64), (9, .bptr 0 0), (10, .sl 1), (11, .sl 2), (13, .bptr 3 0), (45, .inl 3), (46, .int .i64), (47, .int .i64)], [.box 69 [.sl 4], .arr 4 1, .arr 3 1, .box 29 [.int .u8, .int .i64, .int .i64], .arr 71 3]⟩⟩,
  ⟨99, [.lp 99, .blk 5, .c 117, .blk 2, .c 125, .blk 1, .c 177, .lp 29, .blk 0, .c 178], ⟨[(0, .inl 1), (2, .int .i64), (3, .int .i64), (9, .bptr 0 0), (10, .sl 1), (11, .sl 2), (13, .bptr 3 0), (16, .int .i64), (45, .inl 3), (46, .int .i64), (47, .int .i64), (130, .int .i64), (131, .int .i64)], [.box 69 [.sl 4], .arr 4 1, .arr 3 1, .box 29 [.int .u8, .int .i64, .int .i64], .arr 71 3]⟩⟩,
  ⟨125, [.blk 1, .c 177, .lp 29, .blk 0, .c 178], ⟨[(0, .inl 1), (2, .int .i64), (3, .int .i64), (9, .bptr 0 0), (10, .sl 1), (11, .sl 2), (45, .inl 3), (46, .int .i64), (47, .int .i64)], [.box 69 [.sl 3], .arr 4 1, .arr 3 1, .arr 71 3]⟩⟩,
  ⟨134, [.lp 134, .blk 7, .c 170, .blk 1, .c 177, .lp 29, .blk 0, .c 178], ⟨[(0, .inl 1), (2, .int .i64), (3, .int .i64), (9, .bptr 0 0), (10, .sl 1), (11, .sl 2), (18, .int .i64), (19, .int .i64), (20, .sl 3), (45, .inl 3), (46, .int .i64), (47, .int .i64), (164, .int .i64), (165, .int .i64)], [.box 69 [.sl 4], .arr 4 1, .arr 3 1, .arr 3 1, .arr 71 3]⟩⟩,
  ⟨154, [.blk 8, .c 169, .lp 134, .blk 7, .c 170, .blk 1, .c 177, .lp 29, .blk 0, .c 178], ⟨[(0, .inl 1), (2, .int .i64), (3, .int .i64), (9, .bptr 0 0), (10, .sl 1), (11, .sl 2), (18, .int .i64), (19, .int .i64), (20, .sl 3), (21, .int .i64), (45, .inl 3), (46, .int .i64), (47, .int .i64), (164, .int .i64), (165, .int .i64)], [.box 69 [.sl 4], .arr 4 1, .arr 3 1, .arr 3 1, .arr 71 3]⟩⟩,
  ⟨170, [.blk 1, .c 177, .lp 29, .blk 0, .c 178], ⟨[(0, .inl 1), (2, .int .i64), (3, .int .i64), (9, .bptr 0 0), (10, .sl 1), (11, .sl 2), (18, .int .i64), (19, .int .i64), (20, .sl 3), (45, .inl 3), (46, .int .i64), (47, .int .i64)], [.box 69 [.sl 4], .arr 4 1, .arr 3 1, .arr 3 1, .arr 71 3]⟩⟩,
  ⟨178, [], ⟨[(0, .inl 1), (2, .int .i64), (3, .int .i64), (9, .bptr 0 0)], [.box 69 [.sl 1], .arr 71 3]⟩⟩,
  ⟨182, [], ⟨[(0, .inl 1), (2, .int .i64), (3, .int .i64), (9, .bptr 0 0), (24, .c .nilp), (26, .sb)], [.box 69 [.sl 1], .arr 71 3]⟩⟩], [], [(60, [true, false, false])]⟩
def L3 : List Sig := [G9, G10, G15a, G14, G17, G17a, G13a, G14a, G11a, G16a, G11, G12, G13, G15, G16]

end Go.Ab
