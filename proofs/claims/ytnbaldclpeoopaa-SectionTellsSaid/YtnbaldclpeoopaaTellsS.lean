/- PRINTED BY A PROGRAM (wip/tools/sy.py): shapes of the functions. -/
import Derived.Test.YtnbaldclpeoopaaAbZr
import Derived.Test.YtnbaldclpeoopaaFns
namespace Go.Ab
open Go Go.Proofs
set_option linter.unusedVariables false

/-- How rows are spelt. -/
def sg : RowF := fun A e rows i => match e with
  | 3 => [.int .i64 (A.cI rows i 0)]
  | 36 => [.int .i64 (A.cI rows i 0), .int .i64 (A.cI rows i 1), .int .i64 (A.cI rows i 2), .int .i64 (A.cI rows i 3), .int .i64 (A.cI rows i 4), .int .i64 (A.cI rows i 5), .inl 3 (A.cR rows i 6)]
  | 39 => [.int .i64 (A.cI rows i 0), .int .i64 (A.cI rows i 1), .int .i64 (A.cI rows i 2)]
  | 53 => [.int .i64 (A.cI rows i 0), .int .i64 (A.cI rows i 1)]
  | 84 => [.int .i64 (A.cI rows i 0), .int .i64 (A.cI rows i 1), .bool (A.cB rows i 2)]
  | _ => A.cX rows i

def TT : List (Nat × AFn) := [(4, F4), (7, F7), (14, F14), (15, F15), (16, F16), (17, F17), (18, F18), (19, F19), (20, F20), (21, F21), (22, F22), (34, F34), (35, F35), (36, F36), (37, F37), (38, F38), (39, F39), (40, F40), (41, F41), (46, F46), (47, F47), (48, F48), (49, F49), (50, F50), (51, F51), (52, F52), (56, F56), (57, F57), (58, F58), (59, F59), (60, F60), (61, F61), (62, F62), (63, F63), (64, F64), (65, F65), (66, F66), (67, F67), (68, F68), (71, F71), (72, F72), (73, F73), (74, F74), (75, F75), (76, F76), (77, F77), (78, F78), (79, F79)]
theorem TT_at : ∀ p ∈ TT, ∃ fn, p.2.at Try.prog p.1 fn := by
  intro p hp
  simp only [TT, List.mem_cons, List.not_mem_nil, or_false] at hp
  rcases hp with rfl | rfl | rfl | rfl | rfl | rfl | rfl | rfl | rfl | rfl | rfl | rfl | rfl | rfl | rfl | rfl | rfl | rfl | rfl | rfl | rfl | rfl | rfl | rfl | rfl | rfl | rfl | rfl | rfl | rfl | rfl | rfl | rfl | rfl | rfl | rfl | rfl | rfl | rfl | rfl | rfl | rfl | rfl | rfl | rfl | rfl | rfl | rfl
  · exact ⟨_, F4_at⟩
  · exact ⟨_, F7_at⟩
  · exact ⟨_, F14_at⟩
  · exact ⟨_, F15_at⟩
  · exact ⟨_, F16_at⟩
  · exact ⟨_, F17_at⟩
  · exact ⟨_, F18_at⟩
  · exact ⟨_, F19_at⟩
  · exact ⟨_, F20_at⟩
  · exact ⟨_, F21_at⟩
  · exact ⟨_, F22_at⟩
  · exact ⟨_, F34_at⟩
  · exact ⟨_, F35_at⟩
  · exact ⟨_, F36_at⟩
  · exact ⟨_, F37_at⟩
  · exact ⟨_, F38_at⟩
  · exact ⟨_, F39_at⟩
  · exact ⟨_, F40_at⟩
  · exact ⟨_, F41_at⟩
  · exact ⟨_, F46_at⟩
  · exact ⟨_, F47_at⟩
  · exact ⟨_, F48_at⟩
  · exact ⟨_, F49_at⟩
  · exact ⟨_, F50_at⟩
  · exact ⟨_, F51_at⟩
  · exact ⟨_, F52_at⟩
  · exact ⟨_, F56_at⟩
  · exact ⟨_, F57_at⟩
  · exact ⟨_, F58_at⟩
  · exact ⟨_, F59_at⟩
  · exact ⟨_, F60_at⟩
  · exact ⟨_, F61_at⟩
  · exact ⟨_, F62_at⟩
  · exact ⟨_, F63_at⟩
  · exact ⟨_, F64_at⟩
  · exact ⟨_, F65_at⟩
  · exact ⟨_, F66_at⟩
  · exact ⟨_, F67_at⟩
  · exact ⟨_, F68_at⟩
  · exact ⟨_, F71_at⟩
  · exact ⟨_, F72_at⟩
  · exact ⟨_, F73_at⟩
  · exact ⟨_, F74_at⟩
  · exact ⟨_, F75_at⟩
  · exact ⟨_, F76_at⟩
  · exact ⟨_, F77_at⟩
  · exact ⟨_, F78_at⟩
  · exact ⟨_, F79_at⟩
theorem mixed : Try.prog.follows .mixedOrders = true := by kernel_rfl

-- signalbox/signalboxlaw24.one
def G34 : Sig := ⟨34, [], [], [⟨false, ⟨[(0, .agg [.int .i64, .int .i64, .int .i64, .int .i64, .c .nils, .int .i64, .c .nils, .inl 1, .inl 7, .c .nils])], []⟩⟩]⟩
def I34 : Inst := ⟨G34, F34, [], [], []⟩
def L34 : List Sig := []

-- signalbox/section.is
def G35 : Sig := ⟨35, [.agg [.int .i64, .int .i64, .int .i64, .int .i64, .inl 1, .int .i64, .inl 1, .inl 1, .inl 7, .inl 1], .int .i64], [], [⟨false, ⟨[(0, .sb)], []⟩⟩]⟩
def I35 : Inst := ⟨G35, F35, [], [], []⟩
def L35 : List Sig := []

-- signalbox/ceiling.New
def G36 : Sig := ⟨36, [.inl 1], [], [⟨false, ⟨[(0, .bptr 0 0)], [.box 82 [.sl 1], .arr 84 3]⟩⟩]⟩
def I36 : Inst := ⟨G36, F36, [⟨9, [.lp 9, .blk 0, .c 21], ⟨[(3, .bptr 0 0), (8, .inl 1), (9, .int .i64), (10, .int .i64)], [.box 82 [.sl 1], .arr 84 3]⟩⟩], [], []⟩
def L36 : List Sig := []

-- (*signalbox/ceiling.Locks).Len
def G72 : Sig := ⟨72, [.bptr 0 0], [.box 82 [.sl 1], .arr 84 3], [⟨false, ⟨[(0, .int .i64)], [.box 82 [.sl 1], .arr 84 3]⟩⟩]⟩
def I72 : Inst := ⟨G72, F72, [], [], []⟩
def L72 : List Sig := []

-- (*signalbox/ceiling.Locks).at
def G57 : Sig := ⟨57, [.bptr 0 0, .int .i64], [.box 82 [.sl 1], .arr 84 3], [⟨false, ⟨[(0, .c .nilp)], [.box 82 [.sl 1], .arr 84 3]⟩⟩, ⟨false, ⟨[(0, .ptr 1 0)], [.box 82 [.sl 1], .arr 84 3]⟩⟩]⟩
def I57 : Inst := ⟨G57, F57, [], [], []⟩
def L57 : List Sig := [G72]

-- (*signalbox/ceiling.Locks).Held
def G71 : Sig := ⟨71, [.bptr 0 0, .int .i64], [.box 82 [.sl 1], .arr 84 3], [⟨false, ⟨[(0, .sl 2)], [.box 82 [.sl 1], .arr 84 3, .arr 3 1]⟩⟩]⟩
def I71 : Inst := ⟨G71, F71, [⟨9, [.lp 9, .blk 0, .c 27], ⟨[(0, .bptr 0 0), (1, .int .i64), (5, .sl 2), (9, .int .i64), (10, .int .i64)], [.box 82 [.sl 1], .arr 84 3, .arr 3 1]⟩⟩], [], []⟩
def L71 : List Sig := [G72, G57]

-- (*signalbox/ceiling.Locks).Level
def G56 : Sig := ⟨56, [.bptr 0 0, .int .i64, .int .i64], [.box 82 [.sl 1], .arr 84 3], [⟨false, ⟨[(0, .int .i64)], [.box 82 [.sl 1], .arr 84 3]⟩⟩]⟩
def I56 : Inst := ⟨G56, F56, [⟨7, [.lp 7, .blk 0, .c 19], ⟨[(0, .bptr 0 0), (2, .int .i64), (11, .sl 2), (12, .int .i64), (13, .int .i64)], [.box 82 [.sl 1], .arr 84 3, .arr 3 1]⟩⟩], [], []⟩
def L56 : List Sig := [G71, G57]

-- (*signalbox/section.walker).level DRAWN
def G46 : Sig := ⟨46, [.bptr 0 0], [.box 72 [.int .i64, .int .i64, .bptr 1 0], .box 82 [.sl 2], .arr 84 3], [⟨false, ⟨[(0, .int .i64)], [.box 72 [.int .i64, .int .i64, .bptr 1 0], .box 82 [.sl 2], .arr 84 3]⟩⟩]⟩
def I46 : Inst := ⟨G46, F46, [], [], [(11, [true, false, false])]⟩
def L46 : List Sig := [G56]

-- (*signalbox/ceiling.Locks).Lock
def G47 : Sig := ⟨47, [.bptr 0 0, .int .i64, .int .i64], [.box 82 [.sl 1], .arr 84 3], [⟨false, ⟨[(0, .int .i64)], [.box 82 [.sl 1], .arr 84 3]⟩⟩]⟩
def I47 : Inst := ⟨G47, F47, [], [], []⟩
def L47 : List Sig := [G57]

-- (*signalbox/ceiling.Locks).Unlock
def G48 : Sig := ⟨48, [.bptr 0 0, .int .i64, .int .i64], [.box 82 [.sl 1], .arr 84 3], [⟨false, ⟨[(0, .int .i64)], [.box 82 [.sl 1], .arr 84 3]⟩⟩]⟩
def I48 : Inst := ⟨G48, F48, [], [], []⟩
def L48 : List Sig := [G57]

-- (*signalbox/section.walker).step DRAWN
def G37 : Sig := ⟨37, [.bptr 0 0, .agg [.int .i64, .int .i64, .int .i64]], [.box 72 [.int .i64, .int .i64, .bptr 1 0], .box 82 [.sl 2], .arr 84 3], [⟨false, ⟨[(0, .agg [.int .i64, .int .i64])], [.box 72 [.int .i64, .int .i64, .bptr 1 0], .box 82 [.sl 2], .arr 84 3]⟩⟩]⟩
def I37 : Inst := ⟨G37, F37, [⟨25, [], ⟨[(0, .bptr 0 0), (4, .bptr 3 0), (5, .bptr 4 0)], [.box 72 [.int .i64, .int .i64, .bptr 1 0], .box 82 [.sl 2], .arr 84 3, .box 53 [.int .i64, .int .i64], .box 53 [.int .i64, .int .i64]]⟩⟩], [], [(19, [true, false, false]), (23, [true, false, false])]⟩
def L37 : List Sig := [G46, G47, G48]

-- signalbox/section.Levels DRAWN
def G17 : Sig := ⟨17, [.agg [.int .i64, .int .i64, .int .i64, .int .i64, .inl 1, .int .i64, .inl 1, .inl 1, .inl 7, .inl 1], .int .i64], [], [⟨false, ⟨[(0, .sl 0)], [.arr 53 2]⟩⟩]⟩
def I17 : Inst := ⟨G17, F17, [⟨12, [], ⟨[(1, .int .i64), (2, .bptr 0 0), (5, .bptr 1 0)], [.box 27 [.int .i64, .int .i64, .int .i64, .int .i64, .inl 1, .int .i64, .inl 1, .inl 1, .inl 7, .inl 1], .box 72 [.int .i64, .int .i64, .bptr 2 0], .box 82 [.sl 3], .arr 84 3]⟩⟩,
  ⟨19, [.lp 19, .blk 0, .c 31], ⟨[(5, .bptr 0 0), (6, .sl 1), (29, .inl 3), (30, .int .i64), (31, .int .i64)], [.box 72 [.int .i64, .int .i64, .bptr 2 0], .arr 53 2, .box 82 [.sl 3], .arr 84 3]⟩⟩], [], []⟩
def L17 : List Sig := [G35, G36, G37]

-- slices.Sort[[]int,int]
def G38 : Sig := ⟨38, [.c .nils], [], [⟨true, ⟨[], []⟩⟩]⟩

-- slices.Compact[[]int,int] DRAWN
def G39 : Sig := ⟨39, [.c .nils], [], [⟨false, ⟨[(0, .c .nils)], []⟩⟩]⟩
def I39 : Inst := ⟨G39, F39, [⟨15, [.lp 15, .blk 0, .c 56], ⟨[(0, .c .nils), (3, .int .i64)], []⟩⟩], [], []⟩
def L39 : List Sig := []

-- slices.Sort[[]int,int]
def G38a : Sig := ⟨38, [.sl 0], [.arr 3 1], [⟨true, ⟨[], [.arr 3 1]⟩⟩]⟩

-- slices.Compact[[]int,int] DRAWN
def G39a : Sig := ⟨39, [.sl 0], [.arr 3 1], [⟨false, ⟨[(0, .slh 0)], [.arr 3 1]⟩⟩]⟩
def I39a : Inst := ⟨G39a, F39, [⟨15, [.lp 15, .blk 0, .c 56], ⟨[(0, .sl 0), (3, .int .i64)], [.arr 3 1]⟩⟩,
  ⟨33, [.lp 33, .blk 2, .c 49, .blk 1, .c 55, .lp 15, .blk 0, .c 56], ⟨[(0, .sl 0), (3, .int .i64), (4, .slp 0), (5, .int .i64)], [.arr 3 1]⟩⟩], [], []⟩
def L39a : List Sig := []

-- signalbox/section.Reach
def G18 : Sig := ⟨18, [.agg [.int .i64, .int .i64, .int .i64, .int .i64, .inl 1, .int .i64, .inl 1, .inl 1, .inl 7, .inl 1], .int .i64], [], [⟨false, ⟨[(0, .slh 0)], [.arr 3 1]⟩⟩]⟩
def I18 : Inst := ⟨G18, F18, [⟨9, [.lp 9, .blk 0, .c 40], ⟨[(1, .int .i64), (2, .bptr 0 0), (5, .sl 1), (12, .sl 2), (13, .int .i64), (14, .int .i64)], [.box 27 [.int .i64, .int .i64, .int .i64, .int .i64, .inl 1, .int .i64, .inl 1, .inl 1, .inl 7, .inl 1], .arr 3 1, .arr 53 2]⟩⟩,
  ⟨23, [.lp 23, .blk 2, .blk 1, .c 39, .lp 9, .blk 0, .c 40], ⟨[(1, .int .i64), (2, .bptr 0 0), (5, .sl 1), (12, .sl 2), (13, .int .i64), (14, .int .i64), (22, .inl 1), (23, .int .i64), (24, .int .i64)], [.box 27 [.int .i64, .int .i64, .int .i64, .int .i64, .inl 1, .int .i64, .inl 1, .inl 1, .inl 7, .inl 1], .arr 3 1, .arr 53 2]⟩⟩], [], []⟩
def L18 : List Sig := [G17, G38, G39, G38a, G39a]

-- signalbox/cost.clamp
def G51 : Sig := ⟨51, [.int .i64], [], [⟨false, ⟨[(0, .int .i64)], []⟩⟩]⟩
def I51 : Inst := ⟨G51, F51, [], [], []⟩
def L51 : List Sig := []

-- signalbox/cost.Of
def G40 : Sig := ⟨40, [.agg [.int .i64, .int .i64, .int .i64], .agg [.int .i64, .int .i64, .int .i64, .int .i64], .sb], [], [⟨false, ⟨[(0, .int .i64)], []⟩⟩]⟩
def I40 : Inst := ⟨G40, F40, [], [], []⟩
def L40 : List Sig := [G51]

-- signalbox/section.Longest DRAWN
def G19 : Sig := ⟨19, [.agg [.int .i64, .int .i64, .int .i64, .int .i64, .inl 1, .int .i64, .inl 1, .inl 1, .inl 7, .inl 1], .int .i64, .int .i64], [], [⟨false, ⟨[(0, .int .i64)], []⟩⟩]⟩
def I19 : Inst := ⟨G19, F19, [⟨9, [.lp 9, .blk 0, .c 31], ⟨[(1, .int .i64), (2, .int .i64), (3, .bptr 0 0), (7, .int .i64), (8, .int .i64), (13, .sl 1), (14, .int .i64), (15, .int .i64)], [.box 27 [.int .i64, .int .i64, .int .i64, .int .i64, .inl 1, .int .i64, .inl 1, .inl 1, .inl 7, .inl 1], .arr 53 2]⟩⟩], [], []⟩
def L19 : List Sig := [G17, G40]

-- signalbox/signalboxlaw24.fixed
def G14 : Sig := ⟨14, [], [], [⟨false, ⟨[(0, .sb)], []⟩⟩]⟩
def I14 : Inst := ⟨G14, F14, [], [], []⟩
def L14 : List Sig := [G34, G17, G18, G19]

-- signalbox/signalboxref07.Few
def G7 : Sig := ⟨7, [.agg [.int .i64, .int .i64, .int .i64, .int .i64, .inl 1, .int .i64, .inl 1, .inl 1, .inl 7, .inl 1]], [], [⟨false, ⟨[(0, .sb)], []⟩⟩]⟩
def I7 : Inst := ⟨G7, F7, [⟨7, [.lp 7, .blk 0, .c 25], ⟨[(1, .bptr 0 0), (6, .inl 7), (7, .int .i64), (8, .int .i64)], [.box 27 [.int .i64, .int .i64, .int .i64, .int .i64, .inl 1, .int .i64, .inl 1, .inl 1, .inl 7, .inl 1]]⟩⟩], [], []⟩
def L7 : List Sig := []

-- signalbox/signalboxlaw24.few
def G15 : Sig := ⟨15, [.agg [.int .i64, .int .i64, .int .i64, .int .i64, .inl 1, .int .i64, .inl 1, .inl 1, .inl 7, .inl 1]], [], [⟨false, ⟨[(0, .sb)], []⟩⟩]⟩
def I15 : Inst := ⟨G15, F15, [⟨7, [.lp 7, .blk 0, .c 25], ⟨[(1, .bptr 0 0), (8, .inl 1), (9, .int .i64), (10, .int .i64)], [.box 27 [.int .i64, .int .i64, .int .i64, .int .i64, .inl 1, .int .i64, .inl 1, .inl 1, .inl 7, .inl 1]]⟩⟩,
  ⟨30, [.lp 30, .blk 2, .c 48], ⟨[(1, .bptr 0 0), (22, .inl 7), (23, .int .i64), (24, .int .i64)], [.box 27 [.int .i64, .int .i64, .int .i64, .int .i64, .inl 1, .int .i64, .inl 1, .inl 1, .inl 7, .inl 1]]⟩⟩], [], []⟩
def L15 : List Sig := [G7]

-- signalbox/signalboxlaw24.nested
def G16 : Sig := ⟨16, [.agg [.int .i64, .int .i64, .int .i64, .int .i64, .inl 1, .int .i64, .inl 1, .inl 1, .inl 7, .inl 1]], [], [⟨false, ⟨[(0, .sb)], []⟩⟩]⟩
def I16 : Inst := ⟨G16, F16, [⟨7, [.lp 7, .blk 0, .c 48], ⟨[(9, .inl 7), (10, .int .i64), (11, .int .i64)], []⟩⟩,
  ⟨23, [.lp 23, .blk 2, .blk 1, .c 47, .lp 7, .blk 0, .c 48], ⟨[(5, .map 0), (9, .inl 7), (10, .int .i64), (11, .int .i64), (17, .inl 3), (18, .int .i64), (19, .int .i64)], [.mp]⟩⟩], [], []⟩
def L16 : List Sig := []

-- signalbox/signalboxref24.Level
def G20 : Sig := ⟨20, [.agg [.int .i64, .int .i64, .int .i64, .int .i64, .inl 1, .int .i64, .inl 1, .inl 1, .inl 7, .inl 1], .agg [.int .i64, .int .i64, .int .i64, .int .i64, .int .i64, .int .i64, .inl 3], .inl 3], [], [⟨false, ⟨[(0, .int .i64)], []⟩⟩]⟩
def I20 : Inst := ⟨G20, F20, [⟨13, [.lp 13, .blk 0, .c 54], ⟨[(3, .bptr 0 0), (7, .int .i64), (8, .int .i64), (9, .sl 1), (20, .inl 3), (21, .int .i64), (22, .int .i64)], [.box 27 [.int .i64, .int .i64, .int .i64, .int .i64, .inl 1, .int .i64, .inl 1, .inl 1, .inl 7, .inl 1], .arr 3 1]⟩⟩,
  ⟨40, [.blk 2, .blk 1, .c 53, .lp 13, .blk 0, .c 54], ⟨[(3, .bptr 0 0), (7, .int .i64), (8, .int .i64), (9, .sl 1), (11, .bptr 2 0), (20, .inl 3), (21, .int .i64), (22, .int .i64), (37, .sb)], [.box 27 [.int .i64, .int .i64, .int .i64, .int .i64, .inl 1, .int .i64, .inl 1, .inl 1, .inl 7, .inl 1], .arr 3 1, .box 39 [.int .i64, .int .i64, .int .i64]]⟩⟩,
  ⟨59, [.lp 59, .blk 3, .c 75], ⟨[(3, .bptr 0 0), (7, .int .i64), (8, .int .i64), (62, .sl 1), (63, .int .i64), (64, .int .i64)], [.box 27 [.int .i64, .int .i64, .int .i64, .int .i64, .inl 1, .int .i64, .inl 1, .inl 1, .inl 7, .inl 1], .arr 3 1]⟩⟩], [], []⟩
def L20 : List Sig := []

-- signalbox/signalboxref24.Reach DRAWN
def G21 : Sig := ⟨21, [.agg [.int .i64, .int .i64, .int .i64, .int .i64, .inl 1, .int .i64, .inl 1, .inl 1, .inl 7, .inl 1], .int .i64], [], [⟨false, ⟨[(0, .sl 0)], [.arr 3 1]⟩⟩]⟩
def I21 : Inst := ⟨G21, F21, [⟨11, [.lp 11, .blk 0, .c 42], ⟨[(2, .bptr 0 0), (5, .bptr 1 0), (6, .sl 2), (7, .int .i64)], [.box 27 [.int .i64, .int .i64, .int .i64, .int .i64, .inl 1, .int .i64, .inl 1, .inl 1, .inl 7, .inl 1], .box 36 [.int .i64, .int .i64, .int .i64, .int .i64, .int .i64, .int .i64, .inl 3], .arr 3 1]⟩⟩,
  ⟨23, [.lp 23, .blk 2, .blk 1, .c 41, .lp 11, .blk 0, .c 42], ⟨[(2, .bptr 0 0), (5, .bptr 1 0), (6, .sl 2), (7, .int .i64), (24, .int .i64), (25, .int .i64)], [.box 27 [.int .i64, .int .i64, .int .i64, .int .i64, .inl 1, .int .i64, .inl 1, .inl 1, .inl 7, .inl 1], .box 36 [.int .i64, .int .i64, .int .i64, .int .i64, .int .i64, .int .i64, .inl 3], .arr 3 1]⟩⟩], [], []⟩
def L21 : List Sig := [G20]

-- signalbox/signalboxref09.clamp
def G52 : Sig := ⟨52, [.int .i64], [], [⟨false, ⟨[(0, .int .i64)], []⟩⟩]⟩
def I52 : Inst := ⟨G52, F52, [], [], []⟩
def L52 : List Sig := []

-- signalbox/signalboxref09.Of
def G41 : Sig := ⟨41, [.agg [.int .i64, .int .i64, .int .i64], .agg [.int .i64, .int .i64, .int .i64, .int .i64], .sb], [], [⟨false, ⟨[(0, .int .i64)], []⟩⟩]⟩
def I41 : Inst := ⟨G41, F41, [], [], []⟩
def L41 : List Sig := [G52]

-- signalbox/signalboxref24.Longest DRAWN
def G22 : Sig := ⟨22, [.agg [.int .i64, .int .i64, .int .i64, .int .i64, .inl 1, .int .i64, .inl 1, .inl 1, .inl 7, .inl 1], .int .i64, .int .i64], [], [⟨false, ⟨[(0, .int .i64)], []⟩⟩]⟩
def I22 : Inst := ⟨G22, F22, [⟨11, [.lp 11, .blk 0, .c 46], ⟨[(2, .int .i64), (3, .bptr 0 0), (7, .bptr 1 0), (8, .int .i64), (19, .int .i64), (20, .int .i64)], [.box 27 [.int .i64, .int .i64, .int .i64, .int .i64, .inl 1, .int .i64, .inl 1, .inl 1, .inl 7, .inl 1], .box 36 [.int .i64, .int .i64, .int .i64, .int .i64, .int .i64, .int .i64, .inl 3]]⟩⟩,
  ⟨27, [.lp 27, .blk 2, .blk 1, .c 45, .lp 11, .blk 0, .c 46], ⟨[(2, .int .i64), (3, .bptr 0 0), (7, .bptr 1 0), (8, .int .i64), (10, .int .i64), (11, .int .i64), (19, .int .i64), (20, .int .i64)], [.box 27 [.int .i64, .int .i64, .int .i64, .int .i64, .inl 1, .int .i64, .inl 1, .inl 1, .inl 7, .inl 1], .box 36 [.int .i64, .int .i64, .int .i64, .int .i64, .int .i64, .int .i64, .inl 3]]⟩⟩,
  ⟨38, [.c 41, .blk 3, .c 44, .lp 27, .blk 2, .blk 1, .c 45, .lp 11, .blk 0, .c 46], ⟨[(2, .int .i64), (3, .bptr 0 0), (7, .bptr 1 0), (8, .int .i64), (10, .int .i64), (11, .int .i64), (19, .int .i64), (20, .int .i64), (51, .sb)], [.box 27 [.int .i64, .int .i64, .int .i64, .int .i64, .inl 1, .int .i64, .inl 1, .inl 1, .inl 7, .inl 1], .box 36 [.int .i64, .int .i64, .int .i64, .int .i64, .int .i64, .int .i64, .inl 3]]⟩⟩], [], []⟩
def L22 : List Sig := [G20, G41]

-- signalbox/signalboxlaw24.SectionTells DRAWN
def G4 : Sig := ⟨4, [.agg [.int .i64, .int .i64, .int .i64, .int .i64, .inl 1, .int .i64, .inl 1, .inl 1, .inl 7, .inl 1], .int .i64, .int .i64], [], [⟨false, ⟨[(0, .sb)], []⟩⟩]⟩
def I4 : Inst := ⟨G4, F4, [⟨43, [.lp 43, .blk 0, .c 61], ⟨[(1, .int .i64), (2, .int .i64), (3, .bptr 0 0), (8, .bptr 1 0), (60, .sl 2), (61, .int .i64), (62, .int .i64)], [.box 27 [.int .i64, .int .i64, .int .i64, .int .i64, .inl 1, .int .i64, .inl 1, .inl 1, .inl 7, .inl 1], .box 36 [.int .i64, .int .i64, .int .i64, .int .i64, .int .i64, .int .i64, .inl 3], .arr 53 2]⟩⟩,
  ⟨55, [.blk 1, .c 60, .lp 43, .blk 0, .c 61], ⟨[(1, .int .i64), (2, .int .i64), (3, .bptr 0 0), (8, .bptr 1 0), (60, .sl 2), (61, .int .i64), (62, .int .i64), (89, .sb)], [.box 27 [.int .i64, .int .i64, .int .i64, .int .i64, .inl 1, .int .i64, .inl 1, .inl 1, .inl 7, .inl 1], .box 36 [.int .i64, .int .i64, .int .i64, .int .i64, .int .i64, .int .i64, .inl 3], .arr 53 2]⟩⟩,
  ⟨63, [], ⟨[(1, .int .i64), (2, .int .i64), (3, .bptr 0 0), (8, .bptr 1 0), (11, .slh 2), (12, .sl 3)], [.box 27 [.int .i64, .int .i64, .int .i64, .int .i64, .inl 1, .int .i64, .inl 1, .inl 1, .inl 7, .inl 1], .box 36 [.int .i64, .int .i64, .int .i64, .int .i64, .int .i64, .int .i64, .inl 3], .arr 3 1, .arr 3 1]⟩⟩,
  ⟨69, [], ⟨[(1, .int .i64), (2, .int .i64), (3, .bptr 0 0), (11, .slh 1), (12, .sl 2)], [.box 27 [.int .i64, .int .i64, .int .i64, .int .i64, .inl 1, .int .i64, .inl 1, .inl 1, .inl 7, .inl 1], .arr 3 1, .arr 3 1]⟩⟩,
  ⟨82, [.lp 82, .blk 2, .c 100], ⟨[(1, .int .i64), (2, .int .i64), (3, .bptr 0 0), (11, .slh 1), (12, .sl 2), (107, .int .i64), (108, .int .i64)], [.box 27 [.int .i64, .int .i64, .int .i64, .int .i64, .inl 1, .int .i64, .inl 1, .inl 1, .inl 7, .inl 1], .arr 3 1, .arr 3 1]⟩⟩], [], []⟩
def L4 : List Sig := [G14, G15, G16, G17, G18, G19, G20, G21, G22]

end Go.Ab
