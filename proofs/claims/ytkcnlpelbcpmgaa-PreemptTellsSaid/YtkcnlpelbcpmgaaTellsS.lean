/- PRINTED BY A PROGRAM (wip/tools/sy.py): shapes of the functions. -/
import Derived.Test.YtkcnlpelbcpmgaaAbZ9
import Derived.Test.YtkcnlpelbcpmgaaFns
namespace Go.Ab
open Go Go.Proofs
set_option linter.unusedVariables false

/-- How rows are spelt. -/
def sg : RowF := fun A e rows i => match e with
  | 3 => [.int .i64 (A.cI rows i 0)]
  | 56 => [.int .u64 (A.cI rows i 0)]
  | 65 => [.int .i64 (A.cI rows i 0), .int .i64 (A.cI rows i 1), .int .i64 (A.cI rows i 2), .int .i64 (A.cI rows i 3), .int .i64 (A.cI rows i 4), .int .i64 (A.cI rows i 5), .inl 3 (A.cR rows i 6)]
  | 71 => [.int .i64 (A.cI rows i 0), .int .i64 (A.cI rows i 1), .bool (A.cB rows i 2)]
  | 87 => [.int .i64 (A.cI rows i 0), .int .i64 (A.cI rows i 1), .int .i64 (A.cI rows i 2)]
  | 108 => [.int .i64 (A.cI rows i 0), .int .i64 (A.cI rows i 1)]
  | _ => A.cX rows i

def TT : List (Nat × AFn) := [(7, F7), (10, F10), (11, F11), (12, F12), (14, F14), (16, F16), (17, F17), (25, F25), (26, F26), (27, F27), (28, F28), (29, F29), (30, F30), (31, F31), (32, F32), (33, F33), (34, F34), (35, F35), (36, F36), (39, F39), (40, F40), (41, F41), (42, F42), (43, F43), (44, F44), (45, F45), (46, F46), (47, F47), (48, F48), (49, F49), (50, F50), (51, F51), (52, F52), (53, F53), (54, F54), (55, F55), (56, F56), (59, F59), (61, F61), (62, F62), (63, F63), (64, F64), (65, F65), (66, F66), (67, F67), (68, F68), (69, F69), (70, F70)]
theorem TT_at : ∀ p ∈ TT, ∃ fn, p.2.at Try.prog p.1 fn := by
  intro p hp
  simp only [TT, List.mem_cons, List.not_mem_nil, or_false] at hp
  rcases hp with rfl | rfl | rfl | rfl | rfl | rfl | rfl | rfl | rfl | rfl | rfl | rfl | rfl | rfl | rfl | rfl | rfl | rfl | rfl | rfl | rfl | rfl | rfl | rfl | rfl | rfl | rfl | rfl | rfl | rfl | rfl | rfl | rfl | rfl | rfl | rfl | rfl | rfl | rfl | rfl | rfl | rfl | rfl | rfl | rfl | rfl | rfl | rfl
  · exact ⟨_, F7_at⟩
  · exact ⟨_, F10_at⟩
  · exact ⟨_, F11_at⟩
  · exact ⟨_, F12_at⟩
  · exact ⟨_, F14_at⟩
  · exact ⟨_, F16_at⟩
  · exact ⟨_, F17_at⟩
  · exact ⟨_, F25_at⟩
  · exact ⟨_, F26_at⟩
  · exact ⟨_, F27_at⟩
  · exact ⟨_, F28_at⟩
  · exact ⟨_, F29_at⟩
  · exact ⟨_, F30_at⟩
  · exact ⟨_, F31_at⟩
  · exact ⟨_, F32_at⟩
  · exact ⟨_, F33_at⟩
  · exact ⟨_, F34_at⟩
  · exact ⟨_, F35_at⟩
  · exact ⟨_, F36_at⟩
  · exact ⟨_, F39_at⟩
  · exact ⟨_, F40_at⟩
  · exact ⟨_, F41_at⟩
  · exact ⟨_, F42_at⟩
  · exact ⟨_, F43_at⟩
  · exact ⟨_, F44_at⟩
  · exact ⟨_, F45_at⟩
  · exact ⟨_, F46_at⟩
  · exact ⟨_, F47_at⟩
  · exact ⟨_, F48_at⟩
  · exact ⟨_, F49_at⟩
  · exact ⟨_, F50_at⟩
  · exact ⟨_, F51_at⟩
  · exact ⟨_, F52_at⟩
  · exact ⟨_, F53_at⟩
  · exact ⟨_, F54_at⟩
  · exact ⟨_, F55_at⟩
  · exact ⟨_, F56_at⟩
  · exact ⟨_, F59_at⟩
  · exact ⟨_, F61_at⟩
  · exact ⟨_, F62_at⟩
  · exact ⟨_, F63_at⟩
  · exact ⟨_, F64_at⟩
  · exact ⟨_, F65_at⟩
  · exact ⟨_, F66_at⟩
  · exact ⟨_, F67_at⟩
  · exact ⟨_, F68_at⟩
  · exact ⟨_, F69_at⟩
  · exact ⟨_, F70_at⟩
theorem mixed : Try.prog.follows .mixedOrders = true := by kernel_rfl

-- signalbox/signalboxlaw27.fixed
def G25 : Sig := ⟨25, [], [], [⟨false, ⟨[(0, .sb)], []⟩⟩]⟩

-- signalbox/signalboxref07.Few
def G35 : Sig := ⟨35, [.agg [.int .i64, .int .i64, .int .i64, .int .i64, .inl 1, .int .i64, .inl 1, .inl 1, .inl 7, .inl 1]], [], [⟨false, ⟨[(0, .sb)], []⟩⟩]⟩
def I35 : Inst := ⟨G35, F35, [⟨7, [.lp 7, .blk 0, .c 25], ⟨[(1, .bptr 0 0), (6, .inl 7), (7, .int .i64), (8, .int .i64)], [.box 55 [.int .i64, .int .i64, .int .i64, .int .i64, .inl 1, .int .i64, .inl 1, .inl 1, .inl 7, .inl 1]]⟩⟩], [], []⟩
def L35 : List Sig := []

-- signalbox/signalboxlaw27.few
def G26 : Sig := ⟨26, [.agg [.int .i64, .int .i64, .int .i64, .int .i64, .inl 1, .int .i64, .inl 1, .inl 1, .inl 7, .inl 1]], [], [⟨false, ⟨[(0, .sb)], []⟩⟩]⟩
def I26 : Inst := ⟨G26, F26, [⟨7, [.lp 7, .blk 0, .c 25], ⟨[(1, .bptr 0 0), (11, .inl 1), (12, .int .i64), (13, .int .i64)], [.box 55 [.int .i64, .int .i64, .int .i64, .int .i64, .inl 1, .int .i64, .inl 1, .inl 1, .inl 7, .inl 1]]⟩⟩,
  ⟨30, [.lp 30, .blk 2, .c 79], ⟨[(1, .bptr 0 0), (25, .inl 7), (26, .int .i64), (27, .int .i64)], [.box 55 [.int .i64, .int .i64, .int .i64, .int .i64, .inl 1, .int .i64, .inl 1, .inl 1, .inl 7, .inl 1]]⟩⟩,
  ⟨54, [.lp 54, .blk 4, .blk 3, .c 78, .lp 30, .blk 2, .c 79], ⟨[(1, .bptr 0 0), (7, .map 1), (25, .inl 7), (26, .int .i64), (27, .int .i64), (52, .inl 3), (53, .int .i64), (54, .int .i64)], [.box 55 [.int .i64, .int .i64, .int .i64, .int .i64, .inl 1, .int .i64, .inl 1, .inl 1, .inl 7, .inl 1], .mp]⟩⟩], [], []⟩
def L26 : List Sig := [G35]

-- signalbox/reload.is
def G59 : Sig := ⟨59, [.agg [.int .i64, .int .i64, .int .i64, .int .i64, .inl 1, .int .i64, .inl 1, .inl 1, .inl 7, .inl 1], .int .i64], [], [⟨false, ⟨[(0, .sb)], []⟩⟩]⟩
def I59 : Inst := ⟨G59, F59, [], [], []⟩
def L59 : List Sig := []

-- signalbox/reload.Above DRAWN
def G40 : Sig := ⟨40, [.agg [.int .i64, .int .i64, .int .i64, .int .i64, .inl 1, .int .i64, .inl 1, .inl 1, .inl 7, .inl 1], .int .i64], [], [⟨false, ⟨[(0, .sl 0)], [.arr 3 1]⟩⟩]⟩
def I40 : Inst := ⟨G40, F40, [⟨17, [.lp 17, .blk 0, .c 33], ⟨[(1, .int .i64), (2, .bptr 0 0), (5, .sl 1), (13, .inl 7), (14, .int .i64), (15, .int .i64)], [.box 55 [.int .i64, .int .i64, .int .i64, .int .i64, .inl 1, .int .i64, .inl 1, .inl 1, .inl 7, .inl 1], .arr 3 1]⟩⟩], [], []⟩
def L40 : List Sig := [G59]

-- signalbox/sat.Of
def G43 : Sig := ⟨43, [.int .i64], [], [⟨false, ⟨[(0, .int .u64)], []⟩⟩]⟩
def I43 : Inst := ⟨G43, F43, [], [], []⟩
def L43 : List Sig := []

-- signalbox/sat.Ceil
def G42 : Sig := ⟨42, [.int .u64, .int .u64], [], [⟨false, ⟨[(0, .int .u64)], []⟩⟩]⟩
def I42 : Inst := ⟨G42, F42, [], [], []⟩
def L42 : List Sig := []

-- signalbox/sat.Add
def G41 : Sig := ⟨41, [.int .u64, .int .u64], [], [⟨false, ⟨[(0, .int .u64)], []⟩⟩]⟩
def I41 : Inst := ⟨G41, F41, [], [], []⟩
def L41 : List Sig := []

-- signalbox/preempt.Count
def G27 : Sig := ⟨27, [.agg [.int .i64, .int .i64, .int .i64, .int .i64, .inl 1, .int .i64, .inl 1, .inl 1, .inl 7, .inl 1], .int .i64, .int .u64], [], [⟨false, ⟨[(0, .int .u64)], []⟩⟩]⟩
def I27 : Inst := ⟨G27, F27, [⟨9, [.lp 9, .blk 0, .c 21], ⟨[(2, .int .u64), (3, .bptr 0 0), (7, .int .u64), (12, .sl 1), (13, .int .i64), (14, .int .i64)], [.box 55 [.int .i64, .int .i64, .int .i64, .int .i64, .inl 1, .int .i64, .inl 1, .inl 1, .inl 7, .inl 1], .arr 3 1]⟩⟩], [], []⟩
def L27 : List Sig := [G40, G43, G42, G41]

-- signalbox/preempt.is
def G44 : Sig := ⟨44, [.agg [.int .i64, .int .i64, .int .i64, .int .i64, .inl 1, .int .i64, .inl 1, .inl 1, .inl 7, .inl 1], .int .i64], [], [⟨false, ⟨[(0, .sb)], []⟩⟩]⟩
def I44 : Inst := ⟨G44, F44, [], [], []⟩
def L44 : List Sig := []

-- signalbox/preempt.Lower$1
def G49 : Sig := ⟨49, [.agg [.int .i64, .int .i64, .int .i64, .int .i64, .int .i64, .int .i64, .inl 3], .agg [.int .i64, .int .i64, .int .i64, .int .i64, .int .i64, .int .i64, .inl 3]], [], [⟨false, ⟨[(0, .sb)], []⟩⟩]⟩
def I49 : Inst := ⟨G49, F49, [], [], []⟩
def L49 : List Sig := []

-- signalbox/preempt.some DRAWN
def G48 : Sig := ⟨48, [.agg [.int .i64, .int .i64, .int .i64, .int .i64, .inl 1, .int .i64, .inl 1, .inl 1, .inl 7, .inl 1], .int .i64, .fn 49 [] []], [], [⟨false, ⟨[(0, .sl 0)], [.arr 3 1]⟩⟩]⟩
def I48 : Inst := ⟨G48, F48, [⟨17, [.lp 17, .blk 0, .c 33], ⟨[(1, .int .i64), (2, .fn 49 [] []), (3, .bptr 0 0), (7, .sl 1), (15, .inl 7), (16, .int .i64), (17, .int .i64)], [.box 55 [.int .i64, .int .i64, .int .i64, .int .i64, .inl 1, .int .i64, .inl 1, .inl 1, .inl 7, .inl 1], .arr 3 1]⟩⟩], [], []⟩
def L48 : List Sig := [G44, G49]

-- signalbox/preempt.Lower
def G30 : Sig := ⟨30, [.agg [.int .i64, .int .i64, .int .i64, .int .i64, .inl 1, .int .i64, .inl 1, .inl 1, .inl 7, .inl 1], .int .i64], [], [⟨false, ⟨[(0, .sl 0)], [.arr 3 1]⟩⟩]⟩
def I30 : Inst := ⟨G30, F30, [], [], []⟩
def L30 : List Sig := [G48]

-- signalbox/cost.clamp
def G68 : Sig := ⟨68, [.int .i64], [], [⟨false, ⟨[(0, .int .i64)], []⟩⟩]⟩
def I68 : Inst := ⟨G68, F68, [], [], []⟩
def L68 : List Sig := []

-- signalbox/cost.Of
def G63 : Sig := ⟨63, [.agg [.int .i64, .int .i64, .int .i64], .agg [.int .i64, .int .i64, .int .i64, .int .i64], .sb], [], [⟨false, ⟨[(0, .int .i64)], []⟩⟩]⟩
def I63 : Inst := ⟨G63, F63, [], [], []⟩
def L63 : List Sig := [G68]

-- signalbox/cost.sum
def G61 : Sig := ⟨61, [.inl 3, .agg [.int .i64, .int .i64, .int .i64, .int .i64], .sb], [], [⟨false, ⟨[(0, .int .i64)], []⟩⟩]⟩
def I61 : Inst := ⟨G61, F61, [⟨9, [.lp 9, .blk 0, .c 21], ⟨[(2, .sb), (4, .bptr 0 0), (7, .int .i64), (10, .inl 3), (11, .int .i64), (12, .int .i64)], [.box 52 [.int .i64, .int .i64, .int .i64, .int .i64]]⟩⟩], [], []⟩
def L61 : List Sig := [G63]

-- signalbox/cost.Worst
def G45 : Sig := ⟨45, [.inl 3, .agg [.int .i64, .int .i64, .int .i64, .int .i64]], [], [⟨false, ⟨[(0, .int .i64)], []⟩⟩]⟩
def I45 : Inst := ⟨G45, F45, [], [], []⟩
def L45 : List Sig := [G61]

-- signalbox/section.is
def G66 : Sig := ⟨66, [.agg [.int .i64, .int .i64, .int .i64, .int .i64, .inl 1, .int .i64, .inl 1, .inl 1, .inl 7, .inl 1], .int .i64], [], [⟨false, ⟨[(0, .sb)], []⟩⟩]⟩
def I66 : Inst := ⟨G66, F66, [], [], []⟩
def L66 : List Sig := []

-- signalbox/ceiling.New
def G10 : Sig := ⟨10, [.inl 1], [], [⟨false, ⟨[(0, .bptr 0 0)], [.box 69 [.sl 1], .arr 71 3]⟩⟩]⟩
def I10 : Inst := ⟨G10, F10, [⟨9, [.lp 9, .blk 0, .c 21], ⟨[(3, .bptr 0 0), (8, .inl 1), (9, .int .i64), (10, .int .i64)], [.box 69 [.sl 1], .arr 71 3]⟩⟩], [], []⟩
def L10 : List Sig := []

-- (*signalbox/ceiling.Locks).Len
def G17 : Sig := ⟨17, [.bptr 0 0], [.box 69 [.sl 1], .arr 71 3], [⟨false, ⟨[(0, .int .i64)], [.box 69 [.sl 1], .arr 71 3]⟩⟩]⟩
def I17 : Inst := ⟨G17, F17, [], [], []⟩
def L17 : List Sig := []

-- (*signalbox/ceiling.Locks).at
def G36 : Sig := ⟨36, [.bptr 0 0, .int .i64], [.box 69 [.sl 1], .arr 71 3], [⟨false, ⟨[(0, .c .nilp)], [.box 69 [.sl 1], .arr 71 3]⟩⟩, ⟨false, ⟨[(0, .ptr 1 0)], [.box 69 [.sl 1], .arr 71 3]⟩⟩]⟩
def I36 : Inst := ⟨G36, F36, [], [], []⟩
def L36 : List Sig := [G17]

-- (*signalbox/ceiling.Locks).Held
def G14 : Sig := ⟨14, [.bptr 0 0, .int .i64], [.box 69 [.sl 1], .arr 71 3], [⟨false, ⟨[(0, .sl 2)], [.box 69 [.sl 1], .arr 71 3, .arr 3 1]⟩⟩]⟩
def I14 : Inst := ⟨G14, F14, [⟨9, [.lp 9, .blk 0, .c 27], ⟨[(0, .bptr 0 0), (1, .int .i64), (5, .sl 2), (9, .int .i64), (10, .int .i64)], [.box 69 [.sl 1], .arr 71 3, .arr 3 1]⟩⟩], [], []⟩
def L14 : List Sig := [G17, G36]

-- (*signalbox/ceiling.Locks).Level
def G16 : Sig := ⟨16, [.bptr 0 0, .int .i64, .int .i64], [.box 69 [.sl 1], .arr 71 3], [⟨false, ⟨[(0, .int .i64)], [.box 69 [.sl 1], .arr 71 3]⟩⟩]⟩
def I16 : Inst := ⟨G16, F16, [⟨7, [.lp 7, .blk 0, .c 19], ⟨[(0, .bptr 0 0), (2, .int .i64), (11, .sl 2), (12, .int .i64), (13, .int .i64)], [.box 69 [.sl 1], .arr 71 3, .arr 3 1]⟩⟩], [], []⟩
def L16 : List Sig := [G14, G36]

-- (*signalbox/section.walker).level DRAWN
def G70 : Sig := ⟨70, [.bptr 0 0], [.box 115 [.int .i64, .int .i64, .bptr 1 0], .box 69 [.sl 2], .arr 71 3], [⟨false, ⟨[(0, .int .i64)], [.box 115 [.int .i64, .int .i64, .bptr 1 0], .box 69 [.sl 2], .arr 71 3]⟩⟩]⟩
def I70 : Inst := ⟨G70, F70, [], [], [(11, [true, false, false])]⟩
def L70 : List Sig := [G16]

-- (*signalbox/ceiling.Locks).Lock
def G11 : Sig := ⟨11, [.bptr 0 0, .int .i64, .int .i64], [.box 69 [.sl 1], .arr 71 3], [⟨false, ⟨[(0, .int .i64)], [.box 69 [.sl 1], .arr 71 3]⟩⟩]⟩
def I11 : Inst := ⟨G11, F11, [], [], []⟩
def L11 : List Sig := [G36]

-- (*signalbox/ceiling.Locks).Unlock
def G12 : Sig := ⟨12, [.bptr 0 0, .int .i64, .int .i64], [.box 69 [.sl 1], .arr 71 3], [⟨false, ⟨[(0, .int .i64)], [.box 69 [.sl 1], .arr 71 3]⟩⟩]⟩
def I12 : Inst := ⟨G12, F12, [], [], []⟩
def L12 : List Sig := [G36]

-- (*signalbox/section.walker).step DRAWN
def G67 : Sig := ⟨67, [.bptr 0 0, .agg [.int .i64, .int .i64, .int .i64]], [.box 115 [.int .i64, .int .i64, .bptr 1 0], .box 69 [.sl 2], .arr 71 3], [⟨false, ⟨[(0, .agg [.int .i64, .int .i64])], [.box 115 [.int .i64, .int .i64, .bptr 1 0], .box 69 [.sl 2], .arr 71 3]⟩⟩]⟩
def I67 : Inst := ⟨G67, F67, [⟨25, [], ⟨[(0, .bptr 0 0), (4, .bptr 3 0), (5, .bptr 4 0)], [.box 115 [.int .i64, .int .i64, .bptr 1 0], .box 69 [.sl 2], .arr 71 3, .box 108 [.int .i64, .int .i64], .box 108 [.int .i64, .int .i64]]⟩⟩], [], [(19, [true, false, false]), (23, [true, false, false])]⟩
def L67 : List Sig := [G70, G11, G12]

-- signalbox/section.Levels DRAWN
def G62 : Sig := ⟨62, [.agg [.int .i64, .int .i64, .int .i64, .int .i64, .inl 1, .int .i64, .inl 1, .inl 1, .inl 7, .inl 1], .int .i64], [], [⟨false, ⟨[(0, .sl 0)], [.arr 108 2]⟩⟩]⟩
def I62 : Inst := ⟨G62, F62, [⟨12, [], ⟨[(1, .int .i64), (2, .bptr 0 0), (5, .bptr 1 0)], [.box 55 [.int .i64, .int .i64, .int .i64, .int .i64, .inl 1, .int .i64, .inl 1, .inl 1, .inl 7, .inl 1], .box 115 [.int .i64, .int .i64, .bptr 2 0], .box 69 [.sl 3], .arr 71 3]⟩⟩,
  ⟨19, [.lp 19, .blk 0, .c 31], ⟨[(5, .bptr 0 0), (6, .sl 1), (29, .inl 3), (30, .int .i64), (31, .int .i64)], [.box 115 [.int .i64, .int .i64, .bptr 2 0], .arr 108 2, .box 69 [.sl 3], .arr 71 3]⟩⟩], [], []⟩
def L62 : List Sig := [G66, G10, G67]

-- signalbox/section.Longest DRAWN
def G46 : Sig := ⟨46, [.agg [.int .i64, .int .i64, .int .i64, .int .i64, .inl 1, .int .i64, .inl 1, .inl 1, .inl 7, .inl 1], .int .i64, .int .i64], [], [⟨false, ⟨[(0, .int .i64)], []⟩⟩]⟩
def I46 : Inst := ⟨G46, F46, [⟨9, [.lp 9, .blk 0, .c 31], ⟨[(1, .int .i64), (2, .int .i64), (3, .bptr 0 0), (7, .int .i64), (8, .int .i64), (13, .sl 1), (14, .int .i64), (15, .int .i64)], [.box 55 [.int .i64, .int .i64, .int .i64, .int .i64, .inl 1, .int .i64, .inl 1, .inl 1, .inl 7, .inl 1], .arr 108 2]⟩⟩], [], []⟩
def L46 : List Sig := [G62, G63]

-- signalbox/sat.Sum
def G47 : Sig := ⟨47, [.inl 1], [], [⟨false, ⟨[(0, .int .u64)], []⟩⟩]⟩
def I47 : Inst := ⟨G47, F47, [⟨9, [.lp 9, .blk 0, .c 21], ⟨[(3, .int .u64), (6, .inl 1), (7, .int .i64), (8, .int .i64)], []⟩⟩], [], []⟩
def L47 : List Sig := [G41]

-- signalbox/preempt.Blocking DRAWN
def G29 : Sig := ⟨29, [.agg [.int .i64, .int .i64, .int .i64, .int .i64, .inl 1, .int .i64, .inl 1, .inl 1, .inl 7, .inl 1], .int .i64, .int .i64], [], [⟨false, ⟨[(0, .int .u64)], []⟩⟩]⟩
def I29 : Inst := ⟨G29, F29, [⟨12, [], ⟨[(1, .int .i64), (3, .bptr 0 0), (7, .bptr 1 0), (8, .int .i64)], [.box 55 [.int .i64, .int .i64, .int .i64, .int .i64, .inl 1, .int .i64, .inl 1, .inl 1, .inl 7, .inl 1], .box 65 [.int .i64, .int .i64, .int .i64, .int .i64, .int .i64, .int .i64, .inl 3]]⟩⟩], [], []⟩
def L29 : List Sig := [G44, G45, G43, G46, G47]

-- signalbox/preempt.Delay
def G28 : Sig := ⟨28, [.agg [.int .i64, .int .i64, .int .i64, .int .i64, .inl 1, .int .i64, .inl 1, .inl 1, .inl 7, .inl 1], .int .i64], [], [⟨false, ⟨[(0, .int .u64)], []⟩⟩]⟩
def I28 : Inst := ⟨G28, F28, [⟨9, [.lp 9, .blk 0, .c 21], ⟨[(1, .int .i64), (2, .bptr 0 0), (5, .int .u64), (10, .sl 1), (11, .int .i64), (12, .int .i64)], [.box 55 [.int .i64, .int .i64, .int .i64, .int .i64, .inl 1, .int .i64, .inl 1, .inl 1, .inl 7, .inl 1], .arr 3 1]⟩⟩], [], []⟩
def L28 : List Sig := [G30, G29]

-- signalbox/preempt.Higher$1
def G50 : Sig := ⟨50, [.agg [.int .i64, .int .i64, .int .i64, .int .i64, .int .i64, .int .i64, .inl 3], .agg [.int .i64, .int .i64, .int .i64, .int .i64, .int .i64, .int .i64, .inl 3]], [], [⟨false, ⟨[(0, .sb)], []⟩⟩]⟩
def I50 : Inst := ⟨G50, F50, [], [], []⟩
def L50 : List Sig := []

-- signalbox/preempt.some DRAWN
def G48a : Sig := ⟨48, [.agg [.int .i64, .int .i64, .int .i64, .int .i64, .inl 1, .int .i64, .inl 1, .inl 1, .inl 7, .inl 1], .int .i64, .fn 50 [] []], [], [⟨false, ⟨[(0, .sl 0)], [.arr 3 1]⟩⟩]⟩
def I48a : Inst := ⟨G48a, F48, [⟨17, [.lp 17, .blk 0, .c 33], ⟨[(1, .int .i64), (2, .fn 50 [] []), (3, .bptr 0 0), (7, .sl 1), (15, .inl 7), (16, .int .i64), (17, .int .i64)], [.box 55 [.int .i64, .int .i64, .int .i64, .int .i64, .inl 1, .int .i64, .inl 1, .inl 1, .inl 7, .inl 1], .arr 3 1]⟩⟩], [], []⟩
def L48a : List Sig := [G44, G50]

-- signalbox/preempt.Higher
def G31 : Sig := ⟨31, [.agg [.int .i64, .int .i64, .int .i64, .int .i64, .inl 1, .int .i64, .inl 1, .inl 1, .inl 7, .inl 1], .int .i64], [], [⟨false, ⟨[(0, .sl 0)], [.arr 3 1]⟩⟩]⟩
def I31 : Inst := ⟨G31, F31, [], [], []⟩
def L31 : List Sig := [G48a]

-- signalbox/signalboxref23.Above DRAWN
def G51 : Sig := ⟨51, [.agg [.int .i64, .int .i64, .int .i64, .int .i64, .inl 1, .int .i64, .inl 1, .inl 1, .inl 7, .inl 1], .int .i64], [], [⟨false, ⟨[(0, .sl 0)], [.arr 3 1]⟩⟩]⟩
def I51 : Inst := ⟨G51, F51, [⟨9, [.lp 9, .blk 0, .c 25], ⟨[(1, .int .i64), (2, .bptr 0 0), (5, .sl 1), (9, .inl 7), (10, .int .i64), (11, .int .i64)], [.box 55 [.int .i64, .int .i64, .int .i64, .int .i64, .inl 1, .int .i64, .inl 1, .inl 1, .inl 7, .inl 1], .arr 3 1]⟩⟩], [], []⟩
def L51 : List Sig := []

-- signalbox/signalboxref27.of
def G54 : Sig := ⟨54, [.int .i64], [], [⟨false, ⟨[(0, .int .u64)], []⟩⟩]⟩
def I54 : Inst := ⟨G54, F54, [], [], []⟩
def L54 : List Sig := []

-- signalbox/signalboxref01.Ceil
def G53 : Sig := ⟨53, [.int .u64, .int .u64], [], [⟨false, ⟨[(0, .int .u64)], []⟩⟩]⟩
def I53 : Inst := ⟨G53, F53, [], [], []⟩
def L53 : List Sig := []

-- signalbox/signalboxref01.Add
def G52 : Sig := ⟨52, [.int .u64, .int .u64], [], [⟨false, ⟨[(0, .int .u64)], []⟩⟩]⟩
def I52 : Inst := ⟨G52, F52, [], [], []⟩
def L52 : List Sig := []

-- signalbox/signalboxref27.Count
def G32 : Sig := ⟨32, [.agg [.int .i64, .int .i64, .int .i64, .int .i64, .inl 1, .int .i64, .inl 1, .inl 1, .inl 7, .inl 1], .int .i64, .int .u64], [], [⟨false, ⟨[(0, .int .u64)], []⟩⟩]⟩
def I32 : Inst := ⟨G32, F32, [⟨9, [.lp 9, .blk 0, .c 21], ⟨[(2, .int .u64), (3, .bptr 0 0), (7, .int .u64), (12, .sl 1), (13, .int .i64), (14, .int .i64)], [.box 55 [.int .i64, .int .i64, .int .i64, .int .i64, .inl 1, .int .i64, .inl 1, .inl 1, .inl 7, .inl 1], .arr 3 1]⟩⟩], [], []⟩
def L32 : List Sig := [G51, G54, G53, G52]

-- signalbox/signalboxref09.clamp
def G69 : Sig := ⟨69, [.int .i64], [], [⟨false, ⟨[(0, .int .i64)], []⟩⟩]⟩
def I69 : Inst := ⟨G69, F69, [], [], []⟩
def L69 : List Sig := []

-- signalbox/signalboxref09.Of
def G64 : Sig := ⟨64, [.agg [.int .i64, .int .i64, .int .i64], .agg [.int .i64, .int .i64, .int .i64, .int .i64], .sb], [], [⟨false, ⟨[(0, .int .i64)], []⟩⟩]⟩
def I64 : Inst := ⟨G64, F64, [], [], []⟩
def L64 : List Sig := [G69]

-- signalbox/signalboxref09.Sum
def G55 : Sig := ⟨55, [.inl 3, .agg [.int .i64, .int .i64, .int .i64, .int .i64], .sb], [], [⟨false, ⟨[(0, .int .i64)], []⟩⟩]⟩
def I55 : Inst := ⟨G55, F55, [⟨9, [.lp 9, .blk 0, .c 21], ⟨[(2, .sb), (4, .bptr 0 0), (7, .int .i64), (10, .inl 3), (11, .int .i64), (12, .int .i64)], [.box 52 [.int .i64, .int .i64, .int .i64, .int .i64]]⟩⟩], [], []⟩
def L55 : List Sig := [G64]

-- signalbox/signalboxref24.Level
def G65 : Sig := ⟨65, [.agg [.int .i64, .int .i64, .int .i64, .int .i64, .inl 1, .int .i64, .inl 1, .inl 1, .inl 7, .inl 1], .agg [.int .i64, .int .i64, .int .i64, .int .i64, .int .i64, .int .i64, .inl 3], .inl 3], [], [⟨false, ⟨[(0, .int .i64)], []⟩⟩]⟩
def I65 : Inst := ⟨G65, F65, [⟨13, [.lp 13, .blk 0, .c 54], ⟨[(3, .bptr 0 0), (7, .int .i64), (8, .int .i64), (9, .sl 1), (20, .inl 3), (21, .int .i64), (22, .int .i64)], [.box 55 [.int .i64, .int .i64, .int .i64, .int .i64, .inl 1, .int .i64, .inl 1, .inl 1, .inl 7, .inl 1], .arr 3 1]⟩⟩,
  ⟨40, [.blk 2, .blk 1, .c 53, .lp 13, .blk 0, .c 54], ⟨[(3, .bptr 0 0), (7, .int .i64), (8, .int .i64), (9, .sl 1), (11, .bptr 2 0), (20, .inl 3), (21, .int .i64), (22, .int .i64), (37, .sb)], [.box 55 [.int .i64, .int .i64, .int .i64, .int .i64, .inl 1, .int .i64, .inl 1, .inl 1, .inl 7, .inl 1], .arr 3 1, .box 87 [.int .i64, .int .i64, .int .i64]]⟩⟩,
  ⟨59, [.lp 59, .blk 3, .c 75], ⟨[(3, .bptr 0 0), (7, .int .i64), (8, .int .i64), (62, .sl 1), (63, .int .i64), (64, .int .i64)], [.box 55 [.int .i64, .int .i64, .int .i64, .int .i64, .inl 1, .int .i64, .inl 1, .inl 1, .inl 7, .inl 1], .arr 3 1]⟩⟩], [], []⟩
def L65 : List Sig := []

-- signalbox/signalboxref24.Longest DRAWN
def G56 : Sig := ⟨56, [.agg [.int .i64, .int .i64, .int .i64, .int .i64, .inl 1, .int .i64, .inl 1, .inl 1, .inl 7, .inl 1], .int .i64, .int .i64], [], [⟨false, ⟨[(0, .int .i64)], []⟩⟩]⟩
def I56 : Inst := ⟨G56, F56, [⟨11, [.lp 11, .blk 0, .c 46], ⟨[(2, .int .i64), (3, .bptr 0 0), (7, .bptr 1 0), (8, .int .i64), (19, .int .i64), (20, .int .i64)], [.box 55 [.int .i64, .int .i64, .int .i64, .int .i64, .inl 1, .int .i64, .inl 1, .inl 1, .inl 7, .inl 1], .box 65 [.int .i64, .int .i64, .int .i64, .int .i64, .int .i64, .int .i64, .inl 3]]⟩⟩,
  ⟨27, [.lp 27, .blk 2, .blk 1, .c 45, .lp 11, .blk 0, .c 46], ⟨[(2, .int .i64), (3, .bptr 0 0), (7, .bptr 1 0), (8, .int .i64), (10, .int .i64), (11, .int .i64), (19, .int .i64), (20, .int .i64)], [.box 55 [.int .i64, .int .i64, .int .i64, .int .i64, .inl 1, .int .i64, .inl 1, .inl 1, .inl 7, .inl 1], .box 65 [.int .i64, .int .i64, .int .i64, .int .i64, .int .i64, .int .i64, .inl 3]]⟩⟩,
  ⟨38, [.c 41, .blk 3, .c 44, .lp 27, .blk 2, .blk 1, .c 45, .lp 11, .blk 0, .c 46], ⟨[(2, .int .i64), (3, .bptr 0 0), (7, .bptr 1 0), (8, .int .i64), (10, .int .i64), (11, .int .i64), (19, .int .i64), (20, .int .i64), (51, .sb)], [.box 55 [.int .i64, .int .i64, .int .i64, .int .i64, .inl 1, .int .i64, .inl 1, .inl 1, .inl 7, .inl 1], .box 65 [.int .i64, .int .i64, .int .i64, .int .i64, .int .i64, .int .i64, .inl 3]]⟩⟩], [], []⟩
def L56 : List Sig := [G65, G64]

-- signalbox/signalboxref27.Blocking DRAWN
def G34 : Sig := ⟨34, [.agg [.int .i64, .int .i64, .int .i64, .int .i64, .inl 1, .int .i64, .inl 1, .inl 1, .inl 7, .inl 1], .int .i64, .int .i64], [], [⟨false, ⟨[(0, .int .u64)], []⟩⟩]⟩
def I34 : Inst := ⟨G34, F34, [⟨16, [], ⟨[(7, .bptr 0 0), (8, .int .u64), (9, .int .u64)], [.box 65 [.int .i64, .int .i64, .int .i64, .int .i64, .int .i64, .int .i64, .inl 3]]⟩⟩], [], []⟩
def L34 : List Sig := [G55, G54, G56]

-- signalbox/signalboxref27.Delay DRAWN
def G33 : Sig := ⟨33, [.agg [.int .i64, .int .i64, .int .i64, .int .i64, .inl 1, .int .i64, .inl 1, .inl 1, .inl 7, .inl 1], .int .i64], [], [⟨false, ⟨[(0, .int .u64)], []⟩⟩]⟩
def I33 : Inst := ⟨G33, F33, [⟨9, [.lp 9, .blk 0, .c 25], ⟨[(1, .int .i64), (2, .bptr 0 0), (5, .int .u64), (9, .inl 7), (10, .int .i64), (11, .int .i64)], [.box 55 [.int .i64, .int .i64, .int .i64, .int .i64, .inl 1, .int .i64, .inl 1, .inl 1, .inl 7, .inl 1]]⟩⟩], [], []⟩
def L33 : List Sig := [G34]

-- signalbox/signalboxlaw27.PreemptTells DRAWN
def G7 : Sig := ⟨7, [.agg [.int .i64, .int .i64, .int .i64, .int .i64, .inl 1, .int .i64, .inl 1, .inl 1, .inl 7, .inl 1], .int .i64, .int .i64, .int .u64], [], [⟨false, ⟨[(0, .sb)], []⟩⟩]⟩
def I7 : Inst := ⟨G7, F7, [⟨29, [.c 34], ⟨[(1, .int .i64), (2, .int .i64), (4, .bptr 0 0), (65, .sb)], [.box 55 [.int .i64, .int .i64, .int .i64, .int .i64, .inl 1, .int .i64, .inl 1, .inl 1, .inl 7, .inl 1]]⟩⟩], [], []⟩
def L7 : List Sig := [G25, G26, G27, G28, G29, G30, G31, G32, G33, G34]

end Go.Ab
