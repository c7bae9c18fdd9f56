/- PRINTED BY A PROGRAM (wip/tools/sy.py): shapes of the functions. -/
import Derived.Test.YtdmpiondalhonaaAbZr
import Derived.Test.YtdmpiondalhonaaFns
namespace Go.Ab
open Go Go.Proofs
set_option linter.unusedVariables false

/-- How rows are spelt. -/
def sg : RowF := fun A e rows i => match e with
  | 3 => [.int .i64 (A.cI rows i 0)]
  | 51 => [.int .i64 (A.cI rows i 0), .int .i64 (A.cI rows i 1), .int .i64 (A.cI rows i 2)]
  | 53 => [.int .i64 (A.cI rows i 0), .int .i64 (A.cI rows i 1), .int .i64 (A.cI rows i 2)]
  | 60 => [.int .u64 (A.cI rows i 0), .int .u64 (A.cI rows i 1), .int .u64 (A.cI rows i 2)]
  | 93 => [.int .i64 (A.cI rows i 0), .int .i64 (A.cI rows i 1), .int .i64 (A.cI rows i 2)]
  | 112 => [.int .i64 (A.cI rows i 0), .int .i64 (A.cI rows i 1)]
  | _ => A.cX rows i

def TT : List (Nat × AFn) := [(6, F6), (9, F9), (22, F22), (23, F23), (24, F24), (25, F25), (26, F26), (27, F27), (30, F30), (31, F31), (52, F52), (53, F53), (54, F54), (56, F56), (57, F57), (61, F61), (69, F69), (70, F70), (71, F71), (72, F72), (74, F74), (76, F76), (80, F80), (81, F81), (82, F82), (83, F83), (93, F93), (99, F99), (120, F120), (121, F121), (122, F122), (123, F123)]
theorem TT_at : ∀ p ∈ TT, ∃ fn, p.2.at Try.prog p.1 fn := by
  intro p hp
  simp only [TT, List.mem_cons, List.not_mem_nil, or_false] at hp
  rcases hp with rfl | rfl | rfl | rfl | rfl | rfl | rfl | rfl | rfl | rfl | rfl | rfl | rfl | rfl | rfl | rfl | rfl | rfl | rfl | rfl | rfl | rfl | rfl | rfl | rfl | rfl | rfl | rfl | rfl | rfl | rfl | rfl
  · exact ⟨_, F6_at⟩
  · exact ⟨_, F9_at⟩
  · exact ⟨_, F22_at⟩
  · exact ⟨_, F23_at⟩
  · exact ⟨_, F24_at⟩
  · exact ⟨_, F25_at⟩
  · exact ⟨_, F26_at⟩
  · exact ⟨_, F27_at⟩
  · exact ⟨_, F30_at⟩
  · exact ⟨_, F31_at⟩
  · exact ⟨_, F52_at⟩
  · exact ⟨_, F53_at⟩
  · exact ⟨_, F54_at⟩
  · exact ⟨_, F56_at⟩
  · exact ⟨_, F57_at⟩
  · exact ⟨_, F61_at⟩
  · exact ⟨_, F69_at⟩
  · exact ⟨_, F70_at⟩
  · exact ⟨_, F71_at⟩
  · exact ⟨_, F72_at⟩
  · exact ⟨_, F74_at⟩
  · exact ⟨_, F76_at⟩
  · exact ⟨_, F80_at⟩
  · exact ⟨_, F81_at⟩
  · exact ⟨_, F82_at⟩
  · exact ⟨_, F83_at⟩
  · exact ⟨_, F93_at⟩
  · exact ⟨_, F99_at⟩
  · exact ⟨_, F120_at⟩
  · exact ⟨_, F121_at⟩
  · exact ⟨_, F122_at⟩
  · exact ⟨_, F123_at⟩
theorem mixed : Try.prog.follows .mixedOrders = true := by kernel_rfl

-- signalbox/signalboxlaw33.fixed
def G22 : Sig := ⟨22, [], [], [⟨false, ⟨[(0, .sb)], []⟩⟩]⟩

-- signalbox/signalboxref33.Clamp
def G52 : Sig := ⟨52, [.int .i64], [], [⟨false, ⟨[(0, .int .i64)], []⟩⟩]⟩
def I52 : Inst := ⟨G52, F52, [], [], []⟩
def L52 : List Sig := []

-- signalbox/signalboxlaw33.works DRAWN
def G23 : Sig := ⟨23, [.inl 3], [], [⟨true, ⟨[(0, .sl 0), (1, .sb)], [.arr 51 3]⟩⟩]⟩
def I23 : Inst := ⟨G23, F23, [⟨11, [.lp 11, .blk 0, .c 35], ⟨[(0, .inl 3), (4, .sl 0), (5, .int .i64), (9, .inl 3), (10, .int .i64), (11, .int .i64)], [.arr 51 3]⟩⟩,
  ⟨23, [.blk 1, .c 34, .lp 11, .blk 0, .c 35], ⟨[(0, .inl 3), (4, .sl 0), (5, .int .i64), (8, .bptr 1 0), (9, .inl 3), (10, .int .i64), (11, .int .i64)], [.arr 51 3, .box 51 [.int .i64, .int .i64, .int .i64]]⟩⟩], [], []⟩
def L23 : List Sig := [G52]

-- signalbox/signalboxref33.Run DRAWN
def G24 : Sig := ⟨24, [.inl 3], [], [⟨true, ⟨[(0, .sl 0), (1, .sl 1)], [.arr 3 1, .arr 3 1]⟩⟩]⟩
def I24 : Inst := ⟨G24, F24, [⟨13, [.lp 13, .blk 0, .c 29], ⟨[(0, .inl 3), (4, .sl 0), (5, .sl 1), (6, .int .i64), (16, .inl 3), (17, .int .i64), (18, .int .i64)], [.arr 3 1, .arr 3 1]⟩⟩,
  ⟨36, [.lp 36, .blk 2, .c 83], ⟨[(0, .inl 3), (4, .sl 0), (5, .sl 1), (6, .int .i64), (9, .sl 2), (10, .int .i64)], [.arr 3 1, .arr 3 1, .arr 3 1]⟩⟩,
  ⟨51, [.lp 51, .blk 4, .c 67, .blk 3, .c 82, .lp 36, .blk 2, .c 83], ⟨[(0, .inl 3), (4, .sl 0), (5, .sl 1), (6, .int .i64), (9, .sl 2), (10, .int .i64), (11, .int .i64), (41, .inl 3), (42, .int .i64), (43, .int .i64)], [.arr 3 1, .arr 3 1, .arr 3 1]⟩⟩], [], []⟩
def L24 : List Sig := []

-- signalbox/edf.clamp
def G53 : Sig := ⟨53, [.int .i64], [], [⟨false, ⟨[(0, .int .i64)], []⟩⟩]⟩
def I53 : Inst := ⟨G53, F53, [], [], []⟩
def L53 : List Sig := []

-- signalbox/edf.run$1 DRAWN
def G69 : Sig := ⟨69, [.int .i64, .int .i64, .bptr 0 0], [.box 42 [.inl 3]], [⟨false, ⟨[(0, .int .i64)], [.box 42 [.inl 3]]⟩⟩]⟩
def I69 : Inst := ⟨G69, F69, [], [], []⟩
def L69 : List Sig := [G53]

-- slices.insertionSortCmpFunc[int] DRAWN
def G82 : Sig := ⟨82, [.c .nils, .int .i64, .int .i64, .fn 69 [] [.bptr 0 0]], [.box 42 [.inl 3]], [⟨true, ⟨[], [.box 42 [.inl 3]]⟩⟩]⟩
def I82 : Inst := ⟨G82, F82, [⟨4, [.lp 4, .blk 0], ⟨[(0, .c .nils), (1, .int .i64), (2, .int .i64), (3, .fn 69 [] [.bptr 0 0]), (8, .int .i64)], [.box 42 [.inl 3]]⟩⟩,
  ⟨16, [.lp 16, .blk 2, .blk 1, .c 26, .lp 4, .blk 0], ⟨[(0, .c .nils), (1, .int .i64), (2, .int .i64), (3, .fn 69 [] [.bptr 0 0]), (8, .int .i64), (9, .int .i64)], [.box 42 [.inl 3]]⟩⟩], [], []⟩
def L82 : List Sig := []

-- slices.swapRangeCmpFunc[int] DRAWN
def G99 : Sig := ⟨99, [.c .nils, .int .i64, .int .i64, .int .i64, .fn 69 [] [.bptr 0 0]], [.box 42 [.inl 3]], [⟨true, ⟨[], [.box 42 [.inl 3]]⟩⟩]⟩
def I99 : Inst := ⟨G99, F99, [⟨4, [.lp 4, .blk 0], ⟨[(0, .c .nils), (1, .int .i64), (2, .int .i64), (3, .int .i64), (10, .int .i64)], [.box 42 [.inl 3]]⟩⟩], [], []⟩
def L99 : List Sig := []

-- slices.rotateCmpFunc[int]
def G93 : Sig := ⟨93, [.c .nils, .int .i64, .int .i64, .int .i64, .fn 69 [] [.bptr 0 0]], [.box 42 [.inl 3]], [⟨true, ⟨[], [.box 42 [.inl 3]]⟩⟩]⟩
def I93 : Inst := ⟨G93, F93, [⟨7, [.lp 7, .blk 0, .c 23], ⟨[(0, .c .nils), (2, .int .i64), (4, .fn 69 [] [.bptr 0 0]), (10, .int .i64), (11, .int .i64)], [.box 42 [.inl 3]]⟩⟩], [], []⟩
def L93 : List Sig := [G99]

-- slices.symMergeCmpFunc[int] DRAWN
def G83 : Sig := ⟨83, [.c .nils, .int .i64, .int .i64, .int .i64, .fn 69 [] [.bptr 0 0]], [.box 42 [.inl 3]], [⟨true, ⟨[], [.box 42 [.inl 3]]⟩⟩]⟩
def I83 : Inst := ⟨G83, F83, [⟨11, [.lp 11, .blk 0, .c 25, .c 42], ⟨[(0, .c .nils), (1, .int .i64), (4, .fn 69 [] [.bptr 0 0]), (10, .int .i64), (11, .int .i64)], [.box 42 [.inl 3]]⟩⟩,
  ⟨30, [.lp 30, .blk 2, .c 40, .c 42], ⟨[(0, .c .nils), (10, .int .i64), (13, .int .i64)], [.box 42 [.inl 3]]⟩⟩,
  ⟨53, [.lp 53, .blk 4, .c 67, .c 84], ⟨[(0, .c .nils), (2, .int .i64), (4, .fn 69 [] [.bptr 0 0]), (14, .int .i64), (15, .int .i64)], [.box 42 [.inl 3]]⟩⟩,
  ⟨72, [.lp 72, .blk 6, .c 82, .c 84], ⟨[(0, .c .nils), (14, .int .i64), (17, .int .i64)], [.box 42 [.inl 3]]⟩⟩,
  ⟨100, [], ⟨[(0, .c .nils), (1, .int .i64), (2, .int .i64), (3, .int .i64), (4, .fn 69 [] [.bptr 0 0]), (18, .int .i64), (19, .int .i64), (20, .int .i64), (21, .int .i64)], [.box 42 [.inl 3]]⟩⟩,
  ⟨105, [.lp 105, .blk 8, .c 119], ⟨[(0, .c .nils), (1, .int .i64), (2, .int .i64), (3, .int .i64), (4, .fn 69 [] [.bptr 0 0]), (18, .int .i64), (19, .int .i64), (20, .int .i64), (21, .int .i64), (22, .int .i64)], [.box 42 [.inl 3]]⟩⟩,
  ⟨127, [], ⟨[(0, .c .nils), (1, .int .i64), (3, .int .i64), (4, .fn 69 [] [.bptr 0 0]), (18, .int .i64), (20, .int .i64), (24, .int .i64)], [.box 42 [.inl 3]]⟩⟩,
  ⟨133, [], ⟨[(0, .c .nils), (3, .int .i64), (4, .fn 69 [] [.bptr 0 0]), (18, .int .i64), (24, .int .i64)], [.box 42 [.inl 3]]⟩⟩], [], []⟩
def L83 : List Sig := [G93, G83]

-- slices.stableCmpFunc[int]
def G76 : Sig := ⟨76, [.c .nils, .int .i64, .fn 69 [] [.bptr 0 0]], [.box 42 [.inl 3]], [⟨true, ⟨[], [.box 42 [.inl 3]]⟩⟩]⟩
def I76 : Inst := ⟨G76, F76, [⟨7, [.lp 7, .blk 0, .c 19], ⟨[(0, .c .nils), (1, .int .i64), (2, .fn 69 [] [.bptr 0 0]), (6, .int .i64), (7, .int .i64), (8, .int .i64)], [.box 42 [.inl 3]]⟩⟩,
  ⟨23, [.lp 23, .blk 2], ⟨[(0, .c .nils), (1, .int .i64), (2, .fn 69 [] [.bptr 0 0]), (6, .int .i64)], [.box 42 [.inl 3]]⟩⟩,
  ⟨35, [.lp 35, .blk 4, .c 47, .blk 3, .lp 23, .blk 2], ⟨[(0, .c .nils), (1, .int .i64), (2, .fn 69 [] [.bptr 0 0]), (6, .int .i64), (7, .int .i64), (8, .int .i64)], [.box 42 [.inl 3]]⟩⟩], [], []⟩
def L76 : List Sig := [G82, G83]

-- slices.SortStableFunc[[]int,int]
def G61 : Sig := ⟨61, [.c .nils, .fn 69 [] [.bptr 0 0]], [.box 42 [.inl 3]], [⟨true, ⟨[], [.box 42 [.inl 3]]⟩⟩]⟩
def I61 : Inst := ⟨G61, F61, [], [], []⟩
def L61 : List Sig := [G76]

-- slices.insertionSortCmpFunc[int] DRAWN
def G82a : Sig := ⟨82, [.sl 0, .int .i64, .int .i64, .fn 69 [] [.bptr 1 0]], [.arr 3 1, .box 42 [.inl 3]], [⟨true, ⟨[], [.arr 3 1, .box 42 [.inl 3]]⟩⟩]⟩
def I82a : Inst := ⟨G82a, F82, [⟨4, [.lp 4, .blk 0], ⟨[(0, .sl 0), (1, .int .i64), (2, .int .i64), (3, .fn 69 [] [.bptr 1 0]), (8, .int .i64)], [.arr 3 1, .box 42 [.inl 3]]⟩⟩,
  ⟨16, [.lp 16, .blk 2, .blk 1, .c 26, .lp 4, .blk 0], ⟨[(0, .sl 0), (1, .int .i64), (2, .int .i64), (3, .fn 69 [] [.bptr 1 0]), (8, .int .i64), (9, .int .i64)], [.arr 3 1, .box 42 [.inl 3]]⟩⟩], [], [(18, [true, false]), (24, [false, true])]⟩
def L82a : List Sig := [G69]

-- slices.swapRangeCmpFunc[int] DRAWN
def G99a : Sig := ⟨99, [.sl 0, .int .i64, .int .i64, .int .i64, .fn 69 [] [.bptr 1 0]], [.arr 3 1, .box 42 [.inl 3]], [⟨true, ⟨[], [.arr 3 1, .box 42 [.inl 3]]⟩⟩]⟩
def I99a : Inst := ⟨G99a, F99, [⟨4, [.lp 4, .blk 0], ⟨[(0, .sl 0), (1, .int .i64), (2, .int .i64), (3, .int .i64), (10, .int .i64)], [.arr 3 1, .box 42 [.inl 3]]⟩⟩], [], [(12, [false, true])]⟩
def L99a : List Sig := []

-- slices.rotateCmpFunc[int]
def G93a : Sig := ⟨93, [.sl 0, .int .i64, .int .i64, .int .i64, .fn 69 [] [.bptr 1 0]], [.arr 3 1, .box 42 [.inl 3]], [⟨true, ⟨[], [.arr 3 1, .box 42 [.inl 3]]⟩⟩]⟩
def I93a : Inst := ⟨G93a, F93, [⟨7, [.lp 7, .blk 0, .c 23], ⟨[(0, .sl 0), (2, .int .i64), (4, .fn 69 [] [.bptr 1 0]), (10, .int .i64), (11, .int .i64)], [.arr 3 1, .box 42 [.inl 3]]⟩⟩], [], []⟩
def L93a : List Sig := [G99a]

-- slices.symMergeCmpFunc[int] DRAWN
def G83a : Sig := ⟨83, [.sl 0, .int .i64, .int .i64, .int .i64, .fn 69 [] [.bptr 1 0]], [.arr 3 1, .box 42 [.inl 3]], [⟨true, ⟨[], [.arr 3 1, .box 42 [.inl 3]]⟩⟩]⟩
def I83a : Inst := ⟨G83a, F83, [⟨11, [.lp 11, .blk 0, .c 25, .c 42], ⟨[(0, .sl 0), (1, .int .i64), (4, .fn 69 [] [.bptr 1 0]), (10, .int .i64), (11, .int .i64)], [.arr 3 1, .box 42 [.inl 3]]⟩⟩,
  ⟨30, [.lp 30, .blk 2, .c 40, .c 42], ⟨[(0, .sl 0), (10, .int .i64), (13, .int .i64)], [.arr 3 1, .box 42 [.inl 3]]⟩⟩,
  ⟨53, [.lp 53, .blk 4, .c 67, .c 84], ⟨[(0, .sl 0), (2, .int .i64), (4, .fn 69 [] [.bptr 1 0]), (14, .int .i64), (15, .int .i64)], [.arr 3 1, .box 42 [.inl 3]]⟩⟩,
  ⟨72, [.lp 72, .blk 6, .c 82, .c 84], ⟨[(0, .sl 0), (14, .int .i64), (17, .int .i64)], [.arr 3 1, .box 42 [.inl 3]]⟩⟩,
  ⟨100, [], ⟨[(0, .sl 0), (1, .int .i64), (2, .int .i64), (3, .int .i64), (4, .fn 69 [] [.bptr 1 0]), (18, .int .i64), (19, .int .i64), (20, .int .i64), (21, .int .i64)], [.arr 3 1, .box 42 [.inl 3]]⟩⟩,
  ⟨105, [.lp 105, .blk 8, .c 119], ⟨[(0, .sl 0), (1, .int .i64), (2, .int .i64), (3, .int .i64), (4, .fn 69 [] [.bptr 1 0]), (18, .int .i64), (19, .int .i64), (20, .int .i64), (21, .int .i64), (22, .int .i64)], [.arr 3 1, .box 42 [.inl 3]]⟩⟩,
  ⟨127, [], ⟨[(0, .sl 0), (1, .int .i64), (3, .int .i64), (4, .fn 69 [] [.bptr 1 0]), (18, .int .i64), (20, .int .i64), (24, .int .i64)], [.arr 3 1, .box 42 [.inl 3]]⟩⟩,
  ⟨133, [], ⟨[(0, .sl 0), (3, .int .i64), (4, .fn 69 [] [.bptr 1 0]), (18, .int .i64), (24, .int .i64)], [.arr 3 1, .box 42 [.inl 3]]⟩⟩], [], [(21, [true, false]), (38, [false, true]), (63, [true, false]), (80, [false, true]), (115, [true, false])]⟩
def L83a : List Sig := [G69, G93a, G83a]

-- slices.stableCmpFunc[int]
def G76a : Sig := ⟨76, [.sl 0, .int .i64, .fn 69 [] [.bptr 1 0]], [.arr 3 1, .box 42 [.inl 3]], [⟨true, ⟨[], [.arr 3 1, .box 42 [.inl 3]]⟩⟩]⟩
def I76a : Inst := ⟨G76a, F76, [⟨7, [.lp 7, .blk 0, .c 19], ⟨[(0, .sl 0), (1, .int .i64), (2, .fn 69 [] [.bptr 1 0]), (6, .int .i64), (7, .int .i64), (8, .int .i64)], [.arr 3 1, .box 42 [.inl 3]]⟩⟩,
  ⟨23, [.lp 23, .blk 2], ⟨[(0, .sl 0), (1, .int .i64), (2, .fn 69 [] [.bptr 1 0]), (6, .int .i64)], [.arr 3 1, .box 42 [.inl 3]]⟩⟩,
  ⟨35, [.lp 35, .blk 4, .c 47, .blk 3, .lp 23, .blk 2], ⟨[(0, .sl 0), (1, .int .i64), (2, .fn 69 [] [.bptr 1 0]), (6, .int .i64), (7, .int .i64), (8, .int .i64)], [.arr 3 1, .box 42 [.inl 3]]⟩⟩], [], []⟩
def L76a : List Sig := [G82a, G83a]

-- slices.SortStableFunc[[]int,int]
def G61a : Sig := ⟨61, [.sl 0, .fn 69 [] [.bptr 1 0]], [.arr 3 1, .box 42 [.inl 3]], [⟨true, ⟨[], [.arr 3 1, .box 42 [.inl 3]]⟩⟩]⟩
def I61a : Inst := ⟨G61a, F61, [], [], []⟩
def L61a : List Sig := [G76a]

-- (signalbox/edf.items).Len
def G70 : Sig := ⟨70, [.slh 0], [.arr 112 2], [⟨false, ⟨[(0, .int .i64)], [.arr 112 2]⟩⟩]⟩
def I70 : Inst := ⟨G70, F70, [], [], []⟩
def L70 : List Sig := []

-- (*signalbox/edf.items).Push DRAWN
def G122 : Sig := ⟨122, [.bptr 0 0, .iface 112 (.agg [.int .i64, .int .i64])], [.box 108 [.slh 1], .arr 112 2], [⟨true, ⟨[], [.box 108 [.slh 1], .arr 112 2]⟩⟩]⟩
def I122 : Inst := ⟨G122, F122, [], [], [(5, [false, false, true])]⟩
def L122 : List Sig := []

-- (signalbox/edf.items).Less DRAWN
def G120 : Sig := ⟨120, [.slh 0, .int .i64, .int .i64], [.arr 112 2], [⟨false, ⟨[(0, .sb)], [.arr 112 2]⟩⟩]⟩
def I120 : Inst := ⟨G120, F120, [], [], []⟩
def L120 : List Sig := []

-- (signalbox/edf.items).Swap DRAWN
def G123 : Sig := ⟨123, [.slh 0, .int .i64, .int .i64], [.arr 112 2], [⟨true, ⟨[], [.arr 112 2]⟩⟩]⟩
def I123 : Inst := ⟨G123, F123, [], [], [(0, [false])]⟩
def L123 : List Sig := []

-- container/heap.up
def G80 : Sig := ⟨80, [.iface 106 (.bptr 0 0), .int .i64], [.box 108 [.slh 1], .arr 112 2], [⟨true, ⟨[], [.box 108 [.slh 1], .arr 112 2]⟩⟩]⟩
def I80 : Inst := ⟨G80, F80, [⟨2, [.lp 2, .blk 0], ⟨[(0, .iface 106 (.bptr 0 0)), (1, .int .i64)], [.box 108 [.slh 1], .arr 112 2]⟩⟩], [], []⟩
def L80 : List Sig := [G120, G123]

-- container/heap.Push
def G71 : Sig := ⟨71, [.iface 106 (.bptr 0 0), .iface 112 (.agg [.int .i64, .int .i64])], [.box 108 [.slh 1], .arr 112 2], [⟨true, ⟨[], [.box 108 [.slh 1], .arr 112 2]⟩⟩]⟩
def I71 : Inst := ⟨G71, F71, [], [], []⟩
def L71 : List Sig := [G122, G70, G80]

-- container/heap.down
def G81 : Sig := ⟨81, [.iface 106 (.bptr 0 0), .int .i64, .int .i64], [.box 108 [.slh 1], .arr 112 2], [⟨false, ⟨[(0, .sb)], [.box 108 [.slh 1], .arr 112 2]⟩⟩]⟩
def I81 : Inst := ⟨G81, F81, [⟨7, [.lp 7, .blk 0, .c 35], ⟨[(0, .iface 106 (.bptr 0 0)), (1, .int .i64), (2, .int .i64), (7, .int .i64)], [.box 108 [.slh 1], .arr 112 2]⟩⟩,
  ⟨26, [.blk 1, .lp 7, .blk 0, .c 35], ⟨[(0, .iface 106 (.bptr 0 0)), (1, .int .i64), (2, .int .i64), (7, .int .i64), (9, .int .i64)], [.box 108 [.slh 1], .arr 112 2]⟩⟩], [], []⟩
def L81 : List Sig := [G120, G123]

-- (*signalbox/edf.items).Pop
def G121 : Sig := ⟨121, [.bptr 0 0], [.box 108 [.slh 1], .arr 112 2], [⟨false, ⟨[(0, .iface 112 (.agg [.int .i64, .int .i64]))], [.box 108 [.slh 1], .arr 112 2]⟩⟩]⟩
def I121 : Inst := ⟨G121, F121, [], [], []⟩
def L121 : List Sig := []

-- container/heap.Pop
def G72 : Sig := ⟨72, [.iface 106 (.bptr 0 0)], [.box 108 [.slh 1], .arr 112 2], [⟨false, ⟨[(0, .iface 112 (.agg [.int .i64, .int .i64]))], [.box 108 [.slh 1], .arr 112 2]⟩⟩]⟩
def I72 : Inst := ⟨G72, F72, [], [], []⟩
def L72 : List Sig := [G70, G123, G81, G121]

-- signalbox/edf.run DRAWN
def G54 : Sig := ⟨54, [.inl 3], [], [⟨false, ⟨[(0, .sl 0)], [.arr 93 3]⟩⟩]⟩
def I54 : Inst := ⟨G54, F54, [⟨11, [.lp 11, .blk 0, .c 29], ⟨[(1, .bptr 0 0), (3, .sl 1), (4, .sl 2), (15, .inl 3), (16, .int .i64), (17, .int .i64)], [.box 42 [.inl 3], .arr 3 1, .arr 3 1]⟩⟩,
  ⟨40, [.lp 40, .blk 2, .c 97], ⟨[(1, .bptr 0 0), (3, .slp 1), (4, .sl 2), (7, .sl 3), (8, .bptr 4 0), (9, .int .i64)], [.box 42 [.inl 3], .arr 3 1, .arr 3 1, .arr 93 3, .box 108 [.slh 5], .arr 112 2]⟩⟩,
  ⟨50, [.lp 50, .blk 4, .c 60, .blk 3, .lp 40, .blk 2, .c 97], ⟨[(1, .bptr 0 0), (3, .slp 1), (4, .sl 2), (7, .sl 3), (8, .bptr 4 0), (9, .int .i64)], [.box 42 [.inl 3], .arr 3 1, .arr 3 1, .arr 93 3, .box 108 [.slh 5], .arr 112 2]⟩⟩,
  ⟨59, [.blk 5, .lp 50, .blk 4, .c 60, .blk 3, .lp 40, .blk 2, .c 97], ⟨[(1, .bptr 0 0), (3, .slp 1), (4, .sl 2), (7, .sl 3), (8, .bptr 4 0), (9, .int .i64)], [.box 42 [.inl 3], .arr 3 1, .arr 3 1, .arr 93 3, .box 108 [.slh 5], .arr 112 2]⟩⟩,
  ⟨70, [.blk 3, .lp 40, .blk 2, .c 97], ⟨[(1, .bptr 0 0), (3, .slp 1), (4, .sl 2), (7, .sl 3), (8, .bptr 4 0), (10, .bptr 5 0)], [.box 42 [.inl 3], .arr 3 1, .arr 3 1, .arr 93 3, .box 108 [.slh 6], .box 93 [.int .i64, .int .i64, .int .i64], .arr 112 2]⟩⟩,
  ⟨82, [.blk 3, .lp 40, .blk 2, .c 97], ⟨[(1, .bptr 0 0), (3, .slp 1), (4, .sl 2), (7, .sl 3), (8, .bptr 4 0), (10, .bptr 5 0)], [.box 42 [.inl 3], .arr 3 1, .arr 3 1, .arr 93 3, .box 108 [.slh 6], .box 93 [.int .i64, .int .i64, .int .i64], .arr 112 2]⟩⟩], [], [(58, [true, true, true, true, false, false]), (68, [true, true, true, true, true, true, false]), (87, [true, true, false, true, true, true, true])]⟩
def L54 : List Sig := [G53, G61a, G70, G71, G72]

-- signalbox/edf.Run
def G25 : Sig := ⟨25, [.inl 3], [], [⟨false, ⟨[(0, .sl 0)], [.arr 3 1]⟩⟩]⟩
def I25 : Inst := ⟨G25, F25, [⟨9, [.lp 9, .blk 0, .c 21], ⟨[(0, .inl 3), (3, .sl 0), (8, .inl 3), (9, .int .i64), (10, .int .i64)], [.arr 3 1]⟩⟩,
  ⟨26, [.lp 26, .blk 2, .c 42], ⟨[(3, .sl 0), (22, .sl 1), (23, .int .i64), (24, .int .i64)], [.arr 3 1, .arr 93 3]⟩⟩], [], []⟩
def L25 : List Sig := [G53, G54]

-- signalbox/edf.Late
def G26 : Sig := ⟨26, [.inl 3], [], [⟨false, ⟨[(0, .sl 0)], [.arr 3 1]⟩⟩]⟩
def I26 : Inst := ⟨G26, F26, [⟨9, [.lp 9, .blk 0, .c 25], ⟨[(0, .inl 3), (3, .sl 0), (7, .sl 1), (8, .int .i64), (9, .int .i64)], [.arr 3 1, .arr 3 1]⟩⟩], [], []⟩
def L26 : List Sig := [G53, G25]

-- signalbox/edf.Order
def G27 : Sig := ⟨27, [.inl 3, .int .i64], [], [⟨false, ⟨[(0, .sl 0)], [.arr 3 1]⟩⟩]⟩
def I27 : Inst := ⟨G27, F27, [⟨17, [.lp 17, .blk 0, .c 29], ⟨[(0, .inl 3), (1, .int .i64), (5, .sl 0), (19, .int .i64), (20, .int .i64)], [.arr 3 1]⟩⟩,
  ⟨34, [.lp 34, .blk 2, .c 59], ⟨[(1, .int .i64), (5, .sl 0), (28, .sl 1), (29, .int .i64), (30, .int .i64)], [.arr 3 1, .arr 93 3]⟩⟩,
  ⟨48, [.lp 48, .blk 4, .blk 3, .c 58, .lp 34, .blk 2, .c 59], ⟨[(1, .int .i64), (5, .sl 0), (8, .bptr 1 0), (9, .int .i64), (28, .sl 2), (29, .int .i64), (30, .int .i64)], [.arr 3 1, .box 93 [.int .i64, .int .i64, .int .i64], .arr 93 3]⟩⟩], [], []⟩
def L27 : List Sig := [G54]

-- signalbox/signalboxlaw33.EdfRuns DRAWN
def G6 : Sig := ⟨6, [.inl 3, .int .i64], [], [⟨false, ⟨[(0, .sb)], []⟩⟩]⟩
def I6 : Inst := ⟨G6, F6, [⟨39, [.lp 39, .blk 0, .c 71], ⟨[(5, .inl 3), (7, .sl 0), (8, .sl 1), (9, .sl 2), (10, .sl 3), (11, .sl 4), (12, .int .i64), (55, .int .i64), (56, .int .i64)], [.arr 3 1, .arr 3 1, .arr 3 1, .arr 3 1, .arr 3 1]⟩⟩,
  ⟨76, [.lp 76, .blk 2, .c 102], ⟨[(7, .sl 0), (10, .sl 1), (12, .int .i64), (93, .sl 2), (94, .int .i64), (95, .int .i64)], [.arr 3 1, .arr 3 1, .arr 3 1]⟩⟩,
  ⟨94, [.blk 3, .c 101, .lp 76, .blk 2, .c 102], ⟨[(7, .sl 0), (10, .sl 1), (12, .int .i64), (15, .int .i64), (16, .int .i64), (93, .sl 2), (94, .int .i64), (95, .int .i64)], [.arr 3 1, .arr 3 1, .arr 3 1]⟩⟩], [⟨21, 1, [0, 1, 5, 31, 32], [31]⟩], []⟩
def L6 : List Sig := [G22, G23, G24, G25, G26, G27]

-- signalbox/sat.Add
def G56 : Sig := ⟨56, [.int .u64, .int .u64], [], [⟨false, ⟨[(0, .int .u64)], []⟩⟩]⟩
def I56 : Inst := ⟨G56, F56, [], [], []⟩
def L56 : List Sig := []

-- math/bits.Mul64
def G74 : Sig := ⟨74, [.int .u64, .int .u64], [], [⟨true, ⟨[(0, .int .u64), (1, .int .u64)], []⟩⟩]⟩
def I74 : Inst := ⟨G74, F74, [], [], []⟩
def L74 : List Sig := []

-- signalbox/sat.Mul
def G57 : Sig := ⟨57, [.int .u64, .int .u64], [], [⟨false, ⟨[(0, .int .u64)], []⟩⟩]⟩
def I57 : Inst := ⟨G57, F57, [], [], []⟩
def L57 : List Sig := [G74]

-- signalbox/edf.Demand
def G30 : Sig := ⟨30, [.inl 3, .int .u64], [], [⟨false, ⟨[(0, .int .u64)], []⟩⟩]⟩
def I30 : Inst := ⟨G30, F30, [⟨9, [.lp 9, .blk 0, .c 35], ⟨[(1, .int .u64), (5, .int .u64), (9, .inl 3), (10, .int .i64), (11, .int .i64)], []⟩⟩,
  ⟨33, [.blk 1, .c 34, .lp 9, .blk 0, .c 35], ⟨[(1, .int .u64), (5, .int .u64), (7, .bptr 0 0), (8, .int .u64), (9, .inl 3), (10, .int .i64), (11, .int .i64)], [.box 60 [.int .u64, .int .u64, .int .u64]]⟩⟩], [], []⟩
def L30 : List Sig := [G56, G57]

-- signalbox/edf.Fits
def G31 : Sig := ⟨31, [.inl 3, .int .u64], [], [⟨false, ⟨[(0, .sb)], []⟩⟩]⟩
def I31 : Inst := ⟨G31, F31, [⟨7, [.lp 7, .blk 0, .c 23], ⟨[(0, .inl 3), (1, .int .u64), (5, .int .u64)], []⟩⟩], [], []⟩
def L31 : List Sig := [G30]

-- signalbox/signalboxlaw33.EdfFits
def G9 : Sig := ⟨9, [.inl 3, .int .u16], [], [⟨false, ⟨[(0, .sb)], []⟩⟩]⟩
def I9 : Inst := ⟨G9, F9, [⟨27, [.lp 27, .blk 0, .c 60], ⟨[(5, .int .u64), (6, .sl 0), (26, .inl 3), (27, .int .i64), (28, .int .i64)], [.arr 53 3]⟩⟩,
  ⟨49, [.lp 49, .blk 2, .blk 1, .c 59, .lp 27, .blk 0, .c 60], ⟨[(5, .int .u64), (6, .sl 0), (8, .bptr 1 0), (9, .int .u64), (26, .inl 3), (27, .int .i64), (28, .int .i64)], [.arr 53 3, .box 60 [.int .u64, .int .u64, .int .u64]]⟩⟩,
  ⟨65, [.lp 65, .blk 4, .c 83], ⟨[(6, .sl 0), (75, .sl 0), (76, .int .i64), (77, .int .i64)], [.arr 53 3]⟩⟩], [⟨84, 1, [90, 91], [90]⟩], []⟩
def L9 : List Sig := [G22, G31, G26]

end Go.Ab
