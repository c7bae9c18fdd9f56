/- PRINTED BY A PROGRAM (wip/tools/sy.py): shapes of the functions. -/
import Derived.Test.YtjkjcfpphhionaaAbZr
import Derived.Test.YtjkjcfpphhionaaFns
namespace Go.Ab
open Go Go.Proofs
set_option linter.unusedVariables false

/-- How rows are spelt. -/
def sg : RowF := fun A e rows i => match e with
  | 3 => [.int .i64 (A.cI rows i 0)]
  | _ => A.cX rows i

def TT : List (Nat × AFn) := [(6, F6), (7, F7), (18, F18), (19, F19), (20, F20), (21, F21), (22, F22), (23, F23), (45, F45), (46, F46), (47, F47), (64, F64), (65, F65), (66, F66), (67, F67), (70, F70), (71, F71), (75, F75), (84, F84), (85, F85), (89, F89), (90, F90), (91, F91), (92, F92), (93, F93), (94, F94), (95, F95), (96, F96), (97, F97), (99, F99), (100, F100), (105, F105), (106, F106), (107, F107), (111, F111)]
theorem TT_at : ∀ p ∈ TT, ∃ fn, p.2.at Try.prog p.1 fn := by
  intro p hp
  simp only [TT, List.mem_cons, List.not_mem_nil, or_false] at hp
  rcases hp with rfl | rfl | rfl | rfl | rfl | rfl | rfl | rfl | rfl | rfl | rfl | rfl | rfl | rfl | rfl | rfl | rfl | rfl | rfl | rfl | rfl | rfl | rfl | rfl | rfl | rfl | rfl | rfl | rfl | rfl | rfl | rfl | rfl | rfl | rfl
  · exact ⟨_, F6_at⟩
  · exact ⟨_, F7_at⟩
  · exact ⟨_, F18_at⟩
  · exact ⟨_, F19_at⟩
  · exact ⟨_, F20_at⟩
  · exact ⟨_, F21_at⟩
  · exact ⟨_, F22_at⟩
  · exact ⟨_, F23_at⟩
  · exact ⟨_, F45_at⟩
  · exact ⟨_, F46_at⟩
  · exact ⟨_, F47_at⟩
  · exact ⟨_, F64_at⟩
  · exact ⟨_, F65_at⟩
  · exact ⟨_, F66_at⟩
  · exact ⟨_, F67_at⟩
  · exact ⟨_, F70_at⟩
  · exact ⟨_, F71_at⟩
  · exact ⟨_, F75_at⟩
  · exact ⟨_, F84_at⟩
  · exact ⟨_, F85_at⟩
  · exact ⟨_, F89_at⟩
  · exact ⟨_, F90_at⟩
  · exact ⟨_, F91_at⟩
  · exact ⟨_, F92_at⟩
  · exact ⟨_, F93_at⟩
  · exact ⟨_, F94_at⟩
  · exact ⟨_, F95_at⟩
  · exact ⟨_, F96_at⟩
  · exact ⟨_, F97_at⟩
  · exact ⟨_, F99_at⟩
  · exact ⟨_, F100_at⟩
  · exact ⟨_, F105_at⟩
  · exact ⟨_, F106_at⟩
  · exact ⟨_, F107_at⟩
  · exact ⟨_, F111_at⟩
theorem mixed : Try.prog.follows .mixedOrders = true := by kernel_rfl

-- signalbox/signalboxlaw35.fixed
def G18 : Sig := ⟨18, [], [], [⟨false, ⟨[(0, .sb)], []⟩⟩]⟩

-- signalbox/signalboxref35.Clamp
def G46 : Sig := ⟨46, [.int .i64], [], [⟨false, ⟨[(0, .int .i64)], []⟩⟩]⟩
def I46 : Inst := ⟨G46, F46, [], [], []⟩
def L46 : List Sig := []

-- signalbox/signalboxref35.Sorted DRAWN
def G19 : Sig := ⟨19, [.inl 1], [], [⟨false, ⟨[(0, .sl 0)], [.arr 3 1]⟩⟩]⟩
def I19 : Inst := ⟨G19, F19, [⟨9, [.lp 9, .blk 0, .c 36], ⟨[(3, .sl 0), (7, .inl 1), (8, .int .i64), (9, .int .i64)], [.arr 3 1]⟩⟩,
  ⟨26, [.lp 26, .blk 2, .c 34, .blk 1, .c 35, .lp 9, .blk 0, .c 36], ⟨[(3, .sl 0), (5, .int .i64), (6, .int .i64), (7, .inl 1), (8, .int .i64), (9, .int .i64)], [.arr 3 1]⟩⟩], [], []⟩
def L19 : List Sig := [G46]

-- signalbox/stats.clamp
def G66 : Sig := ⟨66, [.int .i64], [], [⟨false, ⟨[(0, .int .i64)], []⟩⟩]⟩
def I66 : Inst := ⟨G66, F66, [], [], []⟩
def L66 : List Sig := []

-- slices.Sort[[]int,int]
def G67 : Sig := ⟨67, [.c .nils], [], [⟨true, ⟨[], []⟩⟩]⟩

-- slices.Sort[[]int,int]
def G67a : Sig := ⟨67, [.sl 0], [.arr 3 1], [⟨true, ⟨[], [.arr 3 1]⟩⟩]⟩

-- signalbox/stats.sorted
def G47 : Sig := ⟨47, [.inl 1], [], [⟨false, ⟨[(0, .sl 0)], [.arr 3 1]⟩⟩]⟩
def I47 : Inst := ⟨G47, F47, [⟨9, [.lp 9, .blk 0, .c 21], ⟨[(3, .sl 0), (6, .inl 1), (7, .int .i64), (8, .int .i64)], [.arr 3 1]⟩⟩], [], []⟩
def L47 : List Sig := [G66, G67, G67a]

-- signalbox/stats.Of DRAWN
def G20 : Sig := ⟨20, [.inl 1], [], [⟨false, ⟨[(0, .agg [.int .i64, .int .i64, .int .i64, .int .i64, .int .i64])], []⟩⟩]⟩
def I20 : Inst := ⟨G20, F20, [⟨14, [], ⟨[(2, .bptr 0 0), (3, .sl 1), (4, .bptr 2 0)], [.box 40 [.int .i64, .int .i64, .int .i64, .int .i64, .int .i64], .arr 3 1, .box 40 [.int .i64, .int .i64, .int .i64, .int .i64, .int .i64]]⟩⟩,
  ⟨19, [.lp 19, .blk 0, .c 31], ⟨[(2, .bptr 0 0), (4, .bptr 1 0), (32, .sl 2), (33, .int .i64), (34, .int .i64)], [.box 40 [.int .i64, .int .i64, .int .i64, .int .i64, .int .i64], .box 40 [.int .i64, .int .i64, .int .i64, .int .i64, .int .i64], .arr 3 1]⟩⟩], [], []⟩
def L20 : List Sig := [G47]

-- signalbox/stats.Rank
def G21 : Sig := ⟨21, [.inl 1, .int .i64, .int .i64], [], [⟨true, ⟨[(0, .int .i64), (1, .sb)], []⟩⟩]⟩
def I21 : Inst := ⟨G21, F21, [], [], []⟩
def L21 : List Sig := [G47]

-- signalbox/stats.Bins
def G22 : Sig := ⟨22, [.inl 1, .int .i64, .int .i64], [], [⟨false, ⟨[(0, .sl 0)], [.arr 3 1]⟩⟩]⟩
def I22 : Inst := ⟨G22, F22, [⟨17, [.lp 17, .blk 0, .c 29], ⟨[(1, .int .i64), (2, .int .i64), (7, .sl 0), (26, .inl 1), (27, .int .i64), (28, .int .i64)], [.arr 3 1]⟩⟩], [], []⟩
def L22 : List Sig := []

-- signalbox/signalboxref35.Bin
def G23 : Sig := ⟨23, [.int .i64, .int .i64, .int .i64], [], [⟨false, ⟨[(0, .int .i64)], []⟩⟩]⟩
def I23 : Inst := ⟨G23, F23, [⟨7, [.lp 7, .blk 0, .c 23], ⟨[(0, .int .i64), (1, .int .i64), (2, .int .i64), (7, .int .i64)], []⟩⟩], [], []⟩
def L23 : List Sig := []

-- signalbox/signalboxlaw35.StatsTell DRAWN
def G6 : Sig := ⟨6, [.inl 1, .int .i64, .int .i64, .int .i64, .int .i64], [], [⟨false, ⟨[(0, .sb)], []⟩⟩]⟩
def I6 : Inst := ⟨G6, F6, [⟨40, [.lp 40, .blk 0, .c 52, .c 59], ⟨[(0, .inl 1), (1, .int .i64), (2, .int .i64), (3, .int .i64), (4, .int .i64), (11, .sl 0), (12, .bptr 1 0), (13, .int .i64), (39, .sl 0), (40, .int .i64), (41, .int .i64)], [.arr 3 1, .box 40 [.int .i64, .int .i64, .int .i64, .int .i64, .int .i64]]⟩⟩,
  ⟨59, [], ⟨[(0, .inl 1), (1, .int .i64), (2, .int .i64), (3, .int .i64), (4, .int .i64), (11, .sl 0)], [.arr 3 1]⟩⟩,
  ⟨77, [.lp 77, .blk 2, .c 85, .c 92], ⟨[(0, .inl 1), (1, .int .i64), (2, .int .i64), (3, .int .i64), (4, .int .i64), (11, .sl 0), (16, .int .i64), (17, .sb), (18, .int .i64)], [.arr 3 1]⟩⟩,
  ⟨92, [], ⟨[(0, .inl 1), (3, .int .i64), (4, .int .i64)], []⟩⟩,
  ⟨109, [.lp 109, .blk 4, .c 121], ⟨[(3, .int .i64), (4, .int .i64), (19, .sl 0), (20, .sl 1), (148, .inl 1), (149, .int .i64), (150, .int .i64)], [.arr 3 1, .arr 3 1]⟩⟩,
  ⟨134, [.lp 134, .blk 6, .c 152], ⟨[(19, .sl 0), (20, .sl 1), (169, .int .i64), (170, .int .i64)], [.arr 3 1, .arr 3 1]⟩⟩], [], []⟩
def L6 : List Sig := [G18, G19, G20, G21, G22, G23]

-- signalbox/signalboxlaw35.StatsRanks
def G7 : Sig := ⟨7, [.inl 1, .int .u8, .int .u8, .int .u8, .int .u8], [], [⟨false, ⟨[(0, .sb)], []⟩⟩]⟩
def I7 : Inst := ⟨G7, F7, [⟨31, [.lp 31, .blk 0, .c 43], ⟨[(0, .inl 1), (11, .int .i64), (12, .sb), (13, .int .i64), (14, .sb), (15, .bptr 0 0), (16, .int .i64), (55, .sl 1), (56, .int .i64), (57, .int .i64)], [.box 40 [.int .i64, .int .i64, .int .i64, .int .i64, .int .i64], .arr 3 1]⟩⟩,
  ⟨43, [], ⟨[(0, .inl 1), (11, .int .i64), (12, .sb), (13, .int .i64), (14, .sb), (15, .bptr 0 0), (16, .int .i64)], [.box 40 [.int .i64, .int .i64, .int .i64, .int .i64, .int .i64]]⟩⟩,
  ⟨51, [], ⟨[(0, .inl 1), (11, .int .i64), (12, .sb), (13, .int .i64), (14, .sb), (15, .bptr 0 0), (16, .int .i64)], [.box 40 [.int .i64, .int .i64, .int .i64, .int .i64, .int .i64]]⟩⟩,
  ⟨53, [], ⟨[(0, .inl 1), (11, .int .i64), (12, .sb), (13, .int .i64), (14, .sb), (15, .bptr 0 0), (16, .int .i64), (19, .int .i64)], [.box 40 [.int .i64, .int .i64, .int .i64, .int .i64, .int .i64]]⟩⟩,
  ⟨55, [], ⟨[(0, .inl 1), (11, .int .i64), (12, .sb), (13, .int .i64), (14, .sb), (15, .bptr 0 0), (16, .int .i64), (19, .int .i64), (21, .int .i64)], [.box 40 [.int .i64, .int .i64, .int .i64, .int .i64, .int .i64]]⟩⟩], [⟨56, 4, [], []⟩, ⟨56, 9, [], []⟩, ⟨56, 15, [], []⟩, ⟨56, 21, [], []⟩, ⟨56, 27, [], []⟩, ⟨56, 34, [], []⟩], []⟩
def L7 : List Sig := [G18, G21, G20, G22]

end Go.Ab
