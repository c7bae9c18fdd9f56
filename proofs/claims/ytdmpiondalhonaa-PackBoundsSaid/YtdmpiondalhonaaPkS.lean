/- PRINTED BY A PROGRAM (wip/tools/sy.py): shapes of the functions. -/
import Derived.Test.YtdmpiondalhonaaAbZr
import Derived.Test.YtdmpiondalhonaaFns
namespace Go.Ab
open Go Go.Proofs
set_option linter.unusedVariables false

/-- How rows are spelt. -/
def sg : RowF := fun A e rows i => match e with
  | 3 => [.int .i64 (A.cI rows i 0)]
  | _ => A.cX rows i

def TT : List (Nat × AFn) := [(10, F10), (11, F11), (12, F12), (32, F32), (33, F33), (34, F34), (35, F35), (36, F36), (37, F37), (38, F38), (39, F39), (40, F40), (41, F41), (49, F49), (58, F58), (59, F59), (60, F60), (61, F61), (62, F62), (63, F63), (64, F64), (68, F68), (75, F75), (76, F76), (77, F77), (82, F82), (83, F83), (93, F93), (99, F99), (117, F117), (118, F118), (119, F119)]
theorem TT_at : ∀ p ∈ TT, ∃ fn, p.2.at Try.prog p.1 fn := by
  intro p hp
  simp only [TT, List.mem_cons, List.not_mem_nil, or_false] at hp
  rcases hp with rfl | rfl | rfl | rfl | rfl | rfl | rfl | rfl | rfl | rfl | rfl | rfl | rfl | rfl | rfl | rfl | rfl | rfl | rfl | rfl | rfl | rfl | rfl | rfl | rfl | rfl | rfl | rfl | rfl | rfl | rfl | rfl
  · exact ⟨_, F10_at⟩
  · exact ⟨_, F11_at⟩
  · exact ⟨_, F12_at⟩
  · exact ⟨_, F32_at⟩
  · exact ⟨_, F33_at⟩
  · exact ⟨_, F34_at⟩
  · exact ⟨_, F35_at⟩
  · exact ⟨_, F36_at⟩
  · exact ⟨_, F37_at⟩
  · exact ⟨_, F38_at⟩
  · exact ⟨_, F39_at⟩
  · exact ⟨_, F40_at⟩
  · exact ⟨_, F41_at⟩
  · exact ⟨_, F49_at⟩
  · exact ⟨_, F58_at⟩
  · exact ⟨_, F59_at⟩
  · exact ⟨_, F60_at⟩
  · exact ⟨_, F61_at⟩
  · exact ⟨_, F62_at⟩
  · exact ⟨_, F63_at⟩
  · exact ⟨_, F64_at⟩
  · exact ⟨_, F68_at⟩
  · exact ⟨_, F75_at⟩
  · exact ⟨_, F76_at⟩
  · exact ⟨_, F77_at⟩
  · exact ⟨_, F82_at⟩
  · exact ⟨_, F83_at⟩
  · exact ⟨_, F93_at⟩
  · exact ⟨_, F99_at⟩
  · exact ⟨_, F117_at⟩
  · exact ⟨_, F118_at⟩
  · exact ⟨_, F119_at⟩
theorem mixed : Try.prog.follows .mixedOrders = true := by kernel_rfl

-- signalbox/signalboxlaw44.fixed
def G32 : Sig := ⟨32, [], [], [⟨false, ⟨[(0, .sb)], []⟩⟩]⟩

-- signalbox/signalboxref44.Right
def G33 : Sig := ⟨33, [.inl 1, .int .i64], [], [⟨false, ⟨[(0, .sb)], []⟩⟩]⟩
def I33 : Inst := ⟨G33, F33, [⟨7, [.lp 7, .blk 0, .c 25], ⟨[(0, .inl 1), (1, .int .i64), (7, .inl 1), (8, .int .i64), (9, .int .i64)], []⟩⟩], [], []⟩
def L33 : List Sig := []

-- signalbox/pack.right$1
def G75 : Sig := ⟨75, [.int .i64, .bptr 0 0], [.box 3 [.int .i64]], [⟨false, ⟨[(0, .sb)], [.box 3 [.int .i64]]⟩⟩]⟩
def I75 : Inst := ⟨G75, F75, [], [], []⟩
def L75 : List Sig := []

-- slices.IndexFunc[[]int,int]
def G68 : Sig := ⟨68, [.inl 1, .fn 75 [] [.bptr 0 0]], [.box 3 [.int .i64]], [⟨false, ⟨[(0, .int .i64)], [.box 3 [.int .i64]]⟩⟩]⟩
def I68 : Inst := ⟨G68, F68, [⟨7, [.lp 7, .blk 0, .c 25], ⟨[(0, .inl 1), (1, .fn 75 [] [.bptr 0 0]), (7, .int .i64), (8, .int .i64)], [.box 3 [.int .i64]]⟩⟩], [], []⟩
def L68 : List Sig := [G75]

-- slices.ContainsFunc[[]int,int]
def G49 : Sig := ⟨49, [.inl 1, .fn 75 [] [.bptr 0 0]], [.box 3 [.int .i64]], [⟨false, ⟨[(0, .sb)], [.box 3 [.int .i64]]⟩⟩]⟩
def I49 : Inst := ⟨G49, F49, [], [], []⟩
def L49 : List Sig := [G68]

-- signalbox/pack.right
def G58 : Sig := ⟨58, [.inl 1, .int .i64], [], [⟨false, ⟨[(0, .sb)], []⟩⟩]⟩
def I58 : Inst := ⟨G58, F58, [], [], []⟩
def L58 : List Sig := [G49]

-- signalbox/pack.Check DRAWN
def G34 : Sig := ⟨34, [.inl 1, .int .i64, .inl 1], [], [⟨false, ⟨[(0, .sb)], []⟩⟩]⟩
def I34 : Inst := ⟨G34, F34, [⟨17, [.lp 17, .blk 0, .c 37], ⟨[(0, .inl 1), (1, .int .i64), (7, .map 0), (22, .inl 1), (23, .int .i64), (24, .int .i64)], [.mp]⟩⟩], [], [(28, [false])]⟩
def L34 : List Sig := [G58]

-- signalbox/signalboxlaw44.PackChecks DRAWN
def G10 : Sig := ⟨10, [.inl 1, .int .i64, .inl 1], [], [⟨false, ⟨[(0, .sb)], []⟩⟩]⟩
def I10 : Inst := ⟨G10, F10, [⟨25, [.lp 25, .blk 0, .c 58], ⟨[(0, .inl 1), (1, .int .i64), (2, .inl 1), (7, .sb), (8, .int .i64)], []⟩⟩,
  ⟨40, [.lp 40, .blk 2, .c 56, .blk 1, .c 57, .lp 25, .blk 0, .c 58], ⟨[(0, .inl 1), (1, .int .i64), (2, .inl 1), (8, .int .i64), (9, .int .i64), (41, .int .i64), (42, .int .i64)], []⟩⟩], [], []⟩
def L10 : List Sig := [G32, G33, G34]

-- signalbox/pack.order
def G60 : Sig := ⟨60, [.inl 1], [], [⟨false, ⟨[(0, .sl 0)], [.arr 3 1]⟩⟩]⟩
def I60 : Inst := ⟨G60, F60, [⟨9, [.lp 9, .blk 0, .c 21], ⟨[(3, .sl 0), (9, .int .i64), (10, .int .i64)], [.arr 3 1]⟩⟩], [], []⟩
def L60 : List Sig := []

-- (signalbox/pack.first).choose$1
def G118 : Sig := ⟨118, [.int .i64, .bptr 0 0], [.box 3 [.int .i64]], [⟨false, ⟨[(0, .sb)], [.box 3 [.int .i64]]⟩⟩]⟩
def I118 : Inst := ⟨G118, F118, [], [], []⟩
def L118 : List Sig := []

-- slices.IndexFunc[[]int,int]
def G68a : Sig := ⟨68, [.inl 1, .fn 118 [] [.bptr 0 0]], [.box 3 [.int .i64]], [⟨false, ⟨[(0, .int .i64)], [.box 3 [.int .i64]]⟩⟩]⟩
def I68a : Inst := ⟨G68a, F68, [⟨7, [.lp 7, .blk 0, .c 25], ⟨[(0, .inl 1), (1, .fn 118 [] [.bptr 0 0]), (7, .int .i64), (8, .int .i64)], [.box 3 [.int .i64]]⟩⟩], [], []⟩
def L68a : List Sig := [G118]

-- (signalbox/pack.first).choose
def G117 : Sig := ⟨117, [.agg [], .inl 1, .int .i64], [], [⟨false, ⟨[(0, .int .i64)], []⟩⟩]⟩
def I117 : Inst := ⟨G117, F117, [], [], []⟩
def L117 : List Sig := [G68a]

-- slices.IndexFunc[[]int,int]
def G68b : Sig := ⟨68, [.sl 0, .fn 118 [] [.bptr 1 0]], [.arr 3 1, .box 3 [.int .i64]], [⟨false, ⟨[(0, .int .i64)], [.arr 3 1, .box 3 [.int .i64]]⟩⟩]⟩
def I68b : Inst := ⟨G68b, F68, [⟨7, [.lp 7, .blk 0, .c 25], ⟨[(0, .sl 0), (1, .fn 118 [] [.bptr 1 0]), (7, .int .i64), (8, .int .i64)], [.arr 3 1, .box 3 [.int .i64]]⟩⟩], [], []⟩
def L68b : List Sig := [G118]

-- (signalbox/pack.first).choose
def G117a : Sig := ⟨117, [.agg [], .sl 0, .int .i64], [.arr 3 1], [⟨false, ⟨[(0, .int .i64)], [.arr 3 1]⟩⟩]⟩
def I117a : Inst := ⟨G117a, F117, [], [], []⟩
def L117a : List Sig := [G68b]

-- signalbox/pack.lay DRAWN
def G59 : Sig := ⟨59, [.inl 1, .int .i64, .inl 1, .iface 98 (.agg [])], [], [⟨true, ⟨[(0, .sl 0), (1, .int .i64)], [.arr 3 1]⟩⟩]⟩
def I59 : Inst := ⟨G59, F59, [⟨19, [.lp 19, .blk 0, .c 43], ⟨[(0, .inl 1), (1, .int .i64), (3, .iface 98 (.agg [])), (10, .sl 0), (11, .sl 1), (22, .inl 1), (23, .int .i64), (24, .int .i64)], [.arr 3 1, .arr 3 1]⟩⟩], [], [(30, [true, false]), (40, [true, false])]⟩
def L59 : List Sig := [G117a, G58]

-- signalbox/pack.First
def G35 : Sig := ⟨35, [.inl 1, .int .i64], [], [⟨true, ⟨[(0, .sl 0), (1, .int .i64)], [.arr 3 1]⟩⟩]⟩
def I35 : Inst := ⟨G35, F35, [], [⟨3, 6, [6, 7, 9, 11, 12], [9]⟩], []⟩
def L35 : List Sig := [G60, G59]

-- cmp.isNaN[int]
def G77 : Sig := ⟨77, [.int .i64], [], [⟨false, ⟨[(0, .sb)], []⟩⟩]⟩
def I77 : Inst := ⟨G77, F77, [], [], []⟩
def L77 : List Sig := []

-- cmp.Compare[int]
def G63 : Sig := ⟨63, [.int .i64, .int .i64], [], [⟨false, ⟨[(0, .int .i64)], []⟩⟩]⟩
def I63 : Inst := ⟨G63, F63, [], [], []⟩
def L63 : List Sig := [G77]

-- signalbox/pack.Falling$1 DRAWN
def G62 : Sig := ⟨62, [.int .i64, .int .i64, .bptr 0 0], [.box 24 [.inl 1]], [⟨false, ⟨[(0, .int .i64)], [.box 24 [.inl 1]]⟩⟩]⟩
def I62 : Inst := ⟨G62, F62, [], [], []⟩
def L62 : List Sig := [G63]

-- slices.insertionSortCmpFunc[int] DRAWN
def G82 : Sig := ⟨82, [.sl 0, .int .i64, .int .i64, .fn 62 [] [.bptr 1 0]], [.arr 3 1, .box 24 [.inl 1]], [⟨true, ⟨[], [.arr 3 1, .box 24 [.inl 1]]⟩⟩]⟩
def I82 : Inst := ⟨G82, F82, [⟨4, [.lp 4, .blk 0], ⟨[(0, .sl 0), (1, .int .i64), (2, .int .i64), (3, .fn 62 [] [.bptr 1 0]), (8, .int .i64)], [.arr 3 1, .box 24 [.inl 1]]⟩⟩,
  ⟨16, [.lp 16, .blk 2, .blk 1, .c 26, .lp 4, .blk 0], ⟨[(0, .sl 0), (1, .int .i64), (2, .int .i64), (3, .fn 62 [] [.bptr 1 0]), (8, .int .i64), (9, .int .i64)], [.arr 3 1, .box 24 [.inl 1]]⟩⟩], [], [(18, [true, false]), (24, [false, true])]⟩
def L82 : List Sig := [G62]

-- slices.swapRangeCmpFunc[int] DRAWN
def G99 : Sig := ⟨99, [.sl 0, .int .i64, .int .i64, .int .i64, .fn 62 [] [.bptr 1 0]], [.arr 3 1, .box 24 [.inl 1]], [⟨true, ⟨[], [.arr 3 1, .box 24 [.inl 1]]⟩⟩]⟩
def I99 : Inst := ⟨G99, F99, [⟨4, [.lp 4, .blk 0], ⟨[(0, .sl 0), (1, .int .i64), (2, .int .i64), (3, .int .i64), (10, .int .i64)], [.arr 3 1, .box 24 [.inl 1]]⟩⟩], [], [(12, [false, true])]⟩
def L99 : List Sig := []

-- slices.rotateCmpFunc[int]
def G93 : Sig := ⟨93, [.sl 0, .int .i64, .int .i64, .int .i64, .fn 62 [] [.bptr 1 0]], [.arr 3 1, .box 24 [.inl 1]], [⟨true, ⟨[], [.arr 3 1, .box 24 [.inl 1]]⟩⟩]⟩
def I93 : Inst := ⟨G93, F93, [⟨7, [.lp 7, .blk 0, .c 23], ⟨[(0, .sl 0), (2, .int .i64), (4, .fn 62 [] [.bptr 1 0]), (10, .int .i64), (11, .int .i64)], [.arr 3 1, .box 24 [.inl 1]]⟩⟩], [], []⟩
def L93 : List Sig := [G99]

-- slices.symMergeCmpFunc[int] DRAWN
def G83 : Sig := ⟨83, [.sl 0, .int .i64, .int .i64, .int .i64, .fn 62 [] [.bptr 1 0]], [.arr 3 1, .box 24 [.inl 1]], [⟨true, ⟨[], [.arr 3 1, .box 24 [.inl 1]]⟩⟩]⟩
def I83 : Inst := ⟨G83, F83, [⟨11, [.lp 11, .blk 0, .c 25, .c 42], ⟨[(0, .sl 0), (1, .int .i64), (4, .fn 62 [] [.bptr 1 0]), (10, .int .i64), (11, .int .i64)], [.arr 3 1, .box 24 [.inl 1]]⟩⟩,
  ⟨30, [.lp 30, .blk 2, .c 40, .c 42], ⟨[(0, .sl 0), (10, .int .i64), (13, .int .i64)], [.arr 3 1, .box 24 [.inl 1]]⟩⟩,
  ⟨53, [.lp 53, .blk 4, .c 67, .c 84], ⟨[(0, .sl 0), (2, .int .i64), (4, .fn 62 [] [.bptr 1 0]), (14, .int .i64), (15, .int .i64)], [.arr 3 1, .box 24 [.inl 1]]⟩⟩,
  ⟨72, [.lp 72, .blk 6, .c 82, .c 84], ⟨[(0, .sl 0), (14, .int .i64), (17, .int .i64)], [.arr 3 1, .box 24 [.inl 1]]⟩⟩,
  ⟨100, [], ⟨[(0, .sl 0), (1, .int .i64), (2, .int .i64), (3, .int .i64), (4, .fn 62 [] [.bptr 1 0]), (18, .int .i64), (19, .int .i64), (20, .int .i64), (21, .int .i64)], [.arr 3 1, .box 24 [.inl 1]]⟩⟩,
  ⟨105, [.lp 105, .blk 8, .c 119], ⟨[(0, .sl 0), (1, .int .i64), (2, .int .i64), (3, .int .i64), (4, .fn 62 [] [.bptr 1 0]), (18, .int .i64), (19, .int .i64), (20, .int .i64), (21, .int .i64), (22, .int .i64)], [.arr 3 1, .box 24 [.inl 1]]⟩⟩,
  ⟨127, [], ⟨[(0, .sl 0), (1, .int .i64), (3, .int .i64), (4, .fn 62 [] [.bptr 1 0]), (18, .int .i64), (20, .int .i64), (24, .int .i64)], [.arr 3 1, .box 24 [.inl 1]]⟩⟩,
  ⟨133, [], ⟨[(0, .sl 0), (3, .int .i64), (4, .fn 62 [] [.bptr 1 0]), (18, .int .i64), (24, .int .i64)], [.arr 3 1, .box 24 [.inl 1]]⟩⟩], [], [(21, [true, false]), (38, [false, true]), (63, [true, false]), (80, [false, true]), (115, [true, false])]⟩
def L83 : List Sig := [G62, G93, G83]

-- slices.stableCmpFunc[int]
def G76 : Sig := ⟨76, [.sl 0, .int .i64, .fn 62 [] [.bptr 1 0]], [.arr 3 1, .box 24 [.inl 1]], [⟨true, ⟨[], [.arr 3 1, .box 24 [.inl 1]]⟩⟩]⟩
def I76 : Inst := ⟨G76, F76, [⟨7, [.lp 7, .blk 0, .c 19], ⟨[(0, .sl 0), (1, .int .i64), (2, .fn 62 [] [.bptr 1 0]), (6, .int .i64), (7, .int .i64), (8, .int .i64)], [.arr 3 1, .box 24 [.inl 1]]⟩⟩,
  ⟨23, [.lp 23, .blk 2], ⟨[(0, .sl 0), (1, .int .i64), (2, .fn 62 [] [.bptr 1 0]), (6, .int .i64)], [.arr 3 1, .box 24 [.inl 1]]⟩⟩,
  ⟨35, [.lp 35, .blk 4, .c 47, .blk 3, .lp 23, .blk 2], ⟨[(0, .sl 0), (1, .int .i64), (2, .fn 62 [] [.bptr 1 0]), (6, .int .i64), (7, .int .i64), (8, .int .i64)], [.arr 3 1, .box 24 [.inl 1]]⟩⟩], [], []⟩
def L76 : List Sig := [G82, G83]

-- slices.SortStableFunc[[]int,int]
def G61 : Sig := ⟨61, [.sl 0, .fn 62 [] [.bptr 1 0]], [.arr 3 1, .box 24 [.inl 1]], [⟨true, ⟨[], [.arr 3 1, .box 24 [.inl 1]]⟩⟩]⟩
def I61 : Inst := ⟨G61, F61, [], [], []⟩
def L61 : List Sig := [G76]

-- signalbox/pack.Falling
def G36 : Sig := ⟨36, [.inl 1, .int .i64], [], [⟨true, ⟨[(0, .sl 0), (1, .int .i64)], [.arr 3 1]⟩⟩]⟩
def I36 : Inst := ⟨G36, F36, [], [⟨7, 5, [12, 13, 14, 16, 17], [14]⟩], []⟩
def L36 : List Sig := [G61, G60, G59]

-- (signalbox/pack.tightest).choose
def G119 : Sig := ⟨119, [.agg [], .inl 1, .int .i64], [], [⟨false, ⟨[(0, .int .i64)], []⟩⟩]⟩
def I119 : Inst := ⟨G119, F119, [⟨9, [.lp 9, .blk 0, .c 25], ⟨[(1, .inl 1), (2, .int .i64), (7, .int .i64), (10, .inl 1), (11, .int .i64), (12, .int .i64)], []⟩⟩], [], []⟩
def L119 : List Sig := []

-- (signalbox/pack.tightest).choose
def G119a : Sig := ⟨119, [.agg [], .sl 0, .int .i64], [.arr 3 1], [⟨false, ⟨[(0, .int .i64)], [.arr 3 1]⟩⟩]⟩
def I119a : Inst := ⟨G119a, F119, [⟨9, [.lp 9, .blk 0, .c 25], ⟨[(1, .sl 0), (2, .int .i64), (7, .int .i64), (10, .sl 0), (11, .int .i64), (12, .int .i64)], [.arr 3 1]⟩⟩], [], []⟩
def L119a : List Sig := []

-- signalbox/pack.lay DRAWN
def G59a : Sig := ⟨59, [.inl 1, .int .i64, .inl 1, .iface 101 (.agg [])], [], [⟨true, ⟨[(0, .sl 0), (1, .int .i64)], [.arr 3 1]⟩⟩]⟩
def I59a : Inst := ⟨G59a, F59, [⟨19, [.lp 19, .blk 0, .c 43], ⟨[(0, .inl 1), (1, .int .i64), (3, .iface 101 (.agg [])), (10, .sl 0), (11, .sl 1), (22, .inl 1), (23, .int .i64), (24, .int .i64)], [.arr 3 1, .arr 3 1]⟩⟩], [], [(30, [true, false]), (40, [true, false])]⟩
def L59a : List Sig := [G119a, G58]

-- signalbox/pack.Best
def G37 : Sig := ⟨37, [.inl 1, .int .i64], [], [⟨true, ⟨[(0, .sl 0), (1, .int .i64)], [.arr 3 1]⟩⟩]⟩
def I37 : Inst := ⟨G37, F37, [], [⟨3, 6, [6, 7, 9, 11, 12], [9]⟩], []⟩
def L37 : List Sig := [G60, G59a]

-- signalbox/pack.Least
def G38 : Sig := ⟨38, [.inl 1, .int .i64], [], [⟨false, ⟨[(0, .int .i64)], []⟩⟩]⟩
def I38 : Inst := ⟨G38, F38, [⟨17, [.lp 17, .blk 0, .c 29], ⟨[(1, .int .i64), (5, .int .i64), (12, .inl 1), (13, .int .i64), (14, .int .i64)], []⟩⟩], [], []⟩
def L38 : List Sig := [G58]

-- signalbox/signalboxref44.Order DRAWN
def G40 : Sig := ⟨40, [.inl 1, .sb], [], [⟨false, ⟨[(0, .sl 0)], [.arr 3 1]⟩⟩]⟩
def I40 : Inst := ⟨G40, F40, [⟨9, [.lp 9, .blk 0, .c 34], ⟨[(0, .inl 1), (1, .sb), (5, .sl 0), (9, .int .i64), (10, .int .i64)], [.arr 3 1]⟩⟩,
  ⟨24, [.lp 24, .blk 2, .c 32, .blk 1, .c 33, .lp 9, .blk 0, .c 34], ⟨[(0, .inl 1), (1, .sb), (5, .sl 0), (6, .int .i64), (7, .int .i64), (9, .int .i64), (10, .int .i64)], [.arr 3 1]⟩⟩], [], []⟩
def L40 : List Sig := []

-- signalbox/signalboxref44.left
def G64 : Sig := ⟨64, [.inl 1, .int .i64, .inl 1, .int .i64], [], [⟨false, ⟨[(0, .int .i64)], []⟩⟩]⟩
def I64 : Inst := ⟨G64, F64, [⟨7, [.lp 7, .blk 0, .c 23], ⟨[(0, .inl 1), (1, .int .i64), (3, .int .i64), (11, .inl 1), (12, .int .i64), (13, .int .i64)], []⟩⟩], [], []⟩
def L64 : List Sig := []

-- signalbox/signalboxref44.left
def G64a : Sig := ⟨64, [.inl 1, .int .i64, .sl 0, .int .i64], [.arr 3 1], [⟨false, ⟨[(0, .int .i64)], [.arr 3 1]⟩⟩]⟩
def I64a : Inst := ⟨G64a, F64, [⟨7, [.lp 7, .blk 0, .c 23], ⟨[(0, .inl 1), (1, .int .i64), (3, .int .i64), (11, .sl 0), (12, .int .i64), (13, .int .i64)], [.arr 3 1]⟩⟩], [], []⟩
def L64a : List Sig := []

-- signalbox/signalboxref44.Pack
def G39 : Sig := ⟨39, [.inl 1, .int .i64, .inl 1, .sb], [], [⟨true, ⟨[(0, .sl 0), (1, .int .i64)], [.arr 3 1]⟩⟩]⟩
def I39 : Inst := ⟨G39, F39, [⟨9, [.lp 9, .blk 0, .c 21], ⟨[(0, .inl 1), (1, .int .i64), (2, .inl 1), (3, .sb), (10, .sl 0), (22, .int .i64), (23, .int .i64)], [.arr 3 1]⟩⟩,
  ⟨28, [.lp 28, .blk 2, .c 71], ⟨[(0, .inl 1), (1, .int .i64), (3, .sb), (10, .sl 0), (12, .int .i64), (30, .inl 1), (31, .int .i64), (32, .int .i64)], [.arr 3 1]⟩⟩,
  ⟨45, [.lp 45, .blk 4, .c 61, .blk 3, .c 70, .lp 28, .blk 2, .c 71], ⟨[(0, .inl 1), (1, .int .i64), (3, .sb), (10, .sl 0), (12, .int .i64), (14, .int .i64), (15, .int .i64), (16, .int .i64), (30, .inl 1), (31, .int .i64), (32, .int .i64)], [.arr 3 1]⟩⟩], [], []⟩
def L39 : List Sig := [G64a]

-- signalbox/signalboxlaw44.same DRAWN
def G41 : Sig := ⟨41, [.inl 1, .inl 1], [], [⟨false, ⟨[(0, .sb)], []⟩⟩]⟩
def I41 : Inst := ⟨G41, F41, [⟨15, [.lp 15, .blk 0, .c 33], ⟨[(0, .inl 1), (1, .inl 1), (12, .int .i64), (13, .int .i64)], []⟩⟩], [], []⟩
def L41 : List Sig := []

-- signalbox/signalboxlaw44.PackTells
def G11 : Sig := ⟨11, [.inl 1, .int .i64], [], [⟨false, ⟨[(0, .sb)], []⟩⟩]⟩
def I11 : Inst := ⟨G11, F11, [], [⟨29, 25, [63, 64, 65, 68, 69], [68]⟩, ⟨33, 4, [0, 1, 5, 6, 7, 8, 9, 10, 73, 74, 76, 77], [76]⟩, ⟨35, 4, [0, 1, 5, 6, 7, 8, 9, 10, 11, 12, 81, 82, 84, 85], [84]⟩, ⟨37, 4, [5, 6, 7, 8, 9, 10, 11, 12, 13, 14, 89, 90, 92, 93], [92]⟩, ⟨39, 2, [6, 7, 8, 9, 10, 12, 13, 14, 15, 16, 96, 97, 98], [96, 97]⟩, ⟨39, 11, [8, 9, 10, 14, 15, 16, 104, 105, 106, 107], [105, 106]⟩, ⟨39, 21, [10, 16, 114, 115, 116, 117], [115, 116]⟩], []⟩
def L11 : List Sig := [G32, G35, G36, G37, G33, G38, G40, G34, G39, G41]

-- signalbox/signalboxlaw44.PackBounds
def G12 : Sig := ⟨12, [.inl 1, .int .i64], [], [⟨false, ⟨[(0, .sb)], []⟩⟩]⟩
def I12 : Inst := ⟨G12, F12, [⟨27, [.lp 27, .blk 0, .c 39], ⟨[(0, .inl 1), (1, .int .i64), (5, .int .i64), (6, .int .i64), (29, .inl 1), (30, .int .i64), (31, .int .i64)], []⟩⟩,
  ⟨39, [], ⟨[(0, .inl 1), (1, .int .i64), (5, .int .i64), (6, .int .i64)], []⟩⟩,
  ⟨53, [], ⟨[(5, .int .i64), (10, .int .i64), (12, .int .i64), (14, .int .i64)], []⟩⟩], [⟨47, 3, [0, 1, 5, 6, 10, 11, 12, 13, 14, 57, 58, 59, 60], [59]⟩, ⟨47, 9, [0, 1, 5, 6, 10, 12, 13, 14, 62, 63, 64, 65, 66], [65]⟩, ⟨47, 12, [], []⟩, ⟨47, 16, [1, 5, 6, 10, 12, 14, 69, 70, 71, 72, 73], [72]⟩, ⟨47, 19, [], []⟩, ⟨47, 31, [], []⟩], []⟩
def L12 : List Sig := [G32, G33, G38, G35, G36, G37, G34]

end Go.Ab
