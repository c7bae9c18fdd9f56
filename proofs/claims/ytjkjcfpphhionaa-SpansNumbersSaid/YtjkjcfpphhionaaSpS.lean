/- PRINTED BY A PROGRAM (wip/tools/sy.py): shapes of the functions. -/
import Derived.Test.YtjkjcfpphhionaaAbZr
import Derived.Test.YtjkjcfpphhionaaFns
namespace Go.Ab
open Go Go.Proofs
set_option linter.unusedVariables false

/-- How rows are spelt. -/
def sg : RowF := fun A e rows i => match e with
  | 3 => [.int .i64 (A.cI rows i 0)]
  | 60 => [.int .i64 (A.cI rows i 0), .int .i64 (A.cI rows i 1)]
  | 63 => [.int .i64 (A.cI rows i 0), .int .i64 (A.cI rows i 1)]
  | _ => A.cX rows i

def TT : List (Nat × AFn) := [(8, F8), (9, F9), (10, F10), (24, F24), (25, F25), (26, F26), (27, F27), (28, F28), (29, F29), (30, F30), (31, F31), (32, F32), (33, F33), (34, F34), (35, F35), (36, F36), (37, F37), (48, F48), (49, F49), (50, F50), (51, F51), (52, F52), (53, F53), (54, F54), (55, F55), (56, F56), (68, F68), (69, F69), (70, F70), (71, F71), (76, F76), (77, F77), (78, F78), (79, F79), (80, F80), (81, F81), (82, F82), (83, F83), (84, F84), (85, F85), (98, F98), (99, F99), (100, F100), (101, F101), (102, F102), (108, F108)]
theorem TT_at : ∀ p ∈ TT, ∃ fn, p.2.at Try.prog p.1 fn := by
  intro p hp
  simp only [TT, List.mem_cons, List.not_mem_nil, or_false] at hp
  rcases hp with rfl | rfl | rfl | rfl | rfl | rfl | rfl | rfl | rfl | rfl | rfl | rfl | rfl | rfl | rfl | rfl | rfl | rfl | rfl | rfl | rfl | rfl | rfl | rfl | rfl | rfl | rfl | rfl | rfl | rfl | rfl | rfl | rfl | rfl | rfl | rfl | rfl | rfl | rfl | rfl | rfl | rfl | rfl | rfl | rfl | rfl
  · exact ⟨_, F8_at⟩
  · exact ⟨_, F9_at⟩
  · exact ⟨_, F10_at⟩
  · exact ⟨_, F24_at⟩
  · exact ⟨_, F25_at⟩
  · exact ⟨_, F26_at⟩
  · exact ⟨_, F27_at⟩
  · exact ⟨_, F28_at⟩
  · exact ⟨_, F29_at⟩
  · exact ⟨_, F30_at⟩
  · exact ⟨_, F31_at⟩
  · exact ⟨_, F32_at⟩
  · exact ⟨_, F33_at⟩
  · exact ⟨_, F34_at⟩
  · exact ⟨_, F35_at⟩
  · exact ⟨_, F36_at⟩
  · exact ⟨_, F37_at⟩
  · exact ⟨_, F48_at⟩
  · exact ⟨_, F49_at⟩
  · exact ⟨_, F50_at⟩
  · exact ⟨_, F51_at⟩
  · exact ⟨_, F52_at⟩
  · exact ⟨_, F53_at⟩
  · exact ⟨_, F54_at⟩
  · exact ⟨_, F55_at⟩
  · exact ⟨_, F56_at⟩
  · exact ⟨_, F68_at⟩
  · exact ⟨_, F69_at⟩
  · exact ⟨_, F70_at⟩
  · exact ⟨_, F71_at⟩
  · exact ⟨_, F76_at⟩
  · exact ⟨_, F77_at⟩
  · exact ⟨_, F78_at⟩
  · exact ⟨_, F79_at⟩
  · exact ⟨_, F80_at⟩
  · exact ⟨_, F81_at⟩
  · exact ⟨_, F82_at⟩
  · exact ⟨_, F83_at⟩
  · exact ⟨_, F84_at⟩
  · exact ⟨_, F85_at⟩
  · exact ⟨_, F98_at⟩
  · exact ⟨_, F99_at⟩
  · exact ⟨_, F100_at⟩
  · exact ⟨_, F101_at⟩
  · exact ⟨_, F102_at⟩
  · exact ⟨_, F108_at⟩
theorem mixed : Try.prog.follows .mixedOrders = true := by kernel_rfl

-- signalbox/spans.clamp
def G50 : Sig := ⟨50, [.int .i64], [], [⟨false, ⟨[(0, .int .i64)], []⟩⟩]⟩
def I50 : Inst := ⟨G50, F50, [], [], []⟩
def L50 : List Sig := []

-- slices.SortFunc[[]signalbox/spans.Span,signalbox/spans.Span]
def G54 : Sig := ⟨54, [.c .nils, .fn 68 [] []], [], [⟨true, ⟨[], []⟩⟩]⟩

-- (signalbox/spans.Span).size
def G51 : Sig := ⟨51, [.agg [.int .i64, .int .i64]], [], [⟨false, ⟨[(0, .int .i64)], []⟩⟩]⟩
def I51 : Inst := ⟨G51, F51, [], [], []⟩
def L51 : List Sig := []

-- slices.SortFunc[[]signalbox/spans.Span,signalbox/spans.Span]
def G54a : Sig := ⟨54, [.sl 0, .fn 68 [] []], [.arr 63 2], [⟨true, ⟨[], [.arr 63 2]⟩⟩]⟩

-- signalbox/spans.proper DRAWN
def G48 : Sig := ⟨48, [.inl 2], [], [⟨false, ⟨[(0, .sl 0)], [.arr 63 2]⟩⟩]⟩
def I48 : Inst := ⟨G48, F48, [⟨9, [.lp 9, .blk 0, .c 27], ⟨[(3, .sl 0), (6, .inl 2), (7, .int .i64), (8, .int .i64)], [.arr 63 2]⟩⟩,
  ⟨21, [.blk 1, .c 26, .lp 9, .blk 0, .c 27], ⟨[(3, .sl 0), (5, .bptr 1 0), (6, .inl 2), (7, .int .i64), (8, .int .i64)], [.arr 63 2, .box 63 [.int .i64, .int .i64]]⟩⟩], [], [(20, [true, false])]⟩
def L48 : List Sig := [G50, G54, G51, G54a]

-- signalbox/spans.Join DRAWN
def G26 : Sig := ⟨26, [.inl 2], [], [⟨false, ⟨[(0, .sl 0)], [.arr 63 2]⟩⟩]⟩
def I26 : Inst := ⟨G26, F26, [⟨9, [.lp 9, .blk 0, .c 27], ⟨[(3, .sl 0), (8, .sl 1), (9, .int .i64), (10, .int .i64)], [.arr 63 2, .arr 63 2]⟩⟩], [], [(24, [false, true, true])]⟩
def L26 : List Sig := [G48]

-- slices.Clone[[]signalbox/spans.Span,signalbox/spans.Span]
def G53 : Sig := ⟨53, [.inl 2], [], [⟨false, ⟨[(0, .sl 0)], [.arr 63 2]⟩⟩]⟩
def I53 : Inst := ⟨G53, F53, [], [], []⟩
def L53 : List Sig := []

-- slices.SortFunc[[]signalbox/spans.Span,signalbox/spans.Span]
def G54b : Sig := ⟨54, [.sl 0, .fn 55 [] []], [.arr 63 2], [⟨true, ⟨[], [.arr 63 2]⟩⟩]⟩

-- signalbox/spans.Deepest DRAWN
def G36 : Sig := ⟨36, [.inl 2], [], [⟨true, ⟨[(0, .int .i64), (1, .int .i64)], []⟩⟩]⟩
def I36 : Inst := ⟨G36, F36, [⟨15, [.lp 15, .blk 0, .c 44], ⟨[(5, .sl 0), (6, .int .i64), (7, .int .i64), (8, .int .i64), (18, .inl 2), (19, .int .i64), (20, .int .i64)], [.arr 63 2]⟩⟩,
  ⟨28, [.lp 28, .blk 2, .c 36, .blk 1, .c 43, .lp 15, .blk 0, .c 44], ⟨[(5, .sl 0), (6, .int .i64), (7, .int .i64), (8, .int .i64), (9, .int .i64), (10, .bptr 1 0), (18, .inl 2), (19, .int .i64), (20, .int .i64)], [.arr 63 2, .box 63 [.int .i64, .int .i64]]⟩⟩], [⟨5, 1, [4, 14, 15], [14]⟩], []⟩
def L36 : List Sig := [G54b, G48, G53]

-- signalbox/spans.Gaps
def G29 : Sig := ⟨29, [.inl 2, .int .i64, .int .i64], [], [⟨false, ⟨[(0, .sl 0)], [.arr 63 2]⟩⟩]⟩
def I29 : Inst := ⟨G29, F29, [⟨11, [.lp 11, .blk 0, .c 31], ⟨[(7, .sl 0), (8, .int .i64), (9, .int .i64), (23, .sl 1), (24, .int .i64), (25, .int .i64)], [.arr 63 2, .arr 63 2]⟩⟩], [], []⟩
def L29 : List Sig := [G50, G51, G26]

-- signalbox/spans.Longest DRAWN
def G35 : Sig := ⟨35, [.inl 2], [], [⟨true, ⟨[(0, .agg [.int .i64, .int .i64]), (1, .sb)], []⟩⟩]⟩
def I35 : Inst := ⟨G35, F35, [⟨19, [.lp 19, .blk 0, .c 35], ⟨[(2, .bptr 0 0), (5, .bptr 1 0), (18, .slp 2), (19, .int .i64), (20, .int .i64)], [.box 63 [.int .i64, .int .i64], .box 63 [.int .i64, .int .i64], .arr 63 2]⟩⟩,
  ⟨31, [.blk 1, .c 34, .lp 19, .blk 0, .c 35], ⟨[(2, .bptr 0 0), (5, .bptr 1 0), (7, .bptr 2 0), (18, .slp 3), (19, .int .i64), (20, .int .i64), (28, .sb)], [.box 63 [.int .i64, .int .i64], .box 63 [.int .i64, .int .i64], .box 63 [.int .i64, .int .i64], .arr 63 2]⟩⟩], [], []⟩
def L35 : List Sig := [G51, G26]

-- signalbox/spans.Total
def G37 : Sig := ⟨37, [.inl 2], [], [⟨false, ⟨[(0, .int .i64)], []⟩⟩]⟩
def I37 : Inst := ⟨G37, F37, [⟨9, [.lp 9, .blk 0, .c 21], ⟨[(3, .int .i64), (7, .sl 0), (8, .int .i64), (9, .int .i64)], [.arr 63 2]⟩⟩], [], []⟩
def L37 : List Sig := [G51, G26]

-- signalbox/spans.Meet DRAWN
def G31 : Sig := ⟨31, [.inl 2, .inl 2], [], [⟨false, ⟨[(0, .sl 0)], [.arr 63 2]⟩⟩]⟩
def I31 : Inst := ⟨G31, F31, [⟨9, [.lp 9, .blk 0, .c 29], ⟨[(5, .slp 0), (6, .slp 1), (7, .sl 2)], [.arr 63 2, .arr 63 2, .arr 63 2]⟩⟩,
  ⟨19, [.c 24, .blk 1, .lp 9, .blk 0, .c 29], ⟨[(5, .slp 0), (6, .slp 1), (7, .sl 2), (8, .bptr 3 0)], [.arr 63 2, .arr 63 2, .arr 63 2, .box 63 [.int .i64, .int .i64]]⟩⟩,
  ⟨24, [.blk 1, .lp 9, .blk 0, .c 29], ⟨[(5, .slp 0), (6, .slp 1), (7, .sl 2)], [.arr 63 2, .arr 63 2, .arr 63 2]⟩⟩], [], []⟩
def L31 : List Sig := [G51, G26]

-- signalbox/signalboxlaw50.fixed DRAWN
def G24 : Sig := ⟨24, [], [], [⟨false, ⟨[(0, .sb)], []⟩⟩]⟩
def I24 : Inst := ⟨G24, F24, [], [], []⟩
def L24 : List Sig := [G26, G36, G29, G35, G37, G31]

-- signalbox/signalboxlaw50.rows
def G28 : Sig := ⟨28, [.inl 2], [], [⟨false, ⟨[(0, .sl 0)], [.arr 60 2]⟩⟩]⟩
def I28 : Inst := ⟨G28, F28, [⟨9, [.lp 9, .blk 0, .c 21], ⟨[(3, .sl 0), (6, .inl 2), (7, .int .i64), (8, .int .i64)], [.arr 60 2]⟩⟩], [], []⟩
def L28 : List Sig := []

-- signalbox/signalboxref50.Clamp
def G52 : Sig := ⟨52, [.int .i64], [], [⟨false, ⟨[(0, .int .i64)], []⟩⟩]⟩
def I52 : Inst := ⟨G52, F52, [], [], []⟩
def L52 : List Sig := []

-- signalbox/signalboxref50.Edges DRAWN
def G33 : Sig := ⟨33, [.inl 2], [], [⟨false, ⟨[(0, .sl 0)], [.arr 3 1]⟩⟩]⟩
def I33 : Inst := ⟨G33, F33, [⟨9, [.lp 9, .blk 0, .c 53], ⟨[(3, .sl 0), (9, .inl 2), (10, .int .i64), (11, .int .i64)], [.arr 3 1]⟩⟩,
  ⟨21, [.blk 1, .c 52, .lp 9, .blk 0, .c 53], ⟨[(3, .sl 0), (9, .inl 2), (10, .int .i64), (11, .int .i64), (21, .inl 1), (22, .int .i64), (23, .int .i64)], [.arr 3 1]⟩⟩,
  ⟨23, [.lp 23, .blk 2, .blk 1, .c 52, .lp 9, .blk 0, .c 53], ⟨[(3, .sl 0), (9, .inl 2), (10, .int .i64), (11, .int .i64), (21, .inl 1), (22, .int .i64), (23, .int .i64)], [.arr 3 1]⟩⟩,
  ⟨38, [.lp 38, .blk 4, .c 46, .blk 3, .c 51, .lp 23, .blk 2, .blk 1, .c 52, .lp 9, .blk 0, .c 53], ⟨[(3, .sl 0), (7, .int .i64), (8, .int .i64), (9, .inl 2), (10, .int .i64), (11, .int .i64), (21, .inl 1), (22, .int .i64), (23, .int .i64)], [.arr 3 1]⟩⟩], [], []⟩
def L33 : List Sig := [G52]

-- signalbox/signalboxref50.Depth
def G34 : Sig := ⟨34, [.inl 2, .int .i64], [], [⟨false, ⟨[(0, .int .i64)], []⟩⟩]⟩
def I34 : Inst := ⟨G34, F34, [⟨9, [.lp 9, .blk 0, .c 25], ⟨[(1, .int .i64), (5, .int .i64), (8, .inl 2), (9, .int .i64), (10, .int .i64)], []⟩⟩], [], []⟩
def L34 : List Sig := [G52]

-- signalbox/signalboxref50.Add DRAWN
def G49 : Sig := ⟨49, [.inl 2, .agg [.int .i64, .int .i64]], [], [⟨false, ⟨[(0, .sl 0)], [.arr 60 2]⟩⟩]⟩
def I49 : Inst := ⟨G49, F49, [], [], []⟩
def L49 : List Sig := []

-- signalbox/signalboxref50.Add DRAWN
def G49a : Sig := ⟨49, [.sl 0, .agg [.int .i64, .int .i64]], [.arr 60 2], [⟨false, ⟨[(0, .sl 1)], [.arr 60 2, .arr 60 2]⟩⟩]⟩
def I49a : Inst := ⟨G49a, F49, [], [], []⟩
def L49a : List Sig := []

-- signalbox/signalboxref50.Join DRAWN
def G27 : Sig := ⟨27, [.inl 2], [], [⟨false, ⟨[(0, .sl 0)], [.arr 60 2]⟩⟩]⟩
def I27 : Inst := ⟨G27, F27, [⟨11, [.lp 11, .blk 0, .c 25], ⟨[(0, .inl 2), (3, .sl 0), (4, .sl 1), (5, .int .i64)], [.arr 60 2, .arr 3 1]⟩⟩], [], [(22, [false, true])]⟩
def L27 : List Sig := [G49a, G33, G34, G49]

-- signalbox/signalboxlaw50.same DRAWN
def G25 : Sig := ⟨25, [.inl 2, .inl 2], [], [⟨false, ⟨[(0, .sb)], []⟩⟩]⟩
def I25 : Inst := ⟨G25, F25, [⟨17, [.lp 17, .blk 0, .c 35], ⟨[(1, .inl 2), (5, .sl 0), (15, .int .i64), (16, .int .i64)], [.arr 60 2]⟩⟩], [], []⟩
def L25 : List Sig := [G28]

-- signalbox/signalboxref50.Edges DRAWN
def G33a : Sig := ⟨33, [.sl 0], [.arr 60 2], [⟨false, ⟨[(0, .sl 1)], [.arr 60 2, .arr 3 1]⟩⟩]⟩
def I33a : Inst := ⟨G33a, F33, [⟨9, [.lp 9, .blk 0, .c 53], ⟨[(3, .sl 1), (9, .sl 0), (10, .int .i64), (11, .int .i64)], [.arr 60 2, .arr 3 1]⟩⟩,
  ⟨21, [.blk 1, .c 52, .lp 9, .blk 0, .c 53], ⟨[(3, .sl 1), (9, .sl 0), (10, .int .i64), (11, .int .i64), (21, .inl 1), (22, .int .i64), (23, .int .i64)], [.arr 60 2, .arr 3 1]⟩⟩,
  ⟨23, [.lp 23, .blk 2, .blk 1, .c 52, .lp 9, .blk 0, .c 53], ⟨[(3, .sl 1), (9, .sl 0), (10, .int .i64), (11, .int .i64), (21, .inl 1), (22, .int .i64), (23, .int .i64)], [.arr 60 2, .arr 3 1]⟩⟩,
  ⟨38, [.lp 38, .blk 4, .c 46, .blk 3, .c 51, .lp 23, .blk 2, .blk 1, .c 52, .lp 9, .blk 0, .c 53], ⟨[(3, .sl 1), (7, .int .i64), (8, .int .i64), (9, .sl 0), (10, .int .i64), (11, .int .i64), (21, .inl 1), (22, .int .i64), (23, .int .i64)], [.arr 60 2, .arr 3 1]⟩⟩], [], []⟩
def L33a : List Sig := [G52]

-- signalbox/signalboxref50.Gaps DRAWN
def G30 : Sig := ⟨30, [.inl 2, .int .i64, .int .i64], [], [⟨false, ⟨[(0, .sl 0)], [.arr 60 2]⟩⟩]⟩
def I30 : Inst := ⟨G30, F30, [⟨8, [], ⟨[(0, .inl 2), (7, .c .nils), (8, .bptr 0 0), (9, .sl 1)], [.box 60 [.int .i64, .int .i64], .arr 3 1]⟩⟩,
  ⟨13, [.lp 13, .blk 0, .c 27], ⟨[(0, .inl 2), (7, .sl 0), (8, .bptr 1 0), (9, .sl 2), (10, .int .i64)], [.arr 60 2, .box 60 [.int .i64, .int .i64], .arr 3 1]⟩⟩], [], [(24, [false, true, true])]⟩
def L30 : List Sig := [G52, G33a, G49a, G34, G49]

-- signalbox/signalboxref50.Meet DRAWN
def G32 : Sig := ⟨32, [.inl 2, .inl 2], [], [⟨false, ⟨[(0, .sl 0)], [.arr 60 2]⟩⟩]⟩
def I32 : Inst := ⟨G32, F32, [⟨11, [.lp 11, .blk 0, .c 25], ⟨[(0, .inl 2), (1, .inl 2), (5, .sl 0), (6, .sl 1), (7, .int .i64)], [.arr 60 2, .arr 3 1]⟩⟩], [⟨5, 5, [0, 1, 5, 12, 13], [12]⟩], [(22, [false, true])]⟩
def L32 : List Sig := [G49a, G33, G34, G49]

-- signalbox/signalboxlaw50.SpansSets
def G8 : Sig := ⟨8, [.inl 2, .inl 2, .int .i64, .int .i64], [], [⟨false, ⟨[(0, .sb)], []⟩⟩]⟩
def I8 : Inst := ⟨G8, F8, [], [⟨19, 4, [0, 1, 2, 3, 20, 22, 23], [22]⟩, ⟨19, 5, [0, 1, 2, 3, 20, 23, 24], [20, 23]⟩, ⟨19, 15, [0, 1, 25, 29, 31, 32, 33, 34], [31]⟩, ⟨19, 16, [0, 1, 25, 29, 34, 35], [29, 34]⟩, ⟨19, 26, [37, 40, 42, 44, 45], [42, 44]⟩, ⟨19, 27, [37, 40, 45, 46], [40, 45]⟩], []⟩
def L8 : List Sig := [G24, G26, G28, G27, G29, G30, G25, G31, G32]

-- signalbox/signalboxlaw50.SpansNumbers
def G9 : Sig := ⟨9, [.inl 2], [], [⟨false, ⟨[(0, .sb)], []⟩⟩]⟩
def I9 : Inst := ⟨G9, F9, [⟨27, [.lp 27, .blk 0, .c 45], ⟨[(0, .inl 2), (3, .int .i64), (4, .int .i64), (5, .int .i64), (6, .bptr 0 0), (7, .sb), (25, .sl 1), (26, .int .i64), (27, .int .i64)], [.box 60 [.int .i64, .int .i64], .arr 60 2]⟩⟩,
  ⟨50, [.lp 50, .blk 2, .c 68], ⟨[(0, .inl 2), (3, .int .i64), (4, .int .i64), (5, .int .i64), (6, .bptr 0 0), (7, .sb), (57, .sl 1), (58, .int .i64), (59, .int .i64)], [.box 60 [.int .i64, .int .i64], .arr 3 1]⟩⟩], [⟨24, 2, [0, 3, 4, 5, 6, 7, 24, 25], [24]⟩, ⟨47, 2, [0, 3, 4, 5, 6, 7, 56, 57], [56]⟩, ⟨61, 3, [0, 3, 4, 5, 6, 7, 11, 57, 58, 59, 64, 65, 66], [64]⟩], []⟩
def L9 : List Sig := [G24, G28, G27, G33, G34, G35, G36, G37]

-- signalbox/signalboxlaw50.SpansLaws
def G10 : Sig := ⟨10, [.inl 2, .inl 2, .int .i16, .int .i16], [], [⟨false, ⟨[(0, .sb)], []⟩⟩]⟩
def I10 : Inst := ⟨G10, F10, [], [⟨29, 1, [0, 1, 9, 10, 12, 13, 14, 15, 50, 51], [50]⟩, ⟨29, 3, [0, 1, 9, 10, 12, 13, 14, 15, 51, 52, 53], [52]⟩, ⟨29, 21, [0, 1, 14, 15, 66, 69, 70, 71], [70]⟩, ⟨29, 22, [0, 1, 14, 15, 66, 69, 71, 72], [69, 71]⟩, ⟨29, 26, [0, 1, 14, 15, 74, 75, 76], [75]⟩, ⟨29, 29, [0, 1, 14, 74, 76, 78, 79], [76, 78]⟩, ⟨29, 42, [14, 81, 86, 91, 92], [91]⟩], []⟩
def L10 : List Sig := [G24, G29, G26, G37, G28, G31, G25]

end Go.Ab
