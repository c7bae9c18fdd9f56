/- PRINTED BY A PROGRAM (wip/tools/sy.py): shapes of the functions. -/
import Derived.Test.YtdmpiondalhonaaAbZr
import Derived.Test.YtdmpiondalhonaaFns
namespace Go.Ab
open Go Go.Proofs
set_option linter.unusedVariables false

/-- How rows are spelt. -/
def sg : RowF := fun A e rows i => match e with
  | 3 => [.int .i64 (A.cI rows i 0)]
  | 60 => [.int .u64 (A.cI rows i 0), .int .u64 (A.cI rows i 1), .int .u64 (A.cI rows i 2)]
  | _ => A.cX rows i

def TT : List (Nat × AFn) := [(8, F8), (22, F22), (25, F25), (26, F26), (27, F27), (28, F28), (29, F29), (30, F30), (31, F31), (53, F53), (54, F54), (55, F55), (56, F56), (57, F57), (61, F61), (69, F69), (70, F70), (71, F71), (72, F72), (74, F74), (76, F76), (80, F80), (81, F81), (82, F82), (83, F83), (93, F93), (99, F99), (120, F120), (121, F121), (122, F122), (123, F123)]
theorem TT_at : ∀ p ∈ TT, ∃ fn, p.2.at Try.prog p.1 fn := by
  intro p hp
  simp only [TT, List.mem_cons, List.not_mem_nil, or_false] at hp
  rcases hp with rfl | rfl | rfl | rfl | rfl | rfl | rfl | rfl | rfl | rfl | rfl | rfl | rfl | rfl | rfl | rfl | rfl | rfl | rfl | rfl | rfl | rfl | rfl | rfl | rfl | rfl | rfl | rfl | rfl | rfl | rfl
  · exact ⟨_, F8_at⟩
  · exact ⟨_, F22_at⟩
  · exact ⟨_, F25_at⟩
  · exact ⟨_, F26_at⟩
  · exact ⟨_, F27_at⟩
  · exact ⟨_, F28_at⟩
  · exact ⟨_, F29_at⟩
  · exact ⟨_, F30_at⟩
  · exact ⟨_, F31_at⟩
  · exact ⟨_, F53_at⟩
  · exact ⟨_, F54_at⟩
  · exact ⟨_, F55_at⟩
  · exact ⟨_, F56_at⟩
  · exact ⟨_, F57_at⟩
  · exact ⟨_, F61_at⟩
  · exact ⟨_, F69_at⟩
  · exact ⟨_, F70_at⟩
  · exact ⟨_, F71_at⟩
  · exact ⟨_, F72_at⟩
  · exact ⟨_, F74_at⟩
  · exact ⟨_, F76_at⟩
  · exact ⟨_, F80_at⟩
  · exact ⟨_, F81_at⟩
  · exact ⟨_, F82_at⟩
  · exact ⟨_, F83_at⟩
  · exact ⟨_, F93_at⟩
  · exact ⟨_, F99_at⟩
  · exact ⟨_, F120_at⟩
  · exact ⟨_, F121_at⟩
  · exact ⟨_, F122_at⟩
  · exact ⟨_, F123_at⟩
theorem mixed : Try.prog.follows .mixedOrders = true := by kernel_rfl

-- signalbox/edf.Run
def G25 : Sig := ⟨25, [.inl 3], [], [⟨false, ⟨[(0, .sl 0)], [.arr 3 1]⟩⟩]⟩

-- signalbox/edf.Order
def G27 : Sig := ⟨27, [.inl 3, .int .i64], [], [⟨false, ⟨[(0, .sl 0)], [.arr 3 1]⟩⟩]⟩

-- signalbox/edf.Late
def G26 : Sig := ⟨26, [.inl 3], [], [⟨false, ⟨[(0, .sl 0)], [.arr 3 1]⟩⟩]⟩

-- signalbox/sat.Add
def G56 : Sig := ⟨56, [.int .u64, .int .u64], [], [⟨false, ⟨[(0, .int .u64)], []⟩⟩]⟩
def I56 : Inst := ⟨G56, F56, [], [], []⟩
def L56 : List Sig := []

-- math/bits.Mul64
def G74 : Sig := ⟨74, [.int .u64, .int .u64], [], [⟨true, ⟨[(0, .int .u64), (1, .int .u64)], []⟩⟩]⟩
def I74 : Inst := ⟨G74, F74, [], [], []⟩
def L74 : List Sig := []

-- signalbox/sat.Mul
def G57 : Sig := ⟨57, [.int .u64, .int .u64], [], [⟨false, ⟨[(0, .int .u64)], []⟩⟩]⟩
def I57 : Inst := ⟨G57, F57, [], [], []⟩
def L57 : List Sig := [G74]

-- signalbox/edf.Demand
def G30 : Sig := ⟨30, [.inl 3, .int .u64], [], [⟨false, ⟨[(0, .int .u64)], []⟩⟩]⟩
def I30 : Inst := ⟨G30, F30, [⟨9, [.lp 9, .blk 0, .c 35], ⟨[(1, .int .u64), (5, .int .u64), (9, .inl 3), (10, .int .i64), (11, .int .i64)], []⟩⟩,
  ⟨33, [.blk 1, .c 34, .lp 9, .blk 0, .c 35], ⟨[(1, .int .u64), (5, .int .u64), (7, .bptr 0 0), (8, .int .u64), (9, .inl 3), (10, .int .i64), (11, .int .i64)], [.box 60 [.int .u64, .int .u64, .int .u64]]⟩⟩], [], []⟩
def L30 : List Sig := [G56, G57]

-- signalbox/edf.Fits
def G31 : Sig := ⟨31, [.inl 3, .int .u64], [], [⟨false, ⟨[(0, .sb)], []⟩⟩]⟩
def I31 : Inst := ⟨G31, F31, [⟨7, [.lp 7, .blk 0, .c 23], ⟨[(0, .inl 3), (1, .int .u64), (5, .int .u64)], []⟩⟩], [], []⟩
def L31 : List Sig := [G30]

-- signalbox/signalboxlaw33.fixed
def G22 : Sig := ⟨22, [], [], [⟨false, ⟨[(0, .sb)], []⟩⟩]⟩
def I22 : Inst := ⟨G22, F22, [], [], []⟩
def L22 : List Sig := [G25, G27, G26, G30, G31]

-- signalbox/signalboxref01.Add
def G28 : Sig := ⟨28, [.int .u64, .int .u64], [], [⟨false, ⟨[(0, .int .u64)], []⟩⟩]⟩
def I28 : Inst := ⟨G28, F28, [], [], []⟩
def L28 : List Sig := []

-- signalbox/signalboxref01.Mul
def G55 : Sig := ⟨55, [.int .u64, .int .u64], [], [⟨false, ⟨[(0, .int .u64)], []⟩⟩]⟩
def I55 : Inst := ⟨G55, F55, [], [], []⟩
def L55 : List Sig := [G55, G28]

-- signalbox/signalboxref33.Demand
def G29 : Sig := ⟨29, [.int .u64, .int .u64, .int .u64, .int .u64], [], [⟨false, ⟨[(0, .int .u64)], []⟩⟩]⟩
def I29 : Inst := ⟨G29, F29, [], [], []⟩
def L29 : List Sig := [G55, G28]

-- signalbox/signalboxlaw33.EdfDemand
def G8 : Sig := ⟨8, [.inl 3, .int .u64, .int .u64], [], [⟨false, ⟨[(0, .sb)], []⟩⟩]⟩
def I8 : Inst := ⟨G8, F8, [⟨25, [.lp 25, .blk 0, .c 37], ⟨[(0, .inl 3), (1, .int .u64), (2, .int .u64), (7, .int .u64), (8, .c (.bool true)), (24, .inl 3), (25, .int .i64), (26, .int .i64)], []⟩⟩,
  ⟨42, [.lp 42, .blk 2, .c 71], ⟨[(0, .inl 3), (1, .int .u64), (2, .int .u64), (7, .int .u64), (8, .sb), (11, .int .u64)], []⟩⟩,
  ⟨57, [.lp 57, .blk 4, .c 69, .blk 3, .c 70, .lp 42, .blk 2, .c 71], ⟨[(0, .inl 3), (1, .int .u64), (2, .int .u64), (7, .int .u64), (8, .sb), (11, .int .u64), (12, .int .u64), (46, .inl 3), (47, .int .i64), (48, .int .i64)], []⟩⟩], [], []⟩
def L8 : List Sig := [G22, G29, G28, G30, G31]

end Go.Ab
