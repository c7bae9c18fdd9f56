/- PRINTED BY A PROGRAM (wip/tools/sy.py): shapes of the functions. -/
import Derived.Test.YtkcnlpelbcpmgaaAbZ9
import Derived.Test.YtkcnlpelbcpmgaaFns
namespace Go.Ab
open Go Go.Proofs
set_option linter.unusedVariables false

/-- How rows are spelt. -/
def sg : RowF := fun A e rows i => match e with
  | 3 => [.int .i64 (A.cI rows i 0)]
  | 45 => [.int .i64 (A.cI rows i 0), .int .i64 (A.cI rows i 1), .int .i64 (A.cI rows i 2), .int .i64 (A.cI rows i 3), .int .i64 (A.cI rows i 4)]
  | 81 => [.int .i64 (A.cI rows i 0), .int .i64 (A.cI rows i 1), .int .i64 (A.cI rows i 2), .int .i64 (A.cI rows i 3), .int .i64 (A.cI rows i 4), .int .i64 (A.cI rows i 5)]
  | _ => A.cX rows i

def TT : List (Nat × AFn) := [(5, F5), (17, F17), (18, F18), (19, F19), (20, F20), (21, F21), (22, F22), (23, F23), (24, F24), (37, F37), (38, F38), (57, F57), (58, F58), (87, F87), (88, F88), (89, F89), (90, F90), (91, F91)]
theorem TT_at : ∀ p ∈ TT, ∃ fn, p.2.at Try.prog p.1 fn := by
  intro p hp
  simp only [TT, List.mem_cons, List.not_mem_nil, or_false] at hp
  rcases hp with rfl | rfl | rfl | rfl | rfl | rfl | rfl | rfl | rfl | rfl | rfl | rfl | rfl | rfl | rfl | rfl | rfl | rfl
  · exact ⟨_, F5_at⟩
  · exact ⟨_, F17_at⟩
  · exact ⟨_, F18_at⟩
  · exact ⟨_, F19_at⟩
  · exact ⟨_, F20_at⟩
  · exact ⟨_, F21_at⟩
  · exact ⟨_, F22_at⟩
  · exact ⟨_, F23_at⟩
  · exact ⟨_, F24_at⟩
  · exact ⟨_, F37_at⟩
  · exact ⟨_, F38_at⟩
  · exact ⟨_, F57_at⟩
  · exact ⟨_, F58_at⟩
  · exact ⟨_, F87_at⟩
  · exact ⟨_, F88_at⟩
  · exact ⟨_, F89_at⟩
  · exact ⟨_, F90_at⟩
  · exact ⟨_, F91_at⟩
theorem mixed : Try.prog.follows .mixedOrders = true := by kernel_rfl

-- (*signalbox/agenda.entries).Push DRAWN
def G91 : Sig := ⟨91, [.bptr 0 0, .iface 81 (.agg [.int .i64, .int .i64, .int .i64, .int .i64, .int .i64, .int .i64])], [.box 77 [.slh 1, .int .i64], .arr 81 6], [⟨true, ⟨[], [.box 77 [.slh 1, .int .i64], .arr 81 6]⟩⟩]⟩
def I91 : Inst := ⟨G91, F91, [], [], [(8, [false, false])]⟩
def L91 : List Sig := []

-- (signalbox/agenda.entries).Len
def G87 : Sig := ⟨87, [.slh 0], [.arr 81 6], [⟨false, ⟨[(0, .int .i64)], [.arr 81 6]⟩⟩]⟩
def I87 : Inst := ⟨G87, F87, [], [], []⟩
def L87 : List Sig := []

-- (signalbox/agenda.entries).Less DRAWN
def G88 : Sig := ⟨88, [.slh 0, .int .i64, .int .i64], [.arr 81 6], [⟨false, ⟨[(0, .sb)], [.arr 81 6]⟩⟩]⟩
def I88 : Inst := ⟨G88, F88, [⟨4, [], ⟨[(7, .bptr 1 0), (8, .bptr 2 0)], [.arr 81 6, .box 81 [.int .i64, .int .i64, .int .i64, .int .i64, .int .i64, .int .i64], .box 81 [.int .i64, .int .i64, .int .i64, .int .i64, .int .i64, .int .i64]]⟩⟩], [], []⟩
def L88 : List Sig := []

-- (signalbox/agenda.entries).Swap DRAWN
def G89 : Sig := ⟨89, [.slh 0, .int .i64, .int .i64], [.arr 81 6], [⟨true, ⟨[], [.arr 81 6]⟩⟩]⟩
def I89 : Inst := ⟨G89, F89, [], [], [(0, [false])]⟩
def L89 : List Sig := []

-- container/heap.up
def G57 : Sig := ⟨57, [.iface 79 (.bptr 0 0), .int .i64], [.box 77 [.slh 1, .int .i64], .arr 81 6], [⟨true, ⟨[], [.box 77 [.slh 1, .int .i64], .arr 81 6]⟩⟩]⟩
def I57 : Inst := ⟨G57, F57, [⟨2, [.lp 2, .blk 0], ⟨[(0, .iface 79 (.bptr 0 0)), (1, .int .i64)], [.box 77 [.slh 1, .int .i64], .arr 81 6]⟩⟩], [], []⟩
def L57 : List Sig := [G88, G89]

-- container/heap.Push
def G37 : Sig := ⟨37, [.iface 79 (.bptr 0 0), .iface 81 (.agg [.int .i64, .int .i64, .int .i64, .int .i64, .int .i64, .int .i64])], [.box 77 [.slh 1, .int .i64], .arr 81 6], [⟨true, ⟨[], [.box 77 [.slh 1, .int .i64], .arr 81 6]⟩⟩]⟩
def I37 : Inst := ⟨G37, F37, [], [], []⟩
def L37 : List Sig := [G91, G87, G57]

-- (*signalbox/agenda.Agenda).Put DRAWN
def G20 : Sig := ⟨20, [.bptr 0 0, .agg [.int .i64, .int .i64, .int .i64, .int .i64, .int .i64]], [.box 77 [.slh 1, .int .i64], .arr 81 6], [⟨true, ⟨[], [.box 77 [.slh 1, .int .i64], .arr 81 6]⟩⟩]⟩
def I20 : Inst := ⟨G20, F20, [], [], [(6, [false, false, false])]⟩
def L20 : List Sig := [G37]

-- signalbox/agenda.New
def G19 : Sig := ⟨19, [.inl 5], [], [⟨false, ⟨[(0, .bptr 0 0)], [.box 77 [.slh 1, .int .i64], .arr 81 6]⟩⟩]⟩
def I19 : Inst := ⟨G19, F19, [⟨9, [.lp 9, .blk 0, .c 21], ⟨[(3, .bptr 0 0), (8, .inl 5), (9, .int .i64), (10, .int .i64)], [.box 77 [.slh 1, .int .i64], .arr 81 6]⟩⟩], [], []⟩
def L19 : List Sig := [G20]

-- (*signalbox/agenda.Agenda).Len
def G24 : Sig := ⟨24, [.bptr 0 0], [.box 77 [.slh 1, .int .i64], .arr 81 6], [⟨false, ⟨[(0, .int .i64)], [.box 77 [.slh 1, .int .i64], .arr 81 6]⟩⟩]⟩
def I24 : Inst := ⟨G24, F24, [], [], []⟩
def L24 : List Sig := []

-- (*signalbox/agenda.Agenda).Next
def G22 : Sig := ⟨22, [.bptr 0 0], [.box 77 [.slh 1, .int .i64], .arr 81 6], [⟨true, ⟨[(0, .int .i64), (1, .sb)], [.box 77 [.slh 1, .int .i64], .arr 81 6]⟩⟩]⟩
def I22 : Inst := ⟨G22, F22, [], [], []⟩
def L22 : List Sig := [G24]

-- container/heap.down
def G58 : Sig := ⟨58, [.iface 79 (.bptr 0 0), .int .i64, .int .i64], [.box 77 [.slh 1, .int .i64], .arr 81 6], [⟨false, ⟨[(0, .sb)], [.box 77 [.slh 1, .int .i64], .arr 81 6]⟩⟩]⟩
def I58 : Inst := ⟨G58, F58, [⟨7, [.lp 7, .blk 0, .c 35], ⟨[(0, .iface 79 (.bptr 0 0)), (1, .int .i64), (2, .int .i64), (7, .int .i64)], [.box 77 [.slh 1, .int .i64], .arr 81 6]⟩⟩,
  ⟨26, [.blk 1, .lp 7, .blk 0, .c 35], ⟨[(0, .iface 79 (.bptr 0 0)), (1, .int .i64), (2, .int .i64), (7, .int .i64), (9, .int .i64)], [.box 77 [.slh 1, .int .i64], .arr 81 6]⟩⟩], [], []⟩
def L58 : List Sig := [G88, G89]

-- (*signalbox/agenda.entries).Pop
def G90 : Sig := ⟨90, [.bptr 0 0], [.box 77 [.slh 1, .int .i64], .arr 81 6], [⟨false, ⟨[(0, .iface 81 (.agg [.int .i64, .int .i64, .int .i64, .int .i64, .int .i64, .int .i64]))], [.box 77 [.slh 1, .int .i64], .arr 81 6]⟩⟩]⟩
def I90 : Inst := ⟨G90, F90, [], [], []⟩
def L90 : List Sig := []

-- container/heap.Pop
def G38 : Sig := ⟨38, [.iface 79 (.bptr 0 0)], [.box 77 [.slh 1, .int .i64], .arr 81 6], [⟨false, ⟨[(0, .iface 81 (.agg [.int .i64, .int .i64, .int .i64, .int .i64, .int .i64, .int .i64]))], [.box 77 [.slh 1, .int .i64], .arr 81 6]⟩⟩]⟩
def I38 : Inst := ⟨G38, F38, [], [], []⟩
def L38 : List Sig := [G87, G89, G58, G90]

-- (*signalbox/agenda.Agenda).Take
def G23 : Sig := ⟨23, [.bptr 0 0, .int .i64], [.box 77 [.slh 1, .int .i64], .arr 81 6], [⟨false, ⟨[(0, .sl 2)], [.box 77 [.slh 1, .int .i64], .arr 81 6, .arr 45 5]⟩⟩]⟩
def I23 : Inst := ⟨G23, F23, [⟨7, [.lp 7, .blk 0, .c 21], ⟨[(0, .bptr 0 0), (1, .int .i64), (5, .sl 2)], [.box 77 [.slh 1, .int .i64], .arr 81 6, .arr 45 5]⟩⟩], [], []⟩
def L23 : List Sig := [G24, G38]

-- signalbox/signalboxlaw05.fixed
def G18 : Sig := ⟨18, [], [], [⟨false, ⟨[(0, .sb)], []⟩⟩]⟩
def I18 : Inst := ⟨G18, F18, [], [], []⟩
def L18 : List Sig := [G19, G22, G23, G24]

-- signalbox/signalboxlaw05.first DRAWN
def G21 : Sig := ⟨21, [.inl 5], [], [⟨false, ⟨[(0, .int .i64)], []⟩⟩]⟩
def I21 : Inst := ⟨G21, F21, [⟨9, [.lp 9, .blk 0, .c 25], ⟨[(0, .inl 5), (3, .int .i64), (6, .inl 5), (7, .int .i64), (8, .int .i64)], []⟩⟩], [], []⟩
def L21 : List Sig := []

-- signalbox/signalboxlaw05.first DRAWN
def G21a : Sig := ⟨21, [.sl 0], [.arr 45 5], [⟨false, ⟨[(0, .int .i64)], [.arr 45 5]⟩⟩]⟩
def I21a : Inst := ⟨G21a, F21, [⟨9, [.lp 9, .blk 0, .c 25], ⟨[(0, .sl 0), (3, .int .i64), (6, .sl 0), (7, .int .i64), (8, .int .i64)], [.arr 45 5]⟩⟩], [], []⟩
def L21a : List Sig := []

-- signalbox/signalboxlaw05.AgendaPlays DRAWN
def G5 : Sig := ⟨5, [.inl 5, .inl 5, .inl 1], [], [⟨false, ⟨[(0, .sb)], []⟩⟩]⟩
def I5 : Inst := ⟨G5, F5, [⟨27, [.lp 27, .blk 0, .c 94], ⟨[(1, .inl 5), (7, .bptr 0 0), (8, .sl 1), (38, .inl 1), (39, .int .i64), (40, .int .i64)], [.box 77 [.slh 2, .int .i64], .arr 45 5, .arr 81 6]⟩⟩,
  ⟨45, [.blk 1, .c 93, .lp 27, .blk 0, .c 94], ⟨[(1, .inl 5), (7, .bptr 0 0), (8, .sl 1), (10, .int .i64), (38, .inl 1), (39, .int .i64), (40, .int .i64)], [.box 77 [.slh 2, .int .i64], .arr 45 5, .arr 81 6]⟩⟩,
  ⟨62, [.lp 62, .blk 2, .c 84, .blk 1, .c 93, .lp 27, .blk 0, .c 94], ⟨[(1, .inl 5), (7, .bptr 0 0), (8, .sl 1), (10, .int .i64), (38, .inl 1), (39, .int .i64), (40, .int .i64), (87, .sl 2), (88, .int .i64), (89, .int .i64)], [.box 77 [.slh 3, .int .i64], .arr 45 5, .arr 45 5, .arr 81 6]⟩⟩], [], []⟩
def L5 : List Sig := [G18, G19, G20, G21a, G22, G23, G24]

end Go.Ab
