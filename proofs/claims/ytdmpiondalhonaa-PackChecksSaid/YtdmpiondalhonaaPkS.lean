/- PRINTED BY A PROGRAM (wip/tools/sy.py): shapes of the functions. -/
import Derived.Test.YtdmpiondalhonaaAbZr
import Derived.Test.YtdmpiondalhonaaFns
namespace Go.Ab
open Go Go.Proofs
set_option linter.unusedVariables false

/-- How rows are spelt. -/
def sg : RowF := fun A e rows i => match e with
  | 3 => [.int .i64 (A.cI rows i 0)]
  | _ => A.cX rows i

def TT : List (Nat × AFn) := [(10, F10), (32, F32), (33, F33), (34, F34), (35, F35), (36, F36), (38, F38), (49, F49), (58, F58), (59, F59), (60, F60), (61, F61), (62, F62), (63, F63), (68, F68), (75, F75), (76, F76), (77, F77), (82, F82), (83, F83), (93, F93), (99, F99), (117, F117), (118, F118), (119, F119)]
theorem TT_at : ∀ p ∈ TT, ∃ fn, p.2.at Try.prog p.1 fn := by
  intro p hp
  simp only [TT, List.mem_cons, List.not_mem_nil, or_false] at hp
  rcases hp with rfl | rfl | rfl | rfl | rfl | rfl | rfl | rfl | rfl | rfl | rfl | rfl | rfl | rfl | rfl | rfl | rfl | rfl | rfl | rfl | rfl | rfl | rfl | rfl | rfl
  · exact ⟨_, F10_at⟩
  · exact ⟨_, F32_at⟩
  · exact ⟨_, F33_at⟩
  · exact ⟨_, F34_at⟩
  · exact ⟨_, F35_at⟩
  · exact ⟨_, F36_at⟩
  · exact ⟨_, F38_at⟩
  · exact ⟨_, F49_at⟩
  · exact ⟨_, F58_at⟩
  · exact ⟨_, F59_at⟩
  · exact ⟨_, F60_at⟩
  · exact ⟨_, F61_at⟩
  · exact ⟨_, F62_at⟩
  · exact ⟨_, F63_at⟩
  · exact ⟨_, F68_at⟩
  · exact ⟨_, F75_at⟩
  · exact ⟨_, F76_at⟩
  · exact ⟨_, F77_at⟩
  · exact ⟨_, F82_at⟩
  · exact ⟨_, F83_at⟩
  · exact ⟨_, F93_at⟩
  · exact ⟨_, F99_at⟩
  · exact ⟨_, F117_at⟩
  · exact ⟨_, F118_at⟩
  · exact ⟨_, F119_at⟩
theorem mixed : Try.prog.follows .mixedOrders = true := by kernel_rfl

-- signalbox/signalboxlaw44.fixed
def G32 : Sig := ⟨32, [], [], [⟨false, ⟨[(0, .sb)], []⟩⟩]⟩

-- signalbox/signalboxref44.Right
def G33 : Sig := ⟨33, [.inl 1, .int .i64], [], [⟨false, ⟨[(0, .sb)], []⟩⟩]⟩
def I33 : Inst := ⟨G33, F33, [⟨7, [.lp 7, .blk 0, .c 25], ⟨[(0, .inl 1), (1, .int .i64), (7, .inl 1), (8, .int .i64), (9, .int .i64)], []⟩⟩], [], []⟩
def L33 : List Sig := []

-- signalbox/pack.right$1
def G75 : Sig := ⟨75, [.int .i64, .bptr 0 0], [.box 3 [.int .i64]], [⟨false, ⟨[(0, .sb)], [.box 3 [.int .i64]]⟩⟩]⟩
def I75 : Inst := ⟨G75, F75, [], [], []⟩
def L75 : List Sig := []

-- slices.IndexFunc[[]int,int]
def G68 : Sig := ⟨68, [.inl 1, .fn 75 [] [.bptr 0 0]], [.box 3 [.int .i64]], [⟨false, ⟨[(0, .int .i64)], [.box 3 [.int .i64]]⟩⟩]⟩
def I68 : Inst := ⟨G68, F68, [⟨7, [.lp 7, .blk 0, .c 25], ⟨[(0, .inl 1), (1, .fn 75 [] [.bptr 0 0]), (7, .int .i64), (8, .int .i64)], [.box 3 [.int .i64]]⟩⟩], [], []⟩
def L68 : List Sig := [G75]

-- slices.ContainsFunc[[]int,int]
def G49 : Sig := ⟨49, [.inl 1, .fn 75 [] [.bptr 0 0]], [.box 3 [.int .i64]], [⟨false, ⟨[(0, .sb)], [.box 3 [.int .i64]]⟩⟩]⟩
def I49 : Inst := ⟨G49, F49, [], [], []⟩
def L49 : List Sig := [G68]

-- signalbox/pack.right
def G58 : Sig := ⟨58, [.inl 1, .int .i64], [], [⟨false, ⟨[(0, .sb)], []⟩⟩]⟩
def I58 : Inst := ⟨G58, F58, [], [], []⟩
def L58 : List Sig := [G49]

-- signalbox/pack.Check DRAWN
def G34 : Sig := ⟨34, [.inl 1, .int .i64, .inl 1], [], [⟨false, ⟨[(0, .sb)], []⟩⟩]⟩
def I34 : Inst := ⟨G34, F34, [⟨17, [.lp 17, .blk 0, .c 37], ⟨[(0, .inl 1), (1, .int .i64), (7, .map 0), (22, .inl 1), (23, .int .i64), (24, .int .i64)], [.mp]⟩⟩], [], [(28, [false])]⟩
def L34 : List Sig := [G58]

-- signalbox/signalboxlaw44.PackChecks DRAWN
def G10 : Sig := ⟨10, [.inl 1, .int .i64, .inl 1], [], [⟨false, ⟨[(0, .sb)], []⟩⟩]⟩
def I10 : Inst := ⟨G10, F10, [⟨25, [.lp 25, .blk 0, .c 58], ⟨[(0, .inl 1), (1, .int .i64), (2, .inl 1), (7, .sb), (8, .int .i64)], []⟩⟩,
  ⟨40, [.lp 40, .blk 2, .c 56, .blk 1, .c 57, .lp 25, .blk 0, .c 58], ⟨[(0, .inl 1), (1, .int .i64), (2, .inl 1), (8, .int .i64), (9, .int .i64), (41, .int .i64), (42, .int .i64)], []⟩⟩], [], []⟩
def L10 : List Sig := [G32, G33, G34]

end Go.Ab
