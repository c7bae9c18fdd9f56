import Derived.Test.YtfbmlpffbjbbfaaLayE
import Derived.Test.YtfbmlpffbjbbfaaLayG
import Derived.Test.YtfbmlpffbjbbfaaFns
namespace Go.Ab
open Go Go.Proofs
set_option linter.unusedVariables false
def sg : RowF := fun A e rows i => match e with
 | 3 => [.int .i64 (A.cI rows i 0)]
 | 5 => [.int .u8 (A.cI rows i 0)]
 | 25 => [.int .i64 (A.cI rows i 0), .int .i64 (A.cI rows i 1), .int .i64 (A.cI rows i 2)]
 | 26 => [.int .i64 (A.cI rows i 0), .int .i64 (A.cI rows i 1), .int .i64 (A.cI rows i 2)]
 | 27 => [.bool (A.cB rows i 0)]
 | 43 => [.int .i64 (A.cI rows i 0), .int .i64 (A.cI rows i 1), .int .i64 (A.cI rows i 2)]
 | 53 => [.int .i64 (A.cI rows i 0), .int .i64 (A.cI rows i 1)]
 | _ => A.cX rows i
def TT : List (Nat × AFn) := [(3, F3), (4, F4), (5, F5), (6, F6), (7, F7), (8, F8), (9, F9), (10, F10), (11, F11), (12, F12), (13, F13), (14, F14), (15, F15), (16, F16), (17, F17), (18, F18), (20, F20), (21, F21), (22, F22), (23, F23), (24, F24), (25, F25), (26, F26), (27, F27), (44, F44), (45, F45), (46, F46), (47, F47)]
theorem TT_at : ∀ p ∈ TT, ∃ fn, p.2.at Try.prog p.1 fn := by
 unfold TT
 refine List.forall_mem_cons.2 ⟨⟨_, F3_at⟩, ?_⟩
 refine List.forall_mem_cons.2 ⟨⟨_, F4_at⟩, ?_⟩
 refine List.forall_mem_cons.2 ⟨⟨_, F5_at⟩, ?_⟩
 refine List.forall_mem_cons.2 ⟨⟨_, F6_at⟩, ?_⟩
 refine List.forall_mem_cons.2 ⟨⟨_, F7_at⟩, ?_⟩
 refine List.forall_mem_cons.2 ⟨⟨_, F8_at⟩, ?_⟩
 refine List.forall_mem_cons.2 ⟨⟨_, F9_at⟩, ?_⟩
 refine List.forall_mem_cons.2 ⟨⟨_, F10_at⟩, ?_⟩
 refine List.forall_mem_cons.2 ⟨⟨_, F11_at⟩, ?_⟩
 refine List.forall_mem_cons.2 ⟨⟨_, F12_at⟩, ?_⟩
 refine List.forall_mem_cons.2 ⟨⟨_, F13_at⟩, ?_⟩
 refine List.forall_mem_cons.2 ⟨⟨_, F14_at⟩, ?_⟩
 refine List.forall_mem_cons.2 ⟨⟨_, F15_at⟩, ?_⟩
 refine List.forall_mem_cons.2 ⟨⟨_, F16_at⟩, ?_⟩
 refine List.forall_mem_cons.2 ⟨⟨_, F17_at⟩, ?_⟩
 refine List.forall_mem_cons.2 ⟨⟨_, F18_at⟩, ?_⟩
 refine List.forall_mem_cons.2 ⟨⟨_, F20_at⟩, ?_⟩
 refine List.forall_mem_cons.2 ⟨⟨_, F21_at⟩, ?_⟩
 refine List.forall_mem_cons.2 ⟨⟨_, F22_at⟩, ?_⟩
 refine List.forall_mem_cons.2 ⟨⟨_, F23_at⟩, ?_⟩
 refine List.forall_mem_cons.2 ⟨⟨_, F24_at⟩, ?_⟩
 refine List.forall_mem_cons.2 ⟨⟨_, F25_at⟩, ?_⟩
 refine List.forall_mem_cons.2 ⟨⟨_, F26_at⟩, ?_⟩
 refine List.forall_mem_cons.2 ⟨⟨_, F27_at⟩, ?_⟩
 refine List.forall_mem_cons.2 ⟨⟨_, F44_at⟩, ?_⟩
 refine List.forall_mem_cons.2 ⟨⟨_, F45_at⟩, ?_⟩
 refine List.forall_mem_cons.2 ⟨⟨_, F46_at⟩, ?_⟩
 refine List.forall_mem_cons.2 ⟨⟨_, F47_at⟩, ?_⟩
 exact fun p hp => absurd hp (List.not_mem_nil)
theorem mixed : Try.prog.follows .mixedOrders = true := by kernel_rfl
abbrev EZ := EC Try.prog
theorem Inst.en {I : Inst} {fn : Func} {Q : EP} {L : List Sig} {rs : Rs} {vs : List Lf} (hF : I.F.at Try.prog I.sig.f fn)
  (h : ∀ A, A = arS → ∀ CE CK Dn EV RR, Wk Try.prog fn I L Q A sg CE CK Dn EV RR → puAll rs → segP A sg L CE CK Dn EV RR I.F.tab I.F.res I.stops I.anns I.drw I.sig.exits (lenL I.sig.hp) I.F.nt 80 true [.c 0] (appL (symL (bldC A I.sig.args I.sig.hp rs vs).1) (repL (I.F.nt - lenL (bldC A I.sig.args I.sig.hp rs vs).1) .junk)) (bldC A I.sig.args I.sig.hp rs vs).2)
  (hl : ∀ A : Ar, lenL (bldC A I.sig.args I.sig.hp rs vs).2 = lenL I.sig.hp := by intros; rfl) : EZ I.sig rs vs Q := by
 obtain ⟨A, hA⟩ : ∃ A, A = arS := ⟨_, rfl⟩
 exact Inst.enter hA mixed hF sg L 80 (hl A) (h A hA)
def G4 : Sig := ⟨4, [], [], [⟨false, ⟨[(0, .sb)], []⟩⟩]⟩
def G10 : Sig := ⟨10, [.int .i64], [], [⟨false, ⟨[(0, .int .i64)], []⟩⟩]⟩
def I10 : Inst := ⟨G10, F10, [], [], []⟩
def L10 : List Sig := []
def G15 : Sig := ⟨15, [.int .i64, .int .i64, .bptr 0 0], [.box 30 [.inl 3]], [⟨false, ⟨[(0, .int .i64)], [.box 30 [.inl 3]]⟩⟩]⟩
def I15 : Inst := ⟨G15, F15, [], [], []⟩
def L15 : List Sig := [G10]
def G24a : Sig := ⟨24, [.sl 0, .int .i64, .int .i64, .fn 15 [] [.bptr 1 0]], [.arr 3 1, .box 30 [.inl 3]], [⟨true, ⟨[], [.arr 3 1, .box 30 [.inl 3]]⟩⟩]⟩
def I24a : Inst := ⟨G24a, F24, [⟨4, [.lp 4, .blk 0], ⟨[(0, .sl 0), (1, .int .i64), (2, .int .i64), (3, .fn 15 [] [.bptr 1 0]), (8, .int .i64)], [.arr 3 1, .box 30 [.inl 3]]⟩⟩,
 ⟨16, [.lp 16, .blk 2, .blk 1, .c 26, .lp 4, .blk 0], ⟨[(0, .sl 0), (1, .int .i64), (2, .int .i64), (3, .fn 15 [] [.bptr 1 0]), (8, .int .i64), (9, .int .i64)], [.arr 3 1, .box 30 [.inl 3]]⟩⟩], [], [(18, [true, false]), (24, [false, true])]⟩
def L24a : List Sig := [G15]
def G27a : Sig := ⟨27, [.sl 0, .int .i64, .int .i64, .int .i64, .fn 15 [] [.bptr 1 0]], [.arr 3 1, .box 30 [.inl 3]], [⟨true, ⟨[], [.arr 3 1, .box 30 [.inl 3]]⟩⟩]⟩
def I27a : Inst := ⟨G27a, F27, [⟨4, [.lp 4, .blk 0], ⟨[(0, .sl 0), (1, .int .i64), (2, .int .i64), (3, .int .i64), (10, .int .i64)], [.arr 3 1, .box 30 [.inl 3]]⟩⟩], [], [(12, [false, true])]⟩
def L27a : List Sig := []
def G26a : Sig := ⟨26, [.sl 0, .int .i64, .int .i64, .int .i64, .fn 15 [] [.bptr 1 0]], [.arr 3 1, .box 30 [.inl 3]], [⟨true, ⟨[], [.arr 3 1, .box 30 [.inl 3]]⟩⟩]⟩
def I26a : Inst := ⟨G26a, F26, [⟨7, [.lp 7, .blk 0, .c 23], ⟨[(0, .sl 0), (2, .int .i64), (4, .fn 15 [] [.bptr 1 0]), (10, .int .i64), (11, .int .i64)], [.arr 3 1, .box 30 [.inl 3]]⟩⟩], [], []⟩
def L26a : List Sig := [G27a]
def G25a : Sig := ⟨25, [.sl 0, .int .i64, .int .i64, .int .i64, .fn 15 [] [.bptr 1 0]], [.arr 3 1, .box 30 [.inl 3]], [⟨true, ⟨[], [.arr 3 1, .box 30 [.inl 3]]⟩⟩]⟩
def I25a : Inst := ⟨G25a, F25, [⟨11, [.lp 11, .blk 0, .c 25, .c 42], ⟨[(0, .sl 0), (1, .int .i64), (4, .fn 15 [] [.bptr 1 0]), (10, .int .i64), (11, .int .i64)], [.arr 3 1, .box 30 [.inl 3]]⟩⟩,
 ⟨30, [.lp 30, .blk 2, .c 40, .c 42], ⟨[(0, .sl 0), (10, .int .i64), (13, .int .i64)], [.arr 3 1, .box 30 [.inl 3]]⟩⟩,
 ⟨53, [.lp 53, .blk 4, .c 67, .c 84], ⟨[(0, .sl 0), (2, .int .i64), (4, .fn 15 [] [.bptr 1 0]), (14, .int .i64), (15, .int .i64)], [.arr 3 1, .box 30 [.inl 3]]⟩⟩,
 ⟨72, [.lp 72, .blk 6, .c 82, .c 84], ⟨[(0, .sl 0), (14, .int .i64), (17, .int .i64)], [.arr 3 1, .box 30 [.inl 3]]⟩⟩,
 ⟨100, [], ⟨[(0, .sl 0), (1, .int .i64), (2, .int .i64), (3, .int .i64), (4, .fn 15 [] [.bptr 1 0]), (18, .int .i64), (19, .int .i64), (20, .int .i64), (21, .int .i64)], [.arr 3 1, .box 30 [.inl 3]]⟩⟩,
 ⟨105, [.lp 105, .blk 8, .c 119], ⟨[(0, .sl 0), (1, .int .i64), (2, .int .i64), (3, .int .i64), (4, .fn 15 [] [.bptr 1 0]), (18, .int .i64), (19, .int .i64), (20, .int .i64), (21, .int .i64), (22, .int .i64)], [.arr 3 1, .box 30 [.inl 3]]⟩⟩,
 ⟨127, [], ⟨[(0, .sl 0), (1, .int .i64), (3, .int .i64), (4, .fn 15 [] [.bptr 1 0]), (18, .int .i64), (20, .int .i64), (24, .int .i64)], [.arr 3 1, .box 30 [.inl 3]]⟩⟩,
 ⟨133, [], ⟨[(0, .sl 0), (3, .int .i64), (4, .fn 15 [] [.bptr 1 0]), (18, .int .i64), (24, .int .i64)], [.arr 3 1, .box 30 [.inl 3]]⟩⟩], [], [(21, [true, false]), (38, [false, true]), (63, [true, false]), (80, [false, true]), (115, [true, false])]⟩
def L25a : List Sig := [G15, G26a, G25a]
def G21a : Sig := ⟨21, [.sl 0, .int .i64, .fn 15 [] [.bptr 1 0]], [.arr 3 1, .box 30 [.inl 3]], [⟨true, ⟨[], [.arr 3 1, .box 30 [.inl 3]]⟩⟩]⟩
def I21a : Inst := ⟨G21a, F21, [⟨7, [.lp 7, .blk 0, .c 19], ⟨[(0, .sl 0), (1, .int .i64), (2, .fn 15 [] [.bptr 1 0]), (6, .int .i64), (7, .int .i64), (8, .int .i64)], [.arr 3 1, .box 30 [.inl 3]]⟩⟩,
 ⟨23, [.lp 23, .blk 2], ⟨[(0, .sl 0), (1, .int .i64), (2, .fn 15 [] [.bptr 1 0]), (6, .int .i64)], [.arr 3 1, .box 30 [.inl 3]]⟩⟩,
 ⟨35, [.lp 35, .blk 4, .c 47, .blk 3, .lp 23, .blk 2], ⟨[(0, .sl 0), (1, .int .i64), (2, .fn 15 [] [.bptr 1 0]), (6, .int .i64), (7, .int .i64), (8, .int .i64)], [.arr 3 1, .box 30 [.inl 3]]⟩⟩], [], []⟩
def L21a : List Sig := [G24a, G25a]
def G14a : Sig := ⟨14, [.sl 0, .fn 15 [] [.bptr 1 0]], [.arr 3 1, .box 30 [.inl 3]], [⟨true, ⟨[], [.arr 3 1, .box 30 [.inl 3]]⟩⟩]⟩
def I14a : Inst := ⟨G14a, F14, [], [], []⟩
def L14a : List Sig := [G21a]
def G16 : Sig := ⟨16, [.slh 0], [.arr 53 2], [⟨false, ⟨[(0, .int .i64)], [.arr 53 2]⟩⟩]⟩
def I16 : Inst := ⟨G16, F16, [], [], []⟩
def L16 : List Sig := []
def G46 : Sig := ⟨46, [.bptr 0 0, .iface 53 (.agg [.int .i64, .int .i64])], [.box 49 [.slh 1], .arr 53 2], [⟨true, ⟨[], [.box 49 [.slh 1], .arr 53 2]⟩⟩]⟩
def I46 : Inst := ⟨G46, F46, [], [], [(5, [false, false, true])]⟩
def L46 : List Sig := []
def G44 : Sig := ⟨44, [.slh 0, .int .i64, .int .i64], [.arr 53 2], [⟨false, ⟨[(0, .sb)], [.arr 53 2]⟩⟩]⟩
def I44 : Inst := ⟨G44, F44, [], [], []⟩
def L44 : List Sig := []
def G47 : Sig := ⟨47, [.slh 0, .int .i64, .int .i64], [.arr 53 2], [⟨true, ⟨[], [.arr 53 2]⟩⟩]⟩
def I47 : Inst := ⟨G47, F47, [], [], [(0, [false])]⟩
def L47 : List Sig := []
def G22 : Sig := ⟨22, [.iface 47 (.bptr 0 0), .int .i64], [.box 49 [.slh 1], .arr 53 2], [⟨true, ⟨[], [.box 49 [.slh 1], .arr 53 2]⟩⟩]⟩
def I22 : Inst := ⟨G22, F22, [⟨2, [.lp 2, .blk 0], ⟨[(0, .iface 47 (.bptr 0 0)), (1, .int .i64)], [.box 49 [.slh 1], .arr 53 2]⟩⟩], [], []⟩
def L22 : List Sig := [G44, G47]
def G17 : Sig := ⟨17, [.iface 47 (.bptr 0 0), .iface 53 (.agg [.int .i64, .int .i64])], [.box 49 [.slh 1], .arr 53 2], [⟨true, ⟨[], [.box 49 [.slh 1], .arr 53 2]⟩⟩]⟩
def I17 : Inst := ⟨G17, F17, [], [], []⟩
def L17 : List Sig := [G46, G16, G22]
def G23 : Sig := ⟨23, [.iface 47 (.bptr 0 0), .int .i64, .int .i64], [.box 49 [.slh 1], .arr 53 2], [⟨false, ⟨[(0, .sb)], [.box 49 [.slh 1], .arr 53 2]⟩⟩]⟩
def I23 : Inst := ⟨G23, F23, [⟨7, [.lp 7, .blk 0, .c 35], ⟨[(0, .iface 47 (.bptr 0 0)), (1, .int .i64), (2, .int .i64), (7, .int .i64)], [.box 49 [.slh 1], .arr 53 2]⟩⟩,
 ⟨26, [.blk 1, .lp 7, .blk 0, .c 35], ⟨[(0, .iface 47 (.bptr 0 0)), (1, .int .i64), (2, .int .i64), (7, .int .i64), (9, .int .i64)], [.box 49 [.slh 1], .arr 53 2]⟩⟩], [], []⟩
def L23 : List Sig := [G44, G47]
def G45 : Sig := ⟨45, [.bptr 0 0], [.box 49 [.slh 1], .arr 53 2], [⟨false, ⟨[(0, .iface 53 (.agg [.int .i64, .int .i64]))], [.box 49 [.slh 1], .arr 53 2]⟩⟩]⟩
def I45 : Inst := ⟨G45, F45, [], [], []⟩
def L45 : List Sig := []
def G18 : Sig := ⟨18, [.iface 47 (.bptr 0 0)], [.box 49 [.slh 1], .arr 53 2], [⟨false, ⟨[(0, .iface 53 (.agg [.int .i64, .int .i64]))], [.box 49 [.slh 1], .arr 53 2]⟩⟩]⟩
def I18 : Inst := ⟨G18, F18, [], [], []⟩
def L18 : List Sig := [G16, G47, G23, G45]
def G11 : Sig := ⟨11, [.inl 3], [], [⟨false, ⟨[(0, .sl 0)], [.arr 43 3]⟩⟩]⟩
def I11 : Inst := ⟨G11, F11, [⟨11, [.lp 11, .blk 0, .c 29], ⟨[(1, .bptr 0 0), (3, .sl 1), (4, .sl 2), (15, .inl 3), (16, .int .i64), (17, .int .i64)], [.box 30 [.inl 3], .arr 3 1, .arr 3 1]⟩⟩,
 ⟨40, [.lp 40, .blk 2, .c 97], ⟨[(1, .bptr 0 0), (3, .slp 1), (4, .sl 2), (7, .sl 3), (8, .bptr 4 0), (9, .int .i64)], [.box 30 [.inl 3], .arr 3 1, .arr 3 1, .arr 43 3, .box 49 [.slh 5], .arr 53 2]⟩⟩,
 ⟨50, [.lp 50, .blk 4, .c 60, .blk 3, .lp 40, .blk 2, .c 97], ⟨[(1, .bptr 0 0), (3, .slp 1), (4, .sl 2), (7, .sl 3), (8, .bptr 4 0), (9, .int .i64)], [.box 30 [.inl 3], .arr 3 1, .arr 3 1, .arr 43 3, .box 49 [.slh 5], .arr 53 2]⟩⟩,
 ⟨59, [.blk 5, .lp 50, .blk 4, .c 60, .blk 3, .lp 40, .blk 2, .c 97], ⟨[(1, .bptr 0 0), (3, .slp 1), (4, .sl 2), (7, .sl 3), (8, .bptr 4 0), (9, .int .i64)], [.box 30 [.inl 3], .arr 3 1, .arr 3 1, .arr 43 3, .box 49 [.slh 5], .arr 53 2]⟩⟩,
 ⟨70, [.blk 3, .lp 40, .blk 2, .c 97], ⟨[(1, .bptr 0 0), (3, .slp 1), (4, .sl 2), (7, .sl 3), (8, .bptr 4 0), (10, .bptr 5 0)], [.box 30 [.inl 3], .arr 3 1, .arr 3 1, .arr 43 3, .box 49 [.slh 6], .box 43 [.int .i64, .int .i64, .int .i64], .arr 53 2]⟩⟩,
 ⟨82, [.blk 3, .lp 40, .blk 2, .c 97], ⟨[(1, .bptr 0 0), (3, .slp 1), (4, .sl 2), (7, .sl 3), (8, .bptr 4 0), (10, .bptr 5 0)], [.box 30 [.inl 3], .arr 3 1, .arr 3 1, .arr 43 3, .box 49 [.slh 6], .box 43 [.int .i64, .int .i64, .int .i64], .arr 53 2]⟩⟩], [], [(58, [true, true, true, false, false]), (68, [true, true, true, true, true, false]), (87, [true, true, false, true, true, true])]⟩
def L11 : List Sig := [G10, G14a, G16, G17, G18]
def G6 : Sig := ⟨6, [.inl 3], [], [⟨false, ⟨[(0, .sl 0)], [.arr 3 1]⟩⟩]⟩
def I6 : Inst := ⟨G6, F6, [⟨9, [.lp 9, .blk 0, .c 21], ⟨[(0, .inl 3), (3, .sl 0), (8, .inl 3), (9, .int .i64), (10, .int .i64)], [.arr 3 1]⟩⟩,
 ⟨26, [.lp 26, .blk 2, .c 42], ⟨[(3, .sl 0), (22, .sl 1), (23, .int .i64), (24, .int .i64)], [.arr 3 1, .arr 43 3]⟩⟩], [], []⟩
def L6 : List Sig := [G10, G11]
def G5 : Sig := ⟨5, [.inl 3], [], [⟨false, ⟨[(0, .sl 0)], [.arr 3 1]⟩⟩]⟩
def I5 : Inst := ⟨G5, F5, [⟨9, [.lp 9, .blk 0, .c 25], ⟨[(0, .inl 3), (3, .sl 0), (7, .sl 1), (8, .int .i64), (9, .int .i64)], [.arr 3 1, .arr 3 1]⟩⟩], [], []⟩
def L5 : List Sig := [G10, G6]
def G3 : Sig := ⟨3, [.inl 1, .inl 1, .inl 1], [], [⟨false, ⟨[(0, .sb)], []⟩⟩]⟩
def I3 : Inst := ⟨G3, F3, [⟨27, [.lp 27, .blk 0, .c 51], ⟨[(1, .inl 1), (2, .inl 1), (7, .ptr 0 0), (8, .ptr 1 0), (18, .inl 1), (19, .int .i64), (20, .int .i64)], [.arr 26 3, .arr 27 1]⟩⟩,
 ⟨56, [.lp 56, .blk 2, .c 78], ⟨[(1, .inl 1), (2, .inl 1), (7, .ptr 0 0), (51, .int .i64)], [.arr 26 3]⟩⟩,
 ⟨72, [.blk 3, .c 77, .lp 56, .blk 2, .c 78], ⟨[(1, .inl 1), (2, .inl 1), (7, .ptr 0 0), (12, .int .i64), (51, .int .i64)], [.arr 26 3]⟩⟩], [], [(70, [false]), (75, [false])]⟩
def L3 : List Sig := [G4, G5]
end Go.Ab
