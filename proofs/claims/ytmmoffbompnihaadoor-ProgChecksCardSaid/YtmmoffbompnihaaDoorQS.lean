import Derived.Test.YtmmoffbompnihaaDoorLayE
import Derived.Test.YtmmoffbompnihaaDoorLayG
import Derived.Test.YtmmoffbompnihaaDoorFns
namespace Go.Ab
open Go Go.Proofs
set_option linter.unusedVariables false
def sg : RowF := fun A e rows i => match e with
 | 3 => [.int .i64 (A.cI rows i 0)]
 | 9 => [.str (A.cS rows i 0)]
 | 58 => [.int .i64 (A.cI rows i 0), .int .i64 (A.cI rows i 1), .int .i64 (A.cI rows i 2)]
 | 117 => [.str (A.cS rows i 0), .int .i64 (A.cI rows i 1)]
 | _ => A.cX rows i
def zz0 : List S1 := [.int .i64, .int .i64, .int .i64]
def zz1 : List S1 := [.int .i64, .int .i64, .int .i64, .int .i64]
def TT : List (Nat × AFn) := [(9, F9), (10, F10), (33, F33), (34, F34), (35, F35), (36, F36), (37, F37), (38, F38), (39, F39), (40, F40), (41, F41), (42, F42), (43, F43), (44, F44), (48, F48), (49, F49), (52, F52), (59, F59), (60, F60), (68, F68), (74, F74), (75, F75), (76, F76), (77, F77), (78, F78), (79, F79), (80, F80), (81, F81), (82, F82), (87, F87), (88, F88), (90, F90), (91, F91), (93, F93), (98, F98), (99, F99), (100, F100), (101, F101), (102, F102), (103, F103), (111, F111), (112, F112), (113, F113), (114, F114), (115, F115), (116, F116), (117, F117), (118, F118), (122, F122), (126, F126), (127, F127), (128, F128), (129, F129), (131, F131), (132, F132), (134, F134), (135, F135), (136, F136), (137, F137), (138, F138), (139, F139), (141, F141), (142, F142), (143, F143), (144, F144), (145, F145), (146, F146), (147, F147), (148, F148), (149, F149), (150, F150), (151, F151), (153, F153), (154, F154), (155, F155), (156, F156), (157, F157)]
theorem TT_at : ∀ p ∈ TT, ∃ fn, p.2.at Tryd.prog p.1 fn := by
 unfold TT
 refine List.forall_mem_cons.2 ⟨⟨_, F9_at⟩, ?_⟩
 refine List.forall_mem_cons.2 ⟨⟨_, F10_at⟩, ?_⟩
 refine List.forall_mem_cons.2 ⟨⟨_, F33_at⟩, ?_⟩
 refine List.forall_mem_cons.2 ⟨⟨_, F34_at⟩, ?_⟩
 refine List.forall_mem_cons.2 ⟨⟨_, F35_at⟩, ?_⟩
 refine List.forall_mem_cons.2 ⟨⟨_, F36_at⟩, ?_⟩
 refine List.forall_mem_cons.2 ⟨⟨_, F37_at⟩, ?_⟩
 refine List.forall_mem_cons.2 ⟨⟨_, F38_at⟩, ?_⟩
 refine List.forall_mem_cons.2 ⟨⟨_, F39_at⟩, ?_⟩
 refine List.forall_mem_cons.2 ⟨⟨_, F40_at⟩, ?_⟩
 refine List.forall_mem_cons.2 ⟨⟨_, F41_at⟩, ?_⟩
 refine List.forall_mem_cons.2 ⟨⟨_, F42_at⟩, ?_⟩
 refine List.forall_mem_cons.2 ⟨⟨_, F43_at⟩, ?_⟩
 refine List.forall_mem_cons.2 ⟨⟨_, F44_at⟩, ?_⟩
 refine List.forall_mem_cons.2 ⟨⟨_, F48_at⟩, ?_⟩
 refine List.forall_mem_cons.2 ⟨⟨_, F49_at⟩, ?_⟩
 refine List.forall_mem_cons.2 ⟨⟨_, F52_at⟩, ?_⟩
 refine List.forall_mem_cons.2 ⟨⟨_, F59_at⟩, ?_⟩
 refine List.forall_mem_cons.2 ⟨⟨_, F60_at⟩, ?_⟩
 refine List.forall_mem_cons.2 ⟨⟨_, F68_at⟩, ?_⟩
 refine List.forall_mem_cons.2 ⟨⟨_, F74_at⟩, ?_⟩
 refine List.forall_mem_cons.2 ⟨⟨_, F75_at⟩, ?_⟩
 refine List.forall_mem_cons.2 ⟨⟨_, F76_at⟩, ?_⟩
 refine List.forall_mem_cons.2 ⟨⟨_, F77_at⟩, ?_⟩
 refine List.forall_mem_cons.2 ⟨⟨_, F78_at⟩, ?_⟩
 refine List.forall_mem_cons.2 ⟨⟨_, F79_at⟩, ?_⟩
 refine List.forall_mem_cons.2 ⟨⟨_, F80_at⟩, ?_⟩
 refine List.forall_mem_cons.2 ⟨⟨_, F81_at⟩, ?_⟩
 refine List.forall_mem_cons.2 ⟨⟨_, F82_at⟩, ?_⟩
 refine List.forall_mem_cons.2 ⟨⟨_, F87_at⟩, ?_⟩
 refine List.forall_mem_cons.2 ⟨⟨_, F88_at⟩, ?_⟩
 refine List.forall_mem_cons.2 ⟨⟨_, F90_at⟩, ?_⟩
 refine List.forall_mem_cons.2 ⟨⟨_, F91_at⟩, ?_⟩
 refine List.forall_mem_cons.2 ⟨⟨_, F93_at⟩, ?_⟩
 refine List.forall_mem_cons.2 ⟨⟨_, F98_at⟩, ?_⟩
 refine List.forall_mem_cons.2 ⟨⟨_, F99_at⟩, ?_⟩
 refine List.forall_mem_cons.2 ⟨⟨_, F100_at⟩, ?_⟩
 refine List.forall_mem_cons.2 ⟨⟨_, F101_at⟩, ?_⟩
 refine List.forall_mem_cons.2 ⟨⟨_, F102_at⟩, ?_⟩
 refine List.forall_mem_cons.2 ⟨⟨_, F103_at⟩, ?_⟩
 refine List.forall_mem_cons.2 ⟨⟨_, F111_at⟩, ?_⟩
 refine List.forall_mem_cons.2 ⟨⟨_, F112_at⟩, ?_⟩
 refine List.forall_mem_cons.2 ⟨⟨_, F113_at⟩, ?_⟩
 refine List.forall_mem_cons.2 ⟨⟨_, F114_at⟩, ?_⟩
 refine List.forall_mem_cons.2 ⟨⟨_, F115_at⟩, ?_⟩
 refine List.forall_mem_cons.2 ⟨⟨_, F116_at⟩, ?_⟩
 refine List.forall_mem_cons.2 ⟨⟨_, F117_at⟩, ?_⟩
 refine List.forall_mem_cons.2 ⟨⟨_, F118_at⟩, ?_⟩
 refine List.forall_mem_cons.2 ⟨⟨_, F122_at⟩, ?_⟩
 refine List.forall_mem_cons.2 ⟨⟨_, F126_at⟩, ?_⟩
 refine List.forall_mem_cons.2 ⟨⟨_, F127_at⟩, ?_⟩
 refine List.forall_mem_cons.2 ⟨⟨_, F128_at⟩, ?_⟩
 refine List.forall_mem_cons.2 ⟨⟨_, F129_at⟩, ?_⟩
 refine List.forall_mem_cons.2 ⟨⟨_, F131_at⟩, ?_⟩
 refine List.forall_mem_cons.2 ⟨⟨_, F132_at⟩, ?_⟩
 refine List.forall_mem_cons.2 ⟨⟨_, F134_at⟩, ?_⟩
 refine List.forall_mem_cons.2 ⟨⟨_, F135_at⟩, ?_⟩
 refine List.forall_mem_cons.2 ⟨⟨_, F136_at⟩, ?_⟩
 refine List.forall_mem_cons.2 ⟨⟨_, F137_at⟩, ?_⟩
 refine List.forall_mem_cons.2 ⟨⟨_, F138_at⟩, ?_⟩
 refine List.forall_mem_cons.2 ⟨⟨_, F139_at⟩, ?_⟩
 refine List.forall_mem_cons.2 ⟨⟨_, F141_at⟩, ?_⟩
 refine List.forall_mem_cons.2 ⟨⟨_, F142_at⟩, ?_⟩
 refine List.forall_mem_cons.2 ⟨⟨_, F143_at⟩, ?_⟩
 refine List.forall_mem_cons.2 ⟨⟨_, F144_at⟩, ?_⟩
 refine List.forall_mem_cons.2 ⟨⟨_, F145_at⟩, ?_⟩
 refine List.forall_mem_cons.2 ⟨⟨_, F146_at⟩, ?_⟩
 refine List.forall_mem_cons.2 ⟨⟨_, F147_at⟩, ?_⟩
 refine List.forall_mem_cons.2 ⟨⟨_, F148_at⟩, ?_⟩
 refine List.forall_mem_cons.2 ⟨⟨_, F149_at⟩, ?_⟩
 refine List.forall_mem_cons.2 ⟨⟨_, F150_at⟩, ?_⟩
 refine List.forall_mem_cons.2 ⟨⟨_, F151_at⟩, ?_⟩
 refine List.forall_mem_cons.2 ⟨⟨_, F153_at⟩, ?_⟩
 refine List.forall_mem_cons.2 ⟨⟨_, F154_at⟩, ?_⟩
 refine List.forall_mem_cons.2 ⟨⟨_, F155_at⟩, ?_⟩
 refine List.forall_mem_cons.2 ⟨⟨_, F156_at⟩, ?_⟩
 refine List.forall_mem_cons.2 ⟨⟨_, F157_at⟩, ?_⟩
 exact fun p hp => absurd hp (List.not_mem_nil)
theorem mixed : Tryd.prog.follows .mixedOrders = true := by kernel_rfl
abbrev EZ := EC Tryd.prog
theorem Inst.en {I : Inst} {fn : Func} {Q : EP} {L : List Sig} {rs : Rs} {vs : List Lf} (hF : I.F.at Tryd.prog I.sig.f fn)
  (h : ∀ A, A = arS → ∀ CE CK Dn EV RR, Wk Tryd.prog fn I L Q A sg CE CK Dn EV RR → puAll rs → segP A sg L CE CK Dn EV RR I.F.tab I.F.res I.stops I.anns I.drw I.sig.exits (lenL I.sig.hp) I.F.nt 80 true [.c 0] (appL (symL (bldC A I.sig.args I.sig.hp rs vs).1) (repL (I.F.nt - lenL (bldC A I.sig.args I.sig.hp rs vs).1) .junk)) (bldC A I.sig.args I.sig.hp rs vs).2)
  (hl : ∀ A : Ar, lenL (bldC A I.sig.args I.sig.hp rs vs).2 = lenL I.sig.hp := by intros; rfl) : EZ I.sig rs vs Q := by
 obtain ⟨A, hA⟩ : ∃ A, A = arS := ⟨_, rfl⟩
 exact Inst.enter hA mixed hF sg L 80 (hl A) (h A hA)
def G33 : Sig := ⟨33, [], [], [⟨false, ⟨[(0, .sb)], []⟩⟩]⟩
def G34 : Sig := ⟨34, [.inl 3], [], [⟨false, ⟨[(0, .sb)], []⟩⟩]⟩
def I34 : Inst := ⟨G34, F34, [], [], []⟩
def L34 : List Sig := []
def G77 : Sig := ⟨77, [], [], [⟨false, ⟨[(0, .inl 2)], []⟩⟩]⟩
def I77 : Inst := ⟨G77, F77, [], [], []⟩
def L77 : List Sig := []
def G37 : Sig := ⟨37, [.int .i64], [], [⟨false, ⟨[(0, .int .i64)], []⟩⟩]⟩
def I37 : Inst := ⟨G37, F37, [], [], []⟩
def L37 : List Sig := [G77]
def G98 : Sig := ⟨98, [.int .i64], [], [⟨false, ⟨[(0, .agg [.int .i64, .int .i64])], []⟩⟩]⟩
def I98 : Inst := ⟨G98, F98, [], [], []⟩
def L98 : List Sig := []
def G74 : Sig := ⟨74, [.agg zz1, .int .i64], [], [⟨true, ⟨[(0, .agg [.int .i64, .int .i64]), (1, .agg [.int .i64, .int .i64])], []⟩⟩]⟩
def I74 : Inst := ⟨G74, F74, [⟨24, [.blk 0, .c 63], ⟨[(2, .bptr 0 0), (4, .bptr 1 0), (5, .bptr 2 0), (6, .fn 98 [] []), (7, .bptr 3 0), (9, .int .i64), (16, .sb)], [.box 54 zz1, .box 110 [.int .i64, .int .i64], .box 110 [.int .i64, .int .i64], .box 110 [.int .i64, .int .i64]]⟩⟩,
 ⟨32, [.blk 0, .c 63], ⟨[(2, .bptr 0 0), (4, .bptr 1 0), (5, .bptr 2 0), (6, .fn 98 [] []), (7, .bptr 3 0), (9, .int .i64), (23, .sb)], [.box 54 zz1, .box 110 [.int .i64, .int .i64], .box 110 [.int .i64, .int .i64], .box 110 [.int .i64, .int .i64]]⟩⟩,
 ⟨52, [.blk 0, .c 63], ⟨[(2, .bptr 0 0), (4, .bptr 1 0), (5, .bptr 2 0), (6, .fn 98 [] []), (7, .bptr 3 0), (9, .int .i64), (40, .sb)], [.box 54 zz1, .box 110 [.int .i64, .int .i64], .box 110 [.int .i64, .int .i64], .box 110 [.int .i64, .int .i64]]⟩⟩,
 ⟨60, [.blk 0, .c 63], ⟨[(2, .bptr 0 0), (4, .bptr 1 0), (5, .bptr 2 0), (6, .fn 98 [] []), (49, .sb)], [.box 54 zz1, .box 110 [.int .i64, .int .i64], .box 110 [.int .i64, .int .i64]]⟩⟩], [], [(37, [true, false, false, true]), (53, [true, false, false, true]), (64, [true, false, false])]⟩
def L74 : List Sig := [G98]
def G75 : Sig := ⟨75, [.agg [.int .i64, .int .i64], .int .i64], [], [⟨false, ⟨[(0, .sb)], []⟩⟩]⟩
def I75 : Inst := ⟨G75, F75, [], [], []⟩
def L75 : List Sig := []
def G35 : Sig := ⟨35, [.agg zz0, .agg zz1], [], [⟨false, ⟨[(0, .int .i64)], []⟩⟩]⟩
def I35 : Inst := ⟨G35, F35, [], [], []⟩
def L35 : List Sig := [G37, G74, G75]
def G38 : Sig := ⟨38, [.int .i64], [], [⟨false, ⟨[(0, .int .i64)], []⟩⟩]⟩
def I38 : Inst := ⟨G38, F38, [⟨12, [.blk 0, .c 35], ⟨[(0, .int .i64), (3, .int .i64), (4, .sb)], []⟩⟩,
 ⟨30, [.blk 0, .c 35], ⟨[(0, .int .i64), (7, .sb)], []⟩⟩,
 ⟨35, [], ⟨[(0, .int .i64)], []⟩⟩], [], []⟩
def L38 : List Sig := []
def G76 : Sig := ⟨76, zz0, [], [⟨false, ⟨[(0, .sb)], []⟩⟩]⟩
def I76 : Inst := ⟨G76, F76, [], [], []⟩
def L76 : List Sig := []
def G36 : Sig := ⟨36, [.agg zz0, .int .i64, .int .i64, .int .i64, .int .i64], [], [⟨false, ⟨[(0, .int .i64)], []⟩⟩]⟩
def I36 : Inst := ⟨G36, F36, [⟨30, [.blk 0, .c 77], ⟨[(1, .int .i64), (2, .int .i64), (3, .int .i64), (4, .int .i64), (5, .bptr 0 0), (11, .c (.bool false)), (12, .sb), (21, .int .i64), (32, .sb)], [.box 58 zz0]⟩⟩,
 ⟨38, [.blk 0, .c 77], ⟨[(1, .int .i64), (2, .int .i64), (3, .int .i64), (4, .int .i64), (5, .bptr 0 0), (11, .c (.bool false)), (12, .sb), (21, .int .i64), (38, .sb)], [.box 58 zz0]⟩⟩,
 ⟨46, [.blk 0, .c 77], ⟨[(1, .int .i64), (2, .int .i64), (3, .int .i64), (5, .bptr 0 0), (11, .c (.bool false)), (12, .sb), (21, .int .i64), (46, .sb)], [.box 58 zz0]⟩⟩,
 ⟨66, [.blk 0, .c 77], ⟨[(2, .int .i64), (3, .int .i64), (5, .bptr 0 0), (11, .c (.bool false)), (12, .sb), (21, .int .i64), (69, .sb)], [.box 58 zz0]⟩⟩,
 ⟨74, [.blk 0, .c 77], ⟨[(3, .int .i64), (5, .bptr 0 0), (11, .c (.bool false)), (12, .sb), (81, .sb)], [.box 58 zz0]⟩⟩,
 ⟨77, [], ⟨[(11, .sb), (12, .sb)], []⟩⟩], [], []⟩
def L36 : List Sig := [G38, G76]
def G122a : Sig := ⟨122, [.slh 0, .int .i64], [.arr 3 1], [⟨false, ⟨[(0, .int .i64)], [.arr 3 1]⟩⟩]⟩
def I122a : Inst := ⟨G122a, F122, [⟨7, [.lp 7, .blk 0, .c 25], ⟨[(0, .slh 0), (1, .int .i64), (7, .int .i64), (8, .int .i64)], [.arr 3 1]⟩⟩], [], []⟩
def L122a : List Sig := []
def G99a : Sig := ⟨99, [.slh 0, .int .i64], [.arr 3 1], [⟨false, ⟨[(0, .sb)], [.arr 3 1]⟩⟩]⟩
def I99a : Inst := ⟨G99a, F99, [], [], []⟩
def L99a : List Sig := [G122a]
def G78a : Sig := ⟨78, [.bptr 0 0, .agg zz0], [.box 120 [.int .i64, .int .i64, .slh 1], .arr 3 1], [⟨false, ⟨[(0, .sb)], [.box 120 [.int .i64, .int .i64, .slh 1], .arr 3 1]⟩⟩]⟩
def I78a : Inst := ⟨G78a, F78, [], [], [(17, [false, true, true]), (21, [false, true, true]), (27, [true, false, true]), (33, [false, false, true])]⟩
def L78a : List Sig := [G99a]
def G39 : Sig := ⟨39, [.inl 3, .agg zz1], [], [⟨false, ⟨[(0, .int .i64)], []⟩⟩]⟩
def I39 : Inst := ⟨G39, F39, [⟨24, [.lp 24, .blk 1, .c 52], ⟨[(3, .bptr 0 0), (5, .bptr 1 0), (19, .inl 3), (20, .int .i64), (21, .int .i64)], [.box 54 zz1, .box 120 [.int .i64, .int .i64, .slh 2], .arr 3 1]⟩⟩], [], []⟩
def L39 : List Sig := [G35, G78a]
def G79 : Sig := ⟨79, [.inl 3, .sb], [], [⟨false, ⟨[(0, .sb)], []⟩⟩]⟩
def I79 : Inst := ⟨G79, F79, [⟨11, [.lp 11, .blk 0, .c 89], ⟨[(1, .sb), (5, .int .i64), (6, .int .i64), (7, .slh 0), (12, .inl 3), (13, .int .i64), (14, .int .i64)], [.arr 3 1]⟩⟩,
 ⟨41, [.lp 41, .blk 3, .c 59, .blk 2, .c 81, .blk 1, .c 88, .lp 11, .blk 0, .c 89], ⟨[(1, .sb), (5, .int .i64), (6, .int .i64), (7, .slh 0), (9, .bptr 1 0), (12, .inl 3), (13, .int .i64), (14, .int .i64), (30, .slh 0), (31, .int .i64), (32, .int .i64)], [.arr 3 1, .box 58 zz0]⟩⟩,
 ⟨81, [.blk 1, .c 88, .lp 11, .blk 0, .c 89], ⟨[(1, .sb), (5, .int .i64), (6, .int .i64), (7, .slh 0), (12, .inl 3), (13, .int .i64), (14, .int .i64)], [.arr 3 1]⟩⟩], [], []⟩
def L79 : List Sig := []
def G40 : Sig := ⟨40, [.inl 3, .int .i64, .int .i64, .int .i64, .int .i64], [], [⟨false, ⟨[(0, .int .i64)], []⟩⟩]⟩
def I40 : Inst := ⟨G40, F40, [⟨23, [.lp 23, .blk 0, .c 51], ⟨[(0, .inl 3), (1, .int .i64), (2, .int .i64), (3, .int .i64), (4, .int .i64), (20, .inl 3), (21, .int .i64), (22, .int .i64)], []⟩⟩], [], []⟩
def L40 : List Sig := [G36, G79]
def G9 : Sig := ⟨9, [.inl 3, .agg zz1], [], [⟨false, ⟨[(0, .sb)], []⟩⟩]⟩
def I9 : Inst := ⟨G9, F9, [⟨23, [.lp 23, .blk 0, .c 41], ⟨[(0, .inl 3), (3, .bptr 0 0), (22, .inl 1), (23, .int .i64), (24, .int .i64)], [.box 54 zz1]⟩⟩,
 ⟨46, [.lp 46, .blk 2, .c 64], ⟨[(0, .inl 3), (3, .bptr 0 0), (35, .inl 3), (36, .int .i64), (37, .int .i64)], [.box 54 zz1]⟩⟩,
 ⟨58, [.blk 3, .c 63, .lp 46, .blk 2, .c 64], ⟨[(0, .inl 3), (3, .bptr 0 0), (35, .inl 3), (36, .int .i64), (37, .int .i64), (63, .sb)], [.box 54 zz1]⟩⟩], [], []⟩
def L9 : List Sig := [G33, G35, G36, G37, G38, G34, G39, G40]
end Go.Ab
