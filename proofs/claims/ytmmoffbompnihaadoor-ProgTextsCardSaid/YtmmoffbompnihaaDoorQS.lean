import Derived.Test.YtmmoffbompnihaaDoorLayE
import Derived.Test.YtmmoffbompnihaaDoorLayG
import Derived.Test.YtmmoffbompnihaaDoorFns
namespace Go.Ab
open Go Go.Proofs
set_option linter.unusedVariables false
def sg : RowF := fun A e rows i => match e with
 | 3 => [.int .i64 (A.cI rows i 0)]
 | 9 => [.str (A.cS rows i 0)]
 | 58 => [.int .i64 (A.cI rows i 0), .int .i64 (A.cI rows i 1), .int .i64 (A.cI rows i 2)]
 | 117 => [.str (A.cS rows i 0), .int .i64 (A.cI rows i 1)]
 | _ => A.cX rows i
def zz0 : List S1 := [.int .i64, .int .i64, .int .i64]
def TT : List (Nat × AFn) := [(9, F9), (10, F10), (33, F33), (34, F34), (35, F35), (36, F36), (37, F37), (38, F38), (39, F39), (40, F40), (41, F41), (42, F42), (43, F43), (44, F44), (48, F48), (49, F49), (52, F52), (59, F59), (60, F60), (68, F68), (74, F74), (75, F75), (76, F76), (77, F77), (78, F78), (79, F79), (80, F80), (81, F81), (82, F82), (87, F87), (88, F88), (90, F90), (91, F91), (93, F93), (98, F98), (99, F99), (100, F100), (101, F101), (102, F102), (103, F103), (111, F111), (112, F112), (113, F113), (114, F114), (115, F115), (116, F116), (117, F117), (118, F118), (122, F122), (126, F126), (127, F127), (128, F128), (129, F129), (131, F131), (132, F132), (134, F134), (135, F135), (136, F136), (137, F137), (138, F138), (139, F139), (141, F141), (142, F142), (143, F143), (144, F144), (145, F145), (146, F146), (147, F147), (148, F148), (149, F149), (150, F150), (151, F151), (153, F153), (154, F154), (155, F155), (156, F156), (157, F157)]
theorem TT_at : ∀ p ∈ TT, ∃ fn, p.2.at Tryd.prog p.1 fn := by
 unfold TT
 refine List.forall_mem_cons.2 ⟨⟨_, F9_at⟩, ?_⟩
 refine List.forall_mem_cons.2 ⟨⟨_, F10_at⟩, ?_⟩
 refine List.forall_mem_cons.2 ⟨⟨_, F33_at⟩, ?_⟩
 refine List.forall_mem_cons.2 ⟨⟨_, F34_at⟩, ?_⟩
 refine List.forall_mem_cons.2 ⟨⟨_, F35_at⟩, ?_⟩
 refine List.forall_mem_cons.2 ⟨⟨_, F36_at⟩, ?_⟩
 refine List.forall_mem_cons.2 ⟨⟨_, F37_at⟩, ?_⟩
 refine List.forall_mem_cons.2 ⟨⟨_, F38_at⟩, ?_⟩
 refine List.forall_mem_cons.2 ⟨⟨_, F39_at⟩, ?_⟩
 refine List.forall_mem_cons.2 ⟨⟨_, F40_at⟩, ?_⟩
 refine List.forall_mem_cons.2 ⟨⟨_, F41_at⟩, ?_⟩
 refine List.forall_mem_cons.2 ⟨⟨_, F42_at⟩, ?_⟩
 refine List.forall_mem_cons.2 ⟨⟨_, F43_at⟩, ?_⟩
 refine List.forall_mem_cons.2 ⟨⟨_, F44_at⟩, ?_⟩
 refine List.forall_mem_cons.2 ⟨⟨_, F48_at⟩, ?_⟩
 refine List.forall_mem_cons.2 ⟨⟨_, F49_at⟩, ?_⟩
 refine List.forall_mem_cons.2 ⟨⟨_, F52_at⟩, ?_⟩
 refine List.forall_mem_cons.2 ⟨⟨_, F59_at⟩, ?_⟩
 refine List.forall_mem_cons.2 ⟨⟨_, F60_at⟩, ?_⟩
 refine List.forall_mem_cons.2 ⟨⟨_, F68_at⟩, ?_⟩
 refine List.forall_mem_cons.2 ⟨⟨_, F74_at⟩, ?_⟩
 refine List.forall_mem_cons.2 ⟨⟨_, F75_at⟩, ?_⟩
 refine List.forall_mem_cons.2 ⟨⟨_, F76_at⟩, ?_⟩
 refine List.forall_mem_cons.2 ⟨⟨_, F77_at⟩, ?_⟩
 refine List.forall_mem_cons.2 ⟨⟨_, F78_at⟩, ?_⟩
 refine List.forall_mem_cons.2 ⟨⟨_, F79_at⟩, ?_⟩
 refine List.forall_mem_cons.2 ⟨⟨_, F80_at⟩, ?_⟩
 refine List.forall_mem_cons.2 ⟨⟨_, F81_at⟩, ?_⟩
 refine List.forall_mem_cons.2 ⟨⟨_, F82_at⟩, ?_⟩
 refine List.forall_mem_cons.2 ⟨⟨_, F87_at⟩, ?_⟩
 refine List.forall_mem_cons.2 ⟨⟨_, F88_at⟩, ?_⟩
 refine List.forall_mem_cons.2 ⟨⟨_, F90_at⟩, ?_⟩
 refine List.forall_mem_cons.2 ⟨⟨_, F91_at⟩, ?_⟩
 refine List.forall_mem_cons.2 ⟨⟨_, F93_at⟩, ?_⟩
 refine List.forall_mem_cons.2 ⟨⟨_, F98_at⟩, ?_⟩
 refine List.forall_mem_cons.2 ⟨⟨_, F99_at⟩, ?_⟩
 refine List.forall_mem_cons.2 ⟨⟨_, F100_at⟩, ?_⟩
 refine List.forall_mem_cons.2 ⟨⟨_, F101_at⟩, ?_⟩
 refine List.forall_mem_cons.2 ⟨⟨_, F102_at⟩, ?_⟩
 refine List.forall_mem_cons.2 ⟨⟨_, F103_at⟩, ?_⟩
 refine List.forall_mem_cons.2 ⟨⟨_, F111_at⟩, ?_⟩
 refine List.forall_mem_cons.2 ⟨⟨_, F112_at⟩, ?_⟩
 refine List.forall_mem_cons.2 ⟨⟨_, F113_at⟩, ?_⟩
 refine List.forall_mem_cons.2 ⟨⟨_, F114_at⟩, ?_⟩
 refine List.forall_mem_cons.2 ⟨⟨_, F115_at⟩, ?_⟩
 refine List.forall_mem_cons.2 ⟨⟨_, F116_at⟩, ?_⟩
 refine List.forall_mem_cons.2 ⟨⟨_, F117_at⟩, ?_⟩
 refine List.forall_mem_cons.2 ⟨⟨_, F118_at⟩, ?_⟩
 refine List.forall_mem_cons.2 ⟨⟨_, F122_at⟩, ?_⟩
 refine List.forall_mem_cons.2 ⟨⟨_, F126_at⟩, ?_⟩
 refine List.forall_mem_cons.2 ⟨⟨_, F127_at⟩, ?_⟩
 refine List.forall_mem_cons.2 ⟨⟨_, F128_at⟩, ?_⟩
 refine List.forall_mem_cons.2 ⟨⟨_, F129_at⟩, ?_⟩
 refine List.forall_mem_cons.2 ⟨⟨_, F131_at⟩, ?_⟩
 refine List.forall_mem_cons.2 ⟨⟨_, F132_at⟩, ?_⟩
 refine List.forall_mem_cons.2 ⟨⟨_, F134_at⟩, ?_⟩
 refine List.forall_mem_cons.2 ⟨⟨_, F135_at⟩, ?_⟩
 refine List.forall_mem_cons.2 ⟨⟨_, F136_at⟩, ?_⟩
 refine List.forall_mem_cons.2 ⟨⟨_, F137_at⟩, ?_⟩
 refine List.forall_mem_cons.2 ⟨⟨_, F138_at⟩, ?_⟩
 refine List.forall_mem_cons.2 ⟨⟨_, F139_at⟩, ?_⟩
 refine List.forall_mem_cons.2 ⟨⟨_, F141_at⟩, ?_⟩
 refine List.forall_mem_cons.2 ⟨⟨_, F142_at⟩, ?_⟩
 refine List.forall_mem_cons.2 ⟨⟨_, F143_at⟩, ?_⟩
 refine List.forall_mem_cons.2 ⟨⟨_, F144_at⟩, ?_⟩
 refine List.forall_mem_cons.2 ⟨⟨_, F145_at⟩, ?_⟩
 refine List.forall_mem_cons.2 ⟨⟨_, F146_at⟩, ?_⟩
 refine List.forall_mem_cons.2 ⟨⟨_, F147_at⟩, ?_⟩
 refine List.forall_mem_cons.2 ⟨⟨_, F148_at⟩, ?_⟩
 refine List.forall_mem_cons.2 ⟨⟨_, F149_at⟩, ?_⟩
 refine List.forall_mem_cons.2 ⟨⟨_, F150_at⟩, ?_⟩
 refine List.forall_mem_cons.2 ⟨⟨_, F151_at⟩, ?_⟩
 refine List.forall_mem_cons.2 ⟨⟨_, F153_at⟩, ?_⟩
 refine List.forall_mem_cons.2 ⟨⟨_, F154_at⟩, ?_⟩
 refine List.forall_mem_cons.2 ⟨⟨_, F155_at⟩, ?_⟩
 refine List.forall_mem_cons.2 ⟨⟨_, F156_at⟩, ?_⟩
 refine List.forall_mem_cons.2 ⟨⟨_, F157_at⟩, ?_⟩
 exact fun p hp => absurd hp (List.not_mem_nil)
theorem mixed : Tryd.prog.follows .mixedOrders = true := by kernel_rfl
abbrev EZ := EC Tryd.prog
theorem Inst.en {I : Inst} {fn : Func} {Q : EP} {L : List Sig} {rs : Rs} {vs : List Lf} (hF : I.F.at Tryd.prog I.sig.f fn)
  (h : ∀ A, A = arS → ∀ CE CK Dn EV RR, Wk Tryd.prog fn I L Q A sg CE CK Dn EV RR → puAll rs → segP A sg L CE CK Dn EV RR I.F.tab I.F.res I.stops I.anns I.drw I.sig.exits (lenL I.sig.hp) I.F.nt 80 true [.c 0] (appL (symL (bldC A I.sig.args I.sig.hp rs vs).1) (repL (I.F.nt - lenL (bldC A I.sig.args I.sig.hp rs vs).1) .junk)) (bldC A I.sig.args I.sig.hp rs vs).2)
  (hl : ∀ A : Ar, lenL (bldC A I.sig.args I.sig.hp rs vs).2 = lenL I.sig.hp := by intros; rfl) : EZ I.sig rs vs Q := by
 obtain ⟨A, hA⟩ : ∃ A, A = arS := ⟨_, rfl⟩
 exact Inst.enter hA mixed hF sg L 80 (hl A) (h A hA)
def G33 : Sig := ⟨33, [], [], [⟨false, ⟨[(0, .sb)], []⟩⟩]⟩
def G34 : Sig := ⟨34, [.inl 3], [], [⟨false, ⟨[(0, .sb)], []⟩⟩]⟩
def I34 : Inst := ⟨G34, F34, [], [], []⟩
def L34 : List Sig := []
def G77 : Sig := ⟨77, [], [], [⟨false, ⟨[(0, .inl 2)], []⟩⟩]⟩
def I77 : Inst := ⟨G77, F77, [], [], []⟩
def L77 : List Sig := []
def G37 : Sig := ⟨37, [.int .i64], [], [⟨false, ⟨[(0, .int .i64)], []⟩⟩]⟩
def I37 : Inst := ⟨G37, F37, [], [], []⟩
def L37 : List Sig := [G77]
def G38 : Sig := ⟨38, [.int .i64], [], [⟨false, ⟨[(0, .int .i64)], []⟩⟩]⟩
def I38 : Inst := ⟨G38, F38, [⟨12, [.blk 0, .c 35], ⟨[(0, .int .i64), (3, .int .i64), (4, .sb)], []⟩⟩,
 ⟨30, [.blk 0, .c 35], ⟨[(0, .int .i64), (7, .sb)], []⟩⟩,
 ⟨35, [], ⟨[(0, .int .i64)], []⟩⟩], [], []⟩
def L38 : List Sig := []
def G48 : Sig := ⟨48, [.int .i64], [], [⟨false, ⟨[(0, .str)], []⟩⟩]⟩
def G49 : Sig := ⟨49, [.inl 1, .str], [], [⟨false, ⟨[(0, .str)], []⟩⟩]⟩
def G80 : Sig := ⟨80, [.agg zz0], [], [⟨true, ⟨[(0, .str), (1, .sb)], []⟩⟩]⟩
def I80 : Inst := ⟨G80, F80, [⟨14, [], ⟨[(1, .bptr 0 0), (4, .int .i64), (5, .sl 1)], [.box 58 zz0, .arr 9 1]⟩⟩,
 ⟨19, [.lp 19, .blk 0, .c 31], ⟨[(5, .sl 0), (54, .inl 1), (55, .int .i64), (56, .int .i64)], [.arr 9 1]⟩⟩], [⟨32, 1, [66, 67], [66]⟩], []⟩
def L80 : List Sig := [G37, G77, G48, G49]
def G41 : Sig := ⟨41, [.inl 3], [], [⟨true, ⟨[(0, .str), (1, .sb)], []⟩⟩]⟩
def I41 : Inst := ⟨G41, F41, [⟨9, [.lp 9, .blk 0, .c 31], ⟨[(4, .sl 0), (9, .inl 3), (10, .int .i64), (11, .int .i64)], [.arr 9 1]⟩⟩], [⟨32, 1, [27, 28], [27]⟩], []⟩
def L41 : List Sig := [G80, G49]
def G100 : Sig := ⟨100, [], [], [⟨false, ⟨[(0, .inl 1)], []⟩⟩]⟩
def I100 : Inst := ⟨G100, F100, [], [], []⟩
def L100 : List Sig := []
def G68 : Sig := ⟨68, [.int .i64], [], [⟨false, ⟨[(0, .str)], []⟩⟩]⟩
def I68 : Inst := ⟨G68, F68, [⟨7, [.lp 7, .blk 0, .c 17], ⟨[(0, .int .i64), (3, .str)], []⟩⟩], [], []⟩
def L68 : List Sig := []
def G81 : Sig := ⟨81, [.agg zz0], [], [⟨true, ⟨[(0, .str), (1, .sb)], []⟩⟩]⟩
def I81 : Inst := ⟨G81, F81, [⟨20, [], ⟨[(1, .bptr 0 0), (4, .int .i64), (5, .str)], [.box 58 zz0]⟩⟩], [], []⟩
def L81 : List Sig := [G38, G100, G68]
def G42 : Sig := ⟨42, [.inl 3], [], [⟨true, ⟨[(0, .str), (1, .sb)], []⟩⟩]⟩
def I42 : Inst := ⟨G42, F42, [⟨9, [.lp 9, .blk 0, .c 37], ⟨[(4, .str), (9, .inl 3), (10, .int .i64), (11, .int .i64)], []⟩⟩], [], []⟩
def L42 : List Sig := [G81]
def G52 : Sig := ⟨52, [.str, .str], [], [⟨false, ⟨[(0, .inl 1)], []⟩⟩]⟩
def G102 : Sig := ⟨102, [.agg [.str, .int .i64], .bptr 0 0], [.box 75 [.inl 1]], [⟨false, ⟨[(0, .sb)], [.box 75 [.inl 1]]⟩⟩]⟩
def I102 : Inst := ⟨G102, F102, [], [], []⟩
def L102 : List Sig := []
def G101 : Sig := ⟨101, [.inl 2, .fn 102 [] [.bptr 0 0]], [.box 75 [.inl 1]], [⟨false, ⟨[(0, .int .i64)], [.box 75 [.inl 1]]⟩⟩]⟩
def I101 : Inst := ⟨G101, F101, [⟨7, [.lp 7, .blk 0, .c 25], ⟨[(0, .inl 2), (1, .fn 102 [] [.bptr 0 0]), (7, .int .i64), (8, .int .i64)], [.box 75 [.inl 1]]⟩⟩], [], []⟩
def L101 : List Sig := [G102]
def G91 : Sig := ⟨91, [.str], [], [⟨true, ⟨[(0, .int .i64), (1, .c .nili)], []⟩⟩]⟩
def G103 : Sig := ⟨103, [.str], [], [⟨true, ⟨[(0, .int .i64), (1, .sb)], []⟩⟩]⟩
def I103 : Inst := ⟨G103, F103, [], [], []⟩
def L103 : List Sig := [G91, G48]
def G82 : Sig := ⟨82, [.str], [], [⟨true, ⟨[(0, .agg zz0), (1, .sb)], []⟩⟩]⟩
def I82 : Inst := ⟨G82, F82, [⟨21, [.lp 21, .blk 0, .c 43], ⟨[(2, .bptr 0 0), (6, .bptr 1 0), (30, .inl 1), (31, .int .i64), (32, .int .i64)], [.box 58 zz0, .box 58 zz0]⟩⟩,
 ⟨41, [.blk 1, .c 42, .lp 21, .blk 0, .c 43], ⟨[(2, .bptr 0 0), (6, .bptr 1 0), (7, .int .i64), (9, .int .i64), (30, .inl 1), (31, .int .i64), (32, .int .i64)], [.box 58 zz0, .box 58 zz0]⟩⟩], [], []⟩
def L82 : List Sig := [G52, G77, G37, G103, G101]
def G43 : Sig := ⟨43, [.str], [], [⟨true, ⟨[(0, .sl 0), (1, .int .i64)], [.arr 58 3]⟩⟩]⟩
def I43 : Inst := ⟨G43, F43, [⟨9, [.lp 9, .blk 0, .c 31], ⟨[(4, .sl 0), (10, .inl 1), (11, .int .i64), (12, .int .i64)], [.arr 58 3]⟩⟩], [], []⟩
def L43 : List Sig := [G52, G82]
def G44 : Sig := ⟨44, [.inl 3, .inl 3], [], [⟨false, ⟨[(0, .sb)], []⟩⟩]⟩
def I44 : Inst := ⟨G44, F44, [⟨15, [.lp 15, .blk 0, .c 33], ⟨[(0, .inl 3), (1, .inl 3), (12, .int .i64), (13, .int .i64)], []⟩⟩], [], []⟩
def L44 : List Sig := []
def G10 : Sig := ⟨10, [.inl 3], [], [⟨false, ⟨[(0, .sb)], []⟩⟩]⟩
def I10 : Inst := ⟨G10, F10, [⟨43, [.lp 43, .blk 0, .c 61], ⟨[(0, .inl 3), (3, .str), (41, .inl 3), (42, .int .i64), (43, .int .i64)], []⟩⟩], [⟨64, 5, [63, 64, 65, 66], [65]⟩], []⟩
def L10 : List Sig := [G33, G43, G34, G41, G42, G44]
end Go.Ab
