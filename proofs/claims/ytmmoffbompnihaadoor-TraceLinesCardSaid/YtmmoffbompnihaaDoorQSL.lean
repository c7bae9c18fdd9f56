import Derived.Test.YtmmoffbompnihaaDoorLayE
import Derived.Test.YtmmoffbompnihaaDoorLayG
import Derived.Test.YtmmoffbompnihaaDoorFns
namespace Go.Ab
open Go Go.Proofs
set_option linter.unusedVariables false
def sg : RowF := fun A e rows i => match e with
 | 3 => [.int .i64 (A.cI rows i 0)]
 | 9 => [.str (A.cS rows i 0)]
 | _ => A.cX rows i
def zz0 : List S1 := [.int .i64, .int .i64, .int .i64, .int .i64, .int .i64, .int .i64, .int .i64]
def TT : List (Nat × AFn) := [(3, F3), (12, F12), (13, F13), (14, F14), (15, F15), (16, F16), (21, F21), (22, F22), (47, F47), (48, F48), (49, F49), (50, F50), (51, F51), (52, F52), (53, F53), (54, F54), (55, F55), (56, F56), (59, F59), (60, F60), (87, F87), (88, F88), (89, F89), (90, F90), (91, F91), (92, F92), (93, F93), (111, F111), (112, F112), (113, F113), (114, F114), (115, F115), (116, F116), (117, F117), (118, F118), (126, F126), (127, F127), (128, F128), (129, F129), (131, F131), (132, F132), (134, F134), (135, F135), (136, F136), (137, F137), (138, F138), (139, F139), (141, F141), (142, F142), (143, F143), (144, F144), (145, F145), (146, F146), (147, F147), (148, F148), (149, F149), (150, F150), (151, F151), (153, F153), (154, F154), (155, F155), (156, F156), (157, F157)]
theorem TT_at : ∀ p ∈ TT, ∃ fn, p.2.at Tryd.prog p.1 fn := by
 unfold TT
 refine List.forall_mem_cons.2 ⟨⟨_, F3_at⟩, ?_⟩
 refine List.forall_mem_cons.2 ⟨⟨_, F12_at⟩, ?_⟩
 refine List.forall_mem_cons.2 ⟨⟨_, F13_at⟩, ?_⟩
 refine List.forall_mem_cons.2 ⟨⟨_, F14_at⟩, ?_⟩
 refine List.forall_mem_cons.2 ⟨⟨_, F15_at⟩, ?_⟩
 refine List.forall_mem_cons.2 ⟨⟨_, F16_at⟩, ?_⟩
 refine List.forall_mem_cons.2 ⟨⟨_, F21_at⟩, ?_⟩
 refine List.forall_mem_cons.2 ⟨⟨_, F22_at⟩, ?_⟩
 refine List.forall_mem_cons.2 ⟨⟨_, F47_at⟩, ?_⟩
 refine List.forall_mem_cons.2 ⟨⟨_, F48_at⟩, ?_⟩
 refine List.forall_mem_cons.2 ⟨⟨_, F49_at⟩, ?_⟩
 refine List.forall_mem_cons.2 ⟨⟨_, F50_at⟩, ?_⟩
 refine List.forall_mem_cons.2 ⟨⟨_, F51_at⟩, ?_⟩
 refine List.forall_mem_cons.2 ⟨⟨_, F52_at⟩, ?_⟩
 refine List.forall_mem_cons.2 ⟨⟨_, F53_at⟩, ?_⟩
 refine List.forall_mem_cons.2 ⟨⟨_, F54_at⟩, ?_⟩
 refine List.forall_mem_cons.2 ⟨⟨_, F55_at⟩, ?_⟩
 refine List.forall_mem_cons.2 ⟨⟨_, F56_at⟩, ?_⟩
 refine List.forall_mem_cons.2 ⟨⟨_, F59_at⟩, ?_⟩
 refine List.forall_mem_cons.2 ⟨⟨_, F60_at⟩, ?_⟩
 refine List.forall_mem_cons.2 ⟨⟨_, F87_at⟩, ?_⟩
 refine List.forall_mem_cons.2 ⟨⟨_, F88_at⟩, ?_⟩
 refine List.forall_mem_cons.2 ⟨⟨_, F89_at⟩, ?_⟩
 refine List.forall_mem_cons.2 ⟨⟨_, F90_at⟩, ?_⟩
 refine List.forall_mem_cons.2 ⟨⟨_, F91_at⟩, ?_⟩
 refine List.forall_mem_cons.2 ⟨⟨_, F92_at⟩, ?_⟩
 refine List.forall_mem_cons.2 ⟨⟨_, F93_at⟩, ?_⟩
 refine List.forall_mem_cons.2 ⟨⟨_, F111_at⟩, ?_⟩
 refine List.forall_mem_cons.2 ⟨⟨_, F112_at⟩, ?_⟩
 refine List.forall_mem_cons.2 ⟨⟨_, F113_at⟩, ?_⟩
 refine List.forall_mem_cons.2 ⟨⟨_, F114_at⟩, ?_⟩
 refine List.forall_mem_cons.2 ⟨⟨_, F115_at⟩, ?_⟩
 refine List.forall_mem_cons.2 ⟨⟨_, F116_at⟩, ?_⟩
 refine List.forall_mem_cons.2 ⟨⟨_, F117_at⟩, ?_⟩
 refine List.forall_mem_cons.2 ⟨⟨_, F118_at⟩, ?_⟩
 refine List.forall_mem_cons.2 ⟨⟨_, F126_at⟩, ?_⟩
 refine List.forall_mem_cons.2 ⟨⟨_, F127_at⟩, ?_⟩
 refine List.forall_mem_cons.2 ⟨⟨_, F128_at⟩, ?_⟩
 refine List.forall_mem_cons.2 ⟨⟨_, F129_at⟩, ?_⟩
 refine List.forall_mem_cons.2 ⟨⟨_, F131_at⟩, ?_⟩
 refine List.forall_mem_cons.2 ⟨⟨_, F132_at⟩, ?_⟩
 refine List.forall_mem_cons.2 ⟨⟨_, F134_at⟩, ?_⟩
 refine List.forall_mem_cons.2 ⟨⟨_, F135_at⟩, ?_⟩
 refine List.forall_mem_cons.2 ⟨⟨_, F136_at⟩, ?_⟩
 refine List.forall_mem_cons.2 ⟨⟨_, F137_at⟩, ?_⟩
 refine List.forall_mem_cons.2 ⟨⟨_, F138_at⟩, ?_⟩
 refine List.forall_mem_cons.2 ⟨⟨_, F139_at⟩, ?_⟩
 refine List.forall_mem_cons.2 ⟨⟨_, F141_at⟩, ?_⟩
 refine List.forall_mem_cons.2 ⟨⟨_, F142_at⟩, ?_⟩
 refine List.forall_mem_cons.2 ⟨⟨_, F143_at⟩, ?_⟩
 refine List.forall_mem_cons.2 ⟨⟨_, F144_at⟩, ?_⟩
 refine List.forall_mem_cons.2 ⟨⟨_, F145_at⟩, ?_⟩
 refine List.forall_mem_cons.2 ⟨⟨_, F146_at⟩, ?_⟩
 refine List.forall_mem_cons.2 ⟨⟨_, F147_at⟩, ?_⟩
 refine List.forall_mem_cons.2 ⟨⟨_, F148_at⟩, ?_⟩
 refine List.forall_mem_cons.2 ⟨⟨_, F149_at⟩, ?_⟩
 refine List.forall_mem_cons.2 ⟨⟨_, F150_at⟩, ?_⟩
 refine List.forall_mem_cons.2 ⟨⟨_, F151_at⟩, ?_⟩
 refine List.forall_mem_cons.2 ⟨⟨_, F153_at⟩, ?_⟩
 refine List.forall_mem_cons.2 ⟨⟨_, F154_at⟩, ?_⟩
 refine List.forall_mem_cons.2 ⟨⟨_, F155_at⟩, ?_⟩
 refine List.forall_mem_cons.2 ⟨⟨_, F156_at⟩, ?_⟩
 refine List.forall_mem_cons.2 ⟨⟨_, F157_at⟩, ?_⟩
 exact fun p hp => absurd hp (List.not_mem_nil)
theorem mixed : Tryd.prog.follows .mixedOrders = true := by kernel_rfl
abbrev EZ := EC Tryd.prog
theorem Inst.en {I : Inst} {fn : Func} {Q : EP} {L : List Sig} {rs : Rs} {vs : List Lf} (hF : I.F.at Tryd.prog I.sig.f fn)
  (h : ∀ A, A = arS → ∀ CE CK Dn EV RR, Wk Tryd.prog fn I L Q A sg CE CK Dn EV RR → puAll rs → segP A sg L CE CK Dn EV RR I.F.tab I.F.res I.stops I.anns I.drw I.sig.exits (lenL I.sig.hp) I.F.nt 80 true [.c 0] (appL (symL (bldC A I.sig.args I.sig.hp rs vs).1) (repL (I.F.nt - lenL (bldC A I.sig.args I.sig.hp rs vs).1) .junk)) (bldC A I.sig.args I.sig.hp rs vs).2)
  (hl : ∀ A : Ar, lenL (bldC A I.sig.args I.sig.hp rs vs).2 = lenL I.sig.hp := by intros; rfl) : EZ I.sig rs vs Q := by
 obtain ⟨A, hA⟩ : ∃ A, A = arS := ⟨_, rfl⟩
 exact Inst.enter hA mixed hF sg L 80 (hl A) (h A hA)
def G12 : Sig := ⟨12, [], [], [⟨false, ⟨[(0, .sb)], []⟩⟩]⟩
def G47 : Sig := ⟨47, [], [], [⟨false, ⟨[(0, .inl 1)], []⟩⟩]⟩
def I47 : Inst := ⟨G47, F47, [], [], []⟩
def L47 : List Sig := []
def G48 : Sig := ⟨48, [.int .i64], [], [⟨false, ⟨[(0, .str)], []⟩⟩]⟩
def G49 : Sig := ⟨49, [.inl 1, .str], [], [⟨false, ⟨[(0, .str)], []⟩⟩]⟩
def G13 : Sig := ⟨13, [.agg zz0], [], [⟨true, ⟨[(0, .str), (1, .sb)], []⟩⟩]⟩
def I13 : Inst := ⟨G13, F13, [⟨14, [], ⟨[(1, .bptr 0 0), (5, .sl 1)], [.box 24 zz0, .arr 9 1]⟩⟩,
 ⟨19, [.lp 19, .blk 0, .c 31], ⟨[(5, .sl 0), (38, .inl 1), (39, .int .i64), (40, .int .i64)], [.arr 9 1]⟩⟩], [⟨32, 1, [50, 51], [50]⟩], []⟩
def L13 : List Sig := [G47, G48, G49]
def G89 : Sig := ⟨89, [.int .u64], [], [⟨false, ⟨[(0, .str)], []⟩⟩]⟩
def I89 : Inst := ⟨G89, F89, [⟨7, [.lp 7, .blk 0, .c 17], ⟨[(0, .int .u64), (3, .str)], []⟩⟩], [], []⟩
def L89 : List Sig := []
def G50 : Sig := ⟨50, [.int .i64], [], [⟨false, ⟨[(0, .str)], []⟩⟩]⟩
def I50 : Inst := ⟨G50, F50, [], [], []⟩
def L50 : List Sig := [G89]
def G51 : Sig := ⟨51, [], [], [⟨false, ⟨[(0, .inl 1)], []⟩⟩]⟩
def I51 : Inst := ⟨G51, F51, [], [], []⟩
def L51 : List Sig := []
def G14 : Sig := ⟨14, [.agg zz0], [], [⟨true, ⟨[(0, .str), (1, .sb)], []⟩⟩]⟩
def I14 : Inst := ⟨G14, F14, [⟨12, [], ⟨[(1, .bptr 0 0), (4, .str)], [.box 24 zz0]⟩⟩,
 ⟨17, [.lp 17, .blk 0, .c 29], ⟨[(4, .str), (35, .inl 1), (36, .int .i64), (37, .int .i64)], []⟩⟩], [], []⟩
def L14 : List Sig := [G50, G51]
def G52 : Sig := ⟨52, [.str, .str], [], [⟨false, ⟨[(0, .sl 0)], [.arr 9 1]⟩⟩]⟩
def G53 : Sig := ⟨53, [.inl 1, .str], [], [⟨false, ⟨[(0, .int .i64)], []⟩⟩]⟩
def I53 : Inst := ⟨G53, F53, [⟨7, [.lp 7, .blk 0, .c 25], ⟨[(0, .inl 1), (1, .str), (7, .int .i64), (8, .int .i64)], []⟩⟩], [], []⟩
def L53 : List Sig := []
def G54 : Sig := ⟨54, [.sl 0, .int .i64, .int .i64], [.arr 9 1], [⟨false, ⟨[(0, .slh 0)], [.arr 9 1]⟩⟩]⟩
def I54 : Inst := ⟨G54, F54, [], [], [(15, [false])]⟩
def L54 : List Sig := []
def G91 : Sig := ⟨91, [.str], [], [⟨true, ⟨[(0, .int .i64), (1, .c .nili)], []⟩⟩]⟩
def G55 : Sig := ⟨55, [.str], [], [⟨true, ⟨[(0, .int .i64), (1, .sb)], []⟩⟩]⟩
def I55 : Inst := ⟨G55, F55, [], [], []⟩
def L55 : List Sig := [G91, G48]
def G15 : Sig := ⟨15, [.str], [], [⟨true, ⟨[(0, .agg zz0), (1, .sb)], []⟩⟩]⟩
def I15 : Inst := ⟨G15, F15, [⟨14, [], ⟨[(2, .bptr 0 0), (4, .sl 1), (5, .int .i64)], [.box 24 zz0, .arr 9 1]⟩⟩,
 ⟨29, [.lp 29, .blk 0, .c 51], ⟨[(2, .bptr 0 0), (5, .int .i64), (6, .sl 1), (26, .slh 2), (27, .int .i64), (28, .int .i64)], [.box 24 zz0, .arr 3 1, .arr 9 1]⟩⟩], [], [(52, [false, true, true])]⟩
def L15 : List Sig := [G52, G47, G54, G55, G53]
def G3 : Sig := ⟨3, [.agg zz0], [], [⟨false, ⟨[(0, .sb)], []⟩⟩]⟩
def I3 : Inst := ⟨G3, F3, [], [], []⟩
def L3 : List Sig := [G12, G13, G14, G15]
end Go.Ab
