import Derived.Test.YtmmoffbompnihaaDoorLayE
import Derived.Test.YtmmoffbompnihaaDoorLayG
import Derived.Test.YtmmoffbompnihaaDoorFns
namespace Go.Ab
open Go Go.Proofs
set_option linter.unusedVariables false
def sg : RowF := fun A e rows i => match e with
 | 3 => [.int .i64 (A.cI rows i 0)]
 | 9 => [.str (A.cS rows i 0)]
 | _ => A.cX rows i
def zz0 : List S1 := [.int .i64, .int .i64, .int .i64, .int .i64, .int .i64]
def TT : List (Nat × AFn) := [(6, F6), (23, F23), (24, F24), (25, F25), (26, F26), (27, F27), (48, F48), (49, F49), (52, F52), (53, F53), (56, F56), (59, F59), (60, F60), (61, F61), (62, F62), (63, F63), (64, F64), (65, F65), (66, F66), (67, F67), (68, F68), (69, F69), (70, F70), (71, F71), (87, F87), (88, F88), (90, F90), (91, F91), (92, F92), (93, F93), (94, F94), (95, F95), (96, F96), (97, F97), (111, F111), (112, F112), (113, F113), (114, F114), (115, F115), (116, F116), (117, F117), (118, F118), (120, F120), (121, F121), (126, F126), (127, F127), (128, F128), (129, F129), (131, F131), (132, F132), (134, F134), (135, F135), (136, F136), (137, F137), (138, F138), (139, F139), (141, F141), (142, F142), (143, F143), (144, F144), (145, F145), (146, F146), (147, F147), (148, F148), (149, F149), (150, F150), (151, F151), (153, F153), (154, F154), (155, F155), (156, F156), (157, F157)]
theorem TT_at : ∀ p ∈ TT, ∃ fn, p.2.at Tryd.prog p.1 fn := by
 unfold TT
 refine List.forall_mem_cons.2 ⟨⟨_, F6_at⟩, ?_⟩
 refine List.forall_mem_cons.2 ⟨⟨_, F23_at⟩, ?_⟩
 refine List.forall_mem_cons.2 ⟨⟨_, F24_at⟩, ?_⟩
 refine List.forall_mem_cons.2 ⟨⟨_, F25_at⟩, ?_⟩
 refine List.forall_mem_cons.2 ⟨⟨_, F26_at⟩, ?_⟩
 refine List.forall_mem_cons.2 ⟨⟨_, F27_at⟩, ?_⟩
 refine List.forall_mem_cons.2 ⟨⟨_, F48_at⟩, ?_⟩
 refine List.forall_mem_cons.2 ⟨⟨_, F49_at⟩, ?_⟩
 refine List.forall_mem_cons.2 ⟨⟨_, F52_at⟩, ?_⟩
 refine List.forall_mem_cons.2 ⟨⟨_, F53_at⟩, ?_⟩
 refine List.forall_mem_cons.2 ⟨⟨_, F56_at⟩, ?_⟩
 refine List.forall_mem_cons.2 ⟨⟨_, F59_at⟩, ?_⟩
 refine List.forall_mem_cons.2 ⟨⟨_, F60_at⟩, ?_⟩
 refine List.forall_mem_cons.2 ⟨⟨_, F61_at⟩, ?_⟩
 refine List.forall_mem_cons.2 ⟨⟨_, F62_at⟩, ?_⟩
 refine List.forall_mem_cons.2 ⟨⟨_, F63_at⟩, ?_⟩
 refine List.forall_mem_cons.2 ⟨⟨_, F64_at⟩, ?_⟩
 refine List.forall_mem_cons.2 ⟨⟨_, F65_at⟩, ?_⟩
 refine List.forall_mem_cons.2 ⟨⟨_, F66_at⟩, ?_⟩
 refine List.forall_mem_cons.2 ⟨⟨_, F67_at⟩, ?_⟩
 refine List.forall_mem_cons.2 ⟨⟨_, F68_at⟩, ?_⟩
 refine List.forall_mem_cons.2 ⟨⟨_, F69_at⟩, ?_⟩
 refine List.forall_mem_cons.2 ⟨⟨_, F70_at⟩, ?_⟩
 refine List.forall_mem_cons.2 ⟨⟨_, F71_at⟩, ?_⟩
 refine List.forall_mem_cons.2 ⟨⟨_, F87_at⟩, ?_⟩
 refine List.forall_mem_cons.2 ⟨⟨_, F88_at⟩, ?_⟩
 refine List.forall_mem_cons.2 ⟨⟨_, F90_at⟩, ?_⟩
 refine List.forall_mem_cons.2 ⟨⟨_, F91_at⟩, ?_⟩
 refine List.forall_mem_cons.2 ⟨⟨_, F92_at⟩, ?_⟩
 refine List.forall_mem_cons.2 ⟨⟨_, F93_at⟩, ?_⟩
 refine List.forall_mem_cons.2 ⟨⟨_, F94_at⟩, ?_⟩
 refine List.forall_mem_cons.2 ⟨⟨_, F95_at⟩, ?_⟩
 refine List.forall_mem_cons.2 ⟨⟨_, F96_at⟩, ?_⟩
 refine List.forall_mem_cons.2 ⟨⟨_, F97_at⟩, ?_⟩
 refine List.forall_mem_cons.2 ⟨⟨_, F111_at⟩, ?_⟩
 refine List.forall_mem_cons.2 ⟨⟨_, F112_at⟩, ?_⟩
 refine List.forall_mem_cons.2 ⟨⟨_, F113_at⟩, ?_⟩
 refine List.forall_mem_cons.2 ⟨⟨_, F114_at⟩, ?_⟩
 refine List.forall_mem_cons.2 ⟨⟨_, F115_at⟩, ?_⟩
 refine List.forall_mem_cons.2 ⟨⟨_, F116_at⟩, ?_⟩
 refine List.forall_mem_cons.2 ⟨⟨_, F117_at⟩, ?_⟩
 refine List.forall_mem_cons.2 ⟨⟨_, F118_at⟩, ?_⟩
 refine List.forall_mem_cons.2 ⟨⟨_, F120_at⟩, ?_⟩
 refine List.forall_mem_cons.2 ⟨⟨_, F121_at⟩, ?_⟩
 refine List.forall_mem_cons.2 ⟨⟨_, F126_at⟩, ?_⟩
 refine List.forall_mem_cons.2 ⟨⟨_, F127_at⟩, ?_⟩
 refine List.forall_mem_cons.2 ⟨⟨_, F128_at⟩, ?_⟩
 refine List.forall_mem_cons.2 ⟨⟨_, F129_at⟩, ?_⟩
 refine List.forall_mem_cons.2 ⟨⟨_, F131_at⟩, ?_⟩
 refine List.forall_mem_cons.2 ⟨⟨_, F132_at⟩, ?_⟩
 refine List.forall_mem_cons.2 ⟨⟨_, F134_at⟩, ?_⟩
 refine List.forall_mem_cons.2 ⟨⟨_, F135_at⟩, ?_⟩
 refine List.forall_mem_cons.2 ⟨⟨_, F136_at⟩, ?_⟩
 refine List.forall_mem_cons.2 ⟨⟨_, F137_at⟩, ?_⟩
 refine List.forall_mem_cons.2 ⟨⟨_, F138_at⟩, ?_⟩
 refine List.forall_mem_cons.2 ⟨⟨_, F139_at⟩, ?_⟩
 refine List.forall_mem_cons.2 ⟨⟨_, F141_at⟩, ?_⟩
 refine List.forall_mem_cons.2 ⟨⟨_, F142_at⟩, ?_⟩
 refine List.forall_mem_cons.2 ⟨⟨_, F143_at⟩, ?_⟩
 refine List.forall_mem_cons.2 ⟨⟨_, F144_at⟩, ?_⟩
 refine List.forall_mem_cons.2 ⟨⟨_, F145_at⟩, ?_⟩
 refine List.forall_mem_cons.2 ⟨⟨_, F146_at⟩, ?_⟩
 refine List.forall_mem_cons.2 ⟨⟨_, F147_at⟩, ?_⟩
 refine List.forall_mem_cons.2 ⟨⟨_, F148_at⟩, ?_⟩
 refine List.forall_mem_cons.2 ⟨⟨_, F149_at⟩, ?_⟩
 refine List.forall_mem_cons.2 ⟨⟨_, F150_at⟩, ?_⟩
 refine List.forall_mem_cons.2 ⟨⟨_, F151_at⟩, ?_⟩
 refine List.forall_mem_cons.2 ⟨⟨_, F153_at⟩, ?_⟩
 refine List.forall_mem_cons.2 ⟨⟨_, F154_at⟩, ?_⟩
 refine List.forall_mem_cons.2 ⟨⟨_, F155_at⟩, ?_⟩
 refine List.forall_mem_cons.2 ⟨⟨_, F156_at⟩, ?_⟩
 refine List.forall_mem_cons.2 ⟨⟨_, F157_at⟩, ?_⟩
 exact fun p hp => absurd hp (List.not_mem_nil)
theorem mixed : Tryd.prog.follows .mixedOrders = true := by kernel_rfl
abbrev EZ := EC Tryd.prog
theorem Inst.en {I : Inst} {fn : Func} {Q : EP} {L : List Sig} {rs : Rs} {vs : List Lf} (hF : I.F.at Tryd.prog I.sig.f fn)
  (h : ∀ A, A = arS → ∀ CE CK Dn EV RR, Wk Tryd.prog fn I L Q A sg CE CK Dn EV RR → puAll rs → segP A sg L CE CK Dn EV RR I.F.tab I.F.res I.stops I.anns I.drw I.sig.exits (lenL I.sig.hp) I.F.nt 80 true [.c 0] (appL (symL (bldC A I.sig.args I.sig.hp rs vs).1) (repL (I.F.nt - lenL (bldC A I.sig.args I.sig.hp rs vs).1) .junk)) (bldC A I.sig.args I.sig.hp rs vs).2)
  (hl : ∀ A : Ar, lenL (bldC A I.sig.args I.sig.hp rs vs).2 = lenL I.sig.hp := by intros; rfl) : EZ I.sig rs vs Q := by
 obtain ⟨A, hA⟩ : ∃ A, A = arS := ⟨_, rfl⟩
 exact Inst.enter hA mixed hF sg L 80 (hl A) (h A hA)
def G23 : Sig := ⟨23, [], [], [⟨false, ⟨[(0, .sb)], []⟩⟩]⟩
def G62 : Sig := ⟨62, [], [], [⟨false, ⟨[(0, .inl 1)], []⟩⟩]⟩
def I62 : Inst := ⟨G62, F62, [], [], []⟩
def L62 : List Sig := []
def G95 : Sig := ⟨95, [.int .i64], [], [⟨false, ⟨[(0, .sb)], []⟩⟩]⟩
def I95 : Inst := ⟨G95, F95, [], [], []⟩
def L95 : List Sig := []
def G120 : Sig := ⟨120, [.inl 1, .fn 95 [] []], [], [⟨false, ⟨[(0, .int .i64)], []⟩⟩]⟩
def I120 : Inst := ⟨G120, F120, [⟨7, [.lp 7, .blk 0, .c 25], ⟨[(0, .inl 1), (1, .fn 95 [] []), (7, .int .i64), (8, .int .i64)], []⟩⟩], [], []⟩
def L120 : List Sig := [G95]
def G94 : Sig := ⟨94, [.inl 1, .fn 95 [] []], [], [⟨false, ⟨[(0, .sb)], []⟩⟩]⟩
def I94 : Inst := ⟨G94, F94, [], [], []⟩
def L94 : List Sig := [G120]
def G63 : Sig := ⟨63, [.inl 1], [], [⟨false, ⟨[(0, .sb)], []⟩⟩]⟩
def I63 : Inst := ⟨G63, F63, [], [], []⟩
def L63 : List Sig := [G94]
def G48 : Sig := ⟨48, [.int .i64], [], [⟨false, ⟨[(0, .str)], []⟩⟩]⟩
def G64 : Sig := ⟨64, [.int .i64], [], [⟨false, ⟨[(0, .int .i64)], []⟩⟩]⟩
def I64 : Inst := ⟨G64, F64, [], [], []⟩
def L64 : List Sig := []
def G66 : Sig := ⟨66, [.str], [], [⟨false, ⟨[(0, .sb)], []⟩⟩]⟩
def I66 : Inst := ⟨G66, F66, [], [], []⟩
def L66 : List Sig := []
def G96 : Sig := ⟨96, [.inl 1, .fn 66 [] []], [], [⟨false, ⟨[(0, .int .i64)], []⟩⟩]⟩
def I96 : Inst := ⟨G96, F96, [⟨7, [.lp 7, .blk 0, .c 25], ⟨[(0, .inl 1), (1, .fn 66 [] []), (7, .int .i64), (8, .int .i64)], []⟩⟩], [], []⟩
def L96 : List Sig := [G66]
def G65 : Sig := ⟨65, [.inl 1, .fn 66 [] []], [], [⟨false, ⟨[(0, .sb)], []⟩⟩]⟩
def I65 : Inst := ⟨G65, F65, [], [], []⟩
def L65 : List Sig := [G96]
def G49 : Sig := ⟨49, [.inl 1, .str], [], [⟨false, ⟨[(0, .str)], []⟩⟩]⟩
def G24 : Sig := ⟨24, [.agg zz0], [], [⟨true, ⟨[(0, .str), (1, .sb)], []⟩⟩]⟩
def I24 : Inst := ⟨G24, F24, [⟨14, [], ⟨[(1, .bptr 0 0), (5, .inl 1)], [.box 41 zz0]⟩⟩], [], []⟩
def L24 : List Sig := [G62, G48, G64, G63, G65, G49]
def G67 : Sig := ⟨67, [.int .i64], [], [⟨false, ⟨[(0, .sb)], []⟩⟩]⟩
def I67 : Inst := ⟨G67, F67, [], [], []⟩
def L67 : List Sig := []
def G68 : Sig := ⟨68, [.int .i64], [], [⟨false, ⟨[(0, .str)], []⟩⟩]⟩
def I68 : Inst := ⟨G68, F68, [⟨7, [.lp 7, .blk 0, .c 17], ⟨[(0, .int .i64), (3, .str)], []⟩⟩], [], []⟩
def L68 : List Sig := []
def G69 : Sig := ⟨69, [], [], [⟨false, ⟨[(0, .inl 1)], []⟩⟩]⟩
def I69 : Inst := ⟨G69, F69, [], [], []⟩
def L69 : List Sig := []
def G25 : Sig := ⟨25, [.agg zz0], [], [⟨true, ⟨[(0, .str), (1, .sb)], []⟩⟩]⟩
def I25 : Inst := ⟨G25, F25, [⟨12, [], ⟨[(1, .bptr 0 0), (4, .str)], [.box 41 zz0]⟩⟩], [], []⟩
def L25 : List Sig := [G67, G68, G69]
def G52 : Sig := ⟨52, [.str, .str], [], [⟨false, ⟨[(0, .inl 1)], []⟩⟩]⟩
def G53 : Sig := ⟨53, [.inl 1, .str], [], [⟨false, ⟨[(0, .int .i64)], []⟩⟩]⟩
def I53 : Inst := ⟨G53, F53, [⟨7, [.lp 7, .blk 0, .c 25], ⟨[(0, .inl 1), (1, .str), (7, .int .i64), (8, .int .i64)], []⟩⟩], [], []⟩
def L53 : List Sig := []
def G91 : Sig := ⟨91, [.str], [], [⟨true, ⟨[(0, .int .i64), (1, .c .nili)], []⟩⟩]⟩
def G70 : Sig := ⟨70, [.str], [], [⟨true, ⟨[(0, .int .i64), (1, .sb)], []⟩⟩]⟩
def I70 : Inst := ⟨G70, F70, [], [⟨5, 6, [0, 4, 11, 14, 16, 17], [16]⟩], []⟩
def L70 : List Sig := [G91, G48, G63]
def G26 : Sig := ⟨26, [.str], [], [⟨true, ⟨[(0, .agg zz0), (1, .sb)], []⟩⟩]⟩
def I26 : Inst := ⟨G26, F26, [⟨14, [], ⟨[(2, .bptr 0 0), (4, .inl 1), (5, .int .i64)], [.box 41 zz0]⟩⟩,
 ⟨26, [.c 27, .c 57], ⟨[(2, .bptr 0 0), (4, .inl 1), (5, .int .i64), (6, .bptr 1 0)], [.box 41 zz0, .box 41 zz0]⟩⟩], [], []⟩
def L26 : List Sig := [G52, G62, G64, G70, G53]
def G6 : Sig := ⟨6, [.agg zz0], [], [⟨false, ⟨[(0, .sb)], []⟩⟩]⟩
def I6 : Inst := ⟨G6, F6, [], [], []⟩
def L6 : List Sig := [G23, G24, G25, G26]
end Go.Ab
