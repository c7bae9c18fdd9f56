import Derived.Test.YtlakbkdhdgicfaaGreatLayE
import Derived.Test.YtlakbkdhdgicfaaGreatFns
namespace Go.Ab
open Go Go.Proofs
set_option linter.unusedVariables false
def sg:dG:=fun A e rows i=>match e with
 | 3=>[.int .i64 (A.cI rows i 0)]
 | 4=>[.bool (A.cB rows i 0)]
 | 5=>[.int .u8 (A.cI rows i 0)]
 | 24=>[.inl 1 (A.cR rows i 0)]
 | 36=>[.int .u64 (A.cI rows i 0)]
 | 45=>[.int .u64 (A.cI rows i 0),.int .u64 (A.cI rows i 1),.int .u64 (A.cI rows i 2),.int .u64 (A.cI rows i 3),.int .u64 (A.cI rows i 4),.int .u64 (A.cI rows i 5)]
 | 46=>[.int .u64 (A.cI rows i 0),.int .u64 (A.cI rows i 1),.int .u64 (A.cI rows i 2),.int .u64 (A.cI rows i 3),.int .u64 (A.cI rows i 4),.int .u64 (A.cI rows i 5)]
 | 49=>[.int .i64 (A.cI rows i 0),.int .i64 (A.cI rows i 1),.int .i64 (A.cI rows i 2),.int .i64 (A.cI rows i 3),.int .i64 (A.cI rows i 4),.int .i64 (A.cI rows i 5),.inl 3 (A.cR rows i 6)]
 | 84=>[.int .u64 (A.cI rows i 0),.int .u64 (A.cI rows i 1)]
 | 99=>[.int .i64 (A.cI rows i 0),.int .i64 (A.cI rows i 1),.int .i64 (A.cI rows i 2)]
 | 126=>[.int .i64 (A.cI rows i 0),.int .i64 (A.cI rows i 1)]
 | 144=>[.int .i64 (A.cI rows i 0),.int .i64 (A.cI rows i 1)]
 | 177=>[.int .i64 (A.cI rows i 0),.int .i64 (A.cI rows i 1),.bool (A.cB rows i 2)]
 | 202=>[.str (A.cS rows i 0),.int .i64 (A.cI rows i 1)]
 | _=>A.cX rows i
def zz0:List S1:=[.int .i64,.int .i64,.int .i64,.int .i64,.inl 1,.int .i64,.inl 1,.inl 1,.inl 7,.inl 1]
def zz1:List S1:=[.int .i64,.int .i64,.int .i64,.int .i64,.int .i64,.int .i64,.inl 3]
def zz2:List S1:=[.int .i64,.int .i64,.int .i64,.int .i64]
def zz3:List S1:=[.int .i64,.int .i64,.int .i64]
def zz4:List S1:=[.int .i64,.int .i64,.int .i64,.int .i64,.c .nils,.int .i64,.c .nils,.c .nils,.sl 0,.c .nils]
def zz5:List S1:=[.int .u64,.int .u64,.int .u64,.int .u64,.int .u64,.int .u64]
def zz6:List S1:=[.int .i64,.int .i64,.aA 1 0]
theorem mixed:Tryz.prog.follows .mixedOrders=true:=by kernel_rfl
abbrev EZ:=EC Tryz.prog
theorem ak.en {I:ak} {fn:Func} {Q:EP} {L:List Sig} {rs:Rs} {vs:List Lf} (hF:I.F.at Tryz.prog I.sig.f fn)
  (h:∀ A,A=arS→∀ CE CK Dn EV RR,Wk Tryz.prog fn I L Q A sg CE CK Dn EV RR→eU rs→kC A sg L CE CK Dn EV RR I.F.tab I.F.res I.stops I.anns I.drw I.sig.exits (aS I.sig.hp) I.F.nt 80 true [.c 0] (dQ (og (eu A I.sig.args I.sig.hp rs vs).1) (kE (I.F.nt - aS (eu A I.sig.args I.sig.hp rs vs).1) .bn)) (eu A I.sig.args I.sig.hp rs vs).2)
  (hl:∀ A:Ar,aS (eu A I.sig.args I.sig.hp rs vs).2=aS I.sig.hp:=by intros;rfl):EZ I.sig rs vs Q:=by
 obtain ⟨A,hA⟩:∃ A,A=arS:=⟨_,rfl⟩
 exact ak.enter hA mixed hF sg L 80 (hl A) (h A hA)
def G116:Sig:=⟨116,[.int .i64,.aA 0 0,.aA 1 0],[.box 3 [.int .i64],.box 3 [.int .i64]],[⟨false,⟨[(0,.sb)],[.box 3 [.int .i64],.box 3 [.int .i64]]⟩⟩]⟩
def I116:ak:=⟨G116,F116,[],[],[]⟩
def L116:List Sig:=[]
def G146:Sig:=⟨146,[.inl 1,.fn 116 [] [.aA 0 0,.aA 1 0]],[.box 3 [.int .i64],.box 3 [.int .i64]],[⟨false,⟨[(0,.int .i64)],[.box 3 [.int .i64],.box 3 [.int .i64]]⟩⟩]⟩
def I146:ak:=⟨G146,F146,[⟨7,[.lp 7,.blk 0,.c 25],⟨[(0,.inl 1),(1,.fn 116 [] [.aA 0 0,.aA 1 0]),(7,.int .i64),(8,.int .i64)],[.box 3 [.int .i64],.box 3 [.int .i64]]⟩⟩],[],[]⟩
def L146:List Sig:=[G116]
def G115:Sig:=⟨115,[.inl 1,.fn 116 [] [.aA 0 0,.aA 1 0]],[.box 3 [.int .i64],.box 3 [.int .i64]],[⟨false,⟨[(0,.sb)],[.box 3 [.int .i64],.box 3 [.int .i64]]⟩⟩]⟩
def I115:ak:=⟨G115,F115,[],[],[]⟩
def L115:List Sig:=[G146]
def G90:Sig:=⟨90,[.int .i64,.int .i64,.inl 1],[],[⟨false,⟨[(0,.sb)],[]⟩⟩]⟩
def I90:ak:=⟨G90,F90,[],[],[]⟩
def L90:List Sig:=[G115]
def G89:Sig:=⟨89,[.agg zz2],[],[⟨false,⟨[(0,.sb)],[]⟩⟩]⟩
def I89:ak:=⟨G89,F89,[],[⟨3,3,[1,5,6],[5]⟩,⟨3,8,[1,7,10,11],[10]⟩,⟨3,14,[1,13,16,17],[16]⟩,⟨3,22,[19,21,24,25],[24]⟩],[]⟩
def L89:List Sig:=[G90]
def G118:Sig:=⟨118,[.agg zz0],[],[⟨false,⟨[(0,.agg zz2)],[]⟩⟩]⟩
def I118:ak:=⟨G118,F118,[],[],[]⟩
def L118:List Sig:=[]
def G189:Sig:=⟨189,[],[],[⟨false,⟨[(0,.inl 2)],[]⟩⟩]⟩
def I189:ak:=⟨G189,F189,[],[],[]⟩
def L189:List Sig:=[]
def G167:Sig:=⟨167,[.int .i64],[],[⟨false,⟨[(0,.int .i64)],[]⟩⟩]⟩
def I167:ak:=⟨G167,F167,[],[],[]⟩
def L167:List Sig:=[G189]
def G190:Sig:=⟨190,[.int .i64],[],[⟨false,⟨[(0,.agg [.int .i64,.int .i64])],[]⟩⟩]⟩
def I190:ak:=⟨G190,F190,[],[],[]⟩
def L190:List Sig:=[]
def G168:Sig:=⟨168,[.agg zz2,.int .i64],[],[⟨true,⟨[(0,.agg [.int .i64,.int .i64]),(1,.agg [.int .i64,.int .i64])],[]⟩⟩]⟩
def I168:ak:=⟨G168,F168,[⟨24,[.blk 0,.c 63],⟨[(2,.aA 0 0),(4,.aA 1 0),(5,.aA 2 0),(6,.fn 190 [] []),(7,.aA 3 0),(9,.int .i64),(16,.sb)],[.box 135 zz2,.box 183 [.int .i64,.int .i64],.box 183 [.int .i64,.int .i64],.box 183 [.int .i64,.int .i64]]⟩⟩,
 ⟨32,[.blk 0,.c 63],⟨[(2,.aA 0 0),(4,.aA 1 0),(5,.aA 2 0),(6,.fn 190 [] []),(7,.aA 3 0),(9,.int .i64),(23,.sb)],[.box 135 zz2,.box 183 [.int .i64,.int .i64],.box 183 [.int .i64,.int .i64],.box 183 [.int .i64,.int .i64]]⟩⟩,
 ⟨52,[.blk 0,.c 63],⟨[(2,.aA 0 0),(4,.aA 1 0),(5,.aA 2 0),(6,.fn 190 [] []),(7,.aA 3 0),(9,.int .i64),(40,.sb)],[.box 135 zz2,.box 183 [.int .i64,.int .i64],.box 183 [.int .i64,.int .i64],.box 183 [.int .i64,.int .i64]]⟩⟩,
 ⟨60,[.blk 0,.c 63],⟨[(2,.aA 0 0),(4,.aA 1 0),(5,.aA 2 0),(6,.fn 190 [] []),(49,.sb)],[.box 135 zz2,.box 183 [.int .i64,.int .i64],.box 183 [.int .i64,.int .i64]]⟩⟩],[],[(37,[true,false,false,true]),(53,[true,false,false,true]),(64,[true,false,false])]⟩
def L168:List Sig:=[G190]
def G169:Sig:=⟨169,[.agg [.int .i64,.int .i64],.int .i64],[],[⟨false,⟨[(0,.sb)],[]⟩⟩]⟩
def I169:ak:=⟨G169,F169,[],[],[]⟩
def L169:List Sig:=[]
def G147:Sig:=⟨147,[.agg zz3,.agg zz2],[],[⟨false,⟨[(0,.int .i64)],[]⟩⟩]⟩
def I147:ak:=⟨G147,F147,[],[],[]⟩
def L147:List Sig:=[G167,G168,G169]
def G191a:Sig:=⟨191,[.slh 0,.int .i64],[.arr 3 1],[⟨false,⟨[(0,.int .i64)],[.arr 3 1]⟩⟩]⟩
def I191a:ak:=⟨G191a,F191,[⟨7,[.lp 7,.blk 0,.c 25],⟨[(0,.slh 0),(1,.int .i64),(7,.int .i64),(8,.int .i64)],[.arr 3 1]⟩⟩],[],[]⟩
def L191a:List Sig:=[]
def G170a:Sig:=⟨170,[.slh 0,.int .i64],[.arr 3 1],[⟨false,⟨[(0,.sb)],[.arr 3 1]⟩⟩]⟩
def I170a:ak:=⟨G170a,F170,[],[],[]⟩
def L170a:List Sig:=[G191a]
def G148a:Sig:=⟨148,[.aA 0 0,.agg zz3],[.box 162 [.int .i64,.int .i64,.slh 1],.arr 3 1],[⟨false,⟨[(0,.sb)],[.box 162 [.int .i64,.int .i64,.slh 1],.arr 3 1]⟩⟩]⟩
def I148a:ak:=⟨G148a,F148,[],[],[(17,[false,true,true]),(21,[false,true,true]),(27,[true,false,true]),(33,[false,false,true])]⟩
def L148a:List Sig:=[G170a]
def G117:Sig:=⟨117,[.inl 3,.agg zz2],[],[⟨false,⟨[(0,.int .i64)],[]⟩⟩]⟩
def I117:ak:=⟨G117,F117,[⟨24,[.lp 24,.blk 1,.c 52],⟨[(3,.aA 0 0),(5,.aA 1 0),(19,.inl 3),(20,.int .i64),(21,.int .i64)],[.box 135 zz2,.box 162 [.int .i64,.int .i64,.slh 2],.arr 3 1]⟩⟩],[],[]⟩
def L117:List Sig:=[G147,G148a]
def G119:Sig:=⟨119,[.agg zz3,.aA 0 0,.aA 1 0],[.box 27 zz0,.box 49 zz1],[⟨false,⟨[(0,.sb)],[.box 27 zz0,.box 49 zz1]⟩⟩]⟩
def I119:ak:=⟨G119,F119,[],[],[]⟩
def L119:List Sig:=[]
def G149:Sig:=⟨149,[.inl 3,.fn 119 [] [.aA 0 0,.aA 1 0]],[.box 27 zz0,.box 49 zz1],[⟨false,⟨[(0,.int .i64)],[.box 27 zz0,.box 49 zz1]⟩⟩]⟩
def I149:ak:=⟨G149,F149,[⟨7,[.lp 7,.blk 0,.c 25],⟨[(0,.inl 3),(1,.fn 119 [] [.aA 0 0,.aA 1 0]),(7,.int .i64),(8,.int .i64)],[.box 27 zz0,.box 49 zz1]⟩⟩],[],[]⟩
def L149:List Sig:=[G119]
def G120:Sig:=⟨120,[.inl 3,.fn 119 [] [.aA 0 0,.aA 1 0]],[.box 27 zz0,.box 49 zz1],[⟨false,⟨[(0,.sb)],[.box 27 zz0,.box 49 zz1]⟩⟩]⟩
def I120:ak:=⟨G120,F120,[],[],[]⟩
def L120:List Sig:=[G149]
def G122:Sig:=⟨122,[.agg zz1,.aA 0 0],[.box 49 zz1],[⟨false,⟨[(0,.sb)],[.box 49 zz1]⟩⟩]⟩
def I122:ak:=⟨G122,F122,[],[],[]⟩
def L122:List Sig:=[]
def G150:Sig:=⟨150,[.inl 7,.fn 122 [] [.aA 0 0]],[.box 49 zz1],[⟨false,⟨[(0,.int .i64)],[.box 49 zz1]⟩⟩]⟩
def I150:ak:=⟨G150,F150,[⟨7,[.lp 7,.blk 0,.c 25],⟨[(0,.inl 7),(1,.fn 122 [] [.aA 0 0]),(7,.int .i64),(8,.int .i64)],[.box 49 zz1]⟩⟩],[],[]⟩
def L150:List Sig:=[G122]
def G121:Sig:=⟨121,[.inl 7,.fn 122 [] [.aA 0 0]],[.box 49 zz1],[⟨false,⟨[(0,.sb)],[.box 49 zz1]⟩⟩]⟩
def I121:ak:=⟨G121,F121,[],[],[]⟩
def L121:List Sig:=[G150]
def G91:Sig:=⟨91,[.agg zz0,.agg zz1,.inl 7],[],[⟨false,⟨[(0,.int .i64)],[]⟩⟩]⟩
def I91:ak:=⟨G91,F91,[⟨15,[.c 22],⟨[(2,.inl 7),(3,.aA 0 0),(4,.aA 1 0),(8,.int .i64)],[.box 27 zz0,.box 49 zz1]⟩⟩],[⟨3,3,[2,3,4,12,13],[12]⟩,⟨3,10,[2,3,4,14,16,19,20],[19]⟩,⟨3,16,[2,3,4,22,25,26],[25]⟩,⟨3,24,[2,3,4,28,30,33,34],[33]⟩,⟨3,30,[2,3,4,36,39,40],[39]⟩,⟨3,36,[2,3,4,42,45,46],[45]⟩],[]⟩
def L91:List Sig:=[G118,G90,G117,G120,G121]
def G55:Sig:=⟨55,[.agg zz0],[],[⟨false,⟨[(0,.int .i64)],[]⟩⟩]⟩
def I55:ak:=⟨G55,F55,[⟨42,[.lp 42,.blk 1,.c 62],⟨[(1,.aA 0 0),(76,.inl 7),(77,.int .i64),(78,.int .i64)],[.box 27 zz0]⟩⟩],[],[]⟩
def L55:List Sig:=[G89,G90,G91]
def G123:Sig:=⟨123,[.agg zz0],[],[⟨false,⟨[(0,.sb)],[]⟩⟩]⟩
def I123:ak:=⟨G123,F123,[⟨9,[.lp 9,.blk 0,.c 29],⟨[(1,.aA 0 0),(3,.map 1),(8,.inl 7),(9,.int .i64),(10,.int .i64)],[.box 27 zz0,.mp]⟩⟩],[],[]⟩
def L123:List Sig:=[]
def G188:Sig:=⟨188,[.int .u64],[],[⟨false,⟨[(0,.int .i64)],[]⟩⟩]⟩
def I188:ak:=⟨G188,F188,[⟨10,[],⟨[(0,.int .u64),(2,.int .i64)],[]⟩⟩,
 ⟨18,[],⟨[(0,.int .u64),(2,.int .i64)],[]⟩⟩],[],[]⟩
def L188:List Sig:=[]
def G166:Sig:=⟨166,[.int .u64],[],[⟨false,⟨[(0,.int .i64)],[]⟩⟩]⟩
def I166:ak:=⟨G166,F166,[],[],[]⟩
def L166:List Sig:=[G188]
def G173:Sig:=⟨173,[.int .i64],[],[⟨false,⟨[(0,.sb)],[]⟩⟩]⟩
def I173:ak:=⟨G173,F173,[],[],[]⟩
def L173:List Sig:=[]
def G155:Sig:=⟨155,[.int .i64,.int .i64],[],[⟨false,⟨[(0,.int .i64)],[]⟩⟩]⟩
def I155:ak:=⟨G155,F155,[],[],[]⟩
def L155:List Sig:=[G173]
def G154:Sig:=⟨154,[.int .i64,.int .i64,.aA 0 0],[.box 27 zz0],[⟨false,⟨[(0,.int .i64)],[.box 27 zz0]⟩⟩]⟩
def I154:ak:=⟨G154,F154,[],[],[]⟩
def L154:List Sig:=[G155]
def G192:Sig:=⟨192,[.sl 0,.int .i64,.int .i64,.fn 154 [] [.aA 1 0]],[.arr 3 1,.box 27 zz0],[⟨true,⟨[],[.arr 3 1,.box 27 zz0]⟩⟩]⟩
def I192:ak:=⟨G192,F192,[⟨4,[.lp 4,.blk 0],⟨[(0,.sl 0),(1,.int .i64),(2,.int .i64),(3,.fn 154 [] [.aA 1 0]),(8,.int .i64)],[.arr 3 1,.box 27 zz0]⟩⟩,
 ⟨16,[.lp 16,.blk 2,.blk 1,.c 26,.lp 4,.blk 0],⟨[(0,.sl 0),(1,.int .i64),(2,.int .i64),(3,.fn 154 [] [.aA 1 0]),(8,.int .i64),(9,.int .i64)],[.arr 3 1,.box 27 zz0]⟩⟩],[],[(18,[true,false]),(24,[false,true])]⟩
def L192:List Sig:=[G154]
def G193:Sig:=⟨193,[.sl 0,.int .i64,.int .i64,.fn 154 [] [.aA 1 0]],[.arr 3 1,.box 27 zz0],[⟨true,⟨[],[.arr 3 1,.box 27 zz0]⟩⟩]⟩
def G195:Sig:=⟨195,[.sl 0,.int .i64,.int .i64,.fn 154 [] [.aA 1 0]],[.arr 3 1,.box 27 zz0],[⟨true,⟨[(0,.int .i64),(1,.int .i64)],[.arr 3 1,.box 27 zz0]⟩⟩]⟩
def G196:Sig:=⟨196,[.sl 0,.int .i64,.int .i64,.fn 154 [] [.aA 1 0]],[.arr 3 1,.box 27 zz0],[⟨true,⟨[],[.arr 3 1,.box 27 zz0]⟩⟩]⟩
def G197:Sig:=⟨197,[.sl 0,.int .i64,.int .i64,.fn 154 [] [.aA 1 0]],[.arr 3 1,.box 27 zz0],[⟨false,⟨[(0,.sb)],[.arr 3 1,.box 27 zz0]⟩⟩]⟩
def G198:Sig:=⟨198,[.sl 0,.int .i64,.int .i64,.int .i64,.fn 154 [] [.aA 1 0]],[.arr 3 1,.box 27 zz0],[⟨false,⟨[(0,.int .i64)],[.arr 3 1,.box 27 zz0]⟩⟩]⟩
def G199:Sig:=⟨199,[.sl 0,.int .i64,.int .i64,.int .i64,.fn 154 [] [.aA 1 0]],[.arr 3 1,.box 27 zz0],[⟨true,⟨[(0,.int .i64),(1,.sb)],[.arr 3 1,.box 27 zz0]⟩⟩]⟩
def G194:Sig:=⟨194,[.sl 0,.int .i64,.int .i64,.fn 154 [] [.aA 1 0]],[.arr 3 1,.box 27 zz0],[⟨true,⟨[],[.arr 3 1,.box 27 zz0]⟩⟩]⟩
def G172:Sig:=⟨172,[.sl 0,.int .i64,.int .i64,.int .i64,.fn 154 [] [.aA 1 0]],[.arr 3 1,.box 27 zz0],[⟨true,⟨[],[.arr 3 1,.box 27 zz0]⟩⟩]⟩
def I172:ak:=⟨G172,F172,[⟨6,[.lp 6,.blk 0],⟨[(0,.sl 0),(1,.int .i64),(2,.int .i64),(3,.int .i64),(4,.fn 154 [] [.aA 1 0]),(10,.sb),(11,.sb)],[.arr 3 1,.box 27 zz0]⟩⟩,
 ⟨33,[.blk 1,.lp 6,.blk 0],⟨[(0,.sl 0),(1,.int .i64),(2,.int .i64),(3,.int .i64),(4,.fn 154 [] [.aA 1 0]),(10,.sb),(11,.sb),(12,.int .i64)],[.arr 3 1,.box 27 zz0]⟩⟩,
 ⟨45,[.blk 1,.lp 6,.blk 0],⟨[(0,.sl 0),(1,.int .i64),(2,.int .i64),(3,.int .i64),(4,.fn 154 [] [.aA 1 0]),(10,.sb),(11,.sb),(12,.int .i64),(13,.int .i64),(14,.int .i64)],[.arr 3 1,.box 27 zz0]⟩⟩,
 ⟨55,[.blk 1,.lp 6,.blk 0],⟨[(0,.sl 0),(1,.int .i64),(2,.int .i64),(3,.int .i64),(4,.fn 154 [] [.aA 1 0]),(10,.sb),(11,.sb),(12,.int .i64),(13,.int .i64)],[.arr 3 1,.box 27 zz0]⟩⟩],[],[(57,[true,false])]⟩
def L172:List Sig:=[G192,G193,G195,G196,G197,G154,G198,G199,G172,G194]
def G153:Sig:=⟨153,[.sl 0,.fn 154 [] [.aA 1 0]],[.arr 3 1,.box 27 zz0],[⟨true,⟨[],[.arr 3 1,.box 27 zz0]⟩⟩]⟩
def I153:ak:=⟨G153,F153,[],[],[]⟩
def L153:List Sig:=[G166,G172]
def G125:Sig:=⟨125,[.agg zz0],[],[⟨false,⟨[(0,.inl 1)],[]⟩⟩]⟩
def I125:ak:=⟨G125,F125,[⟨9,[.lp 9,.blk 0,.c 21],⟨[(1,.aA 0 0),(3,.sl 1),(10,.int .i64),(11,.int .i64)],[.box 27 zz0,.arr 3 1]⟩⟩],[],[]⟩
def L125:List Sig:=[G153]
def G151:Sig:=⟨151,[.inl 1],[],[⟨false,⟨[(0,.fn 171 [] [.aA 0 0])],[.box 24 [.inl 1]]⟩⟩]⟩
def I151:ak:=⟨G151,F151,[],[],[]⟩
def L151:List Sig:=[]
def G152:Sig:=⟨152,[.agg zz0,.int .i64,.int .i64],[],[⟨false,⟨[(0,.sb)],[]⟩⟩]⟩
def I152:ak:=⟨G152,F152,[],[],[]⟩
def L152:List Sig:=[]
def G124:Sig:=⟨124,[.agg zz0],[],[⟨false,⟨[(0,.sl 0)],[.arr 144 2]⟩⟩]⟩
def I124:ak:=⟨G124,F124,[⟨10,[.blk 0,.c 37],⟨[(1,.aA 0 0),(3,.aA 1 0),(4,.aA 2 0),(17,.fn 171 [] [.aA 3 0])],[.box 27 zz0,.box 141 [.sl 4],.box 24 [.inl 1],.box 24 [.inl 1],.arr 144 2]⟩⟩],[],[]⟩
def L124:List Sig:=[G125,G152,G151]
def F124r:AFn where
 np:=0
 nt:=70
 res:=[]
 tab:=[.bad,.bad,.bad,.bad,.bad,.bad,.bad,.bad,.bad,.bad,.bad,.bad,(.block 1),(.seq 2),(.region [⟨(.some 20),(.build [(.int .i64 0),(.int .i64 0)] [(0,(1,(.c (.int .i64 0)))),(1,(1,(.c (.int .i64 (-1)))))]),.none,[],[]⟩,⟨(.some 7),(.alloc 144 [(.int .i64 0),(.int .i64 0)]),.none,[],[]⟩,⟨.none,(.st 2 (.t 7) (.t 20)),.none,[],[]⟩] .false),(.seq 21),(.seq 2),(.region [⟨(.some 21),(.ld .none (.t 4)),.none,[],[]⟩,⟨(.some 22),(.len .false (.t 21)),.none,[],[]⟩,⟨(.some 23),(.mv (.c (.int .i64 0))),.none,[],[]⟩] .false),(.block 2),.loop,(.seq 2),(.region [⟨(.some 24),(.bin .lss .o (.t 23) (.t 22)),.none,[],[]⟩] .false),(.seq 4),(.cond (.t 24) 2),.skip,(.exit 2),(.seq 9),(.block 3),(.seq 2),(.region [⟨(.some 25),(.idx 3 1 (.t 21) (.t 23)),.none,[],[]⟩,⟨(.some 26),(.ld .none (.t 25)),.none,[],[]⟩,⟨(.some 9),(.mv (.t 26)),.none,[],[]⟩] .false),(.seq 2),(.region [⟨(.some 27),(.ld (.some 10) (.t 1)),.none,[],[1]⟩,⟨(.some 28),(.mv (.t 9)),.none,[],[9]⟩,⟨(.some 29),(.mv (.t 6)),.none,[],[6]⟩,⟨(.some 30),(.call 152 [(.t 27),(.t 28),(.t 29)]),.none,[0,1,2],[27,28,29]⟩,⟨(.some 31),(.mv (.t 30)),.none,[3,3],[30]⟩,⟨(.some 32),(.fad 1 (.t 7)),(.some ((.some 31),.true)),[4],[7,31]⟩,⟨(.some 33),(.ld .none (.t 32)),(.some ((.some 31),.true)),[5,4],[32,31]⟩,⟨(.some 34),(.bin .eql .o (.t 33) (.c (.int .i64 (-1)))),(.some ((.some 31),.true)),[6,4],[33,31]⟩,⟨(.some 35),(.mv (.t 34)),(.some ((.some 31),.true)),[7,4,4],[34,31]⟩,⟨(.some 36),(.ld .none (.t 3)),(.some ((.some 35),.false)),[8],[3,35]⟩,⟨(.some 37),(.mv (.t 9)),(.some ((.some 35),.false)),[8],[9,35]⟩,⟨(.some 38),(.idx 144 2 (.t 36) (.t 37)),(.some ((.some 35),.false)),[9,10,8],[36,37,35]⟩,⟨(.some 39),(.fad 0 (.t 38)),(.some ((.some 35),.false)),[11,8],[38,35]⟩,⟨(.some 40),(.ld .none (.t 39)),(.some ((.some 35),.false)),[12,8],[39,35]⟩,⟨(.some 41),(.fad 0 (.t 7)),(.some ((.some 35),.false)),[8],[7,35]⟩,⟨(.some 42),(.ld .none (.t 41)),(.some ((.some 35),.false)),[14,8],[41,35]⟩,⟨(.some 43),(.bin .gtr .o (.t 40) (.t 42)),(.some ((.some 35),.false)),[13,15,8],[40,42,35]⟩,⟨(.some 44),(.pick (.t 35) (.c (.bool .true)) (.t 43)),(.some ((.some 31),.true)),[8,16,4],[35,43,31]⟩,⟨(.some 45),(.pick (.t 31) (.t 44) (.c (.bool .false))),.none,[4,17],[31,44]⟩] .true),(.cond (.t 45) 2),(.region [⟨(.some 46),(.ld .none (.t 3)),.none,[],[]⟩,⟨(.some 47),(.mv (.t 9)),.none,[],[]⟩,⟨(.some 48),(.idx 144 2 (.t 46) (.t 47)),.none,[],[]⟩,⟨(.some 49),(.fad 0 (.t 48)),.none,[],[]⟩,⟨(.some 50),(.ld .none (.t 49)),.none,[],[]⟩,⟨(.some 51),(.mv (.t 9)),.none,[],[]⟩,⟨(.some 52),(.build [(.int .i64 0),(.int .i64 0)] [(0,(1,(.t 50))),(1,(1,(.t 51)))]),.none,[],[]⟩,⟨.none,(.st 2 (.t 7) (.t 52)),.none,[],[]⟩] .false),.skip,(.region [⟨(.some 53),(.bin .add .o (.t 23) (.c (.int .i64 1))),.none,[],[]⟩,⟨(.some 23),(.mv (.t 53)),.none,[],[]⟩] .false),(.region [⟨(.some 54),(.ld .none (.t 3)),.none,[],[3]⟩,⟨(.some 55),(.mv (.t 6)),.none,[],[6]⟩,⟨(.some 56),(.fad 8 (.t 1)),.none,[],[1]⟩,⟨(.some 57),(.ld .none (.t 56)),.none,[2],[56]⟩,⟨(.some 58),(.mv (.t 6)),.none,[],[6]⟩,⟨(.some 59),(.idx 49 7 (.t 57) (.t 58)),.none,[3,4],[57,58]⟩,⟨(.some 60),(.fad 4 (.t 59)),.none,[5],[59]⟩,⟨(.some 61),(.ld .none (.t 60)),.none,[6],[60]⟩,⟨(.some 62),(.fad 0 (.t 7)),.none,[],[7]⟩,⟨(.some 63),(.ld .none (.t 62)),.none,[8],[62]⟩,⟨(.some 64),(.bin .add .o (.t 61) (.t 63)),.none,[7,9],[61,63]⟩,⟨(.some 65),(.fad 1 (.t 7)),.none,[],[7]⟩,⟨(.some 66),(.ld .none (.t 65)),.none,[11],[65]⟩,⟨(.some 67),(.build [(.int .i64 0),(.int .i64 0)] [(0,(1,(.t 64))),(1,(1,(.t 66)))]),.none,[10,12],[64,66]⟩,⟨(.some 68),(.idx 144 2 (.t 54) (.t 55)),.none,[0,1,0,1,2,3,4,5,6,7,8,9,10,11,12,13],[54,55]⟩,⟨.none,(.st 2 (.t 68) (.t 67)),.none,[14,13,0,1,2,3,4,5,6,7,8,9,10,11,12,13],[68,67]⟩] .true)]
noncomputable def Tryz.f124r:Func:={ Tryz.f124 with results:=#[.cell 0 100000000] }
def G124r:Sig:=⟨124,[],[.box 27 zz0,.box 141 [.sl 4],.box 24 [.inl 1],.box 24 [.inl 1],.arr 144 2],[⟨true,⟨[],[.box 27 zz0,.box 141 [.sl 4],.box 24 [.inl 1],.box 24 [.inl 1],.arr 144 2]⟩⟩]⟩
def I124r:ak:=⟨G124r,F124r,[⟨12,[],⟨[(1,.aA 0 0),(3,.aA 1 0),(4,.aA 2 0),(6,.int .i64)],[.box 27 zz0,.box 141 [.sl 4],.box 24 [.inl 1],.box 24 [.inl 1],.arr 144 2]⟩⟩,
 ⟨20,[.lp 20,.blk 2,.c 36,.blk 1],⟨[(1,.aA 0 0),(3,.aA 1 0),(6,.int .i64),(7,.aA 5 0),(21,.inl 1),(22,.int .i64),(23,.int .i64)],[.box 27 zz0,.box 141 [.sl 4],.box 24 [.inl 1],.box 24 [.inl 1],.arr 144 2,.box 144 [.int .i64,.int .i64]]⟩⟩],[],[(36,[true,true,true,true,false,true])]⟩
def L124r:List Sig:=[G152]
def G92:Sig:=⟨92,[.agg zz0],[],[⟨false,⟨[(0,.sl 0)],[.arr 3 1]⟩⟩]⟩
def I92:ak:=⟨G92,F92,[⟨19,[.lp 19,.blk 0,.c 35],⟨[(3,.sl 0),(4,.int .i64),(20,.inl 1),(21,.int .i64),(22,.int .i64)],[.arr 144 2]⟩⟩,
 ⟨40,[.lp 40,.blk 2,.c 50],⟨[(3,.sl 0),(4,.int .i64),(7,.sl 1)],[.arr 144 2,.arr 3 1]⟩⟩],[],[]⟩
def L92:List Sig:=[G123,G124,G125]
def G56:Sig:=⟨56,[.agg zz0],[],[⟨false,⟨[(0,.int .i64)],[]⟩⟩]⟩
def I56:ak:=⟨G56,F56,[⟨9,[.lp 9,.blk 0,.c 21],⟨[(1,.aA 0 0),(3,.int .i64),(7,.sl 1),(8,.int .i64),(9,.int .i64)],[.box 27 zz0,.arr 3 1]⟩⟩],[],[]⟩
def L56:List Sig:=[G92]
def G143:Sig:=⟨143,[.int .i64],[],[⟨false,⟨[(0,.int .i64)],[]⟩⟩]⟩
def I143:ak:=⟨G143,F143,[],[],[]⟩
def L143:List Sig:=[]
def G109:Sig:=⟨109,[.agg zz3,.agg zz2,.sb],[],[⟨false,⟨[(0,.int .i64)],[]⟩⟩]⟩
def I109:ak:=⟨G109,F109,[],[],[]⟩
def L109:List Sig:=[G143]
def G135:Sig:=⟨135,[.inl 3,.agg zz2,.sb],[],[⟨false,⟨[(0,.int .i64)],[]⟩⟩]⟩
def I135:ak:=⟨G135,F135,[⟨9,[.lp 9,.blk 0,.c 21],⟨[(2,.sb),(4,.aA 0 0),(7,.int .i64),(10,.inl 3),(11,.int .i64),(12,.int .i64)],[.box 23 zz2]⟩⟩],[],[]⟩
def L135:List Sig:=[G109]
def G97:Sig:=⟨97,[.inl 3,.agg zz2],[],[⟨false,⟨[(0,.int .i64)],[]⟩⟩]⟩
def I97:ak:=⟨G97,F97,[],[],[]⟩
def L97:List Sig:=[G135]
def G58:Sig:=⟨58,[.int .i64],[],[⟨false,⟨[(0,.int .u64)],[]⟩⟩]⟩
def I58:ak:=⟨G58,F58,[],[],[]⟩
def L58:List Sig:=[]
def G59:Sig:=⟨59,[.agg zz0,.int .i64],[],[⟨false,⟨[(0,.agg [.int .u64,.int .u64])],[]⟩⟩]⟩
def I59:ak:=⟨G59,F59,[],[],[(5,[true,false,true])]⟩
def L59:List Sig:=[G58,G97]
def G145:Sig:=⟨145,[.agg zz0,.int .i64],[],[⟨false,⟨[(0,.sb)],[]⟩⟩]⟩
def I145:ak:=⟨G145,F145,[],[],[]⟩
def L145:List Sig:=[]
def G156:Sig:=⟨156,[.agg zz1,.agg zz1],[],[⟨false,⟨[(0,.sb)],[]⟩⟩]⟩
def I156:ak:=⟨G156,F156,[],[],[]⟩
def L156:List Sig:=[]
def G113:Sig:=⟨113,[.agg zz0,.int .i64,.fn 156 [] []],[],[⟨false,⟨[(0,.sl 0)],[.arr 3 1]⟩⟩]⟩
def I113:ak:=⟨G113,F113,[⟨17,[.lp 17,.blk 0,.c 33],⟨[(1,.int .i64),(2,.fn 156 [] []),(3,.aA 0 0),(7,.sl 1),(15,.inl 7),(16,.int .i64),(17,.int .i64)],[.box 27 zz0,.arr 3 1]⟩⟩],[],[]⟩
def L113:List Sig:=[G145,G156]
def G126:Sig:=⟨126,[.agg zz0,.int .i64],[],[⟨false,⟨[(0,.sl 0)],[.arr 3 1]⟩⟩]⟩
def I126:ak:=⟨G126,F126,[],[],[]⟩
def L126:List Sig:=[G113]
def G140:Sig:=⟨140,[.agg zz0,.int .i64],[],[⟨false,⟨[(0,.sb)],[]⟩⟩]⟩
def I140:ak:=⟨G140,F140,[],[],[]⟩
def L140:List Sig:=[]
def G141:Sig:=⟨141,[.inl 1],[],[⟨false,⟨[(0,.aA 0 0)],[.box 175 [.sl 1],.arr 177 3]⟩⟩]⟩
def I141:ak:=⟨G141,F141,[⟨9,[.lp 9,.blk 0,.c 21],⟨[(3,.aA 0 0),(8,.inl 1),(9,.int .i64),(10,.int .i64)],[.box 175 [.sl 1],.arr 177 3]⟩⟩],[],[]⟩
def L141:List Sig:=[]
def G201:Sig:=⟨201,[.aA 0 0],[.box 175 [.sl 1],.arr 177 3],[⟨false,⟨[(0,.int .i64)],[.box 175 [.sl 1],.arr 177 3]⟩⟩]⟩
def I201:ak:=⟨G201,F201,[],[],[]⟩
def L201:List Sig:=[]
def G177:Sig:=⟨177,[.aA 0 0,.int .i64],[.box 175 [.sl 1],.arr 177 3],[⟨false,⟨[(0,.c .nilp)],[.box 175 [.sl 1],.arr 177 3]⟩⟩,⟨false,⟨[(0,.ptr 1 0)],[.box 175 [.sl 1],.arr 177 3]⟩⟩]⟩
def I177:ak:=⟨G177,F177,[],[],[]⟩
def L177:List Sig:=[G201]
def G200:Sig:=⟨200,[.aA 0 0,.int .i64],[.box 175 [.sl 1],.arr 177 3],[⟨false,⟨[(0,.sl 2)],[.box 175 [.sl 1],.arr 177 3,.arr 3 1]⟩⟩]⟩
def I200:ak:=⟨G200,F200,[⟨9,[.lp 9,.blk 0,.c 27],⟨[(0,.aA 0 0),(1,.int .i64),(5,.sl 2),(9,.int .i64),(10,.int .i64)],[.box 175 [.sl 1],.arr 177 3,.arr 3 1]⟩⟩],[],[]⟩
def L200:List Sig:=[G201,G177]
def G176:Sig:=⟨176,[.aA 0 0,.int .i64,.int .i64],[.box 175 [.sl 1],.arr 177 3],[⟨false,⟨[(0,.int .i64)],[.box 175 [.sl 1],.arr 177 3]⟩⟩]⟩
def I176:ak:=⟨G176,F176,[⟨7,[.lp 7,.blk 0,.c 19],⟨[(0,.aA 0 0),(2,.int .i64),(11,.sl 2),(12,.int .i64),(13,.int .i64)],[.box 175 [.sl 1],.arr 177 3,.arr 3 1]⟩⟩],[],[]⟩
def L176:List Sig:=[G200,G177]
def G162:Sig:=⟨162,[.aA 0 0],[.box 156 zz6,.box 175 [.sl 2],.arr 177 3],[⟨false,⟨[(0,.int .i64)],[.box 156 zz6,.box 175 [.sl 2],.arr 177 3]⟩⟩]⟩
def I162:ak:=⟨G162,F162,[],[],[(11,[true,false,false])]⟩
def L162:List Sig:=[G176]
def G163:Sig:=⟨163,[.aA 0 0,.int .i64,.int .i64],[.box 175 [.sl 1],.arr 177 3],[⟨false,⟨[(0,.int .i64)],[.box 175 [.sl 1],.arr 177 3]⟩⟩]⟩
def I163:ak:=⟨G163,F163,[],[],[]⟩
def L163:List Sig:=[G177]
def G164:Sig:=⟨164,[.aA 0 0,.int .i64,.int .i64],[.box 175 [.sl 1],.arr 177 3],[⟨false,⟨[(0,.int .i64)],[.box 175 [.sl 1],.arr 177 3]⟩⟩]⟩
def I164:ak:=⟨G164,F164,[],[],[]⟩
def L164:List Sig:=[G177]
def G142:Sig:=⟨142,[.aA 0 0,.agg zz3],[.box 156 zz6,.box 175 [.sl 2],.arr 177 3],[⟨false,⟨[(0,.agg [.int .i64,.int .i64])],[.box 156 zz6,.box 175 [.sl 2],.arr 177 3]⟩⟩]⟩
def I142:ak:=⟨G142,F142,[⟨25,[],⟨[(0,.aA 0 0),(4,.aA 3 0),(5,.aA 4 0)],[.box 156 zz6,.box 175 [.sl 2],.arr 177 3,.box 126 [.int .i64,.int .i64],.box 126 [.int .i64,.int .i64]]⟩⟩],[],[(19,[true,false,false,true,true,true]),(23,[true,false,false,true,true,true])]⟩
def L142:List Sig:=[G162,G163,G164]
def G108:Sig:=⟨108,[.agg zz0,.int .i64],[],[⟨false,⟨[(0,.sl 0)],[.arr 126 2]⟩⟩]⟩
def I108:ak:=⟨G108,F108,[⟨12,[],⟨[(1,.int .i64),(2,.aA 0 0),(5,.aA 1 0)],[.box 27 zz0,.box 156 [.int .i64,.int .i64,.aA 2 0],.box 175 [.sl 3],.arr 177 3]⟩⟩,
 ⟨19,[.lp 19,.blk 0,.c 31],⟨[(5,.aA 0 0),(6,.sl 1),(29,.inl 3),(30,.int .i64),(31,.int .i64)],[.box 156 [.int .i64,.int .i64,.aA 2 0],.arr 126 2,.box 175 [.sl 3],.arr 177 3]⟩⟩],[],[]⟩
def L108:List Sig:=[G140,G142,G141]
def G75:Sig:=⟨75,[.agg zz0,.int .i64,.int .i64],[],[⟨false,⟨[(0,.int .i64)],[]⟩⟩]⟩
def I75:ak:=⟨G75,F75,[⟨9,[.lp 9,.blk 0,.c 31],⟨[(1,.int .i64),(2,.int .i64),(3,.aA 0 0),(7,.int .i64),(8,.int .i64),(13,.sl 1),(14,.int .i64),(15,.int .i64)],[.box 27 zz0,.arr 126 2]⟩⟩],[],[]⟩
def L75:List Sig:=[G108,G109]
def G60:Sig:=⟨60,[.int .u64,.int .u64],[],[⟨false,⟨[(0,.int .u64)],[]⟩⟩]⟩
def I60:ak:=⟨G60,F60,[],[],[]⟩
def L60:List Sig:=[]
def G157:Sig:=⟨157,[.inl 1],[],[⟨false,⟨[(0,.int .u64)],[]⟩⟩]⟩
def I157:ak:=⟨G157,F157,[⟨9,[.lp 9,.blk 0,.c 21],⟨[(3,.int .u64),(6,.inl 1),(7,.int .i64),(8,.int .i64)],[]⟩⟩],[],[]⟩
def L157:List Sig:=[G60]
def G127:Sig:=⟨127,[.agg zz0,.int .i64,.int .i64],[],[⟨false,⟨[(0,.int .u64)],[]⟩⟩]⟩
def I127:ak:=⟨G127,F127,[⟨12,[],⟨[(1,.int .i64),(3,.aA 0 0),(7,.aA 1 0),(8,.int .i64)],[.box 27 zz0,.box 49 zz1]⟩⟩],[],[]⟩
def L127:List Sig:=[G145,G58,G75,G97,G157]
def G93:Sig:=⟨93,[.agg zz0,.int .i64],[],[⟨false,⟨[(0,.int .u64)],[]⟩⟩]⟩
def I93:ak:=⟨G93,F93,[⟨9,[.lp 9,.blk 0,.c 21],⟨[(1,.int .i64),(2,.aA 0 0),(5,.int .u64),(10,.sl 1),(11,.int .i64),(12,.int .i64)],[.box 27 zz0,.arr 3 1]⟩⟩],[],[]⟩
def L93:List Sig:=[G126,G127]
def G128:Sig:=⟨128,[.agg zz0,.int .i64],[],[⟨false,⟨[(0,.sb)],[]⟩⟩]⟩
def I128:ak:=⟨G128,F128,[],[],[]⟩
def L128:List Sig:=[]
def G174:Sig:=⟨174,[.inl 3],[],[⟨false,⟨[(0,.sl 0)],[.arr 3 1]⟩⟩]⟩
def I174:ak:=⟨G174,F174,[⟨9,[.lp 9,.blk 0,.c 25],⟨[(3,.sl 0),(6,.inl 3),(7,.int .i64),(8,.int .i64)],[.arr 3 1]⟩⟩],[],[]⟩
def L174:List Sig:=[]
def G144:Sig:=⟨144,[.sl 0],[.arr 3 1],[⟨true,⟨[],[.arr 3 1]⟩⟩]⟩
def G175:Sig:=⟨175,[.sl 0],[.arr 3 1],[⟨false,⟨[(0,.slh 0)],[.arr 3 1]⟩⟩]⟩
def I175:ak:=⟨G175,F175,[⟨15,[.lp 15,.blk 0,.c 56],⟨[(0,.sl 0),(3,.int .i64)],[.arr 3 1]⟩⟩,
 ⟨33,[.lp 33,.blk 2,.c 49,.blk 1,.c 55,.lp 15,.blk 0,.c 56],⟨[(0,.sl 0),(3,.int .i64),(4,.slp 0),(5,.int .i64)],[.arr 3 1]⟩⟩],[],[]⟩
def L175:List Sig:=[]
def G158:Sig:=⟨158,[.inl 3],[],[⟨false,⟨[(0,.slh 0)],[.arr 3 1]⟩⟩]⟩
def I158:ak:=⟨G158,F158,[],[],[]⟩
def L158:List Sig:=[G144,G175,G174]
def G129:Sig:=⟨129,[.inl 3,.agg zz2],[],[⟨false,⟨[(0,.sl 0)],[.arr 3 1]⟩⟩]⟩
def I129:ak:=⟨G129,F129,[⟨17,[.lp 17,.blk 0,.c 33],⟨[(3,.aA 0 0),(5,.sl 1),(20,.slh 2),(21,.int .i64),(22,.int .i64)],[.box 23 zz2,.arr 3 1,.arr 3 1]⟩⟩],[],[]⟩
def L129:List Sig:=[G158]
def G131:Sig:=⟨131,[.agg zz0,.int .i64],[],[⟨false,⟨[(0,.sl 0)],[.arr 3 1]⟩⟩]⟩
def I131:ak:=⟨G131,F131,[⟨17,[.lp 17,.blk 0,.c 33],⟨[(1,.int .i64),(2,.aA 0 0),(5,.sl 1),(13,.inl 7),(14,.int .i64),(15,.int .i64)],[.box 27 zz0,.arr 3 1]⟩⟩],[],[]⟩
def L131:List Sig:=[G128]
def G130:Sig:=⟨130,[.agg zz0,.sl 0],[.arr 3 1],[⟨false,⟨[(0,.sl 1)],[.arr 3 1,.arr 4 1]⟩⟩]⟩
def I130:ak:=⟨G130,F130,[⟨9,[.lp 9,.blk 0,.c 42],⟨[(2,.aA 1 0),(5,.sl 2),(15,.sl 0),(16,.int .i64),(17,.int .i64)],[.arr 3 1,.box 27 zz0,.arr 4 1]⟩⟩,
 ⟨29,[.lp 29,.blk 2,.blk 1,.c 41,.lp 9,.blk 0,.c 42],⟨[(2,.aA 1 0),(5,.sl 2),(15,.sl 0),(16,.int .i64),(17,.int .i64),(33,.sl 3),(34,.int .i64),(35,.int .i64)],[.arr 3 1,.box 27 zz0,.arr 4 1,.arr 3 1]⟩⟩],[],[]⟩
def L130:List Sig:=[G128,G129]
def G94:Sig:=⟨94,[.agg zz0,.int .i64],[],[⟨false,⟨[(0,.int .i64)],[]⟩⟩]⟩
def I94:ak:=⟨G94,F94,[⟨17,[.c 35],⟨[(2,.aA 0 0),(5,.int .i64),(6,.sl 1),(26,.sl 2),(27,.int .i64),(28,.int .i64)],[.box 27 zz0,.arr 3 1,.arr 4 1]⟩⟩,
 ⟨19,[.lp 19,.blk 0,.c 35],⟨[(2,.aA 0 0),(5,.int .i64),(6,.sl 1),(26,.sl 2),(27,.int .i64),(28,.int .i64)],[.box 27 zz0,.arr 3 1,.arr 4 1]⟩⟩],[],[]⟩
def L94:List Sig:=[G128,G131,G130,G129]
def G114:Sig:=⟨114,[.agg zz1,.agg zz1],[],[⟨false,⟨[(0,.sb)],[]⟩⟩]⟩
def I114:ak:=⟨G114,F114,[],[],[]⟩
def L114:List Sig:=[]
def G113a:Sig:=⟨113,[.agg zz0,.int .i64,.fn 114 [] []],[],[⟨false,⟨[(0,.sl 0)],[.arr 3 1]⟩⟩]⟩
def I113a:ak:=⟨G113a,F113,[⟨17,[.lp 17,.blk 0,.c 33],⟨[(1,.int .i64),(2,.fn 114 [] []),(3,.aA 0 0),(7,.sl 1),(15,.inl 7),(16,.int .i64),(17,.int .i64)],[.box 27 zz0,.arr 3 1]⟩⟩],[],[]⟩
def L113a:List Sig:=[G145,G114]
def G88:Sig:=⟨88,[.agg zz0,.int .i64],[],[⟨false,⟨[(0,.sl 0)],[.arr 3 1]⟩⟩]⟩
def I88:ak:=⟨G88,F88,[],[],[]⟩
def L88:List Sig:=[G113a]
def G54:Sig:=⟨54,[.agg zz0,.int .i64],[],[⟨false,⟨[(0,.sl 0)],[.arr 84 2]⟩⟩]⟩
def I54:ak:=⟨G54,F54,[⟨9,[.lp 9,.blk 0,.c 21],⟨[(2,.aA 0 0),(5,.sl 1),(10,.sl 2),(11,.int .i64),(12,.int .i64)],[.box 27 zz0,.arr 84 2,.arr 3 1]⟩⟩],[],[]⟩
def L54:List Sig:=[G88,G59]
def G134:Sig:=⟨134,[.int .u64,.int .u64],[],[⟨false,⟨[(0,.int .u64)],[]⟩⟩]⟩
def I134:ak:=⟨G134,F134,[],[],[]⟩
def L134:List Sig:=[]
def G99:Sig:=⟨99,[.int .u64,.int .u64],[],[⟨true,⟨[(0,.int .u64),(1,.int .u64)],[]⟩⟩]⟩
def I99:ak:=⟨G99,F99,[],[],[]⟩
def L99:List Sig:=[]
def G61:Sig:=⟨61,[.int .u64,.int .u64],[],[⟨false,⟨[(0,.int .u64)],[]⟩⟩]⟩
def I61:ak:=⟨G61,F61,[],[],[]⟩
def L61:List Sig:=[G99]
def G159:Sig:=⟨159,[.int .u64,.sl 0,.int .u64],[.arr 84 2],[⟨false,⟨[(0,.int .u64)],[.arr 84 2]⟩⟩]⟩
def I159:ak:=⟨G159,F159,[⟨9,[.lp 9,.blk 0,.c 21],⟨[(2,.int .u64),(7,.int .u64),(11,.sl 0),(12,.int .i64),(13,.int .i64)],[.arr 84 2]⟩⟩],[],[]⟩
def L159:List Sig:=[G134,G61,G60]
def G133:Sig:=⟨133,[.agg [.int .u64,.sl 0],.int .u64],[.arr 84 2],[⟨false,⟨[(0,.int .u64)],[.arr 84 2]⟩⟩]⟩
def I133:ak:=⟨G133,F133,[],[],[]⟩
def L133:List Sig:=[G159]
def G132:Sig:=⟨132,[.fn 133 [.agg [.int .u64,.sl 0]] [],.int .u64,.int .u64],[.arr 84 2],[⟨true,⟨[(0,.int .u64),(1,.sb)],[.arr 84 2]⟩⟩]⟩
def I132:ak:=⟨G132,F132,[⟨9,[.lp 9,.blk 0,.c 35],⟨[(0,.fn 133 [.agg [.int .u64,.sl 0]] []),(2,.int .u64),(8,.int .u64),(11,.int .i64)],[.arr 84 2]⟩⟩],[],[]⟩
def L132:List Sig:=[G133]
def G95:Sig:=⟨95,[.int .u64,.sl 0,.int .u64],[.arr 84 2],[⟨true,⟨[(0,.int .u64),(1,.sb)],[.arr 84 2]⟩⟩]⟩
def I95:ak:=⟨G95,F95,[],[],[]⟩
def L95:List Sig:=[G132]
def G96:Sig:=⟨96,[.agg zz0,.int .i64,.int .u64],[],[⟨false,⟨[(0,.int .u64)],[]⟩⟩]⟩
def I96:ak:=⟨G96,F96,[⟨9,[.lp 9,.blk 0,.c 21],⟨[(2,.int .u64),(3,.aA 0 0),(7,.int .u64),(12,.sl 1),(13,.int .i64),(14,.int .i64)],[.box 27 zz0,.arr 3 1]⟩⟩],[],[]⟩
def L96:List Sig:=[G131,G58,G134,G60]
def G57:Sig:=⟨57,[.agg zz0,.int .i64],[],[⟨false,⟨[(0,.agg zz5)],[]⟩⟩]⟩
def I57:ak:=⟨G57,F57,[⟨4,[],⟨[(1,.int .i64),(2,.aA 0 0),(4,.aA 1 0),(5,.aA 2 0)],[.box 27 zz0,.box 46 zz5,.box 46 zz5]⟩⟩,
 ⟨9,[.c 16],⟨[(1,.int .i64),(2,.aA 0 0),(4,.aA 1 0),(5,.aA 2 0),(6,.sb)],[.box 27 zz0,.box 46 zz5,.box 46 zz5]⟩⟩],[],[(8,[true,true,false])]⟩
def L57:List Sig:=[G59,G93,G94,G58,G54,G95,G96,G61]
def G16:Sig:=⟨16,[.agg zz0],[],[⟨true,⟨[(0,.agg [.inl 6,.int .i64]),(1,.int .i64)],[]⟩⟩]⟩
def I16:ak:=⟨G16,F16,[⟨19,[.lp 19,.blk 0,.c 39],⟨[(1,.aA 0 0),(2,.aA 1 0),(5,.aA 2 0),(6,.int .i64),(20,.inl 7),(21,.int .i64),(22,.int .i64)],[.box 27 zz0,.box 32 [.sl 3,.int .i64],.box 32 [.sl 4,.int .i64],.arr 46 6,.arr 46 6]⟩⟩],[],[]⟩
def L16:List Sig:=[G55,G56,G57,G58]
def G19:Sig:=⟨19,[.agg zz0],[],[⟨false,⟨[(0,.sb)],[]⟩⟩]⟩
def I19:ak:=⟨G19,F19,[],[],[]⟩
def L19:List Sig:=[G16]
def G15:Sig:=⟨15,[.agg zz0],[],[⟨false,⟨[(0,.sb)],[]⟩⟩]⟩
def I15:ak:=⟨G15,F15,[⟨7,[.lp 7,.blk 0,.c 25],⟨[(1,.aA 0 0),(6,.inl 7),(7,.int .i64),(8,.int .i64)],[.box 27 zz0]⟩⟩],[],[]⟩
def L15:List Sig:=[]
def G62:Sig:=⟨62,zz3,[],[⟨false,⟨[(0,.sb)],[]⟩⟩]⟩
def I62:ak:=⟨G62,F62,[],[],[]⟩
def L62:List Sig:=[]
def G63:Sig:=⟨63,[.inl 1,.int .i64,.int .i64],[],[⟨false,⟨[(0,.sb)],[]⟩⟩]⟩
def I63:ak:=⟨G63,F63,[⟨7,[.lp 7,.blk 0,.c 25],⟨[(1,.int .i64),(2,.int .i64),(9,.inl 1),(10,.int .i64),(11,.int .i64)],[]⟩⟩],[],[]⟩
def L63:List Sig:=[G62]
def G160:Sig:=⟨160,[.int .i64],[],[⟨false,⟨[(0,.int .i64)],[]⟩⟩]⟩
def I160:ak:=⟨G160,F160,[⟨12,[.blk 0,.c 35],⟨[(0,.int .i64),(3,.int .i64),(4,.sb)],[]⟩⟩,
 ⟨30,[.blk 0,.c 35],⟨[(0,.int .i64),(7,.sb)],[]⟩⟩,
 ⟨35,[],⟨[(0,.int .i64)],[]⟩⟩],[],[]⟩
def L160:List Sig:=[]
def G161:Sig:=⟨161,zz3,[],[⟨false,⟨[(0,.sb)],[]⟩⟩]⟩
def I161:ak:=⟨G161,F161,[],[],[]⟩
def L161:List Sig:=[]
def G136:Sig:=⟨136,[.agg zz3,.int .i64,.int .i64,.int .i64,.int .i64],[],[⟨false,⟨[(0,.int .i64)],[]⟩⟩]⟩
def I136:ak:=⟨G136,F136,[⟨30,[.blk 0,.c 77],⟨[(1,.int .i64),(2,.int .i64),(3,.int .i64),(4,.int .i64),(5,.aA 0 0),(11,.c (.bool false)),(12,.sb),(21,.int .i64),(32,.sb)],[.box 99 zz3]⟩⟩,
 ⟨38,[.blk 0,.c 77],⟨[(1,.int .i64),(2,.int .i64),(3,.int .i64),(4,.int .i64),(5,.aA 0 0),(11,.c (.bool false)),(12,.sb),(21,.int .i64),(38,.sb)],[.box 99 zz3]⟩⟩,
 ⟨46,[.blk 0,.c 77],⟨[(1,.int .i64),(2,.int .i64),(3,.int .i64),(5,.aA 0 0),(11,.c (.bool false)),(12,.sb),(21,.int .i64),(46,.sb)],[.box 99 zz3]⟩⟩,
 ⟨66,[.blk 0,.c 77],⟨[(2,.int .i64),(3,.int .i64),(5,.aA 0 0),(11,.c (.bool false)),(12,.sb),(21,.int .i64),(69,.sb)],[.box 99 zz3]⟩⟩,
 ⟨74,[.blk 0,.c 77],⟨[(3,.int .i64),(5,.aA 0 0),(11,.c (.bool false)),(12,.sb),(81,.sb)],[.box 99 zz3]⟩⟩,
 ⟨77,[],⟨[(11,.sb),(12,.sb)],[]⟩⟩],[],[]⟩
def L136:List Sig:=[G160,G161]
def G137:Sig:=⟨137,[.inl 3,.sb],[],[⟨false,⟨[(0,.sb)],[]⟩⟩]⟩
def I137:ak:=⟨G137,F137,[⟨11,[.lp 11,.blk 0,.c 89],⟨[(1,.sb),(5,.int .i64),(6,.int .i64),(7,.slh 0),(12,.inl 3),(13,.int .i64),(14,.int .i64)],[.arr 3 1]⟩⟩,
 ⟨41,[.lp 41,.blk 3,.c 59,.blk 2,.c 81,.blk 1,.c 88,.lp 11,.blk 0,.c 89],⟨[(1,.sb),(5,.int .i64),(6,.int .i64),(7,.slh 0),(9,.aA 1 0),(12,.inl 3),(13,.int .i64),(14,.int .i64),(30,.slh 0),(31,.int .i64),(32,.int .i64)],[.arr 3 1,.box 99 zz3]⟩⟩,
 ⟨81,[.blk 1,.c 88,.lp 11,.blk 0,.c 89],⟨[(1,.sb),(5,.int .i64),(6,.int .i64),(7,.slh 0),(12,.inl 3),(13,.int .i64),(14,.int .i64)],[.arr 3 1]⟩⟩],[],[]⟩
def L137:List Sig:=[]
def G100:Sig:=⟨100,[.inl 3,.int .i64,.int .i64,.int .i64,.int .i64],[],[⟨false,⟨[(0,.int .i64)],[]⟩⟩]⟩
def I100:ak:=⟨G100,F100,[⟨23,[.lp 23,.blk 0,.c 51],⟨[(0,.inl 3),(1,.int .i64),(2,.int .i64),(3,.int .i64),(4,.int .i64),(20,.inl 3),(21,.int .i64),(22,.int .i64)],[]⟩⟩],[],[]⟩
def L100:List Sig:=[G136,G137]
def G64:Sig:=⟨64,[.agg zz0,.int .i64,.agg zz1],[],[⟨false,⟨[(0,.int .i64)],[]⟩⟩]⟩
def I64:ak:=⟨G64,F64,[⟨25,[.lp 25,.blk 0,.c 43],⟨[(1,.int .i64),(3,.aA 0 0),(5,.aA 1 0),(67,.inl 3),(68,.int .i64),(69,.int .i64)],[.box 27 zz0,.box 49 zz1]⟩⟩,
 ⟨48,[.lp 48,.blk 2,.c 64],⟨[(1,.int .i64),(3,.aA 0 0),(5,.aA 1 0),(10,.int .i64)],[.box 27 zz0,.box 49 zz1]⟩⟩],[],[]⟩
def L64:List Sig:=[G62,G100]
def G18:Sig:=⟨18,[.agg zz0],[],[⟨false,⟨[(0,.int .i64)],[]⟩⟩]⟩
def I18:ak:=⟨G18,F18,[⟨41,[.lp 41,.blk 0,.c 61],⟨[(1,.aA 0 0),(102,.inl 7),(103,.int .i64),(104,.int .i64)],[.box 27 zz0]⟩⟩],[],[]⟩
def L18:List Sig:=[G62,G64,G63]
def G20:Sig:=⟨20,[.agg zz0],[],[⟨false,⟨[(0,.sb)],[]⟩⟩]⟩
def I20:ak:=⟨G20,F20,[⟨7,[.lp 7,.blk 0,.c 25],⟨[(6,.inl 7),(7,.int .i64),(8,.int .i64)],[]⟩⟩],[],[]⟩
def L20:List Sig:=[]
def G110:Sig:=⟨110,[.int .i64],[],[⟨false,⟨[(0,.int .i64)],[]⟩⟩]⟩
def I110:ak:=⟨G110,F110,[],[],[]⟩
def L110:List Sig:=[]
def G77:Sig:=⟨77,[.agg zz3,.agg zz2,.sb],[],[⟨false,⟨[(0,.int .i64)],[]⟩⟩]⟩
def I77:ak:=⟨G77,F77,[],[],[]⟩
def L77:List Sig:=[G110]
def G71:Sig:=⟨71,[.inl 3,.agg zz2,.sb],[],[⟨false,⟨[(0,.int .i64)],[]⟩⟩]⟩
def I71:ak:=⟨G71,F71,[⟨9,[.lp 9,.blk 0,.c 21],⟨[(2,.sb),(4,.aA 0 0),(7,.int .i64),(10,.inl 3),(11,.int .i64),(12,.int .i64)],[.box 23 zz2]⟩⟩],[],[]⟩
def L71:List Sig:=[G77]
def G107:Sig:=⟨107,[.int .i64],[],[⟨false,⟨[(0,.int .u64)],[]⟩⟩]⟩
def I107:ak:=⟨G107,F107,[],[],[]⟩
def L107:List Sig:=[]
def G76:Sig:=⟨76,[.agg zz0,.agg zz1,.inl 3],[],[⟨false,⟨[(0,.int .i64)],[]⟩⟩]⟩
def I76:ak:=⟨G76,F76,[⟨13,[.lp 13,.blk 0,.c 54],⟨[(3,.aA 0 0),(7,.int .i64),(8,.int .i64),(9,.sl 1),(20,.inl 3),(21,.int .i64),(22,.int .i64)],[.box 27 zz0,.arr 3 1]⟩⟩,
 ⟨40,[.blk 2,.blk 1,.c 53,.lp 13,.blk 0,.c 54],⟨[(3,.aA 0 0),(7,.int .i64),(8,.int .i64),(9,.sl 1),(11,.aA 2 0),(20,.inl 3),(21,.int .i64),(22,.int .i64),(37,.sb)],[.box 27 zz0,.arr 3 1,.box 99 zz3]⟩⟩,
 ⟨59,[.lp 59,.blk 3,.c 75],⟨[(3,.aA 0 0),(7,.int .i64),(8,.int .i64),(62,.sl 1),(63,.int .i64),(64,.int .i64)],[.box 27 zz0,.arr 3 1]⟩⟩],[],[]⟩
def L76:List Sig:=[]
def G34:Sig:=⟨34,[.agg zz0,.int .i64,.int .i64],[],[⟨false,⟨[(0,.int .i64)],[]⟩⟩]⟩
def I34:ak:=⟨G34,F34,[⟨11,[.lp 11,.blk 0,.c 46],⟨[(2,.int .i64),(3,.aA 0 0),(7,.aA 1 0),(8,.int .i64),(19,.int .i64),(20,.int .i64)],[.box 27 zz0,.box 49 zz1]⟩⟩,
 ⟨27,[.lp 27,.blk 2,.blk 1,.c 45,.lp 11,.blk 0,.c 46],⟨[(2,.int .i64),(3,.aA 0 0),(7,.aA 1 0),(8,.int .i64),(10,.int .i64),(11,.int .i64),(19,.int .i64),(20,.int .i64)],[.box 27 zz0,.box 49 zz1]⟩⟩,
 ⟨38,[.c 41,.blk 3,.c 44,.lp 27,.blk 2,.blk 1,.c 45,.lp 11,.blk 0,.c 46],⟨[(2,.int .i64),(3,.aA 0 0),(7,.aA 1 0),(8,.int .i64),(10,.int .i64),(11,.int .i64),(19,.int .i64),(20,.int .i64),(51,.sb)],[.box 27 zz0,.box 49 zz1]⟩⟩],[],[]⟩
def L34:List Sig:=[G77,G76]
def G102:Sig:=⟨102,[.agg zz0,.int .i64,.int .i64],[],[⟨false,⟨[(0,.int .u64)],[]⟩⟩]⟩
def I102:ak:=⟨G102,F102,[⟨16,[],⟨[(7,.aA 0 0),(8,.int .u64),(9,.int .u64)],[.box 49 zz1]⟩⟩],[],[]⟩
def L102:List Sig:=[G107,G34,G71]
def G66:Sig:=⟨66,[.agg zz0,.int .i64],[],[⟨false,⟨[(0,.int .u64)],[]⟩⟩]⟩
def I66:ak:=⟨G66,F66,[⟨9,[.lp 9,.blk 0,.c 25],⟨[(1,.int .i64),(2,.aA 0 0),(5,.int .u64),(9,.inl 7),(10,.int .i64),(11,.int .i64)],[.box 27 zz0]⟩⟩],[],[]⟩
def L66:List Sig:=[G102]
def G27:Sig:=⟨27,[.agg zz0,.int .i64],[],[⟨false,⟨[(0,.int .u64)],[]⟩⟩]⟩
def I27:ak:=⟨G27,F27,[],[],[]⟩
def L27:List Sig:=[G71]
def G106:Sig:=⟨106,[.int .u64,.int .u64],[],[⟨false,⟨[(0,.int .u64)],[]⟩⟩]⟩
def I106:ak:=⟨G106,F106,[],[],[]⟩
def L106:List Sig:=[]
def G25:Sig:=⟨25,[.int .u64,.int .u64],[],[⟨false,⟨[(0,.int .u64)],[]⟩⟩]⟩
def I25:ak:=⟨G25,F25,[],[],[]⟩
def L25:List Sig:=[]
def G26:Sig:=⟨26,[.int .u64,.int .u64],[],[⟨false,⟨[(0,.int .u64)],[]⟩⟩]⟩
def I26:ak:=⟨G26,F26,[],[],[]⟩
def L26:List Sig:=[G26,G25]
def G138:Sig:=⟨138,[.int .u64,.inl 1,.inl 1,.int .u64],[],[⟨false,⟨[(0,.int .u64)],[]⟩⟩]⟩
def I138:ak:=⟨G138,F138,[⟨9,[.lp 9,.blk 0,.c 21],⟨[(1,.inl 1),(2,.inl 1),(3,.int .u64),(9,.int .u64),(13,.int .i64),(14,.int .i64)],[]⟩⟩],[],[]⟩
def L138:List Sig:=[G106,G26,G25]
def G101:Sig:=⟨101,[.int .u64,.inl 1,.inl 1,.int .u64],[],[⟨false,⟨[(0,.int .u64)],[]⟩⟩]⟩
def I101:ak:=⟨G101,F101,[⟨7,[.lp 7,.blk 0,.c 23],⟨[(0,.int .u64),(1,.inl 1),(2,.inl 1),(3,.int .u64),(9,.int .u64)],[]⟩⟩],[],[]⟩
def L101:List Sig:=[G138]
def G65:Sig:=⟨65,[.agg zz0,.int .i64,.int .u64,.int .u64],[],[⟨false,⟨[(0,.int .u64)],[]⟩⟩]⟩
def I65:ak:=⟨G65,F65,[⟨9,[.lp 9,.blk 0,.c 25],⟨[(1,.int .i64),(2,.int .u64),(3,.int .u64),(4,.aA 0 0),(9,.sl 1),(10,.sl 2),(14,.inl 7),(15,.int .i64),(16,.int .i64)],[.box 27 zz0,.arr 36 1,.arr 36 1]⟩⟩],[⟨26,4,[43,44,45,46,47],[44,45]⟩],[(22,[true,false])]⟩
def L65:List Sig:=[G27,G101]
def G21:Sig:=⟨21,[.agg zz0],[],[⟨false,⟨[(0,.sb)],[]⟩⟩]⟩
def I21:ak:=⟨G21,F21,[⟨7,[.lp 7,.blk 0,.c 25],⟨[(1,.aA 0 0),(6,.inl 7),(7,.int .i64),(8,.int .i64)],[.box 27 zz0]⟩⟩,
 ⟨19,[.blk 1,.c 24,.lp 7,.blk 0,.c 25],⟨[(1,.aA 0 0),(6,.inl 7),(7,.int .i64),(8,.int .i64),(22,.sb)],[.box 27 zz0]⟩⟩],[],[]⟩
def L21:List Sig:=[G66,G65]
def G78:Sig:=⟨78,[.inl 7],[],[⟨false,⟨[(0,.sl 0)],[.arr 49 7]⟩⟩]⟩
def I78:ak:=⟨G78,F78,[],[],[]⟩
def L78:List Sig:=[]
def G81:Sig:=⟨81,[],[],[⟨false,⟨[(0,.agg zz4)],[.arr 49 7]⟩⟩]⟩
def I81:ak:=⟨G81,F81,[],[],[]⟩
def L81:List Sig:=[]
def G83:Sig:=⟨83,[.inl 3],[],[⟨false,⟨[(0,.sl 0)],[.arr 99 3]⟩⟩]⟩
def I83:ak:=⟨G83,F83,[],[],[]⟩
def L83:List Sig:=[]
def G84:Sig:=⟨84,[.int .i64,.int .i64],[],[⟨false,⟨[(0,.int .i64)],[]⟩⟩]⟩
def I84:ak:=⟨G84,F84,[],[],[]⟩
def L84:List Sig:=[]
def G47:Sig:=⟨47,[.agg zz0,.int .i64],[],[⟨false,⟨[(0,.agg zz0)],[]⟩⟩]⟩
def I47:ak:=⟨G47,F47,[⟨11,[.lp 11,.blk 0,.c 46],⟨[(1,.int .i64),(2,.aA 0 0),(4,.aA 1 0),(18,.int .i64),(19,.int .i64)],[.box 27 [.int .i64,.int .i64,.int .i64,.int .i64,.inl 1,.int .i64,.inl 1,.inl 1,.sl 2,.inl 1],.box 27 [.int .i64,.int .i64,.int .i64,.int .i64,.sl 3,.int .i64,.sl 4,.sl 5,.sl 6,.sl 7],.arr 49 7,.arr 3 1,.arr 3 1,.arr 3 1,.arr 49 7,.arr 3 1]⟩⟩,
 ⟨28,[.lp 28,.blk 2,.c 44,.blk 1,.c 45,.lp 11,.blk 0,.c 46],⟨[(1,.int .i64),(2,.aA 0 0),(4,.aA 1 0),(5,.int .i64),(6,.sl 2),(18,.int .i64),(19,.int .i64),(29,.sl 2),(30,.int .i64),(31,.int .i64)],[.box 27 [.int .i64,.int .i64,.int .i64,.int .i64,.inl 1,.int .i64,.inl 1,.inl 1,.sl 3,.inl 1],.box 27 [.int .i64,.int .i64,.int .i64,.int .i64,.sl 4,.int .i64,.sl 5,.sl 6,.sl 7,.sl 8],.arr 99 3,.arr 49 7,.arr 3 1,.arr 3 1,.arr 3 1,.arr 49 7,.arr 3 1]⟩⟩],[⟨44,6,[1,2,4,18,19,51,53],[51]⟩],[]⟩
def L47:List Sig:=[G84,G78,G83]
def G86:Sig:=⟨86,[.int .i64,.aA 0 0],[.box 27 zz0],[⟨false,⟨[(0,.sb)],[.box 27 zz0]⟩⟩]⟩
def I86:ak:=⟨G86,F86,[],[],[]⟩
def L86:List Sig:=[G47,G19]
def G85:Sig:=⟨85,[.int .i64,.fn 86 [] [.aA 0 0]],[.box 27 zz0],[⟨false,⟨[(0,.int .i64)],[.box 27 zz0]⟩⟩]⟩
def I85:ak:=⟨G85,F85,[⟨7,[.lp 7,.blk 0,.c 21],⟨[(1,.fn 86 [] [.aA 0 0]),(5,.int .i64),(6,.int .i64)],[.box 27 zz0]⟩⟩],[],[]⟩
def L85:List Sig:=[G86]
def G49:Sig:=⟨49,[.agg zz0],[],[⟨true,⟨[(0,.int .i64),(1,.sb)],[]⟩⟩]⟩
def I49:ak:=⟨G49,F49,[],[],[]⟩
def L49:List Sig:=[G47,G19,G85]
def G52:Sig:=⟨52,[.agg zz0,.int .i64,.int .i64],[],[⟨true,⟨[(0,.agg zz0),(1,.sb)],[]⟩⟩]⟩
def I52:ak:=⟨G52,F52,[⟨12,[],⟨[(3,.aA 0 0),(6,.aA 1 0)],[.box 27 zz0,.box 27 [.int .i64,.int .i64,.int .i64,.int .i64,.sl 2,.int .i64,.sl 3,.sl 4,.sl 5,.sl 6],.arr 3 1,.arr 3 1,.arr 3 1,.arr 49 7,.arr 3 1]⟩⟩],[],[(13,[true,false,true,true,true,true,true])]⟩
def L52:List Sig:=[G19,G78]
def G87:Sig:=⟨87,[.int .i64,.aA 0 0,.aA 1 0],[.box 27 zz0,.box 3 [.int .i64]],[⟨false,⟨[(0,.sb)],[.box 27 zz0,.box 3 [.int .i64]]⟩⟩]⟩
def I87:ak:=⟨G87,F87,[],[],[]⟩
def L87:List Sig:=[G52]
def G85a:Sig:=⟨85,[.int .i64,.fn 87 [] [.aA 0 0,.aA 1 0]],[.box 27 zz0,.box 3 [.int .i64]],[⟨false,⟨[(0,.int .i64)],[.box 27 zz0,.box 3 [.int .i64]]⟩⟩]⟩
def I85a:ak:=⟨G85a,F85,[⟨7,[.lp 7,.blk 0,.c 21],⟨[(1,.fn 87 [] [.aA 0 0,.aA 1 0]),(5,.int .i64),(6,.int .i64)],[.box 27 zz0,.box 3 [.int .i64]]⟩⟩],[],[]⟩
def L85a:List Sig:=[G87]
def G51:Sig:=⟨51,[.agg zz0,.int .i64],[],[⟨true,⟨[(0,.int .i64),(1,.sb)],[]⟩⟩]⟩
def I51:ak:=⟨G51,F51,[],[],[]⟩
def L51:List Sig:=[G19,G85a]
def G82:Sig:=⟨82,[.inl 1,.inl 1],[],[⟨false,⟨[(0,.sb)],[]⟩⟩]⟩
def I82:ak:=⟨G82,F82,[⟨15,[.lp 15,.blk 0,.c 33],⟨[(0,.inl 1),(1,.inl 1),(12,.int .i64),(13,.int .i64)],[]⟩⟩],[],[]⟩
def L82:List Sig:=[]
def G46:Sig:=⟨46,[.agg zz0,.agg zz0],[],[⟨false,⟨[(0,.sb)],[]⟩⟩]⟩
def I46:ak:=⟨G46,F46,[⟨15,[.lp 15,.blk 0,.c 58],⟨[(2,.aA 0 0),(3,.aA 1 0),(64,.int .i64),(65,.int .i64)],[.box 27 zz0,.box 27 zz0]⟩⟩,
 ⟨27,[.blk 1,.c 57,.lp 15,.blk 0,.c 58],⟨[(2,.aA 0 0),(3,.aA 1 0),(6,.aA 2 0),(7,.aA 3 0),(64,.int .i64),(65,.int .i64)],[.box 27 zz0,.box 27 zz0,.box 49 zz1,.box 49 zz1]⟩⟩,
 ⟨39,[.lp 39,.blk 2,.blk 1,.c 57,.lp 15,.blk 0,.c 58],⟨[(2,.aA 0 0),(3,.aA 1 0),(6,.aA 2 0),(7,.aA 3 0),(64,.int .i64),(65,.int .i64),(129,.int .i64),(130,.int .i64)],[.box 27 zz0,.box 27 zz0,.box 49 zz1,.box 49 zz1]⟩⟩],[⟨29,12,[],[]⟩,⟨29,19,[],[]⟩,⟨29,26,[],[]⟩,⟨29,33,[],[]⟩,⟨29,40,[],[]⟩],[]⟩
def L46:List Sig:=[G82]
def G44:Sig:=⟨44,[],[],[⟨false,⟨[(0,.sb)],[]⟩⟩]⟩
def I44:ak:=⟨G44,F44,[],[⟨3,1,[9,10],[9]⟩,⟨5,1,[1,2,14,15],[14]⟩,⟨7,1,[1,2,3,4,19,20],[19]⟩,⟨9,1,[1,2,3,4,6,23,24],[23]⟩,⟨11,29,[52,53,54],[53]⟩,⟨11,31,[52,54,55,56],[55]⟩],[]⟩
def L44:List Sig:=[G81,G49,G51,G47,G46]
def G45:Sig:=⟨45,[.agg zz0,.int .i64],[],[⟨false,⟨[(0,.agg zz0)],[]⟩⟩]⟩
def I45:ak:=⟨G45,F45,[⟨11,[.lp 11,.blk 0,.c 56],⟨[(1,.int .i64),(4,.aA 0 0),(5,.aA 1 0),(19,.inl 7),(20,.int .i64),(21,.int .i64)],[.box 27 [.int .i64,.int .i64,.int .i64,.int .i64,.sl 2,.int .i64,.sl 3,.sl 4,.sl 5,.sl 6],.box 27 [.int .i64,.int .i64,.int .i64,.int .i64,.inl 1,.int .i64,.inl 1,.inl 1,.sl 7,.inl 1],.arr 3 1,.arr 3 1,.arr 3 1,.arr 49 7,.arr 3 1,.arr 49 7]⟩⟩,
 ⟨28,[.lp 28,.blk 2,.c 54,.blk 1,.c 55,.lp 11,.blk 0,.c 56],⟨[(1,.int .i64),(4,.aA 0 0),(5,.aA 1 0),(6,.int .i64),(8,.sl 2),(19,.inl 7),(20,.int .i64),(21,.int .i64),(30,.sl 2),(31,.int .i64),(32,.int .i64)],[.box 27 [.int .i64,.int .i64,.int .i64,.int .i64,.sl 3,.int .i64,.sl 4,.sl 5,.sl 6,.sl 7],.box 27 [.int .i64,.int .i64,.int .i64,.int .i64,.inl 1,.int .i64,.inl 1,.inl 1,.sl 8,.inl 1],.arr 99 3,.arr 3 1,.arr 3 1,.arr 3 1,.arr 49 7,.arr 3 1,.arr 49 7]⟩⟩],[⟨54,6,[1,4,5,19,20,21,74,76],[74]⟩],[]⟩
def L45:List Sig:=[]
def G11:Sig:=⟨11,[.agg zz0,.int .i64],[],[⟨false,⟨[(0,.sb)],[]⟩⟩]⟩
def I11:ak:=⟨G11,F11,[],[],[]⟩
def L11:List Sig:=[G44,G15,G45,G47,G46]
def G48:Sig:=⟨48,[.agg zz0],[],[⟨false,⟨[(0,.sb)],[]⟩⟩]⟩
def I48:ak:=⟨G48,F48,[],[],[]⟩
def L48:List Sig:=[G15,G20]
def G50:Sig:=⟨50,[.agg zz0],[],[⟨false,⟨[(0,.sb)],[]⟩⟩]⟩
def I50:ak:=⟨G50,F50,[],[],[]⟩
def L50:List Sig:=[G18,G21]
def G12:Sig:=⟨12,[.agg zz0,.int .u16],[],[⟨false,⟨[(0,.sb)],[]⟩⟩]⟩
def I12:ak:=⟨G12,F12,[],[],[]⟩
def L12:List Sig:=[G44,G48,G49,G45,G50]
def G13:Sig:=⟨13,[.agg zz0,.int .i64,.int .u16],[],[⟨false,⟨[(0,.sb)],[]⟩⟩]⟩
def I13:ak:=⟨G13,F13,[⟨43,[.lp 43,.blk 0,.c 69],⟨[(1,.int .i64),(3,.aA 0 0),(7,.int .i64),(9,.aA 1 0),(76,.inl 1),(77,.int .i64),(78,.int .i64)],[.box 27 zz0,.box 49 zz1]⟩⟩,
 ⟨59,[.blk 1,.c 68,.lp 43,.blk 0,.c 69],⟨[(1,.int .i64),(3,.aA 0 0),(7,.int .i64),(9,.aA 1 0),(11,.int .i64),(12,.aA 2 0),(76,.inl 1),(77,.int .i64),(78,.int .i64)],[.box 27 zz0,.box 49 zz1,.box 27 [.int .i64,.int .i64,.int .i64,.int .i64,.inl 1,.int .i64,.inl 1,.inl 1,.sl 3,.inl 1],.arr 49 7]⟩⟩],[⟨62,2,[1,3,7,9,11,12,13,14,76,77,78,110,111,112],[111]⟩],[(58,[true,true,true,false])]⟩
def L13:List Sig:=[G44,G48,G51,G50,G52,G46]
end Go.Ab
