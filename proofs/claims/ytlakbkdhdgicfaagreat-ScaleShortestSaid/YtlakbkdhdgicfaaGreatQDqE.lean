import Derived.Test.YtlakbkdhdgicfaaGreatQVA
import Derived.Test.YtlakbkdhdgicfaaGreatQVB
import Derived.Test.YtlakbkdhdgicfaaGreatQVC
import Derived.Test.YtlakbkdhdgicfaaGreatQVD
import Derived.Test.YtlakbkdhdgicfaaGreatQVE
import Derived.Test.YtlakbkdhdgicfaaGreatQBk
namespace Go.Ab
open Go Go.Proofs
set_option linter.unusedVariables false
set_option linter.unusedSimpArgs false
set_option maxRecDepth 100000
set_option maxHeartbeats 1000000
theorem Run.monoR {P:Program} {fn:Func} {tab:List Node} {H0:List aj} {R R':AV→List aj→Prop} {K:List bf} {fr:List AV} {H:List aj} (h:Run P fn tab H0 R K fr H) (hm:∀ v H',R v H'→R' v H'):Run P fn tab H0 R' K fr H :=
 fun S0 S w a b k cs he hd hr hw hk=>by
  obtain ⟨a',w',todo,v,q1,q2,q3,S5,v5,H5,e1,e2,e3,e4⟩:=h S0 S w a b k cs he hd hr hw hk
  exact ⟨a',w',todo,v,q1,q2,q3,S5,v5,H5,e1,e2,e3,hm _ _ e4⟩
theorem rng124 {Q:Nat→Rs→List Lf→Prop} {A:Ar} {CE:Nat→Rs→List Lf→(Nat→Rs→List Lf→Prop)→Prop} {CK:Nat→Rs→List Lf→Cont→Prop} {Dn:Nat→List Bool→List bf→Nat→List Bool→List AV→List aj→Prop} {EV RR:Nat→Rs→List Lf→Prop} (W:Wk Tryz.prog Tryz.f124 I124 L124 Q A sg CE CK Dn EV RR)
  {a0 a1 a2 a3 a5:Int} {a4 a6 a7 a8 a9 up up2 R0:List (List AV)} (I:Nat→List (List AV)→Prop) (hl:up2.length < 1152921504606846976) (h1:aB up2=true) (hone:∀ r∈up2,∃ x,r=[.int .i64 x])
  (hpa:aB up=true) (hIp:∀ i R,I i R→aB R=true) (hI:I up2.length R0)
  (body:∀ (i:Nat) (x:Int) (R:List (List AV)),i < up2.length→up2[i]?=some [.int .i64 x]→I (i + 1) R→∀ EV,V124r EV (fun e rs vs=>∃ R',rs=[R']∧vs=[.i a0,.i a1,.i a2,.i a3,.r a4,.i a5,.r a6,.r a7,.r a8,.r a9,.r up,.r up2]∧I i R') →
   EV 12 [R] [.i x,.i a0,.i a1,.i a2,.i a3,.r a4,.i a5,.r a6,.r a7,.r a8,.r a9,.r up,.r up2])
  (rest:∀ R,I 0 R→Q 0 [R] []) :
  EV 10 [R0] [.i a0,.i a1,.i a2,.i a3,.r a4,.i a5,.r a6,.r a7,.r a8,.r a9,.r up,.r up2]:=by
 rw [W.ev]
 intro s hs hp
 obtain rfl:s=mW 10 I124.stops:=by unfold mW;rw [hs]
 intro H0 hl0
 refine Run.back (fnR:=Tryz.f124r) (tabB:=F124r.tab) (σ:=List (List AV)) (σr:=sg) (q:=6) (id:=3) (rt:=2) (n:=10) (d:=2) (e:=25) (p1:=18) (p2:=19) (eT:=24) (rows:=up2) (fb:=171) (g:=.t 17) (fun R=>(eX arS I124.F.nt (mW 10 I124.stops).st [R] [.i a0,.i a1,.i a2,.i a3,.r a4,.i a5,.r a6,.r a7,.r a8,.r a9,.r up,.r up2]).2) I rfl rfl rfl rfl Bk.back_C (by have:=D5.res;unfold rnd;rw [this];rfl) rfl (by kernel_rfl) h1 (fun r hr=>by obtain ⟨x,hx⟩:=hone r hr;exact ⟨_,hx⟩) hl (fun i R _=>rfl) R0 rfl hI (fun i x R hi hx hR=>?_) (fun R hR=>?_)
 ·obtain ⟨z,hz⟩:=hone [x] (List.mem_of_getElem? hx)
  simp only [List.cons.injEq,and_true] at hz
  subst hz
  have hr:=ak.round (P:=Tryz.prog) (fn:=Tryz.f124r) (I:=I124r) (n1:=12) (s:=mW 12 I124r.stops) (rs:=[R]) (vs:=[.i z,.i a0,.i a1,.i a2,.i a3,.r a4,.i a5,.r a6,.r a7,.r a8,.r a9,.r up,.r up2]) (Q:=fun e rs vs=>∃ R',rs=[R']∧vs=[.i a0,.i a1,.i a2,.i a3,.r a4,.i a5,.r a6,.r a7,.r a8,.r a9,.r up,.r up2]∧I i R') mixed (by kernel_rfl) rfl rfl sg L124r rfl rfl ⟨hIp _ _ hR,trivial⟩ (fun CE CK Dn EV RR W2=>body i z R hi hx hR EV (V124r.of W2)) (H0:=(eX arS I124.F.nt (mW 10 I124.stops).st [R] [.i a0,.i a1,.i a2,.i a3,.r a4,.i a5,.r a6,.r a7,.r a8,.r a9,.r up,.r up2]).2) rfl
  refine Run.sub (Run.monoR hr fun v H' hv=>?_) ?_
  ·obtain ⟨r',H'',hE,x',ex,rs,vs,g1,g2,⟨R',rfl,rfl,hR'⟩,g4,_⟩:=hv
   have hx0:x'=0∧ex=⟨true,⟨[],I124r.sig.hp⟩⟩:=by
    match x',g1 with
    | 0,g1=>exact ⟨rfl,(Option.some.inj g1).symm⟩
    | n + 1,g1=>cases g1
   obtain ⟨rfl,rfl⟩:=hx0
   refine ⟨R',r',hR',?_⟩
   have:H''=(eX arS I124.F.nt (mW 10 I124.stops).st [R'] [.i a0,.i a1,.i a2,.i a3,.r a4,.i a5,.r a6,.r a7,.r a8,.r a9,.r up,.r up2]).2:=by
    have:=congrArg Prod.snd g4
    exact this.symm
   rw [← this]
   exact hE
  ·cbv
   simp
 ·have hseg:=W.seg (m:=80) (chk:=true) (K:=[.blk 0,.c 37]) (fr:=(eX A I124.F.nt (mW 10 I124.stops).st [R] [.i a0,.i a1,.i a2,.i a3,.r a4,.i a5,.r a6,.r a7,.r a8,.r a9,.r up,.r up2]).1) (H:=(eX A I124.F.nt (mW 10 I124.stops).st [R] [.i a0,.i a1,.i a2,.i a3,.r a4,.i a5,.r a6,.r a7,.r a8,.r a9,.r up,.r up2]).2) (by
   have hA:=W.hA
   cbv
   exact ⟨ndI hA (by subst hA;exact ⟨rfl,rfl,rfl⟩),ndI hA (by subst hA;exact hIp _ _ hR),by rw [W.rr];exact rest R hR⟩)
  rw [W.hA] at hseg
  exact hseg H0 hl0
end Go.Ab
