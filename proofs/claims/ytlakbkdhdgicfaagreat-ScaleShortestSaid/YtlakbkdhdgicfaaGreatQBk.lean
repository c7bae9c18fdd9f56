import Derived.RangeFuncBox
import Derived.RangeFuncLeaves
import Derived.Shelf.Abstract
import Derived.WalkKit
import Derived.OwnWalkIn
import Derived.TacticsInMore
import Derived.LoopNIn
import Derived.LoopIn
import Derived.Test.YtlakbkdhdgicfaaGreatLayD
import Derived.Test.YtlakbkdhdgicfaaGreatProg
namespace Go.Ab.Bk
open Go Go.Proofs Go.RowKit Go.Shelf
attribute [local go_sem] Oper.semAt_some
set_option maxRecDepth 100000 in
set_option maxHeartbeats 1000000 in
theorem back_in (l Bx len:Nat) (J:Nat→World→Prop) (hlen:len < 1152921504606846976)
  (hc:∀ k W,J k W→k≤len→∃ A cap,W.cell? ⟨Bx,0,none⟩=some (.slice A len cap) ∧
   (k < len→∃ b o x,A=some ⟨b,o,none⟩∧W.cell? ⟨b,o + (len - 1 - k),none⟩=some x∧x.oneCell'=true ∧
    YieldAt Fence.wide 0 Tryz.prog l #[.int .i64 ((len - 1 - k:Nat):Int),x] W fun e W'=>e=.returned (.bool true)∧J (k + 1) W'))
  (W:World) (h0:J 0 W):CallsIn Fence.wide 1 Tryz.prog 171 #[.func (.yield l) #[] #[],.pointer (some ⟨Bx,0,none⟩)] W fun e W'=>(∃ v,e=.returned v)∧J len W':=by
 have F:Fence.wide.fn 171:=trivial
 have hro:Fence.wide.round=none:=rfl
 refine callsIn_of_wp Tryz.func171 rfl F ?_ hro
 simp only [Tryz.ntmps171,List.size_toArray,List.length_cons,List.length_nil,Nat.reduceAdd,Nat.reduceSub,Array.replicate_succ,Array.replicate_zero,List.push_toArray,List.append_toArray,List.nil_append,List.cons_append]
 obtain ⟨A,cap,hA,_⟩:=hc 0 W h0 (Nat.zero_le _)
 gi_wp2
 gi_loopw [3] (fun i wr=>∃ m:Nat,m≤len∧i=.int .i64 ((m:Int) - 1)∧J (len - m) wr)
  (fun i _=>(intOf i + 1).toNat)
 case atStart=>exact ⟨len,Nat.le_refl _,rfl,by simpa using h0⟩
 case round =>
  obtain ⟨m,hm,rfl,hJs⟩:=hrel
  obtain ⟨A',cap',hA',hy'⟩:=hc _ _ hJs (by omega)
  cases m with
  | zero =>
   gi_wp2
   go_end0
   exact ⟨⟨_,rfl⟩,by simpa using hJs⟩
  | succ j =>
   obtain ⟨b,o,x,rfl,hx,hx1,fn,tmps,assign,body,hy,hR⟩:=hy' (by omega)
   have e1:len - 1 - (len - (j + 1))=j:=by omega
   have e2:len - (j + 1) + 1=len - j:=by omega
   have e3:((j + 1:Nat):Int) - 1=(j:Int):=by omega
   rw [e1] at hx hy
   rw [e2] at hR
   rw [e3]
   have hjl:j < len:=by omega
   gi_wp2
   refine hR.mono ?_
   rintro e W3 ⟨rfl,hJ3⟩
   gi_wp2
   go_roundw
   case rel=>exact ⟨j,by omega,rfl,hJ3⟩
   case measure=>simp [intOf]
theorem back_C:BackC Tryz.prog 171 :=
 ⟨⟨Tryz.f171,Tryz.func171,by kernel_rfl,by kernel_rfl⟩,fun l Bx len J hlen hc W h0=>callsIn_wide.1 (back_in l Bx len J hlen hc W h0)⟩
end Go.Ab.Bk
