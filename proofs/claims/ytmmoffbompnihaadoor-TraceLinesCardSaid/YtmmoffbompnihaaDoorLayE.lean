import Derived.Test.YtmmoffbompnihaaDoorLayD
namespace Go.Ab
open Go
set_option linter.unusedVariables false
set_option linter.unusedSimpArgs false
def cmpR (op : BinOp) (b : Bool) (x y : Int) : Prop :=
 match op, b with
 | .lss, true => x < y
 | .lss, false => y ≤ x
 | .leq, true => x ≤ y
 | .leq, false => y < x
 | .gtr, true => y < x
 | .gtr, false => x ≤ y
 | .geq, true => y ≤ x
 | .geq, false => x < y
 | .eql, true => x = y
 | .eql, false => x ≠ y
 | .neq, true => x ≠ y
 | .neq, false => x = y
 | _, _ => True
section
variable {A : Ar}
theorem cmpE (hA : A = arS) {op : BinOp} {b : Bool} {x y : Int} (h : A.cmp op x y = b) : cmpR op b x y := by
 subst hA
 cases op <;> cases b <;> simp_all [arS, cmpS, cmpR]
end
theorem rappS_end (rows new : List (List AV)) : rappS rows rows.length new = rows ++ new := by simp [rappS]
theorem pursS_map {α : Type} (f : α → List AV) (hf : ∀ x, purs (f x) = true) (l : List α) : pursS (l.map f) = true := by
 induction l with
 | nil => rfl
 | cons x l ih => simp [pursS, hf, ih]
def ints (l : List Int) : List (List AV) := l.map fun n => [.int .i64 n]
@[simp] theorem ints_length (l : List Int) : (ints l).length = l.length := by simp [ints]
@[simp] theorem ints_pure (l : List Int) : pursS (ints l) = true := pursS_map _ (fun _ => rfl) l
end Go.Ab

namespace Go.Ab
open Go
set_option linter.unusedVariables false
set_option linter.unusedSimpArgs false
mutual
def eqA : AV → AV → Bool
 | .int k n, .int k' n' => decide (k = k') && decide (n = n')
 | .bool b, .bool b' => b == b'
 | .sb b, .sb b' => b == b'
 | .str s, .str s' => decide (s = s')
 | .nilp, .nilp => true
 | .nils, .nils => true
 | .nilf, .nilf => true
 | .nili, .nili => true
 | .nilm, .nilm => true
 | .junk, .junk => true
 | .ptr a b c d, .ptr a' b' c' d' => Nat.beq a a' && (Nat.beq b b' && (Nat.beq c c' && Nat.beq d d'))
 | .bptr a b, .bptr a' b' => Nat.beq a a' && Nat.beq b b'
 | .sl a b c d, .sl a' b' c' d' => Nat.beq a a' && (Nat.beq b b' && (Nat.beq c c' && Nat.beq d d'))
 | .inl sz rows, .inl sz' rows' => Nat.beq sz sz' && eqAss rows rows'
 | .iptr cs, .iptr cs' => eqAs cs cs'
 | .agg cs, .agg cs' => eqAs cs cs'
 | .tup cs, .tup cs' => eqAs cs cs'
 | .iface t v, .iface t' v' => Nat.beq t t' && eqA v v'
 | .fn f a b, .fn f' a' b' => match f, f' with
  | .func x, .func y => Nat.beq x y && (eqAs a a' && eqAs b b')
  | _, _ => false
 | _, _ => false
def eqAs : List AV → List AV → Bool
 | [], [] => true
 | x :: xs, y :: ys => eqA x y && eqAs xs ys
 | _, _ => false
def eqAss : List (List AV) → List (List AV) → Bool
 | [], [] => true
 | x :: xs, y :: ys => eqAs x y && eqAss xs ys
 | _, _ => false
end
mutual
theorem eqA_eq : ∀ (a b : AV), eqA a b = true → a = b
 | a, b, h => by
  unfold eqA at h
  split at h <;> (try simp only [Bool.and_eq_true, decide_eq_true_eq, beq_iff_eq] at h)
  ·rw [h.1, h.2]
  ·rw [h]
  ·rw [h]
  ·rw [h]
  ·rfl
  ·rfl
  ·rfl
  ·rfl
  ·rfl
  ·rfl
  ·rw [Nat.eq_of_beq_eq_true h.1, Nat.eq_of_beq_eq_true h.2.1, Nat.eq_of_beq_eq_true h.2.2.1, Nat.eq_of_beq_eq_true h.2.2.2]
  ·rw [Nat.eq_of_beq_eq_true h.1, Nat.eq_of_beq_eq_true h.2]
  ·rw [Nat.eq_of_beq_eq_true h.1, Nat.eq_of_beq_eq_true h.2.1, Nat.eq_of_beq_eq_true h.2.2.1, Nat.eq_of_beq_eq_true h.2.2.2]
  ·rw [Nat.eq_of_beq_eq_true h.1, eqAss_eq _ _ h.2]
  ·rw [eqAs_eq _ _ h]
  ·rw [eqAs_eq _ _ h]
  ·rw [eqAs_eq _ _ h]
  ·rw [Nat.eq_of_beq_eq_true h.1, eqA_eq _ _ h.2]
  ·split at h
   ·simp only [Bool.and_eq_true] at h
    rw [Nat.eq_of_beq_eq_true h.1, eqAs_eq _ _ h.2.1, eqAs_eq _ _ h.2.2]
   ·cases h
  ·cases h
theorem eqAs_eq : ∀ (a b : List AV), eqAs a b = true → a = b
 | [], [], _ => rfl
 | x :: xs, y :: ys, h => by
  simp only [eqAs, Bool.and_eq_true] at h
  rw [eqA_eq x y h.1, eqAs_eq xs ys h.2]
 | [], _ :: _, h => by simp [eqAs] at h
 | _ :: _, [], h => by simp [eqAs] at h
theorem eqAss_eq : ∀ (a b : List (List AV)), eqAss a b = true → a = b
 | [], [], _ => rfl
 | x :: xs, y :: ys, h => by
  simp only [eqAss, Bool.and_eq_true] at h
  rw [eqAs_eq x y h.1, eqAss_eq xs ys h.2]
 | [], _ :: _, h => by simp [eqAss] at h
 | _ :: _, [], h => by simp [eqAss] at h
end
def eqH : List ABlk → List ABlk → Bool
 | [], [] => true
 | .box e cs :: H, .box e' cs' :: H' => Nat.beq e e' && (eqAs cs cs' && eqH H H')
 | .arr e sz rows :: H, .arr e' sz' rows' :: H' => Nat.beq e e' && (Nat.beq sz sz' && (eqAss rows rows' && eqH H H'))
 | .mpb rows :: H, .mpb rows' :: H' => eqAss rows rows' && eqH H H'
 | _, _ => false
theorem eqH_eq : ∀ (a b : List ABlk), eqH a b = true → a = b
 | [], [], _ => rfl
 | .mpb rows :: H, .mpb rows' :: H', h => by
  simp only [eqH, Bool.and_eq_true] at h
  rw [eqAss_eq _ _ h.1, eqH_eq H H' h.2]
 | .box e cs :: H, .box e' cs' :: H', h => by
  simp only [eqH, Bool.and_eq_true] at h
  rw [Nat.eq_of_beq_eq_true h.1, eqAs_eq _ _ h.2.1, eqH_eq H H' h.2.2]
 | .arr e sz rows :: H, .arr e' sz' rows' :: H', h => by
  simp only [eqH, Bool.and_eq_true] at h
  rw [Nat.eq_of_beq_eq_true h.1, Nat.eq_of_beq_eq_true h.2.1, eqAss_eq _ _ h.2.2.1, eqH_eq H H' h.2.2.2]
 | [], _ :: _, h => by simp [eqH] at h
 | _ :: _, [], h => by simp [eqH] at h
 | .dead _ :: _, _ :: _, h => by simp [eqH] at h
 | .mpb _ :: _, .box _ _ :: _, h => by simp [eqH] at h
 | .mpb _ :: _, .arr _ _ _ :: _, h => by simp [eqH] at h
 | .mpb _ :: _, .dead _ :: _, h => by simp [eqH] at h
 | .box _ _ :: _, .mpb _ :: _, h => by simp [eqH] at h
 | .arr _ _ _ :: _, .mpb _ :: _, h => by simp [eqH] at h
 | .box _ _ :: _, .arr _ _ _ :: _, h => by simp [eqH] at h
 | .box _ _ :: _, .dead _ :: _, h => by simp [eqH] at h
 | .arr _ _ _ :: _, .box _ _ :: _, h => by simp [eqH] at h
 | .arr _ _ _ :: _, .dead _ :: _, h => by simp [eqH] at h
def bytB : List (List AV) → Bool
 | [] => true
 | [.int .u8 _] :: rs => bytB rs
 | _ => false
theorem bytB_eq : ∀ {rows : List (List AV)}, bytB rows = true → ∀ r ∈ rows, ∃ n : Int, r = [.int .u8 n]
 | [], _, r, hr => by cases hr
 | r0 :: rs, h, r, hr => by
  unfold bytB at h
  split at h
  ·rename_i e; cases e
  ·rename_i n rs' e
   injection e with e1 e2
   subst e1 e2
   rcases List.mem_cons.1 hr with rfl | hr
   ·exact ⟨n, rfl⟩
   ·exact bytB_eq h r hr
  ·cases h
def Cnd.chk : Cnd → Bool
 | .t => true
 | .and a b => a.chk && b.chk
 | .eqN x y => Nat.beq x y
 | .leN x y => Nat.ble x y
 | .leI x y => decide (x ≤ y)
 | .ltI x y => decide (x < y)
 | .neI x y => !decide (x = y)
 | .rget rows i r => match getL rows i with
  | some r' => eqAs r' r
  | none => false
 | .nil rows => match rows with
  | [] => true
  | _ => false
 | .pu rows => pursS rows
 | .mget rows k n z v => match mgetS k n z rows with
  | some u => eqA u v
  | none => false
 | .mset rows k n v rows' => match msetS k n v rows with
  | some r => eqAss r rows'
  | none => false
 | .byt rows => bytB rows
theorem Cnd.chk_holds : ∀ {c : Cnd}, c.chk = true → c.holds
 | .t, _ => trivial
 | .and a b, h => by simp only [chk, Bool.and_eq_true] at h; exact ⟨chk_holds h.1, chk_holds h.2⟩
 | .eqN x y, h => Nat.eq_of_beq_eq_true h
 | .leN x y, h => Nat.ble_eq.mp h
 | .leI x y, h => by simp only [chk, decide_eq_true_eq] at h; exact h
 | .ltI x y, h => by simp only [chk, decide_eq_true_eq] at h; exact h
 | .neI x y, h => by simp only [chk, Bool.not_eq_true', decide_eq_false_iff_not] at h; exact h
 | .rget rows i r, h => by
  simp only [chk, getL_eq] at h
  split at h
  ·rename_i r' hr
   rw [eqAs_eq _ _ h] at hr
   exact hr
  ·cases h
 | .nil rows, h => by
  simp only [chk] at h
  split at h
  ·rfl
  ·cases h
 | .pu rows, h => h
 | .mget rows k n z v, h => by
  simp only [chk] at h
  split at h
  ·rename_i u hu; rw [eqA_eq _ _ h] at hu; exact hu
  ·cases h
 | .byt rows, h => bytB_eq h
 | .mset rows k n v rows', h => by
  simp only [chk] at h
  split at h
  ·rename_i u hu; rw [eqAss_eq _ _ h] at hu; exact hu
  ·cases h
def sgX : RowF := fun A e rows i => (getL rows i).getD []
inductive OC where
 | ok (v : AV) (H : List ABlk)
 | call (f : FuncId) (args : List AV)
 | bad
def outC : Out → OC
 | .ok v H => .ok v H
 | .need p o => match p.chk with
  | true => outC o
  | false => .bad
 | .br b k => outC (k b)
 | .call f args => .call f (unsL args)
 | _ => .bad
theorem outC_ok {P : Program} {H : List ABlk} {v : AV} {H' : List ABlk} {K : AV → List ABlk → Prop} : ∀ {o : Out}, outC o = .ok v H' → K v H' → sat arS P H o K
 | .ok v0 H0, h, hk => by simp only [outC, OC.ok.injEq] at h; obtain ⟨rfl, rfl⟩ := h; exact hk
 | .need p o, h, hk => by
  simp only [outC] at h
  split at h
  ·rename_i hp; exact ⟨Cnd.chk_holds hp, outC_ok h hk⟩
  ·cases h
 | .br b k, h, hk => by simp only [outC] at h; simp only [sat]; exact outC_ok h hk
 | .nilq _ _ _, h, _ => by simp [outC] at h
 | .call f args, h, _ => by simp [outC] at h
 | .ask _ _, h, _ => by simp [outC] at h
 | .bad, h, _ => by simp [outC] at h
theorem outC_call {P : Program} {H : List ABlk} {f : FuncId} {args : List AV} {K : AV → List ABlk → Prop} : ∀ {o : Out}, outC o = .call f args → CallsA P f args H (fun r H' => K (sym r) H') → sat arS P H o K
 | .ok v0 H0, h, hk => by simp [outC] at h
 | .need p o, h, hk => by
  simp only [outC] at h
  split at h
  ·rename_i hp; exact ⟨Cnd.chk_holds hp, outC_call h hk⟩
  ·cases h
 | .br b k, h, hk => by simp only [outC] at h; simp only [sat]; exact outC_call h hk
 | .nilq _ _ _, h, _ => by simp [outC] at h
 | .call f0 args0, h, hk => by simp only [outC, OC.call.injEq] at h; obtain ⟨rfl, rfl⟩ := h; exact hk
 | .ask _ _, h, _ => by simp [outC] at h
 | .bad, h, _ => by simp [outC] at h
def lookF : List (Nat × AFn) → Nat → Option AFn
 | [], _ => none
 | (i, F) :: l, f => match Nat.beq i f with
  | true => some F
  | false => lookF l f
theorem lookF_mem {l : List (Nat × AFn)} {f : Nat} {F : AFn} (h : lookF l f = some F) : (f, F) ∈ l := by
 induction l with
 | nil => cases h
 | cons p l ih =>
  obtain ⟨i, F0⟩ := p
  simp only [lookF] at h
  split at h
  ·rename_i hb
   have := Nat.eq_of_beq_eq_true hb
   subst this
   simp only [Option.some.injEq] at h
   subst h
   simp
  ·simp [ih h]
def keepB : List Bool → List ABlk → List ABlk → Bool
 | [], _, _ => true
 | true :: bs, x :: H, y :: H' => eqH [x] [y] && keepB bs H H'
 | false :: bs, _ :: H, _ :: H' => keepB bs H H'
 | _, _, _ => false
theorem keepB_keep : ∀ {bs : List Bool} {H H' : List ABlk}, keepB bs H H' = true → keepP bs H H'
 | [], _, _, _ => trivial
 | true :: bs, x :: H, y :: H', h => by
  simp only [keepB, Bool.and_eq_true] at h
  have := eqH_eq _ _ h.1
  simp only [List.cons.injEq, and_true] at this
  exact ⟨this, keepB_keep h.2⟩
 | false :: bs, x :: H, y :: H', h => keepB_keep (bs := bs) h
 | true :: bs, [], _, h => by simp [keepB] at h
 | true :: bs, _ :: _, [], h => by simp [keepB] at h
 | false :: bs, [], _, h => by simp [keepB] at h
 | false :: bs, _ :: _, [], h => by simp [keepB] at h
def axIn (ls : List Nat) : AX → Bool
 | .t n => memN n ls
 | .c _ => true
def axsIn (ls : List Nat) : List AX → Bool
 | [] => true
 | x :: xs => axIn ls x && axsIn ls xs
def oxIn (ls : List Nat) : Option AX → Bool
 | none => true
 | some x => axIn ls x
def bpIn (ls : List Nat) : List (Nat × Nat × AX) → Bool
 | [] => true
 | (_, _, x) :: ps => axIn ls x && bpIn ls ps
def lpIn (ls : List Nat) : List (Nat × AX) → Bool
 | [] => true
 | (_, x) :: ps => axIn ls x && lpIn ls ps
def aoIn (ls : List Nat) : AO → Bool
 | .mv x | .box _ x | .ld _ x | .nilc _ x | .un _ x | .cvt _ x | .mki _ x | .fad _ x | .fld _ _ x | .ext x _ | .asrt _ _ _ _ x | .len _ x | .clr _ _ x | .nilS _ x | .nilI _ x | .b2s x | .slp _ _ _ x => axIn ls x
 | .pick c a b | .addc c a b => axIn ls c && (axIn ls a && axIn ls b)
 | .mx4 a b c d => axIn ls a && (axIn ls b && (axIn ls c && axIn ls d))
 | .alloc .. | .mka .. | .mkm | .bad => true
 | .build _ ps => bpIn ls ps
 | .lit _ _ _ _ ps => lpIn ls ps
 | .st _ a v | .bin _ _ a v | .idx _ _ a v | .idxs a v | .app _ _ _ _ a v | .apps _ _ a v | .idxp _ _ _ a v | .mnmx _ a v | .mget _ a v => axIn ls a && axIn ls v
 | .mkf _ a b => axsIn ls a && axsIn ls b
 | .mks _ _ _ _ a b => axIn ls a && axIn ls b
 | .slc _ x lo hi => axIn ls x && (oxIn ls lo && oxIn ls hi)
 | .slc3 _ a b c d => axIn ls a && (axIn ls b && (axIn ls c && axIn ls d))
 | .call _ as => axsIn ls as
 | .callv x as | .inv _ x as => axIn ls x && axsIn ls as
 | .mset x i v => axIn ls x && (axIn ls i && axIn ls v)
theorem axIn_ev {ls : List Nat} {x : AX} (h : axIn ls x = true) (fr : List AV) : ev (maskL ls 0 fr) x = ev fr x := by
 cases x with
 | c v => rfl
 | t n =>
  simp only [axIn, memN_eq] at h
  simp only [ev, getL_eq, maskL_get, Nat.zero_add, h, if_true]
  cases fr[n]? <;> rfl
theorem axsIn_ev {ls : List Nat} (fr : List AV) : ∀ {xs : List AX}, axsIn ls xs = true → evs (maskL ls 0 fr) xs = evs fr xs
 | [], _ => rfl
 | x :: xs, h => by
  simp only [axsIn, Bool.and_eq_true] at h
  simp only [evs, axIn_ev h.1, axsIn_ev fr h.2]
theorem bpIn_ev {ls : List Nat} (fr : List AV) : ∀ {ps : List (Nat × Nat × AX)} (z : List AV), bpIn ls ps = true → buildA (maskL ls 0 fr) z ps = buildA fr z ps
 | [], _, _ => by simp only [buildA]
 | (o, n, x) :: ps, z, h => by
  simp only [bpIn, Bool.and_eq_true] at h
  simp only [buildA, axIn_ev h.1]
  split
  ·cases splL z o (cellsOf (ev fr x)) with
   | none => rfl
   | some z' => exact bpIn_ev fr z' h.2
  ·rfl
theorem lpIn_ev {ls : List Nat} (fr : List AV) (sz : Nat) : ∀ {ps : List (Nat × AX)} (rows : List (List AV)), lpIn ls ps = true → litA (maskL ls 0 fr) sz rows ps = litA fr sz rows ps
 | [], _, _ => by simp only [litA]
 | (i, x) :: ps, rows, h => by
  simp only [lpIn, Bool.and_eq_true] at h
  simp only [litA, axIn_ev h.1]
  split
  ·exact lpIn_ev fr sz _ h.2
  ·rfl
theorem oxIn_ev {ls : List Nat} (fr : List AV) {x : Option AX} (h : oxIn ls x = true) : bndA (maskL ls 0 fr) x = bndA fr x := by
 cases x with
 | none => rfl
 | some x => simp only [bndA, axIn_ev (x := x) h]
theorem aoIn_exec {A : Ar} {σr : RowF} {ls : List Nat} {fr : List AV} {H : List ABlk} {o : AO} (h : aoIn ls o = true) : exec1 A σr (maskL ls 0 fr) H o = exec1 A σr fr H o := by
 cases o with
 | pick c a b =>
  simp only [aoIn, Bool.and_eq_true] at h
  have e : ∀ s : Bool, ev (maskL ls 0 fr) (if s = true then a else b) = ev fr (if s = true then a else b) := fun s => by cases s <;> simp [axIn_ev h.2.1, axIn_ev h.2.2]
  simp only [exec1, axIn_ev h.1, axIn_ev h.2.1, axIn_ev h.2.2, e]
 | _ =>
  simp only [aoIn, Bool.and_eq_true] at h
  first
   | rfl
   | simp only [exec1, axIn_ev h]
   | simp only [exec1, axIn_ev h.1, axIn_ev h.2]
   | simp only [exec1, axIn_ev h.1, axIn_ev h.2.1, axIn_ev h.2.2.1, axIn_ev h.2.2.2]
   | simp only [exec1, axIn_ev h.1, axIn_ev h.2.1, axIn_ev h.2.2]
   | simp only [exec1, axsIn_ev fr h]
   | simp only [exec1, axIn_ev h.1, axsIn_ev fr h.2]
   | simp only [exec1, axsIn_ev fr h.1, axsIn_ev fr h.2]
   | simp only [exec1, bpIn_ev fr _ h]
   | simp only [exec1, lpIn_ev fr _ _ h]
   | simp only [exec1, axIn_ev h.1, oxIn_ev fr h.2.1, oxIn_ev fr h.2.2]
def grdIn (ls : List Nat) : Option (Option Nat × Bool) → Bool
 | some (some t, _) => memN t ls
 | _ => true
theorem grdIn_gst {ls : List Nat} {g : Option (Option Nat × Bool)} (h : grdIn ls g = true) (fr : List AV) : gst (maskL ls 0 fr) g = gst fr g := by
 cases g with
 | none => rfl
 | some g =>
  obtain ⟨t, w⟩ := g
  cases t with
  | none => rfl
  | some t => simp only [gst, axIn_ev (x := .t t) (ls := ls) h]
def quietK : AO → Bool
 | .call .. | .callv .. | .inv .. => false
 | o => mvK o
theorem quietK_mv {o : AO} (h : quietK o = true) : mvK o = true := by
 cases o <;> first | exact h | rfl
def pickS (l : List AOp) (listed : List Bool) : List Nat → Option (Nat × AOp)
 | [] => none
 | i :: is => match getL l i with
  | some o => match quietK o.op && (freeG o i listed 0 l && (aoIn o.looks o.op && grdIn o.looks o.guard)) with
   | true => some (i, o)
   | false => pickS l listed is
  | none => none
def loneS (l : List AOp) : List Nat → Option (Nat × AOp)
 | [i] => match getL l i with
  | some o => match aoIn o.looks o.op && grdIn o.looks o.guard with
   | true => some (i, o)
   | false => none
  | none => none
 | _ => none
def planS (l : List AOp) : Nat → List Bool → Option (List (AOp × Bool × Bool))
 | 0, listed => match rdyG listed 0 l with
  | [] => some []
  | _ => none
 | n + 1, listed => match rdyG listed 0 l with
  | [] => some []
  | rs => match pickS l listed rs with
   | some (i, o) => match planS l n (setL listed i true) with
    | some p => some ((o, true, match rs with | [_] => true | _ => false) :: p)
    | none => none
   | none => match loneS l rs with
    | some (i, o) => match planS l n (setL listed i true) with
     | some p => some ((o, false, frB l i) :: p)
     | none => none
    | none => none
section
variable (call : FuncId → List AV → List ABlk → Option (AV × List ABlk))
def opC (fr : List AV) (H : List ABlk) (o : AO) : Option (AV × List ABlk) :=
 match outC (exec1 arS sgX fr H o) with
 | .ok v H' => some (uns v, H')
 | .call f args => match call f args H with
  | some (r, H') => some (uns r, H')
  | none => none
 | .bad => none
def keepZ (z : Bool) (bs : List Bool) (H H' : List ABlk) : Bool :=
 match z with
 | true => Nat.ble (lenL bs) (lenL H')
 | false => keepB bs H H'
def runS (bs : List Bool) : List ABlk → List (AOp × Bool × Bool) → List AV → List ABlk → Option (List AV × List ABlk)
 | _, [], fr, H => some (fr, H)
 | HB, (o, true, z) :: p, fr, H => match gst fr o.guard with
  | .no => runS bs HB p (putL fr o.dst (.tup [])) H
  | .yes => match outC (exec1 arS sgX fr HB o.op) with
   | .ok v _ => runS bs HB p (putL fr o.dst (uns v)) H
   | _ => match z, opC call fr H o.op with
    | true, some (v, H') => match keepB bs H H' with
     | true => runS bs HB p (putL fr o.dst v) H'
     | false => none
    | _, _ => none
  | _ => none
 | HB, (o, false, z) :: p, fr, H => match gst fr o.guard with
  | .no => runS bs HB p (putL fr o.dst (.tup [])) H
  | .yes => match opC call fr H o.op with
   | some (v, H') => match keepZ z bs H H' with
    | true => runS bs (match z with | true => hideL bs H' | false => HB) p (putL fr o.dst v) H'
    | false => none
   | none => none
  | _ => none
end
def resC (fr : List AV) (H : List ABlk) (res : List RV) : Option (AV × List ABlk) :=
 match outC (resA arS sgX fr H res []) with
 | .ok v H' => some (v, H')
 | _ => none
section
variable {P : Program} {l : List AOp} {bs : List Bool} {Fin : List AV → List ABlk → Prop} {call : FuncId → List AV → List ABlk → Option (AV × List ABlk)}
theorem uns_sym (v : AV) : uns (sym v) = uns v := by cases v <;> rfl
theorem put_uns {Q : List AV → Prop} (hQ : ∀ fr t b, fr[t]? = some (.sb b) → Q (fr.set t (.bool b)) → Q fr) (fr : List AV) (d : Option Nat) (v : AV) (h : Q (putL fr d (uns v))) : Q (putL fr d v) := by
 cases d with
 | none => exact h
 | some d =>
  simp only [putL, setL_eq] at h ⊢
  cases v <;> try exact h
  rename_i b
  by_cases hd : d < fr.length
  ·refine hQ _ d b (by simp [hd]) ?_
   rw [List.set_set]
   exact h
  ·rw [List.set_eq_of_length_le (by omega)] at h ⊢
   exact h
theorem outC_mv {o : Out} {v : AV} {H : List ABlk} (h : outC o = .ok v H) : mvS arS (CallsA P) o v := by
 induction o with
 | ok v0 H0 => simp only [outC, OC.ok.injEq] at h; exact h.1
 | need p o ih =>
  simp only [outC] at h
  split at h
  ·rename_i hp; exact ⟨Cnd.chk_holds hp, ih h⟩
  ·cases h
 | br b k ih => simp only [outC] at h; simp only [mvS]; exact ih b h
 | nilq => simp [outC] at h
 | call f args => simp [outC] at h
 | ask p k => simp [outC] at h
 | bad => simp [outC] at h
def CallOk (P : Program) (call : FuncId → List AV → List ABlk → Option (AV × List ABlk)) : Prop := ∀ f args H r H', call f args H = some (r, H') → CallsA P f args H fun r0 H0 => r0 = r ∧ H0 = H'
theorem opC_sound (hc : CallOk P call) {fr : List AV} {H : List ABlk} {o : AO} {v : AV} {H' : List ABlk} (h : opC call fr H o = some (v, H')) {K : AV → List ABlk → Prop} (hk : ∀ v0, uns v0 = v → K v0 H') : sat arS P H (exec1 arS sgX fr H o) K := by
 unfold opC at h
 split at h
 ·rename_i v0 H0 hx
  simp only [Option.some.injEq, Prod.mk.injEq] at h
  obtain ⟨rfl, rfl⟩ := h
  exact outC_ok hx (hk _ rfl)
 ·rename_i f args hx
  split at h
  ·rename_i r H0 hcl
   simp only [Option.some.injEq, Prod.mk.injEq] at h
   obtain ⟨rfl, rfl⟩ := h
   refine outC_call hx ((hc f args H r _ hcl).mono fun r0 H0 ⟨e1, e2⟩ => ?_)
   subst e1 e2
   exact hk _ (uns_sym _)
  ·cases h
 ·cases h
theorem hide_keep : ∀ {bs : List Bool} {H H' : List ABlk}, keepP bs H H' → hideL bs H' = hideL bs H
 | [], H, H', _ => by cases H <;> cases H' <;> rfl
 | true :: bs, [], _, h => h.elim
 | true :: bs, _ :: _, [], h => h.elim
 | false :: bs, [], _, h => h.elim
 | false :: bs, _ :: _, [], h => h.elim
 | true :: bs, x :: H, y :: H', h => by simp only [hideL, h.1, hide_keep h.2]
 | false :: bs, x :: H, y :: H', h => by simp only [hideL, hide_keep (bs := bs) h]
theorem pickS_sound {listed : List Bool} {i : Nat} {o : AOp} : ∀ {rs : List Nat}, pickS l listed rs = some (i, o) → i ∈ rs ∧ l[i]? = some o ∧ quietK o.op = true ∧ freeG o i listed 0 l = true ∧ aoIn o.looks o.op = true ∧ grdIn o.looks o.guard = true
 | [], h => by simp [pickS] at h
 | j :: is, h => by
  simp only [pickS, getL_eq] at h
  split at h
  ·rename_i o1 ho
   split at h
   ·rename_i hc
    simp only [Option.some.injEq, Prod.mk.injEq] at h
    obtain ⟨rfl, rfl⟩ := h
    simp only [Bool.and_eq_true] at hc
    exact ⟨by simp, ho, hc.1, hc.2.1, hc.2.2.1, hc.2.2.2⟩
   ·obtain ⟨h1, h2⟩ := pickS_sound h
    exact ⟨by simp [h1], h2⟩
  ·cases h
theorem loneS_sound {i : Nat} {o : AOp} {rs : List Nat} (h : loneS l rs = some (i, o)) : rs = [i] ∧ l[i]? = some o ∧ aoIn o.looks o.op = true ∧ grdIn o.looks o.guard = true := by
 unfold loneS at h
 split at h
 ·simp only [getL_eq] at h
  split at h
  ·rename_i o1 ho
   split at h
   ·rename_i hc
    simp only [Option.some.injEq, Prod.mk.injEq] at h
    obtain ⟨rfl, rfl⟩ := h
    simp only [Bool.and_eq_true] at hc
    exact ⟨rfl, ho, hc.1, hc.2⟩
   ·cases h
  ·cases h
 ·cases h
theorem runS_sound (hc : CallOk P call) (hFin : ∀ fr H t b, fr[t]? = some (.sb b) → Fin (fr.set t (.bool b)) H → Fin fr H) : ∀ (n : Nat) (listed : List Bool) (HB : List ABlk) (p : List (AOp × Bool × Bool)) (fr : List AV) (H : List ABlk) (fr' : List AV) (H' : List ABlk), planS l n listed = some p → keepP bs H H → hideL bs H = HB → runS call bs HB p fr H = some (fr', H') → Fin fr' H' → DrawA P l bs Fin n listed fr H := by
 intro n
 induction n with
 | zero =>
  intro listed HB p fr H fr' H' hp hk hh h hf
  simp only [planS] at hp
  split at hp
  ·rename_i hr
   simp only [Option.some.injEq] at hp
   subst hp
   simp only [runS, Option.some.injEq, Prod.mk.injEq] at h
   obtain ⟨rfl, rfl⟩ := h
   exact DrawA.done hr hf
  ·cases hp
 | succ n ih =>
  intro listed HB p fr H fr' H' hp hk hh h hf
  simp only [planS] at hp
  have known : ∀ (listed : List Bool) (H : List ABlk) fr t b, fr[t]? = some (.sb b) → DrawA P l bs Fin n listed (fr.set t (.bool b)) H → DrawA P l bs Fin n listed fr H := fun listed H fr t b hb h => DrawA.known hFin hb h
  split at hp
  ·rename_i hr
   simp only [Option.some.injEq] at hp
   subst hp
   simp only [runS, Option.some.injEq, Prod.mk.injEq] at h
   obtain ⟨rfl, rfl⟩ := h
   exact DrawA.done hr hf
  ·rename_i hne
   split at hp
   ·rename_i i o hq
    obtain ⟨q1, q2, q3, q4, q5, q6⟩ := pickS_sound hq
    split at hp
    ·rename_i p1 hp1
     simp only [Option.some.injEq] at hp
     subst hp
     rw [setL_eq] at hp1
     simp only [runS] at h
     split at h
     ·rename_i hg
      rw [← grdIn_gst q6] at hg
      exact DrawA.mv (σr := sgX) q2 q1 q4 hk (v := .tup []) (.inr ⟨gst_no hg, rfl⟩) (ih _ _ _ _ _ _ _ hp1 hk hh h hf)
     ·rename_i hg
      rw [← grdIn_gst q6] at hg
      split at h
      ·rename_i v1 H1 hx
       rw [← aoIn_exec q5, ← hh] at hx
       refine DrawA.mv (σr := sgX) q2 q1 q4 hk (v := v1) (.inl ⟨gst_yes hg, quietK_mv q3, outC_mv hx⟩) ?_
       refine put_uns (Q := fun fr => DrawA P l bs Fin n (listed.set i true) fr H) (known _ H) fr o.dst v1 ?_
       exact ih _ _ _ _ _ _ _ hp1 hk hh h hf
      ·split at h
       ·rename_i v H2 hz hx
        split at h
        ·rename_i hkb
         have hkk := keepB_keep hkb
         have hrs : rdyG listed 0 l = [i] := by
          split at hz
          ·rename_i x hr
           rw [hr] at q1
           rw [hr, List.mem_singleton.1 q1]
          ·cases hz
         refine DrawA.all (σr := sgX) (fun e => hne e) fun i' hi o' ho => ?_
         rw [hrs] at hi
         simp only [List.mem_singleton] at hi
         subst hi
         rw [q2] at ho
         simp only [Option.some.injEq] at ho
         subst ho
         refine .inl ⟨gst_yes hg, ?_⟩
         rw [aoIn_exec q5]
         refine opC_sound hc hx fun v0 hv => ⟨hkk, ?_⟩
         refine put_uns (Q := fun fr => DrawA P l bs Fin n (listed.set i' true) fr H2) (known _ H2) fr o.dst v0 ?_
         rw [hv]
         exact ih _ _ _ _ _ _ _ hp1 (keepP_right hkk) ((hide_keep hkk).trans hh) h hf
        ·cases h
       ·cases h
     ·cases h
    ·cases hp
   ·split at hp
    ·rename_i i o hq
     obtain ⟨q1, q2, q5, q6⟩ := loneS_sound hq
     split at hp
     ·rename_i p1 hp1
      simp only [Option.some.injEq] at hp
      subst hp
      rw [setL_eq] at hp1
      refine DrawA.allL (σr := sgX) (fun e => hne e) fun i' hi o' ho => ?_
      rw [q1] at hi
      simp only [List.mem_singleton] at hi
      subst hi
      rw [q2] at ho
      simp only [Option.some.injEq] at ho
      subst ho
      simp only [runS] at h
      split at h
      ·rename_i hg
       rw [← grdIn_gst q6] at hg
       exact .inr ⟨gst_no hg, hk, ih _ _ _ _ _ _ _ hp1 hk hh h hf⟩
      ·rename_i hg
       rw [← grdIn_gst q6] at hg
       split at h
       ·rename_i v H2 hx
        split at h
        ·rename_i hkb
         refine .inl ⟨gst_yes hg, ?_⟩
         rw [aoIn_exec q5]
         unfold keepZ at hkb
         split at hkb
         ·rename_i hz
          have hkk : keepP bs H2 H2 := keepP_refl _ _ (by have := Nat.ble_eq.mp hkb; rwa [lenL_eq, lenL_eq] at this)
          refine opC_sound hc hx fun v0 hv => ⟨.inl ⟨hz, hkk⟩, ?_⟩
          refine put_uns (Q := fun fr => DrawA P l bs Fin n (listed.set i' true) fr H2) (known _ H2) fr o.dst v0 ?_
          rw [hv]
          simp only [hz] at h
          exact ih _ _ _ _ _ _ _ hp1 hkk rfl h hf
         ·rename_i hz
          have hkk := keepB_keep hkb
          refine opC_sound hc hx fun v0 hv => ⟨.inr hkk, ?_⟩
          refine put_uns (Q := fun fr => DrawA P l bs Fin n (listed.set i' true) fr H2) (known _ H2) fr o.dst v0 ?_
          rw [hv]
          simp only [hz] at h
          exact ih _ _ _ _ _ _ _ hp1 (keepP_right hkk) ((hide_keep hkk).trans hh) h hf
        ·cases h
       ·cases h
      ·cases h
     ·cases hp
    ·cases hp
theorem resC_sound {fn : Func} {F : AFn} (hres : fn.results.toList.mapM (rvOf P) = some F.res) {fr : List AV} {H : List ABlk} {r : AV} {H' : List ABlk} (h : resC fr H F.res = some (r, H')) : sat arS P H (resA arS sgX fr H F.res []) fun r0 H0 => r0 = r ∧ H0 = H' := by
 unfold resC at h
 split at h
 ·rename_i v H0 hx
  simp only [Option.some.injEq, Prod.mk.injEq] at h
  obtain ⟨rfl, rfl⟩ := h
  exact outC_ok hx ⟨rfl, rfl⟩
 ·cases h
end
end Go.Ab
namespace Go.Ab
open Go
set_option linter.unusedVariables false
set_option linter.unusedSimpArgs false
def isB (b : Bool) : Option (AV × List ABlk) → Bool
 | some (.bool b', _) => b == b'
 | some (.sb b', _) => b == b'
 | _ => false
theorem CallsA.bool {P : Program} {f : FuncId} {args : List AV} {H : List ABlk} {b : Bool} (h : CallsA P f args H (fun r _ => r = .sb b)) : CallsA P f args H (fun r _ => r = .bool b) :=
 CallsA.ent (h.mono fun r H' he => ⟨.bool b, H', Ent.sub ⟨fun S T S' T' v hc hv => by subst he; simpa only [rel] using hv, trivial⟩, rfl⟩)
theorem EC.law {P : Program} {f : FuncId} {args : List S1} {rs : Rs} {vs : List Lf} (h : EC P ⟨f, args, [], [⟨false, ⟨[(0, .sb)], []⟩⟩]⟩ rs vs fun x rs vs => x = 0 ∧ vs = [.b true]) (hp : puAll rs) {w : World} {vals : List Value} (hr : rels (RS.start w) (bldC arS args [] rs vs).1 noSh vals) (hg : GvOk w := by intro _ _ _ h; cases h) :
  Calls P f vals.toArray w fun e w' => e = .returned (.bool true) ∧ Go.RowKit.Below w.heap.size w w' := by
 have h1 := h hp
 refine CallsA.law (args := (bldC arS args [] rs vs).1) (b := true) ?_ hr hg
 have e2 : (bldC arS args [] rs vs).2 = [] := rfl
 simp only [e2] at h1
 refine CallsA.bool (h1.mono fun r H ⟨x, ex, rs', vs', h2, _, h3, h4, _⟩ => ?_)
 obtain ⟨rfl, rfl⟩ := h3
 simp only [getL, Option.some.injEq] at h2
 subst h2
 simp only [bldX, bldS, bldF, lenL, repL, bld, setL, Prod.mk.injEq] at h4
 exact h4.1.symm
end Go.Ab

namespace Go.Ab
open Go
set_option linter.unusedVariables false
set_option linter.unusedSimpArgs false
end Go.Ab
