/- The evaluator by shapes, and that it is right. -/
import Derived.Test.YtdmpiondalhonaaAbZ6
namespace Go.Ab
open Go
set_option linter.unusedVariables false
set_option linter.unusedSimpArgs false

def annOf (m k : Nat) : List Ann → Option Ann
  | [] => none
  | a :: l => match Nat.beq a.m m && Nat.beq a.k k with
    | true => some a
    | false => annOf m k l
def frzAnn (A : Ar) (n0 : Nat) (a : Option Ann) (fr : List AV) (H : List ABlk) (k : List AV → List ABlk → Prop) : Prop :=
  match a with
  | none => k fr H
  | some a => frzTs A n0 a.ts (maskL a.live 0 fr) H k

/-- Where evaluation stops within a region: an annotation that freezes nothing. -/
def cutOf (m k : Nat) (l : List Ann) : Bool :=
  match annOf m k l with
  | some a => match a.ts with
    | [] => true
    | _ => false
  | none => false
def dropAnn (m k : Nat) : List Ann → List Ann
  | [] => []
  | a :: l => match Nat.beq a.m m && Nat.beq a.k k with
    | true => dropAnn m k l
    | false => a :: dropAnn m k l

theorem frzAnn_sound {n0 : Nat} {a : Option Ann} {fr : List AV} {H : List ABlk} {k : List AV → List ABlk → Prop} (h : frzAnn arS n0 a fr H k) : ∃ fr' H', k fr' H' ∧ Ent n0 fr H fr' H' := by
  cases a with
  | none => exact ⟨fr, H, h, Ent.refl _ _ _⟩
  | some a =>
    obtain ⟨fr', H', h1, h2⟩ := frzTs_sound _ _ _ _ h
    exact ⟨fr', H', h1, (Ent.sub (maskL_imps _ 0 fr)).trans h2⟩

def stopOf (chk : Bool) (m : Nat) : List Stop → Option Stop
  | [] => none
  | s :: l => match chk && Nat.beq s.n m with
    | true => some s
    | false => stopOf chk m l
def eqIs : List AItem → List AItem → Bool
  | [], [] => true
  | .c n :: K, .c n' :: K' => Nat.beq n n' && eqIs K K'
  | .ops n k :: K, .ops n' k' :: K' => Nat.beq n n' && (Nat.beq k k' && eqIs K K')
  | .blk n :: K, .blk n' :: K' => Nat.beq n n' && eqIs K K'
  | .lp n :: K, .lp n' :: K' => Nat.beq n n' && eqIs K K'
  | _, _ => false
theorem eqIs_eq : ∀ {K K' : List AItem}, eqIs K K' = true → K = K'
  | [], [], _ => rfl
  | .c n :: K, .c n' :: K', h => by simp only [eqIs, Bool.and_eq_true] at h; rw [Nat.eq_of_beq_eq_true h.1, eqIs_eq h.2]
  | .ops n k :: K, .ops n' k' :: K', h => by simp only [eqIs, Bool.and_eq_true] at h; rw [Nat.eq_of_beq_eq_true h.1, Nat.eq_of_beq_eq_true h.2.1, eqIs_eq h.2.2]
  | .blk n :: K, .blk n' :: K', h => by simp only [eqIs, Bool.and_eq_true] at h; rw [Nat.eq_of_beq_eq_true h.1, eqIs_eq h.2]
  | .lp n :: K, .lp n' :: K', h => by simp only [eqIs, Bool.and_eq_true] at h; rw [Nat.eq_of_beq_eq_true h.1, eqIs_eq h.2]
  | [], .c _ :: _, h => by cases h
  | [], .ops _ _ :: _, h => by cases h
  | [], .blk _ :: _, h => by cases h
  | [], .lp _ :: _, h => by cases h
  | .c _ :: _, [], h => by cases h
  | .c _ :: _, .ops _ _ :: _, h => by cases h
  | .c _ :: _, .blk _ :: _, h => by cases h
  | .c _ :: _, .lp _ :: _, h => by cases h
  | .ops _ _ :: _, [], h => by cases h
  | .ops _ _ :: _, .c _ :: _, h => by cases h
  | .ops _ _ :: _, .blk _ :: _, h => by cases h
  | .ops _ _ :: _, .lp _ :: _, h => by cases h
  | .blk _ :: _, [], h => by cases h
  | .blk _ :: _, .c _ :: _, h => by cases h
  | .blk _ :: _, .ops _ _ :: _, h => by cases h
  | .blk _ :: _, .lp _ :: _, h => by cases h
  | .lp _ :: _, [], h => by cases h
  | .lp _ :: _, .c _ :: _, h => by cases h
  | .lp _ :: _, .ops _ _ :: _, h => by cases h
  | .lp _ :: _, .blk _ :: _, h => by cases h

theorem stopOf_mem {chk : Bool} {m : Nat} {s : Stop} : ∀ {l : List Stop}, stopOf chk m l = some s → s ∈ l ∧ s.n = m
  | [], h => by cases h
  | s0 :: l, h => by
    simp only [stopOf] at h
    split at h
    · rename_i hb
      simp only [Option.some.injEq] at h
      subst h
      simp only [Bool.and_eq_true] at hb
      exact ⟨by simp, Nat.eq_of_beq_eq_true hb.2⟩
    · obtain ⟨h1, h2⟩ := stopOf_mem h
      exact ⟨by simp [h1], h2⟩

def bsOf (m : Nat) (H : List ABlk) : List (Nat × List Bool) → List Bool
  | [] => H.map fun _ => true
  | (m', bs) :: l => match Nat.beq m m' with
    | true => bs
    | false => bsOf m H l

/-- The functions whose calls write nothing, and hand out no blocks. -/
def qfOf : List Sig → List Nat
  | [] => []
  | g :: l => match g.hp, g.exits with
    | [], [⟨_, ⟨_, []⟩⟩] => g.f :: qfOf l
    | _, _ => qfOf l

/-- What is left to do behind a call. -/
structure Cont where
  m : Nat
  k : Nat
  K : List AItem
  dst : Option Nat
  fr : List AV
  β : List Nat
  H : List ABlk

section
variable (A : Ar) (σr : RowF) (sigs : List Sig) (CE : Nat → Rs → List Lf → (Nat → Rs → List Lf → Prop) → Prop) (CK : Nat → Rs → List Lf → Cont → Prop) (Dn : Nat → List Bool → List AItem → Nat → List Bool → List AV → List ABlk → Prop) (EV : Nat → Rs → List Lf → Prop) (RR : Nat → Rs → List Lf → Prop)
  (tab : List Node) (res : List RV) (stops : List Stop) (anns : List Ann) (drw : List (Nat × List Bool)) (exits : List Exit) (n0 nt : Nat)

def callK (m k : Nat) (K : List AItem) (dst : Option Nat) (fr : List AV) (H : List ABlk) (f : FuncId) (args : List AV) : Prop :=
  match findSig f args 0 sigs with
  | some (i, g) => mtC A g.args g.hp args H fun β rs vs => CK i rs vs ⟨m, k, K, dst, fr, β, H⟩
  | none => False

def yesS (m k : Nat) (K : List AItem) (o : AOp) (cont : List AV → List ABlk → Prop) (fr : List AV) (H : List ABlk) : Prop :=
  match pickOf fr o.op with
  | some (t, b, va, vb) => A.im b true (cont (putL (setL fr t (.bool true)) o.dst va) H) ∧ A.im b false (cont (putL (setL fr t (.bool false)) o.dst vb) H)
  | none => match exec1 A σr fr H o.op with
    | .ok v H' => cont (putL fr o.dst v) H'
    | .need p (.ok v H') => A.nd p ∧ cont (putL fr o.dst v) H'
    | .need p (.need p2 (.ok v H')) => A.nd p ∧ A.nd p2 ∧ cont (putL fr o.dst v) H'
    | .nilq neg n H' => A.im (A.cmp .eql (A.ofN n) 0) true (cont (putL fr o.dst (.bool (!neg))) H') ∧ cont (putL fr o.dst (.bool neg)) H'
    | .need p (.nilq neg n H') => A.nd p ∧ A.im (A.cmp .eql (A.ofN n) 0) true (cont (putL fr o.dst (.bool (!neg))) H') ∧ cont (putL fr o.dst (.bool neg)) H'
    | .call f args => callK A sigs CK m k K o.dst fr H f (unsL args)
    | .need p (.call f args) => A.nd p ∧ callK A sigs CK m k K o.dst fr H f (unsL args)
    | _ => False

def opsS (m : Nat) (K : List AItem) (fin : List AV → List ABlk → Prop) : List AOp → Nat → List AV → List ABlk → Prop
  | [], _, fr, H => fin fr H
  | o :: os, k, fr, H => match cutOf m k anns with
    | true => Dn m [] K k [] fr H
    | false => frzAnn A n0 (annOf m k anns) fr H fun fr H =>
    match gst fr o.guard with
    | .yes => yesS A σr sigs CK m k K o (fun fr H => opsS m K fin os (k + 1) fr H) fr H
    | .no => opsS m K fin os (k + 1) (putL fr o.dst (.tup [])) H
    | .sym t b true => A.im b true (yesS A σr sigs CK m k K o (fun fr H => opsS m K fin os (k + 1) fr H) (setL fr t (.bool true)) H) ∧ A.im b false (opsS m K fin os (k + 1) (putL (setL fr t (.bool false)) o.dst (.tup [])) H)
    | .sym t b false => A.im b false (yesS A σr sigs CK m k K o (fun fr H => opsS m K fin os (k + 1) fr H) (setL fr t (.bool false)) H) ∧ A.im b true (opsS m K fin os (k + 1) (putL (setL fr t (.bool true)) o.dst (.tup [])) H)
    | .bad => False

def segP : Nat → Bool → List AItem → List AV → List ABlk → Prop
  | 0, _, _, _, _ => False
  | _ + 1, _, [], fr, H => satC A (callS A sigs CE) H (resA A σr fr H res []) fun v H' => retS A exits n0 RR v H'
  | n + 1, _, .blk _ :: K, fr, H => segP n true K fr H
  | n + 1, _, .lp m :: K, fr, H => segP n true (.c m :: .lp m :: K) fr H
  | n + 1, _, .ops m k :: K, fr, H => match getL tab m with
    | some (.region l false) => opsS A σr sigs CK Dn anns n0 m K (fun fr H => segP n true K fr H) (dropL k l) k fr H
    | _ => False
  | n + 1, chk, .c m :: K, fr, H => match stopOf chk m stops with
    | some s => match eqIs K s.K with
      | true => jump A n0 nt s.st fr H fun rs vs => EV m rs vs
      | false => False
    | none => match getL tab m with
      | some (.seq d) => segP n true (.c (m + 1) :: .c (m + d) :: K) fr H
      | some (.block id) => segP n true (.c (m + 1) :: .blk id :: K) fr H
      | some .loop => segP n true (.c (m + 1) :: .lp (m + 1) :: K) fr H
      | some (.cond x d) => match ev fr x with
        | .bool true => segP n true (.c (m + 1) :: K) fr H
        | .bool false => segP n true (.c (m + d) :: K) fr H
        | .sb b => match x with
          | .t t => A.im b true (segP n true (.c (m + 1) :: K) (setL fr t (.bool true)) H) ∧ A.im b false (segP n true (.c (m + d) :: K) (setL fr t (.bool false)) H)
          | .c _ => False
        | _ => False
      | some (.region l false) => opsS A σr sigs CK Dn anns n0 m K (fun fr H => segP n true K fr H) l 0 fr H
      | some (.region l true) => match Nat.ble (lenL (bsOf m H drw)) (lenL H) with
        | true => drawG A σr (callS A sigs CE) (fun fr H => segP n true K fr H) (Dn m (bsOf m H drw) K) l (bsOf m H drw) (qfOf sigs) (lenL l) (repL (lenL l) false) fr H
        | false => False
      | some (.exit id) => match exitA id K with
        | some K' => segP n true K' fr H
        | none => False
      | some .skip => segP n true K fr H
      | some .ret => satC A (callS A sigs CE) H (resA A σr fr H res []) fun v H' => retS A exits n0 RR v H'
      | _ => False

/-- A stretch within a drawn region. -/
def drwP (m n : Nat) (bs : List Bool) (K : List AItem) (k : Nat) (listed : List Bool) (fr : List AV) (H : List ABlk) : Prop :=
  match getL tab m with
  | some (.region l true) => drawG A σr (callS A sigs CE) (fun fr H => segP A σr sigs CE CK Dn EV RR tab res stops anns drw exits n0 nt n true K fr H) (Dn m bs K) l bs (qfOf sigs) k listed fr H
  | some (.region l false) => opsS A σr sigs CK Dn (dropAnn m k anns) n0 m K (fun fr H => segP A σr sigs CE CK Dn EV RR tab res stops anns drw exits n0 nt n true K fr H) (dropL k l) k fr H
  | _ => False
end

/-- Behind a call. -/
def contS (A : Ar) (exits : List Exit) (c : Cont) (go : List AItem → List AV → List ABlk → Prop) (x : Nat) (rs : Rs) (vs : List Lf) : Prop :=
  match getL exits x with
  | some ex => match bldX A ex rs vs with
    | (r, H0) => go (.ops c.m (c.k + 1) :: c.K) (putL c.fr c.dst (sym (ren (outN c.β (lenL c.H)) r))) (appL (putHs (outN c.β (lenL c.H)) c.β H0 c.H) (newHs (outN c.β (lenL c.H)) c.β H0))
  | none => True

section
variable {P : Program} {fn : Func} {tab : List Node} {H0 : List ABlk} {σr : RowF} {sigs : List Sig} {CE : Nat → Rs → List Lf → (Nat → Rs → List Lf → Prop) → Prop} {CK : Nat → Rs → List Lf → Cont → Prop} {Dn : Nat → List Bool → List AItem → Nat → List Bool → List AV → List ABlk → Prop} {EV RR : Nat → Rs → List Lf → Prop} {res : List RV} {stops : List Stop} {anns : List Ann} {drw : List (Nat × List Bool)} {exits : List Exit} {nt : Nat}

theorem callK_sound {R : AV → List ABlk → Prop} (hCK : ∀ i g rs vs c, sigs[i]? = some g → CK i rs vs c → EC P g rs vs (contS arS g.exits c fun K fr H => Run P fn tab H0 R K fr H)) {m k : Nat} {K : List AItem} {dst : Option Nat} {fr : List AV} {H : List ABlk} {f : FuncId} {args : List AV}
    (h : callK arS sigs CK m k K dst fr H f args) : CallsA P f args H fun r H' => Run P fn tab H0 R (.ops m (k + 1) :: K) (putL fr dst (sym r)) H' := by
  unfold callK at h
  split at h
  · rename_i i g hg
    obtain ⟨_, h1, h2⟩ := findSig_get hg
    obtain ⟨β, rs, vs, g1, g2, g3, g4, g5, g6⟩ := mtC_sound h
    have hE := hCK i g rs vs _ (by simpa using h1) g1 g2
    rw [h2] at hE
    refine (hE.ren β g3 g4 g5 g6 fun r H' ⟨x, ex, rs', vs', _, _, _, _, q5, q6⟩ => ⟨by rw [← g4]; exact q5, q6⟩).mono fun r H'' ⟨r0, Hx, ⟨x, ex, rs', vs', q1, q2, q3, q4, q5, q6⟩, e1, e2⟩ => ?_
    simp only [contS, q1, q4] at q3
    rw [e1, e2]
    rw [appL_eq, lenL_eq] at q3
    exact q3
  · exact h.elim

theorem yesS_sound {R : AV → List ABlk → Prop} (hCK : ∀ i g rs vs c, sigs[i]? = some g → CK i rs vs c → EC P g rs vs (contS arS g.exits c fun K fr H => Run P fn tab H0 R K fr H)) {m k : Nat} {K : List AItem} {l : List AOp} {d : Bool} {o : AOp} {fr : List AV} {H : List ABlk} (ht : tab[m]? = some (.region l d)) (ho : l[k]? = some o) {cont : List AV → List ABlk → Prop}
    (hc : ∀ fr H, cont fr H → Run P fn tab H0 R (.ops m (k + 1) :: K) fr H) (hg : gOk fr o.guard true) (hg2 : ∀ t b c, ev fr (.t t) = .sb b → gOk (setL fr t (.bool c)) o.guard true)
    (h : yesS arS σr sigs CK m k K o cont fr H) : Run P fn tab H0 R (.ops m k :: K) fr H := by
  refine yesG_sound (σr := σr) ht ho hc hg hg2 ?_
  unfold yesS at h
  unfold yesG
  split at h
  · rename_i hp; rw [hp]; exact h
  · rename_i hp
    rw [hp]
    simp only
    split at h
    · rename_i hx; rw [hx]; exact h
    · rename_i hx; rw [hx]; exact h
    · rename_i hx; rw [hx]; exact ⟨h.1, h.2.1, hc _ _ h.2.2⟩
    · rename_i hx; rw [hx]; exact ⟨fun hb => hc _ _ (h.1 hb), hc _ _ h.2⟩
    · rename_i hx; rw [hx]; exact ⟨h.1, fun hb => hc _ _ (h.2.1 hb), hc _ _ h.2.2⟩
    · rename_i hx; rw [hx]; exact callK_sound hCK h
    · rename_i hx; rw [hx]; exact ⟨h.1, callK_sound hCK h.2⟩
    · exact h.elim

theorem opsS_sound {R : AV → List ABlk → Prop} {m : Nat} {K : List AItem} {l : List AOp} {d : Bool} (hD2 : ∀ k fr H, Dn m [] K k [] fr H → Run P fn tab H0 R (.ops m k :: K) fr H) (hCK : ∀ i g rs vs c, sigs[i]? = some g → CK i rs vs c → EC P g rs vs (contS arS g.exits c fun K fr H => Run P fn tab H0 R K fr H)) (ht : tab[m]? = some (.region l d)) {fin : List AV → List ABlk → Prop} (hfin : ∀ fr H, fin fr H → Run P fn tab H0 R K fr H) : ∀ (os : List AOp) (k : Nat) (fr : List AV) (H : List ABlk), os = l.drop k →
    opsS arS σr sigs CK Dn anns H0.length m K fin os k fr H → Run P fn tab H0 R (.ops m k :: K) fr H
  | [], k, fr, H, he, h => Run.opsEnd ht (by have := congrArg List.length he; simp at this; omega) (hfin fr H h)
  | o :: os, k, fr, H, he, h => by
    have ho : l[k]? = some o := by
      have : (l.drop k)[0]? = some o := by rw [← he]; rfl
      simpa using this
    have hos : os = l.drop (k + 1) := by
      have : (l.drop k).drop 1 = os := by rw [← he]; rfl
      rw [← this, List.drop_drop]
    have hc : ∀ fr H, opsS arS σr sigs CK Dn anns H0.length m K fin os (k + 1) fr H → Run P fn tab H0 R (.ops m (k + 1) :: K) fr H := fun fr H h => opsS_sound hD2 hCK ht hfin os (k + 1) fr H hos h
    unfold opsS at h
    split at h
    · exact hD2 _ _ _ h
    obtain ⟨fr, H, h, hent⟩ := frzAnn_sound h
    refine Run.ent hent ?_
    cases hg : gst fr o.guard with
    | yes =>
      rw [hg] at h
      have hgy := gst_yes hg
      refine yesS_sound hCK ht ho hc hgy (fun t b c he => gOk_keep hgy t b c he fun hs => ?_) h
      exfalso
      rcases hs with hs | hs <;> (rw [hs] at hg; simp only [gst, he] at hg; cases hg)
    | no =>
      rw [hg] at h
      exact Run.opSkip ht ho (gst_no hg) (hc _ _ h)
    | sym t b want =>
      rw [hg] at h
      obtain ⟨hsy, hgd⟩ := gst_sym hg
      have hk : ∀ c, gOk (setL fr t (.bool c)) o.guard (c == want) := fun c => by rw [hgd]; exact gOk_set hsy
      have hk2 : ∀ c, gOk (setL fr t (.bool c)) o.guard true → ∀ t' b' c', ev (setL fr t (.bool c)) (.t t') = .sb b' → gOk (setL (setL fr t (.bool c)) t' (.bool c')) o.guard true := fun c hc t' b' c' he => by
        refine gOk_keep hc t' b' c' he fun hs => ?_
        exfalso
        have : t' = t := by rw [hgd] at hs; rcases hs with hs | hs <;> (injection hs with hs; injection hs with hs _; injection hs with hs; exact hs.symm)
        subst this
        rw [ev_set hsy] at he
        cases he
      cases want <;> cases b
      · exact Run.known hsy (yesS_sound hCK ht ho hc (hk false) (hk2 false (hk false)) (h.1 rfl))
      · exact Run.known hsy (Run.opSkip ht ho (hk true) (hc _ _ (h.2 rfl)))
      · exact Run.known hsy (Run.opSkip ht ho (hk false) (hc _ _ (h.2 rfl)))
      · exact Run.known hsy (yesS_sound hCK ht ho hc (hk true) (hk2 true (hk true)) (h.1 rfl))
    | bad => rw [hg] at h; exact h.elim

theorem repL_rep {α : Type} (n : Nat) (x : α) : repL n x = List.replicate n x := repL_eq n x

theorem segP_sound (hm : P.follows .mixedOrders = true) (hrs : fn.results.toList.mapM (rvOf P) = some res) (hCE : ∀ i g rs vs Q, sigs[i]? = some g → CE i rs vs Q → EC P g rs vs Q)
    (hCK : ∀ i g rs vs c, sigs[i]? = some g → CK i rs vs c → EC P g rs vs (contS arS g.exits c fun K fr H => Run P fn tab H0 (RC exits H0.length RR) K fr H))
    (hDn : ∀ m l bs K n li fr H, getL tab m = some (.region l true) → Dn m bs K n li fr H → DrawA P l bs (Run P fn tab H0 (RC exits H0.length RR) K) n li fr H)
    (hD2 : ∀ m l bs K n li fr H, getL tab m = some (.region l false) → Dn m bs K n li fr H → Run P fn tab H0 (RC exits H0.length RR) (.ops m n :: K) fr H)
    (hEV : ∀ m s rs vs, stopOf true m stops = some s → EV m rs vs → puAll rs → Run P fn tab H0 (RC exits H0.length RR) (.c m :: s.K) (bldS arS nt s.st rs vs).1 (bldS arS nt s.st rs vs).2) :
    ∀ (n : Nat) (chk : Bool) (K : List AItem) (fr : List AV) (H : List ABlk), segP arS σr sigs CE CK Dn EV RR tab res stops anns drw exits H0.length nt n chk K fr H → Run P fn tab H0 (RC exits H0.length RR) K fr H
  | 0, _, _, _, _, h => h.elim
  | n + 1, _, [], fr, H, h => Run.fin hrs (satC_sat (satC_callS hCE (fun v H' hv => retS_sound hv) h))
  | n + 1, _, .blk _ :: K, fr, H, h => Run.blk (segP_sound hm hrs hCE hCK hDn hD2 hEV n true K fr H h)
  | n + 1, _, .lp m :: K, fr, H, h => Run.lp (segP_sound hm hrs hCE hCK hDn hD2 hEV n true _ fr H h)
  | n + 1, _, .ops m k :: K, fr, H, h => by
    simp only [segP, getL_eq] at h
    split at h
    · rename_i l ht
      exact opsS_sound (fun k fr H hd => hD2 m l _ _ k _ fr H (by rw [getL_eq]; exact ht) hd) hCK ht (fun fr H => segP_sound hm hrs hCE hCK hDn hD2 hEV n true K fr H) _ k fr H (dropL_eq k l) h
    · exact h.elim
  | n + 1, chk, .c m :: K, fr, H, h => by
    unfold segP at h
    split at h
    · rename_i s hs
      split at h
      · rename_i hk
        have hK := eqIs_eq hk
        obtain ⟨rs, vs, h1, h2, h3, _⟩ := jump_sound h
        refine Run.ent h3 ?_
        have hs' : stopOf true m stops = some s := by
          cases chk with
          | true => exact hs
          | false =>
            have : ∀ l : List Stop, stopOf false m l = none := by
              intro l
              induction l with
              | nil => rfl
              | cons x l ih => simpa [stopOf] using ih
            rw [this] at hs
            cases hs
        have := hEV m s rs vs hs' h1 h2
        rw [← hK] at this
        exact this
      · exact h.elim
    simp only [getL_eq] at h
    split at h
    · rename_i d ht
      exact Run.seq ht (segP_sound hm hrs hCE hCK hDn hD2 hEV n true _ fr H h)
    · rename_i id ht
      exact Run.block ht (segP_sound hm hrs hCE hCK hDn hD2 hEV n true _ fr H h)
    · rename_i ht
      exact Run.loop ht (segP_sound hm hrs hCE hCK hDn hD2 hEV n true _ fr H h)
    · rename_i x d ht
      split at h
      · rename_i hx
        exact Run.cond (t := true) ht (.inl hx) (segP_sound hm hrs hCE hCK hDn hD2 hEV n true _ fr H h)
      · rename_i hx
        exact Run.cond (t := false) ht (.inl hx) (segP_sound hm hrs hCE hCK hDn hD2 hEV n true _ fr H h)
      · rename_i b hx
        split at h
        · rename_i t
          cases b
          · exact Run.cond (t := false) ht (.inr hx) (Run.known hx (segP_sound hm hrs hCE hCK hDn hD2 hEV n true _ _ H (h.2 rfl)))
          · exact Run.cond (t := true) ht (.inr hx) (Run.known hx (segP_sound hm hrs hCE hCK hDn hD2 hEV n true _ _ H (h.1 rfl)))
        · exact h.elim
      · exact h.elim
    · rename_i l ht
      exact Run.region ht (opsS_sound (fun k fr H hd => hD2 m l _ _ k _ fr H (by rw [getL_eq]; exact ht) hd) hCK ht (fun fr H => segP_sound hm hrs hCE hCK hDn hD2 hEV n true K fr H) l 0 fr H rfl h)
    · rename_i l ht
      split at h
      · rename_i hb
        have hb := Nat.ble_eq.mp hb
        rw [lenL_eq, lenL_eq] at hb
        refine Run.draw hm ht (bsOf m H drw) ?_
        rw [repL_eq, lenL_eq] at h
        exact drawG_sound (fun fr H t b => Run.knownSet) _ _ _ _ (keepP_refl _ H hb) (drawG_mono hCE (fun fr H => segP_sound hm hrs hCE hCK hDn hD2 hEV n true K fr H) (fun n li fr H _ hd => hDn m l _ _ n li fr H (by rw [getL_eq]; exact ht) hd) _ _ _ _ (keepP_refl _ H hb) h)
      · exact h.elim
    · rename_i id ht
      split at h
      · rename_i K' he
        exact Run.exit ht he (segP_sound hm hrs hCE hCK hDn hD2 hEV n true K' fr H h)
      · exact h.elim
    · rename_i ht
      exact Run.skip ht (segP_sound hm hrs hCE hCK hDn hD2 hEV n true K fr H h)
    · rename_i ht
      exact Run.ret ht hrs (satC_sat (satC_callS hCE (fun v H' hv => retS_sound hv) h))
    · exact h.elim
end

/-- All that is known of a function: its text, what it takes, its places. -/
structure Inst where
  sig : Sig
  F : AFn
  stops : List Stop
  anns : List Ann := []
  drw : List (Nat × List Bool) := []
  deriving Inhabited

section
variable (P : Program) (fn : Func) (I : Inst) (sigs : List Sig) (Q : Nat → Rs → List Lf → Prop)
def Inst.run (K : List AItem) (fr : List AV) (H : List ABlk) : Prop := ∀ H0 : List ABlk, H0.length = lenL I.sig.hp → Run P fn I.F.tab H0 (RC I.sig.exits (lenL I.sig.hp) Q) K fr H
/-- From a place on: what the function then hands out. -/
def Inst.at (n : Nat) (rs : Rs) (vs : List Lf) : Prop := ∀ s, stopOf true n I.stops = some s → puAll rs → I.run P fn Q (.c n :: s.K) (bldS arS I.F.nt s.st rs vs).1 (bldS arS I.F.nt s.st rs vs).2
def Inst.ck (i : Nat) (rs : Rs) (vs : List Lf) (c : Cont) : Prop :=
  match getL sigs i with
  | some g => EC P g rs vs (contS arS g.exits c (I.run P fn Q))
  | none => False
def Inst.dn (m : Nat) (bs : List Bool) (K : List AItem) (n : Nat) (li : List Bool) (fr : List AV) (H : List ABlk) : Prop := bs.length ≤ H.length ∧ ∀ H0 : List ABlk, H0.length = lenL I.sig.hp → ∀ l, (getL I.F.tab m = some (.region l true) → DrawA P l bs (Run P fn I.F.tab H0 (RC I.sig.exits (lenL I.sig.hp) Q) K) n li fr H) ∧ (getL I.F.tab m = some (.region l false) → Run P fn I.F.tab H0 (RC I.sig.exits (lenL I.sig.hp) Q) (.ops m n :: K) fr H)
/-- The functions that are called. -/
def CEof (i : Nat) (rs : Rs) (vs : List Lf) (Q : Nat → Rs → List Lf → Prop) : Prop :=
  match getL sigs i with
  | some g => EC P g rs vs Q
  | none => False

/-- The words of one function's proof. -/
structure Wk (A : Ar) (σr : RowF) (CE : Nat → Rs → List Lf → (Nat → Rs → List Lf → Prop) → Prop) (CK : Nat → Rs → List Lf → Cont → Prop) (Dn : Nat → List Bool → List AItem → Nat → List Bool → List AV → List ABlk → Prop) (EV RR : Nat → Rs → List Lf → Prop) : Prop where
  hA : A = arS
  hm : P.follows .mixedOrders = true
  hF : I.F.at P I.sig.f fn
  ce : CE = CEof P sigs
  ck : CK = I.ck P fn sigs Q
  dn : Dn = I.dn P fn Q
  ev : EV = I.at P fn Q
  rr : RR = Q
end

section
variable {P : Program} {fn : Func} {I : Inst} {sigs : List Sig} {Q : Nat → Rs → List Lf → Prop} {A : Ar} {σr : RowF} {CE : Nat → Rs → List Lf → (Nat → Rs → List Lf → Prop) → Prop} {CK : Nat → Rs → List Lf → Cont → Prop} {Dn : Nat → List Bool → List AItem → Nat → List Bool → List AV → List ABlk → Prop} {EV RR : Nat → Rs → List Lf → Prop}

theorem CEof.sound (i : Nat) (g : Sig) (rs : Rs) (vs : List Lf) (Q : Nat → Rs → List Lf → Prop) (hg : sigs[i]? = some g) (h : CEof P sigs i rs vs Q) : EC P g rs vs Q := by
  unfold CEof at h
  rw [getL_eq, hg] at h
  exact h

theorem Wk.seg (h : Wk P fn I sigs Q A σr CE CK Dn EV RR) {m : Nat} {chk : Bool} {K : List AItem} {fr : List AV} {H : List ABlk}
    (hs : segP A σr sigs CE CK Dn EV RR I.F.tab I.F.res I.stops I.anns I.drw I.sig.exits (lenL I.sig.hp) I.F.nt m chk K fr H) : I.run P fn Q K fr H := by
  obtain ⟨rfl, hm, hF, rfl, rfl, rfl, rfl, rfl⟩ := h
  intro H0 hl
  rw [← hl] at hs ⊢
  refine segP_sound hm hF.res CEof.sound (fun i g rs vs c hg hc => ?_) (fun m l bs K n li fr H ht hd => ?_) (fun m l bs K n li fr H ht hd => ?_) (fun m s rs vs hs he hp => ?_) m chk K fr H hs
  · unfold Inst.ck at hc
    rw [getL_eq, hg] at hc
    refine hc.mono fun x rs' vs' hx => ?_
    unfold contS at hx ⊢
    split
    · rename_i ex hex
      rw [hex] at hx
      have := hx H0 hl
      rw [← hl] at this
      exact this
    · trivial
  · have := (hd.2 H0 hl l).1 ht
    rw [← hl] at this
    exact this
  · have := (hd.2 H0 hl l).2 ht
    rw [← hl] at this
    exact this
  · have := he s hs hp H0 hl
    rw [← hl] at this
    exact this

def stopD (n : Nat) (l : List Stop) : Stop :=
  match stopOf true n l with
  | some s => s
  | none => default

/-- From a place. -/
theorem Wk.step (h : Wk P fn I sigs Q A σr CE CK Dn EV RR) (m : Nat) {n : Nat} {rs : Rs} {vs : List Lf}
    (hs : puAll rs → segP A σr sigs CE CK Dn EV RR I.F.tab I.F.res I.stops I.anns I.drw I.sig.exits (lenL I.sig.hp) I.F.nt m false (.c n :: (stopD n I.stops).K) (bldS A I.F.nt (stopD n I.stops).st rs vs).1 (bldS A I.F.nt (stopD n I.stops).st rs vs).2) : EV n rs vs := by
  rw [h.ev]
  intro s hsm hp
  have he : stopD n I.stops = s := by unfold stopD; rw [hsm]
  rw [he] at hs
  have := h.seg (hs hp)
  rw [h.hA] at this
  exact this

/-- Over a call. -/
theorem Wk.call (h : Wk P fn I sigs Q A σr CE CK Dn EV RR) (m : Nat) {i : Nat} {g : Sig} {rs rs0 : Rs} {vs vs0 : List Lf} {c : Cont} {Q1 : Nat → Rs → List Lf → Prop} (hg : getL sigs i = some g) (he : EC P g rs0 vs0 Q1) (hr : rs = rs0) (hv : vs = vs0)
    (hs : ∀ x rs' vs', puAll rs' → Q1 x rs' vs' → contS A g.exits c (fun K fr H => segP A σr sigs CE CK Dn EV RR I.F.tab I.F.res I.stops I.anns I.drw I.sig.exits (lenL I.sig.hp) I.F.nt m true K fr H) x rs' vs') : CK i rs vs c := by
  subst hr hv
  rw [h.ck]
  unfold Inst.ck
  rw [hg]
  refine he.monoP fun x rs' vs' hpu hq => ?_
  have h1 := hs x rs' vs' hpu hq
  unfold contS at h1 ⊢
  rw [← h.hA]
  split
  · rename_i ex hex
    rw [hex] at h1
    exact h.seg h1
  · trivial

/-- Over a call within a drawn region. -/
theorem Wk.callD (h : Wk P fn I sigs Q A σr CE CK Dn EV RR) {i : Nat} {g : Sig} {rs rs0 : Rs} {vs vs0 : List Lf} {Q0 Q1 : Nat → Rs → List Lf → Prop} (hg : getL sigs i = some g) (he : EC P g rs0 vs0 Q1) (hr : rs = rs0) (hv : vs = vs0)
    (hs : ∀ x rs' vs', puAll rs' → Q1 x rs' vs' → Q0 x rs' vs') : CE i rs vs Q0 := by
  subst hr hv
  rw [h.ce]
  unfold CEof
  rw [hg]
  exact he.monoP hs

/-- From the begin. -/
theorem Inst.enter (hA : A = arS) (hm : P.follows .mixedOrders = true) (hF : I.F.at P I.sig.f fn) (σr : RowF) (sigs : List Sig) {rs : Rs} {vs : List Lf} (m : Nat) (hl : lenL (bldC A I.sig.args I.sig.hp rs vs).2 = lenL I.sig.hp)
    (h : ∀ CE CK Dn EV RR, Wk P fn I sigs Q A σr CE CK Dn EV RR → puAll rs → segP A σr sigs CE CK Dn EV RR I.F.tab I.F.res I.stops I.anns I.drw I.sig.exits (lenL I.sig.hp) I.F.nt m true [.c 0] (appL (symL (bldC A I.sig.args I.sig.hp rs vs).1) (repL (I.F.nt - lenL (bldC A I.sig.args I.sig.hp rs vs).1) .junk)) (bldC A I.sig.args I.sig.hp rs vs).2) : EC P I.sig rs vs Q := by
  subst hA
  intro hp
  have hl' : (bldC arS I.sig.args I.sig.hp rs vs).2.length = lenL I.sig.hp := by rw [← lenL_eq]; exact hl
  have hW : Wk P fn I sigs Q arS σr _ _ _ _ _ := ⟨rfl, hm, hF, rfl, rfl, rfl, rfl, rfl⟩
  have := hW.seg (h _ _ _ _ _ hW hp) (bldC arS I.sig.args I.sig.hp rs vs).2 hl'
  rw [appL_eq, repL_eq, lenL_eq (bldC arS I.sig.args I.sig.hp rs vs).1] at this
  obtain ⟨body, hb⟩ : ∃ body, fn.body = some body := by
    have := hF.tab
    cases hb : fn.body with
    | none => rw [hb] at this; cases this
    | some b => exact ⟨b, rfl⟩
  refine CallsA.ent (R := RX I.sig.exits _ Q) ?_
  refine CallsA.enter hF.func hF.name hb ⟨hF.np, hF.nt, hF.res, hF.tab⟩ ?_
  rw [← hl'] at this
  exact this

/-- Within a drawn region. -/
theorem Wk.draw (h : Wk P fn I sigs Q A σr CE CK Dn EV RR) (m : Nat) {n : Nat} {bs : List Bool} {K : List AItem} {k : Nat} {li : List Bool} {fr : List AV} {H : List ABlk} (hb : Nat.ble (lenL bs) (lenL H) = true)
    (hs : drwP A σr sigs CE CK Dn EV RR I.F.tab I.F.res I.stops I.anns I.drw I.sig.exits (lenL I.sig.hp) I.F.nt n m bs K k li fr H) : Dn n bs K k li fr H := by
  have hseg := fun fr H => h.seg (m := m) (chk := true) (K := K) (fr := fr) (H := H)
  have hb := Nat.ble_eq.mp hb
  rw [lenL_eq, lenL_eq] at hb
  obtain ⟨rfl, hm, hF, rfl, rfl, rfl, rfl, rfl⟩ := h
  refine ⟨hb, fun H0 hl l => ⟨fun ht => ?_, fun ht => ?_⟩⟩
  · unfold drwP at hs
    rw [ht] at hs
    exact drawG_sound (fun fr H t b => Run.knownSet) _ _ _ _ (keepP_refl _ H hb) (drawG_mono CEof.sound (fun fr H hf => hseg fr H hf H0 hl) (fun n' li fr H _ hd => (hd.2 H0 hl l).1 ht) _ _ _ _ (keepP_refl _ H hb) hs)
  · unfold drwP at hs
    rw [ht] at hs
    have ht' := ht
    rw [getL_eq] at ht'
    rw [← hl] at hs
    refine opsS_sound (fun k fr H hd => ?_) (fun i g rs vs c hg hc => ?_) ht' (fun fr H hf => ?_) _ _ _ _ (dropL_eq k l) hs
    · exact (hd.2 H0 hl l).2 ht
    · unfold Inst.ck at hc
      rw [getL_eq, hg] at hc
      refine hc.mono fun x rs' vs' hx => ?_
      unfold contS at hx ⊢
      split
      · rename_i ex hex
        rw [hex] at hx
        exact hx H0 hl
      · trivial
    · rw [hl] at hf
      exact hseg fr H hf H0 hl
end
end Go.Ab
