import Derived.Test.YtmmoffbompnihaaDoorLayC
import Derived.Below
import Derived.RangeFuncRecord
import Derived.RangeFuncSeq
namespace Go.Ab
set_option linter.unusedVariables false
set_option linter.unusedSimpArgs false
open Go Go.RowKit
def RS.start (w : World) : RS := { W0 := w, D := fun k => k < w.heap.size, ρ := fun _ => none, φ := fun B o => w.cell? ⟨B, o, none⟩ }
theorem shape_nil : shape [] = noSh := by funext id; simp [shape, noSh]
def GvOk (w : World) : Prop := ∀ k o p, gvOk k o = some p → ∃ v, w.cell? ⟨k, o, none⟩ = some v ∧ p v ∧ gvB k w.heap[k]?
theorem start_rel (w : World) (hg : GvOk w) : WRel (RS.start w) [] w :=
 ⟨rfl, rfl, rfl, Nat.le_refl _, fun k hk => ⟨hk, rfl⟩, fun _ _ _ h => h, hg, fun id b h => by simp at h, fun i j b b' B c c' hi => by simp at hi⟩
theorem CallsA.law {P : Program} {f : FuncId} {args : List AV} {w : World} {vs : List Value} {b : Bool} (h : CallsA P f args [] (fun r _ => r = .bool b)) (hr : rels (RS.start w) args noSh vs) (hg : GvOk w := by intro _ _ _ h; cases h) :
  Calls P f vs.toArray w fun e w' => e = .returned (.bool b) ∧ Below w.heap.size w w' :=
 (h.2 (RS.start w) w vs (start_rel w hg) (by rw [shape_nil]; exact hr)).mono fun e w' ⟨u, he, S', v, H', h1, h2, h3, h4⟩ => by
  subst h4
  simp only [rel] at h3
  subst h3
  have hW : S'.W0 = w := h1.W0
  have hD : S'.D = fun k => k < w.heap.size := h1.D
  refine ⟨he, ?_, ?_, ?_, ?_, fun k hk => ?_⟩
  ·rw [h2.os, hW]
  ·rw [h2.tape, hW]
  ·rw [h2.output, hW]
  ·have := h2.size; rw [hW] at this; exact this
  ·have := (h2.prot k (by rw [hD]; exact hk)).2
   rw [hW] at this
   exact this
end Go.Ab

namespace Go.Ab
open Go
set_option linter.unusedVariables false
set_option linter.unusedSimpArgs false
def idxN : List Nat → Nat → Nat → Option Nat
 | [], _, _ => none
 | x :: xs, id, k => match Nat.beq x id with
  | true => some k
  | false => idxN xs id (k + 1)
theorem idxN_get : ∀ {β : List Nat} {id k j : Nat}, idxN β id k = some j → k ≤ j ∧ β[j - k]? = some id
 | [], _, _, _, h => by simp [idxN] at h
 | x :: xs, id, k, j, h => by
  simp only [idxN] at h
  cases hb : Nat.beq x id with
  | true =>
   rw [hb] at h
   simp only [Option.some.injEq] at h
   subst h
   have := Nat.eq_of_beq_eq_true hb
   subst this
   simp
  | false =>
   rw [hb] at h
   obtain ⟨h1, h2⟩ := idxN_get h
   refine ⟨by omega, ?_⟩
   rw [show j - k = (j - (k + 1)) + 1 by omega]
   simpa using h2
structure Cmp (τ : Nat → Option Nat) (S : RS) (T : Sh) (S' : RS) (T' : Sh) : Prop where
 blk : ∀ id j, τ id = some j → T' j = T id ∧ S'.ρ j = S.ρ id
 fro : ∀ B o v, S.φ B o = some v → S'.φ B o = some v
theorem Cmp.noSh {τ : Nat → Option Nat} {S : RS} {T : Sh} {S' : RS} {T' : Sh} (h : Cmp τ S T S' T') : Ext0 S Ab.noSh S' Ab.noSh :=
 ⟨h.fro, fun _ _ h => (by cases h), fun _ h => (by cases h), fun _ _ _ h => (by cases h)⟩
def Imp (τ : Nat → Option Nat) (a a' : AV) : Prop := ∀ S T S' T' v, Cmp τ S T S' T' → rel S a T v → rel S' a' T' v
def Imps (τ : Nat → Option Nat) : List AV → List AV → Prop
 | [], [] => True
 | x :: xs, y :: ys => Imp τ x y ∧ Imps τ xs ys
 | _, _ => False
theorem Imp.junk {τ : Nat → Option Nat} (a : AV) : Imp τ a .junk := fun _ _ _ _ _ _ _ => trivial
theorem Imps.rels {τ : Nat → Option Nat} {S : RS} {T : Sh} {S' : RS} {T' : Sh} (hc : Cmp τ S T S' T') : ∀ {xs ys : List AV} {vs : List Value}, Imps τ xs ys → rels S xs T vs → rels S' ys T' vs
 | [], [], vs, _, h => h
 | x :: xs, y :: ys, vs, hi, h => by
  simp only [Ab.rels] at h ⊢
  obtain ⟨v, vs', h1, h2, h3⟩ := h
  exact ⟨v, vs', h1, hi.1 _ _ _ _ _ hc h2, Imps.rels hc hi.2 h3⟩
 | [], _ :: _, _, h, _ => h.elim
 | _ :: _, [], _, h, _ => h.elim
theorem Imps.length {τ : Nat → Option Nat} : ∀ {xs ys : List AV}, Imps τ xs ys → ys.length = xs.length
 | [], [], _ => rfl
 | x :: xs, y :: ys, h => by simp [Imps.length h.2]
 | [], _ :: _, h => h.elim
 | _ :: _, [], h => h.elim
mutual
def ren (τ : Nat → Option Nat) : AV → AV
 | .ptr id t r o => match τ id with
  | some j => .ptr j t r o
  | none => .junk
 | .bptr id o => match τ id with
  | some j => .bptr j o
  | none => .junk
 | .sl id t o n => match τ id with
  | some j => .sl j t o n
  | none => .junk
 | .map id => match τ id with
  | some j => .map j
  | none => .junk
 | .fn f x y => .fn f (rens τ x) (rens τ y)
 | .iface t x => .iface t (ren τ x)
 | .agg cs => .agg (rens τ cs)
 | .tup cs => .tup (rens τ cs)
 | c => c
def rens (τ : Nat → Option Nat) : List AV → List AV
 | [] => []
 | c :: cs => ren τ c :: rens τ cs
end
mutual
theorem ren_rel {τ : Nat → Option Nat} {S : RS} {T : Sh} {S' : RS} {T' : Sh} (hc : Cmp τ S T S' T') : ∀ (c : AV) (v : Value), rel S c T v → rel S' (ren τ c) T' v
 | .int .., _, h => h
 | .bool .., _, h => h
 | .sb .., _, h => h
 | .str .., _, h => h
 | .nilp, _, h => h
 | .nils, _, h => h
 | .nilf, _, h => h
 | .nili, _, h => h
 | .nilm, _, h => h
 | .junk, _, _ => trivial
 | .ptr id t r o, v, h => by
  simp only [ren]
  cases hj : τ id with
  | none => trivial
  | some j =>
   obtain ⟨h1, h2⟩ := hc.blk id j hj
   simp only [rel] at h ⊢
   rw [h1, h2]; exact h
 | .bptr id o, v, h => by
  simp only [ren]
  cases hj : τ id with
  | none => trivial
  | some j =>
   obtain ⟨h1, h2⟩ := hc.blk id j hj
   simp only [rel] at h ⊢
   rw [h1, h2]; exact h
 | .sl id t o k, v, h => by
  simp only [ren]
  cases hj : τ id with
  | none => trivial
  | some j =>
   obtain ⟨h1, h2⟩ := hc.blk id j hj
   simp only [rel] at h ⊢
   rw [h1, h2]; exact h
 | .map id, v, h => by
  simp only [ren]
  cases hj : τ id with
  | none => trivial
  | some j =>
   obtain ⟨h1, h2⟩ := hc.blk id j hj
   simp only [rel] at h ⊢
   rw [h1, h2]; exact h
 | .iptr cs, v, h => by
  simp only [ren, rel] at h ⊢
  obtain ⟨B, o, h1, h2⟩ := h
  exact ⟨B, o, h1, fz_ext0 cs B o hc.noSh h2⟩
 | .inl sz rows, v, h => by
  simp only [ren, rel] at h ⊢
  obtain ⟨a, c, h1, h2, h3⟩ := h
  refine ⟨a, c, h1, h2, ?_⟩
  rcases h3 with h3 | ⟨B, o, h3, h4⟩
  ·exact .inl h3
  ·exact .inr ⟨B, o, h3, fzs_ext0 rows B o sz hc.noSh h4⟩
 | .fn f fi ca, v, h => by
  simp only [ren, rel] at h ⊢
  obtain ⟨a, b, h1, h2, h3⟩ := h
  exact ⟨a, b, h1, rens_rels hc fi _ h2, rens_rels hc ca _ h3⟩
 | .iface t x, v, h => by
  simp only [ren, rel] at h ⊢
  obtain ⟨u, h1, h2⟩ := h
  exact ⟨u, h1, ren_rel hc x u h2⟩
 | .agg cs, v, h => by
  simp only [ren, rel] at h ⊢
  obtain ⟨us, h1, h2, h3⟩ := h
  exact ⟨us, h1, rens_rels hc cs _ h2, h3⟩
 | .tup cs, v, h => by
  simp only [ren, rel] at h ⊢
  obtain ⟨us, h1, h2⟩ := h
  exact ⟨us, h1, rens_rels hc cs _ h2⟩
theorem rens_rels {τ : Nat → Option Nat} {S : RS} {T : Sh} {S' : RS} {T' : Sh} (hc : Cmp τ S T S' T') : ∀ (cs : List AV) (vs : List Value), rels S cs T vs → rels S' (rens τ cs) T' vs
 | [], _, h => h
 | c :: cs, vs, h => by
  simp only [rens, Ab.rels] at h ⊢
  obtain ⟨v, vs', h1, h2, h3⟩ := h
  exact ⟨v, vs', h1, ren_rel hc c v h2, rens_rels hc cs vs' h3⟩
end
theorem Imp.ren {τ : Nat → Option Nat} (c : AV) : Imp τ c (ren τ c) := fun _ _ _ _ v hc h => ren_rel hc c v h
theorem rens_length (τ : Nat → Option Nat) : ∀ cs : List AV, (rens τ cs).length = cs.length
 | [] => rfl
 | c :: cs => by simp [rens, rens_length τ cs]
theorem Imps.rens {τ : Nat → Option Nat} : ∀ (cs : List AV), Imps τ cs (rens τ cs)
 | [] => trivial
 | c :: cs => ⟨Imp.ren c, Imps.rens cs⟩
theorem pur_noSh {S : RS} {T : Sh} {c : AV} {v : Value} (hp : pur c = true) (h : rel S c T v) : rel S c noSh v :=
 rel_loc (n := 0) (T' := noSh) (fun _ h => absurd h (Nat.not_lt_zero _)) (fun _ _ _ h => h) c v (blw_pur 0 c hp) h
theorem Imp.pure {τ : Nat → Option Nat} {c : AV} (hp : pur c = true) : Imp τ c c := fun S T S' T' v hc h =>
 rel_noSh (rel_ext0 c noSh noSh v hc.noSh (pur_noSh hp h))
theorem purs_mem : ∀ {cs : List AV}, purs cs = true → ∀ c ∈ cs, pur c = true
 | [], _, c, hc => by cases hc
 | c0 :: cs, h, c, hc => by
  simp only [purs, Bool.and_eq_true] at h
  rcases List.mem_cons.1 hc with rfl | hc
  ·exact h.1
  ·exact purs_mem h.2 c hc
theorem pursS_mem : ∀ {rows : List (List AV)}, pursS rows = true → ∀ r ∈ rows, purs r = true
 | [], _, r, hr => by cases hr
 | r0 :: rs, h, r, hr => by
  simp only [pursS, Bool.and_eq_true] at h
  rcases List.mem_cons.1 hr with rfl | hr
  ·exact h.1
  ·exact pursS_mem h.2 r hr
def BImp (τ : Nat → Option Nat) : ABlk → ABlk → Prop
 | .box e cs, .box e' cs' => e = e' ∧ Imps τ cs cs'
 | .arr e sz rows, .arr e' sz' rows' => e = e' ∧ sz = sz' ∧ rows = rows' ∧ pursS rows = true
 | .dead s, .dead s' => s = s'
 | .mpb rows, .mpb rows' => rows = rows'
 | _, _ => False
theorem BImp.shp {τ : Nat → Option Nat} {b b' : ABlk} (h : BImp τ b b') : b'.shp = b.shp := by
 cases b <;> cases b' <;> simp only [BImp] at h <;> try exact h.elim
 ·simp [ABlk.shp, h.2.length]
 ·obtain ⟨_, rfl, rfl, _⟩ := h; rfl
 ·rfl
 ·subst h; rfl
theorem BImp.live {τ : Nat → Option Nat} {b b' : ABlk} (h : BImp τ b b') : b'.live = b.live := by
 cases b <;> cases b' <;> simp only [BImp] at h <;> first | exact h.elim | rfl
theorem BImp.blk {τ : Nat → Option Nat} {S : RS} {T : Sh} {S' : RS} {T' : Sh} (hc : Cmp τ S T S' T') {b b' : ABlk} (h : BImp τ b b') {id j : Nat} {w : World} (hρ : S'.ρ j = S.ρ id) (ho : ∀ B, Own S B → Own S' B) (hr : BlkRel S T b id w) : BlkRel S' T' b' j w := by
 cases b <;> cases b' <;> simp only [BImp] at h <;> try exact h.elim
 ·obtain ⟨rfl, hi⟩ := h
  obtain ⟨B, c, arr, h1, h2, h3, h4, h5⟩ := hr
  exact ⟨B, c, arr, hρ.trans h1, h2, hi.rels hc h3, h4, ho B h5⟩
 ·obtain ⟨rfl, rfl, rfl, hp⟩ := h
  obtain ⟨h0, hr⟩ := hr
  refine ⟨h0, ?_⟩
  rw [hρ]
  rename_i e sz rows
  cases hs : S.ρ id with
  | none => rw [hs] at hr; exact hr
  | some p =>
   obtain ⟨B, c⟩ := p
   rw [hs] at hr
   obtain ⟨arr, h2, h3, h4, h5, h6⟩ := hr
   refine ⟨arr, h2, h3, h4, fun i r hi => ?_, ho B h6⟩
   obtain ⟨g1, g2⟩ := h5 i r hi
   refine ⟨g1, fun k c hk => ?_⟩
   obtain ⟨u, m1, m2, m3⟩ := g2 k c hk
   exact ⟨u, m1, Imp.pure (purs_mem (pursS_mem hp r (List.mem_of_getElem? hi)) c (List.mem_of_getElem? hk)) _ _ _ _ _ hc m2, m3⟩
 ·subst h
  obtain ⟨B, c, es, clock, h1, h2, h3, h5⟩ := hr
  exact ⟨B, c, es, clock, hρ.trans h1, h2, entR_ext hc.noSh h3, ho B h5⟩
 ·trivial
def Vw (S0 : RS) (H0 : List ABlk) (w : World) (xs : List AV) (H : List ABlk) (vs : List Value) : Prop :=
 ∃ S, Ext S0 (shape H0) S (shape H) ∧ rels S xs (shape H) vs ∧ WRel S H w
def Ent (n : Nat) (xs : List AV) (H : List ABlk) (xs' : List AV) (H' : List ABlk) : Prop :=
 ∀ S0 H0 w vs, H0.length = n → Vw S0 H0 w xs H vs → Vw S0 H0 w xs' H' vs
theorem Ent.refl (n : Nat) (xs : List AV) (H : List ABlk) : Ent n xs H xs H := fun _ _ _ _ _ h => h
theorem Ent.trans {n : Nat} {xs xs' xs'' : List AV} {H H' H'' : List ABlk} (h : Ent n xs H xs' H') (k : Ent n xs' H' xs'' H'') : Ent n xs H xs'' H'' :=
 fun S0 H0 w vs hn hv => k S0 H0 w vs hn (h S0 H0 w vs hn hv)
theorem Run.ent {P : Program} {fn : Func} {tab : List Node} {H0 : List ABlk} {R : AV → List ABlk → Prop} {K : List AItem} {fr fr' : List AV} {H H' : List ABlk}
  (he : Ent H0.length fr H fr' H') (h : Run P fn tab H0 R K fr' H') : Run P fn tab H0 R K fr H := by
 intro S0 S w a b k cs he' hd hr hw hk
 obtain ⟨S', g1, g2, g3⟩ := he S0 H0 w _ rfl ⟨S, he', hr, hw⟩
 exact h S0 S' w a b k cs g1 hd g2 g3 hk
theorem CallsA.ent {P : Program} {f : FuncId} {args : List AV} {H : List ABlk} {R : AV → List ABlk → Prop}
  (h : CallsA P f args H fun r H' => ∃ r' H'', Ent H.length [r] H' [r'] H'' ∧ R r' H'') : CallsA P f args H R :=
 ⟨h.1, fun S w vs hw hr => (h.2 S w vs hw hr).mono fun e w' ⟨u, he, S', v, H', h1, h2, h3, r', H'', h4, h5⟩ => by
  obtain ⟨S'', g1, g2, g3⟩ := h4 S H w' [u] rfl ⟨S', h1, by simp only [rels]; exact ⟨u, [], rfl, h3, rfl⟩, h2⟩
  simp only [rels] at g2
  obtain ⟨_, _, e1, g2, rfl⟩ := g2
  simp only [List.cons.injEq] at e1
  obtain ⟨rfl, _⟩ := e1
  exact ⟨u, he, S'', r', H'', g1, g3, g2, h5⟩⟩
theorem Ent.sub {n : Nat} {xs xs' : List AV} {H : List ABlk} (h : Imps some xs xs') : Ent n xs H xs' H :=
 fun S0 H0 w vs _ ⟨S, h1, h2, h3⟩ => ⟨S, h1, h.rels ⟨fun id j hj => by injection hj with hj; subst hj; exact ⟨rfl, rfl⟩, fun _ _ _ h => h⟩ h2, h3⟩
theorem Ent.ren {n : Nat} {xs xs' : List AV} {H H' : List ABlk} (β : List Nat) (h0 : n ≤ β.length) (hid : ∀ j : Nat, j < n → β[j]? = some j) (hnd : ∀ i j k : Nat, β[i]? = some k → β[j]? = some k → i = j)
  (hl : H'.length = β.length) (hb : ∀ j id : Nat, β[j]? = some id → ∃ b b', H[id]? = some b ∧ H'[j]? = some b' ∧ BImp (fun i => idxN β i 0) b b') (hx : Imps (fun i => idxN β i 0) xs xs') : Ent n xs H xs' H' := by
 intro S0 H0 w vs hn ⟨S, he, hr, hw⟩
 subst hn
 let S' : RS := { S with ρ := fun j => (β[j]?).bind S.ρ }
 have hβ : ∀ {j id}, β[j]? = some id → shape H' j = shape H id ∧ S'.ρ j = S.ρ id := fun {j id} hj => by
  obtain ⟨b, b', h1, h2, h3⟩ := hb j id hj
  refine ⟨?_, by simp [S', hj]⟩
  rw [shape_get h1, shape_get h2, h3.shp]
 have hc : Cmp (fun i => idxN β i 0) S (shape H) S' (shape H') := ⟨fun id j hj => by
  obtain ⟨_, h2⟩ := idxN_get hj
  exact hβ (by simpa using h2), fun _ _ _ h => h⟩
 have h0s : ∀ {id s}, shape H0 id = some s → shape H' id = shape H id ∧ S'.ρ id = S.ρ id := fun {id s} hs => hβ (hid id (shape_lt hs))
 refine ⟨S', ⟨he.W0, he.D, he.fro, he.fnw, fun id n hn => ?_, fun id hn => ?_, fun id m sz hn => ?_⟩, hx.rels hc hr, ?_⟩
 ·obtain ⟨a, b⟩ := h0s hn
  obtain ⟨c, d⟩ := he.box id n hn
  exact ⟨a.trans c, b.trans d⟩
 ·obtain ⟨a, b⟩ := h0s hn
  obtain ⟨c, d⟩ := he.mp id hn
  exact ⟨a.trans c, b.trans d⟩
 ·obtain ⟨a, b⟩ := h0s hn
  obtain ⟨m', c, d, e⟩ := he.row id m sz hn
  exact ⟨m', a.trans c, d, fun hm => b.trans (e hm)⟩
 ·have hget : ∀ {j b'}, H'[j]? = some b' → ∃ id b, β[j]? = some id ∧ H[id]? = some b ∧ BImp (fun i => idxN β i 0) b b' := fun {j b'} hj => by
   have hjl : j < β.length := by rw [← hl]; exact get_lt hj
   obtain ⟨b, b2, h1, h2, h3⟩ := hb j β[j] (List.getElem?_eq_getElem hjl)
   rw [hj] at h2
   injection h2 with h2
   subst h2
   exact ⟨β[j], b, List.getElem?_eq_getElem hjl, h1, h3⟩
  refine ⟨hw.os, hw.tape, hw.output, hw.size, hw.prot, hw.fro, hw.gl, fun j b' hj => ?_, fun i j b1 b2 B c c' hi hj li lj hBi hBj => ?_⟩
  ·obtain ⟨id, b, h1, h2, h3⟩ := hget hj
   exact h3.blk hc (hβ h1).2 (fun _ h => h) (hw.blk id b h2)
  ·obtain ⟨id1, x1, p1, p2, p3⟩ := hget hi
   obtain ⟨id2, x2, q1, q2, q3⟩ := hget hj
   rw [(hβ p1).2] at hBi
   rw [(hβ q1).2] at hBj
   have := hw.inj id1 id2 x1 x2 B c c' p2 q2 (p3.live ▸ li) (q3.live ▸ lj) hBi hBj
   subst this
   exact hnd i j id1 p1 q1
theorem Ent.own {n e sz : Nat} {xs : List AV} {H : List ABlk} (hn : n ≤ H.length) (h0 : 0 < sz) {xs' : List AV} (hf : ownL H.length xs xs') : Ent n xs H xs' (H ++ [.arr e sz []]) := by
 intro S0 H0 w vs hl ⟨S, he, hr, hw⟩
 obtain ⟨w1, e1⟩ := hw.arr_none e sz h0
 have hT : shape (H ++ [ABlk.arr e sz []]) H.length = some (.row 0 sz) := by rw [shape_last]; rfl
 have hρ : (S.put H.length none).ρ H.length = none := put_same _ _ _
 exact ⟨S.put H.length none, he.trans e1, ownL_rels hT hρ hf (rels_ext _ _ _ _ e1 hr), w1⟩
theorem Ent.fz {n : Nat} {xs : List AV} {H : List ABlk} (id : Nat) (b : ABlk) (hb : H[id]? = some b) (hid : n ≤ id) (hp : b.pure = true) (hf : fzOs id (rowsN b) xs) (hO : ∀ x ∈ H, fzBO id (rowsN b) x) : Ent n xs H (fzVs id b xs) (fzH id b H) := by
 intro S0 H0 w vs hl ⟨S, he, hr, hw⟩
 exact ⟨_, he.fz hw (by omega), fzVs_rel hw hb hp (fun j hj => fzH_shape j hj) xs _ hf hr, hw.fz hb hp hO⟩
end Go.Ab

namespace Go.Ab
open Go
set_option linter.unusedVariables false
set_option linter.unusedSimpArgs false
def RS.reb (S : RS) (w : World) (X : Nat → Prop) : RS := { S with W0 := w, D := fun k => S.D k ∨ X k }
def RS.onto (S S0 : RS) : RS := { S with W0 := S0.W0, D := S0.D }
theorem ext0_same {S S2 : RS} (hρ : S2.ρ = S.ρ) (hφ : S2.φ = S.φ) (T : Sh) : Ext0 S T S2 T :=
 ⟨fun B o v h => by rw [hφ]; exact h, fun id n h => ⟨h, by rw [hρ]⟩, fun id h => ⟨h, by rw [hρ]⟩, fun id m sz h => ⟨m, h, Nat.le_refl _, fun _ => by rw [hρ]⟩⟩
theorem BlkRel.same {S S2 : RS} {T : Sh} {b : ABlk} {id : Nat} {w : World} (hρ : S2.ρ = S.ρ) (hφ : S2.φ = S.φ) (h : BlkRel S T b id w)
  (ho : ∀ B c, b.live = true → S.ρ id = some (B, c) → Own S B → Own S2 B) : BlkRel S2 T b id w := by
 have hx := ext0_same hρ hφ T
 cases b with
 | box e cs =>
  obtain ⟨B, c, arr, h1, h2, h3, h4, h5⟩ := h
  exact ⟨B, c, arr, by rw [hρ]; exact h1, h2, rels_ext0 cs T T _ hx h3, h4, ho B c rfl h1 h5⟩
 | arr e sz rows =>
  obtain ⟨h0, h⟩ := h
  refine ⟨h0, ?_⟩
  rw [hρ]
  cases hr : S.ρ id with
  | none => rw [hr] at h; exact h
  | some p =>
   obtain ⟨B, c⟩ := p
   rw [hr] at h
   obtain ⟨arr, h2, h3, h4, h5, h6⟩ := h
   refine ⟨arr, h2, h3, h4, fun i r hi => ?_, ho B c rfl hr h6⟩
   obtain ⟨g1, g2⟩ := h5 i r hi
   refine ⟨g1, fun j c hj => ?_⟩
   obtain ⟨u, m1, m2, m3⟩ := g2 j c hj
   exact ⟨u, m1, rel_ext0 c T T u hx m2, m3⟩
 | mpb rows =>
  obtain ⟨B, c, es, clock, h1, h2, h3, h5⟩ := h
  exact ⟨B, c, es, clock, by rw [hρ]; exact h1, h2, entR_ext hx.noSh h3, ho B c rfl h1 h5⟩
 | dead s => trivial
def Odd (o : Obj) : Prop := (∀ a e p, o ≠ .cells a e p) ∧ ∀ es c, o ≠ .map es c
section
variable {S : RS} {H : List ABlk} {w : World}
theorem WRel.odd_phi (h : WRel S H w) {k : Nat} {o : Obj} (hk : w.heap[k]? = some o) (ho : Odd o) : ∀ i, S.φ k i = none := fun i => by
 cases hv : S.φ k i with
 | none => rfl
 | some v =>
  exfalso
  have := h.fro k i v hv
  unfold World.cell? at this
  simp only [hk] at this
  split at this
  ·rename_i c _ _ e
   injection e with e
   exact ho.1 _ _ _ e
  ·cases this
theorem WRel.odd_own (h : WRel S H w) {k : Nat} {o : Obj} (hk : w.heap[k]? = some o) (ho : Odd o) {id : Nat} {b : ABlk} {B c : Nat} (hb : H[id]? = some b) (hl : b.live = true) (hρ : S.ρ id = some (B, c)) : B ≠ k := by
 rintro rfl
 have := h.blk id b hb
 cases b with
 | box e cs =>
  obtain ⟨B', c', arr, h1, h2, _⟩ := this
  rw [hρ] at h1; injection h1 with h1; injection h1 with h1 _; subst h1
  rw [hk] at h2; injection h2 with h2; exact ho.1 _ _ _ h2
 | arr e sz rows =>
  obtain ⟨_, this⟩ := this
  rw [hρ] at this
  obtain ⟨arr, h2, _⟩ := this
  rw [hk] at h2; injection h2 with h2; exact ho.1 _ _ _ h2
 | mpb rows =>
  obtain ⟨B', c', es, clock, h1, h2, _⟩ := this
  rw [hρ] at h1; injection h1 with h1; injection h1 with h1 _; subst h1
  rw [hk] at h2; injection h2 with h2; exact ho.2 _ _ h2
 | dead s => simp [ABlk.live] at hl
theorem WRel.putOdd (h : WRel S H w) {k : Nat} {o : Obj} (hk : w.heap[k]? = some o) (ho : Odd o) (hD : ¬ S.D k) (o' : Obj) : WRel S H (w.putObj k o') := by
 refine WRel.step h (Ext.refl _ _) (· = k) (fun _ => False) ⟨rfl, rfl, rfl, by simp, fun i _ hi => World.putObj_heap_other hi⟩ ?_ (fun B i v hv => .inl hv) (old := fun id b hb _ => ⟨hb, rfl, fun B c hl hρ => h.odd_own hk ho hb hl hρ⟩) (new := fun _ _ _ hn => hn.elim) (inj := fun _ _ _ _ _ _ _ _ _ _ _ _ _ hn => hn.elim)
 rintro i _ rfl
 exact ⟨hD, h.odd_phi hk ho⟩
theorem WRel.reb (h : WRel S H w) {X : Nat → Prop} (hX : ∀ k, X k → ∃ o, w.heap[k]? = some o ∧ Odd o) : WRel (S.reb w X) H w where
 os := rfl
 tape := rfl
 output := rfl
 size := Nat.le_refl _
 prot := fun k hk => by
  refine ⟨?_, rfl⟩
  rcases hk with hk | hk
  ·exact Nat.lt_of_lt_of_le (h.prot k hk).1 h.size
  ·obtain ⟨o, ho, _⟩ := hX k hk
   exact block_lt ho
 fro := h.fro
 gl := h.gl
 blk := fun id b hb => BlkRel.same (S := S) rfl rfl (h.blk id b hb) fun B c hl hρ ho => ⟨fun hk => by
  rcases hk with hk | hk
  ·exact ho.1 hk
  ·obtain ⟨o, h1, h2⟩ := hX B hk
   exact h.odd_own h1 h2 hb hl hρ rfl, ho.2⟩
 inj := h.inj
theorem WRel.onto {S' : RS} {H' : List ABlk} {w' : World} {X : Nat → Prop} (h : WRel S H w) (h' : WRel S' H' w') (hw : S'.W0 = w) (hd : S'.D = fun k => S.D k ∨ X k) : WRel (S'.onto S) H' w' where
 os := by rw [h'.os, hw]; exact h.os
 tape := by rw [h'.tape, hw]; exact h.tape
 output := by rw [h'.output, hw]; exact h.output
 size := by have := h'.size; rw [hw] at this; exact Nat.le_trans h.size this
 prot := fun k hk => by
  obtain ⟨h1, h2⟩ := h.prot k hk
  refine ⟨h1, ?_⟩
  have := (h'.prot k (by rw [hd]; exact .inl hk)).2
  rw [hw] at this
  exact this.trans h2
 fro := h'.fro
 gl := h'.gl
 blk := fun id b hb => BlkRel.same (S := S') rfl rfl (h'.blk id b hb) fun B c hl hρ ho => ⟨fun hk => ho.1 (by rw [hd]; exact .inl hk), ho.2⟩
 inj := h'.inj
theorem Ext.reb {S0 : RS} {T0 T : Sh} (h : Ext S0 T0 S T) (X : Nat → Prop) (w1 : World) (hφ : ∀ k, X k → ∀ i, S.φ k i = none) : Ext (S0.reb w1 X) T0 (S.reb w1 X) T where
 W0 := rfl
 D := by show (fun k => S.D k ∨ X k) = fun k => S0.D k ∨ X k; rw [h.D]
 fro := h.fro
 fnw := fun B o v hv => by
  rcases h.fnw B o v hv with h1 | h1
  ·exact .inl h1
  ·refine .inr fun hk => ?_
   rcases hk with hk | hk
   ·exact h1 hk
   ·have := hφ B hk o; have hv : S.φ B o = some v := hv; rw [this] at hv; cases hv
 box := h.box
 mp := h.mp
 row := h.row
theorem Ext.onto {S0 S' : RS} {T0 T' : Sh} {X : Nat → Prop} {w1 : World} (h : Ext (S0.reb w1 X) T0 S' T') : Ext S0 T0 (S'.onto S0) T' where
 W0 := rfl
 D := rfl
 fro := h.fro
 fnw := fun B o v hv => by
  rcases h.fnw B o v hv with h1 | h1
  ·exact .inl h1
  ·exact .inr fun hk => h1 (.inl hk)
 box := h.box
 mp := h.mp
 row := h.row
theorem rels_onto {S' S0 : RS} {T : Sh} {cs : List AV} {vs : List Value} (h : rels S' cs T vs) : rels (S'.onto S0) cs T vs := rels_ext0 cs T T vs (ext0_same (S := S') (S2 := S'.onto S0) rfl rfl T) h
theorem rel_onto {S' S0 : RS} {T : Sh} {c : AV} {v : Value} (h : rel S' c T v) : rel (S'.onto S0) c T v := rel_ext0 c T T v (ext0_same (S := S') (S2 := S'.onto S0) rfl rfl T) h
theorem rels_reb {S : RS} {w : World} {X : Nat → Prop} {T : Sh} {cs : List AV} {vs : List Value} (h : rels S cs T vs) : rels (S.reb w X) cs T vs := rels_ext0 cs T T vs (ext0_same (S := S) (S2 := S.reb w X) rfl rfl T) h
theorem rel_reb {S : RS} {w : World} {X : Nat → Prop} {T : Sh} {c : AV} {v : Value} (h : rel S c T v) : rel (S.reb w X) c T v := rel_ext0 c T T v (ext0_same (S := S) (S2 := S.reb w X) rfl rfl T) h
end
def BackC (P : Program) (fb : FuncId) : Prop :=
 Callable P fb ∧ ∀ (l Bx len : Nat) (J : Nat → World → Prop), len < 1152921504606846976 →
  (∀ k W, J k W → k ≤ len → ∃ A cap, W.cell? ⟨Bx, 0, none⟩ = some (.slice A len cap) ∧
   (k < len → ∃ b o x, A = some ⟨b, o, none⟩ ∧ W.cell? ⟨b, o + (len - 1 - k), none⟩ = some x ∧ x.oneCell' = true ∧
    YieldAt Fence.wide 0 P l #[.int .i64 ((len - 1 - k : Nat) : Int), x] W fun e W' => e = .returned (.bool true) ∧ J (k + 1) W')) →
  ∀ W, J 0 W → Calls P fb #[.func (.yield l) #[] #[], .pointer (some ⟨Bx, 0, none⟩)] W fun e W' => (∃ v, e = .returned v) ∧ J len W'
theorem fzs_get1 {S : RS} {B : Nat} : ∀ {rows : List (List AV)} {o : Nat}, fzs S B o 1 rows → ∀ {i : Nat} {x : AV}, rows[i]? = some [x] → ∃ v, S.φ B (o + i) = some v ∧ rel S x noSh v ∧ v.oneCell' = true
 | [], o, _, i, x, hi => by simp at hi
 | r :: rs, o, h, 0, x, hi => by
  simp only [fzs] at h
  obtain ⟨_, h2, _⟩ := h
  simp only [List.getElem?_cons_zero, Option.some.injEq] at hi
  subst hi
  simp only [fz] at h2
  exact h2.1
 | r :: rs, o, h, i + 1, x, hi => by
  simp only [fzs] at h
  simp only [List.getElem?_cons_succ] at hi
  have := fzs_get1 h.2.2 hi
  rwa [show o + 1 + i = o + (i + 1) from by omega] at this
theorem one_of {α β : Type} {ops : Array α} {f : α → β} {b : β} (h : [b] = ops.toList.map f) : ∃ o, ops = #[o] ∧ f o = b := by
 obtain ⟨l⟩ := ops
 match l, h with
 | [o], h =>
  simp only [List.map_cons, List.map_nil, List.cons.injEq, and_true] at h
  exact ⟨o, rfl, h.symm⟩
section
variable {P : Program} {fn : Func} {tab : List Node} {H0 : List ABlk} {R : AV → List ABlk → Prop} {K : List AItem} {fr : List AV} {H : List ABlk}
set_option maxHeartbeats 1000000 in
theorem Run.back {σ : Type} {σr : RowF} {n d e p1 p2 q id rt : Nat} {tabB : List Node} {g : AX} {fb : FuncId} {fnR : Func} {rows : List (List AV)} {eT : TypeId} (h : σ → List ABlk) (I : Nat → σ → Prop)
  (ht : tab[n]? = some (.rng g [p1, p2] d e)) (hmask : tabB = List.replicate (n + d) .bad ++ (tab.drop (n + d)).take e) (hsk : tab[n + 1]? = some (.region [⟨some q, .mv (.t p2), none, [], []⟩] false)) (hg : ev fr g = .fn (.func fb) [] [.bptr id 0]) (hB : BackC P fb) (hr : rnd P fn = false) (hres : fn.results = #[.tmp rt]) (hR : rnd P fnR = true)
  (hpr : pursS rows = true) (hone : ∀ r ∈ rows, ∃ x, r = [x]) (hlen : rows.length < 1152921504606846976)
  (hbox : ∀ i s, I i s → (h s)[id]? = some (.box eT [.inl 1 rows]))
  (s0 : σ) (hH : H = h s0) (hI0 : I rows.length s0)
  (body : ∀ (i : Nat) (x : AV) (s : σ), i < rows.length → rows[i]? = some [x] → I (i + 1) s → Run P fnR tabB (h s) (fun v H' => ∃ s' v', I i s' ∧ Ent (h s).length [v] H' [v'] (h s')) [.c (n + d)] (putL ((fr.set p1 (.int .i64 i)).set p2 (sym x)) (some q) (ev ((fr.set p1 (.int .i64 i)).set p2 (sym x)) (.t p2))) (h s))
  (rest : ∀ s, I 0 s → Run P fn tab H0 R K fr (h s)) : Run P fn tab H0 R (.c n :: K) fr H := by
 subst hH
 intro S0 S w a b k cs he hd hf hw hk
 cases hk with
 | cons h1 hk =>
 rename_i it k
 cases it <;> first | exact h1.elim | skip
 obtain ⟨c, qs, xa, y, rfl, hc, hqs, rfl, hey⟩ := At.is_rng h1 ht
 obtain ⟨hat1, hat2⟩ := At.rng h1
 have hat2 := hat2.mask hey hmask
 have hbr := hd hr
 have hgv := rx_rel hf hc
 rw [hg] at hgv
 simp only [rel, rels] at hgv
 obtain ⟨fa, fc, hgv, hfa, ⟨vb, vs', hfc, hvb, rfl⟩⟩ := hgv
 obtain ⟨nb, Bx, cx, hTx, hρx, rfl⟩ := hvb
 obtain rfl : fa = #[] := by cases fa; simp_all
 obtain rfl : fc = #[.pointer (some ⟨Bx, 0, none⟩)] := by cases fc; simp_all
 obtain ⟨r, hrw⟩ : ∃ r, r = w.heap.size := ⟨_, rfl⟩
 let rec0 : Loop := { state := .ready, pending := none, fn := b.fn, tmps := a.tmps, params := qs, assign := xa, body := y, defers := r }
 let w1 := (w.alloc (.deferred (some []))).alloc (.loop rec0)
 have hent : (Instr.enterLoop b.fn a.tmps qs xa y b.roundOf).run P w = .ok (r + 1, [{ target := .collected r, args := #[] }]) w1 := by
  rw [hbr, run_enterLoop_outer]
  simp only [w1, rec0, hrw]
 have hDr : ∀ k, w.heap.size ≤ k → ¬ S0.D k := fun k hk hD => by
  have := hw.prot k (by rw [he.D]; exact hD)
  have h2 := hw.size
  omega
 have hw1 : WRel S (h s0) w1 := (hw.alloc _).alloc _
 have hl1 : w1.heap[r + 1]? = some (.loop rec0) := by
  have := World.alloc_heap_new (w.alloc (.deferred (some []))) (.loop rec0)
  rwa [World.size_alloc, ← hrw] at this
 have hr1 : w1.heap[r]? = some (.deferred (some [])) := by
  have h1 := World.alloc_heap_new w (.deferred (some []))
  rw [← hrw] at h1
  have := Go.RowKit.Below.heap_alloc (w.alloc (.deferred (some []))) (.loop rec0) r (by rw [World.size_alloc]; omega)
  exact this.trans h1
 let J : Nat → World → Prop := fun k W => ∃ S' s, I (rows.length - k) s ∧ Ext S (shape (h s0)) S' (shape (h s)) ∧ WRel S' (h s) W ∧ rels S' fr (shape (h s)) a.tmps.toList ∧ W.heap[r + 1]? = some (.loop rec0) ∧ W.heap[r]? = some (.deferred (some []))
 have oddL : ∀ q : Loop, Odd (.loop q) := fun q => ⟨fun _ _ _ e => (by cases e), fun _ _ e => (by cases e)⟩
 have oddD : ∀ q : Option (List Deferred), Odd (.deferred q) := fun q => ⟨fun _ _ _ e => (by cases e), fun _ _ e => (by cases e)⟩
 have hJ0 : J 0 w1 := ⟨S, s0, by simpa using hI0, Ext.refl _ _, hw1, hf, hl1, hr1⟩
 have hcall := hB.2 (r + 1) Bx rows.length J hlen (fun k W hJ hkl => ?_) w1 hJ0
 ·
  have hcal := hB.1
  obtain ⟨fnb, hfnb, hnm, hbd⟩ := hcal
  have henter := stepR_rangeFunc (P := P) (b := b) (a := a) (k := k) (cs := cs) (w := w) (g := c) (d := { target := .fn (.func fb) #[.pointer (some ⟨Bx, 0, none⟩)], args := #[.func (.yield (r + 1)) #[] #[]] }) (w₁' := w1) (f := fb) (args := #[.func (.yield (r + 1)) #[] #[], .pointer (some ⟨Bx, 0, none⟩)]) (w₂ := w1) hent (by
    have e : a.eval c = .func (.func fb) #[] #[.pointer (some ⟨Bx, 0, none⟩)] := hgv
    show (Deferred.ofValue (a.eval c) (#[Operand.const (.func (.yield (r + 1)) #[] #[])].map a.eval)).run P w1 = _
    rw [e]
    simp [Deferred.ofValue, Act.eval]) (by
    have hnm' : ¬ fnb.name = "runtime.NumGoroutine" := by simpa using hnm
    have hbd' : ¬ fnb.body = none := fun e => by rw [e] at hbd; cases hbd
    simp [invoke, callFunc, Sem.run_bind, program, Result.andThen, hfnb, hnm', hbd', Sem.run])
  obtain ⟨e, W', fr', ⟨⟨v, rfl⟩, S', s, hIs, hx', hw', hf', hl', hr'⟩, hsteps, _, hleave⟩ := hcall (b.atR { a with defers := [{ target := .collected r, args := #[] }] ++ a.defers } (.inRangeFunc (r + 1) :: k) :: cs)
  have hback := step_leave_returned (c := b.atR { a with defers := [{ target := .collected r, args := #[] }] ++ a.defers } (.inRangeFunc (r + 1) :: k)) (cs := cs) hleave
  rw [finish_atR_inRangeFunc] at hback
  have hend := stepR_endRangeFunc (P := P) (b := b) (a := { a with defers := [{ target := .collected r, args := #[] }] ++ a.defers }) (k := k) (cs := cs) (run_endLoop (P := P) hl' (by simp [rec0]))
  simp only [rec0, Option.map_none, Option.toList_none, List.nil_append] at hend
  have hD1 : ¬ S'.D (r + 1) := by rw [hx'.D, he.D]; exact hDr _ (by omega)
  have hD2 : ¬ S'.D r := by rw [hx'.D, he.D]; exact hDr _ (by omega)
  generalize hw4 : W'.putObj (r + 1) (Obj.loop { state := .exhausted, pending := none, fn := b.fn, tmps := a.tmps, params := qs, assign := xa, body := y, defers := r }) = w4 at hend
  have hW4 : WRel S' (h s) w4 := by rw [← hw4]; exact hw'.putOdd hl' (oddL _) hD1 _
  have hr4 : w4.heap[r]? = some (.deferred (some [])) := by rw [← hw4, World.putObj_heap_other (by omega)]; exact hr'
  have hX : ∀ i, i = r → ∃ o, w4.heap[i]? = some o ∧ Odd o := by rintro i rfl; exact ⟨_, hr4, oddD _⟩
  have heS : Ext S0 (shape H0) S' (shape (h s)) := he.trans hx'
  obtain ⟨a2, w5, todo, v2, q1, q2, q3, q4⟩ := rest s (by simpa using hIs) (S0.reb w4 (· = r)) (S'.reb w4 (· = r)) w4 { a with defers := [{ target := .collected r, args := #[] }] ++ a.defers } b k cs
   (heS.reb _ _ (by rintro i rfl; exact hW4.odd_phi hr4 (oddD _))) hd (rels_reb hf') (hW4.reb hX) hk
  rw [hr] at q1 q3
  obtain ⟨S5, v5, H5, e1, e2, e3, e4⟩ := q4
  have hD5 : S5.D = fun i => S0.D i ∨ i = r := e1.D
  have hr5 : w5.heap[r]? = some (.deferred (some [])) := by
   have := (e2.prot r (by rw [hD5]; exact .inr rfl)).2
   rw [e1.W0] at this
   exact this.trans hr4
  have hW5 : WRel (S5.onto S0) H5 w5 := by
   have h0 : WRel (S'.onto S0) (h s) w4 := by
    have : S'.onto S0 = S' := by
     cases S'
     have h1 := heS.W0; have h2 := heS.D
     simp only at h1 h2
     simp [RS.onto, h1, h2]
    rw [this]; exact hW4
   have := WRel.onto (S := S'.onto S0) (X := fun i => i = r) h0 e2 e1.W0 hD5
   exact this
  have hW6 : WRel (S5.onto S0) H5 (w5.putObj r (.deferred none)) := hW5.putOdd hr5 (oddD _) (hDr _ (by omega)) _
  have hunw : Go.step P (lone (endF false (b.atR a2 todo)) cs w5) = .next (lone (endF false (b.atR { a2 with defers := a.defers } todo)) cs (w5.putObj r (.deferred none))) := by
   have hq : a2.defers = [{ target := .collected r, args := #[] }] ++ a.defers := q2
   exact step_lone_go (by simp [stepG, unwind, endF, Frame.atR, hq, Sem.runT_eq, run_takeDeferred hr5, GStep.bare_after])
  refine ⟨{ a2 with defers := a.defers }, w5.putObj r (.deferred none), todo, v2, ?_, rfl, ?_, S5.onto S0, v5, H5, e1.onto, hW6, rel_onto e3, e4⟩
  ·rw [hr]
   exact (Steps.head henter (Steps.trans hsteps (.head hback (.head hend q1)))).trans (.one hunw)
  ·rw [hr]
   simp only [Bool.false_eq_true, if_false]
   have hv : (results fn a2.tmps).run P w5 = .ok v2 w5 := by simpa using q3
   have hgen : ∀ W, (results fn a2.tmps).run P W = .ok (a2.tmps.getD rt undef) W := fun W => by simp [results, hres, Sem.run_bind, Result.andThen]
   rw [hgen] at hv ⊢
   injection hv with hv _
   rw [hv]
 ·
  obtain ⟨S', s, hIs, hx', hw', hf', hl', hr'⟩ := hJ
  have hbx := hbox _ _ hIs
  have hbr' := hw'.blk id _ hbx
  obtain ⟨B', c', arr, g1, g2, g3, g4, g5⟩ := hbr'
  have hρ' : S'.ρ id = S.ρ id := (hx'.box id nb hTx).2
  rw [hρ', hρx] at g1
  injection g1 with g1
  injection g1 with g1 _
  subst g1
  simp only [rels, rel] at g3
  obtain ⟨_, _, ha, ⟨A, cap, rfl, hcap, hrows⟩, rfl⟩ := g3
  have hcell : W.cell? ⟨Bx, 0, none⟩ = some (.slice A rows.length cap) := by
   unfold World.cell?
   simp only [g2]
   rw [← Array.getElem?_toList, ha]; rfl
  refine ⟨A, cap, hcell, fun hlt => ?_⟩
  rcases hrows with h0 | ⟨B2, o2, rfl, hfz⟩
  ·rw [h0] at hlt; simp at hlt
  have hi : rows.length - 1 - k < rows.length := by omega
  obtain ⟨x, hx⟩ : ∃ x, rows[rows.length - 1 - k]? = some [x] := by
   obtain ⟨x, hx⟩ := hone _ (List.getElem_mem hi)
   exact ⟨x, by rw [List.getElem?_eq_getElem hi, hx]⟩
  obtain ⟨u, u1, u2, u3⟩ := fzs_get1 hfz hx
  refine ⟨B2, o2, u, rfl, hw'.fro _ _ _ u1, u3, b.fn, _, xa, y, run_yield (P := P) hl' (by simp [rec0, ← hqs]; rw [← Array.length_toList, hqs]; rfl), trivial, fun c cs' _ => ?_⟩
  obtain ⟨br, hbr2⟩ : ∃ br : Frame, br = { (default : Frame) with fn := b.fn, kind := .normal, roundOf := some (r + 1) } := ⟨_, rfl⟩
  obtain ⟨T1, hT1⟩ : ∃ T1, T1 = ((rec0.params.zip #[.int .i64 ((rows.length - 1 - k : Nat) : Int), u]).foldl (fun tmps (t, a) => tmps.setIfInBounds t a) rec0.tmps) := ⟨_, rfl⟩
  have hTT : T1 = (a.tmps.setIfInBounds p1 (.int .i64 ((rows.length - 1 - k : Nat) : Int))).setIfInBounds p2 u := by
   rw [hT1]
   have : qs = #[p1, p2] := by cases qs; simp_all
   simp [rec0, this]
  rw [← hT1]
  have hround : Frame.round (r + 1) b.fn T1 xa y .normal = br.atR { tmps := T1, defers := [] } [.code xa, .beginRound, .code y] := by
   rw [hbr2]; simp [Frame.round, Frame.atR]
  have hD1 : ¬ S'.D (r + 1) := by rw [hx'.D, he.D]; exact hDr _ (by omega)
  have hIs' : I (rows.length - 1 - k + 1) s := by rwa [show rows.length - 1 - k + 1 = rows.length - k from by omega]
  have hX0 : ∀ i, (i = r ∨ i = r + 1) → ∃ o, W.heap[i]? = some o ∧ Odd o := by
   rintro i (rfl | rfl)
   ·exact ⟨_, hr', oddD _⟩
   ·exact ⟨_, hl', oddL _⟩
  obtain ⟨rid, ops, hxa, hops⟩ := At.is_region hat1 hsk
  obtain ⟨o0, hops1, ho0⟩ := one_of hops
  clear hops
  subst hops1
  have hfrm : rels (S'.reb W fun i => i = r ∨ i = r + 1) ((fr.set p1 (.int .i64 ((rows.length - 1 - k : Nat) : Int))).set p2 (sym x)) (shape (h s)) T1.toList := by
   rw [hTT]
   simp only [Array.toList_setIfInBounds]
   refine rels_set (rels_set (rels_reb hf') p1 (by simp [rel])) p2 (sym_rel ?_)
   exact rel_reb (rel_noSh u2)
  generalize hfr0 : (fr.set p1 (.int .i64 ((rows.length - 1 - k : Nat) : Int))).set p2 (sym x) = fr0 at hfrm
  have hop : (rslvOp P #[o0] false o0).op = .mv (.t p2) := by rw [ho0]
  have hdst : o0.dst = some q := congrArg AOp.dst ho0
  have hgrd : (rslvOp P #[o0] false o0).guard = none := by rw [ho0]
  have hres1 := op_sound (σr := σr) (o := o0) (a := { tmps := T1, defers := [] }) hfrm (hw'.reb hX0) (K := fun v H' => v = ev fr0 (.t p2) ∧ H' = h s) (by
   show sat arS P (h s) (exec1 arS σr fr0 (h s) (rslvOp P #[o0] false o0).op) _
   rw [hop]
   exact ⟨rfl, rfl⟩)
  obtain ⟨uo, w1o, ⟨S1, v1, H1, x1, x2, x3, rfl, rfl⟩, st1⟩ := opRes_steps (b := br) (k := [.beginRound, .code y]) (cs := c :: cs') (rest := []) (i := 0) (ops := #[o0]) (o := o0) rfl (gOk_wanted (ops := #[o0]) (d := false) (b := true) hfrm (by rw [hgrd]; rfl)) hres1
  have hD1o : S1.D = fun i => S'.D i ∨ (i = r ∨ i = r + 1) := x1.D
  have hl1o : w1o.heap[r + 1]? = some (.loop rec0) := by
   have := (x2.prot (r + 1) (by rw [hD1o]; exact .inr (.inr rfl))).2
   rw [x1.W0] at this
   exact this.trans hl'
  have hr1o : w1o.heap[r]? = some (.deferred (some [])) := by
   have := (x2.prot r (by rw [hD1o]; exact .inr (.inl rfl))).2
   rw [x1.W0] at this
   exact this.trans hr'
  have hW1o : WRel (S1.onto S') (h s) w1o := WRel.onto (X := fun i => i = r ∨ i = r + 1) hw' x2 x1.W0 hD1o
  have hE1o : Ext S' (shape (h s)) (S1.onto S') (shape (h s)) := by have := x1.onto; exact this
  have hfr1 : rels (S1.onto S') (putL fr0 (some q) (ev fr0 (.t p2))) (shape (h s)) (({ tmps := T1, defers := [] } : Act).put o0.dst uo).tmps.toList := by
   rw [hdst]
   exact put_rels (rels_onto (rels_ext _ _ _ _ x1 hfrm)) _ (rel_onto x3)
  obtain ⟨A1, hA1⟩ : ∃ A1, A1 = ({ tmps := T1, defers := [] } : Act).put o0.dst uo := ⟨_, rfl⟩
  rw [← hA1] at hfr1 st1
  have hbeg := run_beginRound (P := P) hl1o (by simp [rec0])
  obtain ⟨W2, hW2⟩ : ∃ W2, W2 = w1o.putObj (r + 1) (.loop { rec0 with state := .busy }) := ⟨_, rfl⟩
  rw [← hW2] at hbeg
  have hwr2 : WRel (S1.onto S') (h s) W2 := by rw [hW2]; exact hW1o.putOdd hl1o (oddL _) hD1 _
  have hl2 : W2.heap[r + 1]? = some (.loop { rec0 with state := .busy }) := by rw [hW2]; exact World.putObj_heap_same (block_lt hl1o)
  have hr2 : W2.heap[r]? = some (.deferred (some [])) := by rw [hW2, World.putObj_heap_other (by omega)]; exact hr1o
  have hX : ∀ i, (i = r ∨ i = r + 1) → ∃ o, W2.heap[i]? = some o ∧ Odd o := by
   rintro i (rfl | rfl)
   ·exact ⟨_, hr2, oddD _⟩
   ·exact ⟨_, hl2, oddL _⟩
  have hbody := body (rows.length - 1 - k) x s hi hx hIs'
  rw [hfr0] at hbody
  obtain ⟨a2, w5, todo, v2, q1, q2, q3, q4⟩ := hbody ((S1.onto S').reb W2 fun i => i = r ∨ i = r + 1) ((S1.onto S').reb W2 fun i => i = r ∨ i = r + 1) W2 A1 br [.code y] (c :: cs') (Ext.refl _ _) (fun hh => by rw [hR] at hh; cases hh) (rels_reb hfr1) (hwr2.reb hX) (.cons hat2 .nil)
  rw [hR] at q1 q3
  simp only [if_true] at q3
  subst q3
  obtain ⟨S5a, v5, H5, e1a, e2a, e3, s', v5', hIs5, hEnt⟩ := q4
  obtain ⟨S5, e1, _, e2⟩ := hEnt _ (h s) w5 [v2] rfl ⟨S5a, e1a, by simp only [rels]; exact ⟨_, [], rfl, e3, rfl⟩, e2a⟩
  have hD5 : S5.D = fun i => (S1.onto S').D i ∨ (i = r ∨ i = r + 1) := e1.D
  have hl5 : w5.heap[r + 1]? = some (.loop { rec0 with state := .busy }) := by
   have := (e2.prot (r + 1) (by rw [hD5]; exact .inr (.inr rfl))).2
   rw [e1.W0] at this
   exact this.trans hl2
  have hr5 : w5.heap[r]? = some (.deferred (some [])) := by
   have := (e2.prot r (by rw [hD5]; exact .inr (.inl rfl))).2
   rw [e1.W0] at this
   exact this.trans hr2
  have hend := run_endRound (P := P) none hl5
  simp only [Option.isNone_none, if_true] at hend
  have hW5 : WRel (S5.onto (S1.onto S')) (h s') w5 := WRel.onto (X := fun i => i = r ∨ i = r + 1) hwr2 e2 e1.W0 hD5
  have hst : Steps P (lone (Frame.round (r + 1) b.fn T1 xa y .normal) (c :: cs') W) (lone (c.finish (.bool true)) cs' (w5.putObj (r + 1) (.loop rec0))) := by
   rw [hround, hxa]
   refine .head stepR_region (st1.trans (.head stepR_region_end (.head (stepR_beginRound (by rw [hbr2]) hbeg) (q1.trans (.one ?_)))))
   show Go.step P (lone (endF true (br.atR a2 [])) (c :: cs') w5) = _
   exact stepR_round_end (by rw [hbr2]) (by rw [hbr2]) hend
  refine ⟨.returned (.bool true), w5.putObj (r + 1) (.loop rec0), ⟨rfl, S5.onto (S1.onto S'), s', ?_, hx'.trans (hE1o.trans (by have := e1.onto; exact this)), hW5.putOdd hl5 (oddL _) hD1 _, ?_, World.putObj_heap_same (block_lt hl5), by rw [World.putObj_heap_other (by omega)]; exact hr5⟩, comesIn_wide.2 hst⟩
  ·rwa [show rows.length - (k + 1) = rows.length - 1 - k from by omega]
  ·have := rels_ext _ _ _ _ e1 (rels_reb (w := W2) (X := fun i => i = r ∨ i = r + 1) (rels_ext _ _ _ _ hE1o hf'))
   exact rels_onto this
end
end Go.Ab

namespace Go.Ab
open Go
set_option linter.unusedVariables false
set_option linter.unusedSimpArgs false
def renB (τ : Nat → Option Nat) : ABlk → ABlk
 | .box e cs => .box e (rens τ cs)
 | .arr e sz rows => .arr e sz rows
 | .mpb rows => .mpb rows
 | .dead s => .dead s
def pureA (H : List ABlk) : Prop := ∀ (j : Nat) (e sz : Nat) (rows : List (List AV)), H[j]? = some (.arr e sz rows) → pursS rows = true
theorem BImp.ren {τ : Nat → Option Nat} {b : ABlk} (h : ∀ e sz rows, b = .arr e sz rows → pursS rows = true) : BImp τ b (renB τ b) := by
 cases b with
 | box e cs => exact ⟨rfl, Imps.rens cs⟩
 | arr e sz rows => exact ⟨rfl, rfl, rfl, h _ _ _ rfl⟩
 | mpb rows => exact rfl
 | dead s => exact rfl
def outN (β : List Nat) (N : Nat) (j : Nat) : Option Nat :=
 match getL β j with
 | some id => some id
 | none => some (N + (j - lenL β))
def putHs (τ : Nat → Option Nat) : List Nat → List ABlk → List ABlk → List ABlk
 | i :: β, b :: bs, H => putHs τ β bs (setL H i (renB τ b))
 | _, _, H => H
def newHs (τ : Nat → Option Nat) : List Nat → List ABlk → List ABlk
 | [], bs => bs.map (renB τ)
 | _ :: β, _ :: bs => newHs τ β bs
 | _ :: _, [] => []
theorem putHs_length (τ : Nat → Option Nat) : ∀ (β : List Nat) (bs H : List ABlk), (putHs τ β bs H).length = H.length
 | [], bs, H => rfl
 | _ :: _, [], H => rfl
 | i :: β, b :: bs, H => by rw [putHs, putHs_length τ β bs, setL_eq]; simp
theorem putHs_out (τ : Nat → Option Nat) : ∀ (β : List Nat) (bs H : List ABlk) (id : Nat), id ∉ β → (putHs τ β bs H)[id]? = H[id]?
 | [], bs, H, id, _ => rfl
 | _ :: _, [], H, id, _ => rfl
 | i :: β, b :: bs, H, id, h => by
  simp only [List.mem_cons, not_or] at h
  rw [putHs, putHs_out τ β bs _ id h.2, setL_eq, List.getElem?_set_ne (fun e => h.1 e.symm)]
theorem putHs_in (τ : Nat → Option Nat) : ∀ (β : List Nat) (bs H : List ABlk) (j id : Nat) (b : ABlk), β.Nodup → β[j]? = some id → bs[j]? = some b → id < H.length → (putHs τ β bs H)[id]? = some (renB τ b)
 | [], bs, H, j, id, b, _, h, _, _ => by simp at h
 | _ :: _, [], H, j, id, b, _, _, h, _ => by simp at h
 | i :: β, b0 :: bs, H, 0, id, b, hn, h, hb, hl => by
  simp only [List.getElem?_cons_zero, Option.some.injEq] at h hb
  subst h hb
  rw [putHs, putHs_out τ β bs _ i (List.nodup_cons.1 hn).1, setL_eq]
  simp [hl]
 | i :: β, b0 :: bs, H, j + 1, id, b, hn, h, hb, hl => by
  rw [putHs]
  exact putHs_in τ β bs _ j id b (List.nodup_cons.1 hn).2 (by simpa using h) (by simpa using hb) (by rw [setL_eq]; simpa using hl)
theorem newHs_get (τ : Nat → Option Nat) : ∀ (β : List Nat) (bs : List ABlk) (k : Nat), β.length ≤ bs.length → (newHs τ β bs)[k]? = (bs[β.length + k]?).map (renB τ)
 | [], bs, k, _ => by simp [newHs]
 | _ :: _, [], k, h => by simp at h
 | i :: β, b :: bs, k, h => by
  rw [newHs, newHs_get τ β bs k (by simpa using h)]
  simp only [List.length_cons]
  rw [show β.length + 1 + k = (β.length + k) + 1 by omega]
  simp
theorem nodup_get : ∀ {β : List Nat} (_ : β.Nodup) (i j k : Nat), β[i]? = some k → β[j]? = some k → i = j
 | [], _, i, j, k, hi, _ => by simp at hi
 | x :: β, h, 0, 0, k, _, _ => rfl
 | x :: β, h, 0, j + 1, k, hi, hj => by
  simp only [List.getElem?_cons_zero, Option.some.injEq] at hi
  subst hi
  exact absurd (List.mem_of_getElem? (by simpa using hj)) (List.nodup_cons.1 h).1
 | x :: β, h, i + 1, 0, k, hi, hj => by
  simp only [List.getElem?_cons_zero, Option.some.injEq] at hj
  subst hj
  exact absurd (List.mem_of_getElem? (by simpa using hi)) (List.nodup_cons.1 h).1
 | x :: β, h, i + 1, j + 1, k, hi, hj => by
  rw [nodup_get (List.nodup_cons.1 h).2 i j k (by simpa using hi) (by simpa using hj)]
theorem idxN_some {β : List Nat} {j id : Nat} (hn : β.Nodup) (h : β[j]? = some id) : idxN β id 0 = some j := by
 have key : ∀ (β : List Nat) (k j : Nat), β[j]? = some id → ∃ i, idxN β id k = some i := by
  intro β
  induction β with
  | nil => intro k j h; simp at h
  | cons x xs ih =>
   intro k j h
   simp only [idxN]
   cases hb : Nat.beq x id with
   | true => exact ⟨k, rfl⟩
   | false =>
    cases j with
    | zero =>
     simp at h
     subst h
     have : Nat.beq x x = true := Nat.beq_refl x
     rw [this] at hb; cases hb
    | succ j => exact ih (k + 1) j (by simpa using h)
 obtain ⟨i, hi⟩ := key β 0 j h
 have := (idxN_get hi).2
 rw [hi, nodup_get hn j i id h (by simpa using this)]
theorem idxN_none {β : List Nat} {id : Nat} (h : id ∉ β) : idxN β id 0 = none := by
 cases hi : idxN β id 0 with
 | none => rfl
 | some j => exact absurd (List.mem_of_getElem? (by simpa using (idxN_get hi).2)) h
section
variable {P : Program} {f : FuncId} {args args' : List AV} {H Hg : List ABlk} {R : AV → List ABlk → Prop}
theorem CallsA.ren (β : List Nat) (h : CallsA P f args' Hg R) (hn : β.Nodup) (hlen : Hg.length = β.length)
  (hb : ∀ j id : Nat, β[j]? = some id → ∃ x b, H[id]? = some x ∧ Hg[j]? = some b ∧ BImp (fun i => idxN β i 0) x b) (hx : Imps (fun i => idxN β i 0) args args')
  (hR : ∀ r H', R r H' → β.length ≤ H'.length ∧ pureA H') :
  CallsA P f args H (fun r H'' => ∃ r0 H0, R r0 H0 ∧ r = Ab.ren (outN β H.length) r0 ∧ H'' = putHs (outN β H.length) β H0 H ++ newHs (outN β H.length) β H0) := by
 refine ⟨h.1, fun S w vs hw hr => ?_⟩
 have hnd := nodup_get hn
 let D1 : Nat → Prop := fun k => k < w.heap.size ∧ ¬ ∃ (j id c : Nat) (b : ABlk), β[j]? = some id ∧ H[id]? = some b ∧ b.live = true ∧ S.ρ id = some (k, c)
 let S1 : RS := { W0 := w, D := D1, ρ := fun j => (β[j]?).bind S.ρ, φ := S.φ }
 have hβ : ∀ {j id : Nat}, β[j]? = some id → shape Hg j = shape H id ∧ S1.ρ j = S.ρ id := fun {j id} hj => by
  obtain ⟨x, b, h1, h2, h3⟩ := hb j id hj
  exact ⟨by rw [shape_get h1, shape_get h2, h3.shp], by simp [S1, hj]⟩
 have hc : Cmp (fun i => idxN β i 0) S (shape H) S1 (shape Hg) := ⟨fun id j hj => hβ (by simpa using (idxN_get hj).2), fun _ _ _ h => h⟩
 have hget : ∀ {j b}, Hg[j]? = some b → ∃ id x, β[j]? = some id ∧ H[id]? = some x ∧ BImp (fun i => idxN β i 0) x b := fun {j b} hj => by
  have hjl : j < β.length := by rw [← hlen]; exact get_lt hj
  obtain ⟨x, b2, h1, h2, h3⟩ := hb j β[j] (List.getElem?_eq_getElem hjl)
  rw [hj] at h2
  injection h2 with h2
  subst h2
  exact ⟨β[j], x, List.getElem?_eq_getElem hjl, h1, h3⟩
 have hw1 : WRel S1 Hg w := by
  refine ⟨rfl, rfl, rfl, Nat.le_refl _, fun k hk => ⟨hk.1, rfl⟩, hw.fro, hw.gl, fun j b hj => ?_, fun i j b1 b2 B c c' hi hj li lj hBi hBj => ?_⟩
  ·obtain ⟨id, x, h1, h2, h3⟩ := hget hj
   have hblk := hw.blk id x h2
   cases x with
   | dead s => cases b <;> simp only [BImp] at h3; trivial
   | mpb rows =>
    cases b <;> simp only [BImp] at h3
    subst h3
    obtain ⟨B, c, es, clock, g1, g2, g3, g5⟩ := hblk
    exact ⟨B, c, es, clock, (hβ h1).2.trans g1, g2, entR_ext hc.noSh g3, fun hd => hd.2 ⟨j, id, c, _, h1, h2, rfl, g1⟩, g5.2⟩
   | box e cs =>
    cases b <;> simp only [BImp] at h3 <;> try exact h3.elim
    obtain ⟨rfl, hi⟩ := h3
    obtain ⟨B, c, arr, g1, g2, g3, g4, g5⟩ := hblk
    exact ⟨B, c, arr, (hβ h1).2.trans g1, g2, hi.rels hc g3, g4, fun hd => hd.2 ⟨j, id, c, _, h1, h2, rfl, g1⟩, g5.2⟩
   | arr e sz rows =>
    cases b <;> simp only [BImp] at h3 <;> try exact h3.elim
    obtain ⟨rfl, rfl, rfl, hp⟩ := h3
    obtain ⟨h0, hblk⟩ := hblk
    refine ⟨h0, ?_⟩
    rw [(hβ h1).2]
    cases hs : S.ρ id with
    | none => rw [hs] at hblk; exact hblk
    | some p =>
     obtain ⟨B, c⟩ := p
     rw [hs] at hblk
     obtain ⟨arr, g2, g3, g4, g5, g6⟩ := hblk
     refine ⟨arr, g2, g3, g4, fun i r hi => ?_, fun hd => hd.2 ⟨j, id, c, _, h1, h2, rfl, hs⟩, g6.2⟩
     obtain ⟨q1, q2⟩ := g5 i r hi
     refine ⟨q1, fun k c hk => ?_⟩
     obtain ⟨u, m1, m2, m3⟩ := q2 k c hk
     exact ⟨u, m1, Imp.pure (purs_mem (pursS_mem hp r (List.mem_of_getElem? hi)) c (List.mem_of_getElem? hk)) _ _ _ _ _ hc m2, m3⟩
  ·obtain ⟨id1, x1, p1, p2, p3⟩ := hget hi
   obtain ⟨id2, x2, q1, q2, q3⟩ := hget hj
   rw [(hβ p1).2] at hBi
   rw [(hβ q1).2] at hBj
   have := hw.inj id1 id2 x1 x2 B c c' p2 q2 (p3.live ▸ li) (q3.live ▸ lj) hBi hBj
   subst this
   exact hnd i j id1 p1 q1
 refine (h.2 S1 w vs hw1 (hx.rels hc hr)).mono fun e w' ⟨u, he, S2, r, Hp, q1, q2, q3, q4⟩ => ⟨u, he, ?_⟩
 obtain ⟨hlp, hpure⟩ := hR r Hp q4
 have hW2 : S2.W0 = w := q1.W0
 have hD2 : S2.D = D1 := q1.D
 let τ := outN β H.length
 let H' := putHs τ β Hp H ++ newHs τ β Hp
 let S' : RS := { W0 := S.W0, D := S.D, ρ := fun id => match idxN β id 0 with | some j => S2.ρ j | none => if id < H.length then S.ρ id else S2.ρ (β.length + (id - H.length)), φ := S2.φ }
 have hβlt : ∀ {j id : Nat}, β[j]? = some id → id < H.length := fun {j id} hj => by
  obtain ⟨x, b, h1, _⟩ := hb j id hj
  exact get_lt h1
 have hin : ∀ {j id : Nat}, β[j]? = some id → (∃ b, Hp[j]? = some b ∧ H'[id]? = some (renB τ b)) ∧ S'.ρ id = S2.ρ j := fun {j id} hj => by
  have hjl : j < β.length := (List.getElem?_eq_some_iff.1 hj).1
  have h1 : Hp[j]? = some Hp[j] := List.getElem?_eq_getElem (by omega)
  refine ⟨⟨Hp[j], h1, ?_⟩, by simp only [S', idxN_some hn hj]⟩
  show (putHs τ β Hp H ++ newHs τ β Hp)[id]? = _
  rw [List.getElem?_append_left (by rw [putHs_length]; exact hβlt hj)]
  exact putHs_in τ β Hp H j id _ hn hj h1 (hβlt hj)
 have hout : ∀ {id : Nat}, id < H.length → id ∉ β → H'[id]? = H[id]? ∧ S'.ρ id = S.ρ id := fun {id} hid hni => by
  refine ⟨?_, by simp only [S', idxN_none hni, if_pos hid]⟩
  show (putHs τ β Hp H ++ newHs τ β Hp)[id]? = _
  rw [List.getElem?_append_left (by rw [putHs_length]; exact hid), putHs_out τ β Hp H id hni]
 have hnew : ∀ {id : Nat}, H.length ≤ id → H'[id]? = (Hp[β.length + (id - H.length)]?).map (renB τ) ∧ S'.ρ id = S2.ρ (β.length + (id - H.length)) := fun {id} hid => by
  have hni : id ∉ β := fun hm => by
   obtain ⟨j, hj⟩ := List.getElem?_of_mem hm
   have := hβlt hj
   omega
  refine ⟨?_, by simp only [S', idxN_none hni, if_neg (Nat.not_lt.2 hid)]⟩
  show (putHs τ β Hp H ++ newHs τ β Hp)[id]? = _
  rw [List.getElem?_append_right (by rw [putHs_length]; exact hid), putHs_length, newHs_get τ β Hp _ hlp]
 have renShp : ∀ b : ABlk, (renB τ b).shp = b.shp := fun b => by cases b <;> simp [renB, ABlk.shp, rens_length]
 have renLive : ∀ b : ABlk, (renB τ b).live = b.live := fun b => by cases b <;> rfl
 have hshape : ∀ {id j : Nat} {b : ABlk}, Hp[j]? = some b → H'[id]? = some (renB τ b) → shape H' id = shape Hp j := fun {id j b} h1 h2 => by rw [shape_get h1, shape_get h2, renShp]
 have hext2 : Cmp τ S2 (shape Hp) S' (shape H') := ⟨fun j id hj => by
  simp only [τ, outN, getL_eq, lenL_eq] at hj
  cases hg : β[j]? with
  | some id' =>
   rw [hg] at hj
   simp only [Option.some.injEq] at hj
   subst hj
   obtain ⟨⟨b, h1, h2⟩, h3⟩ := hin hg
   exact ⟨hshape h1 h2, h3⟩
  | none =>
   rw [hg] at hj
   simp only [Option.some.injEq] at hj
   have hge : β.length ≤ j := List.getElem?_eq_none_iff.1 hg
   obtain ⟨h1, h2⟩ := hnew (id := id) (by omega)
   rw [show β.length + (id - H.length) = j by omega] at h1 h2
   refine ⟨?_, h2⟩
   simp only [shape, h1, Option.map_map]
   cases Hp[j]? with
   | none => rfl
   | some b => simp [renShp], fun _ _ _ h => h⟩
 have hkeep : ∀ k, D1 k → w'.heap[k]? = w.heap[k]? := fun k hk => by
  have := (q2.prot k (by rw [hD2]; exact hk)).2
  rw [hW2] at this
  exact this
 have hDD : ∀ k, S.D k → D1 k := fun k hk => ⟨Nat.lt_of_lt_of_le (hw.prot k hk).1 hw.size, fun ⟨j, id, c, b, hj, hbb, hl, hρ⟩ => (hw.place_lt hbb hl hρ).2.1 hk⟩
 have hrest : ∀ {id : Nat} {b B c}, id ∉ β → H[id]? = some b → b.live = true → S.ρ id = some (B, c) → D1 B := fun {id b B c} hni hbb hl hρ => by
  refine ⟨(hw.place_lt hbb hl hρ).1, fun ⟨j, id', c', b', hj, hb', hl', hρ'⟩ => ?_⟩
  have := hw.inj id id' b b' B c c' hbb hb' hl hl' hρ hρ'
  subst this
  exact hni (List.mem_of_getElem? hj)
 have hext : Ext S (shape H) S' (shape H') := by
  have hcase : ∀ {id : Nat} {s}, shape H id = some s → (∃ j, β[j]? = some id ∧ shape H' id = shape Hp j ∧ S'.ρ id = S2.ρ j ∧ shape Hg j = some s ∧ S1.ρ j = S.ρ id) ∨ (shape H' id = some s ∧ S'.ρ id = S.ρ id) := fun {id s} hs => by
   by_cases hm : id ∈ β
   ·obtain ⟨j, hj⟩ := List.getElem?_of_mem hm
    obtain ⟨⟨b, h1, h2⟩, h3⟩ := hin hj
    obtain ⟨h4, h5⟩ := hβ hj
    exact .inl ⟨j, hj, hshape h1 h2, h3, h4.trans hs, h5⟩
   ·obtain ⟨h1, h2⟩ := hout (shape_lt hs) hm
    exact .inr ⟨by simp only [shape, h1]; exact hs, h2⟩
  refine ⟨rfl, rfl, q1.fro, fun B o v hv => ?_, fun id n hn => ?_, fun id hn => ?_, fun id m sz hn => ?_⟩
  ·rcases q1.fnw B o v hv with h1 | h1
   ·exact .inl h1
   ·exact .inr fun hd => h1 (hDD B hd)
  ·rcases hcase hn with ⟨j, hj, h1, h2, h3, h4⟩ | h1
   ·obtain ⟨a, b⟩ := q1.box j n h3
    exact ⟨h1.trans a, h2.trans (b.trans h4)⟩
   ·exact h1
  ·rcases hcase hn with ⟨j, hj, h1, h2, h3, h4⟩ | h1
   ·obtain ⟨a, b⟩ := q1.mp j h3
    exact ⟨h1.trans a, h2.trans (b.trans h4)⟩
   ·exact h1
  ·rcases hcase hn with ⟨j, hj, h1, h2, h3, h4⟩ | ⟨h1, h2⟩
   ·obtain ⟨m', a, b, c⟩ := q1.row j m sz h3
    exact ⟨m', h1.trans a, b, fun hm => h2.trans ((c hm).trans h4)⟩
   ·exact ⟨m, h1, Nat.le_refl _, fun _ => h2⟩
 refine ⟨S', Ab.ren τ r, H', hext, ?_, ren_rel hext2 r u q3, r, Hp, q4, rfl, rfl⟩
 have hsz : w.heap.size ≤ w'.heap.size := by have := q2.size; rw [hW2] at this; exact this
 have hOwn : ∀ B, Own S2 B → Own S' B := fun B ho => ⟨fun hd => ho.1 (by rw [hD2]; exact hDD B hd), ho.2⟩
 have hkind : ∀ {id : Nat} {b}, H'[id]? = some b → (∃ j b0, Hp[j]? = some b0 ∧ b = renB τ b0 ∧ S'.ρ id = S2.ρ j ∧ (β[j]? = some id ∨ (H.length ≤ id ∧ j = β.length + (id - H.length)))) ∨ (id ∉ β ∧ id < H.length ∧ H[id]? = some b ∧ S'.ρ id = S.ρ id) := fun {id b} hb' => by
  by_cases hm : id ∈ β
  ·obtain ⟨j, hj⟩ := List.getElem?_of_mem hm
   obtain ⟨⟨b0, h1, h2⟩, h3⟩ := hin hj
   rw [h2] at hb'
   injection hb' with hb'
   exact .inl ⟨j, b0, h1, hb'.symm, h3, .inl hj⟩
  ·rcases Nat.lt_or_ge id H.length with hlt | hge
   ·obtain ⟨h1, h2⟩ := hout hlt hm
    exact .inr ⟨hm, hlt, h1 ▸ hb', h2⟩
   ·obtain ⟨h1, h2⟩ := hnew hge
    rw [h1] at hb'
    obtain ⟨b0, h3, h4⟩ := Option.map_eq_some_iff.1 hb'
    exact .inl ⟨_, b0, h3, h4.symm, h2, .inr ⟨hge, rfl⟩⟩
 refine ⟨?_, ?_, ?_, Nat.le_trans hw.size hsz, fun k hk => ?_, q2.fro, q2.gl, fun id b hb' => ?_, fun i j b b' B c c' hi hj li lj hBi hBj => ?_⟩
 ·have := q2.os; rw [hW2] at this; exact this.trans hw.os
 ·have := q2.tape; rw [hW2] at this; exact this.trans hw.tape
 ·have := q2.output; rw [hW2] at this; exact this.trans hw.output
 ·obtain ⟨a, b⟩ := hw.prot k hk
  exact ⟨a, (hkeep k (hDD k hk)).trans b⟩
 ·rcases hkind hb' with ⟨j, b0, h1, rfl, h2, _⟩ | ⟨hm, hlt, h1, h2⟩
  ·exact (BImp.ren fun e sz rows he => hpure j e sz rows (he ▸ h1)).blk hext2 h2 hOwn (q2.blk j b0 h1)
  ·refine (hw.blk id b h1).keep hext (fun _ => h2) (fun B c hl hB _ ho => ?_)
   have hd := hrest hm h1 hl hB
   refine ⟨hkeep B hd, ho.1, fun o => ?_⟩
   cases hv : S'.φ B o with
   | none => rfl
   | some v =>
    rcases q1.fnw B o v hv with h3 | h3
    ·have h3 : S.φ B o = some v := h3
     rw [ho.2 o] at h3; cases h3
    ·exact absurd hd h3
 ·rcases hkind hi with ⟨j1, b1, p1, rfl, p2, p3⟩ | ⟨m1, l1, p1, p2⟩ <;> rcases hkind hj with ⟨j2, b2, g1, rfl, g2, g3⟩ | ⟨m2, l2, g1, g2⟩
  ·rw [p2] at hBi
   rw [g2] at hBj
   have := q2.inj j1 j2 b1 b2 B c c' p1 g1 (renLive b1 ▸ li) (renLive b2 ▸ lj) hBi hBj
   subst this
   rcases p3 with p3 | ⟨p3, p4⟩ <;> rcases g3 with g3 | ⟨g3, g4⟩
   ·rw [p3] at g3; injection g3
   ·have := (List.getElem?_eq_some_iff.1 p3).1; omega
   ·have := (List.getElem?_eq_some_iff.1 g3).1; omega
   ·omega
  ·rw [p2] at hBi
   rw [g2] at hBj
   have hd := hrest m2 g1 lj hBj
   exact absurd (by rw [hD2]; exact hd) (q2.place_lt p1 (renLive b1 ▸ li) hBi).2.1
  ·rw [p2] at hBi
   rw [g2] at hBj
   have hd := hrest m1 p1 li hBi
   exact absurd (by rw [hD2]; exact hd) (q2.place_lt g1 (renLive b2 ▸ lj) hBj).2.1
  ·rw [p2] at hBi
   rw [g2] at hBj
   exact hw.inj i j b b' B c c' p1 g1 li lj hBi hBj
end
end Go.Ab

namespace Go.Ab
open Go
set_option linter.unusedVariables false
set_option linter.unusedSimpArgs false
inductive Lf where
 | i (n : Int)
 | b (b : Bool)
 | s (s : ByteArray)
 | r (rows : List (List AV))
 | n (n : Nat)
 deriving Inhabited
abbrev Rs := List (List (List AV))
inductive S1 where
 | any
 | c (v : AV)
 | int (k : IntKind)
 | sb
 | str
 | inl (sz : Nat)
 | sl (id : Nat)
 | slp (id : Nat)
 | slh (id : Nat)
 | ptr (id off : Nat)
 | bptr (id off : Nat)
 | map (id : Nat)
 | iptr (cs : List S1)
 | agg (cs : List S1)
 | tup (cs : List S1)
 | fn (f : FuncId) (a b : List S1)
 | iface (t : TypeId) (s : S1)
 deriving Inhabited
inductive SB where
 | box (e : TypeId) (cs : List S1)
 | arr (e sz : Nat)
 | mp
 deriving Inhabited
def puAll : Rs → Prop
 | [] => True
 | r :: rs => pursS r = true ∧ puAll rs
def eqK : AV → AV → Bool
 | .nilp, .nilp => true
 | .nils, .nils => true
 | .nilf, .nilf => true
 | .nili, .nili => true
 | .nilm, .nilm => true
 | .bool true, .bool true => true
 | .bool false, .bool false => true
 | _, _ => false
theorem eqK_eq {a b : AV} (h : eqK a b = true) : b = a ∧ pur a = true := by
 unfold eqK at h
 split at h <;> first | exact ⟨rfl, rfl⟩ | cases h
mutual
def bld (A : Ar) (ρ : Nat → List (List AV)) : S1 → List Lf → AV × List Lf
 | .any, vs => (.junk, vs)
 | .c v, vs => (v, vs)
 | .int k, vs => match vs with
  | .i n :: vs => (.int k n, vs)
  | vs => (.junk, vs)
 | .sb, vs => match vs with
  | .b b :: vs => (.sb b, vs)
  | vs => (.junk, vs)
 | .str, vs => match vs with
  | .s x :: vs => (.str x, vs)
  | vs => (.junk, vs)
 | .inl sz, vs => match vs with
  | .r rows :: vs => (.inl sz rows, vs)
  | vs => (.junk, vs)
 | .sl id, vs => (.sl id (A.rlen (ρ id)) 0 (A.rlen (ρ id)), vs)
 | .slp id, vs => match vs with
  | .n o :: .n k :: vs => (.sl id (A.rlen (ρ id)) o k, vs)
  | vs => (.junk, vs)
 | .slh id, vs => match vs with
  | .n k :: vs => (.sl id (A.rlen (ρ id)) 0 k, vs)
  | vs => (.junk, vs)
 | .ptr id off, vs => match vs with
  | .n r :: vs => (.ptr id (A.rlen (ρ id)) r off, vs)
  | vs => (.junk, vs)
 | .bptr id off, vs => (.bptr id off, vs)
 | .map id, vs => (.map id, vs)
 | .iptr cs, vs => match blds A ρ cs vs with
  | (xs, vs) => (.iptr xs, vs)
 | .agg cs, vs => match blds A ρ cs vs with
  | (xs, vs) => (.agg xs, vs)
 | .tup cs, vs => match blds A ρ cs vs with
  | (xs, vs) => (.tup xs, vs)
 | .fn f a b, vs => match blds A ρ a vs with
  | (xs, vs) => match blds A ρ b vs with
   | (ys, vs) => (.fn (.func f) xs ys, vs)
 | .iface t s, vs => match bld A ρ s vs with
  | (x, vs) => (.iface t x, vs)
def blds (A : Ar) (ρ : Nat → List (List AV)) : List S1 → List Lf → List AV × List Lf
 | [], vs => ([], vs)
 | s :: ss, vs => match bld A ρ s vs with
  | (x, vs) => match blds A ρ ss vs with
   | (xs, vs) => (x :: xs, vs)
end
def lookP : List (Nat × Nat) → Nat → Option Nat
 | [], _ => none
 | (j, id) :: l, i => match Nat.beq j i with
  | true => some id
  | false => lookP l i
def bnd (β : List (Nat × Nat)) (j id : Nat) (k : List (Nat × Nat) → Prop) : Prop :=
 match lookP β j with
 | some id' => match Nat.beq id id' with
  | true => k β
  | false => False
 | none => k ((j, id) :: β)
mutual
def mt (A : Ar) (H : List ABlk) : S1 → AV → List (Nat × Nat) → List Lf → (List (Nat × Nat) → List Lf → Prop) → Prop
 | .any, _, β, vs, k => k β vs
 | .c v0, v, β, vs, k => match eqK v0 v with
  | true => k β vs
  | false => False
 | .int k0, v, β, vs, k => match v with
  | .int k1 n => if k0 = k1 then k β (appL vs [.i n]) else False
  | _ => False
 | .sb, v, β, vs, k => match v with
  | .bool b => k β (appL vs [.b b])
  | .sb b => k β (appL vs [.b b])
  | _ => False
 | .str, v, β, vs, k => match v with
  | .str s => k β (appL vs [.s s])
  | _ => False
 | .inl sz, v, β, vs, k => match v with
  | .inl sz' rows => match Nat.beq sz sz' with
   | true => k β (appL vs [.r rows])
   | false => False
  | .nils => k β (appL vs [.r []])
  | _ => False
 | .sl j, v, β, vs, k => match v with
  | .sl id t o n => match getL H id with
   | some (.arr _ _ rows) => bnd β j id fun β => A.nd (.and (.eqN t (A.rlen rows)) (.and (.eqN o 0) (.eqN n (A.rlen rows)))) ∧ k β vs
   | _ => False
  | _ => False
 | .slp j, v, β, vs, k => match v with
  | .sl id t o n => match getL H id with
   | some (.arr _ _ rows) => bnd β j id fun β => A.nd (.eqN t (A.rlen rows)) ∧ k β (appL vs [.n o, .n n])
   | _ => False
  | _ => False
 | .slh j, v, β, vs, k => match v with
  | .sl id t o n => match getL H id with
   | some (.arr _ _ rows) => bnd β j id fun β => A.nd (.and (.eqN t (A.rlen rows)) (.eqN o 0)) ∧ k β (appL vs [.n n])
   | _ => False
  | _ => False
 | .ptr j off, v, β, vs, k => match v with
  | .ptr id t r o => match Nat.beq off o, getL H id with
   | true, some (.arr _ _ rows) => bnd β j id fun β => A.nd (.eqN t (A.rlen rows)) ∧ k β (appL vs [.n r])
   | _, _ => False
  | _ => False
 | .map j, v, β, vs, k => match v with
  | .map id => bnd β j id fun β => k β vs
  | _ => False
 | .bptr j off, v, β, vs, k => match v with
  | .bptr id o => match Nat.beq off o with
   | true => bnd β j id fun β => k β vs
   | false => False
  | _ => False
 | .iptr cs, v, β, vs, k => match v with
  | .iptr xs => mts A H cs xs β vs k
  | _ => False
 | .agg cs, v, β, vs, k => match v with
  | .agg xs => mts A H cs xs β vs k
  | _ => False
 | .tup cs, v, β, vs, k => match v with
  | .tup xs => mts A H cs xs β vs k
  | _ => False
 | .fn f a b, v, β, vs, k => match v with
  | .fn (.func f') xs ys => match Nat.beq f f' with
   | true => mts A H a xs β vs fun β vs => mts A H b ys β vs k
   | false => False
  | _ => False
 | .iface t s, v, β, vs, k => match v with
  | .iface t' x => match Nat.beq t t' with
   | true => mt A H s x β vs k
   | false => False
  | _ => False
def mts (A : Ar) (H : List ABlk) : List S1 → List AV → List (Nat × Nat) → List Lf → (List (Nat × Nat) → List Lf → Prop) → Prop
 | [], xs, β, vs, k => match xs with
  | [] => k β vs
  | _ => False
 | s :: ss, xs, β, vs, k => match xs with
  | x :: xs => mt A H s x β vs fun β vs => mts A H ss xs β vs k
  | [] => False
end
def LeP (β β' : List (Nat × Nat)) : Prop := ∀ j id, lookP β j = some id → lookP β' j = some id
theorem LeP.refl (β : List (Nat × Nat)) : LeP β β := fun _ _ h => h
theorem LeP.trans {β β' β'' : List (Nat × Nat)} (h : LeP β β') (k : LeP β' β'') : LeP β β'' := fun j id hj => k j id (h j id hj)
def GoodP (H : List ABlk) (τ : Nat → Option Nat) (ρ : Nat → List (List AV)) (β : List (Nat × Nat)) : Prop :=
 ∀ j id, lookP β j = some id → τ id = some j ∧ ∀ e sz rows, H[id]? = some (.arr e sz rows) → ρ j = rows
theorem GoodP.le {H : List ABlk} {τ : Nat → Option Nat} {ρ : Nat → List (List AV)} {β β' : List (Nat × Nat)} (h : GoodP H τ ρ β') (hl : LeP β β') : GoodP H τ ρ β := fun j id hj => h j id (hl j id hj)
theorem bnd_sound {β : List (Nat × Nat)} {j id : Nat} {k : List (Nat × Nat) → Prop} (h : bnd β j id k) : ∃ β', k β' ∧ LeP β β' ∧ lookP β' j = some id := by
 unfold bnd at h
 split at h
 ·rename_i id' he
  split at h
  ·rename_i hb
   have := Nat.eq_of_beq_eq_true hb
   subst this
   exact ⟨β, h, LeP.refl _, he⟩
  ·exact h.elim
 ·rename_i he
  refine ⟨_, h, fun j' id' hj' => ?_, ?_⟩
  ·simp only [lookP]
   cases hb : Nat.beq j j' with
   | true => have := Nat.eq_of_beq_eq_true hb; subst this; rw [he] at hj'; cases hj'
   | false => exact hj'
  ·simp only [lookP, Nat.beq_refl]
section
variable {H : List ABlk}
theorem Imps.fz {τ : Nat → Option Nat} {S : RS} {T : Sh} {S' : RS} {T' : Sh} (hc : Cmp τ S T S' T') : ∀ {xs ys : List AV} {B o : Nat}, Imps τ xs ys → fz S B o xs → fz S' B o ys
 | [], [], B, o, _, _ => trivial
 | x :: xs, y :: ys, B, o, hi, h => by
  simp only [Ab.fz] at h ⊢
  obtain ⟨⟨v, h1, h2, h3⟩, h4⟩ := h
  exact ⟨⟨v, hc.fro _ _ _ h1, hi.1 S Ab.noSh S' Ab.noSh v ⟨fun id j hj => ⟨rfl, (hc.blk id j hj).2⟩, hc.fro⟩ h2, h3⟩, Imps.fz hc hi.2 h4⟩
 | [], _ :: _, _, _, h, _ => h.elim
 | _ :: _, [], _, _, h, _ => h.elim
def MtOk (H : List ABlk) (s : S1) (v : AV) (β : List (Nat × Nat)) (vs : List Lf) (k : List (Nat × Nat) → List Lf → Prop) : Prop :=
 ∃ β' new, k β' (vs ++ new) ∧ LeP β β' ∧ ∀ τ ρ, GoodP H τ ρ β' → ∀ rest, ∃ a, bld arS ρ s (new ++ rest) = (a, rest) ∧ Imp τ v a
def MtsOk (H : List ABlk) (ss : List S1) (xs : List AV) (β : List (Nat × Nat)) (vs : List Lf) (k : List (Nat × Nat) → List Lf → Prop) : Prop :=
 ∃ β' new, k β' (vs ++ new) ∧ LeP β β' ∧ ∀ τ ρ, GoodP H τ ρ β' → ∀ rest, ∃ as, blds arS ρ ss (new ++ rest) = (as, rest) ∧ Imps τ xs as
theorem Imp.sl {τ : Nat → Option Nat} {id j t o n : Nat} (h : τ id = some j) : Imp τ (.sl id t o n) (.sl j t o n) := by
 have := Imp.ren (τ := τ) (.sl id t o n)
 simpa [Ab.ren, h] using this
theorem Imp.ptr {τ : Nat → Option Nat} {id j t o n : Nat} (h : τ id = some j) : Imp τ (.ptr id t o n) (.ptr j t o n) := by
 have := Imp.ren (τ := τ) (.ptr id t o n)
 simpa [Ab.ren, h] using this
theorem Imp.map {τ : Nat → Option Nat} {id j : Nat} (h : τ id = some j) : Imp τ (.map id) (.map j) := by
 have := Imp.ren (τ := τ) (.map id)
 simpa [Ab.ren, h] using this
theorem Imp.bptr {τ : Nat → Option Nat} {id j o : Nat} (h : τ id = some j) : Imp τ (.bptr id o) (.bptr j o) := by
 have := Imp.ren (τ := τ) (.bptr id o)
 simpa [Ab.ren, h] using this
mutual
theorem mt_sound : ∀ (s : S1) (v : AV) (β : List (Nat × Nat)) (vs : List Lf) (k : List (Nat × Nat) → List Lf → Prop), mt arS H s v β vs k → MtOk H s v β vs k
 | .any, v, β, vs, k, h => ⟨β, [], by simpa [mt] using h, LeP.refl _, fun τ ρ _ rest => ⟨.junk, by simp [bld], Imp.junk _⟩⟩
 | .c v0, v, β, vs, k, h => by
  simp only [mt] at h
  split at h
  ·rename_i he
   obtain ⟨rfl, hp⟩ := eqK_eq he
   exact ⟨β, [], by simpa using h, LeP.refl _, fun τ ρ _ rest => ⟨v, by simp [bld], Imp.pure hp⟩⟩
  ·exact h.elim
 | .int k0, v, β, vs, k, h => by
  simp only [mt] at h
  split at h
  ·split at h
   ·rename_i k1 n he
    subst he
    exact ⟨β, [.i n], by simpa [appL_eq] using h, LeP.refl _, fun τ ρ _ rest => ⟨.int k0 n, by simp [bld], Imp.pure rfl⟩⟩
   ·exact h.elim
  ·exact h.elim
 | .sb, v, β, vs, k, h => by
  simp only [mt] at h
  split at h
  ·rename_i b
   exact ⟨β, [.b b], by simpa [appL_eq] using h, LeP.refl _, fun τ ρ _ rest => ⟨.sb b, by simp [bld], fun S T S' T' v _ hv => by simpa only [rel] using hv⟩⟩
  ·rename_i b
   exact ⟨β, [.b b], by simpa [appL_eq] using h, LeP.refl _, fun τ ρ _ rest => ⟨.sb b, by simp [bld], Imp.pure rfl⟩⟩
  ·exact h.elim
 | .str, v, β, vs, k, h => by
  simp only [mt] at h
  split at h
  ·rename_i x
   exact ⟨β, [.s x], by simpa [appL_eq] using h, LeP.refl _, fun τ ρ _ rest => ⟨.str x, by simp [bld], Imp.pure rfl⟩⟩
  ·exact h.elim
 | .inl sz, v, β, vs, k, h => by
  simp only [mt] at h
  split at h
  ·split at h
   ·rename_i sz' rows _ hb
    have := Nat.eq_of_beq_eq_true hb
    subst this
    exact ⟨β, [.r rows], by simpa [appL_eq] using h, LeP.refl _, fun τ ρ _ rest => ⟨.inl sz rows, by simp [bld], Imp.pure rfl⟩⟩
   ·exact h.elim
  ·exact ⟨β, [.r []], by simpa [appL_eq] using h, LeP.refl _, fun τ ρ _ rest => ⟨.inl sz [], by simp [bld], fun S T S' T' v hc hv => by
    have := rel_nils sz hv
    have := (Imp.pure (τ := τ) (c := .inl sz []) rfl) _ _ _ _ _ hc this
    exact this⟩⟩
  ·exact h.elim
 | .sl j, v, β, vs, k, h => by
  simp only [mt] at h
  split at h
  ·rename_i id t o n
   split at h
   ·rename_i e sz rows hg
    rw [getL_eq] at hg
    obtain ⟨β', ⟨⟨h1, h2, h3⟩, h4⟩, hl, hj⟩ := bnd_sound h
    refine ⟨β', [], by simpa using h4, hl, fun τ ρ hG rest => ⟨_, by simp only [bld, List.nil_append]; rfl, ?_⟩⟩
    obtain ⟨g1, g2⟩ := hG j id hj
    have h1 : t = rows.length := h1
    have h2 : o = 0 := h2
    have h3 : n = rows.length := h3
    rw [g2 e sz rows hg]
    subst h1 h2 h3
    exact Imp.sl g1
   ·exact h.elim
  ·exact h.elim
 | .slp j, v, β, vs, k, h => by
  simp only [mt] at h
  split at h
  ·rename_i id t o n
   split at h
   ·rename_i e sz rows hg
    rw [getL_eq] at hg
    obtain ⟨β', ⟨h1, h4⟩, hl, hj⟩ := bnd_sound h
    refine ⟨β', [.n o, .n n], by simpa [appL_eq] using h4, hl, fun τ ρ hG rest => ⟨_, by simp only [bld, List.cons_append, List.nil_append]; rfl, ?_⟩⟩
    obtain ⟨g1, g2⟩ := hG j id hj
    have h1 : t = rows.length := h1
    rw [g2 e sz rows hg]
    subst h1
    exact Imp.sl g1
   ·exact h.elim
  ·exact h.elim
 | .slh j, v, β, vs, k, h => by
  simp only [mt] at h
  split at h
  ·rename_i id t o n
   split at h
   ·rename_i e sz rows hg
    rw [getL_eq] at hg
    obtain ⟨β', ⟨⟨h1, h2⟩, h4⟩, hl, hj⟩ := bnd_sound h
    refine ⟨β', [.n n], by simpa [appL_eq] using h4, hl, fun τ ρ hG rest => ⟨_, by simp only [bld, List.cons_append, List.nil_append]; rfl, ?_⟩⟩
    obtain ⟨g1, g2⟩ := hG j id hj
    have h1 : t = rows.length := h1
    have h2 : o = 0 := h2
    rw [g2 e sz rows hg]
    subst h1 h2
    exact Imp.sl g1
   ·exact h.elim
  ·exact h.elim
 | .ptr j off, v, β, vs, k, h => by
  simp only [mt] at h
  split at h
  ·rename_i id t r o
   split at h
   ·rename_i e sz rows hb hg
    rw [getL_eq] at hg
    have := Nat.eq_of_beq_eq_true hb
    subst this
    obtain ⟨β', ⟨h1, h4⟩, hl, hj⟩ := bnd_sound h
    refine ⟨β', [.n r], by simpa [appL_eq] using h4, hl, fun τ ρ hG rest => ⟨_, by simp only [bld, List.cons_append, List.nil_append]; rfl, ?_⟩⟩
    obtain ⟨g1, g2⟩ := hG j id hj
    have h1 : t = rows.length := h1
    rw [g2 e sz rows hg]
    subst h1
    exact Imp.ptr g1
   ·exact h.elim
  ·exact h.elim
 | .map j, v, β, vs, k, h => by
  simp only [mt] at h
  split at h
  ·rename_i id
   obtain ⟨β', h4, hl, hj⟩ := bnd_sound h
   exact ⟨β', [], by simpa using h4, hl, fun τ ρ hG rest => ⟨.map j, by simp only [bld, List.nil_append], Imp.map (hG j id hj).1⟩⟩
  ·exact h.elim
 | .bptr j off, v, β, vs, k, h => by
  simp only [mt] at h
  split at h
  ·rename_i id o
   split at h
   ·rename_i hb
    have := Nat.eq_of_beq_eq_true hb
    subst this
    obtain ⟨β', h4, hl, hj⟩ := bnd_sound h
    exact ⟨β', [], by simpa using h4, hl, fun τ ρ hG rest => ⟨.bptr j off, by simp only [bld, List.nil_append], Imp.bptr (hG j id hj).1⟩⟩
   ·exact h.elim
  ·exact h.elim
 | .iptr cs, v, β, vs, k, h => by
  simp only [mt] at h
  split at h
  ·rename_i xs
   obtain ⟨β', new, h1, h2, h3⟩ := mts_sound cs xs β vs k h
   refine ⟨β', new, h1, h2, fun τ ρ hG rest => ?_⟩
   obtain ⟨as, q1, q2⟩ := h3 τ ρ hG rest
   refine ⟨.iptr as, by simp only [bld, q1], fun S T S' T' v hc hv => ?_⟩
   simp only [rel] at hv ⊢
   obtain ⟨B, o, p1, p2⟩ := hv
   exact ⟨B, o, p1, q2.fz hc p2⟩
  ·exact h.elim
 | .agg cs, v, β, vs, k, h => by
  simp only [mt] at h
  split at h
  ·rename_i xs
   obtain ⟨β', new, h1, h2, h3⟩ := mts_sound cs xs β vs k h
   refine ⟨β', new, h1, h2, fun τ ρ hG rest => ?_⟩
   obtain ⟨as, q1, q2⟩ := h3 τ ρ hG rest
   refine ⟨.agg as, by simp only [bld, q1], fun S T S' T' v hc hv => ?_⟩
   simp only [rel] at hv ⊢
   obtain ⟨us, p1, p2, p3⟩ := hv
   exact ⟨us, p1, q2.rels hc p2, p3⟩
  ·exact h.elim
 | .tup cs, v, β, vs, k, h => by
  simp only [mt] at h
  split at h
  ·rename_i xs
   obtain ⟨β', new, h1, h2, h3⟩ := mts_sound cs xs β vs k h
   refine ⟨β', new, h1, h2, fun τ ρ hG rest => ?_⟩
   obtain ⟨as, q1, q2⟩ := h3 τ ρ hG rest
   refine ⟨.tup as, by simp only [bld, q1], fun S T S' T' v hc hv => ?_⟩
   simp only [rel] at hv ⊢
   obtain ⟨us, p1, p2⟩ := hv
   exact ⟨us, p1, q2.rels hc p2⟩
  ·exact h.elim
 | .fn f a b, v, β, vs, k, h => by
  simp only [mt] at h
  split at h
  ·rename_i f' xs ys
   split at h
   ·rename_i hb
    have := Nat.eq_of_beq_eq_true hb
    subst this
    obtain ⟨β1, n1, h1, h2, h3⟩ := mts_sound a xs β vs _ h
    obtain ⟨β2, n2, g1, g2, g3⟩ := mts_sound b ys β1 _ _ h1
    refine ⟨β2, n1 ++ n2, by rw [← List.append_assoc]; exact g1, h2.trans g2, fun τ ρ hG rest => ?_⟩
    obtain ⟨as, q1, q2⟩ := h3 τ ρ (hG.le g2) (n2 ++ rest)
    obtain ⟨bs, r1, r2⟩ := g3 τ ρ hG rest
    refine ⟨.fn (.func f) as bs, by simp only [bld, List.append_assoc, q1, r1], fun S T S' T' v hc hv => ?_⟩
    simp only [rel] at hv ⊢
    obtain ⟨u1, u2, p1, p2, p3⟩ := hv
    exact ⟨u1, u2, p1, q2.rels hc p2, r2.rels hc p3⟩
   ·exact h.elim
  ·exact h.elim
 | .iface t s, v, β, vs, k, h => by
  simp only [mt] at h
  split at h
  ·rename_i t' x
   split at h
   ·rename_i hb
    have := Nat.eq_of_beq_eq_true hb
    subst this
    obtain ⟨β', new, h1, h2, h3⟩ := mt_sound s x β vs k h
    refine ⟨β', new, h1, h2, fun τ ρ hG rest => ?_⟩
    obtain ⟨a, q1, q2⟩ := h3 τ ρ hG rest
    refine ⟨.iface t a, by simp only [bld, q1], fun S T S' T' v hc hv => ?_⟩
    simp only [rel] at hv ⊢
    obtain ⟨u, p1, p2⟩ := hv
    exact ⟨u, p1, q2 _ _ _ _ _ hc p2⟩
   ·exact h.elim
  ·exact h.elim
theorem mts_sound : ∀ (ss : List S1) (xs : List AV) (β : List (Nat × Nat)) (vs : List Lf) (k : List (Nat × Nat) → List Lf → Prop), mts arS H ss xs β vs k → MtsOk H ss xs β vs k
 | [], xs, β, vs, k, h => by
  simp only [mts] at h
  split at h
  ·exact ⟨β, [], by simpa using h, LeP.refl _, fun τ ρ _ rest => ⟨[], by simp [blds], trivial⟩⟩
  ·exact h.elim
 | s :: ss, xs, β, vs, k, h => by
  simp only [mts] at h
  split at h
  ·rename_i x xs
   obtain ⟨β1, n1, h1, h2, h3⟩ := mt_sound s x β vs _ h
   obtain ⟨β2, n2, g1, g2, g3⟩ := mts_sound ss xs β1 _ _ h1
   refine ⟨β2, n1 ++ n2, by rw [← List.append_assoc]; exact g1, h2.trans g2, fun τ ρ hG rest => ?_⟩
   obtain ⟨a, q1, q2⟩ := h3 τ ρ (hG.le g2) (n2 ++ rest)
   obtain ⟨as, r1, r2⟩ := g3 τ ρ hG rest
   exact ⟨a :: as, by simp only [blds, List.append_assoc, q1, r1], q2, r2⟩
  ·exact h.elim
end
end
end Go.Ab

namespace Go.Ab
open Go
set_option linter.unusedVariables false
set_option linter.unusedSimpArgs false
def rowN : List SB → Rs → Nat → List (List AV)
 | .box _ _ :: hp, rs, i => match i with
  | 0 => []
  | i + 1 => rowN hp rs i
 | .arr _ _ :: hp, rs, i => match rs with
  | [] => []
  | r :: rs => match i with
   | 0 => r
   | i + 1 => rowN hp rs i
 | .mp :: hp, rs, i => match rs with
  | [] => []
  | r :: rs => match i with
   | 0 => r
   | i + 1 => rowN hp rs i
 | [], _, _ => []
def bldF (A : Ar) (ρ : Nat → List (List AV)) : List (Nat × S1) → List AV → List Lf → List AV × List Lf
 | [], fr, vs => (fr, vs)
 | (i, s) :: l, fr, vs => match bld A ρ s vs with
  | (x, vs) => bldF A ρ l (setL fr i x) vs
def bldH (A : Ar) (ρ : Nat → List (List AV)) : List SB → Rs → List Lf → List ABlk
 | [], _, _ => []
 | .box e cs :: hp, rs, vs => match blds A ρ cs vs with
  | (xs, vs) => .box e xs :: bldH A ρ hp rs vs
 | .arr e sz :: hp, rs, vs => match rs with
  | r :: rs => .arr e sz r :: bldH A ρ hp rs vs
  | [] => []
 | .mp :: hp, rs, vs => match rs with
  | r :: rs => .mpb r :: bldH A ρ hp rs vs
  | [] => []
def mtF (A : Ar) (H : List ABlk) (fr : List AV) : List (Nat × S1) → List (Nat × Nat) → List Lf → (List (Nat × Nat) → List Lf → Prop) → Prop
 | [], β, vs, k => k β vs
 | (i, s) :: l, β, vs, k => match getL fr i with
  | some v => mt A H s v β vs fun β vs => mtF A H fr l β vs k
  | none => False
def mtH (A : Ar) (H : List ABlk) : Nat → List SB → List (Nat × Nat) → List Lf → Rs → (List (Nat × Nat) → List Lf → Rs → Prop) → Prop
 | _, [], β, vs, rs, k => k β vs rs
 | j, .box e cs :: hp, β, vs, rs, k => match lookP β j with
  | some id => match getL H id with
   | some (.box e' xs) => match Nat.beq e e' with
    | true => mts A H cs xs β vs fun β vs => mtH A H (j + 1) hp β vs rs k
    | false => False
   | _ => False
  | none => False
 | j, .arr e sz :: hp, β, vs, rs, k => match lookP β j with
  | some id => match getL H id with
   | some (.arr e' sz' rows) => match Nat.beq e e', Nat.beq sz sz' with
    | true, true => A.nd (.pu rows) ∧ mtH A H (j + 1) hp β vs (appL rs [rows]) k
    | _, _ => False
   | _ => False
  | none => False
 | j, .mp :: hp, β, vs, rs, k => match lookP β j with
  | some id => match getL H id with
   | some (.mpb rows) => A.nd (.pu rows) ∧ mtH A H (j + 1) hp β vs (appL rs [rows]) k
   | _ => False
  | none => False
def lsB (β : List (Nat × Nat)) : Nat → Nat → Option (List Nat)
 | _, 0 => some []
 | j, n + 1 => match lookP β j with
  | some id => match lsB β (j + 1) n with
   | some l => some (id :: l)
   | none => none
  | none => none
def ndB : List Nat → Bool
 | [] => true
 | x :: xs => !memN x xs && ndB xs
def ltB (n : Nat) : List (Nat × Nat) → Bool
 | [] => true
 | (j, _) :: l => Nat.blt j n && ltB n l
def fixB : Nat → Nat → List Nat → Bool
 | _, 0, _ => true
 | k, n + 1, x :: l => Nat.beq x k && fixB (k + 1) n l
 | _, _ + 1, [] => false
def idB : Nat → Nat → List (Nat × Nat)
 | _, 0 => []
 | k, n + 1 => (k, k) :: idB (k + 1) n
def finB (n0 len : Nat) (β : List (Nat × Nat)) : Option (List Nat) :=
 match lsB β 0 len with
 | some l => match ndB l && (fixB 0 n0 l && ltB len β) with
  | true => some l
  | false => none
 | none => none
theorem lsB_get {β : List (Nat × Nat)} : ∀ {n j : Nat} {l : List Nat}, lsB β j n = some l → l.length = n ∧ ∀ i id : Nat, l[i]? = some id → lookP β (j + i) = some id
 | 0, j, l, h => by simp only [lsB, Option.some.injEq] at h; subst h; exact ⟨rfl, fun i id h => by simp at h⟩
 | n + 1, j, l, h => by
  simp only [lsB] at h
  split at h
  ·rename_i id he
   split at h
   ·rename_i l' hl
    simp only [Option.some.injEq] at h
    subst h
    obtain ⟨h1, h2⟩ := lsB_get hl
    refine ⟨by simp [h1], fun i id' hi => ?_⟩
    cases i with
    | zero => simp at hi; subst hi; exact he
    | succ i => rw [show j + (i + 1) = j + 1 + i by omega]; exact h2 i id' (by simpa using hi)
   ·cases h
  ·cases h
theorem ndB_nodup : ∀ {l : List Nat}, ndB l = true → l.Nodup
 | [], _ => List.nodup_nil
 | x :: xs, h => by
  simp only [ndB, Bool.and_eq_true, memN_eq] at h
  exact List.nodup_cons.2 ⟨by simpa using h.1, ndB_nodup h.2⟩
theorem lookP_mem {β : List (Nat × Nat)} {j id : Nat} (h : lookP β j = some id) : ∃ p ∈ β, p.1 = j := by
 induction β with
 | nil => cases h
 | cons p β ih =>
  obtain ⟨j', id'⟩ := p
  simp only [lookP] at h
  cases hb : Nat.beq j' j with
  | true => exact ⟨(j', id'), by simp, Nat.eq_of_beq_eq_true hb⟩
  | false =>
   rw [hb] at h
   obtain ⟨p, h1, h2⟩ := ih h
   exact ⟨p, by simp [h1], h2⟩
theorem ltB_lt {n : Nat} : ∀ {β : List (Nat × Nat)}, ltB n β = true → ∀ p ∈ β, p.1 < n
 | [], _, p, hp => by cases hp
 | (j, id) :: l, h, p, hp => by
  simp only [ltB, Bool.and_eq_true] at h
  rcases List.mem_cons.1 hp with rfl | hp
  ·exact Nat.blt_eq.mp h.1
  ·exact ltB_lt h.2 p hp
theorem fixB_get : ∀ {n k : Nat} {l : List Nat}, fixB k n l = true → n ≤ l.length ∧ ∀ j : Nat, j < n → l[j]? = some (k + j)
 | 0, k, l, _ => ⟨Nat.zero_le _, fun j h => by omega⟩
 | n + 1, k, [], h => by cases h
 | n + 1, k, x :: l, h => by
  simp only [fixB, Bool.and_eq_true] at h
  obtain ⟨h1, h2⟩ := fixB_get h.2
  refine ⟨by simp; omega, fun j hj => ?_⟩
  cases j with
  | zero => simp [Nat.eq_of_beq_eq_true h.1]
  | succ j => rw [show k + (j + 1) = k + 1 + j by omega]; simpa using h2 j (by omega)
section
variable {H : List ABlk}
theorem Imps.set {τ : Nat → Option Nat} {v a : AV} (hi : Imp τ v a) : ∀ {xs ys : List AV} {i : Nat}, Imps τ xs ys → xs[i]? = some v → Imps τ xs (ys.set i a)
 | [], [], _, h, hv => by simp at hv
 | x :: xs, y :: ys, 0, h, hv => by simp at hv; subst hv; exact ⟨hi, h.2⟩
 | x :: xs, y :: ys, i + 1, h, hv => ⟨h.1, Imps.set hi h.2 (by simpa using hv)⟩
 | [], _ :: _, _, h, _ => h.elim
 | _ :: _, [], _, h, _ => h.elim
theorem Imps.junks {τ : Nat → Option Nat} : ∀ (xs : List AV), Imps τ xs (repL xs.length .junk)
 | [] => trivial
 | x :: xs => ⟨Imp.junk x, Imps.junks xs⟩
theorem mtF_sound {fr : List AV} : ∀ (l : List (Nat × S1)) (β : List (Nat × Nat)) (vs : List Lf) (k : List (Nat × Nat) → List Lf → Prop), mtF arS H fr l β vs k →
  ∃ β' new, k β' (vs ++ new) ∧ LeP β β' ∧ ∀ τ ρ, GoodP H τ ρ β' → ∀ rest fr0, Imps τ fr fr0 → ∃ fr', bldF arS ρ l fr0 (new ++ rest) = (fr', rest) ∧ Imps τ fr fr'
 | [], β, vs, k, h => ⟨β, [], by simpa [mtF] using h, LeP.refl _, fun τ ρ _ rest fr0 h0 => ⟨fr0, by simp [bldF], h0⟩⟩
 | (i, s) :: l, β, vs, k, h => by
  simp only [mtF, getL_eq] at h
  split at h
  ·rename_i v hv
   obtain ⟨β1, n1, h1, h2, h3⟩ := mt_sound s v β vs _ h
   obtain ⟨β2, n2, g1, g2, g3⟩ := mtF_sound l β1 _ _ h1
   refine ⟨β2, n1 ++ n2, by rw [← List.append_assoc]; exact g1, h2.trans g2, fun τ ρ hG rest fr0 h0 => ?_⟩
   obtain ⟨a, q1, q2⟩ := h3 τ ρ (hG.le g2) (n2 ++ rest)
   obtain ⟨fr', r1, r2⟩ := g3 τ ρ hG rest (fr0.set i a) (Imps.set q2 h0 hv)
   exact ⟨fr', by simp only [bldF, List.append_assoc, q1, setL_eq, r1], r2⟩
  ·exact h.elim
theorem mtH_sound : ∀ (hp : List SB) (j : Nat) (β : List (Nat × Nat)) (vs : List Lf) (rs : Rs) (k : List (Nat × Nat) → List Lf → Rs → Prop), mtH arS H j hp β vs rs k →
  ∃ β' new nr, k β' (vs ++ new) (rs ++ nr) ∧ LeP β β' ∧ puAll nr ∧
   (∀ (i id e sz : Nat) (rows : List (List AV)), i < hp.length → lookP β' (j + i) = some id → H[id]? = some (.arr e sz rows) → rowN hp nr i = rows) ∧
   ∀ τ ρ, GoodP H τ ρ β' → ∀ rest, (bldH arS ρ hp nr (new ++ rest)).length = hp.length ∧
    ∀ i : Nat, i < hp.length → ∃ id b b', lookP β' (j + i) = some id ∧ H[id]? = some b ∧ (bldH arS ρ hp nr (new ++ rest))[i]? = some b' ∧ BImp τ b b'
 | [], j, β, vs, rs, k, h => ⟨β, [], [], by simpa [mtH] using h, LeP.refl _, trivial, fun i _ _ _ _ hi => by simp at hi, fun τ ρ _ rest => ⟨rfl, fun i hi => by simp at hi⟩⟩
 | .box e cs :: hp, j, β, vs, rs, k, h => by
  simp only [mtH, getL_eq] at h
  split at h
  ·rename_i id hid
   split at h
   ·rename_i e' xs hg
    split at h
    ·rename_i hb
     have := Nat.eq_of_beq_eq_true hb
     subst this
     obtain ⟨β1, n1, h1, h2, h3⟩ := mts_sound cs xs β vs _ h
     obtain ⟨β2, n2, nr, g1, g2, g3, g4, g5⟩ := mtH_sound hp (j + 1) β1 _ rs k h1
     refine ⟨β2, n1 ++ n2, nr, by rw [← List.append_assoc]; exact g1, h2.trans g2, g3, fun i id' e' sz rows hi hl hH => ?_, fun τ ρ hG rest => ?_⟩
     ·cases i with
      | zero =>
       have := g2 j id (h2 j id hid)
       rw [Nat.add_zero] at hl
       rw [hl] at this
       injection this with this
       subst this
       rw [hg] at hH; cases hH
      | succ i => exact g4 i id' e' sz rows (by simpa using hi) (by rw [← hl]; congr 1; omega) hH
     ·obtain ⟨as, q1, q2⟩ := h3 τ ρ (hG.le g2) (n2 ++ rest)
      obtain ⟨p1, p2⟩ := g5 τ ρ hG rest
      have e1 : bldH arS ρ (.box e cs :: hp) nr (n1 ++ n2 ++ rest) = .box e as :: bldH arS ρ hp nr (n2 ++ rest) := by simp only [bldH, List.append_assoc, q1]
      rw [e1]
      refine ⟨by simp [p1], fun i hi => ?_⟩
      cases i with
      | zero => exact ⟨id, _, _, g2 j id (h2 j id hid), hg, rfl, rfl, q2⟩
      | succ i =>
       obtain ⟨id', b, b', r1, r2, r3, r4⟩ := p2 i (by simpa using hi)
       exact ⟨id', b, b', by rw [← r1]; congr 1; omega, r2, by simpa using r3, r4⟩
    ·exact h.elim
   ·exact h.elim
  ·exact h.elim
 | .arr e sz :: hp, j, β, vs, rs, k, h => by
  simp only [mtH, getL_eq] at h
  split at h
  ·rename_i id hid
   split at h
   ·rename_i e' sz' rows hg
    split at h
    ·rename_i hb hb2
     have := Nat.eq_of_beq_eq_true hb
     have := Nat.eq_of_beq_eq_true hb2
     subst e' sz'
     obtain ⟨hpu, h⟩ := h
     have hpu : pursS rows = true := hpu
     obtain ⟨β2, n2, nr, g1, g2, g3, g4, g5⟩ := mtH_sound hp (j + 1) β vs _ k h
     refine ⟨β2, n2, rows :: nr, by simpa [appL_eq] using g1, g2, ⟨hpu, g3⟩, fun i id' e' sz' rows' hi hl hH => ?_, fun τ ρ hG rest => ?_⟩
     ·cases i with
      | zero =>
       have := g2 j id hid
       rw [Nat.add_zero] at hl
       rw [hl] at this
       injection this with this
       subst this
       rw [hg] at hH
       simp only [Option.some.injEq, ABlk.arr.injEq] at hH
       simp only [rowN]
       exact hH.2.2
      | succ i => exact g4 i id' e' sz' rows' (by simpa using hi) (by rw [← hl]; congr 1; omega) hH
     ·obtain ⟨p1, p2⟩ := g5 τ ρ hG rest
      have e1 : bldH arS ρ (.arr e sz :: hp) (rows :: nr) (n2 ++ rest) = .arr e sz rows :: bldH arS ρ hp nr (n2 ++ rest) := by simp only [bldH]
      rw [e1]
      refine ⟨by simp [p1], fun i hi => ?_⟩
      cases i with
      | zero => exact ⟨id, _, _, g2 j id hid, hg, rfl, rfl, rfl, rfl, hpu⟩
      | succ i =>
       obtain ⟨id', b, b', r1, r2, r3, r4⟩ := p2 i (by simpa using hi)
       exact ⟨id', b, b', by rw [← r1]; congr 1; omega, r2, by simpa using r3, r4⟩
    ·exact h.elim
   ·exact h.elim
  ·exact h.elim
 | .mp :: hp, j, β, vs, rs, k, h => by
  simp only [mtH, getL_eq] at h
  split at h
  ·rename_i id hid
   split at h
   ·rename_i rows hg
    obtain ⟨hpu, h⟩ := h
    have hpu : pursS rows = true := hpu
    obtain ⟨β2, n2, nr, g1, g2, g3, g4, g5⟩ := mtH_sound hp (j + 1) β vs _ k h
    refine ⟨β2, n2, rows :: nr, by simpa [appL_eq] using g1, g2, ⟨hpu, g3⟩, fun i id' e' sz' rows' hi hl hH => ?_, fun τ ρ hG rest => ?_⟩
    ·cases i with
     | zero =>
      have := g2 j id hid
      rw [Nat.add_zero] at hl
      rw [hl] at this
      injection this with this
      subst this
      rw [hg] at hH
      cases hH
     | succ i => exact g4 i id' e' sz' rows' (by simpa using hi) (by rw [← hl]; congr 1; omega) hH
    ·obtain ⟨p1, p2⟩ := g5 τ ρ hG rest
     have e1 : bldH arS ρ (.mp :: hp) (rows :: nr) (n2 ++ rest) = .mpb rows :: bldH arS ρ hp nr (n2 ++ rest) := by simp only [bldH]
     rw [e1]
     refine ⟨by simp [p1], fun i hi => ?_⟩
     cases i with
     | zero => exact ⟨id, _, _, g2 j id hid, hg, rfl, rfl⟩
     | succ i =>
      obtain ⟨id', b, b', r1, r2, r3, r4⟩ := p2 i (by simpa using hi)
      exact ⟨id', b, b', by rw [← r1]; congr 1; omega, r2, by simpa using r3, r4⟩
   ·exact h.elim
  ·exact h.elim
structure St where
 slots : List (Nat × S1)
 hp : List SB
 deriving Inhabited
def bldS (A : Ar) (nt : Nat) (st : St) (rs : Rs) (vs : List Lf) : List AV × List ABlk :=
 match bldF A (rowN st.hp rs) st.slots (repL nt .junk) vs with
 | (fr, vs) => (fr, bldH A (rowN st.hp rs) st.hp rs vs)
def mtS (A : Ar) (n0 nt : Nat) (st : St) (fr : List AV) (H : List ABlk) (k : Rs → List Lf → Prop) : Prop :=
 match Nat.beq (lenL fr) nt with
 | true => mtF A H fr st.slots (idB 0 n0) [] fun β vs => mtH A H 0 st.hp β vs [] fun β vs rs => match finB n0 (lenL st.hp) β with
  | some _ => k rs vs
  | none => False
 | false => False
theorem finB_spec {n0 len : Nat} {β : List (Nat × Nat)} {l : List Nat} (h : finB n0 len β = some l) : l.length = len ∧ (∀ i id : Nat, l[i]? = some id → lookP β i = some id) ∧ l.Nodup ∧ (n0 ≤ len ∧ ∀ j : Nat, j < n0 → l[j]? = some j) ∧ ∀ j id, lookP β j = some id → j < len := by
 unfold finB at h
 split at h
 ·rename_i l' hl
  split at h
  ·rename_i hb
   simp only [Option.some.injEq] at h
   subst h
   simp only [Bool.and_eq_true] at hb
   obtain ⟨h1, h2⟩ := lsB_get hl
   obtain ⟨h3, h4⟩ := fixB_get hb.2.1
   refine ⟨h1, fun i id hi => by simpa using h2 i id hi, ndB_nodup hb.1, ⟨by omega, fun j hj => by simpa using h4 j hj⟩, fun j id hj => ?_⟩
   obtain ⟨p, hp, rfl⟩ := lookP_mem hj
   exact ltB_lt hb.2.2 p hp
  ·cases h
 ·cases h
theorem goodP_of {hp : List SB} {β : List (Nat × Nat)} {l : List Nat} {n0 : Nat} {nr : Rs} (hf : finB n0 hp.length β = some l)
  (h : ∀ (i id e sz : Nat) (rows : List (List AV)), i < hp.length → lookP β (0 + i) = some id → H[id]? = some (.arr e sz rows) → rowN hp nr i = rows) : GoodP H (fun i => idxN l i 0) (rowN hp nr) β := by
 obtain ⟨h1, h2, h3, _, h5⟩ := finB_spec hf
 intro j id hj
 have hjl := h5 j id hj
 have hlj : l[j]? = some id := by
  have hg : l[j]? = some l[j] := List.getElem?_eq_getElem (by omega)
  have := h2 j _ hg
  rw [hj] at this
  rw [hg, ← this]
 exact ⟨idxN_some h3 hlj, fun e sz rows hH => h j id e sz rows hjl (by simpa using hj) hH⟩
theorem mtS_sound {n0 nt : Nat} {st : St} {fr : List AV} {k : Rs → List Lf → Prop} (h : mtS arS n0 nt st fr H k) : ∃ rs vs, k rs vs ∧ puAll rs ∧ Ent n0 fr H (bldS arS nt st rs vs).1 (bldS arS nt st rs vs).2 ∧ n0 ≤ (bldS arS nt st rs vs).2.length := by
 unfold mtS at h
 split at h
 ·rename_i hn
  have hn := Nat.eq_of_beq_eq_true hn
  rw [lenL_eq] at hn
  obtain ⟨β1, n1, h1, h2, h3⟩ := mtF_sound st.slots _ [] _ h
  obtain ⟨β2, n2, nr, g1, g2, g3, g4, g5⟩ := mtH_sound st.hp 0 β1 _ [] _ h1
  simp only [List.nil_append] at g1
  split at g1
  ·rename_i l hl
   rw [lenL_eq] at hl
   obtain ⟨f1, f2, f3, ⟨f4, f5⟩, f6⟩ := finB_spec hl
   have hG := goodP_of (H := H) hl g4
   refine ⟨nr, n1 ++ n2, g1, g3, ?_⟩
   obtain ⟨fr', q1, q2⟩ := h3 _ _ (hG.le g2) (n2 ++ []) (repL nt .junk) (by rw [← hn]; exact Imps.junks fr)
   obtain ⟨p1, p2⟩ := g5 _ _ hG []
   simp only [List.append_nil] at q1 p1 p2
   have e1 : bldS arS nt st nr (n1 ++ n2) = (fr', bldH arS (rowN st.hp nr) st.hp nr n2) := by simp only [bldS, q1]
   rw [e1]
   refine ⟨?_, by simp only; omega⟩
   refine Ent.ren l (by omega) f5 (nodup_get f3) (by simp [p1, f1]) (fun j id hj => ?_) q2
   have hjl : j < st.hp.length := by rw [← f1]; exact (List.getElem?_eq_some_iff.1 hj).1
   obtain ⟨id', b, b', r1, r2, r3, r4⟩ := p2 j hjl
   have := f2 j id hj
   rw [Nat.zero_add, this] at r1
   injection r1 with r1
   subst r1
   exact ⟨b, b', r2, r3, r4⟩
  ·exact g1.elim
 ·exact h.elim
def mtC (A : Ar) (ss : List S1) (hp : List SB) (args : List AV) (H : List ABlk) (k : List Nat → Rs → List Lf → Prop) : Prop :=
 mts A H ss args [] [] fun β vs => mtH A H 0 hp β vs [] fun β vs rs => match finB 0 (lenL hp) β with
  | some l => k l rs vs
  | none => False
def bldC (A : Ar) (ss : List S1) (hp : List SB) (rs : Rs) (vs : List Lf) : List AV × List ABlk :=
 match blds A (rowN hp rs) ss vs with
 | (xs, vs) => (xs, bldH A (rowN hp rs) hp rs vs)
theorem mtC_sound {ss : List S1} {hp : List SB} {args : List AV} {k : List Nat → Rs → List Lf → Prop} (h : mtC arS ss hp args H k) : ∃ l rs vs, k l rs vs ∧ puAll rs ∧ l.Nodup ∧ (bldC arS ss hp rs vs).2.length = l.length ∧
  (∀ j id : Nat, l[j]? = some id → ∃ x b, H[id]? = some x ∧ (bldC arS ss hp rs vs).2[j]? = some b ∧ BImp (fun i => idxN l i 0) x b) ∧ Imps (fun i => idxN l i 0) args (bldC arS ss hp rs vs).1 := by
 unfold mtC at h
 obtain ⟨β1, n1, h1, h2, h3⟩ := mts_sound ss args [] [] _ h
 obtain ⟨β2, n2, nr, g1, g2, g3, g4, g5⟩ := mtH_sound hp 0 β1 _ [] _ h1
 simp only [List.nil_append] at g1
 split at g1
 ·rename_i l hl
  rw [lenL_eq] at hl
  obtain ⟨f1, f2, f3, _, f6⟩ := finB_spec hl
  have hG := goodP_of (H := H) hl g4
  obtain ⟨as, q1, q2⟩ := h3 _ _ (hG.le g2) (n2 ++ [])
  obtain ⟨p1, p2⟩ := g5 _ _ hG []
  simp only [List.append_nil] at q1 p1 p2
  have e1 : bldC arS ss hp nr (n1 ++ n2) = (as, bldH arS (rowN hp nr) hp nr n2) := by simp only [bldC, q1]
  refine ⟨l, nr, n1 ++ n2, g1, g3, f3, ?_, ?_, ?_⟩
  ·rw [e1]; simp [p1, f1]
  ·intro j id hj
   rw [e1]
   have hjl : j < hp.length := by rw [← f1]; exact (List.getElem?_eq_some_iff.1 hj).1
   obtain ⟨id', b, b', r1, r2, r3, r4⟩ := p2 j hjl
   have := f2 j id hj
   rw [Nat.zero_add, this] at r1
   injection r1 with r1
   subst r1
   exact ⟨b, b', r2, r3, r4⟩
  ·rw [e1]; exact q2
 ·exact g1.elim
end
end Go.Ab

namespace Go.Ab
open Go
set_option linter.unusedVariables false
set_option linter.unusedSimpArgs false
def setMany (x : AV) : List Nat → List AV → List AV
 | [], l => l
 | i :: is, l => setMany x is (setL l i x)
def nilsS (m : Nat) (fr : List AV) : List (Nat × S1) → List Nat
 | [] => []
 | (i, s) :: l => match s with
  | .sl m' => match Nat.beq m m', getL fr i with
   | true, some .nils => i :: nilsS m fr l
   | _, _ => nilsS m fr l
  | .slh m' => match Nat.beq m m', getL fr i with
   | true, some .nils => i :: nilsS m fr l
   | _, _ => nilsS m fr l
  | _ => nilsS m fr l
def nilsC (m : Nat) : Nat → List S1 → List AV → List Nat
 | k, s :: ss, x :: xs => match s with
  | .sl m' => match Nat.beq m m', x with
   | true, .nils => k :: nilsC m (k + 1) ss xs
   | _, _ => nilsC m (k + 1) ss xs
  | .slh m' => match Nat.beq m m', x with
   | true, .nils => k :: nilsC m (k + 1) ss xs
   | _, _ => nilsC m (k + 1) ss xs
  | _ => nilsC m (k + 1) ss xs
 | _, _, _ => []
def boxAt (n0 j : Nat) (fr : List AV) : List (Nat × S1) → Option Nat
 | [] => match Nat.blt j n0 with
  | true => some j
  | false => none
 | (i, s) :: l => match s with
  | .bptr j' _ => match Nat.beq j j', getL fr i with
   | true, some (.bptr id _) => some id
   | _, _ => boxAt n0 j fr l
  | _ => boxAt n0 j fr l
def ownBx (n0 m N : Nat) (fr : List AV) (slots : List (Nat × S1)) : Nat → List SB → List ABlk → List ABlk × Bool
 | _, [], H => (H, false)
 | j, .arr _ _ :: hp, H => ownBx n0 m N fr slots (j + 1) hp H
 | j, .mp :: hp, H => ownBx n0 m N fr slots (j + 1) hp H
 | j, .box _ cs :: hp, H => match boxAt n0 j fr slots with
  | some id => match getL H id with
   | some (.box e xs) => match nilsC m 0 cs xs with
    | [] => ownBx n0 m N fr slots (j + 1) hp H
    | is => ((ownBx n0 m N fr slots (j + 1) hp (setL H id (.box e (setMany (.sl N 0 0 0) is xs)))).1, true)
   | _ => ownBx n0 m N fr slots (j + 1) hp H
  | none => ownBx n0 m N fr slots (j + 1) hp H
def ownAll (n0 : Nat) (slots : List (Nat × S1)) (hp0 : List SB) : Nat → List SB → List AV → List ABlk → List AV × List ABlk
 | _, [], fr, H => (fr, H)
 | m, .box _ _ :: hp, fr, H => ownAll n0 slots hp0 (m + 1) hp fr H
 | m, .mp :: hp, fr, H => ownAll n0 slots hp0 (m + 1) hp fr H
 | m, .arr e sz :: hp, fr, H => match ownBx n0 m (lenL H) fr slots 0 hp0 H, nilsS m fr slots with
  | (_, false), [] => ownAll n0 slots hp0 (m + 1) hp fr H
  | (H', _), is => match Nat.blt 0 sz, Nat.ble n0 (lenL H) with
   | true, true => ownAll n0 slots hp0 (m + 1) hp (setMany (.sl (lenL H) 0 0 0) is fr) (appL H' [.arr e sz []])
   | _, _ => ownAll n0 slots hp0 (m + 1) hp fr H
theorem ownL_refl (N : Nat) : ∀ xs : List AV, ownL N xs xs
 | [] => trivial
 | x :: xs => ⟨.inl rfl, ownL_refl N xs⟩
theorem ownL_set {N : Nat} : ∀ {xs ys : List AV} {i : Nat}, ownL N xs ys → xs[i]? = some .nils → ownL N xs (ys.set i (.sl N 0 0 0))
 | [], [], _, h, hv => by simp at hv
 | x :: xs, y :: ys, 0, h, hv => by simp at hv; subst hv; exact ⟨.inr (.inr ⟨rfl, rfl⟩), h.2⟩
 | x :: xs, y :: ys, i + 1, h, hv => ⟨h.1, ownL_set h.2 (by simpa using hv)⟩
 | [], _ :: _, _, h, _ => h.elim
 | _ :: _, [], _, h, _ => h.elim
theorem setMany_own {N : Nat} {xs : List AV} : ∀ (is : List Nat) (ys : List AV), (∀ i ∈ is, xs[i]? = some .nils) → ownL N xs ys → ownL N xs (setMany (.sl N 0 0 0) is ys)
 | [], ys, _, h => h
 | i :: is, ys, hi, h => by
  rw [setMany, setL_eq]
  exact setMany_own is _ (fun j hj => hi j (by simp [hj])) (ownL_set h (hi i (by simp)))
theorem nilsS_nil {m : Nat} {fr : List AV} : ∀ (l : List (Nat × S1)), ∀ i ∈ nilsS m fr l, fr[i]? = some .nils
 | [], i, h => by simp [nilsS] at h
 | (j, s) :: l, i, h => by
  simp only [nilsS] at h
  split at h
  ·split at h
   ·rename_i hg
    rcases List.mem_cons.1 h with rfl | h
    ·rw [← getL_eq]; exact hg
    ·exact nilsS_nil l i h
   ·exact nilsS_nil l i h
  ·split at h
   ·rename_i hg
    rcases List.mem_cons.1 h with rfl | h
    ·rw [← getL_eq]; exact hg
    ·exact nilsS_nil l i h
   ·exact nilsS_nil l i h
  ·exact nilsS_nil l i h
theorem nilsC_nil {m : Nat} : ∀ (cs : List S1) (xs : List AV) (k : Nat), ∀ i ∈ nilsC m k cs xs, k ≤ i ∧ xs[i - k]? = some .nils
 | [], xs, k, i, h => by simp [nilsC] at h
 | s :: ss, [], k, i, h => by simp [nilsC] at h
 | s :: ss, x :: xs, k, i, h => by
  have key : i ∈ nilsC m (k + 1) ss xs → k ≤ i ∧ (x :: xs)[i - k]? = some .nils := fun h => by
   obtain ⟨h1, h2⟩ := nilsC_nil ss xs (k + 1) i h
   refine ⟨by omega, ?_⟩
   rw [show i - k = (i - (k + 1)) + 1 by omega]
   simpa using h2
  simp only [nilsC] at h
  split at h
  ·split at h
   ·rcases List.mem_cons.1 h with rfl | h
    ·simp
    ·exact key h
   ·exact key h
  ·split at h
   ·rcases List.mem_cons.1 h with rfl | h
    ·simp
    ·exact key h
   ·exact key h
  ·exact key h
theorem ownH_refl (N : Nat) : ∀ H : List ABlk, ownH N H H
 | [] => trivial
 | x :: xs => ⟨.inl rfl, ownH_refl N xs⟩
theorem ownL_trans {N : Nat} : ∀ {xs ys zs : List AV}, ownL N xs ys → ownL N ys zs → ownL N xs zs
 | [], [], [], _, _ => trivial
 | x :: xs, y :: ys, z :: zs, h, k => by
  refine ⟨?_, ownL_trans h.2 k.2⟩
  rcases h.1 with rfl | rfl | ⟨rfl, rfl⟩
  ·exact k.1
  ·rcases k.1 with h1 | h1 | ⟨h1, _⟩
   ·exact .inr (.inl h1.symm)
   ·exact .inr (.inl h1)
   ·cases h1
  ·rcases k.1 with h1 | h1 | ⟨h1, _⟩
   ·exact .inr (.inr ⟨rfl, h1.symm⟩)
   ·exact .inr (.inl h1)
   ·cases h1
 | [], _ :: _, _, h, _ => h.elim
 | _ :: _, [], _, h, _ => h.elim
 | _ :: _, _ :: _, [], _, k => k.elim
 | [], [], _ :: _, _, k => k.elim
theorem ownH_set {N : Nat} : ∀ {H H' : List ABlk} {id : Nat} {e : TypeId} {xs xs' : List AV}, ownH N H H' → H'[id]? = some (.box e xs) → ownL N xs xs' → ownH N H (H'.set id (.box e xs'))
 | [], [], _, _, _, _, h, hv, _ => by simp at hv
 | x :: H, y :: H', 0, e, xs, xs', h, hv, hl => by
  simp at hv
  subst hv
  refine ⟨.inr ?_, h.2⟩
  rcases h.1 with rfl | ⟨e', cs, cs', rfl, h2, h3⟩
  ·exact ⟨e, xs, xs', rfl, rfl, hl⟩
  ·simp only [ABlk.box.injEq] at h2
   obtain ⟨rfl, rfl⟩ := h2
   exact ⟨e, cs, xs', rfl, rfl, ownL_trans h3 hl⟩
 | x :: H, y :: H', i + 1, e, xs, xs', h, hv, hl => ⟨h.1, ownH_set h.2 (by simpa using hv) hl⟩
 | [], _ :: _, _, _, _, _, h, _, _ => h.elim
 | _ :: _, [], _, _, _, _, h, _, _ => h.elim
theorem ownBx_own {n0 m N : Nat} {fr : List AV} {slots : List (Nat × S1)} {H0 : List ABlk} : ∀ (hp : List SB) (j : Nat) (H : List ABlk), ownH N H0 H → ownH N H0 (ownBx n0 m N fr slots j hp H).1
 | [], j, H, h => h
 | .arr _ _ :: hp, j, H, h => by simp only [ownBx]; exact ownBx_own hp (j + 1) H h
 | .mp :: hp, j, H, h => by simp only [ownBx]; exact ownBx_own hp (j + 1) H h
 | .box _ cs :: hp, j, H, h => by
  simp only [ownBx, getL_eq, setL_eq]
  split
  ·rename_i id hid
   split
   ·rename_i e xs hg
    split
    ·exact ownBx_own hp (j + 1) H h
    ·rename_i is his hne
     exact ownBx_own hp (j + 1) _ (ownH_set h hg (setMany_own _ _ (fun i hi => by simpa using (nilsC_nil cs xs 0 i hi).2) (ownL_refl N xs)))
   ·exact ownBx_own hp (j + 1) H h
  ·exact ownBx_own hp (j + 1) H h
theorem Ent.ownH {n e sz : Nat} {xs : List AV} {H H' : List ABlk} (hn : n ≤ H.length) (h0 : 0 < sz) {xs' : List AV} (hf : ownL H.length xs xs') (hH : Ab.ownH H.length H H') : Ent n xs H xs' (H' ++ [.arr e sz []]) := by
 intro S0 H0 w vs hl0 ⟨S, he, hr, hw⟩
 obtain ⟨w1, e1⟩ := hw.arr_none e sz h0
 have hT : shape (H ++ [ABlk.arr e sz []]) H.length = some (.row 0 sz) := by rw [shape_last]; rfl
 have hρ : (S.put H.length none).ρ H.length = none := put_same _ _ _
 have hl := ownH_length hH
 have hs : ∀ i : Nat, ((H' ++ [ABlk.arr e sz []])[i]?).map ABlk.shp = ((H ++ [ABlk.arr e sz []])[i]?).map ABlk.shp := fun i => by
  rcases Nat.lt_or_ge i H.length with hi | hi
  ·rw [List.getElem?_append_left (by omega), List.getElem?_append_left hi]
   exact ownH_shape hH i
  ·rw [List.getElem?_append_right (by omega), List.getElem?_append_right hi, hl]
 have hsh : shape (H' ++ [ABlk.arr e sz []]) = shape (H ++ [ABlk.arr e sz []]) := funext hs
 refine ⟨S.put H.length none, by rw [hsh]; exact he.trans e1, by rw [hsh]; exact ownL_rels hT hρ hf (rels_ext _ _ _ _ e1 hr), w1.swap hs fun i y hy => ?_⟩
 rcases get_append_one hy with ⟨hi, hy⟩ | ⟨hi, rfl⟩
 ·obtain ⟨x, hx, hxy⟩ := ownH_get hH i y hy
  refine ⟨x, by rw [List.getElem?_append_left (by omega)]; exact hx, ?_⟩
  rcases hxy with rfl | ⟨e', cs, cs', rfl, rfl, hc⟩
  ·exact .inl rfl
  ·exact .inr ⟨e', cs, cs', rfl, rfl, fun vs hv => ownL_rels hT hρ hc hv⟩
 ·exact ⟨_, by rw [hi, hl]; simp, .inl rfl⟩
theorem ownAll_ent {n0 : Nat} {slots : List (Nat × S1)} {hp0 : List SB} : ∀ (hp : List SB) (m : Nat) (fr : List AV) (H : List ABlk), Ent n0 fr H (ownAll n0 slots hp0 m hp fr H).1 (ownAll n0 slots hp0 m hp fr H).2
 | [], m, fr, H => Ent.refl _ _ _
 | .box _ _ :: hp, m, fr, H => by simp only [ownAll]; exact ownAll_ent hp (m + 1) fr H
 | .mp :: hp, m, fr, H => by simp only [ownAll]; exact ownAll_ent hp (m + 1) fr H
 | .arr e sz :: hp, m, fr, H => by
  simp only [ownAll, appL_eq, lenL_eq]
  split
  ·exact ownAll_ent hp (m + 1) fr H
  ·rename_i H' b hb hne
   split
   ·rename_i h1 h2
    refine Ent.trans (Ent.ownH (e := e) (sz := sz) (Nat.ble_eq.mp h2) (Nat.blt_eq.mp h1) (setMany_own _ _ (nilsS_nil slots) (ownL_refl _ fr)) ?_) (ownAll_ent hp (m + 1) _ _)
    have := ownBx_own (n0 := n0) (m := m) (N := H.length) (fr := fr) (slots := slots) (H0 := H) hp0 0 H (ownH_refl _ H)
    rw [hb] at this
    exact this
   ·exact ownAll_ent hp (m + 1) fr H
mutual
def frzV1 (A : Ar) (id sz : Nat) (rows : List (List AV)) : AV → AV
 | .sl id' t o n => match Nat.beq id' id with
  | true => .inl sz (A.rtake (A.rdrop rows o) n)
  | false => .sl id' t o n
 | .ptr id' t r o => match Nat.beq id' id with
  | true => .junk
  | false => .ptr id' t r o
 | .bptr id' o => match Nat.beq id' id with
  | true => .junk
  | false => .bptr id' o
 | .map id' => match Nat.beq id' id with
  | true => .junk
  | false => .map id'
 | .fn f x y => .fn f (frzV1s A id sz rows x) (frzV1s A id sz rows y)
 | .iface t x => .iface t (frzV1 A id sz rows x)
 | .agg cs => .agg (frzV1s A id sz rows cs)
 | .tup cs => .tup (frzV1s A id sz rows cs)
 | c => c
def frzV1s (A : Ar) (id sz : Nat) (rows : List (List AV)) : List AV → List AV
 | [] => []
 | c :: cs => frzV1 A id sz rows c :: frzV1s A id sz rows cs
end
mutual
def jkV (id : Nat) : AV → AV
 | .ptr id' t r o => match Nat.beq id' id with
  | true => .junk
  | false => .ptr id' t r o
 | .bptr id' o => match Nat.beq id' id with
  | true => .junk
  | false => .bptr id' o
 | .fn f x y => .fn f (jkVs id x) (jkVs id y)
 | .iface t x => .iface t (jkV id x)
 | .agg cs => .agg (jkVs id cs)
 | .tup cs => .tup (jkVs id cs)
 | c => c
def jkVs (id : Nat) : List AV → List AV
 | [] => []
 | c :: cs => jkV id c :: jkVs id cs
end
mutual
def ocV (id m : Nat) : AV → Cnd
 | .sl id' t _ _ => match Nat.beq id' id with
  | true => .eqN t m
  | false => .t
 | .fn _ x y => .and (ocVs id m x) (ocVs id m y)
 | .iface _ x => ocV id m x
 | .agg cs => ocVs id m cs
 | .tup cs => ocVs id m cs
 | _ => .t
def ocVs (id m : Nat) : List AV → Cnd
 | [] => .t
 | c :: cs => match ocV id m c with
  | .t => ocVs id m cs
  | p => .and p (ocVs id m cs)
end
mutual
def noV (id : Nat) : AV → Bool
 | .sl id' .. => !Nat.beq id' id
 | .ptr id' .. => !Nat.beq id' id
 | .bptr id' .. => !Nat.beq id' id
 | .map id' => !Nat.beq id' id
 | .fn _ x y => noVs id x && noVs id y
 | .iface _ x => noV id x
 | .agg cs => noVs id cs
 | .tup cs => noVs id cs
 | _ => true
def noVs (id : Nat) : List AV → Bool
 | [] => true
 | c :: cs => noV id c && noVs id cs
end
def noBx (id : Nat) : List ABlk → Bool
 | [] => true
 | .box _ cs :: H => noVs id cs && noBx id H
 | .arr _ _ _ :: H => noBx id H
 | .mpb _ :: H => noBx id H
 | .dead _ :: H => noBx id H
def puC : List ABlk → Cnd
 | [] => .t
 | .arr _ _ rows :: H => .and (.pu rows) (puC H)
 | .box _ _ :: H => puC H
 | .mpb _ :: H => puC H
 | .dead _ :: H => puC H
def ocHB (id m : Nat) : List ABlk → Cnd
 | [] => .t
 | .box _ cs :: H => match ocVs id m cs with
  | .t => ocHB id m H
  | p => .and p (ocHB id m H)
 | _ :: H => ocHB id m H
def frzHB (A : Ar) (id sz : Nat) (rows : List (List AV)) : List ABlk → List ABlk
 | [] => []
 | .box e cs :: H => .box e (frzV1s A id sz rows cs) :: frzHB A id sz rows H
 | b :: H => b :: frzHB A id sz rows H
def frzOne (A : Ar) (n0 id : Nat) (fr : List AV) (H : List ABlk) (k : List AV → List ABlk → Prop) : Prop :=
 match getL H id with
 | some (.arr _ sz rows) => match Nat.ble n0 id with
  | true => match noBx id H with
   | true => A.nd (.and (puC H) (ocVs id (A.rlen rows) fr)) ∧ k (frzV1s A id sz rows fr) (setL H id (.dead .mp))
   | false => A.nd (.and (puC H) (ocVs id (A.rlen rows) fr)) ∧ A.nd (ocHB id (A.rlen rows) H) ∧ k (frzV1s A id sz rows fr) (setL (frzHB A id sz rows H) id (.dead .mp))
  | false => False
 | _ => False
section
variable {id sz : Nat} {rows : List (List AV)} {e : TypeId}
mutual
theorem jkV_imp : ∀ (c : AV), Imp some c (jkV id c)
 | .int .. => Imp.pure rfl
 | .bool .. => Imp.pure rfl
 | .sb .. => Imp.pure rfl
 | .str .. => Imp.pure rfl
 | .nilp => Imp.pure rfl
 | .nils => Imp.pure rfl
 | .nilf => Imp.pure rfl
 | .nili => Imp.pure rfl
 | .nilm => Imp.pure rfl
 | .junk => Imp.junk _
 | .iptr _ => Imp.pure rfl
 | .inl .. => Imp.pure rfl
 | .sl i t o n => by simp only [jkV]; exact Imp.sl rfl
 | .map i => by have := Imp.ren (τ := some) (.map i); simpa [Ab.ren, jkV] using this
 | .ptr i t r o => by
  simp only [jkV]
  split
  ·exact Imp.junk _
  ·exact Imp.ptr rfl
 | .bptr i o => by
  simp only [jkV]
  split
  ·exact Imp.junk _
  ·exact Imp.bptr rfl
 | .fn f x y => by
  intro S T S' T' v hc h
  simp only [jkV, rel] at h ⊢
  obtain ⟨a, b, h1, h2, h3⟩ := h
  exact ⟨a, b, h1, (jkVs_imp x).rels hc h2, (jkVs_imp y).rels hc h3⟩
 | .iface t x => by
  intro S T S' T' v hc h
  simp only [jkV, rel] at h ⊢
  obtain ⟨u, h1, h2⟩ := h
  exact ⟨u, h1, jkV_imp x _ _ _ _ _ hc h2⟩
 | .agg cs => by
  intro S T S' T' v hc h
  simp only [jkV, rel] at h ⊢
  obtain ⟨us, h1, h2, h3⟩ := h
  exact ⟨us, h1, (jkVs_imp cs).rels hc h2, h3⟩
 | .tup cs => by
  intro S T S' T' v hc h
  simp only [jkV, rel] at h ⊢
  obtain ⟨us, h1, h2⟩ := h
  exact ⟨us, h1, (jkVs_imp cs).rels hc h2⟩
theorem jkVs_imp : ∀ (cs : List AV), Imps some cs (jkVs id cs)
 | [] => trivial
 | c :: cs => ⟨jkV_imp c, jkVs_imp cs⟩
end
mutual
theorem frzV1_eq : ∀ (c : AV), frzV1 arS id sz rows c = fzV id (.arr e sz rows) (jkV id c)
 | .int .. => rfl
 | .bool .. => rfl
 | .sb .. => rfl
 | .str .. => rfl
 | .nilp => rfl
 | .nils => rfl
 | .nilf => rfl
 | .nili => rfl
 | .nilm => rfl
 | .junk => rfl
 | .iptr _ => rfl
 | .inl .. => rfl
 | .sl i t o n => by
  simp only [frzV1, jkV, fzV]
  cases Nat.beq i id <;> rfl
 | .map i => by
  simp only [frzV1, jkV, fzV]
  cases Nat.beq i id <;> rfl
 | .ptr i t r o => by
  simp only [frzV1, jkV]
  cases h : Nat.beq i id <;> simp [fzV, h]
 | .bptr i o => by
  simp only [frzV1, jkV]
  cases h : Nat.beq i id <;> simp [fzV, h]
 | .fn f x y => by simp only [frzV1, jkV, fzV, frzV1s_eq x, frzV1s_eq y]
 | .iface t x => by simp only [frzV1, jkV, fzV, frzV1_eq x]
 | .agg cs => by simp only [frzV1, jkV, fzV, frzV1s_eq cs]
 | .tup cs => by simp only [frzV1, jkV, fzV, frzV1s_eq cs]
theorem frzV1s_eq : ∀ (cs : List AV), frzV1s arS id sz rows cs = fzVs id (.arr e sz rows) (jkVs id cs)
 | [] => rfl
 | c :: cs => by simp only [frzV1s, jkVs, fzVs, frzV1_eq c, frzV1s_eq cs]
end
mutual
theorem oc_fzO {m : Nat} : ∀ (c : AV), (ocV id m c).holds → fzO id m (jkV id c)
 | .int .., _ => trivial
 | .bool .., _ => trivial
 | .sb .., _ => trivial
 | .str .., _ => trivial
 | .nilp, _ => trivial
 | .nils, _ => trivial
 | .nilf, _ => trivial
 | .nili, _ => trivial
 | .nilm, _ => trivial
 | .junk, _ => trivial
 | .iptr _, _ => trivial
 | .inl .., _ => trivial
 | .sl i t o n, h => by
  simp only [ocV] at h
  simp only [jkV, fzO]
  cases hb : Nat.beq i id
  ·trivial
  ·rw [hb] at h; exact h
 | .map i, _ => trivial
 | .ptr i t r o, _ => by
  simp only [jkV]
  cases h : Nat.beq i id <;> simp [fzO, h]
 | .bptr i o, _ => by
  simp only [jkV]
  cases h : Nat.beq i id <;> simp [fzO]
 | .fn f x y, h => by simp only [ocV] at h; simp only [jkV, fzO]; exact ⟨ocs_fzOs x h.1, ocs_fzOs y h.2⟩
 | .iface t x, h => by simp only [ocV] at h; simp only [jkV, fzO]; exact oc_fzO x h
 | .agg cs, h => by simp only [ocV] at h; simp only [jkV, fzO]; exact ocs_fzOs cs h
 | .tup cs, h => by simp only [ocV] at h; simp only [jkV, fzO]; exact ocs_fzOs cs h
theorem ocs_fzOs {m : Nat} : ∀ (cs : List AV), (ocVs id m cs).holds → fzOs id m (jkVs id cs)
 | [], _ => trivial
 | c :: cs, h => by
  simp only [ocVs] at h
  split at h
  ·rename_i he
   exact ⟨oc_fzO c (by rw [he]; trivial), ocs_fzOs cs h⟩
  ·exact ⟨oc_fzO c h.1, ocs_fzOs cs h.2⟩
end
mutual
theorem no_fz {b : ABlk} {m : Nat} : ∀ (c : AV), noV id c = true → fzV id b c = c ∧ fzO id m c
 | .int .., _ => ⟨rfl, trivial⟩
 | .bool .., _ => ⟨rfl, trivial⟩
 | .sb .., _ => ⟨rfl, trivial⟩
 | .str .., _ => ⟨rfl, trivial⟩
 | .nilp, _ => ⟨rfl, trivial⟩
 | .nils, _ => ⟨rfl, trivial⟩
 | .nilf, _ => ⟨rfl, trivial⟩
 | .nili, _ => ⟨rfl, trivial⟩
 | .nilm, _ => ⟨rfl, trivial⟩
 | .junk, _ => ⟨rfl, trivial⟩
 | .iptr _, _ => ⟨rfl, trivial⟩
 | .inl .., _ => ⟨rfl, trivial⟩
 | .sl i t o n, h => by simp only [noV, Bool.not_eq_true'] at h; simp [fzV, fzO, h]
 | .map i, h => by simp only [noV, Bool.not_eq_true'] at h; simp [fzV, fzO, h]
 | .ptr i t r o, h => by simp only [noV, Bool.not_eq_true'] at h; simp [fzV, fzO, h]
 | .bptr i o, h => by simp only [noV, Bool.not_eq_true'] at h; simp [fzV, fzO, h]
 | .fn f x y, h => by
  simp only [noV, Bool.and_eq_true] at h
  obtain ⟨h1, h2⟩ := nos_fz (b := b) (m := m) x h.1
  obtain ⟨h3, h4⟩ := nos_fz (b := b) (m := m) y h.2
  exact ⟨by simp only [fzV, h1, h3], h2, h4⟩
 | .iface t x, h => by
  simp only [noV] at h
  obtain ⟨h1, h2⟩ := no_fz (b := b) (m := m) x h
  exact ⟨by simp only [fzV, h1], h2⟩
 | .agg cs, h => by
  simp only [noV] at h
  obtain ⟨h1, h2⟩ := nos_fz (b := b) (m := m) cs h
  exact ⟨by simp only [fzV, h1], h2⟩
 | .tup cs, h => by
  simp only [noV] at h
  obtain ⟨h1, h2⟩ := nos_fz (b := b) (m := m) cs h
  exact ⟨by simp only [fzV, h1], h2⟩
theorem nos_fz {b : ABlk} {m : Nat} : ∀ (cs : List AV), noVs id cs = true → fzVs id b cs = cs ∧ fzOs id m cs
 | [], _ => ⟨rfl, trivial⟩
 | c :: cs, h => by
  simp only [noVs, Bool.and_eq_true] at h
  obtain ⟨h1, h2⟩ := no_fz (b := b) (m := m) c h.1
  obtain ⟨h3, h4⟩ := nos_fz (b := b) (m := m) cs h.2
  exact ⟨by simp only [fzVs, h1, h3], h2, h4⟩
end
mutual
theorem pur_no : ∀ (c : AV), pur c = true → noV id c = true
 | .int .., _ => rfl
 | .bool .., _ => rfl
 | .sb .., _ => rfl
 | .str .., _ => rfl
 | .nilp, _ => rfl
 | .nils, _ => rfl
 | .nilf, _ => rfl
 | .nili, _ => rfl
 | .nilm, _ => rfl
 | .junk, _ => rfl
 | .iptr _, _ => rfl
 | .inl .., _ => rfl
 | .sl .., h => by simp [pur] at h
 | .map _, h => by simp [pur] at h
 | .ptr .., h => by simp [pur] at h
 | .bptr .., h => by simp [pur] at h
 | .fn f x y, h => by simp only [pur, Bool.and_eq_true] at h; simp only [noV, Bool.and_eq_true]; exact ⟨purs_no x h.1, purs_no y h.2⟩
 | .iface t x, h => by simp only [pur] at h; simp only [noV]; exact pur_no x h
 | .agg cs, h => by simp only [pur] at h; simp only [noV]; exact purs_no cs h
 | .tup cs, h => by simp only [pur] at h; simp only [noV]; exact purs_no cs h
theorem purs_no : ∀ (cs : List AV), purs cs = true → noVs id cs = true
 | [], _ => rfl
 | c :: cs, h => by simp only [purs, Bool.and_eq_true] at h; simp only [noVs, Bool.and_eq_true]; exact ⟨pur_no c h.1, purs_no cs h.2⟩
end
end
theorem puC_mem : ∀ {H : List ABlk}, (puC H).holds → ∀ e sz rows, ABlk.arr e sz rows ∈ H → pursS rows = true
 | [], _, e, sz, rows, hm => by cases hm
 | .arr e' sz' rows' :: H, h, e, sz, rows, hm => by
  rcases List.mem_cons.1 hm with hm | hm
  ·simp only [ABlk.arr.injEq] at hm; obtain ⟨_, _, rfl⟩ := hm; exact h.1
  ·exact puC_mem h.2 e sz rows hm
 | .box _ _ :: H, h, e, sz, rows, hm => by
  rcases List.mem_cons.1 hm with hm | hm
  ·cases hm
  ·exact puC_mem (H := H) h e sz rows hm
 | .dead _ :: H, h, e, sz, rows, hm => by
  rcases List.mem_cons.1 hm with hm | hm
  ·cases hm
  ·exact puC_mem (H := H) h e sz rows hm
 | .mpb _ :: H, h, e, sz, rows, hm => by
  rcases List.mem_cons.1 hm with hm | hm
  ·cases hm
  ·exact puC_mem (H := H) h e sz rows hm
theorem noBx_mem {id : Nat} : ∀ {H : List ABlk}, noBx id H = true → ∀ e cs, ABlk.box e cs ∈ H → noVs id cs = true
 | [], _, e, cs, hm => by cases hm
 | .box e' cs' :: H, h, e, cs, hm => by
  simp only [noBx, Bool.and_eq_true] at h
  rcases List.mem_cons.1 hm with hm | hm
  ·simp only [ABlk.box.injEq] at hm; obtain ⟨_, rfl⟩ := hm; exact h.1
  ·exact noBx_mem h.2 e cs hm
 | .arr _ _ _ :: H, h, e, cs, hm => by
  rcases List.mem_cons.1 hm with hm | hm
  ·cases hm
  ·exact noBx_mem (H := H) h e cs hm
 | .dead _ :: H, h, e, cs, hm => by
  rcases List.mem_cons.1 hm with hm | hm
  ·cases hm
  ·exact noBx_mem (H := H) h e cs hm
 | .mpb _ :: H, h, e, cs, hm => by
  rcases List.mem_cons.1 hm with hm | hm
  ·cases hm
  ·exact noBx_mem (H := H) h e cs hm
def jkHB (id : Nat) : List ABlk → List ABlk
 | [] => []
 | .box e cs :: H => .box e (jkVs id cs) :: jkHB id H
 | b :: H => b :: jkHB id H
theorem jkHB_get {id : Nat} : ∀ {H : List ABlk} {i : Nat} {y : ABlk}, (jkHB id H)[i]? = some y → ∃ x, H[i]? = some x ∧ (x = y ∨ ∃ e cs, x = .box e cs ∧ y = .box e (jkVs id cs))
 | [], i, y, h => by simp [jkHB] at h
 | x :: H, 0, y, h => by
  cases x <;> simp only [jkHB, List.getElem?_cons_zero, Option.some.injEq] at h <;> subst h
  ·exact ⟨_, rfl, .inr ⟨_, _, rfl, rfl⟩⟩
  all_goals exact ⟨_, rfl, .inl rfl⟩
 | x :: H, i + 1, y, h => by
  have : (jkHB id H)[i]? = some y := by cases x <;> simpa [jkHB] using h
  simpa using jkHB_get this
theorem jkHB_len {id : Nat} : ∀ (H : List ABlk), (jkHB id H).length = H.length
 | [] => rfl
 | x :: H => by cases x <;> simp [jkHB, jkHB_len H]
theorem jkVs_len {id : Nat} : ∀ (l : List AV), (jkVs id l).length = l.length
 | [] => rfl
 | c :: l => by simp [jkVs, jkVs_len l]
theorem jkHB_shp {id : Nat} : ∀ (H : List ABlk) (i : Nat), ((jkHB id H)[i]?).map ABlk.shp = (H[i]?).map ABlk.shp
 | [], i => rfl
 | x :: H, 0 => by cases x <;> simp [jkHB, ABlk.shp, jkVs_len]
 | x :: H, i + 1 => by cases x <;> simpa [jkHB] using jkHB_shp H i
theorem Ent.jkB {n id : Nat} {xs : List AV} {H : List ABlk} : Ent n xs H xs (jkHB id H) := by
 intro S0 H0 w vs hn ⟨S, he, hr, hw⟩
 have hsh : shape (jkHB id H) = shape H := funext fun i => jkHB_shp H i
 refine ⟨S, by rw [hsh]; exact he, by rw [hsh]; exact hr, hw.swap (jkHB_shp H) fun i y hy => ?_⟩
 obtain ⟨x, hx, h⟩ := jkHB_get hy
 refine ⟨x, hx, ?_⟩
 rcases h with rfl | ⟨e, cs, rfl, rfl⟩
 ·exact .inl rfl
 ·exact .inr ⟨e, cs, _, rfl, rfl, fun vs hv => (jkVs_imp cs).rels ⟨fun id j hj => by injection hj with hj; subst hj; exact ⟨rfl, rfl⟩, fun _ _ _ h => h⟩ hv⟩
theorem jkHB_box {id : Nat} : ∀ {H : List ABlk} {i : Nat} {e : TypeId} {cs : List AV}, (jkHB id H)[i]? = some (.box e cs) → ∃ cs0, cs = jkVs id cs0 ∧ ABlk.box e cs0 ∈ H
 | [], i, e, cs, h => by simp [jkHB] at h
 | x :: H, 0, e, cs, h => by
  cases x <;> simp [jkHB] at h
  obtain ⟨rfl, rfl⟩ := h
  exact ⟨_, rfl, by simp⟩
 | x :: H, i + 1, e, cs, h => by
  have : (jkHB id H)[i]? = some (.box e cs) := by cases x <;> simpa [jkHB] using h
  obtain ⟨cs0, h1, h2⟩ := jkHB_box this
  exact ⟨cs0, h1, List.mem_cons_of_mem _ h2⟩
theorem ocHB_mem {id m : Nat} : ∀ {H : List ABlk}, (ocHB id m H).holds → ∀ e cs, ABlk.box e cs ∈ H → (ocVs id m cs).holds
 | [], _, e, cs, hm => by cases hm
 | x :: H, h, e, cs, hm => by
  cases x with
  | box e' cs' =>
   simp only [ocHB] at h
   rcases List.mem_cons.1 hm with hm | hm
   ·simp only [ABlk.box.injEq] at hm
    obtain ⟨_, rfl⟩ := hm
    split at h
    ·rename_i he; rw [he]; trivial
    ·exact h.1
   ·split at h
    ·exact ocHB_mem h e cs hm
    ·exact ocHB_mem h.2 e cs hm
  | arr => exact ocHB_mem (H := H) h e cs (by simpa using hm)
  | mpb => exact ocHB_mem (H := H) h e cs (by simpa using hm)
  | dead => exact ocHB_mem (H := H) h e cs (by simpa using hm)
theorem frzHB_map {id sz : Nat} {e : TypeId} {rows : List (List AV)} : ∀ (H : List ABlk), (∀ e' sz' rows', ABlk.arr e' sz' rows' ∈ H → fzB id (.arr e sz rows) (.arr e' sz' rows') = .arr e' sz' rows') → (jkHB id H).map (fzB id (.arr e sz rows)) = frzHB arS id sz rows H
 | [], _ => rfl
 | x :: H, h => by
  have ih := frzHB_map H fun e' sz' rows' hm => h e' sz' rows' (List.mem_cons_of_mem _ hm)
  cases x with
  | box e' cs => simp only [jkHB, List.map_cons, frzHB, ih, fzB, frzV1s_eq (e := e)]
  | arr e' sz' rows' => simp only [jkHB, List.map_cons, frzHB, ih, h e' sz' rows' (List.mem_cons_self ..)]
  | mpb => simp only [jkHB, List.map_cons, frzHB, ih, fzB]
  | dead => simp only [jkHB, List.map_cons, frzHB, ih, fzB]
theorem frzOne_sound {n0 id : Nat} {fr : List AV} {H : List ABlk} {k : List AV → List ABlk → Prop} (h : frzOne arS n0 id fr H k) : ∃ fr' H', k fr' H' ∧ Ent n0 fr H fr' H' := by
 unfold frzOne at h
 rw [getL_eq] at h
 split at h
 ·rename_i e sz rows hg
  split at h
  ·rename_i hb0
   split at h
   ·rename_i hnb
    have hb : Nat.ble n0 id = true ∧ noBx id H = true := ⟨hb0, hnb⟩
    obtain ⟨⟨h1, h2⟩, h3⟩ := h
    have hself : ∀ x ∈ H, fzB id (.arr e sz rows) x = x ∧ fzBO id (rowsN (.arr e sz rows)) x := fun x hx => by
     cases x with
     | box e' cs =>
      obtain ⟨a, b⟩ := nos_fz (id := id) (b := .arr e sz rows) (m := rowsN (.arr e sz rows)) cs (noBx_mem hb.2 e' cs hx)
      exact ⟨by simp only [fzB, a], b⟩
     | arr e' sz' rows' =>
      have hp := puC_mem h1 e' sz' rows' hx
      have key : ∀ r ∈ rows', fzVs id (.arr e sz rows) r = r ∧ fzOs id (rowsN (.arr e sz rows)) r := fun r hr => nos_fz r (purs_no r (pursS_mem hp r hr))
      refine ⟨?_, fun r hr => (key r hr).2⟩
      simp only [fzB, ABlk.arr.injEq, true_and]
      exact (List.map_congr_left fun r hr => (key r hr).1).trans (List.map_id _)
     | mpb s => exact ⟨rfl, trivial⟩
     | dead s => exact ⟨rfl, trivial⟩
    have hH : fzH id (.arr e sz rows) H = H.set id (.dead .mp) := by
     simp only [fzH]
     refine (List.map_congr_left fun x hx => ?_).trans (List.map_id _)
     rcases List.mem_or_eq_of_mem_set hx with hx | rfl
     ·exact (hself x hx).1
     ·rfl
    refine ⟨_, _, h3, (Ent.sub (jkVs_imp (id := id) fr)).trans ?_⟩
    rw [frzV1s_eq (e := e), setL_eq, ← hH]
    exact Ent.fz id _ hg (Nat.ble_eq.mp hb.1) (puC_mem h1 e sz rows (List.mem_of_getElem? hg)) (ocs_fzOs fr h2) fun x hx => (hself x hx).2
   ·obtain ⟨⟨h1, h2⟩, h4, h3⟩ := h
    have harr : ∀ e' sz' rows', ABlk.arr e' sz' rows' ∈ H → fzB id (.arr e sz rows) (.arr e' sz' rows') = .arr e' sz' rows' ∧ ∀ r ∈ rows', fzOs id (rowsN (.arr e sz rows)) r := fun e' sz' rows' hx => by
     have hp := puC_mem h1 e' sz' rows' hx
     have key : ∀ r ∈ rows', fzVs id (.arr e sz rows) r = r ∧ fzOs id (rowsN (.arr e sz rows)) r := fun r hr => nos_fz r (purs_no r (pursS_mem hp r hr))
     refine ⟨?_, fun r hr => (key r hr).2⟩
     simp only [fzB, ABlk.arr.injEq, true_and]
     exact (List.map_congr_left fun r hr => (key r hr).1).trans (List.map_id _)
    have hjk : (jkHB id H)[id]? = some (.arr e sz rows) := by
     have hl : id < (jkHB id H).length := by rw [jkHB_len]; exact get_lt hg
     obtain ⟨x, hx, hxy⟩ := jkHB_get (List.getElem?_eq_getElem hl)
     rw [hg] at hx
     injection hx with hx
     subst hx
     rcases hxy with hxy | ⟨_, _, hxy, _⟩
     ·rw [List.getElem?_eq_getElem hl, ← hxy]
     ·cases hxy
    have hH : fzH id (.arr e sz rows) (jkHB id H) = (frzHB arS id sz rows H).set id (.dead .mp) := by
     simp only [fzH, List.map_set]
     rw [frzHB_map H fun e' sz' rows' hm => (harr e' sz' rows' hm).1]
     rfl
    refine ⟨_, _, h3, (Ent.sub (jkVs_imp (id := id) fr)).trans ((Ent.jkB (id := id)).trans ?_)⟩
    rw [frzV1s_eq (e := e), setL_eq, ← hH]
    refine Ent.fz id _ hjk (Nat.ble_eq.mp hb0) (puC_mem h1 e sz rows (List.mem_of_getElem? hg)) (ocs_fzOs fr h2) fun x hx => ?_
    obtain ⟨i, hi⟩ := List.getElem?_of_mem hx
    obtain ⟨y, hy, hxy⟩ := jkHB_get hi
    rcases hxy with rfl | ⟨e', cs, rfl, rfl⟩
    ·cases y with
     | box e' cs =>
      have := jkHB_box hi
      obtain ⟨cs0, rfl, hm⟩ := this
      exact ocs_fzOs cs0 (ocHB_mem h4 e' cs0 hm)
     | arr e' sz' rows' => exact (harr e' sz' rows' (List.mem_of_getElem? hy)).2
     | mpb s => trivial
     | dead s => trivial
    ·exact ocs_fzOs cs (ocHB_mem h4 e' cs (List.mem_of_getElem? hy))
  ·exact h.elim
 ·exact h.elim
def slFor : List S1 → List AV → Option Nat
 | .inl _ :: _, .sl id _ _ _ :: _ => some id
 | _ :: ss, _ :: xs => slFor ss xs
 | _, _ => none
def frzSlots (A : Ar) (n0 : Nat) : List (Nat × S1) → List AV → List ABlk → (List AV → List ABlk → Prop) → Prop
 | [], fr, H, k => k fr H
 | (i, s) :: l, fr, H, k => match s, getL fr i with
  | .inl _, some (.sl id _ _ _) => frzOne A n0 id fr H fun fr H => frzSlots A n0 l fr H k
  | .agg ss, some (.agg xs) => match slFor ss xs with
   | some id => frzOne A n0 id fr H fun fr H => frzSlots A n0 l fr H k
   | none => frzSlots A n0 l fr H k
  | _, _ => frzSlots A n0 l fr H k
def slIn : List AV → Option Nat
 | [] => none
 | .sl id _ _ _ :: _ => some id
 | _ :: l => slIn l
def frzTs (A : Ar) (n0 : Nat) : List Nat → List AV → List ABlk → (List AV → List ABlk → Prop) → Prop
 | [], fr, H, k => k fr H
 | i :: l, fr, H, k => match getL fr i with
  | some (.sl id _ _ _) => frzOne A n0 id fr H fun fr H => frzTs A n0 l fr H k
  | some (.agg cs) => match slIn cs with
   | some id => frzOne A n0 id fr H fun fr H => frzTs A n0 l fr H k
   | none => frzTs A n0 l fr H k
  | _ => frzTs A n0 l fr H k
def needF (fr : List AV) : List (Nat × S1) → Bool
 | [] => false
 | (i, s) :: l => match s, getL fr i with
  | .inl _, some (.sl _ _ _ _) => true
  | .agg ss, some (.agg xs) => match slFor ss xs with
   | some _ => true
   | none => needF fr l
  | _, _ => needF fr l
def idxs : List (Nat × S1) → List Nat
 | [] => []
 | (i, _) :: l => i :: idxs l
theorem frzSlots_sound {n0 : Nat} : ∀ (l : List (Nat × S1)) (fr : List AV) (H : List ABlk) (k : List AV → List ABlk → Prop), frzSlots arS n0 l fr H k → ∃ fr' H', k fr' H' ∧ Ent n0 fr H fr' H'
 | [], fr, H, k, h => ⟨fr, H, h, Ent.refl _ _ _⟩
 | (i, s) :: l, fr, H, k, h => by
  simp only [frzSlots] at h
  split at h
  ·obtain ⟨fr1, H1, h1, e1⟩ := frzOne_sound h
   obtain ⟨fr2, H2, h2, e2⟩ := frzSlots_sound l fr1 H1 k h1
   exact ⟨fr2, H2, h2, e1.trans e2⟩
  ·split at h
   ·obtain ⟨fr1, H1, h1, e1⟩ := frzOne_sound h
    obtain ⟨fr2, H2, h2, e2⟩ := frzSlots_sound l fr1 H1 k h1
    exact ⟨fr2, H2, h2, e1.trans e2⟩
   ·exact frzSlots_sound l fr H k h
  ·exact frzSlots_sound l fr H k h
theorem frzTs_sound {n0 : Nat} : ∀ (l : List Nat) (fr : List AV) (H : List ABlk) (k : List AV → List ABlk → Prop), frzTs arS n0 l fr H k → ∃ fr' H', k fr' H' ∧ Ent n0 fr H fr' H'
 | [], fr, H, k, h => ⟨fr, H, h, Ent.refl _ _ _⟩
 | i :: l, fr, H, k, h => by
  simp only [frzTs] at h
  split at h
  ·obtain ⟨fr1, H1, h1, e1⟩ := frzOne_sound h
   obtain ⟨fr2, H2, h2, e2⟩ := frzTs_sound l fr1 H1 k h1
   exact ⟨fr2, H2, h2, e1.trans e2⟩
  ·split at h
   ·obtain ⟨fr1, H1, h1, e1⟩ := frzOne_sound h
    obtain ⟨fr2, H2, h2, e2⟩ := frzTs_sound l fr1 H1 k h1
    exact ⟨fr2, H2, h2, e1.trans e2⟩
   ·exact frzTs_sound l fr H k h
  ·exact frzTs_sound l fr H k h
def frzBx (A : Ar) (n0 : Nat) (hp : List SB) : List (Nat × S1) → List AV → List ABlk → (List AV → List ABlk → Prop) → Prop
 | [], fr, H, k => k fr H
 | (i, s) :: l, fr, H, k => match s, getL fr i with
  | .bptr b _, some (.bptr id _) => match getL hp b, getL H id with
   | some (.box _ ss), some (.box _ cs) => match slFor ss cs with
    | some id' => frzOne A n0 id' fr H fun fr H => frzBx A n0 hp l fr H k
    | none => frzBx A n0 hp l fr H k
   | _, _ => frzBx A n0 hp l fr H k
  | _, _ => frzBx A n0 hp l fr H k
def needB (hp : List SB) (fr : List AV) (H : List ABlk) : List (Nat × S1) → Bool
 | [] => false
 | (i, s) :: l => match s, getL fr i with
  | .bptr b _, some (.bptr id _) => match getL hp b, getL H id with
   | some (.box _ ss), some (.box _ cs) => match slFor ss cs with
    | some _ => true
    | none => needB hp fr H l
   | _, _ => needB hp fr H l
  | _, _ => needB hp fr H l
theorem frzBx_sound {n0 : Nat} {hp : List SB} : ∀ (l : List (Nat × S1)) (fr : List AV) (H : List ABlk) (k : List AV → List ABlk → Prop), frzBx arS n0 hp l fr H k → ∃ fr' H', k fr' H' ∧ Ent n0 fr H fr' H'
 | [], fr, H, k, h => ⟨fr, H, h, Ent.refl _ _ _⟩
 | (i, s) :: l, fr, H, k, h => by
  simp only [frzBx] at h
  split at h
  ·split at h
   ·split at h
    ·obtain ⟨fr1, H1, h1, e1⟩ := frzOne_sound h
     obtain ⟨fr2, H2, h2, e2⟩ := frzBx_sound l fr1 H1 k h1
     exact ⟨fr2, H2, h2, e1.trans e2⟩
    ·exact frzBx_sound l fr H k h
   ·exact frzBx_sound l fr H k h
  ·exact frzBx_sound l fr H k h
theorem rel_some {S : RS} {T : Sh} {S' : RS} {T' : Sh} {x : AV} {v : Value} (hc : Cmp some S T S' T') (h : rel S x T v) : rel S' x T' v :=
 rel_ext0 x T T' v ⟨hc.fro, fun id n hn => ⟨by rw [(hc.blk id id rfl).1]; exact hn, (hc.blk id id rfl).2⟩, fun id hn => ⟨by rw [(hc.blk id id rfl).1]; exact hn, (hc.blk id id rfl).2⟩, fun id m sz hn => ⟨m, by rw [(hc.blk id id rfl).1]; exact hn, Nat.le_refl _, fun _ => (hc.blk id id rfl).2⟩⟩ h
theorem maskL_imps (ts : List Nat) : ∀ (k : Nat) (l : List AV), Imps some l (maskL ts k l)
 | _, [] => trivial
 | k, x :: l => by
  refine ⟨?_, maskL_imps ts (k + 1) l⟩
  split
  ·exact fun S T S' T' v hc h => rel_some hc h
  ·exact Imp.junk _
def jumpF (A : Ar) (n0 nt : Nat) (st : St) (fr : List AV) (H : List ABlk) (k : Rs → List Lf → Prop) : Prop :=
 match needF fr st.slots with
 | true => frzSlots A n0 st.slots (maskL (idxs st.slots) 0 fr) H fun fr H => mtS A n0 nt st fr H k
 | false => mtS A n0 nt st fr H k
def jump (A : Ar) (n0 nt : Nat) (st : St) (fr : List AV) (H : List ABlk) (k : Rs → List Lf → Prop) : Prop :=
 match ownAll n0 st.slots st.hp 0 st.hp fr H with
 | (fr, H) => match needB st.hp fr H st.slots with
  | true => frzBx A n0 st.hp st.slots (maskL (idxs st.slots) 0 fr) H fun fr H => jumpF A n0 nt st fr H k
  | false => jumpF A n0 nt st fr H k
theorem jumpF_sound {n0 nt : Nat} {st : St} {fr : List AV} {H : List ABlk} {k : Rs → List Lf → Prop} (h : jumpF arS n0 nt st fr H k) : ∃ rs vs, k rs vs ∧ puAll rs ∧ Ent n0 fr H (bldS arS nt st rs vs).1 (bldS arS nt st rs vs).2 ∧ n0 ≤ (bldS arS nt st rs vs).2.length := by
 unfold jumpF at h
 split at h
 ·obtain ⟨fr2, H2, h2, e2⟩ := frzSlots_sound _ _ _ _ h
  obtain ⟨rs, vs, h3, h4, h5, h6⟩ := mtS_sound h2
  exact ⟨rs, vs, h3, h4, (Ent.sub (maskL_imps _ 0 fr)).trans (e2.trans h5), h6⟩
 ·exact mtS_sound h
theorem jump_sound {n0 nt : Nat} {st : St} {fr : List AV} {H : List ABlk} {k : Rs → List Lf → Prop} (h : jump arS n0 nt st fr H k) : ∃ rs vs, k rs vs ∧ puAll rs ∧ Ent n0 fr H (bldS arS nt st rs vs).1 (bldS arS nt st rs vs).2 ∧ n0 ≤ (bldS arS nt st rs vs).2.length := by
 unfold jump at h
 have ho := ownAll_ent (n0 := n0) (slots := st.slots) (hp0 := st.hp) st.hp 0 fr H
 split at h
 rename_i fr1 H1 he
 rw [he] at ho
 split at h
 ·obtain ⟨fr2, H2, h2, e2⟩ := frzBx_sound _ _ _ _ h
  obtain ⟨rs, vs, h3, h4, h5, h6⟩ := jumpF_sound h2
  exact ⟨rs, vs, h3, h4, ho.trans ((Ent.sub (maskL_imps _ 0 fr1)).trans (e2.trans h5)), h6⟩
 ·obtain ⟨rs, vs, h3, h4, h5, h6⟩ := jumpF_sound h
  exact ⟨rs, vs, h3, h4, ho.trans h5, h6⟩
end Go.Ab

namespace Go.Ab
open Go
set_option linter.unusedVariables false
set_option linter.unusedSimpArgs false
structure Exit where
 tup : Bool
 st : St
 deriving Inhabited
structure Sig where
 f : FuncId
 args : List S1
 hp : List SB
 exits : List Exit
 deriving Inhabited
structure Stop where
 n : Nat
 K : List AItem
 st : St
 deriving Inhabited
structure Ann where
 m : Nat
 k : Nat
 live : List Nat
 ts : List Nat
 deriving Inhabited
def bldX (A : Ar) (ex : Exit) (rs : Rs) (vs : List Lf) : AV × List ABlk :=
 match bldS A (lenL ex.st.slots) ex.st rs vs with
 | (xs, H) => (match ex.tup with
  | true => .tup xs
  | false => match xs with
   | x :: _ => x
   | [] => .junk, H)
def ok1 : S1 → AV → Bool
 | .any, _ => true
 | .c v0, v => eqK v0 v
 | .int _, .int _ _ => true
 | .sb, .sb _ => true
 | .sb, .bool _ => true
 | .str, .str _ => true
 | .inl _, .inl _ _ => true
 | .inl _, .nils => true
 | .inl _, .sl _ _ _ _ => true
 | .sl _, .sl _ _ _ _ => true
 | .sl _, .nils => true
 | .slp _, .sl _ _ _ _ => true
 | .slh _, .sl _ _ _ _ => true
 | .slh _, .nils => true
 | .ptr _ _, .ptr _ _ _ _ => true
 | .bptr _ _, .bptr _ _ => true
 | .map _, .map _ => true
 | .iptr _, .iptr _ => true
 | .agg _, .agg _ => true
 | .tup _, .tup _ => true
 | .fn f _ _, .fn (.func f') _ _ => Nat.beq f f'
 | .iface t _, .iface t' _ => Nat.beq t t'
 | _, _ => false
def okArgs : List S1 → List AV → Bool
 | [], [] => true
 | s :: ss, x :: xs => ok1 s x && okArgs ss xs
 | _, _ => false
def okSl (fr : List AV) : List (Nat × S1) → Bool
 | [] => true
 | (i, s) :: l => match getL fr i with
  | some v => ok1 s v && okSl fr l
  | none => false
def pickX (tup : Bool) (fr : List AV) : Nat → List Exit → Option (Nat × Exit)
 | _, [] => none
 | i, ex :: l => match (match tup with | true => ex.tup | false => !ex.tup) && (Nat.beq (lenL fr) (lenL ex.st.slots) && okSl fr ex.st.slots) with
  | true => some (i, ex)
  | false => pickX tup fr (i + 1) l
def findSig (f : FuncId) (args : List AV) : Nat → List Sig → Option (Nat × Sig)
 | _, [] => none
 | i, g :: l => match Nat.beq g.f f && okArgs g.args args with
  | true => some (i, g)
  | false => findSig f args (i + 1) l
def RX (exits : List Exit) (n0 : Nat) (Q : Nat → Rs → List Lf → Prop) (r : AV) (H : List ABlk) : Prop :=
 ∃ x ex rs vs, getL exits x = some ex ∧ puAll rs ∧ Q x rs vs ∧ bldX arS ex rs vs = (r, H) ∧ n0 ≤ H.length ∧ pureA H
def RC (exits : List Exit) (n0 : Nat) (Q : Nat → Rs → List Lf → Prop) (r : AV) (H : List ABlk) : Prop :=
 ∃ r' H', Ent n0 [r] H [r'] H' ∧ RX exits n0 Q r' H'
def EC (P : Program) (g : Sig) (rs : Rs) (vs : List Lf) (Q : Nat → Rs → List Lf → Prop) : Prop :=
 puAll rs → CallsA P g.f (bldC arS g.args g.hp rs vs).1 (bldC arS g.args g.hp rs vs).2 (RX g.exits (bldC arS g.args g.hp rs vs).2.length Q)
theorem EC.mono {P : Program} {g : Sig} {rs : Rs} {vs : List Lf} {Q Q' : Nat → Rs → List Lf → Prop} (h : EC P g rs vs Q) (hm : ∀ x rs' vs', Q x rs' vs' → Q' x rs' vs') : EC P g rs vs Q' :=
 fun hp => (h hp).mono fun r H ⟨x, ex, rs', vs', h1, h2, h3, h4⟩ => ⟨x, ex, rs', vs', h1, h2, hm _ _ _ h3, h4⟩
theorem EC.monoP {P : Program} {g : Sig} {rs : Rs} {vs : List Lf} {Q Q' : Nat → Rs → List Lf → Prop} (h : EC P g rs vs Q) (hm : ∀ x rs' vs', puAll rs' → Q x rs' vs' → Q' x rs' vs') : EC P g rs vs Q' :=
 fun hp => (h hp).mono fun r H ⟨x, ex, rs', vs', h1, h2, h3, h4⟩ => ⟨x, ex, rs', vs', h1, h2, hm _ _ _ h2 h3, h4⟩
theorem bldH_pure {A : Ar} {ρ : Nat → List (List AV)} : ∀ (hp : List SB) (rs : Rs) (vs : List Lf), puAll rs → pureA (bldH A ρ hp rs vs)
 | [], rs, vs, _ => fun j e sz rows h => by simp [bldH] at h
 | .box e cs :: hp, rs, vs, h => fun j e' sz rows hj => by
  simp only [bldH] at hj
  cases j with
  | zero => simp at hj
  | succ j => exact bldH_pure hp rs _ h j e' sz rows (by simpa using hj)
 | .arr e sz :: hp, rs, vs, h => fun j e' sz' rows hj => by
  cases rs with
  | nil => simp [bldH] at hj
  | cons r rs =>
   simp only [bldH] at hj
   cases j with
   | zero => simp at hj; rw [← hj.2.2]; exact h.1
   | succ j => exact bldH_pure hp rs _ h.2 j e' sz' rows (by simpa using hj)
 | .mp :: hp, rs, vs, h => fun j e' sz' rows hj => by
  cases rs with
  | nil => simp [bldH] at hj
  | cons r rs =>
   simp only [bldH] at hj
   cases j with
   | zero => simp at hj
   | succ j => exact bldH_pure hp rs _ h.2 j e' sz' rows (by simpa using hj)
theorem bldS_pure {A : Ar} {nt : Nat} {st : St} {rs : Rs} {vs : List Lf} (h : puAll rs) : pureA (bldS A nt st rs vs).2 := by
 unfold bldS
 exact bldH_pure st.hp rs _ h
theorem bldX_2 {A : Ar} {ex : Exit} {rs : Rs} {vs : List Lf} : (bldX A ex rs vs).2 = (bldS A (lenL ex.st.slots) ex.st rs vs).2 := rfl
theorem Ent.tup {n : Nat} {xs xs' : List AV} {H H' : List ABlk} (h : Ent n xs H xs' H') : Ent n [.tup xs] H [.tup xs'] H' := by
 intro S0 H0 w vs hn ⟨S, h1, h2, h3⟩
 simp only [rels, rel] at h2
 obtain ⟨v, _, rfl, ⟨us, rfl, h2⟩, rfl⟩ := h2
 obtain ⟨S', g1, g2, g3⟩ := h S0 H0 w us.toList hn ⟨S, h1, h2, h3⟩
 exact ⟨S', g1, by simp only [rels, rel]; exact ⟨_, [], rfl, ⟨us, rfl, g2⟩, rfl⟩, g3⟩
def retS (A : Ar) (exits : List Exit) (n0 : Nat) (RR : Nat → Rs → List Lf → Prop) (v : AV) (H : List ABlk) : Prop :=
 match v with
 | .tup xs => match pickX true xs 0 exits with
  | some (i, ex) => jump A n0 (lenL ex.st.slots) ex.st xs H fun rs vs => RR i rs vs
  | none => False
 | v => match pickX false [v] 0 exits with
  | some (i, ex) => jump A n0 (lenL ex.st.slots) ex.st [v] H fun rs vs => RR i rs vs
  | none => False
theorem pickX_get {tup : Bool} {fr : List AV} : ∀ {l : List Exit} {k i : Nat} {ex : Exit}, pickX tup fr k l = some (i, ex) → k ≤ i ∧ l[i - k]? = some ex ∧ ex.tup = tup ∧ fr.length = ex.st.slots.length
 | [], k, i, ex, h => by simp [pickX] at h
 | e0 :: l, k, i, ex, h => by
  simp only [pickX] at h
  split at h
  ·rename_i hb
   simp only [Option.some.injEq, Prod.mk.injEq] at h
   obtain ⟨rfl, rfl⟩ := h
   simp only [Bool.and_eq_true, lenL_eq] at hb
   refine ⟨Nat.le_refl _, by simp, ?_, Nat.eq_of_beq_eq_true hb.2.1⟩
   cases tup
   ·simpa using hb.1
   ·exact hb.1
  ·obtain ⟨h1, h2, h3⟩ := pickX_get h
   refine ⟨by omega, ?_, h3⟩
   rw [show i - k = (i - (k + 1)) + 1 by omega]
   simpa using h2
theorem retS_sound {exits : List Exit} {n0 : Nat} {Q : Nat → Rs → List Lf → Prop} {v : AV} {H : List ABlk} (h : retS arS exits n0 Q v H) : RC exits n0 Q v H := by
 have single : ∀ (v : AV), (match pickX false [v] 0 exits with
  | some (i, ex) => jump arS n0 (lenL ex.st.slots) ex.st [v] H fun rs vs => Q i rs vs
  | none => False) → RC exits n0 Q v H := fun v h => by
  split at h
  ·rename_i i ex he
   obtain ⟨_, h1, h2, h3⟩ := pickX_get he
   obtain ⟨rs, vs, g1, g2, g3, g4⟩ := jump_sound h
   have hlen : (bldS arS (lenL ex.st.slots) ex.st rs vs).1.length = 1 := by
    have hF : ∀ (ρ : Nat → List (List AV)) (l : List (Nat × S1)) (fr : List AV) (vs : List Lf), (bldF arS ρ l fr vs).1.length = fr.length := by
     intro ρ l
     induction l with
     | nil => intro fr vs; rfl
     | cons p l ih =>
      intro fr vs
      obtain ⟨i, s⟩ := p
      simp only [bldF]
      rw [ih, setL_eq]
      simp
    simp only [bldS]
    rw [hF, repL_eq, List.length_replicate, lenL_eq, ← h3]
    rfl
   obtain ⟨x, hx⟩ : ∃ x, (bldS arS (lenL ex.st.slots) ex.st rs vs).1 = [x] := by
    cases hc : (bldS arS (lenL ex.st.slots) ex.st rs vs).1 with
    | nil => rw [hc] at hlen; cases hlen
    | cons x l =>
     cases l with
     | nil => exact ⟨x, rfl⟩
     | cons _ _ => rw [hc] at hlen; simp at hlen
   rw [hx] at g3
   refine ⟨x, (bldS arS (lenL ex.st.slots) ex.st rs vs).2, g3, i, ex, rs, vs, by rw [getL_eq]; simpa using h1, g2, g1, ?_, g4, bldS_pure g2⟩
   unfold bldX
   cases hb : bldS arS (lenL ex.st.slots) ex.st rs vs with
   | mk a b =>
    rw [hb] at hx
    simp only at hx
    subst hx
    simp [h2]
  ·exact h.elim
 unfold retS at h
 split at h
 ·rename_i xs
  split at h
  ·rename_i i ex he
   obtain ⟨_, h1, h2, h3⟩ := pickX_get he
   obtain ⟨rs, vs, g1, g2, g3, g4⟩ := jump_sound h
   refine ⟨_, _, g3.tup, i, ex, rs, vs, by rw [getL_eq]; simpa using h1, g2, g1, ?_, g4, bldS_pure g2⟩
   unfold bldX
   cases hb : bldS arS (lenL ex.st.slots) ex.st rs vs with
   | mk a b => simp [h2]
  ·exact h.elim
 ·exact single _ h
def callS (A : Ar) (sigs : List Sig) (CE : Nat → Rs → List Lf → (Nat → Rs → List Lf → Prop) → Prop) (f : FuncId) (args : List AV) (H : List ABlk) (K : AV → List ABlk → Prop) : Prop :=
 match findSig f args 0 sigs with
 | some (i, g) => mtC A g.args g.hp args H fun β rs vs => CE i rs vs fun x rs' vs' => match getL g.exits x with
  | some ex => match bldX A ex rs' vs' with
   | (r, H0) => K (ren (outN β (lenL H)) r) (appL (putHs (outN β (lenL H)) β H0 H) (newHs (outN β (lenL H)) β H0))
  | none => True
 | none => False
theorem findSig_get {f : FuncId} {args : List AV} : ∀ {l : List Sig} {k i : Nat} {g : Sig}, findSig f args k l = some (i, g) → k ≤ i ∧ l[i - k]? = some g ∧ g.f = f
 | [], k, i, g, h => by simp [findSig] at h
 | g0 :: l, k, i, g, h => by
  simp only [findSig] at h
  split at h
  ·rename_i hb
   simp only [Option.some.injEq, Prod.mk.injEq] at h
   obtain ⟨rfl, rfl⟩ := h
   simp only [Bool.and_eq_true] at hb
   exact ⟨Nat.le_refl _, by simp, Nat.eq_of_beq_eq_true hb.1⟩
  ·obtain ⟨h1, h2, h3⟩ := findSig_get h
   refine ⟨by omega, ?_, h3⟩
   rw [show i - k = (i - (k + 1)) + 1 by omega]
   simpa using h2
section
variable {P : Program} {sigs : List Sig} {CE : Nat → Rs → List Lf → (Nat → Rs → List Lf → Prop) → Prop}
theorem callS_sound (hCE : ∀ i g rs vs Q, sigs[i]? = some g → CE i rs vs Q → EC P g rs vs Q) {f : FuncId} {args : List AV} {H : List ABlk} {K K' : AV → List ABlk → Prop} (hm : ∀ v H', K v H' → K' v H')
  (h : callS arS sigs CE f args H K) : CallsA P f args H K' := by
 unfold callS at h
 split at h
 ·rename_i i g hg
  obtain ⟨_, h1, h2⟩ := findSig_get hg
  obtain ⟨β, rs, vs, g1, g2, g3, g4, g5, g6⟩ := mtC_sound h
  have hE := hCE i g rs vs _ (by simpa using h1) g1 g2
  rw [h2] at hE
  refine (hE.ren β g3 g4 g5 g6 fun r H' ⟨x, ex, rs', vs', _, _, _, _, q5, q6⟩ => ⟨by rw [← g4]; exact q5, q6⟩).mono fun r H'' ⟨r0, H0, ⟨x, ex, rs', vs', q1, q2, q3, q4, q5, q6⟩, e1, e2⟩ => ?_
  simp only [q1, q4] at q3
  rw [e1, e2]
  rw [appL_eq, lenL_eq] at q3
  exact hm _ _ q3
 ·exact h.elim
theorem satC_callS (hCE : ∀ i g rs vs Q, sigs[i]? = some g → CE i rs vs Q → EC P g rs vs Q) {H : List ABlk} : ∀ {o : Out} {K K' : AV → List ABlk → Prop}, (∀ v H', K v H' → K' v H') → satC arS (callS arS sigs CE) H o K → satC arS (CallsA P) H o K'
 | .ok _ _, _, _, hm, h => hm _ _ h
 | .need _ _, _, _, hm, h => ⟨h.1, satC_callS hCE hm h.2⟩
 | .ask _ _, _, _, hm, h => h.elim fun r hr => ⟨r, hr.1, satC_callS hCE hm hr.2⟩
 | .br _ _, _, _, hm, h => by simp only [satC] at h ⊢; exact satC_callS hCE hm h
 | .nilq _ _ _, _, _, hm, h => ⟨fun hb => hm _ _ (h.1 hb), hm _ _ h.2⟩
 | .call _ _, _, _, hm, h => callS_sound hCE (fun v H' hk => hm _ _ hk) h
 | .bad, _, _, _, h => h
theorem mvG_mono (hCE : ∀ i g rs vs Q, sigs[i]? = some g → CE i rs vs Q → EC P g rs vs Q) : ∀ {o : Out} {K K' L L' : AV → Prop}, (∀ v, K v → L v) → (∀ v, K' v → L' v) → mvG arS (callS arS sigs CE) o K K' → mvG arS (CallsA P) o L L' := by
 intro o
 induction o with
 | ok v H => intro K K' L L' h1 h2 h; exact h1 _ h
 | need p o ih =>
  intro K K' L L' h1 h2 h
  cases o with
  | ok v H => exact ⟨h.1, h1 _ h.2⟩
  | need p' o' => exact ⟨h.1, ih h2 h2 h.2⟩
  | ask p' k' => exact ⟨h.1, ih h2 h2 h.2⟩
  | br b k' => exact ⟨h.1, ih h2 h2 h.2⟩
  | nilq => exact h.2.elim
  | call f args => exact ⟨h.1, ih h2 h2 h.2⟩
  | bad => exact ⟨h.1, ih h2 h2 h.2⟩
 | ask p k ih => intro K K' L L' h1 h2 h; obtain ⟨r, g1, g2⟩ := h; exact ⟨r, g1, ih r h2 h2 g2⟩
 | br b k ih => intro K K' L L' h1 h2 h; exact ih b h2 h2 h
 | nilq => intro K K' L L' h1 h2 h; exact h.elim
 | call f args =>
  intro K K' L L' h1 h2 h
  obtain ⟨v, ⟨g1, g2⟩, g3⟩ := h
  exact ⟨v, ⟨g1, callS_sound hCE (fun _ _ h => h) g2⟩, h2 _ g3⟩
 | bad => intro K K' L L' h1 h2 h; exact h
section
variable {σr : RowF} {l : List AOp} {bs : List Bool}
theorem allG_mono (hCE : ∀ i g rs vs Q, sigs[i]? = some g → CE i rs vs Q → EC P g rs vs Q) {fr : List AV} {H : List ABlk} {cont stop cont' stop' : Nat → AOp → AV → List ABlk → Prop} (h1 : ∀ i o v H', keepP bs H H' → cont i o v H' → cont' i o v H') (h2 : ∀ i o v H', keepP bs H H' → stop i o v H' → stop' i o v H') :
  ∀ {rs : List Nat}, allG arS σr (callS arS sigs CE) l bs fr H cont stop rs → allG arS σr (CallsA P) l bs fr H cont' stop' rs
 | [], _ => trivial
 | i :: is, h => by
  simp only [allG] at h ⊢
  refine ⟨?_, allG_mono hCE h1 h2 h.2⟩
  have h := h.1
  split
  ·rename_i o ho
   rw [ho] at h
   simp only at h
   split
   ·rename_i hg
    rw [hg] at h
    exact ⟨h.1, h1 _ _ _ _ h.1 h.2⟩
   ·rename_i hg
    rw [hg] at h
    simp only at h
    split
    ·rename_i v H' hx
     rw [hx] at h
     exact ⟨h.1, h1 _ _ _ _ h.1 h.2⟩
    ·rename_i p v H' hx
     rw [hx] at h
     exact ⟨h.1, h.2.1, h1 _ _ _ _ h.2.1 h.2.2⟩
    ·rename_i hn1 hn2
     split at h
     ·rename_i hx; exact absurd hx (hn1 _ _)
     ·rename_i hx; exact absurd hx (hn2 _ _ _)
     ·exact satC_callS hCE (fun v H' ⟨q1, q2⟩ => ⟨q1, h2 _ _ _ _ q1 q2⟩) h
   ·rename_i hn1 hn2
    split at h
    ·rename_i hg; exact absurd hg hn1
    ·rename_i hg; exact absurd hg hn2
    ·exact h
  ·rename_i ho
   rw [ho] at h
   exact h
theorem drawG_mono {qf : List Nat} (hCE : ∀ i g rs vs Q, sigs[i]? = some g → CE i rs vs Q → EC P g rs vs Q) {Fin Fin' : List AV → List ABlk → Prop} {Dr Dr' : Nat → List Bool → List AV → List ABlk → Prop} (hF : ∀ fr H, Fin fr H → Fin' fr H) (hD : ∀ n li fr H, keepP bs H H → Dr n li fr H → Dr' n li fr H) :
  ∀ (n : Nat) (listed : List Bool) (fr : List AV) (H : List ABlk), keepP bs H H → drawG arS σr (callS arS sigs CE) Fin Dr l bs qf n listed fr H → drawG arS σr (CallsA P) Fin' Dr' l bs qf n listed fr H := by
 intro n
 induction n with
 | zero =>
  intro listed fr H hk h
  simp only [drawG] at h ⊢
  split at h
  ·exact hF _ _ h
  ·exact h.elim
 | succ n ih =>
  intro listed fr H hk h
  simp only [drawG] at h ⊢
  split at h
  ·exact hF _ _ h
  ·split at h
   ·exact ⟨fun hb => hD _ _ _ _ hk (h.1 hb), fun hb => hD _ _ _ _ hk (h.2 hb)⟩
   ·split at h
    ·exact ih _ _ _ hk h
    ·exact mvG_mono hCE (fun v hv => ih _ _ _ hk hv) (fun v hv => hD _ _ _ _ hk hv) h
    ·exact allG_mono hCE (fun i o v H' q1 q2 => ih _ _ _ (keepP_right q1) q2) (fun i o v H' q1 q2 => hD _ _ _ _ (keepP_right q1) q2) h
end
end
end Go.Ab

namespace Go.Ab
open Go
set_option linter.unusedVariables false
set_option linter.unusedSimpArgs false
def annOf (m k : Nat) : List Ann → Option Ann
 | [] => none
 | a :: l => match Nat.beq a.m m && Nat.beq a.k k with
  | true => some a
  | false => annOf m k l
def frzAnn (A : Ar) (n0 : Nat) (a : Option Ann) (fr : List AV) (H : List ABlk) (k : List AV → List ABlk → Prop) : Prop :=
 match a with
 | none => k fr H
 | some a => frzTs A n0 a.ts (maskL a.live 0 fr) H k
def cutOf (m k : Nat) (l : List Ann) : Bool :=
 match annOf m k l with
 | some a => match a.ts with
  | [] => true
  | _ => false
 | none => false
def dropAnn (m k : Nat) : List Ann → List Ann
 | [] => []
 | a :: l => match Nat.beq a.m m && Nat.beq a.k k with
  | true => dropAnn m k l
  | false => a :: dropAnn m k l
theorem frzAnn_sound {n0 : Nat} {a : Option Ann} {fr : List AV} {H : List ABlk} {k : List AV → List ABlk → Prop} (h : frzAnn arS n0 a fr H k) : ∃ fr' H', k fr' H' ∧ Ent n0 fr H fr' H' := by
 cases a with
 | none => exact ⟨fr, H, h, Ent.refl _ _ _⟩
 | some a =>
  obtain ⟨fr', H', h1, h2⟩ := frzTs_sound _ _ _ _ h
  exact ⟨fr', H', h1, (Ent.sub (maskL_imps _ 0 fr)).trans h2⟩
def stopOf (chk : Bool) (m : Nat) : List Stop → Option Stop
 | [] => none
 | s :: l => match chk && Nat.beq s.n m with
  | true => some s
  | false => stopOf chk m l
def eqIs : List AItem → List AItem → Bool
 | [], [] => true
 | .c n :: K, .c n' :: K' => Nat.beq n n' && eqIs K K'
 | .ops n k :: K, .ops n' k' :: K' => Nat.beq n n' && (Nat.beq k k' && eqIs K K')
 | .blk n :: K, .blk n' :: K' => Nat.beq n n' && eqIs K K'
 | .lp n :: K, .lp n' :: K' => Nat.beq n n' && eqIs K K'
 | _, _ => false
theorem eqIs_eq : ∀ {K K' : List AItem}, eqIs K K' = true → K = K'
 | [], [], _ => rfl
 | .c n :: K, .c n' :: K', h => by simp only [eqIs, Bool.and_eq_true] at h; rw [Nat.eq_of_beq_eq_true h.1, eqIs_eq h.2]
 | .ops n k :: K, .ops n' k' :: K', h => by simp only [eqIs, Bool.and_eq_true] at h; rw [Nat.eq_of_beq_eq_true h.1, Nat.eq_of_beq_eq_true h.2.1, eqIs_eq h.2.2]
 | .blk n :: K, .blk n' :: K', h => by simp only [eqIs, Bool.and_eq_true] at h; rw [Nat.eq_of_beq_eq_true h.1, eqIs_eq h.2]
 | .lp n :: K, .lp n' :: K', h => by simp only [eqIs, Bool.and_eq_true] at h; rw [Nat.eq_of_beq_eq_true h.1, eqIs_eq h.2]
 | [], .c _ :: _, h => by cases h
 | [], .ops _ _ :: _, h => by cases h
 | [], .blk _ :: _, h => by cases h
 | [], .lp _ :: _, h => by cases h
 | .c _ :: _, [], h => by cases h
 | .c _ :: _, .ops _ _ :: _, h => by cases h
 | .c _ :: _, .blk _ :: _, h => by cases h
 | .c _ :: _, .lp _ :: _, h => by cases h
 | .ops _ _ :: _, [], h => by cases h
 | .ops _ _ :: _, .c _ :: _, h => by cases h
 | .ops _ _ :: _, .blk _ :: _, h => by cases h
 | .ops _ _ :: _, .lp _ :: _, h => by cases h
 | .blk _ :: _, [], h => by cases h
 | .blk _ :: _, .c _ :: _, h => by cases h
 | .blk _ :: _, .ops _ _ :: _, h => by cases h
 | .blk _ :: _, .lp _ :: _, h => by cases h
 | .lp _ :: _, [], h => by cases h
 | .lp _ :: _, .c _ :: _, h => by cases h
 | .lp _ :: _, .ops _ _ :: _, h => by cases h
 | .lp _ :: _, .blk _ :: _, h => by cases h
def bsOf (m : Nat) (H : List ABlk) : List (Nat × List Bool) → List Bool
 | [] => H.map fun _ => true
 | (m', bs) :: l => match Nat.beq m m' with
  | true => bs
  | false => bsOf m H l
def qfOf : List Sig → List Nat
 | [] => []
 | g :: l => match g.hp, g.exits with
  | [], [⟨_, ⟨_, []⟩⟩] => g.f :: qfOf l
  | _, _ => qfOf l
structure Cont where
 m : Nat
 k : Nat
 K : List AItem
 dst : Option Nat
 fr : List AV
 β : List Nat
 H : List ABlk
section
variable (A : Ar) (σr : RowF) (sigs : List Sig) (CE : Nat → Rs → List Lf → (Nat → Rs → List Lf → Prop) → Prop) (CK : Nat → Rs → List Lf → Cont → Prop) (Dn : Nat → List Bool → List AItem → Nat → List Bool → List AV → List ABlk → Prop) (EV : Nat → Rs → List Lf → Prop) (RR : Nat → Rs → List Lf → Prop)
 (tab : List Node) (res : List RV) (stops : List Stop) (anns : List Ann) (drw : List (Nat × List Bool)) (exits : List Exit) (n0 nt : Nat)
def callK (m k : Nat) (K : List AItem) (dst : Option Nat) (fr : List AV) (H : List ABlk) (f : FuncId) (args : List AV) : Prop :=
 match findSig f args 0 sigs with
 | some (i, g) => mtC A g.args g.hp args H fun β rs vs => CK i rs vs ⟨m, k, K, dst, fr, β, H⟩
 | none => False
def yesS (m k : Nat) (K : List AItem) (o : AOp) (cont : List AV → List ABlk → Prop) (fr : List AV) (H : List ABlk) : Prop :=
 match pickOf fr o.op with
 | some (t, b, va, vb) => A.im b true (cont (putL (setL fr t (.bool true)) o.dst va) H) ∧ A.im b false (cont (putL (setL fr t (.bool false)) o.dst vb) H)
 | none => match exec1 A σr fr H o.op with
  | .ok v H' => cont (putL fr o.dst v) H'
  | .need p (.ok v H') => A.nd p ∧ cont (putL fr o.dst v) H'
  | .need p (.need p2 (.ok v H')) => A.nd p ∧ A.nd p2 ∧ cont (putL fr o.dst v) H'
  | .nilq neg n H' => A.im (A.cmp .eql (A.ofN n) 0) true (cont (putL fr o.dst (.bool (!neg))) H') ∧ cont (putL fr o.dst (.bool neg)) H'
  | .need p (.nilq neg n H') => A.nd p ∧ A.im (A.cmp .eql (A.ofN n) 0) true (cont (putL fr o.dst (.bool (!neg))) H') ∧ cont (putL fr o.dst (.bool neg)) H'
  | .call f args => callK A sigs CK m k K o.dst fr H f (unsL args)
  | .need p (.call f args) => A.nd p ∧ callK A sigs CK m k K o.dst fr H f (unsL args)
  | _ => False
def opsS (m : Nat) (K : List AItem) (fin : List AV → List ABlk → Prop) : List AOp → Nat → List AV → List ABlk → Prop
 | [], _, fr, H => fin fr H
 | o :: os, k, fr, H => match cutOf m k anns with
  | true => Dn m [] K k [] fr H
  | false => frzAnn A n0 (annOf m k anns) fr H fun fr H =>
  match gst fr o.guard with
  | .yes => yesS A σr sigs CK m k K o (fun fr H => opsS m K fin os (k + 1) fr H) fr H
  | .no => opsS m K fin os (k + 1) (putL fr o.dst (.tup [])) H
  | .sym t b true => A.im b true (yesS A σr sigs CK m k K o (fun fr H => opsS m K fin os (k + 1) fr H) (setL fr t (.bool true)) H) ∧ A.im b false (opsS m K fin os (k + 1) (putL (setL fr t (.bool false)) o.dst (.tup [])) H)
  | .sym t b false => A.im b false (yesS A σr sigs CK m k K o (fun fr H => opsS m K fin os (k + 1) fr H) (setL fr t (.bool false)) H) ∧ A.im b true (opsS m K fin os (k + 1) (putL (setL fr t (.bool true)) o.dst (.tup [])) H)
  | .bad => False
def segP : Nat → Bool → List AItem → List AV → List ABlk → Prop
 | 0, _, _, _, _ => False
 | _ + 1, _, [], fr, H => satC A (callS A sigs CE) H (resA A σr fr H res []) fun v H' => retS A exits n0 RR v H'
 | n + 1, _, .blk _ :: K, fr, H => segP n true K fr H
 | n + 1, _, .lp m :: K, fr, H => segP n true (.c m :: .lp m :: K) fr H
 | n + 1, _, .ops m k :: K, fr, H => match getL tab m with
  | some (.region l false) => opsS A σr sigs CK Dn anns n0 m K (fun fr H => segP n true K fr H) (dropL k l) k fr H
  | _ => False
 | n + 1, chk, .c m :: K, fr, H => match stopOf chk m stops with
  | some s => match eqIs K s.K with
   | true => jump A n0 nt s.st fr H fun rs vs => EV m rs vs
   | false => False
  | none => match getL tab m with
   | some (.seq d) => segP n true (.c (m + 1) :: .c (m + d) :: K) fr H
   | some (.block id) => segP n true (.c (m + 1) :: .blk id :: K) fr H
   | some .loop => segP n true (.c (m + 1) :: .lp (m + 1) :: K) fr H
   | some (.cond x d) => match ev fr x with
    | .bool true => segP n true (.c (m + 1) :: K) fr H
    | .bool false => segP n true (.c (m + d) :: K) fr H
    | .sb b => match x with
     | .t t => A.im b true (segP n true (.c (m + 1) :: K) (setL fr t (.bool true)) H) ∧ A.im b false (segP n true (.c (m + d) :: K) (setL fr t (.bool false)) H)
     | .c _ => False
    | _ => False
   | some (.region l false) => opsS A σr sigs CK Dn anns n0 m K (fun fr H => segP n true K fr H) l 0 fr H
   | some (.region l true) => match Nat.ble (lenL (bsOf m H drw)) (lenL H) with
    | true => drawG A σr (callS A sigs CE) (fun fr H => segP n true K fr H) (Dn m (bsOf m H drw) K) l (bsOf m H drw) (qfOf sigs) (lenL l) (repL (lenL l) false) fr H
    | false => False
   | some (.exit id) => match exitA id K with
    | some K' => segP n true K' fr H
    | none => False
   | some .skip => segP n true K fr H
   | some .ret => satC A (callS A sigs CE) H (resA A σr fr H res []) fun v H' => retS A exits n0 RR v H'
   | _ => False
def drwP (m n : Nat) (bs : List Bool) (K : List AItem) (k : Nat) (listed : List Bool) (fr : List AV) (H : List ABlk) : Prop :=
 match getL tab m with
 | some (.region l true) => drawG A σr (callS A sigs CE) (fun fr H => segP A σr sigs CE CK Dn EV RR tab res stops anns drw exits n0 nt n true K fr H) (Dn m bs K) l bs (qfOf sigs) k listed fr H
 | some (.region l false) => opsS A σr sigs CK Dn (dropAnn m k anns) n0 m K (fun fr H => segP A σr sigs CE CK Dn EV RR tab res stops anns drw exits n0 nt n true K fr H) (dropL k l) k fr H
 | _ => False
end
def contS (A : Ar) (exits : List Exit) (c : Cont) (go : List AItem → List AV → List ABlk → Prop) (x : Nat) (rs : Rs) (vs : List Lf) : Prop :=
 match getL exits x with
 | some ex => match bldX A ex rs vs with
  | (r, H0) => go (.ops c.m (c.k + 1) :: c.K) (putL c.fr c.dst (sym (ren (outN c.β (lenL c.H)) r))) (appL (putHs (outN c.β (lenL c.H)) c.β H0 c.H) (newHs (outN c.β (lenL c.H)) c.β H0))
 | none => True
section
variable {P : Program} {fn : Func} {tab : List Node} {H0 : List ABlk} {σr : RowF} {sigs : List Sig} {CE : Nat → Rs → List Lf → (Nat → Rs → List Lf → Prop) → Prop} {CK : Nat → Rs → List Lf → Cont → Prop} {Dn : Nat → List Bool → List AItem → Nat → List Bool → List AV → List ABlk → Prop} {EV RR : Nat → Rs → List Lf → Prop} {res : List RV} {stops : List Stop} {anns : List Ann} {drw : List (Nat × List Bool)} {exits : List Exit} {nt : Nat}
theorem callK_sound {R : AV → List ABlk → Prop} (hCK : ∀ i g rs vs c, sigs[i]? = some g → CK i rs vs c → EC P g rs vs (contS arS g.exits c fun K fr H => Run P fn tab H0 R K fr H)) {m k : Nat} {K : List AItem} {dst : Option Nat} {fr : List AV} {H : List ABlk} {f : FuncId} {args : List AV}
  (h : callK arS sigs CK m k K dst fr H f args) : CallsA P f args H fun r H' => Run P fn tab H0 R (.ops m (k + 1) :: K) (putL fr dst (sym r)) H' := by
 unfold callK at h
 split at h
 ·rename_i i g hg
  obtain ⟨_, h1, h2⟩ := findSig_get hg
  obtain ⟨β, rs, vs, g1, g2, g3, g4, g5, g6⟩ := mtC_sound h
  have hE := hCK i g rs vs _ (by simpa using h1) g1 g2
  rw [h2] at hE
  refine (hE.ren β g3 g4 g5 g6 fun r H' ⟨x, ex, rs', vs', _, _, _, _, q5, q6⟩ => ⟨by rw [← g4]; exact q5, q6⟩).mono fun r H'' ⟨r0, Hx, ⟨x, ex, rs', vs', q1, q2, q3, q4, q5, q6⟩, e1, e2⟩ => ?_
  simp only [contS, q1, q4] at q3
  rw [e1, e2]
  rw [appL_eq, lenL_eq] at q3
  exact q3
 ·exact h.elim
theorem yesS_sound {R : AV → List ABlk → Prop} (hCK : ∀ i g rs vs c, sigs[i]? = some g → CK i rs vs c → EC P g rs vs (contS arS g.exits c fun K fr H => Run P fn tab H0 R K fr H)) {m k : Nat} {K : List AItem} {l : List AOp} {d : Bool} {o : AOp} {fr : List AV} {H : List ABlk} (ht : tab[m]? = some (.region l d)) (ho : l[k]? = some o) {cont : List AV → List ABlk → Prop}
  (hc : ∀ fr H, cont fr H → Run P fn tab H0 R (.ops m (k + 1) :: K) fr H) (hg : gOk fr o.guard true) (hg2 : ∀ t b c, ev fr (.t t) = .sb b → gOk (setL fr t (.bool c)) o.guard true)
  (h : yesS arS σr sigs CK m k K o cont fr H) : Run P fn tab H0 R (.ops m k :: K) fr H := by
 refine yesG_sound (σr := σr) ht ho hc hg hg2 ?_
 unfold yesS at h
 unfold yesG
 split at h
 ·rename_i hp; rw [hp]; exact h
 ·rename_i hp
  rw [hp]
  simp only
  split at h
  ·rename_i hx; rw [hx]; exact h
  ·rename_i hx; rw [hx]; exact h
  ·rename_i hx; rw [hx]; exact ⟨h.1, h.2.1, hc _ _ h.2.2⟩
  ·rename_i hx; rw [hx]; exact ⟨fun hb => hc _ _ (h.1 hb), hc _ _ h.2⟩
  ·rename_i hx; rw [hx]; exact ⟨h.1, fun hb => hc _ _ (h.2.1 hb), hc _ _ h.2.2⟩
  ·rename_i hx; rw [hx]; exact callK_sound hCK h
  ·rename_i hx; rw [hx]; exact ⟨h.1, callK_sound hCK h.2⟩
  ·exact h.elim
theorem opsS_sound {R : AV → List ABlk → Prop} {m : Nat} {K : List AItem} {l : List AOp} {d : Bool} (hD2 : ∀ k fr H, Dn m [] K k [] fr H → Run P fn tab H0 R (.ops m k :: K) fr H) (hCK : ∀ i g rs vs c, sigs[i]? = some g → CK i rs vs c → EC P g rs vs (contS arS g.exits c fun K fr H => Run P fn tab H0 R K fr H)) (ht : tab[m]? = some (.region l d)) {fin : List AV → List ABlk → Prop} (hfin : ∀ fr H, fin fr H → Run P fn tab H0 R K fr H) : ∀ (os : List AOp) (k : Nat) (fr : List AV) (H : List ABlk), os = l.drop k →
  opsS arS σr sigs CK Dn anns H0.length m K fin os k fr H → Run P fn tab H0 R (.ops m k :: K) fr H
 | [], k, fr, H, he, h => Run.opsEnd ht (by have := congrArg List.length he; simp at this; omega) (hfin fr H h)
 | o :: os, k, fr, H, he, h => by
  have ho : l[k]? = some o := by
   have : (l.drop k)[0]? = some o := by rw [← he]; rfl
   simpa using this
  have hos : os = l.drop (k + 1) := by
   have : (l.drop k).drop 1 = os := by rw [← he]; rfl
   rw [← this, List.drop_drop]
  have hc : ∀ fr H, opsS arS σr sigs CK Dn anns H0.length m K fin os (k + 1) fr H → Run P fn tab H0 R (.ops m (k + 1) :: K) fr H := fun fr H h => opsS_sound hD2 hCK ht hfin os (k + 1) fr H hos h
  unfold opsS at h
  split at h
  ·exact hD2 _ _ _ h
  obtain ⟨fr, H, h, hent⟩ := frzAnn_sound h
  refine Run.ent hent ?_
  cases hg : gst fr o.guard with
  | yes =>
   rw [hg] at h
   have hgy := gst_yes hg
   refine yesS_sound hCK ht ho hc hgy (fun t b c he => gOk_keep hgy t b c he fun hs => ?_) h
   exfalso
   rcases hs with hs | hs <;> (rw [hs] at hg; simp only [gst, he] at hg; cases hg)
  | no =>
   rw [hg] at h
   exact Run.opSkip ht ho (gst_no hg) (hc _ _ h)
  | sym t b want =>
   rw [hg] at h
   obtain ⟨hsy, hgd⟩ := gst_sym hg
   have hk : ∀ c, gOk (setL fr t (.bool c)) o.guard (c == want) := fun c => by rw [hgd]; exact gOk_set hsy
   have hk2 : ∀ c, gOk (setL fr t (.bool c)) o.guard true → ∀ t' b' c', ev (setL fr t (.bool c)) (.t t') = .sb b' → gOk (setL (setL fr t (.bool c)) t' (.bool c')) o.guard true := fun c hc t' b' c' he => by
    refine gOk_keep hc t' b' c' he fun hs => ?_
    exfalso
    have : t' = t := by rw [hgd] at hs; rcases hs with hs | hs <;> (injection hs with hs; injection hs with hs _; injection hs with hs; exact hs.symm)
    subst this
    rw [ev_set hsy] at he
    cases he
   cases want <;> cases b
   ·exact Run.known hsy (yesS_sound hCK ht ho hc (hk false) (hk2 false (hk false)) (h.1 rfl))
   ·exact Run.known hsy (Run.opSkip ht ho (hk true) (hc _ _ (h.2 rfl)))
   ·exact Run.known hsy (Run.opSkip ht ho (hk false) (hc _ _ (h.2 rfl)))
   ·exact Run.known hsy (yesS_sound hCK ht ho hc (hk true) (hk2 true (hk true)) (h.1 rfl))
  | bad => rw [hg] at h; exact h.elim
def ResOk (P : Program) (fn : Func) (tab : List Node) (res : List RV) : Prop := fn.results.toList.mapM (rvOf P) = some res ∨ rnd P fn = true ∧ res = [] ∧ ∀ m : Nat, tab[m]? ≠ some .ret
def noRet : List Node → Bool
 | [] => true
 | .ret :: _ => false
 | _ :: l => noRet l
theorem noRet_get : ∀ {l : List Node}, noRet l = true → ∀ m : Nat, l[m]? ≠ some .ret
 | [], _, m, e => by simp at e
 | x :: l, h, 0, e => by
  simp only [List.getElem?_cons_zero, Option.some.injEq] at e
  subst e
  simp [noRet] at h
 | x :: l, h, m + 1, e => by
  simp only [List.getElem?_cons_succ] at e
  refine noRet_get (l := l) ?_ m e
  cases x <;> first | exact h | (simp [noRet] at h)
theorem segP_sound (hm : P.follows .mixedOrders = true) (hrs : ResOk P fn tab res) (hCE : ∀ i g rs vs Q, sigs[i]? = some g → CE i rs vs Q → EC P g rs vs Q)
  (hCK : ∀ i g rs vs c, sigs[i]? = some g → CK i rs vs c → EC P g rs vs (contS arS g.exits c fun K fr H => Run P fn tab H0 (RC exits H0.length RR) K fr H))
  (hDn : ∀ m l bs K n li fr H, getL tab m = some (.region l true) → Dn m bs K n li fr H → DrawA P l bs (Run P fn tab H0 (RC exits H0.length RR) K) n li fr H)
  (hD2 : ∀ m l bs K n li fr H, getL tab m = some (.region l false) → Dn m bs K n li fr H → Run P fn tab H0 (RC exits H0.length RR) (.ops m n :: K) fr H)
  (hEV : ∀ m s rs vs, stopOf true m stops = some s → EV m rs vs → puAll rs → Run P fn tab H0 (RC exits H0.length RR) (.c m :: s.K) (bldS arS nt s.st rs vs).1 (bldS arS nt s.st rs vs).2) :
  ∀ (n : Nat) (chk : Bool) (K : List AItem) (fr : List AV) (H : List ABlk), segP arS σr sigs CE CK Dn EV RR tab res stops anns drw exits H0.length nt n chk K fr H → Run P fn tab H0 (RC exits H0.length RR) K fr H
 | 0, _, _, _, _, h => h.elim
 | n + 1, _, [], fr, H, h => by
  rcases hrs with hrs | ⟨hr, rfl, _⟩
  ·exact Run.fin hrs (satC_sat (satC_callS hCE (fun v H' hv => retS_sound hv) h))
  ·exact Run.finR hr (retS_sound h)
 | n + 1, _, .blk _ :: K, fr, H, h => Run.blk (segP_sound hm hrs hCE hCK hDn hD2 hEV n true K fr H h)
 | n + 1, _, .lp m :: K, fr, H, h => Run.lp (segP_sound hm hrs hCE hCK hDn hD2 hEV n true _ fr H h)
 | n + 1, _, .ops m k :: K, fr, H, h => by
  simp only [segP, getL_eq] at h
  split at h
  ·rename_i l ht
   exact opsS_sound (fun k fr H hd => hD2 m l _ _ k _ fr H (by rw [getL_eq]; exact ht) hd) hCK ht (fun fr H => segP_sound hm hrs hCE hCK hDn hD2 hEV n true K fr H) _ k fr H (dropL_eq k l) h
  ·exact h.elim
 | n + 1, chk, .c m :: K, fr, H, h => by
  unfold segP at h
  split at h
  ·rename_i s hs
   split at h
   ·rename_i hk
    have hK := eqIs_eq hk
    obtain ⟨rs, vs, h1, h2, h3, _⟩ := jump_sound h
    refine Run.ent h3 ?_
    have hs' : stopOf true m stops = some s := by
     cases chk with
     | true => exact hs
     | false =>
      have : ∀ l : List Stop, stopOf false m l = none := by
       intro l
       induction l with
       | nil => rfl
       | cons x l ih => simpa [stopOf] using ih
      rw [this] at hs
      cases hs
    have := hEV m s rs vs hs' h1 h2
    rw [← hK] at this
    exact this
   ·exact h.elim
  simp only [getL_eq] at h
  split at h
  ·rename_i d ht
   exact Run.seq ht (segP_sound hm hrs hCE hCK hDn hD2 hEV n true _ fr H h)
  ·rename_i id ht
   exact Run.block ht (segP_sound hm hrs hCE hCK hDn hD2 hEV n true _ fr H h)
  ·rename_i ht
   exact Run.loop ht (segP_sound hm hrs hCE hCK hDn hD2 hEV n true _ fr H h)
  ·rename_i x d ht
   split at h
   ·rename_i hx
    exact Run.cond (t := true) ht (.inl hx) (segP_sound hm hrs hCE hCK hDn hD2 hEV n true _ fr H h)
   ·rename_i hx
    exact Run.cond (t := false) ht (.inl hx) (segP_sound hm hrs hCE hCK hDn hD2 hEV n true _ fr H h)
   ·rename_i b hx
    split at h
    ·rename_i t
     cases b
     ·exact Run.cond (t := false) ht (.inr hx) (Run.known hx (segP_sound hm hrs hCE hCK hDn hD2 hEV n true _ _ H (h.2 rfl)))
     ·exact Run.cond (t := true) ht (.inr hx) (Run.known hx (segP_sound hm hrs hCE hCK hDn hD2 hEV n true _ _ H (h.1 rfl)))
    ·exact h.elim
   ·exact h.elim
  ·rename_i l ht
   exact Run.region ht (opsS_sound (fun k fr H hd => hD2 m l _ _ k _ fr H (by rw [getL_eq]; exact ht) hd) hCK ht (fun fr H => segP_sound hm hrs hCE hCK hDn hD2 hEV n true K fr H) l 0 fr H rfl h)
  ·rename_i l ht
   split at h
   ·rename_i hb
    have hb := Nat.ble_eq.mp hb
    rw [lenL_eq, lenL_eq] at hb
    refine Run.draw hm ht (bsOf m H drw) ?_
    rw [repL_eq, lenL_eq] at h
    exact drawG_sound (fun fr H t b => Run.knownSet) _ _ _ _ (keepP_refl _ H hb) (drawG_mono hCE (fun fr H => segP_sound hm hrs hCE hCK hDn hD2 hEV n true K fr H) (fun n li fr H _ hd => hDn m l _ _ n li fr H (by rw [getL_eq]; exact ht) hd) _ _ _ _ (keepP_refl _ H hb) h)
   ·exact h.elim
  ·rename_i id ht
   split at h
   ·rename_i K' he
    exact Run.exit ht he (segP_sound hm hrs hCE hCK hDn hD2 hEV n true K' fr H h)
   ·exact h.elim
  ·rename_i ht
   exact Run.skip ht (segP_sound hm hrs hCE hCK hDn hD2 hEV n true K fr H h)
  ·rename_i ht
   rcases hrs with hrs | ⟨_, _, hn⟩
   ·exact Run.ret ht hrs (satC_sat (satC_callS hCE (fun v H' hv => retS_sound hv) h))
   ·exact absurd ht (hn m)
  ·exact h.elim
end
structure Inst where
 sig : Sig
 F : AFn
 stops : List Stop
 anns : List Ann := []
 drw : List (Nat × List Bool) := []
 deriving Inhabited
section
variable (P : Program) (fn : Func) (I : Inst) (sigs : List Sig) (Q : Nat → Rs → List Lf → Prop)
def Inst.run (K : List AItem) (fr : List AV) (H : List ABlk) : Prop := ∀ H0 : List ABlk, H0.length = lenL I.sig.hp → Run P fn I.F.tab H0 (RC I.sig.exits (lenL I.sig.hp) Q) K fr H
def Inst.at (n : Nat) (rs : Rs) (vs : List Lf) : Prop := ∀ s, stopOf true n I.stops = some s → puAll rs → I.run P fn Q (.c n :: s.K) (bldS arS I.F.nt s.st rs vs).1 (bldS arS I.F.nt s.st rs vs).2
def Inst.ck (i : Nat) (rs : Rs) (vs : List Lf) (c : Cont) : Prop :=
 match getL sigs i with
 | some g => EC P g rs vs (contS arS g.exits c (I.run P fn Q))
 | none => False
def Inst.dn (m : Nat) (bs : List Bool) (K : List AItem) (n : Nat) (li : List Bool) (fr : List AV) (H : List ABlk) : Prop := bs.length ≤ H.length ∧ ∀ H0 : List ABlk, H0.length = lenL I.sig.hp → ∀ l, (getL I.F.tab m = some (.region l true) → DrawA P l bs (Run P fn I.F.tab H0 (RC I.sig.exits (lenL I.sig.hp) Q) K) n li fr H) ∧ (getL I.F.tab m = some (.region l false) → Run P fn I.F.tab H0 (RC I.sig.exits (lenL I.sig.hp) Q) (.ops m n :: K) fr H)
def CEof (i : Nat) (rs : Rs) (vs : List Lf) (Q : Nat → Rs → List Lf → Prop) : Prop :=
 match getL sigs i with
 | some g => EC P g rs vs Q
 | none => False
structure Wk (A : Ar) (σr : RowF) (CE : Nat → Rs → List Lf → (Nat → Rs → List Lf → Prop) → Prop) (CK : Nat → Rs → List Lf → Cont → Prop) (Dn : Nat → List Bool → List AItem → Nat → List Bool → List AV → List ABlk → Prop) (EV RR : Nat → Rs → List Lf → Prop) : Prop where
 hA : A = arS
 hm : P.follows .mixedOrders = true
 hF : I.F.at P I.sig.f fn ∨ rnd P fn = true ∧ I.F.res = [] ∧ ∀ m : Nat, I.F.tab[m]? ≠ some .ret
 ce : CE = CEof P sigs
 ck : CK = I.ck P fn sigs Q
 dn : Dn = I.dn P fn Q
 ev : EV = I.at P fn Q
 rr : RR = Q
end
section
variable {P : Program} {fn : Func} {I : Inst} {sigs : List Sig} {Q : Nat → Rs → List Lf → Prop} {A : Ar} {σr : RowF} {CE : Nat → Rs → List Lf → (Nat → Rs → List Lf → Prop) → Prop} {CK : Nat → Rs → List Lf → Cont → Prop} {Dn : Nat → List Bool → List AItem → Nat → List Bool → List AV → List ABlk → Prop} {EV RR : Nat → Rs → List Lf → Prop}
theorem CEof.sound (i : Nat) (g : Sig) (rs : Rs) (vs : List Lf) (Q : Nat → Rs → List Lf → Prop) (hg : sigs[i]? = some g) (h : CEof P sigs i rs vs Q) : EC P g rs vs Q := by
 unfold CEof at h
 rw [getL_eq, hg] at h
 exact h
theorem Wk.seg (h : Wk P fn I sigs Q A σr CE CK Dn EV RR) {m : Nat} {chk : Bool} {K : List AItem} {fr : List AV} {H : List ABlk}
  (hs : segP A σr sigs CE CK Dn EV RR I.F.tab I.F.res I.stops I.anns I.drw I.sig.exits (lenL I.sig.hp) I.F.nt m chk K fr H) : I.run P fn Q K fr H := by
 obtain ⟨rfl, hm, hF, rfl, rfl, rfl, rfl, rfl⟩ := h
 intro H0 hl
 rw [← hl] at hs ⊢
 refine segP_sound hm (hF.elim (fun hF => .inl hF.res) .inr) CEof.sound (fun i g rs vs c hg hc => ?_) (fun m l bs K n li fr H ht hd => ?_) (fun m l bs K n li fr H ht hd => ?_) (fun m s rs vs hs he hp => ?_) m chk K fr H hs
 ·unfold Inst.ck at hc
  rw [getL_eq, hg] at hc
  refine hc.mono fun x rs' vs' hx => ?_
  unfold contS at hx ⊢
  split
  ·rename_i ex hex
   rw [hex] at hx
   have := hx H0 hl
   rw [← hl] at this
   exact this
  ·trivial
 ·have := (hd.2 H0 hl l).1 ht
  rw [← hl] at this
  exact this
 ·have := (hd.2 H0 hl l).2 ht
  rw [← hl] at this
  exact this
 ·have := he s hs hp H0 hl
  rw [← hl] at this
  exact this
def stopD (n : Nat) (l : List Stop) : Stop :=
 match stopOf true n l with
 | some s => s
 | none => default
theorem Wk.step (h : Wk P fn I sigs Q A σr CE CK Dn EV RR) (m : Nat) {n : Nat} {rs : Rs} {vs : List Lf}
  (hs : puAll rs → segP A σr sigs CE CK Dn EV RR I.F.tab I.F.res I.stops I.anns I.drw I.sig.exits (lenL I.sig.hp) I.F.nt m false (.c n :: (stopD n I.stops).K) (bldS A I.F.nt (stopD n I.stops).st rs vs).1 (bldS A I.F.nt (stopD n I.stops).st rs vs).2) : EV n rs vs := by
 rw [h.ev]
 intro s hsm hp
 have he : stopD n I.stops = s := by unfold stopD; rw [hsm]
 rw [he] at hs
 have := h.seg (hs hp)
 rw [h.hA] at this
 exact this
theorem Wk.call (h : Wk P fn I sigs Q A σr CE CK Dn EV RR) (m : Nat) {i : Nat} {g : Sig} {rs rs0 : Rs} {vs vs0 : List Lf} {c : Cont} {Q1 : Nat → Rs → List Lf → Prop} (hg : getL sigs i = some g) (he : EC P g rs0 vs0 Q1) (hr : rs = rs0) (hv : vs = vs0)
  (hs : ∀ x rs' vs', puAll rs' → Q1 x rs' vs' → contS A g.exits c (fun K fr H => segP A σr sigs CE CK Dn EV RR I.F.tab I.F.res I.stops I.anns I.drw I.sig.exits (lenL I.sig.hp) I.F.nt m true K fr H) x rs' vs') : CK i rs vs c := by
 subst hr hv
 rw [h.ck]
 unfold Inst.ck
 rw [hg]
 refine he.monoP fun x rs' vs' hpu hq => ?_
 have h1 := hs x rs' vs' hpu hq
 unfold contS at h1 ⊢
 rw [← h.hA]
 split
 ·rename_i ex hex
  rw [hex] at h1
  exact h.seg h1
 ·trivial
theorem Wk.callD (h : Wk P fn I sigs Q A σr CE CK Dn EV RR) {i : Nat} {g : Sig} {rs rs0 : Rs} {vs vs0 : List Lf} {Q0 Q1 : Nat → Rs → List Lf → Prop} (hg : getL sigs i = some g) (he : EC P g rs0 vs0 Q1) (hr : rs = rs0) (hv : vs = vs0)
  (hs : ∀ x rs' vs', puAll rs' → Q1 x rs' vs' → Q0 x rs' vs') : CE i rs vs Q0 := by
 subst hr hv
 rw [h.ce]
 unfold CEof
 rw [hg]
 exact he.monoP hs
theorem Inst.enter (hA : A = arS) (hm : P.follows .mixedOrders = true) (hF : I.F.at P I.sig.f fn) (σr : RowF) (sigs : List Sig) {rs : Rs} {vs : List Lf} (m : Nat) (hl : lenL (bldC A I.sig.args I.sig.hp rs vs).2 = lenL I.sig.hp)
  (h : ∀ CE CK Dn EV RR, Wk P fn I sigs Q A σr CE CK Dn EV RR → puAll rs → segP A σr sigs CE CK Dn EV RR I.F.tab I.F.res I.stops I.anns I.drw I.sig.exits (lenL I.sig.hp) I.F.nt m true [.c 0] (appL (symL (bldC A I.sig.args I.sig.hp rs vs).1) (repL (I.F.nt - lenL (bldC A I.sig.args I.sig.hp rs vs).1) .junk)) (bldC A I.sig.args I.sig.hp rs vs).2) : EC P I.sig rs vs Q := by
 subst hA
 intro hp
 have hl' : (bldC arS I.sig.args I.sig.hp rs vs).2.length = lenL I.sig.hp := by rw [← lenL_eq]; exact hl
 have hW : Wk P fn I sigs Q arS σr _ _ _ _ _ := ⟨rfl, hm, .inl hF, rfl, rfl, rfl, rfl, rfl⟩
 have := hW.seg (h _ _ _ _ _ hW hp) (bldC arS I.sig.args I.sig.hp rs vs).2 hl'
 rw [appL_eq, repL_eq, lenL_eq (bldC arS I.sig.args I.sig.hp rs vs).1] at this
 obtain ⟨body, hb⟩ : ∃ body, fn.body = some body := by
  have := hF.tab
  cases hb : fn.body with
  | none => rw [hb] at this; cases this
  | some b => exact ⟨b, rfl⟩
 refine CallsA.ent (R := RX I.sig.exits _ Q) ?_
 refine CallsA.enter hF.func hF.name hb ⟨hF.np, hF.nt, hF.res, hF.tab⟩ ?_
 rw [← hl'] at this
 exact this
theorem Wk.draw (h : Wk P fn I sigs Q A σr CE CK Dn EV RR) (m : Nat) {n : Nat} {bs : List Bool} {K : List AItem} {k : Nat} {li : List Bool} {fr : List AV} {H : List ABlk} (hb : Nat.ble (lenL bs) (lenL H) = true)
  (hs : drwP A σr sigs CE CK Dn EV RR I.F.tab I.F.res I.stops I.anns I.drw I.sig.exits (lenL I.sig.hp) I.F.nt n m bs K k li fr H) : Dn n bs K k li fr H := by
 have hseg := fun fr H => h.seg (m := m) (chk := true) (K := K) (fr := fr) (H := H)
 have hb := Nat.ble_eq.mp hb
 rw [lenL_eq, lenL_eq] at hb
 obtain ⟨rfl, hm, hF, rfl, rfl, rfl, rfl, rfl⟩ := h
 refine ⟨hb, fun H0 hl l => ⟨fun ht => ?_, fun ht => ?_⟩⟩
 ·unfold drwP at hs
  rw [ht] at hs
  exact drawG_sound (fun fr H t b => Run.knownSet) _ _ _ _ (keepP_refl _ H hb) (drawG_mono CEof.sound (fun fr H hf => hseg fr H hf H0 hl) (fun n' li fr H _ hd => (hd.2 H0 hl l).1 ht) _ _ _ _ (keepP_refl _ H hb) hs)
 ·unfold drwP at hs
  rw [ht] at hs
  have ht' := ht
  rw [getL_eq] at ht'
  rw [← hl] at hs
  refine opsS_sound (fun k fr H hd => ?_) (fun i g rs vs c hg hc => ?_) ht' (fun fr H hf => ?_) _ _ _ _ (dropL_eq k l) hs
  ·exact (hd.2 H0 hl l).2 ht
  ·unfold Inst.ck at hc
   rw [getL_eq, hg] at hc
   refine hc.mono fun x rs' vs' hx => ?_
   unfold contS at hx ⊢
   split
   ·rename_i ex hex
    rw [hex] at hx
    exact hx H0 hl
   ·trivial
  ·rw [hl] at hf
   exact hseg fr H hf H0 hl
theorem Inst.round {n1 : Nat} (hm : P.follows .mixedOrders = true) (hr : rnd P fn = true) (hres : I.F.res = []) (hn : noRet I.F.tab = true) (σr : RowF) (sigs : List Sig) {s : Stop} (hs : stopOf true n1 I.stops = some s) (hK : s.K = []) {rs : Rs} {vs : List Lf} (hp : puAll rs)
  (h : ∀ CE CK Dn EV RR, Wk P fn I sigs Q arS σr CE CK Dn EV RR → EV n1 rs vs) {H0 : List ABlk} (hl : H0.length = lenL I.sig.hp) : Run P fn I.F.tab H0 (RC I.sig.exits (lenL I.sig.hp) Q) [.c n1] (bldS arS I.F.nt s.st rs vs).1 (bldS arS I.F.nt s.st rs vs).2 := by
 have hW : Wk P fn I sigs Q arS σr _ _ _ _ _ := ⟨rfl, hm, .inr ⟨hr, hres, noRet_get hn⟩, rfl, rfl, rfl, rfl, rfl⟩
 have := h _ _ _ _ _ hW s hs hp H0 hl
 rwa [hK] at this
end
end Go.Ab
