/- Blocks numbered anew; what a state may be weakened to; calls over few blocks of many. -/
import Derived.Test.YtdmpiondalhonaaAbY
namespace Go.Ab
open Go
set_option linter.unusedVariables false
set_option linter.unusedSimpArgs false

/-- The place of a number in a list. -/
def idxN : List Nat → Nat → Nat → Option Nat
  | [], _, _ => none
  | x :: xs, id, k => match Nat.beq x id with
    | true => some k
    | false => idxN xs id (k + 1)

theorem idxN_get : ∀ {β : List Nat} {id k j : Nat}, idxN β id k = some j → k ≤ j ∧ β[j - k]? = some id
  | [], _, _, _, h => by simp [idxN] at h
  | x :: xs, id, k, j, h => by
    simp only [idxN] at h
    cases hb : Nat.beq x id with
    | true =>
      rw [hb] at h
      simp only [Option.some.injEq] at h
      subst h
      have := Nat.eq_of_beq_eq_true hb
      subst this
      simp
    | false =>
      rw [hb] at h
      obtain ⟨h1, h2⟩ := idxN_get h
      refine ⟨by omega, ?_⟩
      rw [show j - k = (j - (k + 1)) + 1 by omega]
      simpa using h2

/-- How two states fit: the blocks that `τ` names stay what and where they are. -/
structure Cmp (τ : Nat → Option Nat) (S : RS) (T : Sh) (S' : RS) (T' : Sh) : Prop where
  blk : ∀ id j, τ id = some j → T' j = T id ∧ S'.ρ j = S.ρ id
  fro : ∀ B o v, S.φ B o = some v → S'.φ B o = some v

theorem Cmp.noSh {τ : Nat → Option Nat} {S : RS} {T : Sh} {S' : RS} {T' : Sh} (h : Cmp τ S T S' T') : Ext0 S Ab.noSh S' Ab.noSh :=
  ⟨h.fro, fun _ _ h => (by cases h), fun _ h => (by cases h), fun _ _ _ h => (by cases h)⟩

/-- What `a` says before, `a'` says after. -/
def Imp (τ : Nat → Option Nat) (a a' : AV) : Prop := ∀ S T S' T' v, Cmp τ S T S' T' → rel S a T v → rel S' a' T' v
def Imps (τ : Nat → Option Nat) : List AV → List AV → Prop
  | [], [] => True
  | x :: xs, y :: ys => Imp τ x y ∧ Imps τ xs ys
  | _, _ => False

theorem Imp.junk {τ : Nat → Option Nat} (a : AV) : Imp τ a .junk := fun _ _ _ _ _ _ _ => trivial

theorem Imps.rels {τ : Nat → Option Nat} {S : RS} {T : Sh} {S' : RS} {T' : Sh} (hc : Cmp τ S T S' T') : ∀ {xs ys : List AV} {vs : List Value}, Imps τ xs ys → rels S xs T vs → rels S' ys T' vs
  | [], [], vs, _, h => h
  | x :: xs, y :: ys, vs, hi, h => by
    simp only [Ab.rels] at h ⊢
    obtain ⟨v, vs', h1, h2, h3⟩ := h
    exact ⟨v, vs', h1, hi.1 _ _ _ _ _ hc h2, Imps.rels hc hi.2 h3⟩
  | [], _ :: _, _, h, _ => h.elim
  | _ :: _, [], _, h, _ => h.elim

theorem Imps.length {τ : Nat → Option Nat} : ∀ {xs ys : List AV}, Imps τ xs ys → ys.length = xs.length
  | [], [], _ => rfl
  | x :: xs, y :: ys, h => by simp [Imps.length h.2]
  | [], _ :: _, h => h.elim
  | _ :: _, [], h => h.elim

mutual
/-- Numbered anew. -/
def ren (τ : Nat → Option Nat) : AV → AV
  | .ptr id t r o => match τ id with
    | some j => .ptr j t r o
    | none => .junk
  | .bptr id o => match τ id with
    | some j => .bptr j o
    | none => .junk
  | .sl id t o n => match τ id with
    | some j => .sl j t o n
    | none => .junk
  | .map id => match τ id with
    | some j => .map j
    | none => .junk
  | .fn f x y => .fn f (rens τ x) (rens τ y)
  | .iface t x => .iface t (ren τ x)
  | .agg cs => .agg (rens τ cs)
  | .tup cs => .tup (rens τ cs)
  | c => c
def rens (τ : Nat → Option Nat) : List AV → List AV
  | [] => []
  | c :: cs => ren τ c :: rens τ cs
end

mutual
theorem ren_rel {τ : Nat → Option Nat} {S : RS} {T : Sh} {S' : RS} {T' : Sh} (hc : Cmp τ S T S' T') : ∀ (c : AV) (v : Value), rel S c T v → rel S' (ren τ c) T' v
  | .int .., _, h => h
  | .bool .., _, h => h
  | .sb .., _, h => h
  | .str .., _, h => h
  | .nilp, _, h => h
  | .nils, _, h => h
  | .nilf, _, h => h
  | .nili, _, h => h
  | .nilm, _, h => h
  | .junk, _, _ => trivial
  | .ptr id t r o, v, h => by
    simp only [ren]
    cases hj : τ id with
    | none => trivial
    | some j =>
      obtain ⟨h1, h2⟩ := hc.blk id j hj
      simp only [rel] at h ⊢
      rw [h1, h2]; exact h
  | .bptr id o, v, h => by
    simp only [ren]
    cases hj : τ id with
    | none => trivial
    | some j =>
      obtain ⟨h1, h2⟩ := hc.blk id j hj
      simp only [rel] at h ⊢
      rw [h1, h2]; exact h
  | .sl id t o k, v, h => by
    simp only [ren]
    cases hj : τ id with
    | none => trivial
    | some j =>
      obtain ⟨h1, h2⟩ := hc.blk id j hj
      simp only [rel] at h ⊢
      rw [h1, h2]; exact h
  | .map id, v, h => by
    simp only [ren]
    cases hj : τ id with
    | none => trivial
    | some j =>
      obtain ⟨h1, h2⟩ := hc.blk id j hj
      simp only [rel] at h ⊢
      rw [h1, h2]; exact h
  | .iptr cs, v, h => by
    simp only [ren, rel] at h ⊢
    obtain ⟨B, o, h1, h2⟩ := h
    exact ⟨B, o, h1, fz_ext0 cs B o hc.noSh h2⟩
  | .inl sz rows, v, h => by
    simp only [ren, rel] at h ⊢
    obtain ⟨a, c, h1, h2, h3⟩ := h
    refine ⟨a, c, h1, h2, ?_⟩
    rcases h3 with h3 | ⟨B, o, h3, h4⟩
    · exact .inl h3
    · exact .inr ⟨B, o, h3, fzs_ext0 rows B o sz hc.noSh h4⟩
  | .fn f fi ca, v, h => by
    simp only [ren, rel] at h ⊢
    obtain ⟨a, b, h1, h2, h3⟩ := h
    exact ⟨a, b, h1, rens_rels hc fi _ h2, rens_rels hc ca _ h3⟩
  | .iface t x, v, h => by
    simp only [ren, rel] at h ⊢
    obtain ⟨u, h1, h2⟩ := h
    exact ⟨u, h1, ren_rel hc x u h2⟩
  | .agg cs, v, h => by
    simp only [ren, rel] at h ⊢
    obtain ⟨us, h1, h2, h3⟩ := h
    exact ⟨us, h1, rens_rels hc cs _ h2, h3⟩
  | .tup cs, v, h => by
    simp only [ren, rel] at h ⊢
    obtain ⟨us, h1, h2⟩ := h
    exact ⟨us, h1, rens_rels hc cs _ h2⟩
theorem rens_rels {τ : Nat → Option Nat} {S : RS} {T : Sh} {S' : RS} {T' : Sh} (hc : Cmp τ S T S' T') : ∀ (cs : List AV) (vs : List Value), rels S cs T vs → rels S' (rens τ cs) T' vs
  | [], _, h => h
  | c :: cs, vs, h => by
    simp only [rens, Ab.rels] at h ⊢
    obtain ⟨v, vs', h1, h2, h3⟩ := h
    exact ⟨v, vs', h1, ren_rel hc c v h2, rens_rels hc cs vs' h3⟩
end

theorem Imp.ren {τ : Nat → Option Nat} (c : AV) : Imp τ c (ren τ c) := fun _ _ _ _ v hc h => ren_rel hc c v h
theorem rens_length (τ : Nat → Option Nat) : ∀ cs : List AV, (rens τ cs).length = cs.length
  | [] => rfl
  | c :: cs => by simp [rens, rens_length τ cs]
theorem Imps.rens {τ : Nat → Option Nat} : ∀ (cs : List AV), Imps τ cs (rens τ cs)
  | [] => trivial
  | c :: cs => ⟨Imp.ren c, Imps.rens cs⟩

theorem purs_noSh {S : RS} {T : Sh} {cs : List AV} {vs : List Value} (hp : purs cs = true) (h : rels S cs T vs) : rels S cs noSh vs :=
  rels_loc (n := 0) (T' := noSh) (fun _ h => absurd h (Nat.not_lt_zero _)) (fun _ _ _ h => h) cs vs (blws_purs 0 cs hp) h
theorem pur_noSh {S : RS} {T : Sh} {c : AV} {v : Value} (hp : pur c = true) (h : rel S c T v) : rel S c noSh v :=
  rel_loc (n := 0) (T' := noSh) (fun _ h => absurd h (Nat.not_lt_zero _)) (fun _ _ _ h => h) c v (blw_pur 0 c hp) h

theorem Imp.pure {τ : Nat → Option Nat} {c : AV} (hp : pur c = true) : Imp τ c c := fun S T S' T' v hc h =>
  rel_noSh (rel_ext0 c noSh noSh v hc.noSh (pur_noSh hp h))

theorem purs_mem : ∀ {cs : List AV}, purs cs = true → ∀ c ∈ cs, pur c = true
  | [], _, c, hc => by cases hc
  | c0 :: cs, h, c, hc => by
    simp only [purs, Bool.and_eq_true] at h
    rcases List.mem_cons.1 hc with rfl | hc
    · exact h.1
    · exact purs_mem h.2 c hc
theorem pursS_mem : ∀ {rows : List (List AV)}, pursS rows = true → ∀ r ∈ rows, purs r = true
  | [], _, r, hr => by cases hr
  | r0 :: rs, h, r, hr => by
    simp only [pursS, Bool.and_eq_true] at h
    rcases List.mem_cons.1 hr with rfl | hr
    · exact h.1
    · exact pursS_mem h.2 r hr

def BImp (τ : Nat → Option Nat) : ABlk → ABlk → Prop
  | .box e cs, .box e' cs' => e = e' ∧ Imps τ cs cs'
  | .arr e sz rows, .arr e' sz' rows' => e = e' ∧ sz = sz' ∧ rows = rows' ∧ pursS rows = true
  | .dead s, .dead s' => s = s'
  | .mpb rows, .mpb rows' => rows = rows'
  | _, _ => False

theorem BImp.shp {τ : Nat → Option Nat} {b b' : ABlk} (h : BImp τ b b') : b'.shp = b.shp := by
  cases b <;> cases b' <;> simp only [BImp] at h <;> try exact h.elim
  · simp [ABlk.shp, h.2.length]
  · obtain ⟨_, rfl, rfl, _⟩ := h; rfl
  · rfl
  · subst h; rfl
theorem BImp.live {τ : Nat → Option Nat} {b b' : ABlk} (h : BImp τ b b') : b'.live = b.live := by
  cases b <;> cases b' <;> simp only [BImp] at h <;> first | exact h.elim | rfl

theorem BImp.blk {τ : Nat → Option Nat} {S : RS} {T : Sh} {S' : RS} {T' : Sh} (hc : Cmp τ S T S' T') {b b' : ABlk} (h : BImp τ b b') {id j : Nat} {w : World} (hρ : S'.ρ j = S.ρ id) (ho : ∀ B, Own S B → Own S' B) (hr : BlkRel S T b id w) : BlkRel S' T' b' j w := by
  cases b <;> cases b' <;> simp only [BImp] at h <;> try exact h.elim
  · obtain ⟨rfl, hi⟩ := h
    obtain ⟨B, c, arr, h1, h2, h3, h4, h5⟩ := hr
    exact ⟨B, c, arr, hρ.trans h1, h2, hi.rels hc h3, h4, ho B h5⟩
  · obtain ⟨rfl, rfl, rfl, hp⟩ := h
    obtain ⟨h0, hr⟩ := hr
    refine ⟨h0, ?_⟩
    rw [hρ]
    rename_i e sz rows
    cases hs : S.ρ id with
    | none => rw [hs] at hr; exact hr
    | some p =>
      obtain ⟨B, c⟩ := p
      rw [hs] at hr
      obtain ⟨arr, h2, h3, h4, h5, h6⟩ := hr
      refine ⟨arr, h2, h3, h4, fun i r hi => ?_, ho B h6⟩
      obtain ⟨g1, g2⟩ := h5 i r hi
      refine ⟨g1, fun k c hk => ?_⟩
      obtain ⟨u, m1, m2, m3⟩ := g2 k c hk
      exact ⟨u, m1, Imp.pure (purs_mem (pursS_mem hp r (List.mem_of_getElem? hi)) c (List.mem_of_getElem? hk)) _ _ _ _ _ hc m2, m3⟩
  · subst h
    obtain ⟨B, c, es, clock, h1, h2, h3, h5⟩ := hr
    exact ⟨B, c, es, clock, hρ.trans h1, h2, entR_ext hc.noSh h3, ho B h5⟩
  · trivial

/-! ### what a state may be weakened to -/
/-- A state that these values and blocks speak of, later than `S0`, `H0`. -/
def Vw (S0 : RS) (H0 : List ABlk) (w : World) (xs : List AV) (H : List ABlk) (vs : List Value) : Prop :=
  ∃ S, Ext S0 (shape H0) S (shape H) ∧ rels S xs (shape H) vs ∧ WRel S H w

def Ent (n : Nat) (xs : List AV) (H : List ABlk) (xs' : List AV) (H' : List ABlk) : Prop :=
  ∀ S0 H0 w vs, H0.length = n → Vw S0 H0 w xs H vs → Vw S0 H0 w xs' H' vs

theorem Ent.refl (n : Nat) (xs : List AV) (H : List ABlk) : Ent n xs H xs H := fun _ _ _ _ _ h => h
theorem Ent.trans {n : Nat} {xs xs' xs'' : List AV} {H H' H'' : List ABlk} (h : Ent n xs H xs' H') (k : Ent n xs' H' xs'' H'') : Ent n xs H xs'' H'' :=
  fun S0 H0 w vs hn hv => k S0 H0 w vs hn (h S0 H0 w vs hn hv)

theorem Run.ent {P : Program} {fn : Func} {tab : List Node} {H0 : List ABlk} {R : AV → List ABlk → Prop} {K : List AItem} {fr fr' : List AV} {H H' : List ABlk}
    (he : Ent H0.length fr H fr' H') (h : Run P fn tab H0 R K fr' H') : Run P fn tab H0 R K fr H := by
  intro S0 S w a b k cs he' hd hr hw hk
  obtain ⟨S', g1, g2, g3⟩ := he S0 H0 w _ rfl ⟨S, he', hr, hw⟩
  exact h S0 S' w a b k cs g1 hd g2 g3 hk

theorem CallsA.ent {P : Program} {f : FuncId} {args : List AV} {H : List ABlk} {R : AV → List ABlk → Prop}
    (h : CallsA P f args H fun r H' => ∃ r' H'', Ent H.length [r] H' [r'] H'' ∧ R r' H'') : CallsA P f args H R :=
  ⟨h.1, fun S w vs hw hr => (h.2 S w vs hw hr).mono fun e w' ⟨u, he, S', v, H', h1, h2, h3, r', H'', h4, h5⟩ => by
    obtain ⟨S'', g1, g2, g3⟩ := h4 S H w' [u] rfl ⟨S', h1, by simp only [rels]; exact ⟨u, [], rfl, h3, rfl⟩, h2⟩
    simp only [rels] at g2
    obtain ⟨_, _, e1, g2, rfl⟩ := g2
    simp only [List.cons.injEq] at e1
    obtain ⟨rfl, _⟩ := e1
    exact ⟨u, he, S'', r', H'', g1, g3, g2, h5⟩⟩

theorem Ent.sub {n : Nat} {xs xs' : List AV} {H : List ABlk} (h : Imps some xs xs') : Ent n xs H xs' H :=
  fun S0 H0 w vs _ ⟨S, h1, h2, h3⟩ => ⟨S, h1, h.rels ⟨fun id j hj => by injection hj with hj; subst hj; exact ⟨rfl, rfl⟩, fun _ _ _ h => h⟩ h2, h3⟩

theorem Ent.ren {n : Nat} {xs xs' : List AV} {H H' : List ABlk} (β : List Nat) (h0 : n ≤ β.length) (hid : ∀ j : Nat, j < n → β[j]? = some j) (hnd : ∀ i j k : Nat, β[i]? = some k → β[j]? = some k → i = j)
    (hl : H'.length = β.length) (hb : ∀ j id : Nat, β[j]? = some id → ∃ b b', H[id]? = some b ∧ H'[j]? = some b' ∧ BImp (fun i => idxN β i 0) b b') (hx : Imps (fun i => idxN β i 0) xs xs') : Ent n xs H xs' H' := by
  intro S0 H0 w vs hn ⟨S, he, hr, hw⟩
  subst hn
  let S' : RS := { S with ρ := fun j => (β[j]?).bind S.ρ }
  have hβ : ∀ {j id}, β[j]? = some id → shape H' j = shape H id ∧ S'.ρ j = S.ρ id := fun {j id} hj => by
    obtain ⟨b, b', h1, h2, h3⟩ := hb j id hj
    refine ⟨?_, by simp [S', hj]⟩
    rw [shape_get h1, shape_get h2, h3.shp]
  have hc : Cmp (fun i => idxN β i 0) S (shape H) S' (shape H') := ⟨fun id j hj => by
    obtain ⟨_, h2⟩ := idxN_get hj
    exact hβ (by simpa using h2), fun _ _ _ h => h⟩
  have h0s : ∀ {id s}, shape H0 id = some s → shape H' id = shape H id ∧ S'.ρ id = S.ρ id := fun {id s} hs => hβ (hid id (shape_lt hs))
  refine ⟨S', ⟨he.W0, he.D, he.fro, he.fnw, fun id n hn => ?_, fun id hn => ?_, fun id m sz hn => ?_⟩, hx.rels hc hr, ?_⟩
  · obtain ⟨a, b⟩ := h0s hn
    obtain ⟨c, d⟩ := he.box id n hn
    exact ⟨a.trans c, b.trans d⟩
  · obtain ⟨a, b⟩ := h0s hn
    obtain ⟨c, d⟩ := he.mp id hn
    exact ⟨a.trans c, b.trans d⟩
  · obtain ⟨a, b⟩ := h0s hn
    obtain ⟨m', c, d, e⟩ := he.row id m sz hn
    exact ⟨m', a.trans c, d, fun hm => b.trans (e hm)⟩
  · have hget : ∀ {j b'}, H'[j]? = some b' → ∃ id b, β[j]? = some id ∧ H[id]? = some b ∧ BImp (fun i => idxN β i 0) b b' := fun {j b'} hj => by
      have hjl : j < β.length := by rw [← hl]; exact get_lt hj
      obtain ⟨b, b2, h1, h2, h3⟩ := hb j β[j] (List.getElem?_eq_getElem hjl)
      rw [hj] at h2
      injection h2 with h2
      subst h2
      exact ⟨β[j], b, List.getElem?_eq_getElem hjl, h1, h3⟩
    refine ⟨hw.os, hw.tape, hw.output, hw.size, hw.prot, hw.fro, fun j b' hj => ?_, fun i j b1 b2 B c c' hi hj li lj hBi hBj => ?_⟩
    · obtain ⟨id, b, h1, h2, h3⟩ := hget hj
      exact h3.blk hc (hβ h1).2 (fun _ h => h) (hw.blk id b h2)
    · obtain ⟨id1, x1, p1, p2, p3⟩ := hget hi
      obtain ⟨id2, x2, q1, q2, q3⟩ := hget hj
      rw [(hβ p1).2] at hBi
      rw [(hβ q1).2] at hBj
      have := hw.inj id1 id2 x1 x2 B c c' p2 q2 (p3.live ▸ li) (q3.live ▸ lj) hBi hBj
      subst this
      exact hnd i j id1 p1 q1

theorem Ent.own {n e sz : Nat} {xs : List AV} {H : List ABlk} (hn : n ≤ H.length) (h0 : 0 < sz) {xs' : List AV} (hf : ownL H.length xs xs') : Ent n xs H xs' (H ++ [.arr e sz []]) := by
  intro S0 H0 w vs hl ⟨S, he, hr, hw⟩
  obtain ⟨w1, e1⟩ := hw.arr_none e sz h0
  have hT : shape (H ++ [ABlk.arr e sz []]) H.length = some (.row 0 sz) := by rw [shape_last]; rfl
  have hρ : (S.put H.length none).ρ H.length = none := put_same _ _ _
  exact ⟨S.put H.length none, he.trans e1, ownL_rels hT hρ hf (rels_ext _ _ _ _ e1 hr), w1⟩

theorem Ent.fz {n : Nat} {xs : List AV} {H : List ABlk} (id : Nat) (b : ABlk) (hb : H[id]? = some b) (hid : n ≤ id) (hp : b.pure = true) (hf : fzOs id (rowsN b) xs) (hO : ∀ x ∈ H, fzBO id (rowsN b) x) : Ent n xs H (fzVs id b xs) (fzH id b H) := by
  intro S0 H0 w vs hl ⟨S, he, hr, hw⟩
  exact ⟨_, he.fz hw (by omega), fzVs_rel hw hb hp (fun j hj => fzH_shape j hj) xs _ hf hr, hw.fz hb hp hO⟩
end Go.Ab
