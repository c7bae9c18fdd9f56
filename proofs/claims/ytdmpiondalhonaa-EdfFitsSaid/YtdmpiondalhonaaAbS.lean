/- What a function does on few blocks it does beside others: the frame. -/
import Derived.Test.YtdmpiondalhonaaAbR
namespace Go.Ab
open Go
set_option linter.unusedVariables false
set_option linter.unusedSimpArgs false

mutual
/-- Only blocks below `n` are spoken of. -/
def blw (n : Nat) : AV → Bool
  | .ptr id _ _ _ => Nat.blt id n
  | .bptr id _ => Nat.blt id n
  | .sl id _ _ _ => Nat.blt id n
  | .map id => Nat.blt id n
  | .fn _ a b => blws n a && blws n b
  | .iface _ x => blw n x
  | .agg cs => blws n cs
  | .tup cs => blws n cs
  | _ => true
def blws (n : Nat) : List AV → Bool
  | [] => true
  | c :: cs => blw n c && blws n cs
end

theorem blws_get {n : Nat} : ∀ {cs : List AV} {i : Nat} {c : AV}, blws n cs = true → cs[i]? = some c → blw n c = true
  | [], i, c, _, h => by simp at h
  | c0 :: cs, i, c, h0, h => by
    simp only [blws, Bool.and_eq_true] at h0
    cases i with
    | zero => simp at h; subst h; exact h0.1
    | succ i => simp at h; exact blws_get h0.2 h

mutual
theorem blw_pur (n : Nat) : ∀ (c : AV), pur c = true → blw n c = true
  | .int .., _ => rfl
  | .bool .., _ => rfl
  | .sb .., _ => rfl
  | .str .., _ => rfl
  | .nilp, _ => rfl
  | .nils, _ => rfl
  | .nilf, _ => rfl
  | .nili, _ => rfl
  | .nilm, _ => rfl
  | .junk, _ => rfl
  | .iptr _, _ => rfl
  | .inl .., _ => rfl
  | .ptr .., h => by simp [pur] at h
  | .bptr .., h => by simp [pur] at h
  | .sl .., h => by simp [pur] at h
  | .map _, h => by simp [pur] at h
  | .fn _ a b, h => by simp only [pur, Bool.and_eq_true] at h; simp only [blw, Bool.and_eq_true]; exact ⟨blws_purs n a h.1, blws_purs n b h.2⟩
  | .iface _ x, h => by simp only [pur] at h; simp only [blw]; exact blw_pur n x h
  | .agg cs, h => by simp only [pur] at h; simp only [blw]; exact blws_purs n cs h
  | .tup cs, h => by simp only [pur] at h; simp only [blw]; exact blws_purs n cs h
theorem blws_purs (n : Nat) : ∀ (cs : List AV), purs cs = true → blws n cs = true
  | [], _ => rfl
  | c :: cs, h => by simp only [purs, Bool.and_eq_true] at h; simp only [blws, Bool.and_eq_true]; exact ⟨blw_pur n c h.1, blws_purs n cs h.2⟩
end

section
variable {S S' : RS} {T T' : Sh} {n : Nat}

theorem fro_ext (hφ : ∀ B o v, S.φ B o = some v → S'.φ B o = some v) : Ext0 S noSh S' noSh := ⟨hφ, fun _ _ h => (by cases h), fun _ h => (by cases h), fun _ _ _ h => (by cases h)⟩

mutual
theorem rel_loc (hT : ∀ id, id < n → T' id = T id ∧ S'.ρ id = S.ρ id) (hφ : ∀ B o v, S.φ B o = some v → S'.φ B o = some v) : ∀ (c : AV) (v : Value), blw n c = true → rel S c T v → rel S' c T' v
  | .int .., _, _, h => h
  | .bool .., _, _, h => h
  | .sb .., _, _, h => h
  | .str .., _, _, h => h
  | .nilp, _, _, h => h
  | .nils, _, _, h => h
  | .nilf, _, _, h => h
  | .nili, _, _, h => h
  | .nilm, _, _, h => h
  | .junk, _, _, _ => trivial
  | .ptr id t r o, v, hb, h => by
    simp only [blw] at hb
    obtain ⟨h1, h2⟩ := hT id (Nat.blt_eq.mp hb)
    simp only [rel] at h ⊢
    rw [h1, h2]
    exact h
  | .bptr id o, v, hb, h => by
    simp only [blw] at hb
    obtain ⟨h1, h2⟩ := hT id (Nat.blt_eq.mp hb)
    simp only [rel] at h ⊢
    rw [h1, h2]
    exact h
  | .iptr cs, v, _, h => by
    simp only [rel] at h ⊢
    obtain ⟨B, o, h1, h2⟩ := h
    exact ⟨B, o, h1, fz_ext0 cs B o (fro_ext hφ) h2⟩
  | .sl id t o k, v, hb, h => by
    simp only [blw] at hb
    obtain ⟨h1, h2⟩ := hT id (Nat.blt_eq.mp hb)
    simp only [rel] at h ⊢
    rw [h1, h2]
    exact h
  | .inl sz rows, v, _, h => by
    simp only [rel] at h ⊢
    obtain ⟨a, c, h1, h2, h3⟩ := h
    refine ⟨a, c, h1, h2, ?_⟩
    rcases h3 with h3 | ⟨B, o, h3, h4⟩
    · exact .inl h3
    · exact .inr ⟨B, o, h3, fzs_ext0 rows B o sz (fro_ext hφ) h4⟩
  | .fn f fi ca, v, hb, h => by
    simp only [blw, Bool.and_eq_true] at hb
    simp only [rel] at h ⊢
    obtain ⟨a, b, h1, h2, h3⟩ := h
    exact ⟨a, b, h1, rels_loc hT hφ fi _ hb.1 h2, rels_loc hT hφ ca _ hb.2 h3⟩
  | .iface t x, v, hb, h => by
    simp only [blw] at hb
    simp only [rel] at h ⊢
    obtain ⟨u, h1, h2⟩ := h
    exact ⟨u, h1, rel_loc hT hφ x u hb h2⟩
  | .agg cs, v, hb, h => by
    simp only [blw] at hb
    simp only [rel] at h ⊢
    obtain ⟨us, h1, h2, h3⟩ := h
    exact ⟨us, h1, rels_loc hT hφ cs _ hb h2, h3⟩
  | .tup cs, v, hb, h => by
    simp only [blw] at hb
    simp only [rel] at h ⊢
    obtain ⟨us, h1, h2⟩ := h
    exact ⟨us, h1, rels_loc hT hφ cs _ hb h2⟩
  | .map id, v, hb, h => by
    simp only [blw] at hb
    obtain ⟨h1, h2⟩ := hT id (Nat.blt_eq.mp hb)
    simp only [rel] at h ⊢
    rw [h1, h2]
    exact h
theorem rels_loc (hT : ∀ id, id < n → T' id = T id ∧ S'.ρ id = S.ρ id) (hφ : ∀ B o v, S.φ B o = some v → S'.φ B o = some v) : ∀ (cs : List AV) (vs : List Value), blws n cs = true → rels S cs T vs → rels S' cs T' vs
  | [], _, _, h => h
  | c :: cs, vs, hb, h => by
    simp only [blws, Bool.and_eq_true] at hb
    simp only [rels] at h ⊢
    obtain ⟨v, vs', h1, h2, h3⟩ := h
    exact ⟨v, vs', h1, rel_loc hT hφ c v hb.1 h2, rels_loc hT hφ cs vs' hb.2 h3⟩
end
end

def ABlk.cells : ABlk → List AV
  | .box _ cs => cs
  | .arr _ _ rows => rows.flatten
  | .mpb _ => []
  | .dead _ => []

/-- A block whose cells are below `n`. -/
def ABlk.blw (n : Nat) (b : ABlk) : Prop := ∀ c ∈ b.cells, Ab.blw n c = true

theorem BlkRel.loc {S S' : RS} {T T' : Sh} {n : Nat} {b : ABlk} {id : Nat} {w w' : World} (h : BlkRel S T b id w) (hT : ∀ id, id < n → T' id = T id ∧ S'.ρ id = S.ρ id) (hφ : ∀ B o v, S.φ B o = some v → S'.φ B o = some v)
    (hb : b.blw n) (hρ : b.live = true → S'.ρ id = S.ρ id) (hw : ∀ B c, b.live = true → S.ρ id = some (B, c) → B < w.heap.size → Own S B → w'.heap[B]? = w.heap[B]? ∧ Own S' B) : BlkRel S' T' b id w' := by
  cases b with
  | box e' cs =>
    obtain ⟨B, c, arr, h1, h2, h3, h4, h5⟩ := h
    obtain ⟨k1, k2⟩ := hw B c rfl h1 (block_lt h2) h5
    refine ⟨B, c, arr, (hρ rfl).trans h1, k1.trans h2, ?_, h4, k2⟩
    refine rels_of_get (rels_length h3) fun i c hi => ?_
    obtain ⟨v, g1, g2⟩ := rels_get h3 hi
    exact ⟨v, g1, rel_loc hT hφ c v (hb c (List.mem_of_getElem? hi)) g2⟩
  | arr e' sz rows =>
    obtain ⟨h0, h⟩ := h
    refine ⟨h0, ?_⟩
    rw [hρ rfl]
    cases hr : S.ρ id with
    | none => rw [hr] at h; exact h
    | some p =>
      obtain ⟨B, c⟩ := p
      rw [hr] at h
      obtain ⟨arr, h2, h3, h4, h5, h6⟩ := h
      obtain ⟨k1, k2⟩ := hw B c rfl hr (block_lt h2) h6
      refine ⟨arr, k1.trans h2, h3, h4, fun i r hi => ?_, k2⟩
      obtain ⟨g1, g2⟩ := h5 i r hi
      refine ⟨g1, fun j c hj => ?_⟩
      obtain ⟨u, m1, m2, m3⟩ := g2 j c hj
      exact ⟨u, m1, rel_loc hT hφ c u (hb c (List.mem_flatten.2 ⟨r, List.mem_of_getElem? hi, List.mem_of_getElem? hj⟩)) m2, m3⟩
  | mpb rows =>
    obtain ⟨B, c, es, clock, h1, h2, h3, h5⟩ := h
    obtain ⟨k1, k2⟩ := hw B c rfl h1 (block_lt h2) h5
    have hx : Ext0 S noSh S' noSh := ⟨hφ, fun _ _ h => (by cases h), fun _ h => (by cases h), fun _ _ _ h => (by cases h)⟩
    exact ⟨B, c, es, clock, (hρ rfl).trans h1, k1.trans h2, entR_ext hx h3, k2⟩
  | dead s => trivial

section
variable {P : Program} {f : FuncId} {args : List AV} {Hp : List ABlk} {R : AV → List ABlk → Prop}

theorem shape_left (H L : List ABlk) (id : Nat) (h : id < H.length) : shape (H ++ L) id = shape H id := shape_append H L id h
theorem shape_right (H L : List ABlk) (id : Nat) (h : H.length ≤ id) : shape (H ++ L) id = shape L (id - H.length) := by
  simp [shape, List.getElem?_append_right h]

/-- THE FRAME: what is proved on few blocks holds beside others. -/
theorem CallsA.frame (h : CallsA P f args Hp R) (hl : ∀ r H', R r H' → H'.length = Hp.length) (ha : blws Hp.length args = true) (hH : ∀ b ∈ Hp, b.blw Hp.length) (rest : List ABlk) :
    CallsA P f args (Hp ++ rest) (fun r H' => ∃ Hp', R r Hp' ∧ H' = Hp' ++ rest) := by
  refine ⟨h.1, fun S w vs hw hr => ?_⟩
  let D1 : Nat → Prop := fun k => k < w.heap.size ∧ ¬ ∃ id c b, Hp[id]? = some b ∧ b.live = true ∧ S.ρ id = some (k, c)
  let S1 : RS := { W0 := w, D := D1, ρ := S.ρ, φ := S.φ }
  have hT1 : ∀ id, id < Hp.length → shape Hp id = shape (Hp ++ rest) id ∧ S1.ρ id = S.ρ id := fun id hid => ⟨(shape_left _ _ _ hid).symm, rfl⟩
  have hget : ∀ {id b}, Hp[id]? = some b → (Hp ++ rest)[id]? = some b := fun {id b} hb => by
    have := get_lt hb
    rw [List.getElem?_append_left this]; exact hb
  have hw1 : WRel S1 Hp w := by
    refine ⟨rfl, rfl, rfl, Nat.le_refl _, fun k hk => ⟨hk.1, rfl⟩, hw.fro, fun id b hb => ?_, fun i j b b' B c c' hi hj li lj hBi hBj => ?_⟩
    · refine (hw.blk id b (hget hb)).loc hT1 (fun _ _ _ h => h) (hH b (List.mem_of_getElem? hb)) (fun _ => rfl) (fun B c hl hB _ ho => ⟨rfl, fun hd => ?_, ho.2⟩)
      exact hd.2 ⟨id, c, b, hb, hl, hB⟩
    · exact hw.inj i j b b' B c c' (hget hi) (hget hj) li lj hBi hBj
  have hr1 : rels S1 args (shape Hp) vs := rels_loc hT1 (fun _ _ _ h => h) args vs ha hr
  refine (h.2 S1 w vs hw1 hr1).mono fun e w' ⟨u, he, S2, r, Hp', q1, q2, q3, q4⟩ => ⟨u, he, ?_⟩
  have hlen := hl r Hp' q4
  let S' : RS := { W0 := S.W0, D := S.D, ρ := fun id => if id < Hp.length then S2.ρ id else S.ρ id, φ := S2.φ }
  have hW2 : S2.W0 = w := q1.W0
  have hD2 : S2.D = D1 := q1.D
  -- what is protected
  have hkeep : ∀ k, D1 k → w'.heap[k]? = w.heap[k]? := fun k hk => by
    have := (q2.prot k (by rw [hD2]; exact hk)).2
    rw [hW2] at this
    exact this
  have hDD : ∀ k, S.D k → D1 k := fun k hk => ⟨Nat.lt_of_lt_of_le (hw.prot k hk).1 hw.size, fun ⟨id, c, b, hb, hl, hρ⟩ => (hw.place_lt (hget hb) hl hρ).2.1 hk⟩
  have hrest : ∀ {id b B c}, Hp.length ≤ id → (Hp ++ rest)[id]? = some b → b.live = true → S.ρ id = some (B, c) → D1 B := fun {id b B c} hge hb hl hρ => by
    refine ⟨(hw.place_lt hb hl hρ).1, fun ⟨id', c', b', hb', hl', hρ'⟩ => ?_⟩
    have := hw.inj id id' b b' B c c' hb (hget hb') hl hl' hρ hρ'
    have := get_lt hb'
    omega
  have hshape : ∀ id, id < Hp.length → shape (Hp' ++ rest) id = shape Hp' id := fun id hid => shape_left _ _ _ (by omega)
  have hshape' : ∀ id, ¬ id < Hp.length → shape (Hp' ++ rest) id = shape (Hp ++ rest) id := fun id hid => by
    rw [shape_right _ _ _ (by omega), shape_right _ _ _ (by omega), hlen]
  have hext : Ext S (shape (Hp ++ rest)) S' (shape (Hp' ++ rest)) := by
    refine ⟨rfl, rfl, q1.fro, fun B o v hv => ?_, fun id n hn => ?_, fun id hn => ?_, fun id m sz hn => ?_⟩
    · rcases q1.fnw B o v hv with h1 | h1
      · exact .inl h1
      · exact .inr fun hd => h1 (hDD B hd)
    · by_cases hid : id < Hp.length
      · rw [shape_left _ _ _ hid] at hn
        obtain ⟨a, b⟩ := q1.box id n hn
        exact ⟨by rw [hshape id hid]; exact a, by simp only [S', if_pos hid]; exact b⟩
      · exact ⟨by rw [hshape' id hid]; exact hn, by simp only [S', if_neg hid]⟩
    · by_cases hid : id < Hp.length
      · rw [shape_left _ _ _ hid] at hn
        obtain ⟨a, b⟩ := q1.mp id hn
        exact ⟨by rw [hshape id hid]; exact a, by simp only [S', if_pos hid]; exact b⟩
      · exact ⟨by rw [hshape' id hid]; exact hn, by simp only [S', if_neg hid]⟩
    · by_cases hid : id < Hp.length
      · rw [shape_left _ _ _ hid] at hn
        obtain ⟨m', a, b, c⟩ := q1.row id m sz hn
        exact ⟨m', by rw [hshape id hid]; exact a, b, fun hm => by simp only [S', if_pos hid]; exact c hm⟩
      · exact ⟨m, by rw [hshape' id hid]; exact hn, Nat.le_refl _, fun _ => by simp only [S', if_neg hid]⟩
  have hext2 : Ext0 S2 (shape Hp') S' (shape (Hp' ++ rest)) := by
    have key : ∀ id s, shape Hp' id = some s → shape (Hp' ++ rest) id = some s ∧ S'.ρ id = S2.ρ id := fun id s hs => by
      have := shape_lt hs
      exact ⟨by rw [shape_left _ _ _ this]; exact hs, by simp only [S']; rw [if_pos (by omega)]⟩
    exact ⟨fun _ _ _ h => h, fun id n hn => key id _ hn, fun id hn => key id _ hn, fun id m sz hn => ⟨m, (key id _ hn).1, Nat.le_refl _, fun _ => (key id _ hn).2⟩⟩
  refine ⟨S', r, Hp' ++ rest, hext, ?_, rel_ext0 r _ _ u hext2 q3, Hp', q4, rfl⟩
  have hsz : w.heap.size ≤ w'.heap.size := by have := q2.size; rw [hW2] at this; exact this
  have hOwn : ∀ B, Own S2 B → Own S' B := fun B ho => ⟨fun hd => ho.1 (by rw [hD2]; exact hDD B hd), ho.2⟩
  refine ⟨?_, ?_, ?_, Nat.le_trans hw.size hsz, fun k hk => ?_, q2.fro, fun id b hb => ?_, fun i j b b' B c c' hi hj li lj hBi hBj => ?_⟩
  · have := q2.os; rw [hW2] at this; exact this.trans hw.os
  · have := q2.tape; rw [hW2] at this; exact this.trans hw.tape
  · have := q2.output; rw [hW2] at this; exact this.trans hw.output
  · obtain ⟨a, b⟩ := hw.prot k hk
    exact ⟨a, (hkeep k (hDD k hk)).trans b⟩
  · by_cases hid : id < Hp.length
    · have hb' : Hp'[id]? = some b := by rw [List.getElem?_append_left (by omega)] at hb; exact hb
      have h1 := q2.blk id b hb'
      cases b with
      | box e' cs =>
        obtain ⟨B, c, arr, h1, h2, h3, h4, h5⟩ := h1
        exact ⟨B, c, arr, by simp only [S', if_pos hid]; exact h1, h2, rels_ext0 _ _ _ _ hext2 h3, h4, hOwn B h5⟩
      | arr e' sz rows =>
        obtain ⟨h0, h1⟩ := h1
        refine ⟨h0, ?_⟩
        simp only [S', if_pos hid]
        cases hr : S2.ρ id with
        | none => rw [hr] at h1; exact h1
        | some p =>
          obtain ⟨B, c⟩ := p
          rw [hr] at h1
          obtain ⟨arr, h2, h3, h4, h5, h6⟩ := h1
          refine ⟨arr, h2, h3, h4, fun i r hi => ?_, hOwn B h6⟩
          obtain ⟨g1, g2⟩ := h5 i r hi
          refine ⟨g1, fun j c hj => ?_⟩
          obtain ⟨u, m1, m2, m3⟩ := g2 j c hj
          exact ⟨u, m1, rel_ext0 c _ _ u hext2 m2, m3⟩
      | mpb rows =>
        obtain ⟨B, c, es, clock, h1, h2, h3, h5⟩ := h1
        exact ⟨B, c, es, clock, by simp only [S', if_pos hid]; exact h1, h2, entR_ext hext2.noSh h3, hOwn B h5⟩
      | dead s => trivial
    · have hb' : (Hp ++ rest)[id]? = some b := by
        rw [List.getElem?_append_right (by omega)] at hb ⊢
        rw [← hlen]; exact hb
      refine (hw.blk id b hb').keep hext (fun _ => by simp only [S', if_neg hid]) (fun B c hl hB _ ho => ?_)
      have hd := hrest (by omega) hb' hl hB
      refine ⟨hkeep B hd, ho.1, fun o => ?_⟩
      cases hv : S'.φ B o with
      | none => rfl
      | some v =>
        rcases q1.fnw B o v hv with h1 | h1
        · have h1 : S.φ B o = some v := h1
          rw [ho.2 o] at h1; cases h1
        · exact absurd hd h1
  · have back : ∀ {id b}, (Hp' ++ rest)[id]? = some b → ¬ id < Hp.length → (Hp ++ rest)[id]? = some b := fun {id b} hb hid => by
      rw [List.getElem?_append_right (by omega)] at hb ⊢
      rw [← hlen]; exact hb
    have front : ∀ {id b}, (Hp' ++ rest)[id]? = some b → id < Hp.length → Hp'[id]? = some b := fun {id b} hb hid => by
      rwa [List.getElem?_append_left (by omega)] at hb
    by_cases h1 : i < Hp.length <;> by_cases h2 : j < Hp.length
    · simp only [S', if_pos h1] at hBi
      simp only [S', if_pos h2] at hBj
      exact q2.inj i j b b' B c c' (front hi h1) (front hj h2) li lj hBi hBj
    · simp only [S', if_pos h1] at hBi
      simp only [S', if_neg h2] at hBj
      have hd := hrest (by omega) (back hj h2) lj hBj
      exact absurd (by rw [hD2]; exact hd) (q2.place_lt (front hi h1) li hBi).2.1
    · simp only [S', if_neg h1] at hBi
      simp only [S', if_pos h2] at hBj
      have hd := hrest (by omega) (back hi h1) li hBi
      exact absurd (by rw [hD2]; exact hd) (q2.place_lt (front hj h2) lj hBj).2.1
    · simp only [S', if_neg h1] at hBi
      simp only [S', if_neg h2] at hBj
      exact hw.inj i j b b' B c c' (back hi h1) (back hj h2) li lj hBi hBj

/-- A function of pure arguments, beside any blocks. -/
theorem CallsA.pure {Q : AV → Prop} (h : CallsA P f args [] (fun r H => Q r ∧ H = [])) (ha : purs args = true) (H : List ABlk) : CallsA P f args H (fun r H' => Q r ∧ H' = H) := by
  have := h.frame (fun r H' h => by rw [h.2]) (blws_purs _ _ ha) (by simp) H
  simp only [List.nil_append] at this
  refine this.mono fun r H' ⟨Hp', ⟨h1, h2⟩, h3⟩ => ⟨h1, by rw [h3, h2, List.nil_append]⟩
end
end Go.Ab
