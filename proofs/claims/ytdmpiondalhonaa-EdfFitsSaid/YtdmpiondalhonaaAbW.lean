/- What a state may forget: blocks at the end, and who owns a block. -/
import Derived.Test.YtdmpiondalhonaaAbV
namespace Go.Ab
open Go
set_option linter.unusedVariables false
set_option linter.unusedSimpArgs false

theorem shape_take (H : List ABlk) (n id : Nat) (h : id < n) : shape (H.take n) id = shape H id := by
  simp [shape, List.getElem?_take, h]

theorem WRel.trim {S : RS} {H : List ABlk} {w : World} (h : WRel S H w) (n : Nat) (hb : ∀ b ∈ H.take n, b.blw n) : WRel S (H.take n) w := by
  have hget : ∀ {id b}, (H.take n)[id]? = some b → id < n ∧ H[id]? = some b := fun {id b} hi => by
    rw [List.getElem?_take] at hi
    split at hi
    · rename_i hlt; exact ⟨hlt, hi⟩
    · cases hi
  refine ⟨h.os, h.tape, h.output, h.size, h.prot, h.fro, fun id b hi => ?_, fun i j b b' B c c' hi hj => h.inj i j b b' B c c' (hget hi).2 (hget hj).2⟩
  refine (h.blk id b (hget hi).2).loc (n := n) (fun id hid => ⟨shape_take _ _ _ hid, rfl⟩) (fun _ _ _ h => h) (hb b (List.mem_of_getElem? hi)) (fun _ => rfl) (fun B c _ _ _ ho => ⟨rfl, ho⟩)

theorem Ext.trim {S0 S : RS} {H0 H : List ABlk} (e : Ext S0 (shape H0) S (shape H)) (n : Nat) (hn : H0.length ≤ n) : Ext S0 (shape H0) S (shape (H.take n)) := by
  have key : ∀ id s, shape H0 id = some s → shape (H.take n) id = shape H id := fun id s hs => shape_take _ _ _ (Nat.lt_of_lt_of_le (shape_lt hs) hn)
  exact ⟨e.W0, e.D, e.fro, e.fnw, fun id n hn => by rw [key id _ hn]; exact e.box id n hn, fun id hn => by rw [key id _ hn]; exact e.mp id hn, fun id m sz hn => by rw [key id _ hn]; exact e.row id m sz hn⟩

def blwH.blwR (n : Nat) : List (List AV) → Bool
  | [] => true
  | r :: rs => blws n r && blwH.blwR n rs

def blwH (n : Nat) : List ABlk → Bool
  | [] => true
  | .box _ cs :: H => blws n cs && blwH n H
  | .arr _ _ rows :: H => blwH.blwR n rows && blwH n H
  | .mpb _ :: H => blwH n H
  | .dead _ :: H => blwH n H

theorem blwR_get {n : Nat} : ∀ {rows : List (List AV)}, blwH.blwR n rows = true → ∀ r ∈ rows, blws n r = true
  | [], _, r, hr => by cases hr
  | r0 :: rs, h, r, hr => by
    simp only [blwH.blwR, Bool.and_eq_true] at h
    rcases List.mem_cons.1 hr with rfl | hr
    · exact h.1
    · exact blwR_get h.2 r hr

theorem blws_mem {n : Nat} {cs : List AV} (h : blws n cs = true) : ∀ c ∈ cs, blw n c = true := fun c hc => by
  obtain ⟨i, hi⟩ := List.getElem?_of_mem hc
  exact blws_get h hi

theorem blwH_get {n : Nat} : ∀ {H : List ABlk}, blwH n H = true → ∀ b ∈ H, b.blw n
  | [], _, b, hb => by cases hb
  | b0 :: H, h, b, hb => by
    have h0 : b0.blw n ∧ blwH n H = true := by
      cases b0 with
      | box e cs => simp only [blwH, Bool.and_eq_true] at h; exact ⟨blws_mem h.1, h.2⟩
      | arr e sz rows =>
        simp only [blwH, Bool.and_eq_true] at h
        refine ⟨fun c hc => ?_, h.2⟩
        obtain ⟨r, hr, hcr⟩ := List.mem_flatten.1 hc
        exact blws_mem (blwR_get h.1 r hr) c hcr
      | mpb s => exact ⟨fun c hc => (List.not_mem_nil hc).elim, h⟩
      | dead s => exact ⟨fun c hc => (List.not_mem_nil hc).elim, h⟩
    rcases List.mem_cons.1 hb with rfl | hb
    · exact h0.1
    · exact blwH_get h0.2 b hb

theorem blwR_pursS {n : Nat} : ∀ {rows : List (List AV)}, pursS rows = true → blwH.blwR n rows = true
  | [], _ => rfl
  | r :: rs, h => by
    simp only [pursS, Bool.and_eq_true] at h
    simp only [blwH.blwR, Bool.and_eq_true]
    exact ⟨blws_purs n r h.1, blwR_pursS h.2⟩

section
variable {P : Program} {fn : Func} {tab : List Node} {H0 : List ABlk} {R : AV → List ABlk → Prop} {K : List AItem} {fr : List AV} {H : List ABlk}

/-- Blocks at the end are forgotten. -/
theorem Run.trim (n : Nat) (H' : List ABlk) (hH : H.take n = H') (hn : H0.length ≤ n) (hf : blws n fr = true) (hb : blwH n H' = true) (h : Run P fn tab H0 R K fr H') : Run P fn tab H0 R K fr H := by
  subst hH
  intro S0 S w a b k cs he hd hr hw hk
  exact h S0 S w a b k cs (he.trim n hn) hd (rels_loc (n := n) (fun id hid => ⟨shape_take _ _ _ hid, rfl⟩) (fun _ _ _ h => h) fr _ hf hr) (hw.trim n (blwH_get hb)) hk

theorem CallsA.trim {f : FuncId} {args : List AV} {R' : AV → List ABlk → Prop} (h : CallsA P f args H R) (hm : ∀ r H', R r H' → blw H.length r = true ∧ blwH H.length (H'.take H.length) = true ∧ R' r (H'.take H.length)) : CallsA P f args H R' :=
  ⟨h.1, fun S w vs hw hr => (h.2 S w vs hw hr).mono fun e w' ⟨u, he, S', v, H', h1, h2, h3, h4⟩ => by
    obtain ⟨g1, g2, g3⟩ := hm v H' h4
    exact ⟨u, he, S', v, _, h1.trim _ (Nat.le_refl _), h2.trim _ (blwH_get g2), rel_loc (n := H.length) (fun id hid => ⟨shape_take _ _ _ hid, rfl⟩) (fun _ _ _ h => h) v _ g1 h3, g3⟩⟩
end

/-! ### a block is frozen -/
mutual
def fzV (id : Nat) (b : ABlk) : AV → AV
  | .sl id' t o n => match Nat.beq id' id, b with
    | true, .arr _ sz rows => .inl sz ((rows.drop o).take n)
    | true, _ => .junk
    | false, _ => .sl id' t o n
  | .ptr id' t r o => match Nat.beq id' id, b with
    | true, .arr _ _ rows => match rows[r]? with
      | some row => .iptr (row.drop o)
      | none => .junk
    | true, _ => .junk
    | false, _ => .ptr id' t r o
  | .bptr id' o => match Nat.beq id' id, b with
    | true, .box _ cs => .iptr (cs.drop o)
    | true, _ => .junk
    | false, _ => .bptr id' o
  | .map id' => match Nat.beq id' id with
    | true => .junk
    | false => .map id'
  | .fn f x y => .fn f (fzVs id b x) (fzVs id b y)
  | .iface t x => .iface t (fzV id b x)
  | .agg cs => .agg (fzVs id b cs)
  | .tup cs => .tup (fzVs id b cs)
  | c => c
def fzVs (id : Nat) (b : ABlk) : List AV → List AV
  | [] => []
  | c :: cs => fzV id b c :: fzVs id b cs
end

mutual
/-- What must hold for that: nothing stale. -/
def fzO (id m : Nat) : AV → Prop
  | .sl id' t _ _ => match Nat.beq id' id with
    | true => t = m
    | false => True
  | .ptr id' t _ _ => match Nat.beq id' id with
    | true => t = m
    | false => True
  | .fn _ x y => fzOs id m x ∧ fzOs id m y
  | .iface _ x => fzO id m x
  | .agg cs => fzOs id m cs
  | .tup cs => fzOs id m cs
  | _ => True
def fzOs (id m : Nat) : List AV → Prop
  | [] => True
  | c :: cs => fzO id m c ∧ fzOs id m cs
end

def fzB (id : Nat) (b : ABlk) : ABlk → ABlk
  | .box e cs => .box e (fzVs id b cs)
  | .arr e sz rows => .arr e sz (rows.map (fzVs id b))
  | .mpb rows => .mpb rows
  | .dead s => .dead s

def fzBO (id m : Nat) : ABlk → Prop
  | .box _ cs => fzOs id m cs
  | .arr _ _ rows => ∀ r ∈ rows, fzOs id m r
  | .mpb _ => True
  | .dead _ => True

def rowsN : ABlk → Nat
  | .arr _ _ rows => rows.length
  | _ => 0

def ABlk.pure : ABlk → Bool
  | .box _ cs => purs cs
  | .arr _ _ rows => pursS rows
  | .mpb _ => false
  | .dead _ => false

theorem fzVs_map (id : Nat) (b : ABlk) : ∀ cs : List AV, fzVs id b cs = cs.map (fzV id b)
  | [] => rfl
  | c :: cs => by rw [fzVs, fzVs_map id b cs]; rfl
theorem fzOs_mem {id m : Nat} : ∀ {cs : List AV}, fzOs id m cs → ∀ c ∈ cs, fzO id m c
  | [], _, c, hc => by cases hc
  | c0 :: cs, h, c, hc => by
    rcases List.mem_cons.1 hc with rfl | hc
    · exact h.1
    · exact fzOs_mem h.2 c hc

section
variable {S : RS} {H : List ABlk} {w : World} {id : Nat} {b : ABlk} {T' : Sh}

theorem frz_id_ext (h : WRel S H w) : Ext S noSh (S.frz w (Nat.beq · id) H) noSh := frz_ext h _

mutual
theorem fzV_rel (h : WRel S H w) (hb : H[id]? = some b) (hp : b.pure = true) (hT : ∀ j, j ≠ id → T' j = shape H j) : ∀ (c : AV) (v : Value), fzO id (rowsN b) c → rel S c (shape H) v → rel (S.frz w (Nat.beq · id) H) (fzV id b c) T' v
  | .int .., _, _, h => h
  | .bool .., _, _, h => h
  | .sb .., _, _, h => h
  | .str .., _, _, h => h
  | .nilp, _, _, h => h
  | .nils, _, _, h => h
  | .nilf, _, _, h => h
  | .nili, _, _, h => h
  | .nilm, _, _, h => h
  | .junk, _, _, _ => trivial
  | .iptr cs, v, _, hr => by
    simp only [fzV, rel] at hr ⊢
    obtain ⟨B, o, h1, h2⟩ := hr
    exact ⟨B, o, h1, fz_ext cs B o (frz_ext h _) h2⟩
  | .inl sz rows, v, _, hr => by
    simp only [fzV, rel] at hr ⊢
    obtain ⟨a, c, h1, h2, h3⟩ := hr
    refine ⟨a, c, h1, h2, ?_⟩
    rcases h3 with h3 | ⟨B, o, h3, h4⟩
    · exact .inl h3
    · exact .inr ⟨B, o, h3, fzs_ext rows B o sz (frz_ext h _) h4⟩
  | .map id', v, _, hr => by
    simp only [fzV]
    cases hid : Nat.beq id' id with
    | true => simp [rel]
    | false =>
      have hne : id' ≠ id := fun e => by subst e; simp at hid
      simp only [rel] at hr ⊢
      rw [hT id' hne]
      exact hr
  | .bptr id' o, v, _, hr => by
    simp only [fzV]
    cases hid : Nat.beq id' id with
    | false =>
      have hne : id' ≠ id := fun e => by subst e; simp at hid
      simp only [rel] at hr ⊢
      rw [hT id' hne]
      exact hr
    | true =>
      have := Nat.eq_of_beq_eq_true hid
      subst this
      cases b with
      | arr => simp [rel]
      | dead => simp [rel]
      | mpb => simp [rel]
      | box e cs =>
        simp only [rel] at hr
        obtain ⟨n, B, c, h1, h2, h3⟩ := hr
        obtain ⟨B', c', arr, g1, g2, g3, g4, g5⟩ := h.blk id' _ hb
        rw [h2] at g1
        injection g1 with g1
        injection g1 with g1 g1'
        subst g1
        simp only [rel]
        refine ⟨B, o, h3, fz_of_get fun j c0 hj => ?_⟩
        rw [List.getElem?_drop] at hj
        obtain ⟨u, n1, n2⟩ := rels_get g3 hj
        refine ⟨u, ?_, rel_ext c0 _ _ u (frz_ext h _) (pur_rel c0 u (purs_get hp hj) n2), g4 u (List.mem_of_getElem? n1)⟩
        rw [frz_cell (F := (Nat.beq · id')) (by simp) hb rfl h2]
        simp only [World.cell?, g2]
        simpa using n1
  | .ptr id' t r o, v, ho, hr => by
    simp only [fzV]
    cases hid : Nat.beq id' id with
    | false =>
      have hne : id' ≠ id := fun e => by subst e; simp at hid
      simp only [rel] at hr ⊢
      rw [hT id' hne]
      exact hr
    | true =>
      simp only [fzO, hid] at ho
      have := Nat.eq_of_beq_eq_true hid
      subst this
      cases b with
      | box => simp [rel]
      | dead => simp [rel]
      | mpb => simp [rel]
      | arr e sz rows =>
        simp only
        cases hrow : rows[r]? with
        | none => simp [rel]
        | some row =>
          simp only [rowsN] at ho
          simp only [rel] at hr
          obtain ⟨m, sz', B, o', h1, h2, g2, h3⟩ := hr
          rw [shape_get hb] at h1
          simp only [ABlk.shp, Option.some.injEq, Shp.row.injEq] at h1
          obtain ⟨rfl, rfl⟩ := h1
          obtain ⟨c, g1, rfl⟩ := h3 ho
          obtain ⟨_, hblk⟩ := h.blk id' _ hb
          rw [g1] at hblk
          obtain ⟨arr, k1, k2, k3, k4, k5⟩ := hblk
          obtain ⟨m1, m2⟩ := k4 r row hrow
          simp only [rel]
          refine ⟨B, _, g2, fz_of_get fun j c0 hj => ?_⟩
          rw [List.getElem?_drop] at hj
          obtain ⟨u, n1, n2, n3⟩ := m2 _ _ hj
          refine ⟨u, ?_, rel_ext c0 _ _ u (frz_ext h _) (pur_rel c0 u (purs_get (pursS_get hp hrow) hj) n2), n3⟩
          rw [frz_cell (F := (Nat.beq · id')) (by simp) hb rfl g1]
          simp only [World.cell?, k1]
          simpa [Nat.add_assoc] using n1
  | .sl id' t o n, v, ho, hr => by
    simp only [fzV]
    cases hid : Nat.beq id' id with
    | false =>
      have hne : id' ≠ id := fun e => by subst e; simp at hid
      simp only [rel] at hr ⊢
      rw [hT id' hne]
      exact hr
    | true =>
      simp only [fzO, hid] at ho
      have := Nat.eq_of_beq_eq_true hid
      subst this
      cases b with
      | box => simp [rel]
      | dead => simp [rel]
      | mpb => simp [rel]
      | arr e sz rows =>
        simp only [rowsN] at ho
        simp only [rel] at hr
        obtain ⟨m, sz', h1, h2, _, h3⟩ := hr
        rw [shape_get hb] at h1
        simp only [ABlk.shp, Option.some.injEq, Shp.row.injEq] at h1
        obtain ⟨rfl, rfl⟩ := h1
        obtain ⟨hon, h3⟩ := h3 ho
        obtain ⟨_, hblk⟩ := h.blk id' _ hb
        cases hρ : S.ρ id' with
        | none =>
          rw [hρ] at h3
          obtain ⟨rfl, a, rfl⟩ := h3
          simp only [rel]
          exact ⟨a, 0, by simp, by simp, .inl (by simp)⟩
        | some p =>
          obtain ⟨B, c⟩ := p
          rw [hρ] at h3 hblk
          obtain ⟨a, h4, h5⟩ := h3
          obtain ⟨arr, k1, k2, k3, k4, k5⟩ := hblk
          have hlen : ((rows.drop o).take n).length = n := by simp; omega
          simp only [rel]
          refine ⟨a, c - o, by rw [hlen]; exact h4, by rw [hlen]; omega, ?_⟩
          rcases Nat.eq_zero_or_pos n with hn | hn
          · exact .inl (List.eq_nil_of_length_eq_zero (by rw [hlen]; exact hn))
          · refine .inr ⟨B, o * sz, h5 (by omega), fzs_of_get fun i r hi => ?_⟩
            rw [List.getElem?_take] at hi
            split at hi
            · rename_i hin
              rw [List.getElem?_drop] at hi
              obtain ⟨m1, m2⟩ := k4 _ _ hi
              refine ⟨m1, fz_of_get fun j c0 hj => ?_⟩
              obtain ⟨u, n1, n2, n3⟩ := m2 _ _ hj
              refine ⟨u, ?_, rel_ext c0 _ _ u (frz_ext h _) (pur_rel c0 u (purs_get (pursS_get hp hi) hj) n2), n3⟩
              rw [frz_cell (F := (Nat.beq · id')) (by simp) hb rfl hρ]
              simp only [World.cell?, k1]
              rw [← n1, Nat.add_mul]
              simp
            · cases hi
  | .fn f x y, v, ho, hr => by
    simp only [fzV, rel] at hr ⊢
    simp only [fzO] at ho
    obtain ⟨a, b', h1, h2, h3⟩ := hr
    exact ⟨a, b', h1, fzVs_rel h hb hp hT x _ ho.1 h2, fzVs_rel h hb hp hT y _ ho.2 h3⟩
  | .iface t x, v, ho, hr => by
    simp only [fzV, rel] at hr ⊢
    simp only [fzO] at ho
    obtain ⟨u, h1, h2⟩ := hr
    exact ⟨u, h1, fzV_rel h hb hp hT x u ho h2⟩
  | .agg cs, v, ho, hr => by
    simp only [fzV, rel] at hr ⊢
    simp only [fzO] at ho
    obtain ⟨us, h1, h2, h3⟩ := hr
    exact ⟨us, h1, fzVs_rel h hb hp hT cs _ ho h2, h3⟩
  | .tup cs, v, ho, hr => by
    simp only [fzV, rel] at hr ⊢
    simp only [fzO] at ho
    obtain ⟨us, h1, h2⟩ := hr
    exact ⟨us, h1, fzVs_rel h hb hp hT cs _ ho h2⟩
theorem fzVs_rel (h : WRel S H w) (hb : H[id]? = some b) (hp : b.pure = true) (hT : ∀ j, j ≠ id → T' j = shape H j) : ∀ (cs : List AV) (vs : List Value), fzOs id (rowsN b) cs → rels S cs (shape H) vs → rels (S.frz w (Nat.beq · id) H) (fzVs id b cs) T' vs
  | [], _, _, h => h
  | c :: cs, vs, ho, hr => by
    simp only [fzVs, rels] at hr ⊢
    simp only [fzOs] at ho
    obtain ⟨v, vs', h1, h2, h3⟩ := hr
    exact ⟨v, vs', h1, fzV_rel h hb hp hT c v ho.1 h2, fzVs_rel h hb hp hT cs vs' ho.2 h3⟩
end

/-- The heap when block `id` is frozen. -/
def fzH (id : Nat) (b : ABlk) (H : List ABlk) : List ABlk := (H.set id (.dead .mp)).map (fzB id b)

theorem fzB_shp (id : Nat) (b x : ABlk) : (fzB id b x).shp = x.shp := by
  cases x <;> simp [fzB, ABlk.shp, fzVs_map]

theorem fzH_get {j : Nat} {x : ABlk} (hj : (fzH id b H)[j]? = some x) : (j = id ∧ x = .dead .mp) ∨ (j ≠ id ∧ ∃ y, H[j]? = some y ∧ x = fzB id b y) := by
  unfold fzH at hj
  rw [List.getElem?_map] at hj
  obtain ⟨y, hy, rfl⟩ := Option.map_eq_some_iff.1 hj
  rcases get_set hy with ⟨h1, h2⟩ | ⟨h1, h2⟩
  · exact .inr ⟨h1, y, h2, rfl⟩
  · subst h2; exact .inl ⟨h1, rfl⟩

theorem fzH_shape (j : Nat) (hj : j ≠ id) : shape (fzH id b H) j = shape H j := by
  unfold fzH shape
  rw [List.getElem?_map, List.getElem?_set_ne (fun e => hj e.symm)]
  cases H[j]? with
  | none => rfl
  | some x => simp [fzB_shp]

theorem WRel.fz (h : WRel S H w) (hb : H[id]? = some b) (hp : b.pure = true) (hO : ∀ x ∈ H, fzBO id (rowsN b) x) : WRel (S.frz w (Nat.beq · id) H) (fzH id b H) w := by
  have hl : b.live = true := by cases b <;> first | rfl | cases hp
  have hT : ∀ j, j ≠ id → shape (fzH id b H) j = shape H j := fun j hj => fzH_shape j hj
  have hOwn : ∀ {j y B c}, j ≠ id → H[j]? = some y → y.live = true → S.ρ j = some (B, c) → Own S B → Own (S.frz w (Nat.beq · id) H) B := fun {j y B c} hj hy hyl hρ ho => by
    refine ⟨ho.1, fun o => ?_⟩
    simp only [RS.frz]
    rw [if_neg ?_]
    · exact ho.2 o
    · rintro ⟨id', c', b', hF, hb', hl', hρ'⟩
      have := Nat.eq_of_beq_eq_true hF
      subst this
      exact hj (h.inj j id' y b' B c c' hy hb' hyl hl' hρ hρ')
  refine ⟨h.os, h.tape, h.output, h.size, h.prot, fun B o v hv => ?_, fun j x hx => ?_, fun i j x y B c c' hi hj li lj hBi hBj => ?_⟩
  · simp only [RS.frz] at hv
    split at hv
    · exact hv
    · exact h.fro B o v hv
  · rcases fzH_get hx with ⟨rfl, rfl⟩ | ⟨hne, y, hy, rfl⟩
    · trivial
    · have hrel := h.blk j y hy
      have hok := hO y (List.mem_of_getElem? hy)
      cases y with
      | box e cs =>
        obtain ⟨B, c, arr, h1, h2, h3, h4, h5⟩ := hrel
        exact ⟨B, c, arr, h1, h2, fzVs_rel h hb hp hT cs _ hok h3, h4, hOwn hne hy rfl h1 h5⟩
      | arr e sz rows =>
        obtain ⟨h0, hrel⟩ := hrel
        refine ⟨h0, ?_⟩
        show match S.ρ j with
          | some (B, c) => _
          | none => _
        cases hρ : S.ρ j with
        | none => rw [hρ] at hrel; simp only; rw [hrel]; rfl
        | some p =>
          obtain ⟨B, c⟩ := p
          rw [hρ] at hrel
          obtain ⟨arr, h2, h3, h4, h5, h6⟩ := hrel
          refine ⟨arr, h2, h3, by simpa using h4, fun i r hi => ?_, hOwn hne hy rfl hρ h6⟩
          rw [List.getElem?_map] at hi
          obtain ⟨r0, hr0, rfl⟩ := Option.map_eq_some_iff.1 hi
          obtain ⟨g1, g2⟩ := h5 i r0 hr0
          have hokr := hok r0 (List.mem_of_getElem? hr0)
          refine ⟨by rw [fzVs_map, List.length_map]; exact g1, fun k c0 hk => ?_⟩
          rw [fzVs_map, List.getElem?_map] at hk
          obtain ⟨c1, hc1, rfl⟩ := Option.map_eq_some_iff.1 hk
          obtain ⟨u, m1, m2, m3⟩ := g2 k c1 hc1
          exact ⟨u, m1, fzV_rel h hb hp hT c1 u (fzOs_mem hokr c1 (List.mem_of_getElem? hc1)) m2, m3⟩
      | mpb rows =>
        obtain ⟨B, c, es, clock, h1, h2, h3, h5⟩ := hrel
        exact ⟨B, c, es, clock, h1, h2, entR_ext (frz_ext h _).zero h3, hOwn hne hy rfl h1 h5⟩
      | dead s => trivial
  · rcases fzH_get hi with ⟨_, rfl⟩ | ⟨_, x', hx', rfl⟩
    · cases li
    · rcases fzH_get hj with ⟨_, rfl⟩ | ⟨_, y', hy', rfl⟩
      · cases lj
      · exact h.inj i j x' y' B c c' hx' hy' (by cases x' <;> first | rfl | exact li) (by cases y' <;> first | rfl | exact lj) hBi hBj

theorem Ext.fz {S0 : RS} {H0 : List ABlk} (e : Ext S0 (shape H0) S (shape H)) (h : WRel S H w) (hid : H0.length ≤ id) : Ext S0 (shape H0) (S.frz w (Nat.beq · id) H) (shape (fzH id b H)) := by
  have key : ∀ j s, shape H0 j = some s → shape (fzH id b H) j = shape H j := fun j s hs => fzH_shape j (by have := shape_lt hs; omega)
  refine ⟨e.W0, e.D, fun B o v hv => frz_fro h _ B o v (e.fro B o v hv), fun B o v hv => ?_, fun j n hn => by rw [key j _ hn]; exact e.box j n hn, fun j hn => by rw [key j _ hn]; exact e.mp j hn, fun j m sz hn => by rw [key j _ hn]; exact e.row j m sz hn⟩
  rcases frz_fnw h _ B o v hv with h1 | h1
  · exact e.fnw B o v h1
  · exact .inr (by rw [e.D] at h1; exact h1)
end

section
variable {P : Program} {fn : Func} {tab : List Node} {H0 : List ABlk} {R : AV → List ABlk → Prop} {K : List AItem} {fr : List AV} {H : List ABlk}

/-- A block is owned no more: its values speak of what it holds. -/
theorem Run.freeze (id : Nat) (b : ABlk) (fr' : List AV) (H' : List ABlk) (hb : H[id]? = some b) (hid : H0.length ≤ id) (hp : b.pure = true) (hf : fzOs id (rowsN b) fr) (hO : ∀ x ∈ H, fzBO id (rowsN b) x) (hfr : fzVs id b fr = fr') (hH : fzH id b H = H')
    (h : Run P fn tab H0 R K fr' H') : Run P fn tab H0 R K fr H := by
  subst hfr hH
  intro S0 S w a bb k cs he hd hr hw hk
  exact h S0 _ w a bb k cs (he.fz hw hid) hd (fzVs_rel hw hb hp (fun j hj => fzH_shape j hj) fr _ hf hr) (hw.fz hb hp hO) hk

theorem CallsA.freeze {f : FuncId} {args : List AV} {R' : AV → List ABlk → Prop} (h : CallsA P f args H R)
    (hm : ∀ r H', R r H' → ∃ id b, H'[id]? = some b ∧ H.length ≤ id ∧ b.pure = true ∧ fzO id (rowsN b) r ∧ (∀ x ∈ H', fzBO id (rowsN b) x) ∧ R' (fzV id b r) (fzH id b H')) : CallsA P f args H R' :=
  ⟨h.1, fun S w vs hw hr => (h.2 S w vs hw hr).mono fun e w' ⟨u, he, S', v, H', h1, h2, h3, h4⟩ => by
    obtain ⟨id, b, g1, g2, g3, g4, g5, g6⟩ := hm v H' h4
    exact ⟨u, he, _, _, _, h1.fz h2 g2, h2.fz g1 g3 g5, fzV_rel h2 g1 g3 (fun j hj => fzH_shape j hj) v u g4 h3, g6⟩⟩
end
end Go.Ab
