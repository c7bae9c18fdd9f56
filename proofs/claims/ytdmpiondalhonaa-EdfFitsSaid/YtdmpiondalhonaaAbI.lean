/- Each operation of the abstract machine is what the model does: what is built, and stored. -/
import Derived.Test.YtdmpiondalhonaaAbH
namespace Go.Ab
open Go
set_option linter.unusedVariables false
set_option linter.unusedSimpArgs false
variable {σr : RowF}

inductive All2 {α β : Type} (R : α → β → Prop) : List α → List β → Prop
  | nil : All2 R [] []
  | cons {x y l m} : R x y → All2 R l m → All2 R (x :: l) (y :: m)

theorem All2.imp {α β : Type} {R Q : α → β → Prop} (h : ∀ x y, R x y → Q x y) : ∀ {l : List α} {m : List β}, All2 R l m → All2 Q l m
  | _, _, .nil => .nil
  | _, _, .cons a b => .cons (h _ _ a) (b.imp h)

theorem All2.of_mapM {α β : Type} {f : α → Option β} : ∀ {l : List α} {m : List β}, l.mapM f = some m → All2 (fun x y => f x = some y) l m
  | [], m, h => by simp at h; subst h; exact .nil
  | x :: l, m, h => by
    simp only [List.mapM_cons, Option.bind_eq_bind, Option.bind_eq_some_iff, Option.pure_def, Option.some.injEq] at h
    obtain ⟨y, h1, ys, h2, rfl⟩ := h
    exact .cons h1 (All2.of_mapM h2)

theorem foldl_set_list : ∀ (l : List Value) (k off : Nat) (cells : List Value), off + k + l.length ≤ cells.length →
    (l.zipIdx k).foldl (fun (cs : List Value) (x : Value × Nat) => cs.set (off + x.2) x.1) cells = cells.take (off + k) ++ l ++ cells.drop (off + k + l.length)
  | [], k, off, cells, h => by simp
  | v :: l, k, off, cells, h => by
    simp only [List.zipIdx_cons, List.foldl_cons]
    rw [foldl_set_list l (k + 1) off (cells.set (off + k) v) (by simp at h ⊢; omega)]
    have hk : off + k < cells.length := by simp at h; omega
    rw [List.take_set, List.drop_set, if_pos (by omega)]
    have e1 : cells.take (off + (k + 1)) = cells.take (off + k) ++ [cells[off + k]] := by
      rw [show off + (k + 1) = off + k + 1 by omega, List.take_succ_eq_append_getElem hk]
    rw [e1, List.set_append_right _ _ (by simp; omega)]
    have e2 : (off + k) - (cells.take (off + k)).length = 0 := by simp; omega
    rw [e2]
    simp only [List.set_cons_zero, List.append_assoc, List.cons_append, List.nil_append, List.length_cons]
    rw [show off + (k + 1) + l.length = off + k + (l.length + 1) by omega]

theorem foldl_set_arr (vs : Array Value) (off : Nat) (cells : Array Value) (h : off + vs.size ≤ cells.size) :
    (vs.zipIdx.foldl (fun cs (c, j) => cs.setIfInBounds (off + j) c) cells).toList = cells.toList.take off ++ vs.toList ++ cells.toList.drop (off + vs.size) := by
  have key : ∀ (l : List (Value × Nat)) (c : Array Value), (l.foldl (fun (cs : Array Value) (x : Value × Nat) => cs.setIfInBounds (off + x.2) x.1) c).toList = l.foldl (fun (cs : List Value) (x : Value × Nat) => cs.set (off + x.2) x.1) c.toList := by
    intro l
    induction l with
    | nil => intro c; rfl
    | cons x l ih => intro c; simp only [List.foldl_cons]; rw [ih]; simp
  rw [← Array.foldl_toList]
  have := key vs.zipIdx.toList cells
  rw [show (fun (cs : Array Value) (x : Value × Nat) => match x with | (c, j) => cs.setIfInBounds (off + j) c) = (fun (cs : Array Value) (x : Value × Nat) => cs.setIfInBounds (off + x.2) x.1) from by funext cs x; rfl]
  rw [this, Array.toList_zipIdx]
  have h2 := foldl_set_list vs.toList 0 off cells.toList (by simpa using h)
  simpa using h2

section
variable {P : Program} {S : RS} {H : List ABlk} {fr : List AV} {K : AV → List ABlk → Prop} {o : Oper} {a : Act} {w : World}

theorem cells_size {T : Sh} {v : AV} {u : Value} (h : rel S v T u) (h1 : allOne (cellsOf v) = true) : u.cells.size = (cellsOf v).length := by
  have := rels_length (cellsOf_rel h h1).1
  simpa using this

/-- Cells laid over cells. -/
theorem rels_spl {T : Sh} {cs ys r : List AV} {us vs : List Value} {off : Nat} (hc : rels S cs T us) (hy : rels S ys T vs) (h : splL cs off ys = some r) : rels S r T (us.take off ++ vs ++ us.drop (off + vs.length)) := by
  obtain ⟨_, h2⟩ := splL_eq _ _ _ _ h
  subst h2
  rw [rels_length hy]
  exact rels_append (rels_append (rels_take hc off) hy) (rels_drop hc _)

theorem build_fill {T : Sh} (hf : rels S fr T a.tmps.toList) (place : Nat → Option (Nat × Nat)) : ∀ (parts : List (Nat × Operand)) (ps : List (Nat × Nat × AX)) (z r : List AV) (cells : Array Value),
    (∀ u ∈ cells.toList, u.oneCell' = true) → rels S z T cells.toList →
    All2 (fun (p : Nat × Operand) (q : Nat × Nat × AX) => place p.1 = some (q.1, q.2.1) ∧ rx p.2 = some q.2.2) parts ps → buildA fr z ps = some r →
    ∃ cells', Instr.fill place cells (parts.map fun p => (p.1, a.eval p.2)) = some cells' ∧ rels S r T cells'.toList ∧ ∀ u ∈ cells'.toList, u.oneCell' = true
  | [], ps, z, r, cells, h1, hz, hp, hb => by
    cases hp
    simp only [buildA, Option.some.injEq] at hb
    subst hb
    exact ⟨cells, rfl, hz, h1⟩
  | p :: parts, ps, z, r, cells, h1, hz, hp, hb => by
    cases hp with
    | cons hpq hp =>
      rename_i q ps
      obtain ⟨off, n, x⟩ := q
      obtain ⟨hpl, hx⟩ := hpq
      simp only at hpl hx
      simp only [buildA] at hb
      split at hb
      · rename_i hc
        rw [lenL_eq] at hc
        cases hs : splL z off (cellsOf (ev fr x)) with
        | none => rw [hs] at hb; cases hb
        | some z' =>
          rw [hs] at hb
          have gx := rx_rel hf hx
          obtain ⟨g1, g2⟩ := cellsOf_rel gx hc.2
          have hsz := cells_size gx hc.2
          obtain ⟨hle, _⟩ := splL_eq _ _ _ _ hs
          have hle' : off + (a.eval p.2).cells.size ≤ cells.size := by
            have := rels_length hz
            simp at this
            omega
          have hfold := foldl_set_arr (a.eval p.2).cells off cells hle'
          have hr := rels_spl hz g1 hs
          have hlen : (a.eval p.2).cells.toList.length = (a.eval p.2).cells.size := by simp
          rw [hlen, ← hfold] at hr
          obtain ⟨c', k1, k2, k3⟩ := build_fill hf place parts ps z' r _ (by
            rw [hfold]
            intro u hu
            rcases List.mem_append.1 hu with hu | hu
            · rcases List.mem_append.1 hu with hu | hu
              · exact h1 u (List.mem_of_mem_take hu)
              · exact g2 u hu
            · exact h1 u (List.mem_of_mem_drop hu)) hr hp hb
          refine ⟨c', ?_, k2, k3⟩
          simp only [List.map_cons, Instr.fill, hpl]
          rw [if_neg]
          · exact k1
          · simp only [ne_eq, Bool.or_eq_true, decide_eq_true_eq, not_or, Decidable.not_not, gt_iff_lt, Nat.not_lt]
            exact ⟨by have := hc.1; omega, hle'⟩
      · cases hb

theorem op_build {t : TypeId} {parts : Array (Nat × Operand)} (ho : o.op = .build t parts) (hf : rels S fr (shape H) a.tmps.toList) (h : WRel S H w) {z : List AV} (hz : zeroOf P t = some z) {fs : Array Field} (hu : P.underlying t = some (.struct fs))
    {ps : List (Nat × Nat × AX)} (hfs : ∀ f ∈ fs.toList, ∃ n, szOf P f.type = some n)
    (hps : All2 (fun (p : Nat × Operand) (q : Nat × Nat × AX) => (∃ f, fs[p.1]? = some f ∧ q.1 = f.offset ∧ szOf P f.type = some q.2.1) ∧ rx p.2 = some q.2.2) parts.toList ps)
    (hs : sat arS P H (exec1 arS σr fr H (.build z ps)) K) : opRes P o a w (Done S H K) := by
  simp only [exec1] at hs
  split at hs
  · rename_i h1
    obtain ⟨v, hb, hK⟩ := sat_okO hs
    obtain ⟨r, hb', rfl⟩ := Option.map_eq_some_iff.1 hb
    obtain ⟨i, zv, hi, hzv, hc⟩ := zeroOf_spec hz
    have hzr := cvs_rel (S := S) (T := shape H) _ _ hc
    -- the places
    have hpl : ∃ pl : Array (Nat × Nat), (fs.mapM (fun f => do pure (f.offset, ← sizeOf f.type)) : Sem _).run P w = .ok pl w ∧ ∀ (i : Nat) (f : Field) (n : Nat), fs[i]? = some f → szOf P f.type = some n → pl[i]? = some (f.offset, n) := by
      have key : ∀ l : List Field, (∀ f ∈ l, ∃ n, szOf P f.type = some n) → ∃ pl : List (Nat × Nat), (l.mapM (fun f => do pure (f.offset, ← sizeOf f.type)) : Sem _).run P w = .ok pl w ∧ ∀ (i : Nat) (f : Field) (n : Nat), l[i]? = some f → szOf P f.type = some n → pl[i]? = some (f.offset, n) := by
        intro l
        induction l with
        | nil => intro _; exact ⟨[], by simp, fun i f n hi => by simp at hi⟩
        | cons f l ih =>
          intro hl
          obtain ⟨n, hn⟩ := hl f (by simp)
          obtain ⟨pl, g1, g2⟩ := ih (fun f' hf' => hl f' (by simp [hf']))
          refine ⟨(f.offset, n) :: pl, ?_, fun i f' n' hi hn' => ?_⟩
          · simp only [List.mapM_cons, Sem.run_bind, run_szOf hn, Result.andThen_ok, Sem.run_pure, g1]
          · cases i with
            | zero => simp at hi; subst hi; rw [hn] at hn'; injection hn' with hn'; subst hn'; simp
            | succ i => simp at hi; simpa using g2 i f' n' hi hn'
      obtain ⟨pl, g1, g2⟩ := key fs.toList hfs
      refine ⟨pl.toArray, ?_, fun i f n hi hn => by simpa using g2 i f n (by simpa using hi) hn⟩
      rw [Array.mapM_eq_mapM_toList, Sem.run_map, g1]
      rfl
    obtain ⟨pl, hpl1, hpl2⟩ := hpl
    obtain ⟨cells', k1, k2, k3⟩ := build_fill hf (pl[·]?) parts.toList ps z r zv.cells (rels_one hzr h1) hzr
      (by
        refine All2.imp (fun p q ⟨⟨f, e1, e2, e3⟩, e4⟩ => ⟨?_, e4⟩) hps
        rw [hpl2 p.1 f q.2.1 e1 e3, e2]) hb'
    have hex : execOp a.eval o = (do pure (.value (← Instr.build t (parts.map fun (i, x) => (i, a.eval x))))) := by simp only [execOp, ho]
    refine op_of_run (u := .agg cells') hex ?_ h (by simp only [rel]; exact ⟨_, rfl, k2, k3⟩) hK
    have hparts : (parts.map fun (i, x) => (i, a.eval x)).toList = parts.toList.map fun p => (p.1, a.eval p.2) := by simp
    simp only [Instr.build, Sem.run_bind, run_zero hi hzv, Result.andThen_ok, run_underlying hu, hpl1, hparts, k1, Sem.run_pure]
  · exact False.elim hs

/-! ### literals -/
theorem lit_fill {T : Sh} (hf : rels S fr T a.tmps.toList) (sz : Nat) (n : Nat) : ∀ (parts : List (Nat × Operand)) (ps : List (Nat × AX)) (rows rows' : List (List AV)) (cells : Array Value),
    cells.size = n * sz → rows.length = n → RowRel S T sz rows cells →
    All2 (fun (p : Nat × Operand) (q : Nat × AX) => p.1 = q.1 ∧ rx p.2 = some q.2) parts ps → litA fr sz rows ps = some rows' →
    ∃ cells', Instr.fill (fun i => some (i * sz, sz)) cells (parts.map fun p => (p.1, a.eval p.2)) = some cells' ∧ cells'.size = n * sz ∧ rows'.length = n ∧ RowRel S T sz rows' cells'
  | [], ps, rows, rows', cells, h1, hl, hz, hp, hb => by
    cases hp
    simp only [litA, Option.some.injEq] at hb
    subst hb
    exact ⟨cells, rfl, h1, hl, hz⟩
  | p :: parts, ps, rows, rows', cells, h1, hl, hz, hp, hb => by
    cases hp with
    | cons hpq hp =>
      rename_i q ps
      obtain ⟨i, x⟩ := q
      obtain ⟨hpl, hx⟩ := hpq
      simp only at hpl hx
      simp only [litA] at hb
      split at hb
      · rename_i hc
        rw [lenL_eq, lenL_eq] at hc
        obtain ⟨c1, c2, c3⟩ := hc
        have gx := rx_rel hf hx
        obtain ⟨g1, g2⟩ := cellsOf_rel gx c2
        have hsz := cells_size gx c2
        have hmul : i * sz + sz ≤ n * sz := by rw [← Nat.succ_mul]; exact Nat.mul_le_mul_right _ (by omega)
        have hle' : i * sz + (a.eval p.2).cells.size ≤ cells.size := by omega
        have hfold := foldl_set_arr (a.eval p.2).cells (i * sz) cells hle'
        have hsize : ((a.eval p.2).cells.zipIdx.foldl (fun cs (c, j) => cs.setIfInBounds (i * sz + j) c) cells).size = n * sz := by
          rw [← Array.length_toList, hfold]
          simp
          omega
        have hget : ∀ k : Nat, ((a.eval p.2).cells.zipIdx.foldl (fun cs (c, j) => cs.setIfInBounds (i * sz + j) c) cells)[k]? = if k < i * sz then cells[k]? else if k < i * sz + sz then (a.eval p.2).cells[k - i * sz]? else cells[k]? := by
          intro k
          rw [← Array.getElem?_toList, hfold]
          by_cases hk : k < i * sz
          · rw [if_pos hk, List.append_assoc, List.getElem?_append_left (by simp; omega), List.getElem?_take, if_pos hk]; simp
          · rw [if_neg hk]
            by_cases hk2 : k < i * sz + sz
            · rw [if_pos hk2, List.getElem?_append_left (by simp; omega), List.getElem?_append_right (by simp; omega)]
              simp only [List.length_take, Array.length_toList]
              rw [show min (i * sz) cells.size = i * sz by omega]; simp
            · rw [if_neg hk2, List.getElem?_append_right (by simp; omega), List.getElem?_drop]
              simp only [List.length_append, List.length_take, Array.length_toList]
              rw [Array.getElem?_toList]
              congr 1
              omega
        obtain ⟨c', k1, k2, k3, k4⟩ := lit_fill hf sz n parts ps _ rows' _ hsize (by rw [setL_eq]; simpa using hl) (fun i' r' hr' => by
          rw [setL_eq, List.getElem?_set] at hr'
          split at hr'
          · rename_i hii
            subst hii
            injection hr' with hr'
            subst hr'
            refine ⟨c1, fun j c hj => ?_⟩
            obtain ⟨u, m1, m2⟩ := rels_get g1 hj
            have hjlt : j < sz := by rw [← c1]; exact (List.getElem?_eq_some_iff.1 hj).1
            refine ⟨u, ?_, m2, g2 u (List.mem_of_getElem? m1)⟩
            rw [hget, if_neg (by omega), if_pos (by omega), show i * sz + j - i * sz = j by omega]
            rwa [Array.getElem?_toList] at m1
          · rename_i hii
            obtain ⟨m1, m2⟩ := hz i' r' hr'
            refine ⟨m1, fun j c hj => ?_⟩
            obtain ⟨u, q1, q2⟩ := m2 j c hj
            have hjlt : j < sz := by rw [← m1]; exact (List.getElem?_eq_some_iff.1 hj).1
            refine ⟨u, ?_, q2⟩
            rw [hget]
            rcases Nat.lt_or_gt_of_ne hii with hlt | hgt
            · have : i * sz + sz ≤ i' * sz := by rw [← Nat.succ_mul]; exact Nat.mul_le_mul_right _ hlt
              rw [if_neg (by omega), if_neg (by omega)]; exact q1
            · have : i' * sz + sz ≤ i * sz := by rw [← Nat.succ_mul]; exact Nat.mul_le_mul_right _ hgt
              rw [if_pos (by omega)]; exact q1) hp hb
        refine ⟨c', ?_, k2, k3, k4⟩
        simp only [List.map_cons, Instr.fill, hpl]
        rw [if_neg]
        · exact k1
        · simp only [ne_eq, Bool.or_eq_true, decide_eq_true_eq, not_or, Decidable.not_not, gt_iff_lt, Nat.not_lt]
          exact ⟨by omega, hle'⟩
      · cases hb
end

mutual
theorem pur_rel {S : RS} {T : Sh} : ∀ (c : AV) (v : Value), pur c = true → rel S c T v → rel S c noSh v
  | .int .., _, _, h => h
  | .bool .., _, _, h => h
  | .sb .., _, _, h => h
  | .str .., _, _, h => h
  | .nilp, _, _, h => h
  | .nils, _, _, h => h
  | .nilf, _, _, h => h
  | .nili, _, _, h => h
  | .nilm, _, _, h => h
  | .junk, _, _, _ => trivial
  | .ptr .., _, h, _ => by simp [pur] at h
  | .bptr .., _, h, _ => by simp [pur] at h
  | .sl .., _, h, _ => by simp [pur] at h
  | .map _, _, h, _ => by simp [pur] at h
  | .iptr _, _, _, h => by simpa only [rel] using h
  | .inl .., _, _, h => by simpa only [rel] using h
  | .fn f fi ca, v, hp, h => by
    simp only [rel] at h ⊢
    simp only [pur, Bool.and_eq_true] at hp
    obtain ⟨a, b, h1, h2, h3⟩ := h
    exact ⟨a, b, h1, purs_rel fi _ hp.1 h2, purs_rel ca _ hp.2 h3⟩
  | .iface t x, v, hp, h => by
    simp only [rel] at h ⊢
    simp only [pur] at hp
    obtain ⟨u, h1, h2⟩ := h
    exact ⟨u, h1, pur_rel x u hp h2⟩
  | .agg cs, v, hp, h => by
    simp only [rel] at h ⊢
    simp only [pur] at hp
    obtain ⟨us, h1, h2, h3⟩ := h
    exact ⟨us, h1, purs_rel cs _ hp h2, h3⟩
  | .tup cs, v, hp, h => by
    simp only [rel] at h ⊢
    simp only [pur] at hp
    obtain ⟨us, h1, h2⟩ := h
    exact ⟨us, h1, purs_rel cs _ hp h2⟩
theorem purs_rel {S : RS} {T : Sh} : ∀ (cs : List AV) (vs : List Value), purs cs = true → rels S cs T vs → rels S cs noSh vs
  | [], _, _, h => h
  | c :: cs, vs, hp, h => by
    simp only [rels] at h ⊢
    simp only [purs, Bool.and_eq_true] at hp
    obtain ⟨v, vs', h1, h2, h3⟩ := h
    exact ⟨v, vs', h1, pur_rel c v hp.1 h2, purs_rel cs vs' hp.2 h3⟩
end

/-- A new block that is frozen at once. -/
def RS.frozenNew (S : RS) (B : Nat) (arr : Array Value) : RS := { S with φ := fun B' o => if B' = B then arr[o]? else S.φ B' o }

theorem WRel.frozen_new {S : RS} {H : List ABlk} {w : World} (h : WRel S H w) (arr : Array Value) (e : TypeId) : WRel (S.frozenNew w.heap.size arr) H (w.alloc (.cells arr e)) ∧ Ext S (shape H) (S.frozenNew w.heap.size arr) (shape H) := by
  have hext : Ext S (shape H) (S.frozenNew w.heap.size arr) (shape H) :=
    ⟨rfl, rfl, fun B o v hv => by
      have := World.block_lt_of_cell? w _ (h.fro _ _ _ hv)
      simp only at this
      simp only [RS.frozenNew]
      rw [if_neg (by omega)]
      exact hv, fun B o v hv => by
      simp only [RS.frozenNew] at hv
      split at hv
      · rename_i hB
        refine .inr fun hd => ?_
        have := (h.prot _ hd).1
        have := h.size
        omega
      · exact .inl hv, fun _ _ h => ⟨h, rfl⟩, fun _ h => ⟨h, rfl⟩, fun _ m _ h => ⟨m, h, Nat.le_refl _, fun _ => rfl⟩⟩
  refine ⟨h.step hext (fun _ => False) (fun _ => False) (Chg.alloc w _ _) (fun _ _ h => h.elim) (fun B o v hv => ?_) (old := fun _ _ hb _ => ⟨hb, rfl, fun _ _ _ _ h => h⟩)
    (new := fun _ _ _ h => h.elim) (inj := fun _ _ _ _ _ _ _ _ _ _ _ _ _ h => h.elim), hext⟩
  simp only [RS.frozenNew] at hv
  split at hv
  · rename_i hB
    subst hB
    exact .inr ⟨by rw [World.cell?_alloc_new]; exact hv, Nat.le_refl _⟩
  · exact .inl hv

theorem pursS_get : ∀ {rows : List (List AV)} {i : Nat} {r : List AV}, pursS rows = true → rows[i]? = some r → purs r = true
  | [], i, r, _, h => by simp at h
  | r0 :: rows, i, r, h0, h => by
    simp only [pursS, Bool.and_eq_true] at h0
    cases i with
    | zero => simp at h; subst h; exact h0.1
    | succ i => simp at h; exact pursS_get h0.2 h

theorem purs_get : ∀ {cs : List AV} {i : Nat} {c : AV}, purs cs = true → cs[i]? = some c → pur c = true
  | [], i, c, _, h => by simp at h
  | c0 :: cs, i, c, h0, h => by
    simp only [purs, Bool.and_eq_true] at h0
    cases i with
    | zero => simp at h; subst h; exact h0.1
    | succ i => simp at h; exact purs_get h0.2 h

section
variable {P : Program} {S : RS} {H : List ABlk} {fr : List AV} {K : AV → List ABlk → Prop} {o : Oper} {a : Act} {w : World}

theorem op_lit {t e : TypeId} {n : Nat} {parts : Array (Nat × Operand)} (ho : o.op = .buildSlice t n parts) (hf : rels S fr (shape H) a.tmps.toList) (h : WRel S H w) (hu : P.underlying t = some (.slice e)) {sz : Nat} (hsz : szOf P e = some sz) {z : List AV} (hz : zeroOf P e = some z)
    (hzl : z.length = sz) (h0 : 0 < sz) (hlim : n * sz ≤ 2 ^ 24) {ps : List (Nat × AX)} (hps : All2 (fun (p : Nat × Operand) (q : Nat × AX) => p.1 = q.1 ∧ rx p.2 = some q.2) parts.toList ps)
    (hs : sat arS P H (exec1 arS σr fr H (.lit e sz n z ps)) K) : opRes P o a w (Done S H K) := by
  simp only [exec1] at hs
  split at hs
  · rename_i h1
    rw [repL_eq] at hs
    cases hl : litA fr sz (List.replicate n z) ps with
    | none => rw [hl] at hs; exact False.elim hs
    | some rows =>
      rw [hl] at hs
      simp only at hs
      obtain ⟨i, zv, hi, hzv, hc⟩ := zeroOf_spec hz
      have hzr := cvs_rel (S := S) (T := shape H) _ _ hc
      have hzsz : zv.cells.size = sz := by have := rels_length hzr; simp at this; omega
      have hex : execOp a.eval o = (do pure (.value (← Instr.buildSlice t n (parts.map fun (i, x) => (i, a.eval x))))) := by simp only [execOp, ho]
      have hparts : (parts.map fun (i, x) => (i, a.eval x)).toList = parts.toList.map fun p => (p.1, a.eval p.2) := by simp
      obtain ⟨init, hinit, hisz, hirow⟩ : ∃ init : Array Value, init = (if n * sz = 0 then #[] else (Array.range (n * sz)).map (zv.cells[· % zv.cells.size]!)) ∧ init.size = n * sz ∧ RowRel S (shape H) sz (List.replicate n z) init := by
        refine ⟨_, rfl, ?_, ?_⟩
        · split
          · rename_i hh; simp [hh]
          · simp
        · intro i r hr
          rw [List.getElem?_replicate] at hr
          split at hr
          · rename_i hin
            injection hr with hr
            subst hr
            refine ⟨hzl, fun j c hj => ?_⟩
            obtain ⟨u, g1, g2⟩ := rels_get hzr hj
            have hjlt : j < sz := by rw [← hzl]; exact (List.getElem?_eq_some_iff.1 hj).1
            refine ⟨u, ?_, g2, rels_one hzr h1 u (List.mem_of_getElem? g1)⟩
            have hmul : i * sz + sz ≤ n * sz := by rw [← Nat.succ_mul]; exact Nat.mul_le_mul_right _ (by omega)
            rw [if_neg (by omega)]
            rw [Array.getElem?_toList] at g1
            rw [Array.getElem?_map, Array.getElem?_range, if_pos (by omega)]
            simp only [Option.map_some, Option.some.injEq, hzsz]
            rw [show (i * sz + j) % sz = j by rw [Nat.mul_comm, Nat.mul_add_mod]; exact Nat.mod_eq_of_lt hjlt]
            obtain ⟨hlt, he⟩ := Array.getElem?_eq_some_iff.1 g1
            rw [getElem!_pos zv.cells j hlt, he]
          · cases hr
      obtain ⟨cells', k1, k2, k3, k4⟩ := lit_fill hf sz n parts.toList ps (List.replicate n z) rows init hisz (by simp) hirow hps hl
      have hrun : (Instr.buildSlice t n (parts.map fun (i, x) => (i, a.eval x))).run P w = .ok (.slice (some ⟨w.heap.size, 0, none⟩) n n) (w.alloc (.cells cells' e)) := by
        by_cases hh : n * sz = 0
        · rw [if_pos hh] at hinit
          simp only [Instr.buildSlice, Sem.run_bind, run_underlying hu, Result.andThen_ok, run_szOf hsz]
          rw [if_neg (by omega), if_pos hh]
          simp only [Sem.run_bind, Sem.run_pure, Result.andThen_ok]
          have : (Array.range (n * sz)).map ((#[] : Array Value)[· % (#[] : Array Value).size]!) = init := by rw [hinit, hh]; simp
          rw [hparts, this, k1]
          simp [newRow]
        · rw [if_neg hh] at hinit
          simp only [Instr.buildSlice, Sem.run_bind, run_underlying hu, Result.andThen_ok, run_szOf hsz]
          rw [if_neg (by omega), if_neg hh]
          simp only [Sem.run_bind, run_zero hi hzv, Sem.run_pure, Result.andThen_ok]
          rw [hparts, ← hinit, k1]
          simp [newRow]
      split at hs
      · rename_i hn
        subst hn
        refine ?_
        unfold opRes
        rw [hex]
        simp only [Sem.run_bind, hrun, Result.andThen_ok, Sem.run_pure]
        exact ⟨S, .nils, H, Ext.refl _ _, h.alloc _, by simp only [rel]; exact ⟨_, rfl⟩, hs⟩
      · rename_i hn
        split at hs
        · rename_i hpur
          obtain ⟨w1, w2⟩ := h.frozen_new cells' e
          unfold opRes
          rw [hex]
          simp only [Sem.run_bind, hrun, Result.andThen_ok, Sem.run_pure]
          refine ⟨_, _, H, w2, w1, ?_, hs⟩
          simp only [rel]
          refine ⟨_, n, by rw [k3], by omega, .inr ⟨w.heap.size, 0, rfl, fzs_of_get fun i r hr => ?_⟩⟩
          obtain ⟨m1, m2⟩ := k4 i r hr
          refine ⟨m1, fz_of_get fun j c hj => ?_⟩
          obtain ⟨u, q1, q2, q3⟩ := m2 j c hj
          refine ⟨u, by simpa [RS.frozenNew] using q1, ?_, q3⟩
          exact pur_rel c u (purs_get (pursS_get hpur hr) hj) (rel_ext _ _ _ _ w2 q2)
        · have hs' : K (.sl H.length n 0 n) (H ++ [.arr e sz rows]) := by
            rw [lenL_eq, appL_eq] at hs
            exact hs
          obtain ⟨w1, w2⟩ := h.arr_new e sz rows n h0 (Chg.alloc w (.cells cells' e) _) (heap_alloc_new w _) k2 (by omega) k4
          unfold opRes
          rw [hex]
          simp only [Sem.run_bind, hrun, Result.andThen_ok, Sem.run_pure]
          refine ⟨_, _, _, w2, w1, ?_, hs'⟩
          simp only [rel]
          refine ⟨_, _, by rw [shape_last]; rfl, by omega, rfl, fun ht => ⟨by omega, ?_⟩⟩
          rw [put_same]
          exact ⟨some ⟨w.heap.size, 0, none⟩, by simp, fun _ => by simp⟩
  · exact False.elim hs

end
end Go.Ab
