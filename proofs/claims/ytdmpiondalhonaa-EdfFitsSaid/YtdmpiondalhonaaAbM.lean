/- Each operation of the abstract machine is what the model does: makes and appends. -/
import Derived.Test.YtdmpiondalhonaaAbL
namespace Go.Ab
open Go
set_option linter.unusedVariables false
set_option linter.unusedSimpArgs false
variable {σr : RowF}

section
variable {P : Program} {S : RS} {H : List ABlk} {fr : List AV} {K : AV → List ABlk → Prop} {o : Oper} {a : Act} {w : World}

theorem replicate_row {T : Sh} {z : List AV} {zv : Array Value} {sz c l : Nat} (hz : rels S z T zv.toList) (h1 : ∀ u ∈ zv.toList, u.oneCell' = true) (hs : zv.size = sz) (h0 : 0 < sz) (hl : l ≤ c) :
    RowRel S T sz (List.replicate l z) ((Array.range (c * sz)).map (zv[· % zv.size]!)) := by
  intro i r hr
  rw [List.getElem?_replicate] at hr
  split at hr
  · rename_i hin
    injection hr with hr
    subst hr
    have hzl := rels_length hz
    simp at hzl
    refine ⟨by omega, fun j c' hj => ?_⟩
    obtain ⟨u, g1, g2⟩ := rels_get hz hj
    have hjlt : j < sz := by have := (List.getElem?_eq_some_iff.1 hj).1; omega
    refine ⟨u, ?_, g2, h1 u (List.mem_of_getElem? g1)⟩
    have hmul : i * sz + sz ≤ c * sz := by rw [← Nat.succ_mul]; exact Nat.mul_le_mul_right _ (by omega)
    rw [Array.getElem?_toList] at g1
    rw [Array.getElem?_map, Array.getElem?_range, if_pos (by omega)]
    simp only [Option.map_some, Option.some.injEq, hs]
    rw [show (i * sz + j) % sz = j by rw [Nat.mul_comm, Nat.mul_add_mod]; exact Nat.mod_eq_of_lt hjlt]
    obtain ⟨hlt, he⟩ := Array.getElem?_eq_some_iff.1 g1
    rw [getElem!_pos zv j hlt, he]
  · cases hr

theorem op_mks {t e : TypeId} {x y : Operand} (ho : o.op = .makeSlice t x y) (hf : rels S fr (shape H) a.tmps.toList) (h : WRel S H w) {ax ay : AX} (hx : rx x = some ax) (hy : rx y = some ay) (hu : P.underlying t = some (.slice e)) {i : TypeInfo} (hi : P.info? e = some i) {z : List AV} (hz : zeroOf P e = some z)
    (hsz : i.size = z.length) (h0 : 0 < i.size) (hs : sat arS P H (exec1 arS σr fr H (.mks e i.size i.bytes z ax ay)) K) : opRes P o a w (Done S H K) := by
  have gx := rx_rel hf hx
  have gy := rx_rel hf hy
  simp only [exec1] at hs
  generalize ev fr ax = vx at *
  generalize ev fr ay = vy at *
  have hex : execOp a.eval o = (do pure (.value (← Instr.makeSlice t (a.eval x) (a.eval y)))) := by simp only [execOp, ho]
  split at hs
  · rename_i l c
    split at hs
    · rename_i h1
      obtain ⟨⟨l0, lc, cm, cb⟩, hs⟩ := hs
      have l0 : 0 ≤ l := l0
      have lc : l ≤ c := lc
      have cm : c ≤ 140737488355328 := cm
      have cb : c * (i.bytes : Int) ≤ 140737488355328 := cb
      simp only [rel] at gx gy
      obtain ⟨i', zv, hi', hzv, hc⟩ := zeroOf_spec hz
      rw [hi] at hi'
      injection hi' with hi'
      subst hi'
      have hzr := cvs_rel (S := S) (T := shape H) _ _ hc
      have hzsz : zv.cells.size = i.size := by have := rels_length hzr; simp at this; omega
      have hrow := replicate_row (c := c.toNat) (l := l.toNat) hzr (rels_one hzr h1) hzsz h0 (by omega)
      have hbig : ¬ ((281474976710656 : Int) < i.bytes * c) := by rw [Int.mul_comm]; omega
      have hrun : (Instr.makeSlice t (a.eval x) (a.eval y)).run P w = .ok (.slice (some ⟨w.heap.size, 0, none⟩) l.toNat c.toNat) (w.alloc (.cells ((Array.range (c.toNat * i.size)).map (zv.cells[· % zv.cells.size]!)) e)) := by
        rw [gx, gy]
        exact run_make w t e i zv hu hi hzv .i64 .i64 l c l0 lc (by omega) (by omega)
      have hs' : K (.sl H.length l.toNat 0 l.toNat) (H ++ [.arr e i.size (List.replicate l.toNat z)]) := by
        rw [lenL_eq, appL_eq] at hs
        exact hs
      obtain ⟨w1, w2⟩ := h.arr_new e i.size (List.replicate l.toNat z) c.toNat h0 (Chg.alloc w (.cells ((Array.range (c.toNat * i.size)).map (zv.cells[· % zv.cells.size]!)) e) _) (heap_alloc_new w _) (by simp) (by simp; omega) hrow
      unfold opRes
      rw [hex]
      simp only [Sem.run_bind, hrun, Result.andThen_ok, Sem.run_pure]
      refine ⟨_, _, _, w2, w1, ?_, hs'⟩
      simp only [rel]
      refine ⟨_, _, by rw [shape_last]; rfl, by simp, rfl, fun ht => ⟨by simp, ?_⟩⟩
      rw [put_same]
      exact ⟨some ⟨w.heap.size, 0, none⟩, by simp, fun _ => by simp⟩
    · exact False.elim hs
  · exact False.elim hs

/-- The rows of a slice that is read whole: where they lie. -/
structure Src (S : RS) (T : Sh) (w : World) (u : Value) (new : List (List AV)) (sz : Nat) (vals : List Value) : Prop where
  sl : ∃ a c, u = .slice a new.length c ∧ (new.length ≠ 0 → ∃ ad, a = some ad ∧ ∀ (j : Nat) (v : Value), vals[j]? = some v → w.cell? (ad.add j) = some v)
  len : vals.length = new.length * sz
  row : ∀ (i : Nat) (r : List AV), new[i]? = some r → r.length = sz ∧ ∀ (j : Nat) (c : AV), r[j]? = some c → ∃ v, vals[i * sz + j]? = some v ∧ rel S c T v
  one : ∀ v ∈ vals, v.oneCell' = true

theorem exists_list {n : Nat} {Q : Nat → Value → Prop} (h : ∀ j, j < n → ∃ v, Q j v) : ∃ l : List Value, l.length = n ∧ ∀ (j : Nat) (v : Value), l[j]? = some v → Q j v := by
  induction n with
  | zero => exact ⟨[], rfl, fun j v hj => by simp at hj⟩
  | succ n ih =>
    obtain ⟨l, h1, h2⟩ := ih (fun j hj => h j (by omega))
    obtain ⟨v, hv⟩ := h n (by omega)
    refine ⟨l ++ [v], by simp [h1], fun j u hj => ?_⟩
    rcases Nat.lt_or_ge j n with hlt | hge
    · rw [List.getElem?_append_left (by omega)] at hj
      exact h2 j u hj
    · rw [List.getElem?_append_right (by omega)] at hj
      have : j = n := by
        rcases Nat.eq_or_lt_of_le hge with e | hlt
        · exact e.symm
        · rw [List.getElem?_eq_none (by simp; omega)] at hj; cases hj
      subst this
      simp [h1] at hj
      subst hj
      exact hv

/-- Rows whose cells lie one behind the other. -/
theorem src_of {T : Sh} {u : Value} {new : List (List AV)} {sz : Nat} {a : Option Addr} {c : Nat} (h0 : 0 < sz) (hu : u = .slice a new.length c) (hrow : ∀ (i : Nat) (r : List AV), new[i]? = some r → r.length = sz)
    (hcell : new.length ≠ 0 → ∃ ad, a = some ad ∧ ∀ (i : Nat) (r : List AV), new[i]? = some r → ∀ (j : Nat) (c : AV), r[j]? = some c → ∃ v, w.cell? (ad.add (i * sz + j)) = some v ∧ rel S c T v ∧ v.oneCell' = true) : ∃ vals, Src S T w u new sz vals := by
  rcases Nat.eq_zero_or_pos new.length with hn | hn
  · refine ⟨[], ⟨a, c, hu, fun h => absurd hn h⟩, by simp [hn], fun i r hi => ?_, fun v hv => by simp at hv⟩
    rw [List.eq_nil_of_length_eq_zero hn] at hi
    simp at hi
  · obtain ⟨ad, ha, hc⟩ := hcell (by omega)
    obtain ⟨vals, q1, q2⟩ := exists_list (n := new.length * sz) (Q := fun k v => w.cell? (ad.add k) = some v ∧ v.oneCell' = true ∧ ∀ (i : Nat) (r : List AV) (j : Nat) (c : AV), new[i]? = some r → r[j]? = some c → k = i * sz + j → rel S c T v) (by
      intro k hk
      have hi : k / sz < new.length := by rw [Nat.div_lt_iff_lt_mul h0]; exact hk
      have hj : k % sz < sz := Nat.mod_lt _ h0
      have hr := hrow (k / sz) new[k / sz] (by simp [hi])
      obtain ⟨v, r1, r2, r3⟩ := hc (k / sz) new[k / sz] (by simp [hi]) (k % sz) (new[k / sz])[k % sz] (by simp)
      rw [show k / sz * sz + k % sz = k by rw [Nat.mul_comm]; exact Nat.div_add_mod k sz] at r1
      refine ⟨v, r1, r3, fun i r j c' hi' hj' hk' => ?_⟩
      have hjlt : j < sz := by rw [← hrow i r hi']; exact (List.getElem?_eq_some_iff.1 hj').1
      have e1 : k / sz = i := by rw [hk', Nat.mul_comm, Nat.mul_add_div h0, Nat.div_eq_of_lt hjlt]; omega
      have e2 : k % sz = j := by rw [hk', Nat.mul_comm, Nat.mul_add_mod, Nat.mod_eq_of_lt hjlt]
      have e3 : (new[k / sz])[k % sz] = c' := by
        have e4 : new[k / sz] = r := by
          have : new[k / sz]? = some r := by rw [e1]; exact hi'
          simpa [hi] using this
        have h5 : k % sz < (new[k / sz]).length := by rw [hr]; exact hj
        have h6 : (new[k / sz])[k % sz]? = some c' := by rw [e4, e2]; exact hj'
        rw [List.getElem?_eq_getElem h5] at h6
        exact Option.some.inj h6
      rw [← e3]
      exact r2)
    refine ⟨vals, ⟨a, c, hu, fun _ => ⟨ad, ha, fun j v hj => (q2 j v hj).1⟩⟩, q1, fun i r hi => ⟨hrow i r hi, fun j c' hj => ?_⟩, fun v hv => ?_⟩
    · have hjlt : j < sz := by rw [← hrow i r hi]; exact (List.getElem?_eq_some_iff.1 hj).1
      have hilt : i < new.length := (List.getElem?_eq_some_iff.1 hi).1
      have hlt : i * sz + j < vals.length := by
        rw [q1]
        have : i * sz + sz ≤ new.length * sz := by rw [← Nat.succ_mul]; exact Nat.mul_le_mul_right _ (by omega)
        omega
      exact ⟨vals[i * sz + j], by simp [hlt], (q2 (i * sz + j) vals[i * sz + j] (by simp [hlt])).2.2 i r j c' hi hj rfl⟩
    · obtain ⟨j, hj⟩ := List.getElem?_of_mem hv
      exact (q2 j v hj).2.1

theorem rowsOf_sat {x : AV} {k : List (List AV) → Out} {sz : Nat} {u : Value} (h0 : 0 < sz) (h : WRel S H w) (hx : rel S x (shape H) u) (hs : sat arS P H (rowsOf arS H x k sz) K) : ∃ new vals, Src S (shape H) w u new sz vals ∧ sat arS P H (k new) K := by
  cases x <;> simp only [rowsOf] at hs <;> first | exact False.elim hs | skip
  case nils =>
    simp only [rel] at hx
    obtain ⟨a, hx⟩ := hx
    obtain ⟨vals, hv⟩ := src_of (S := S) (T := shape H) (w := w) (new := []) h0 hx (fun i r hi => by simp at hi) (fun h => absurd rfl h)
    exact ⟨[], vals, hv, hs⟩
  case inl sz' rows =>
    simp only [rel] at hx
    obtain ⟨a, c, hu, hc, hr⟩ := hx
    split at hs
    · rename_i hz
      subst hz
      obtain ⟨vals, hv⟩ := src_of (S := S) (T := shape H) (w := w) (new := rows) h0 hu (fun i r hi => by
        rcases hr with rfl | ⟨B, o, _, hr⟩
        · simp at hi
        · exact (fzs_get hr hi).1) (fun hn => by
        rcases hr with rfl | ⟨B, o, ha, hr⟩
        · exact absurd rfl hn
        · refine ⟨_, ha, fun i r hi j c hj => ?_⟩
          obtain ⟨v, q1, q2, q3⟩ := fz_get (fzs_get hr hi).2 hj
          exact ⟨v, by rw [Addr.add_lit, ← Nat.add_assoc]; exact h.fro _ _ _ q1, rel_noSh q2, q3⟩)
      exact ⟨rows, vals, hv, hs⟩
    · obtain ⟨hn, hs⟩ := hs
      have hn : rows = [] := hn
      subst hn
      obtain ⟨vals, hv⟩ := src_of (S := S) (T := shape H) (w := w) (new := []) h0 hu (fun i r hi => by simp at hi) (fun h => absurd rfl h)
      exact ⟨[], vals, hv, hs⟩
  case sl id t off n =>
    rw [getL_eq] at hs
    cases hb : H[id]? with
    | none => rw [hb] at hs; exact False.elim hs
    | some b =>
      rw [hb] at hs
      cases b <;> first | exact False.elim hs | skip
      rename_i e sz' rows
      simp only at hs
      split at hs
      · rename_i hz
        subst hz
        obtain ⟨⟨ht, hle⟩, hs⟩ := hs
        obtain ⟨v1, v2⟩ := sl_valid hx hb ht
        have hlen : ((rows.drop off).take n).length = n := by simp; omega
        obtain ⟨_, hblk⟩ := h.blk id _ hb
        have hget : ∀ (i : Nat) (r : List AV), ((rows.drop off).take n)[i]? = some r → rows[off + i]? = some r := by
          intro i r hi
          rw [List.getElem?_take] at hi
          split at hi
          · rwa [List.getElem?_drop] at hi
          · cases hi
        cases hr : S.ρ id with
        | none =>
          rw [hr] at v2
          obtain ⟨rfl, aa, hu⟩ := v2
          have hu' : u = .slice aa ((rows.drop off).take 0).length 0 := by rw [hlen]; exact hu
          obtain ⟨vals, hv⟩ := src_of (S := S) (T := shape H) (w := w) (new := (rows.drop off).take 0) h0 hu' (fun i r hi => by simp at hi) (fun h => absurd hlen h)
          exact ⟨_, vals, hv, hs⟩
        | some p =>
          obtain ⟨B, c⟩ := p
          rw [hr] at v2 hblk
          obtain ⟨aa, hu, ha⟩ := v2
          obtain ⟨arr, m1, m2, m3, m4, _⟩ := hblk
          have hu' : u = .slice aa ((rows.drop off).take n).length (c - off) := by rw [hlen]; exact hu
          obtain ⟨vals, hv⟩ := src_of (S := S) (T := shape H) (w := w) (new := (rows.drop off).take n) h0 hu' (fun i r hi => (m4 _ _ (hget i r hi)).1) (fun hn => by
            rw [hlen] at hn
            refine ⟨_, ha (by omega), fun i r hi j c' hj => ?_⟩
            obtain ⟨v, q1, q2, q3⟩ := (m4 _ _ (hget i r hi)).2 j c' hj
            refine ⟨v, ?_, q2, q3⟩
            rw [Addr.add_lit]
            simp only [World.cell?, m1]
            rw [Nat.add_mul] at q1
            simpa [Nat.add_assoc] using q1)
          exact ⟨_, vals, hv, hs⟩
      · exact False.elim hs

/-- Rows over rows. -/
theorem rapp_row {T : Sh} {sz n : Nat} {rows new : List (List AV)} {arr arr' : Array Value} {vals : List Value} {u : Value} (h0 : 0 < sz) (hr : RowRel S T sz rows arr) (hv : Src S T w u new sz vals) (hn : n ≤ rows.length)
    (g1 : ∀ k, k < n * sz → arr'[k]? = arr[k]?) (g2 : ∀ k, k < new.length * sz → arr'[n * sz + k]? = vals[k]?) (g3 : ∀ k, n * sz + new.length * sz ≤ k → k < rows.length * sz → arr'[k]? = arr[k]?) : RowRel S T sz (rappS rows n new) arr' := by
  intro i r hi
  simp only [rappS] at hi
  rcases Nat.lt_or_ge i n with hlt | hge
  · rw [List.append_assoc, List.getElem?_append_left (by simp; omega), List.getElem?_take, if_pos hlt] at hi
    obtain ⟨q1, q2⟩ := hr i r hi
    refine ⟨q1, fun j c hj => ?_⟩
    have hjlt : j < sz := by rw [← q1]; exact (List.getElem?_eq_some_iff.1 hj).1
    have : i * sz + sz ≤ n * sz := by rw [← Nat.succ_mul]; exact Nat.mul_le_mul_right _ hlt
    rw [g1 _ (by omega)]
    exact q2 j c hj
  · rcases Nat.lt_or_ge i (n + new.length) with hlt | hge2
    · rw [List.getElem?_append_left (by simp; omega), List.getElem?_append_right (by simp; omega)] at hi
      simp only [List.length_take] at hi
      rw [show min n rows.length = n by omega] at hi
      obtain ⟨q1, q2⟩ := hv.row _ r hi
      refine ⟨q1, fun j c hj => ?_⟩
      have hjlt : j < sz := by rw [← q1]; exact (List.getElem?_eq_some_iff.1 hj).1
      obtain ⟨v, r1, r2⟩ := q2 j c hj
      have h3 : (i - n) * sz + sz ≤ new.length * sz := by rw [← Nat.succ_mul]; exact Nat.mul_le_mul_right _ (by omega)
      have h4 : i * sz + j = n * sz + ((i - n) * sz + j) := by rw [Nat.sub_mul]; have := Nat.mul_le_mul_right sz hge; omega
      refine ⟨v, ?_, r2, hv.one v (List.mem_of_getElem? r1)⟩
      rw [h4, g2 _ (by omega)]
      exact r1
    · rw [List.getElem?_append_right (by simp; omega), List.getElem?_drop] at hi
      simp only [List.length_append, List.length_take] at hi
      rw [show n + new.length + (i - (min n rows.length + new.length)) = i by omega] at hi
      obtain ⟨q1, q2⟩ := hr i r hi
      refine ⟨q1, fun j c hj => ?_⟩
      have hjlt : j < sz := by rw [← q1]; exact (List.getElem?_eq_some_iff.1 hj).1
      have hilt : i < rows.length := (List.getElem?_eq_some_iff.1 hi).1
      have h3 : (n + new.length) * sz ≤ i * sz := Nat.mul_le_mul_right _ hge2
      have h4 : i * sz + sz ≤ rows.length * sz := by rw [← Nat.succ_mul]; exact Nat.mul_le_mul_right _ hilt
      rw [Nat.add_mul] at h3
      rw [g3 _ (by omega) (by omega)]
      exact q2 j c hj

theorem rapp_len (rows : List (List AV)) (n : Nat) (new : List (List AV)) (hn : n ≤ rows.length) : (rappS rows n new).length = max rows.length (n + new.length) := by
  simp only [rappS, List.length_append, List.length_take, List.length_drop]
  omega

/-- An append of nothing. -/
theorem run_append_zero {t e : TypeId} (ht : P.underlying t = some (.slice e)) {i : TypeInfo} (hi : P.info? e = some i) {ty : TypeId} {base a : Option Addr} {sLen sCap c : Nat} (hle : sLen ≤ sCap) (w : World) :
    (Builtin.append_ #[t, t] ty #[.slice base sLen sCap, .slice a 0 c]).run P w = .ok (.slice base sLen sCap) w := by
  cases a <;> cases base <;> simp [Builtin.append_, run_underlying ht, sizeOf, typeInfo, hi, Builtin.lenOf, hle, Builtin.firstCells, loadCells, loadCellsFrom, storeCells]

theorem op_app {t e : TypeId} {x y : Operand} (ho : o.op = .call { callee := .builtin .append, args := #[x, y], argTypes := #[t, t] }) (hf : rels S fr (shape H) a.tmps.toList) (h : WRel S H w) {ax ay : AX} (hx : rx x = some ax) (hy : rx y = some ay) (hu : P.underlying t = some (.slice e)) {i : TypeInfo} (hi : P.info? e = some i) {z : List AV} (hz : zeroOf P e = some z)
    (hsz : i.size = z.length) (h0 : 0 < i.size) (hs : sat arS P H (exec1 arS σr fr H (.app e i.size i.bytes z ax ay)) K) : opRes P o a w (Done S H K) := by
  have gx := rx_rel hf hx
  have gy := rx_rel hf hy
  simp only [exec1] at hs
  have hs0 := rowsOf_sat h0 h gy hs
  clear hs
  obtain ⟨new, vals, hv, hs⟩ := hs0
  obtain ⟨i', zv, hi', hzv, hc⟩ := zeroOf_spec hz
  rw [hi] at hi'
  injection hi' with hi'
  subst hi'
  have hzr := cvs_rel (S := S) (T := shape H) _ _ hc
  have hzsz : zv.cells.size = i.size := by have := rels_length hzr; simp at this; omega
  generalize ev fr ax = vx at *
  have fin : ∀ (u : Value) (w' : World), (Builtin.append_ #[t, t] o.type #[a.eval x, a.eval y]).run P w = .ok u w' → ∀ S' v H', Ext S (shape H) S' (shape H') → WRel S' H' w' → rel S' v (shape H') u → K v H' → opRes P o a w (Done S H K) := by
    intro u w' hr S' v H' he hw hv hK
    unfold opRes execOp
    simp only [ho, Go.resolve, Go.invoke, Go.builtin, Sem.run_bind, Sem.run_pure, Result.andThen_ok, List.map_toArray, List.map_cons, List.map_nil, hr]
    exact ⟨S', v, H', he, hw, hv, hK⟩
  obtain ⟨ya, yc, hyu, hya⟩ := hv.sl
  have hbytes : ∀ k, k * i.bytes ≤ 140737488355328 → k * i.bytes ≤ 281474976710656 := fun k hk => by omega
  cases vx
  case nils =>
    simp only [appA] at hs
    obtain ⟨⟨n1, n2⟩, hs⟩ := hs
    have n1 : new.length ≤ 140737488355328 := n1
    have n2 : new.length * i.bytes ≤ 140737488355328 := n2
    simp only [rel] at gx
    obtain ⟨xa, gx⟩ := gx
    rw [lenL_eq, appL_eq] at hs
    rcases Nat.eq_zero_or_pos new.length with hn | hn
    · have hnew : new = [] := List.eq_nil_of_length_eq_zero hn
      subst hnew
      obtain ⟨w1, w2⟩ := h.arr_none e i.size h0
      refine fin (.slice xa 0 0) w ?_ _ _ _ w2 w1 ?_ hs
      · rw [gx, hyu]; exact run_append_zero hu hi (Nat.le_refl _) w
      · simp only [rel]
        refine ⟨0, i.size, by rw [shape_last]; rfl, by simp [arS], rfl, fun _ => ⟨by simp [arS], ?_⟩⟩
        rw [put_same]
        exact ⟨rfl, xa, rfl⟩
    · obtain ⟨ad, rfl, had⟩ := hya (by omega)
      have hrun : ∃ cap, new.length ≤ cap ∧ (Builtin.append_ #[t, t] o.type #[a.eval x, a.eval y]).run P w = .ok (.slice (some ⟨w.heap.size, 0, none⟩) new.length cap) (w.drew.alloc (.cells (vals.toArray ++ Builtin.zeroCells zv.cells (cap - new.length)) e)) := by
        rw [gx, hyu]
        cases xa with
        | none => exact ⟨_, grownCap_ge w new.length 0 e, run_append_nil (P := P) w t o.type e i zv hu hi hzv ad new.length yc vals hv.len had hn (by omega) (hbytes _ n2)⟩
        | some b =>
          have := run_append_grow (P := P) w t o.type e i zv hu hi hzv b 0 0 [] (by simp) (by simp) ad new.length yc vals hv.len had (by omega) (by omega) (by rw [Nat.zero_add, nextslicecap_zero hn]; exact hbytes _ n2)
          simp only [Nat.zero_add, Array.empty_append] at this
          exact ⟨_, grownCap_ge w new.length 0 e, this⟩
      obtain ⟨cap, hcap, hrun⟩ := hrun
      have hsize : (vals.toArray ++ Builtin.zeroCells zv.cells (cap - new.length)).size = cap * i.size := by
        simp only [Array.size_append, List.size_toArray, size_zeroCells, hzsz, hv.len, ← Nat.add_mul]
        congr 1; omega
      have hrow : RowRel S (shape H) i.size new (vals.toArray ++ Builtin.zeroCells zv.cells (cap - new.length)) := by
        intro k r hk
        obtain ⟨q1, q2⟩ := hv.row k r hk
        refine ⟨q1, fun j c hj => ?_⟩
        obtain ⟨v, r1, r2⟩ := q2 j c hj
        refine ⟨v, ?_, r2, hv.one v (List.mem_of_getElem? r1)⟩
        rw [Array.getElem?_append_left (by simpa using (List.getElem?_eq_some_iff.1 r1).1)]
        simpa using r1
      obtain ⟨w1, w2⟩ := h.drew.arr_new e i.size new cap h0 (w' := w.drew.alloc (.cells (vals.toArray ++ Builtin.zeroCells zv.cells (cap - new.length)) e)) (Chg.alloc w.drew _ _) (heap_alloc_new w.drew _) hsize hcap hrow
      refine fin _ _ hrun _ _ _ w2 w1 ?_ hs
      simp only [rel]
      refine ⟨new.length, i.size, by rw [shape_last]; rfl, by simp [arS], rfl, fun _ => ⟨by simp [arS], ?_⟩⟩
      rw [put_same]
      exact ⟨some ⟨w.heap.size, 0, none⟩, by simp [arS], fun _ => by simp⟩
  case sl id t' off n =>
    cases off with
    | succ off => exact False.elim hs
    | zero =>
      simp only [appA, getL_eq] at hs
      cases hb : H[id]? with
      | none => rw [hb] at hs; exact False.elim hs
      | some b =>
        rw [hb] at hs
        cases b <;> first | exact False.elim hs | skip
        rename_i e' sz' rows
        simp only at hs
        split at hs
        · rename_i hez
          obtain ⟨rfl, rfl⟩ := hez
          obtain ⟨⟨ht, hnr, n1, n2⟩, hs⟩ := hs
          have ht : t' = rows.length := ht
          have hnr : n ≤ rows.length := hnr
          have n1 : n + new.length ≤ 140737488355328 := n1
          have n2 : (n + new.length) * i.bytes ≤ 140737488355328 := n2
          rw [setL_eq] at hs
          obtain ⟨v1, v2⟩ := sl_valid gx hb ht
          obtain ⟨_, hblk⟩ := h.blk id _ hb
          have hrl := rapp_len rows n new hnr
          rcases Nat.eq_zero_or_pos new.length with hn | hn
          · have hnew : new = [] := List.eq_nil_of_length_eq_zero hn
            subst hnew
            have hsame : rappS rows n [] = rows := by simp [rappS]
            have hs2 : K (.sl id rows.length 0 n) (H.set id (.arr e' i.size rows)) := by
              have : K (.sl id (rappS rows n []).length 0 (n + 0)) (H.set id (.arr e' i.size (rappS rows n []))) := hs
              rw [hsame] at this
              exact this
            have hH : H.set id (.arr e' i.size rows) = H := by
              apply List.ext_getElem?
              intro j
              rw [List.getElem?_set]
              split
              · rename_i hj
                subst hj
                rw [if_pos (get_lt hb), hb]
              · rfl
            rw [hH] at hs2
            obtain ⟨aa, c, hxu⟩ := sl_len gx hb ht
            have hnc : n ≤ c := by
              cases hr : S.ρ id with
              | none => rw [hr] at v2; obtain ⟨rfl, _⟩ := v2; omega
              | some p =>
                obtain ⟨B, cc⟩ := p
                rw [hr] at v2 hblk
                obtain ⟨_, q, _⟩ := v2
                obtain ⟨_, _, _, q3, _⟩ := hblk
                rw [hxu] at q
                injection q with _ _ q
                omega
            refine fin _ w (by rw [hxu, hyu]; exact run_append_zero hu hi hnc w) S _ H (Ext.refl _ _) h ?_ hs2
            rw [← hxu, ← ht]
            exact gx
          · obtain ⟨ad, rfl, had⟩ := hya (by omega)
            -- at a new place
            have move : ∀ (arr0 : Array Value) (olds : List Value) (cap : Nat), RowRel S (shape H) i.size rows arr0 → olds.length = n * i.size → (∀ k, k < n * i.size → olds[k]? = arr0[k]?) → rows.length < n + new.length → n + new.length ≤ cap → ∀ u : Value, u = .slice (some ⟨w.heap.size, 0, none⟩) (n + new.length) cap →
                (Builtin.append_ #[t, t] o.type #[a.eval x, a.eval y]).run P w = .ok u (w.drew.alloc (.cells (olds.toArray ++ vals.toArray ++ Builtin.zeroCells zv.cells (cap - (n + new.length))) e')) → opRes P o a w (Done S H K) := by
              intro arr0 olds cap hrow hlo holds hlt hcap u hu' hrun
              have hsize : (olds.toArray ++ vals.toArray ++ Builtin.zeroCells zv.cells (cap - (n + new.length))).size = cap * i.size := by
                simp only [Array.size_append, List.size_toArray, size_zeroCells, hzsz, hv.len, hlo, ← Nat.add_mul]
                congr 1; omega
              have hrow' : RowRel S (shape H) i.size (rappS rows n new) (olds.toArray ++ vals.toArray ++ Builtin.zeroCells zv.cells (cap - (n + new.length))) := by
                refine rapp_row h0 hrow hv hnr (fun k hk => ?_) (fun k hk => ?_) (fun k h1 h2 => ?_)
                · rw [Array.append_assoc, Array.getElem?_append_left (by simp; omega)]
                  simpa using holds k hk
                · rw [Array.getElem?_append_left (by simp only [Array.size_append, List.size_toArray, hlo, hv.len]; omega), Array.getElem?_append_right (by simp; omega)]
                  simp [hlo]
                · have := Nat.mul_le_mul_right i.size (Nat.le_of_lt hlt)
                  rw [Nat.add_mul] at this
                  omega
              obtain ⟨w1, w2⟩ := h.drew.arr_move hb cap (w' := w.drew.alloc (.cells (olds.toArray ++ vals.toArray ++ Builtin.zeroCells zv.cells (cap - (n + new.length))) e')) (Chg.alloc w.drew _ _) (heap_alloc_new w.drew _) hsize (by rw [hrl]; omega) (by rw [hrl]; omega) hrow'
              refine fin _ _ hrun _ _ _ w2 w1 ?_ hs
              simp only [rel]
              refine ⟨(rappS rows n new).length, i.size, by rw [shape_set (get_lt hb), if_pos rfl]; rfl, Nat.le_refl _, by rw [hu']; rfl, fun _ => ⟨?_, ?_⟩⟩
              · show 0 + (n + new.length) ≤ _
                rw [hrl]; omega
              · rw [put_same]
                exact ⟨some ⟨w.heap.size, 0, none⟩, by rw [hu']; rfl, fun _ => by simp⟩
            cases hr : S.ρ id with
            | none =>
              rw [hr] at v2 hblk
              obtain ⟨rfl, xa, hxu⟩ := v2
              have hrows : rows = [] := hblk
              subst hrows
              have hrun : ∃ cap, new.length ≤ cap ∧ (Builtin.append_ #[t, t] o.type #[a.eval x, a.eval y]).run P w = .ok (.slice (some ⟨w.heap.size, 0, none⟩) new.length cap) (w.drew.alloc (.cells (vals.toArray ++ Builtin.zeroCells zv.cells (cap - new.length)) e')) := by
                rw [hxu, hyu]
                cases xa with
                | none => exact ⟨_, grownCap_ge w new.length 0 e', run_append_nil (P := P) w t o.type e' i zv hu hi hzv ad new.length yc vals hv.len had hn (by omega) (hbytes _ (by simpa using n2))⟩
                | some b =>
                  have := run_append_grow (P := P) w t o.type e' i zv hu hi hzv b 0 0 [] (by simp) (by simp) ad new.length yc vals hv.len had (by omega) (by omega) (by rw [Nat.zero_add, nextslicecap_zero hn]; exact hbytes _ (by simpa using n2))
                  simp only [Nat.zero_add, Array.empty_append] at this
                  exact ⟨_, grownCap_ge w new.length 0 e', this⟩
              obtain ⟨cap, hcap, hrun⟩ := hrun
              exact move #[] [] cap (fun i r hi => by simp at hi) (by simp) (fun k hk => by simp at hk) (by simp; omega) (by omega) _ (by rw [Nat.zero_add]) (by rw [hrun]; simp)
            | some p =>
              obtain ⟨B, c⟩ := p
              rw [hr] at v2 hblk
              obtain ⟨xa, hxu, hxa⟩ := v2
              obtain ⟨arr, m1, m2, m3, m4, m5⟩ := hblk
              have hrow0 : RowRel S (shape H) i.size rows arr := m4
              have hxa' : n + new.length ≤ c → xa = some ⟨B, 0, none⟩ := fun hle => by rw [hxa (by omega), Nat.zero_mul]
              simp only [Nat.sub_zero] at hxu
              by_cases hroom : n + new.length ≤ c
              · -- where it lies
                have hxa2 := hxa' hroom
                subst hxa2
                have hmul : n * i.size + new.length * i.size ≤ c * i.size := by rw [← Nat.add_mul]; exact Nat.mul_le_mul_right _ hroom
                have hrun := run_append_room (P := P) w t o.type e' i hu hi B n c arr m1 ad new.length yc vals hv.len had hv.one hroom (by rw [hv.len, m2]; exact hmul)
                have hnl : n * i.size ≤ arr.size := by omega
                obtain ⟨w1, w2⟩ := h.arr_upd hb hr (Chg.setRow w B _) (setRow_heap w B arr (arr.toList.take (n * i.size) ++ vals ++ arr.toList.drop (n * i.size + vals.length)).toArray e' (0, 0) m1) (rows' := rappS rows n new) (by
                  simp only [List.size_toArray, List.length_append, List.length_take, List.length_drop, Array.length_toList, hv.len]
                  omega) (by rw [hrl]; omega) (by rw [hrl]; omega) (rapp_row h0 hrow0 hv hnr (fun k hk => by
                    rw [List.getElem?_toArray, List.append_assoc, List.getElem?_append_left (by simp; omega), List.getElem?_take, if_pos hk]; simp) (fun k hk => by
                    rw [List.getElem?_toArray, List.getElem?_append_left (by simp [hv.len]; omega), List.getElem?_append_right (by simp; omega)]
                    simp only [List.length_take, Array.length_toList]
                    rw [show n * i.size + k - min (n * i.size) arr.size = k by omega]) (fun k h1 h2 => by
                    rw [List.getElem?_toArray, List.getElem?_append_right (by simp [hv.len]; omega), List.getElem?_drop]
                    simp only [List.length_append, List.length_take, Array.length_toList, hv.len]
                    rw [Array.getElem?_toList]
                    congr 1
                    omega))
                refine fin _ _ (by rw [hxu, hyu]; exact hrun) S _ _ w2 w1 ?_ hs
                simp only [rel]
                refine ⟨(rappS rows n new).length, i.size, by rw [shape_set (get_lt hb), if_pos rfl]; rfl, Nat.le_refl _, rfl, fun _ => ⟨?_, ?_⟩⟩
                · show 0 + (n + new.length) ≤ _
                  rw [hrl]; omega
                · rw [hr]
                  exact ⟨some ⟨B, 0, none⟩, rfl, fun _ => by simp⟩
              · -- at a new place
                have hlt : rows.length < n + new.length := by omega
                have holds : ∃ olds : List Value, olds.length = n * i.size ∧ ∀ k, k < n * i.size → olds[k]? = arr[k]? := by
                  refine ⟨arr.toList.take (n * i.size), ?_, fun k hk => ?_⟩
                  · have : n * i.size ≤ c * i.size := Nat.mul_le_mul_right _ (by omega)
                    simp; omega
                  · rw [List.getElem?_take, if_pos hk, Array.getElem?_toList]
                obtain ⟨olds, ho1, ho2⟩ := holds
                rcases Nat.eq_zero_or_pos n with rfl | hnpos
                · have holdnil : olds = [] := List.eq_nil_of_length_eq_zero (by simpa using ho1)
                  subst holdnil
                  rcases Nat.eq_zero_or_pos c with rfl | hcpos
                  · have hrun : ∃ cap, new.length ≤ cap ∧ (Builtin.append_ #[t, t] o.type #[a.eval x, a.eval y]).run P w = .ok (.slice (some ⟨w.heap.size, 0, none⟩) new.length cap) (w.drew.alloc (.cells (vals.toArray ++ Builtin.zeroCells zv.cells (cap - new.length)) e')) := by
                      rw [hxu, hyu]
                      cases xa with
                      | none => exact ⟨_, grownCap_ge w new.length 0 e', run_append_nil (P := P) w t o.type e' i zv hu hi hzv ad new.length yc vals hv.len had hn (by omega) (hbytes _ (by simpa using n2))⟩
                      | some b =>
                        have := run_append_grow (P := P) w t o.type e' i zv hu hi hzv b 0 0 [] (by simp) (by simp) ad new.length yc vals hv.len had (by omega) (by omega) (by rw [Nat.zero_add, nextslicecap_zero hn]; exact hbytes _ (by simpa using n2))
                        simp only [Nat.zero_add, Array.empty_append] at this
                        exact ⟨_, grownCap_ge w new.length 0 e', this⟩
                    obtain ⟨cap, hcap, hrun⟩ := hrun
                    exact move arr [] cap hrow0 (by simp) (fun k hk => by simp at hk) hlt (by omega) _ (by rw [Nat.zero_add]) (by rw [hrun]; simp)
                  · have hxb := hxa hcpos
                    subst hxb
                    have hrun := run_append_grow (P := P) w t o.type e' i zv hu hi hzv ⟨B, 0 * i.size, none⟩ 0 c [] (by simp) (by simp) ad new.length yc vals hv.len had (by omega) (by omega) (growslice_fits (by omega) n2)
                    refine move arr [] _ hrow0 (by simp) (fun k hk => by simp at hk) hlt (grownCap_ge w (0 + new.length) c e') _ rfl ?_
                    rw [hxu, hyu]
                    exact hrun
                · have hxb := hxa (by omega)
                  subst hxb
                  have hcells : ∀ (j : Nat) (v : Value), olds[j]? = some v → w.cell? ((⟨B, 0 * i.size, none⟩ : Addr).add j) = some v := by
                    intro j v hj
                    have hjlt : j < n * i.size := by rw [← ho1]; exact (List.getElem?_eq_some_iff.1 hj).1
                    rw [ho2 j hjlt] at hj
                    rw [Nat.zero_mul, Addr.add_lit, Nat.zero_add]
                    simp only [World.cell?, m1]
                    simpa using hj
                  have hrun := run_append_grow (P := P) w t o.type e' i zv hu hi hzv ⟨B, 0 * i.size, none⟩ n c olds ho1 hcells ad new.length yc vals hv.len had (by omega) (by omega) (growslice_fits (by omega) n2)
                  refine move arr olds _ hrow0 ho1 ho2 hlt (grownCap_ge w (n + new.length) c e') _ rfl ?_
                  rw [hxu, hyu]
                  exact hrun
        · exact False.elim hs
  all_goals exact False.elim hs

end
end Go.Ab
