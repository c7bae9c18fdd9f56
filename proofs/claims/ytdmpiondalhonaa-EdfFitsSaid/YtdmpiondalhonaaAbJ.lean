/- Each operation of the abstract machine is what the model does: stores, slices, appends, calls. -/
import Derived.Test.YtdmpiondalhonaaAbI
namespace Go.Ab
open Go
set_option linter.unusedVariables false
set_option linter.unusedSimpArgs false
variable {σr : RowF}

section
variable {P : Program} {S : RS} {H : List ABlk} {fr : List AV} {K : AV → List ABlk → Prop} {o : Oper} {a : Act} {w : World}

theorem done_skip {w' : World} {H' : List ABlk} {S' : RS} (hx : (execOp a.eval o).run P w = .ok .skip w') (he : Ext S (shape H) S' (shape H')) (h : WRel S' H' w') (hK : K (.tup []) H') : opRes P o a w (Done S H K) := by
  unfold opRes
  rw [hx]
  exact ⟨S', .tup [], H', he, h, by simp [rel, rels, undef], hK⟩

theorem op_st {t : TypeId} {x y : Operand} (ho : o.op = .store t x y) (hf : rels S fr (shape H) a.tmps.toList) (h : WRel S H w) {ax ay : AX} (hx : rx x = some ax) (hy : rx y = some ay) {n : Nat} (hn : szOf P t = some n)
    (hs : sat arS P H (exec1 arS σr fr H (.st n ax ay)) K) : opRes P o a w (Done S H K) := by
  have gx := rx_rel hf hx
  have gy := rx_rel hf hy
  simp only [exec1] at hs
  split at hs
  case isFalse => exact False.elim hs
  rename_i hc
  rw [lenL_eq] at hc
  obtain ⟨c1, c2⟩ := hc
  obtain ⟨g1, g2⟩ := cellsOf_rel gy c2
  have hsz := cells_size gy c2
  have hcs := cells_size gy c2
  generalize ev fr ax = vx at *
  have hst : ∀ (B off : Nat) (e : TypeId) (arr : Array Value), w.heap[B]? = some (.cells arr e (0, 0)) → off + n ≤ arr.size → (Instr.storeAt t (.pointer (some ⟨B, off, none⟩)) (a.eval y)).run P w =
      .ok () (w.setRow B (arr.toList.take off ++ (a.eval y).cells.toList ++ arr.toList.drop (off + n)).toArray) := by
    intro B off e arr hB hle
    have := run_storeCells_at (P := P) B off e (a.eval y).cells.toList 0 arr w hB (by simp; omega) g2
    simp only [Nat.add_zero, Array.length_toList] at this
    rw [show (a.eval y).cells.size = n by omega] at this
    simp only [Instr.storeAt, Instr.sureAddr, Sem.run_bind, Sem.run_pure, Result.andThen_ok, storeVar, run_szOf hn]
    rw [if_neg (by simp; omega)]
    exact this
  have hex : (execOp a.eval o) = (do (Instr.storeAt t (a.eval x) (a.eval y)); pure .skip) := by simp only [execOp, ho]
  cases vx
  case bptr id off =>
    simp only at hs
    rw [getL_eq] at hs
    cases hb : H[id]? with
    | none => rw [hb] at hs; exact False.elim hs
    | some b =>
      rw [hb] at hs
      cases b <;> first | exact False.elim hs | skip
      rename_i e cs
      simp only at hs
      cases hsp : splL cs off (cellsOf (ev fr ay)) with
      | none => rw [hsp] at hs; exact False.elim hs
      | some cs' =>
        rw [hsp] at hs
        simp only [rel] at gx
        obtain ⟨m, B, c, h1, h2, h3⟩ := gx
        obtain ⟨B', c', arr, k1, k2, k3, k4, k5⟩ := h.blk id _ hb
        rw [h2] at k1
        injection k1 with k1
        injection k1 with k1 _
        subst k1
        obtain ⟨hle, _⟩ := splL_eq _ _ _ _ hsp
        have hl := rels_length k3
        simp at hl
        have hspl := rels_spl k3 g1 hsp
        have hlen : (a.eval y).cells.toList.length = n := by simp; omega
        rw [hlen] at hspl
        have hw := h.box_upd hb h2 (Chg.setRow w B _) (setRow_heap w B arr (arr.toList.take off ++ (a.eval y).cells.toList ++ arr.toList.drop (off + n)).toArray e (0, 0) k2) (cs' := cs') (by
          have := rels_length hspl
          rw [← this]
          simp only [List.length_append, List.length_take, List.length_drop, Array.length_toList]
          omega) (by simpa using hspl) (by
          intro u hu
          simp only [List.mem_append] at hu
          rcases hu with (hu | hu) | hu
          · exact k4 u (List.mem_of_mem_take hu)
          · exact g2 u hu
          · exact k4 u (List.mem_of_mem_drop hu))
        simp only [setL_eq] at hs
        refine done_skip (w' := w.setRow B _) ?_ (Ext.upd hb ?_) hw hs
        · rw [hex, h3]
          simp only [Sem.run_bind, hst B off e arr k2 (by omega), Result.andThen_ok, Sem.run_pure]
        · simp only [ABlk.shp]
          congr 1
          have := rels_length hspl
          rw [← this]
          simp only [List.length_append, List.length_take, List.length_drop, Array.length_toList]
          omega
  case ptr id t' r off =>
    simp only at hs
    rw [getL_eq] at hs
    cases hb : H[id]? with
    | none => rw [hb] at hs; exact False.elim hs
    | some b =>
      rw [hb] at hs
      cases b <;> first | exact False.elim hs | skip
      rename_i e sz rows
      simp only at hs
      generalize σr arS e rows r = row at *
      cases hsp : splL row off (cellsOf (ev fr ay)) with
      | none => rw [hsp] at hs; exact False.elim hs
      | some row' =>
        rw [hsp] at hs
        obtain ⟨⟨ht, hrow⟩, hs⟩ := hs
        have hrow : rows[r]? = some row := hrow
        obtain ⟨B, c, k1, k2⟩ := ptr_valid gx hb ht
        obtain ⟨h0, hblk⟩ := h.blk id _ hb
        rw [k1] at hblk
        obtain ⟨arr, m1, m2, m3, m4, m5⟩ := hblk
        obtain ⟨hle, hre⟩ := splL_eq _ _ _ _ hsp
        obtain ⟨q1, q2⟩ := m4 r row hrow
        have hrlt : r < rows.length := (List.getElem?_eq_some_iff.1 hrow).1
        have hmul : r * sz + sz ≤ c * sz := by rw [← Nat.succ_mul]; exact Nat.mul_le_mul_right _ (by omega)
        have hlen : (a.eval y).cells.toList.length = n := by simp; omega
        have hrl : row'.length = sz := by rw [hre]; simp; omega
        have harr : ∀ k : Nat, ((arr.toList.take (r * sz + off) ++ (a.eval y).cells.toList ++ arr.toList.drop (r * sz + off + n)).toArray)[k]? = if k < r * sz + off then arr[k]? else if k < r * sz + off + n then (a.eval y).cells[k - (r * sz + off)]? else arr[k]? := by
          intro k
          rw [List.getElem?_toArray]
          by_cases hk : k < r * sz + off
          · rw [if_pos hk, List.append_assoc, List.getElem?_append_left (by simp; omega), List.getElem?_take, if_pos hk]; simp
          · rw [if_neg hk]
            by_cases hk2 : k < r * sz + off + n
            · rw [if_pos hk2, List.getElem?_append_left (by simp; omega), List.getElem?_append_right (by simp; omega)]
              simp only [List.length_take, Array.length_toList]
              rw [show min (r * sz + off) arr.size = r * sz + off by omega]; simp
            · rw [if_neg hk2, List.getElem?_append_right (by simp; omega), List.getElem?_drop]
              simp only [List.length_append, List.length_take, Array.length_toList]
              rw [Array.getElem?_toList]
              congr 1
              omega
        obtain ⟨hw, he⟩ := h.arr_upd hb k1 (Chg.setRow w B _) (setRow_heap w B arr (arr.toList.take (r * sz + off) ++ (a.eval y).cells.toList ++ arr.toList.drop (r * sz + off + n)).toArray e (0, 0) m1) (rows' := rows.set r row') (by
          simp only [List.size_toArray, List.length_append, List.length_take, List.length_drop, Array.length_toList]
          omega) (by simp) (by simpa using m3) (by
          intro i' r' hr'
          rw [List.getElem?_set] at hr'
          by_cases hii : r = i'
          · subst hii
            rw [if_pos rfl, if_pos hrlt] at hr'
            injection hr' with hr'
            subst hr'
            refine ⟨hrl, fun j cc hj => ?_⟩
            have hjlt : j < sz := by rw [← hrl]; exact (List.getElem?_eq_some_iff.1 hj).1
            rw [harr, hre] at *
            by_cases hj1 : j < off
            · rw [List.append_assoc, List.getElem?_append_left (by simp; omega), List.getElem?_take, if_pos hj1] at hj
              rw [if_pos (by omega)]
              exact q2 j cc hj
            · by_cases hj2 : j < off + n
              · rw [List.getElem?_append_left (by simp; omega), List.getElem?_append_right (by simp; omega)] at hj
                simp only [List.length_take] at hj
                rw [show min off row.length = off by omega] at hj
                obtain ⟨u, z1, z2⟩ := rels_get g1 hj
                rw [if_neg (by omega), if_pos (by omega), show r * sz + j - (r * sz + off) = j - off by omega]
                exact ⟨u, by rwa [Array.getElem?_toList] at z1, z2, g2 u (List.mem_of_getElem? z1)⟩
              · rw [List.getElem?_append_right (by simp; omega), List.getElem?_drop] at hj
                simp only [List.length_append, List.length_take] at hj
                rw [show off + (cellsOf (ev fr ay)).length + (j - (min off row.length + (cellsOf (ev fr ay)).length)) = j by omega] at hj
                rw [if_neg (by omega), if_neg (by omega)]
                exact q2 j cc hj
          · rw [if_neg hii] at hr'
            obtain ⟨z1, z2⟩ := m4 i' r' hr'
            refine ⟨z1, fun j cc hj => ?_⟩
            have hjlt : j < sz := by rw [← z1]; exact (List.getElem?_eq_some_iff.1 hj).1
            rw [harr]
            rcases Nat.lt_or_gt_of_ne hii with hlt | hgt
            · have : r * sz + sz ≤ i' * sz := by rw [← Nat.succ_mul]; exact Nat.mul_le_mul_right _ hlt
              rw [if_neg (by omega), if_neg (by omega)]; exact z2 j cc hj
            · have : i' * sz + sz ≤ r * sz := by rw [← Nat.succ_mul]; exact Nat.mul_le_mul_right _ hgt
              rw [if_pos (by omega)]; exact z2 j cc hj)
        simp only [setL_eq] at hs
        refine done_skip (w' := w.setRow B _) ?_ he hw hs
        rw [hex, k2]
        simp only [Sem.run_bind, hst B (r * sz + off) e arr m1 (by omega), Result.andThen_ok, Sem.run_pure]
  all_goals exact False.elim hs

/-- What a valid slice of a row is. -/
theorem sl_valid {id t off n : Nat} {u : Value} {e : TypeId} {sz : Nat} {rows : List (List AV)} (hx : rel S (.sl id t off n) (shape H) u) (hb : H[id]? = some (.arr e sz rows)) (ht : t = rows.length) :
    off + n ≤ rows.length ∧ match S.ρ id with
      | some (B, c) => ∃ a, u = .slice a n (c - off) ∧ (off < c → a = some ⟨B, off * sz, none⟩)
      | none => n = 0 ∧ ∃ a, u = .slice a 0 0 := by
  simp only [rel] at hx
  obtain ⟨m, sz', h1, h2, _, h3⟩ := hx
  rw [shape_get hb] at h1
  simp only [ABlk.shp, Option.some.injEq, Shp.row.injEq] at h1
  obtain ⟨rfl, rfl⟩ := h1
  exact h3 ht

/-- The same without regard to whether it is valid. -/
theorem sl_len {id t off n : Nat} {u : Value} {e : TypeId} {sz : Nat} {rows : List (List AV)} (hx : rel S (.sl id t off n) (shape H) u) (hb : H[id]? = some (.arr e sz rows)) (ht : t = rows.length) :
    ∃ a c, u = .slice a n c := by
  obtain ⟨_, h⟩ := sl_valid hx hb ht
  cases hr : S.ρ id with
  | none => rw [hr] at h; obtain ⟨rfl, a, h⟩ := h; exact ⟨a, 0, h⟩
  | some p => obtain ⟨B, c⟩ := p; rw [hr] at h; obtain ⟨a, h, _⟩ := h; exact ⟨a, _, h⟩

theorem op_nilS {op : BinOp} {t t' : TypeId} {x y : Operand} (ho : o.op = .binOp op t x y t') (hf : rels S fr (shape H) a.tmps.toList) (h : WRel S H w) {ax : AX} (hx : rx x = some ax) {neg : Bool} (hn : isNilS P op t y = some neg)
    (hs : sat arS P H (exec1 arS σr fr H (.nilS neg ax)) K) : opRes P o a w (Done S H K) := by
  have gx := rx_rel hf hx
  obtain ⟨e, hu, hy, hop⟩ : ∃ e, P.underlying t = some (.slice e) ∧ y = .const (.slice none 0 0) ∧ ((op = .eql ∧ neg = false) ∨ (op = .neq ∧ neg = true)) := by
    unfold isNilS at hn
    split at hn
    · rename_i e hu
      simp only [Option.some.injEq] at hn
      exact ⟨e, hu, rfl, .inl ⟨rfl, hn.symm⟩⟩
    · rename_i e hu
      simp only [Option.some.injEq] at hn
      exact ⟨e, hu, rfl, .inr ⟨rfl, hn.symm⟩⟩
    · cases hn
  have key : ∃ m n c, a.eval x = .slice m n c ∧ ((n = 0 → K (.bool (!neg)) H) ∧ K (.bool neg) H) ∧ (m = none → n = 0) := by
    simp only [exec1] at hs
    generalize ev fr ax = vx at *
    generalize a.eval x = ux at *
    have fin : ∀ n : Nat, sat arS P H (.nilq neg n H) K → (n = 0 → K (.bool (!neg)) H) ∧ K (.bool neg) H := fun n hs => ⟨fun h0 => hs.1 (by subst h0; rfl), hs.2⟩
    cases vx <;> first | exact False.elim hs | skip
    case nils =>
      simp only [rel] at gx
      obtain ⟨a, rfl⟩ := gx
      exact ⟨a, 0, 0, rfl, fin 0 hs, fun _ => rfl⟩
    case inl sz rows =>
      simp only [rel] at gx
      obtain ⟨a, c, rfl, _, hz⟩ := gx
      refine ⟨a, _, c, rfl, fin _ hs, fun hm => ?_⟩
      rcases hz with hz | ⟨B, o, hz, _⟩
      · rw [hz]; rfl
      · rw [hz] at hm; cases hm
    case sl id tt off n =>
      simp only at hs
      cases hg : getL H id with
      | none => rw [hg] at hs; exact False.elim hs
      | some b =>
        rw [hg] at hs
        cases b <;> first | exact False.elim hs | skip
        rename_i e' sz rows
        rw [getL_eq] at hg
        have ht : tt = rows.length := hs.1
        obtain ⟨v1, v2⟩ := sl_valid gx hg ht
        obtain ⟨_, hblk⟩ := h.blk id _ hg
        have hk := fin n hs.2
        cases hr : S.ρ id with
        | none =>
          rw [hr] at v2
          obtain ⟨rfl, a, rfl⟩ := v2
          exact ⟨a, 0, 0, rfl, hk, fun _ => rfl⟩
        | some p =>
          obtain ⟨B, c⟩ := p
          rw [hr] at v2 hblk
          obtain ⟨a, rfl, q2⟩ := v2
          obtain ⟨arr, m1, m2, m3, _⟩ := hblk
          refine ⟨a, n, _, rfl, hk, fun hm => ?_⟩
          rcases Nat.lt_or_ge off c with hl | hl
          · rw [q2 hl] at hm; cases hm
          · omega
  obtain ⟨m, n, c, hev, ⟨k1, k2⟩, hm0⟩ := key
  unfold opRes execOp
  have hev2 : a.eval y = .slice none 0 0 := by rw [hy]; rfl
  have hq := run_eq_nilS (m := m) (n := n) (c := c) hu w
  simp only [ho, Sem.run_bind, hev, hev2, run_eqGuard_slice, Result.andThen_ok, Sem.run_pure]
  rcases hop with ⟨rfl, rfl⟩ | ⟨rfl, rfl⟩
  · simp only [binOp, Sem.run_bind, hq, Result.andThen_ok, Sem.run_pure]
    cases m with
    | none => exact .here h (by simp only [rel]; rfl) (k1 (hm0 rfl))
    | some p => exact .here h (by simp only [rel]; rfl) k2
  · simp only [binOp, Sem.run_bind, hq, Result.andThen_ok, Sem.run_pure]
    cases m with
    | none => exact .here h (by simp only [rel]; rfl) (k1 (hm0 rfl))
    | some p => exact .here h (by simp only [rel]; rfl) k2

theorem op_len {ts : Array TypeId} {x : Operand} (ho : o.op = .call { callee := .builtin .len, args := #[x], argTypes := ts }) (hf : rels S fr (shape H) a.tmps.toList) (h : WRel S H w) {ax : AX} (hx : rx x = some ax)
    {t : TypeId} (ht : ts[0]? = some t) {str : Bool} (hu : if str then P.underlying t = some .string else ∃ e, P.underlying t = some (.slice e))
    (hs : sat arS P H (exec1 arS σr fr H (.len str ax)) K) : opRes P o a w (Done S H K) := by
  have gx := rx_rel hf hx
  simp only [exec1] at hs
  generalize ev fr ax = vx at *
  have key : ∀ (u : Value), (Builtin.len_ ts o.type #[a.eval x]).run P w = .ok u w → ∀ v, rel S v (shape H) u → K v H → opRes P o a w (Done S H K) := by
    intro u hr v hv hK
    unfold opRes execOp
    simp only [ho, Go.resolve, Go.invoke, Go.builtin, Sem.run_bind, Sem.run_pure, Result.andThen_ok, List.map_toArray, List.map_cons, List.map_nil, hr]
    exact .here h hv hK
  cases str
  · simp only [Bool.false_eq_true, if_false] at hu
    obtain ⟨el, hu⟩ := hu
    have slice : ∀ (aa : Option Addr) (n c : Nat), a.eval x = .slice aa n c → (Builtin.len_ ts o.type #[a.eval x]).run P w = .ok (.int .i64 n) w := by
      intro aa n c e
      simp [Builtin.len_, ht, e, run_underlying hu, goInt]
    cases vx <;> first | exact False.elim hs | skip
    case nils =>
      simp only [rel] at gx
      obtain ⟨aa, gx⟩ := gx
      exact key _ (slice aa 0 0 gx) _ (by simp only [rel]; rfl) hs
    case inl sz rows =>
      simp only [rel] at gx
      obtain ⟨aa, c, gx, _⟩ := gx
      exact key _ (slice aa _ c gx) _ (by simp only [rel]; rfl) hs
    case sl id t' off n =>
      simp only [getL_eq] at hs
      cases hb : H[id]? with
      | none => rw [hb] at hs; exact False.elim hs
      | some b =>
        rw [hb] at hs
        cases b <;> first | exact False.elim hs | skip
        obtain ⟨hv, hs⟩ := hs
        obtain ⟨aa, c, gx⟩ := sl_len gx hb hv
        exact key _ (slice aa _ c gx) _ (by simp only [rel]; rfl) hs
  · simp only [if_true] at hu
    cases vx <;> first | exact False.elim hs | skip
    simp only [rel] at gx
    exact key _ (by rw [gx]; simp [Builtin.len_, ht, run_underlying hu, goInt]; rfl) _ (by simp only [rel]; rfl) hs

theorem op_idx {t e : TypeId} {x y : Operand} (ho : o.op = .indexAddr t x y) (hf : rels S fr (shape H) a.tmps.toList) (h : WRel S H w) {ax ay : AX} (hx : rx x = some ax) (hy : rx y = some ay) (hu : P.underlying t = some (.slice e)) {sz : Nat} (hsz : szOf P e = some sz)
    (hs : sat arS P H (exec1 arS σr fr H (.idx e sz ax ay)) K) : opRes P o a w (Done S H K) := by
  have gx := rx_rel hf hx
  have gy := rx_rel hf hy
  simp only [exec1] at hs
  generalize ev fr ax = vx at *
  generalize ev fr ay = vy at *
  have hex : execOp a.eval o = (do pure (.value (← Instr.indexAt t (a.eval x) (a.eval y)))) := by simp only [execOp, ho]
  have run : ∀ (B off n c : Nat) (k : IntKind) (i : Int), 0 ≤ i → i < n → (Instr.indexAt t (.slice (some ⟨B, off, none⟩) n c) (.int k i)).run P w = .ok (.pointer (some ⟨B, off + i.toNat * sz, none⟩)) w := by
    intro B off n c k i h0 h1
    simp [Instr.indexAt, asIntOf, run_underlying hu, run_szOf hsz, h0, h1, Addr.add_lit]
  cases vx <;> first | exact False.elim hs | skip
  case inl sz' rows =>
    cases vy <;> first | exact False.elim hs | skip
    rename_i k i
    simp only at hs
    split at hs
    · rename_i hz
      subst hz
      obtain ⟨⟨h0, hr⟩, hs⟩ := hs
      have h0 : 0 ≤ i := h0
      have hr : rows[i.toNat]? = some (σr arS e rows i.toNat) := hr
      have hlt : i.toNat < rows.length := (List.getElem?_eq_some_iff.1 hr).1
      simp only [rel] at gx gy
      obtain ⟨aa, c, gx, hc, g1⟩ := gx
      rcases g1 with rfl | ⟨B, off, rfl, g1⟩
      · simp at hlt
      · obtain ⟨_, q2⟩ := fzs_get g1 hr
        exact op_of_run hex (by rw [gx, gy]; exact run B off _ c k i h0 (by omega)) h (by simp only [rel]; exact ⟨B, _, rfl, q2⟩) hs
    · exact False.elim hs
  case sl id t' off n =>
    cases vy <;> first | exact False.elim hs | skip
    rename_i k i
    simp only [getL_eq] at hs
    cases hb : H[id]? with
    | none => rw [hb] at hs; exact False.elim hs
    | some b =>
      rw [hb] at hs
      cases b <;> first | exact False.elim hs | skip
      rename_i e' sz' rows
      simp only at hs
      split at hs
      · rename_i hz
        subst hz
        obtain ⟨⟨h0, h1, ht⟩, hs⟩ := hs
        have h0 : 0 ≤ i := h0
        have h1 : i < (n : Int) := h1
        have ht : t' = rows.length := ht
        obtain ⟨v1, v2⟩ := sl_valid gx hb ht
        simp only [rel] at gy
        cases hr : S.ρ id with
        | none => rw [hr] at v2; obtain ⟨rfl, _⟩ := v2; omega
        | some p =>
          obtain ⟨B, c⟩ := p
          rw [hr] at v2
          obtain ⟨aa, gx', ha⟩ := v2
          have hoc : off < c := by
            obtain ⟨_, hblk⟩ := h.blk id _ hb
            rw [hr] at hblk
            obtain ⟨arr, _, _, q3, _⟩ := hblk
            omega
          have haa := ha hoc
          subst haa
          refine op_of_run hex (by rw [gx', gy]; exact run B _ n _ k i h0 h1) h ?_ hs
          simp only [rel]
          refine ⟨rows.length, sz, B, _, shape_get hb, by omega, rfl, fun _ => ⟨c, hr, ?_⟩⟩
          show off * sz + i.toNat * sz = (off + i.toNat) * sz + 0
          rw [Nat.add_mul]; omega
      · exact False.elim hs
  all_goals (cases vy <;> exact False.elim hs)

end
end Go.Ab
