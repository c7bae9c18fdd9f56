/- Each operation of the abstract machine is what the model does: slices of slices, makes, appends, calls. -/
import Derived.Test.YtdmpiondalhonaaAbJ
namespace Go.Ab
open Go
set_option linter.unusedVariables false
set_option linter.unusedSimpArgs false
variable {σr : RowF}

section
variable {P : Program} {S : RS} {H : List ABlk} {fr : List AV} {K : AV → List ABlk → Prop} {o : Oper} {a : Act} {w : World}

/-- A bound of a slice expression. -/
def Bnd (a : Act) (x : Option Operand) (n : Option Int) : Prop :=
  match x, n with
  | none, none => True
  | some x, some n => ∃ k, a.eval x = .int k n
  | _, _ => False

theorem bndA_rel {T : Sh} (hf : rels S fr T a.tmps.toList) {x : Option Operand} {ax : Option AX} {n : Option Int} (hx : optX x = some ax) (h : bndA fr ax = some n) : Bnd a x n := by
  cases x with
  | none => simp only [optX, Option.some.injEq] at hx; subst hx; simp only [bndA, Option.some.injEq] at h; subst h; trivial
  | some x =>
    simp only [optX, Option.map_eq_some_iff] at hx
    obtain ⟨ax, hx, rfl⟩ := hx
    have gx := rx_rel hf hx
    simp only [bndA] at h
    generalize ev fr ax = v at *
    cases v <;> simp at h
    subst h
    simp only [rel] at gx
    exact ⟨_, gx⟩

theorem run_sliceBounds {b : Bool} {len cap : Nat} {lo hi : Option Operand} {l h : Nat} {nl nh : Option Int} (hl : Bnd a lo nl) (hh : Bnd a hi nh) (el : nl = none ∧ l = 0 ∨ nl = some (l : Int)) (eh : nh = none ∧ h = len ∨ nh = some (h : Int)) (h1 : l ≤ h) (h2 : h ≤ cap) (w : World) :
    (Instr.sliceBounds b len cap (lo.map a.eval) (hi.map a.eval) none).run P w = .ok (l, h, cap) w := by
  have hb : ∀ (v : Value) (k : IntKind) (i : Nat) (y : Nat) (c : BoundsCode), v = .int k (i : Int) → i ≤ y → (Instr.sliceBound v y c).run P w = .ok i w := by
    intro v k i y c e hle
    subst e
    simp [Instr.sliceBound, asIntOf, hle]
  rcases el with ⟨rfl, rfl⟩ | rfl
  · cases lo with
    | some x => exact hl.elim
    | none =>
      rcases eh with ⟨rfl, rfl⟩ | rfl
      · cases hi with
        | some x => exact hh.elim
        | none => simp [Instr.sliceBounds]
      · cases hi with
        | none => exact hh.elim
        | some y =>
          obtain ⟨k, hy⟩ := hh
          simp [Instr.sliceBounds, hb _ k h cap _ hy h2]
  · cases lo with
    | none => exact hl.elim
    | some x =>
      obtain ⟨k', hx⟩ := hl
      rcases eh with ⟨rfl, rfl⟩ | rfl
      · cases hi with
        | some x => exact hh.elim
        | none => simp [Instr.sliceBounds, hb _ k' l h _ hx h1]
      · cases hi with
        | none => exact hh.elim
        | some y =>
          obtain ⟨k, hy⟩ := hh
          simp [Instr.sliceBounds, hb _ k h cap _ hy h2, hb _ k' l h _ hx h1]

theorem run_sliceAt_slice {t e : TypeId} (hu : P.underlying t = some (.slice e)) {sz : Nat} (hsz : szOf P e = some sz) {aa : Option Addr} {len cap : Nat} {lo hi : Option Operand} {l h : Nat} {nl nh : Option Int} (hl : Bnd a lo nl) (hh : Bnd a hi nh)
    (el : nl = none ∧ l = 0 ∨ nl = some (l : Int)) (eh : nh = none ∧ h = len ∨ nh = some (h : Int)) (h1 : l ≤ h) (h2 : h ≤ cap) (w : World) :
    (Instr.sliceAt t (.slice aa len cap) (lo.map a.eval) (hi.map a.eval) none).run P w = .ok (.slice (if cap = l then aa else aa.map (·.add (l * sz))) (h - l) (cap - l)) w := by
  simp [Instr.sliceAt, run_underlying hu, Instr.slice, run_sliceBounds hl hh el eh h1 h2, run_szOf hsz]

theorem run_sliceAt_string {t : TypeId} (hu : P.underlying t = some .string) {s : ByteArray} {lo hi : Option Operand} {l h : Nat} {nl nh : Option Int} (hl : Bnd a lo nl) (hh : Bnd a hi nh)
    (el : nl = none ∧ l = 0 ∨ nl = some (l : Int)) (eh : nh = none ∧ h = s.size ∨ nh = some (h : Int)) (h1 : l ≤ h) (h2 : h ≤ s.size) (w : World) :
    (Instr.sliceAt t (.string s) (lo.map a.eval) (hi.map a.eval) none).run P w = .ok (.string (s.extract l h)) w := by
  simp [Instr.sliceAt, run_underlying hu, Instr.slice, run_sliceBounds hl hh el eh h1 h2]

/-- Rows of a frozen slice, cut. -/
theorem inl_cut {T : Sh} {sz : Nat} {rows : List (List AV)} {aa : Option Addr} {c l h : Nat} (hc : rows.length ≤ c) (hr : rows = [] ∨ ∃ B o, aa = some ⟨B, o, none⟩ ∧ fzs S B o sz rows) (h1 : l ≤ h) (h2 : h ≤ rows.length) :
    rel S (.inl sz ((rows.take h).drop l)) T (.slice (if c = l then aa else aa.map (·.add (l * sz))) (h - l) (c - l)) := by
  simp only [rel]
  have hlen : ((rows.take h).drop l).length = h - l := by simp; omega
  refine ⟨_, c - l, by rw [hlen], by rw [hlen]; omega, ?_⟩
  rcases Nat.eq_or_lt_of_le h1 with rfl | hlt
  · exact .inl (List.eq_nil_of_length_eq_zero (by rw [hlen]; omega))
  · rcases hr with rfl | ⟨B, off, rfl, hr⟩
    · simp at h2; omega
    · refine .inr ⟨B, off + l * sz, ?_, fzs_of_get fun i r hi => ?_⟩
      · rw [if_neg (by omega)]
        simp [Addr.add_lit]
      · rw [List.getElem?_drop, List.getElem?_take] at hi
        split at hi
        · obtain ⟨q1, q2⟩ := fzs_get hr hi
          refine ⟨q1, ?_⟩
          rw [show off + l * sz + i * sz = off + (l + i) * sz by rw [Nat.add_mul]; omega]
          exact q2
        · cases hi

/-- A slice of an owned row, cut. -/
theorem sl_cut {e : TypeId} {id t off n sz : Nat} {rows : List (List AV)} {u : Value} (h : WRel S H w) (hx : rel S (.sl id t off n) (shape H) u) (hb : H[id]? = some (.arr e sz rows)) (ht : t = rows.length) {l k : Nat} (h1 : l ≤ k) (h2 : k ≤ n) :
    ∃ aa c, u = .slice aa n c ∧ k ≤ c ∧ rel S (.sl id t (off + l) (k - l)) (shape H) (.slice (if c = l then aa else aa.map (·.add (l * sz))) (k - l) (c - l)) := by
  obtain ⟨v1, v2⟩ := sl_valid hx hb ht
  cases hr : S.ρ id with
  | none =>
    rw [hr] at v2
    obtain ⟨rfl, aa, rfl⟩ := v2
    refine ⟨aa, 0, rfl, by omega, ?_⟩
    simp only [rel]
    refine ⟨_, sz, shape_get hb, by omega, rfl, fun _ => ⟨by omega, ?_⟩⟩
    rw [hr]
    have h3 : k = 0 := by omega
    subst h3
    have h4 : l = 0 := by omega
    subst h4
    exact ⟨rfl, aa, by simp⟩
  | some p =>
    obtain ⟨B, c⟩ := p
    rw [hr] at v2
    obtain ⟨aa, hu, ha⟩ := v2
    obtain ⟨_, hblk⟩ := h.blk id _ hb
    rw [hr] at hblk
    obtain ⟨arr, _, _, q3, _⟩ := hblk
    refine ⟨aa, c - off, hu, by omega, ?_⟩
    simp only [rel]
    refine ⟨_, sz, shape_get hb, by omega, rfl, fun _ => ⟨by omega, ?_⟩⟩
    rw [hr]
    refine ⟨_, by rw [show c - off - l = c - (off + l) by omega], fun hlt => ?_⟩
    rw [if_neg (by omega), ha (by omega)]
    simp [Addr.add_lit, Nat.add_mul]

theorem op_slc {t : TypeId} {x : Operand} {lo hi : Option Operand} (ho : o.op = .slice t x lo hi none) (hf : rels S fr (shape H) a.tmps.toList) (h : WRel S H w) {ax : AX} {alo ahi : Option AX} (hx : rx x = some ax) (hlo : optX lo = some alo) (hhi : optX hi = some ahi)
    {k : Option Nat} (hu : match k with | some sz => ∃ e, P.underlying t = some (.slice e) ∧ szOf P e = some sz | none => P.underlying t = some .string)
    (hs : sat arS P H (exec1 arS σr fr H (.slc k ax alo ahi)) K) : opRes P o a w (Done S H K) := by
  have gx := rx_rel hf hx
  simp only [exec1] at hs
  cases hnl : bndA fr alo with
  | none => rw [hnl] at hs; exact False.elim hs
  | some nl =>
    cases hnh : bndA fr ahi with
    | none => rw [hnl, hnh] at hs; exact False.elim hs
    | some nh =>
      rw [hnl, hnh] at hs
      have bl := bndA_rel hf hlo hnl
      have bh := bndA_rel hf hhi hnh
      simp only at hs
      have hex : execOp a.eval o = (do pure (.value (← Instr.sliceAt t (a.eval x) (lo.map a.eval) (hi.map a.eval) none))) := by simp only [execOp, ho, Option.map_none]
      generalize ev fr ax = vx at *
      cases k with
      | none =>
        cases vx <;> first | exact False.elim hs | skip
        rename_i s
        simp only [rel] at gx
        have go : ∀ (l k : Nat), (nl = none ∧ l = 0 ∨ nl = some (l : Int)) → (nh = none ∧ k = s.size ∨ nh = some (k : Int)) → l ≤ k → k ≤ s.size → K (.str (s.extract l k)) H → opRes P o a w (Done S H K) := by
          intro l k el eh h1 h2 hK
          exact op_of_run hex (by rw [gx]; exact run_sliceAt_string hu bl bh el eh h1 h2 w) h (by simp only [rel]) hK
        cases nl with
        | none =>
          cases nh with
          | none => refine go 0 s.size (.inl ⟨rfl, rfl⟩) (.inl ⟨rfl, rfl⟩) (by omega) (by omega) ?_; rw [ByteArray.extract_zero_size]; exact hs
          | some m =>
            obtain ⟨⟨q1, q2⟩, hs⟩ := hs
            have q1 : 0 ≤ m := q1
            have q2 : m ≤ ((s.size : Nat) : Int) := q2
            exact go 0 m.toNat (.inl ⟨rfl, rfl⟩) (.inr (by simp; omega)) (by omega) (by omega) hs
        | some l =>
          cases nh with
          | none =>
            obtain ⟨⟨q1, q2⟩, hs⟩ := hs
            have q1 : 0 ≤ l := q1
            have q2 : l ≤ ((s.size : Nat) : Int) := q2
            exact go l.toNat s.size (.inr (by simp; omega)) (.inl ⟨rfl, rfl⟩) (by omega) (by omega) hs
          | some m =>
            obtain ⟨⟨q1, q2, q3⟩, hs⟩ := hs
            have q1 : 0 ≤ l := q1
            have q2 : l ≤ m := q2
            have q3 : m ≤ ((s.size : Nat) : Int) := q3
            exact go l.toNat m.toNat (.inr (by simp; omega)) (.inr (by simp; omega)) (by omega) (by omega) hs
      | some z =>
        obtain ⟨e, hu, hsz⟩ := hu
        cases vx <;> first | exact False.elim hs | skip
        case nils =>
          obtain ⟨⟨q1, q1', q2, q2'⟩, hs⟩ := hs
          have q1 : nl.getD 0 = 0 := Int.le_antisymm q1 q1'
          have q2 : nh.getD 0 = 0 := Int.le_antisymm q2 q2'
          simp only [rel] at gx
          obtain ⟨aa, gx⟩ := gx
          refine op_of_run hex (by rw [gx]; exact run_sliceAt_slice hu hsz (l := 0) (h := 0) bl bh (by cases nl with | none => exact .inl ⟨rfl, rfl⟩ | some v => exact .inr (by simpa using q1)) (by cases nh with | none => exact .inl ⟨rfl, rfl⟩ | some v => exact .inr (by simpa using q2)) (by omega) (by omega) w) h (by simp only [rel]; exact ⟨_, rfl⟩) hs
        case inl sz rows =>
          simp only [slcA] at hs
          split at hs
          · rename_i hz
            subst hz
            simp only [rel] at gx
            obtain ⟨aa, c, gx, hc, g1⟩ := gx
            have go : ∀ (l k : Nat), (nl = none ∧ l = 0 ∨ nl = some (l : Int)) → (nh = none ∧ k = rows.length ∨ nh = some (k : Int)) → l ≤ k → k ≤ rows.length → K (.inl sz ((rows.take k).drop l)) H → opRes P o a w (Done S H K) := by
              intro l k el eh h1 h2 hK
              exact op_of_run hex (by rw [gx]; exact run_sliceAt_slice hu hsz bl bh el eh h1 (by omega) w) h (inl_cut hc g1 h1 h2) hK
            cases nl with
            | none =>
              cases nh with
              | none => refine go 0 rows.length (.inl ⟨rfl, rfl⟩) (.inl ⟨rfl, rfl⟩) (by omega) (by omega) ?_; rw [List.take_length, List.drop_zero]; exact hs
              | some m =>
                obtain ⟨⟨q1, q2⟩, hs⟩ := hs
                have q1 : 0 ≤ m := q1
                have q2 : m ≤ ((rows.length : Nat) : Int) := q2
                exact go 0 m.toNat (.inl ⟨rfl, rfl⟩) (.inr (by simp; omega)) (by omega) (by omega) hs
            | some l =>
              cases nh with
              | none =>
                obtain ⟨⟨q1, q2⟩, hs⟩ := hs
                have q1 : 0 ≤ l := q1
                have q2 : l ≤ ((rows.length : Nat) : Int) := q2
                refine go l.toNat rows.length (.inr (by simp; omega)) (.inl ⟨rfl, rfl⟩) (by omega) (by omega) ?_
                rw [List.take_length]; exact hs
              | some m =>
                obtain ⟨⟨q1, q2, q3⟩, hs⟩ := hs
                have q1 : 0 ≤ l := q1
                have q2 : l ≤ m := q2
                have q3 : m ≤ ((rows.length : Nat) : Int) := q3
                exact go l.toNat m.toNat (.inr (by simp; omega)) (.inr (by simp; omega)) (by omega) (by omega) hs
          · exact False.elim hs
        case sl id t' off n =>
          simp only [slcA, getL_eq] at hs
          cases hb : H[id]? with
          | none => rw [hb] at hs; exact False.elim hs
          | some b =>
            rw [hb] at hs
            cases b <;> first | exact False.elim hs | skip
            rename_i e' sz rows
            simp only at hs
            split at hs
            · rename_i hz
              subst hz
              have go : ∀ (l k : Nat), t' = rows.length → (nl = none ∧ l = 0 ∨ nl = some (l : Int)) → (nh = none ∧ k = n ∨ nh = some (k : Int)) → l ≤ k → k ≤ n → K (.sl id t' (off + l) (k - l)) H → opRes P o a w (Done S H K) := by
                intro l k ht el eh h1 h2 hK
                obtain ⟨aa, c, q1, q2, q3⟩ := sl_cut h gx hb ht h1 h2
                exact op_of_run hex (by rw [q1]; exact run_sliceAt_slice hu hsz bl bh el eh h1 q2 w) h q3 hK
              cases nl with
              | none =>
                cases nh with
                | none => obtain ⟨q1, hs⟩ := hs; exact go 0 n q1 (.inl ⟨rfl, rfl⟩) (.inl ⟨rfl, rfl⟩) (by omega) (by omega) hs
                | some m =>
                  obtain ⟨⟨q1, q2, q3⟩, hs⟩ := hs
                  have q1 : 0 ≤ m := q1
                  have q2 : m ≤ ((n : Nat) : Int) := q2
                  exact go 0 m.toNat q3 (.inl ⟨rfl, rfl⟩) (.inr (by simp; omega)) (by omega) (by omega) hs
              | some l =>
                cases nh with
                | none =>
                  obtain ⟨⟨q1, q2, q3⟩, hs⟩ := hs
                  have q1 : 0 ≤ l := q1
                  have q2 : l ≤ ((n : Nat) : Int) := q2
                  exact go l.toNat n q3 (.inr (by simp; omega)) (.inl ⟨rfl, rfl⟩) (by omega) (by omega) hs
                | some m =>
                  obtain ⟨⟨q1, q2, q3, q4⟩, hs⟩ := hs
                  have q1 : 0 ≤ l := q1
                  have q2 : l ≤ m := q2
                  have q3 : m ≤ ((n : Nat) : Int) := q3
                  exact go l.toNat m.toNat q4 (.inr (by simp; omega)) (.inr (by simp; omega)) (by omega) (by omega) hs
            · exact False.elim hs

end
end Go.Ab
