/- Each operation of the abstract machine is what the model does: the second part. -/
import Derived.Test.YtdmpiondalhonaaAbF
namespace Go.Ab
open Go
set_option linter.unusedVariables false
set_option linter.unusedSimpArgs false
variable {σr : RowF}

section
variable {P : Program} {S : RS} {H : List ABlk} {fr : List AV} {K : AV → List ABlk → Prop} {o : Oper} {a : Act} {w : World}

theorem op_pick {x y z : Operand} (ho : o.op = .pick x y z) (hf : rels S fr (shape H) a.tmps.toList) (h : WRel S H w) {ax ay az : AX} (hx : rx x = some ax) (hy : rx y = some ay) (hz : rx z = some az)
    (hs : sat arS P H (exec1 arS σr fr H (.pick ax ay az)) K) : opRes P o a w (Done S H K) := by
  have gx := rx_rel hf hx
  have gy := rx_rel hf hy
  have gz := rx_rel hf hz
  unfold opRes execOp
  simp only [ho]
  simp only [exec1] at hs
  generalize ev fr ax = vx at *
  cases vx
  case bool b =>
    simp only [rel] at gx
    rw [gx]
    cases b <;> (simp only [asBool, Sem.run_bind, Sem.run_pure, Result.andThen_ok, if_true, if_false, Bool.false_eq_true]; simp only [sat] at hs)
    · exact .here h gz hs
    · exact .here h gy hs
  case sb b =>
    simp only [rel] at gx
    rw [gx]
    simp only [sat] at hs
    cases b <;> (simp only [asBool, Sem.run_bind, Sem.run_pure, Result.andThen_ok, if_true, if_false, Bool.false_eq_true]; simp only [if_true, if_false, Bool.false_eq_true] at hs)
    · exact .here h gz hs
    · exact .here h gy hs
  all_goals exact False.elim hs

/-- What a valid address of a row is. -/
theorem ptr_valid {id t r o : Nat} {u : Value} {e : TypeId} {sz : Nat} {rows : List (List AV)} (hx : rel S (.ptr id t r o) (shape H) u) (hb : H[id]? = some (.arr e sz rows)) (ht : t = rows.length) :
    ∃ B c, S.ρ id = some (B, c) ∧ u = .pointer (some ⟨B, r * sz + o, none⟩) := by
  simp only [rel] at hx
  obtain ⟨m, sz', B, o', h1, h2, rfl, h3⟩ := hx
  rw [shape_get hb] at h1
  simp only [ABlk.shp, Option.some.injEq, Shp.row.injEq] at h1
  obtain ⟨rfl, rfl⟩ := h1
  obtain ⟨c, k1, rfl⟩ := h3 ht
  exact ⟨B, c, k1, rfl⟩

theorem lookM_some {P : Program} {n : String} {t : TypeId} {x : FuncId × Option (Option Nat)} (h : lookM (mtsOf P) n t = some x) : lookT (methTab P n) t = some x := by
  unfold mtsOf at h
  generalize ifNames P = l at h
  induction l with
  | nil => simp [lookM] at h
  | cons m l ih =>
    rw [List.filterMap_cons] at h
    cases hm : methTab P m with
    | nil => rw [hm] at h; exact ih h
    | cons a as =>
      rw [hm] at h
      simp only [lookM] at h
      split at h
      · rename_i hn; subst hn; rw [hm]; exact h
      · exact ih h

theorem lookT_mem : ∀ {l : List (TypeId × FuncId × Option (Option Nat))} {t : TypeId} {x : FuncId × Option (Option Nat)}, lookT l t = some x → (t, x.1, x.2) ∈ l
  | [], _, _, h => by simp [lookT] at h
  | (t', f, l) :: r, t, x, h => by
    simp only [lookT] at h
    split at h
    · rename_i ht
      injection h with h
      subst h ht
      simp
    · exact List.mem_cons_of_mem _ (lookT_mem h)

theorem run_nilAhead {P : Program} {n : String} {t : TypeId} {f : FuncId} {u : Value} (hl : lookT (methTab P n) t = some (f, none)) (w : World) :
    (nilAhead (P.types.size + Made.depth) t u n).run P w = .ok (some false) w := by
  have hmem := lookT_mem hl
  simp only [methTab, List.mem_filterMap] at hmem
  obtain ⟨t', _, hmem⟩ := hmem
  obtain ⟨k, hk⟩ : ∃ k, P.types.size + Made.depth = k + 1 := ⟨P.types.size + Made.depth - 1, by have h9 : 0 < Made.depth := (by decide); omega⟩
  rw [hk]
  cases hi : P.info? t' with
  | none => rw [hi] at hmem; cases hmem
  | some i =>
    rw [hi] at hmem
    simp only at hmem
    cases hm : i.methods.find? (·.name == n) with
    | none => rw [hm] at hmem; cases hmem
    | some me =>
      rw [hm] at hmem
      simp only at hmem
      split at hmem
      · rename_i hpath
        have hpath' : me.path.toList = [] := by simpa using hpath
        cases hfunc : me.func with
        | none => rw [hfunc] at hmem; cases hmem
        | some fp =>
          obtain ⟨f', pr⟩ := fp
          cases hund : P.underlying t' with
          | none => rw [hfunc, hund] at hmem; cases pr <;> cases hmem
          | some d =>
            rw [hfunc, hund] at hmem
            cases pr with
            | true =>
              have ht : t' = t := by
                cases d <;> first | exact congrArg Prod.fst (Option.some.inj hmem) | cases hmem
              subst ht
              simp only [nilAhead, Sem.run_bind, run_info hi, Result.andThen_ok, hm, hpath', followBlind, Sem.run_pure, hfunc]
            | false =>
              cases d with
              | pointer e =>
                simp only [Option.map_eq_some_iff] at hmem
                obtain ⟨ll, _, hmem⟩ := hmem
                injection hmem with e1 e2
                injection e2 with e2 e3
                cases e3
              | _ =>
                have ht : t' = t := congrArg Prod.fst (Option.some.inj hmem)
                subst ht
                simp only [nilAhead, Sem.run_bind, run_info hi, Result.andThen_ok, hm, hpath', followBlind, Sem.run_pure, hfunc, run_underlying hund]
      · cases hmem

theorem op_nilc {x : Operand} (ho : o.op = .nilCheck x) (hf : rels S fr (shape H) a.tmps.toList) (h : WRel S H w) {ax : AX} (hx : rx x = some ax)
    (hs : sat arS P H (exec1 arS σr fr H (.nilc (mtsOf P) ax)) K) : opRes P o a w (Done S H K) := by
  have gx := rx_rel hf hx
  unfold opRes execOp
  simp only [ho]
  simp only [exec1] at hs
  generalize ev fr ax = vx at *
  cases vx
  case ptr id t r off =>
    have gx' := gx
    simp only [rel] at gx
    obtain ⟨m, sz, B, o', h1, h2, h3, _⟩ := gx
    simp only [sat] at hs
    rw [h3] at gx' ⊢
    exact .here h gx' hs
  case bptr id off =>
    have gx' := gx
    simp only [rel] at gx
    obtain ⟨n, B, c, h1, h2, h3⟩ := gx
    simp only [sat] at hs
    rw [h3] at gx' ⊢
    exact .here h gx' hs
  case iptr cs =>
    have gx' := gx
    simp only [rel] at gx
    obtain ⟨B, c, h1, h2⟩ := gx
    simp only [sat] at hs
    rw [h1] at gx' ⊢
    exact .here h gx' hs
  case fn f fi ca =>
    cases f
    case func f =>
      have gx' := gx
      simp only [rel] at gx
      obtain ⟨x, y, h1, h2, h3⟩ := gx
      simp only [sat] at hs
      rw [h1] at gx' ⊢
      exact .here h gx' hs
    case method n =>
      simp only at hs
      by_cases hm : mvalOk (mtsOf P) n fi ca = true
      · rw [if_pos hm] at hs
        have gx' := gx
        simp only [rel] at gx
        obtain ⟨p, q, h1, h2, h3⟩ := gx
        unfold mvalOk at hm
        split at hm
        · rename_i t v
          split at hm
          · rename_i f hl
            obtain ⟨p⟩ := p
            simp only [rels, rel] at h2
            obtain ⟨p0, ps, rfl, ⟨u, rfl, h4⟩, rfl⟩ := h2
            have hr := run_nilAhead (u := u) (lookM_some hl) w
            simp only [sat] at hs
            rw [h1] at gx' ⊢
            simp only [List.getElem?_toArray, List.getElem?_cons_zero, Sem.run_bind, run_program, Result.andThen_ok, hr]
            exact .here h gx' hs
          · cases hm
        · cases hm
      · rw [if_neg hm] at hs; exact False.elim hs
    all_goals exact False.elim hs
  all_goals exact False.elim hs

/-! arithmetic -/
theorem run_eqGuard_int {op : BinOp} {t : TypeId} {x y : Operand} {k k' : IntKind} {m n : Int} (w : World) : (eqGuard op t x y (.int k m) (.int k' n)).run P w = .ok () w := by
  unfold eqGuard
  cases op <;> rfl
theorem run_eqGuard_str {op : BinOp} {t : TypeId} {x y : Operand} {m n : ByteArray} (w : World) : (eqGuard op t x y (.string m) (.string n)).run P w = .ok () w := by
  unfold eqGuard
  cases op <;> rfl
theorem run_eqGuard_bool {op : BinOp} {t : TypeId} {x y : Operand} {m n : Bool} (w : World) : (eqGuard op t x y (.bool m) (.bool n)).run P w = .ok () w := by
  unfold eqGuard
  cases op <;> rfl

theorem nd_arS (p : Cnd) : arS.nd p = p.holds := rfl

theorem run_bin_int {k k' : IntKind} {op : BinOp} {t : TypeId} {m n : Int} (w : World) {K : AV → List ABlk → Prop} (hs : sat arS P H (binA arS op (.int k m) (.int k' n) H) K) :
    ∃ v u, (binOp op t (.int k m) (.int k' n)).run P w = .ok u w ∧ rel S v (shape H) u ∧ K v H := by
  by_cases hsh : op = .shl ∨ op = .shr
  · rcases hsh with rfl | rfl
    · simp only [binA, sat, nd_arS] at hs
      obtain ⟨hb, hs⟩ := hs
      have hb' : ¬ n < 0 := Int.not_lt.2 hb
      exact ⟨_, .int k (iopS .shl k m n), by simp [binOp, Op.shift, hb', iopS, Nat.min_def], by simp only [rel]; rfl, hs⟩
    · simp only [binA, sat, nd_arS] at hs
      obtain ⟨hb, hs⟩ := hs
      have hb' : ¬ n < 0 := Int.not_lt.2 hb
      exact ⟨_, .int k (iopS .shr k m n), by simp [binOp, Op.shift, hb', iopS, Nat.min_def], by simp only [rel]; rfl, hs⟩
  · by_cases hk : k = k'
    · subst hk
      cases op <;> simp only [binA, if_true, sat, nd_arS] at hs
      case add => exact ⟨_, .int k (iopS .add k m n), by simp [binOp, Op.intArith, iopS], by simp only [rel]; rfl, hs⟩
      case sub => exact ⟨_, .int k (iopS .sub k m n), by simp [binOp, Op.intArith, iopS], by simp only [rel]; rfl, hs⟩
      case mul => exact ⟨_, .int k (iopS .mul k m n), by simp [binOp, Op.intArith, iopS], by simp only [rel]; rfl, hs⟩
      case and => exact ⟨_, .int k (iopS .and k m n), by simp [binOp, Op.intBits, iopS], by simp only [rel]; rfl, hs⟩
      case or => exact ⟨_, .int k (iopS .or k m n), by simp [binOp, Op.intBits, iopS], by simp only [rel]; rfl, hs⟩
      case xor => exact ⟨_, .int k (iopS .xor k m n), by simp [binOp, Op.intBits, iopS], by simp only [rel]; rfl, hs⟩
      case andNot => exact ⟨_, .int k (iopS .andNot k m n), by simp [binOp, Op.intBits, iopS], by simp only [rel]; rfl, hs⟩
      case quo => obtain ⟨hb, hs⟩ := hs; have hb : n ≠ 0 := hb; exact ⟨_, .int k (iopS .quo k m n), by simp [binOp, Op.intDiv, hb, iopS], by simp only [rel]; rfl, hs⟩
      case rem => obtain ⟨hb, hs⟩ := hs; have hb : n ≠ 0 := hb; exact ⟨_, .int k (iopS .rem k m n), by simp [binOp, Op.intDiv, hb, iopS], by simp only [rel]; rfl, hs⟩
      case eql => exact ⟨_, .bool (cmpS .eql m n), by simp [binOp, Op.intCmp, cmpS], by simp only [rel]; rfl, hs⟩
      case neq => exact ⟨_, .bool (cmpS .neq m n), by simp [binOp, Op.intCmp, cmpS], by simp only [rel]; rfl, hs⟩
      case lss => exact ⟨_, .bool (cmpS .lss m n), by simp [binOp, Op.intCmp, cmpS], by simp only [rel]; rfl, hs⟩
      case leq => exact ⟨_, .bool (cmpS .leq m n), by simp [binOp, Op.intCmp, cmpS], by simp only [rel]; rfl, hs⟩
      case gtr => exact ⟨_, .bool (cmpS .gtr m n), by simp [binOp, Op.intCmp, cmpS], by simp only [rel]; rfl, hs⟩
      case geq => exact ⟨_, .bool (cmpS .geq m n), by simp [binOp, Op.intCmp, cmpS], by simp only [rel]; rfl, hs⟩
      all_goals exact absurd (by simp) hsh
    · exfalso
      cases op <;> simp [binA, hk] at hs hsh <;> exact hs

theorem run_bin_str {op : BinOp} {t : TypeId} {m n : ByteArray} (w : World) {K : AV → List ABlk → Prop} (hs : sat arS P H (binA arS op (.str m) (.str n) H) K) :
    ∃ v u, (binOp op t (.string m) (.string n)).run P w = .ok u w ∧ rel S v (shape H) u ∧ K v H := by
  cases op <;> simp only [binA, sat, nd_arS] at hs
  case add =>
    obtain ⟨hb, hs⟩ := hs
    have hb : m.size + n.size ≤ 9223372036854775807 := hb
    refine ⟨_, .string (m ++ n), ?_, by simp only [rel]; rfl, hs⟩
    have : ¬ (IntKind.i64.max < ((m.size + n.size : Nat) : Int)) := by
      have : IntKind.i64.max = 9223372036854775807 := by decide
      omega
    simp only [binOp, Op.stringOp]
    rw [if_neg (by simpa using this)]
    rfl
  case eql => exact ⟨_, .bool (sopS .eql m n), by simp [binOp, Op.stringOp, sopS], by simp only [rel]; rfl, hs⟩
  case neq => exact ⟨_, .bool (sopS .neq m n), by simp [binOp, Op.stringOp, sopS], by simp only [rel]; rfl, hs⟩
  case lss => exact ⟨_, .bool (sopS .lss m n), by simp [binOp, Op.stringOp, sopS], by simp only [rel]; rfl, hs⟩
  case leq => exact ⟨_, .bool (sopS .leq m n), by simp [binOp, Op.stringOp, sopS], by simp only [rel]; rfl, hs⟩
  case gtr => exact ⟨_, .bool (sopS .gtr m n), by simp [binOp, Op.stringOp, sopS], by simp only [rel]; rfl, hs⟩
  case geq => exact ⟨_, .bool (sopS .geq m n), by simp [binOp, Op.stringOp, sopS], by simp only [rel]; rfl, hs⟩

theorem equal_succ (t : TypeId) (x y : Value) : ∃ d, Op.equal t x y = Op.equalIn (d + 1) t x y := ⟨9999, rfl⟩

theorem run_eq_bool {t : TypeId} {m n : Bool} (ht : P.underlying t = some .bool) (w : World) : (Op.equal t (.bool m) (.bool n)).run P w = .ok (m == n) w := by
  obtain ⟨d, hd⟩ := equal_succ t (.bool m) (.bool n)
  rw [hd, run_equalIn_bool' w d t m n ht]

theorem nilQ_sat {x : AV} {u : Value} {k : Bool → Out} (hx : rel S x (shape H) u) (h : WRel S H w) (hs : sat arS P H (nilQ x H k) K) : ∃ p, u = .pointer p ∧ sat arS P H (k p.isNone) K := by
  cases x
  case nilp => simp only [rel] at hx; exact ⟨none, hx, hs⟩
  case bptr id o => simp only [rel] at hx; obtain ⟨_, B, c, _, _, rfl⟩ := hx; exact ⟨_, rfl, hs⟩
  case iptr cs => simp only [rel] at hx; obtain ⟨B, o, rfl, _⟩ := hx; exact ⟨_, rfl, hs⟩
  case ptr id t r o => simp only [rel] at hx; obtain ⟨m, sz, B, o', _, _, rfl, _⟩ := hx; exact ⟨_, rfl, hs⟩
  all_goals exact False.elim hs

theorem run_eqGuard_ptr {op : BinOp} {t : TypeId} {x y : Operand} {m n : Option Addr} (w : World) : (eqGuard op t x y (.pointer m) (.pointer n)).run P w = .ok () w := by
  unfold eqGuard
  cases op <;> rfl

theorem run_eq_nil_r {t e : TypeId} {m : Option Addr} (ht : P.underlying t = some (.pointer e)) (w : World) : (Op.equal t (.pointer m) (.pointer none)).run P w = .ok m.isNone w := by
  obtain ⟨d, hd⟩ := equal_succ t (.pointer m) (.pointer none)
  rw [hd]
  cases m <;> simp only [Op.equalIn, Sem.run_bind, run_underlying ht, Result.andThen_ok] <;> rfl
theorem run_eq_nil_l {t e : TypeId} {m : Option Addr} (ht : P.underlying t = some (.pointer e)) (w : World) : (Op.equal t (.pointer none) (.pointer m)).run P w = .ok m.isNone w := by
  obtain ⟨d, hd⟩ := equal_succ t (.pointer none) (.pointer m)
  rw [hd]
  cases m <;> simp only [Op.equalIn, Sem.run_bind, run_underlying ht, Result.andThen_ok] <;> rfl

theorem isNilp_true {x : AV} (h : isNilp x = true) : x = .nilp := by cases x <;> simp [isNilp] at h; rfl

theorem nil2_sat {t e : TypeId} {x y : AV} {u v : Value} {k : Bool → Out} (ht : P.underlying t = some (.pointer e)) (hx : rel S x (shape H) u) (hy : rel S y (shape H) v) (h : WRel S H w) (hs : sat arS P H (nil2 x y H k) K) :
    ∃ p q b, u = .pointer p ∧ v = .pointer q ∧ (Op.equal t (.pointer p) (.pointer q)).run P w = .ok b w ∧ sat arS P H (k b) K := by
  unfold nil2 at hs
  cases h1 : isNilp y <;> rw [h1] at hs
  · cases h2 : isNilp x <;> rw [h2] at hs
    · exact False.elim hs
    · obtain rfl := isNilp_true h2
      obtain ⟨q, rfl, hs⟩ := nilQ_sat hy h hs
      simp only [rel] at hx
      subst hx
      exact ⟨none, q, _, rfl, rfl, run_eq_nil_l ht w, hs⟩
  · obtain rfl := isNilp_true h1
    obtain ⟨p, rfl, hs⟩ := nilQ_sat hx h hs
    simp only [rel] at hy
    subst hy
    exact ⟨p, none, _, rfl, rfl, run_eq_nil_r ht w, hs⟩

theorem run_eql {t : TypeId} {u v : Value} {b : Bool} {w : World} (hu : (∃ p, u = .pointer p) ∧ (∃ p, v = .pointer p) ∨ (∃ p, u = .bool p) ∧ (∃ p, v = .bool p) ∨ (∃ p, u = .agg p) ∧ (∃ p, v = .agg p))
    (h : (Op.equal t u v).run P w = .ok b w) : (binOp .eql t u v).run P w = .ok (.bool b) w ∧ (binOp .neq t u v).run P w = .ok (.bool (!b)) w := by
  rcases hu with ⟨⟨p, rfl⟩, ⟨q, rfl⟩⟩ | ⟨⟨p, rfl⟩, ⟨q, rfl⟩⟩ | ⟨⟨p, rfl⟩, ⟨q, rfl⟩⟩
  all_goals exact ⟨by simp only [binOp, Sem.run_bind, h, Result.andThen_ok, Sem.run_pure], by simp only [binOp, Sem.run_bind, h, Result.andThen_ok, Sem.run_pure]⟩

theorem eqC_run {k : Nat} {x y : AV} {u v : Value} {t : TypeId} {b : Bool} {T : Sh} (hx : rel S x T u) (hy : rel S y T v) (h : eqC arS k x y = some b)
    (ht : (k = 0 ∧ ∃ k, P.underlying t = some (.int k)) ∨ (k = 1 ∧ P.underlying t = some .bool) ∨ (k = 2 ∧ P.underlying t = some .string)) (d : Nat) (w : World) : (Op.equalIn (d + 1) t u v).run P w = .ok b w := by
  rcases ht with ⟨rfl, k, ht⟩ | ⟨rfl, ht⟩ | ⟨rfl, ht⟩
  · cases x <;> cases y <;> simp only [eqC] at h <;> try cases h
    split at h
    · rename_i hk
      subst hk
      injection h with h
      subst h
      simp only [rel] at hx hy
      subst hx hy
      exact run_equalIn_int w d t _ k _ _ ht
    · cases h
  · cases x <;> cases y <;> simp only [eqC] at h <;> try cases h
    simp only [rel] at hx hy
    subst hx hy
    exact run_equalIn_bool' w d t _ _ ht
  · cases x <;> cases y <;> simp only [eqC] at h <;> try cases h
    simp only [rel] at hx hy
    subst hx hy
    exact run_equalIn_string w d t _ _ ht

theorem eqF_run {T : Sh} (d : Nat) : ∀ (fs : List Field) (l : List (Nat × Nat)) {xs ys : List AV} {us vs : Array Value} {b : Bool}, rels S xs T us.toList → rels S ys T vs.toList → flatOffs P fs = some l → eqF arS xs ys l = some b →
    ∀ w, (Op.eqFields (d + 1) us vs fs).run P w = .ok b w
  | [], l, xs, ys, us, vs, b, hx, hy, hf, he, w => by
    simp only [flatOffs, Option.some.injEq] at hf
    subst hf
    simp only [eqF, Option.some.injEq] at he
    subst he
    rfl
  | f :: fs, l, xs, ys, us, vs, b, hx, hy, hf, he, w => by
    unfold flatOffs at hf
    split at hf
    · rename_i hname
      have key : ∃ k l', l = (f.offset, k) :: l' ∧ flatOffs P fs = some l' ∧ ((k = 0 ∧ ∃ k, P.underlying f.type = some (.int k)) ∨ (k = 1 ∧ P.underlying f.type = some .bool) ∨ (k = 2 ∧ P.underlying f.type = some .string)) := by
        cases hu : P.underlying f.type with
        | none => rw [hu] at hf; cases hf
        | some dd =>
          rw [hu] at hf
          cases dd
          case int k => obtain ⟨l', h1, h2⟩ := Option.map_eq_some_iff.1 hf; exact ⟨0, l', h2.symm, h1, .inl ⟨rfl, k, rfl⟩⟩
          case bool => obtain ⟨l', h1, h2⟩ := Option.map_eq_some_iff.1 hf; exact ⟨1, l', h2.symm, h1, .inr (.inl ⟨rfl, rfl⟩)⟩
          case string => obtain ⟨l', h1, h2⟩ := Option.map_eq_some_iff.1 hf; exact ⟨2, l', h2.symm, h1, .inr (.inr ⟨rfl, rfl⟩)⟩
          all_goals cases hf
      obtain ⟨k, l', rfl, hl', hk⟩ := key
      simp only [eqF, getL_eq] at he
      cases hx1 : xs[f.offset]? with
      | none => rw [hx1] at he; cases he
      | some x =>
        cases hy1 : ys[f.offset]? with
        | none => rw [hx1, hy1] at he; cases he
        | some y =>
          rw [hx1, hy1] at he
          simp only at he
          cases hc : eqC arS k x y with
          | none => rw [hc] at he; cases he
          | some b1 =>
            cases hr : eqF arS xs ys l' with
            | none => rw [hc, hr] at he; cases he
            | some b2 =>
              rw [hc, hr] at he
              injection he with he
              subst he
              obtain ⟨u, gu, ru⟩ := rels_get hx hx1
              obtain ⟨v, gv, rv⟩ := rels_get hy hy1
              rw [Array.getElem?_toList] at gu gv
              have hna : isAg P f.type = some false := by
                unfold isAg
                rcases hk with ⟨_, k, hk⟩ | ⟨_, hk⟩ | ⟨_, hk⟩ <;> rw [hk]
              have pu : (part f.type us f.offset).run P w = .ok u w := by simp [part, run_isAg hna, gu]
              have pv : (part f.type vs f.offset).run P w = .ok v w := by simp [part, run_isAg hna, gv]
              have hq := eqC_run (P := P) ru rv hc hk d w
              have ih := eqF_run d fs l' hx hy hl' hr w
              simp only [Op.eqFields, ne_eq, hname, not_false_eq_true, if_true, Sem.run_bind, pu, pv, hq, Result.andThen_ok, Sem.run_ite, Sem.run_pure, ih]
              cases b1 <;> simp [arS]
    · cases hf

theorem op_bin {op : BinOp} {t t' : TypeId} {x y : Operand} (ho : o.op = .binOp op t x y t') (hf : rels S fr (shape H) a.tmps.toList) (h : WRel S H w) {ax ay : AX} (hx : rx x = some ax) (hy : rx y = some ay)
    (hs : sat arS P H (exec1 arS σr fr H (.bin op (tkOf P t) ax ay)) K) : opRes P o a w (Done S H K) := by
  have gx := rx_rel hf hx
  have gy := rx_rel hf hy
  have key : ∃ v u, (eqGuard op t x y (a.eval x) (a.eval y)).run P w = .ok () w ∧ (binOp op t (a.eval x) (a.eval y)).run P w = .ok u w ∧ rel S v (shape H) u ∧ K v H := by
    simp only [exec1] at hs
    generalize ev fr ax = vx at *
    generalize ev fr ay = vy at *
    generalize a.eval x = ux at *
    generalize a.eval y = uy at *
    unfold binQ at hs
    split at hs
    · simp only [rel] at gx gy
      subst gx gy
      obtain ⟨v, u, h1, h2, h3⟩ := run_bin_int (S := S) (t := t) w (K := K) hs
      exact ⟨v, u, run_eqGuard_int w, h1, h2, h3⟩
    · simp only [rel] at gx gy
      subst gx gy
      obtain ⟨v, u, h1, h2, h3⟩ := run_bin_str (S := S) (t := t) w (K := K) hs
      exact ⟨v, u, run_eqGuard_str w, h1, h2, h3⟩
    · rename_i xs ys
      simp only [rel] at gx gy
      obtain ⟨us, rfl, gx, _⟩ := gx
      obtain ⟨vs, rfl, gy, _⟩ := gy
      have hk : ∀ offs, tkOf P t = .ag offs → ∃ fs : Array Field, P.underlying t = some (.struct fs) ∧ P.stoodInHeld t = false ∧ P.eqGuardType P.depth t = false ∧ flatOffs P fs.toList = some offs := by
        intro offs hk
        unfold tkOf at hk
        cases hu : P.underlying t with
        | none => rw [hu] at hk; cases hk
        | some dd =>
          rw [hu] at hk
          cases dd <;> simp only at hk <;> try cases hk
          rename_i fs
          split at hk
          · rename_i hc
            cases hl : flatOffs P fs.toList with
            | none => rw [hl] at hk; cases hk
            | some l => rw [hl] at hk; injection hk with hk; subst hk; exact ⟨fs, rfl, hc.1, hc.2, hl⟩
          · cases hk
      have run : ∀ offs b, tkOf P t = .ag offs → eqF arS xs ys offs = some b → (eqGuard op t x y (.agg us) (.agg vs)).run P w = .ok () w ∧ (Op.equal t (.agg us) (.agg vs)).run P w = .ok b w := by
        intro offs b hk' hb
        obtain ⟨fs, h1, h2, h3, h4⟩ := hk offs hk'
        refine ⟨run_eqGuard_agg w op t x y us vs h3, ?_⟩
        have hfs : P.fieldsOf t = fs := by simp [Program.fieldsOf, h1]
        show (Op.equalIn (9999 + 1) t (.agg us) (.agg vs)).run P w = .ok b w
        rw [run_equalIn_struct w 9999 t us vs (by rw [hfs]; exact h1) h2, hfs]
        exact eqF_run 9998 fs.toList offs gx gy h4 hb w
      cases hk' : tkOf P t with
      | ag offs =>
        rw [hk'] at hs
        cases op
        case eql =>
          simp only at hs
          cases hb : eqF arS xs ys offs with
          | none => rw [hb] at hs; exact False.elim hs
          | some b =>
            rw [hb] at hs
            obtain ⟨r1, r2⟩ := run offs b hk' hb
            exact ⟨_, _, r1, (run_eql (.inr (.inr ⟨⟨_, rfl⟩, ⟨_, rfl⟩⟩)) r2).1, by simp only [rel], hs⟩
        case neq =>
          simp only at hs
          cases hb : eqF arS xs ys offs with
          | none => rw [hb] at hs; exact False.elim hs
          | some b =>
            rw [hb] at hs
            obtain ⟨r1, r2⟩ := run offs b hk' hb
            exact ⟨_, _, r1, (run_eql (.inr (.inr ⟨⟨_, rfl⟩, ⟨_, rfl⟩⟩)) r2).2, by simp only [rel]; rfl, hs⟩
        all_goals exact False.elim hs
      | _ => rw [hk'] at hs; exact False.elim hs
    · unfold tkOf at hs
      cases hu : P.underlying t with
      | none => rw [hu] at hs; exact False.elim hs
      | some dd =>
        rw [hu] at hs
        cases dd <;> simp only at hs
        case bool =>
          cases op <;> simp only at hs <;> try exact False.elim hs
          all_goals
            cases hvx : sym vx <;> rw [hvx] at hs <;> (try exact False.elim hs)
            cases hvy : sym vy <;> rw [hvy] at hs <;> (try exact False.elim hs)
            have gx' := sym_rel gx
            have gy' := sym_rel gy
            rw [hvx] at gx'
            rw [hvy] at gy'
            simp only [rel] at gx' gy'
            subst gx' gy'
          · exact ⟨_, _, run_eqGuard_bool w, (run_eql (.inr (.inl ⟨⟨_, rfl⟩, ⟨_, rfl⟩⟩)) (run_eq_bool hu w)).1, by simp only [rel]; rfl, hs⟩
          · exact ⟨_, _, run_eqGuard_bool w, (run_eql (.inr (.inl ⟨⟨_, rfl⟩, ⟨_, rfl⟩⟩)) (run_eq_bool hu w)).2, by simp only [rel]; rfl, hs⟩
        case pointer e =>
          cases op <;> simp only at hs <;> try exact False.elim hs
          · obtain ⟨p, q, b, rfl, rfl, h1, h2⟩ := nil2_sat hu gx gy h hs
            exact ⟨_, _, run_eqGuard_ptr w, (run_eql (.inl ⟨⟨_, rfl⟩, ⟨_, rfl⟩⟩) h1).1, by simp only [rel], h2⟩
          · obtain ⟨p, q, b, rfl, rfl, h1, h2⟩ := nil2_sat hu gx gy h hs
            exact ⟨_, _, run_eqGuard_ptr w, (run_eql (.inl ⟨⟨_, rfl⟩, ⟨_, rfl⟩⟩) h1).2, by simp only [rel], h2⟩
        case struct fs =>
          generalize hkk : (if P.stoodInHeld t = false ∧ P.eqGuardType P.depth t = false then (match flatOffs P fs.toList with | some l => TK.ag l | none => TK.o) else TK.o) = kk at hs
          have hk2 : kk = .o ∨ ∃ l, kk = .ag l := by
            rw [← hkk]
            split
            · split
              · exact .inr ⟨_, rfl⟩
              · exact .inl rfl
            · exact .inl rfl
          rcases hk2 with rfl | ⟨l, rfl⟩ <;> (cases op <;> exact False.elim hs)
        all_goals (cases op <;> exact False.elim hs)
  obtain ⟨v, u, h1, h2, h3, h4⟩ := key
  unfold opRes execOp
  simp only [ho, Sem.run_bind, h1, h2, Result.andThen_ok, Sem.run_pure]
  exact .here h h3 h4

theorem run_eqGuard_slice {op : BinOp} {t : TypeId} {x y : Operand} {m n : Option Addr} {a b c d : Nat} (w : World) : (eqGuard op t x y (.slice m a b) (.slice n c d)).run P w = .ok () w := by
  unfold eqGuard
  cases op <;> rfl
theorem run_eq_nilS {t e : TypeId} {m : Option Addr} {n c : Nat} (ht : P.underlying t = some (.slice e)) (w : World) : (Op.equal t (.slice m n c) (.slice none 0 0)).run P w = .ok m.isNone w := by
  obtain ⟨d, hd⟩ := equal_succ t (.slice m n c) (.slice none 0 0)
  rw [hd]
  cases m <;> simp only [Op.equalIn, Sem.run_bind, run_underlying ht, Result.andThen_ok] <;> rfl
end
end Go.Ab
