import Derived.Test.YtmmoffbompnihaaDoorLayA
namespace Go.Ab
open Go
set_option linter.unusedVariables false
set_option linter.unusedSimpArgs false
variable {σr : RowF}
section
variable {P : Program} {S : RS} {H : List ABlk} {fr : List AV} {K : AV → List ABlk → Prop} {o : Oper} {a : Act} {w : World}
theorem op_pick {x y z : Operand} (ho : o.op = .pick x y z) (hf : rels S fr (shape H) a.tmps.toList) (h : WRel S H w) {ax ay az : AX} (hx : rx x = some ax) (hy : rx y = some ay) (hz : rx z = some az)
  (hs : sat arS P H (exec1 arS σr fr H (.pick ax ay az)) K) : opRes P o a w (Done S H K) := by
 have gx := rx_rel hf hx
 have gy := rx_rel hf hy
 have gz := rx_rel hf hz
 unfold opRes execOp
 simp only [ho]
 simp only [exec1] at hs
 generalize ev fr ax = vx at *
 cases vx
 case bool b =>
  simp only [rel] at gx
  rw [gx]
  cases b <;> (simp only [asBool, Sem.run_bind, Sem.run_pure, Result.andThen_ok, if_true, if_false, Bool.false_eq_true]; simp only [sat] at hs)
  ·exact .here h gz hs
  ·exact .here h gy hs
 case sb b =>
  simp only [rel] at gx
  rw [gx]
  simp only [sat] at hs
  cases b <;> (simp only [asBool, Sem.run_bind, Sem.run_pure, Result.andThen_ok, if_true, if_false, Bool.false_eq_true]; simp only [if_true, if_false, Bool.false_eq_true] at hs)
  ·exact .here h gz hs
  ·exact .here h gy hs
 all_goals exact False.elim hs
theorem ptr_valid {id t r o : Nat} {u : Value} {e : TypeId} {sz : Nat} {rows : List (List AV)} (hx : rel S (.ptr id t r o) (shape H) u) (hb : H[id]? = some (.arr e sz rows)) (ht : t = rows.length) :
  ∃ B c, S.ρ id = some (B, c) ∧ u = .pointer (some ⟨B, r * sz + o, none⟩) := by
 simp only [rel] at hx
 obtain ⟨m, sz', B, o', h1, h2, rfl, h3⟩ := hx
 rw [shape_get hb] at h1
 simp only [ABlk.shp, Option.some.injEq, Shp.row.injEq] at h1
 obtain ⟨rfl, rfl⟩ := h1
 obtain ⟨c, k1, rfl⟩ := h3 ht
 exact ⟨B, c, k1, rfl⟩
theorem lookM_some {P : Program} {n : String} {t : TypeId} {x : FuncId × Option (Option Nat)} (h : lookM (mtsOf P) n t = some x) : lookT (methTab P n) t = some x := by
 unfold mtsOf at h
 generalize ifNames P = l at h
 induction l with
 | nil => simp [lookM] at h
 | cons m l ih =>
  rw [List.filterMap_cons] at h
  cases hm : methTab P m with
  | nil => rw [hm] at h; exact ih h
  | cons a as =>
   rw [hm] at h
   simp only [lookM] at h
   split at h
   ·rename_i hn; subst hn; rw [hm]; exact h
   ·exact ih h
theorem lookT_mem : ∀ {l : List (TypeId × FuncId × Option (Option Nat))} {t : TypeId} {x : FuncId × Option (Option Nat)}, lookT l t = some x → (t, x.1, x.2) ∈ l
 | [], _, _, h => by simp [lookT] at h
 | (t', f, l) :: r, t, x, h => by
  simp only [lookT] at h
  split at h
  ·rename_i ht
   injection h with h
   subst h ht
   simp
  ·exact List.mem_cons_of_mem _ (lookT_mem h)
theorem run_nilAhead {P : Program} {n : String} {t : TypeId} {f : FuncId} {u : Value} (hl : lookT (methTab P n) t = some (f, none)) (w : World) :
  (nilAhead (P.types.size + Made.depth) t u n).run P w = .ok (some false) w := by
 have hmem := lookT_mem hl
 simp only [methTab, List.mem_filterMap] at hmem
 obtain ⟨t', _, hmem⟩ := hmem
 obtain ⟨k, hk⟩ : ∃ k, P.types.size + Made.depth = k + 1 := ⟨P.types.size + Made.depth - 1, by have h9 : 0 < Made.depth := (by decide); omega⟩
 rw [hk]
 cases hi : P.info? t' with
 | none => rw [hi] at hmem; cases hmem
 | some i =>
  rw [hi] at hmem
  simp only at hmem
  cases hm : i.methods.find? (·.name == n) with
  | none => rw [hm] at hmem; cases hmem
  | some me =>
   rw [hm] at hmem
   simp only at hmem
   split at hmem
   ·rename_i hpath
    have hpath' : me.path.toList = [] := by simpa using hpath
    cases hfunc : me.func with
    | none => rw [hfunc] at hmem; cases hmem
    | some fp =>
     obtain ⟨f', pr⟩ := fp
     cases hund : P.underlying t' with
     | none => rw [hfunc, hund] at hmem; cases pr <;> cases hmem
     | some d =>
      rw [hfunc, hund] at hmem
      cases pr with
      | true =>
       have ht : t' = t := by
        cases d <;> first | exact congrArg Prod.fst (Option.some.inj hmem) | cases hmem
       subst ht
       simp only [nilAhead, Sem.run_bind, run_info hi, Result.andThen_ok, hm, hpath', followBlind, Sem.run_pure, hfunc]
      | false =>
       cases d with
       | pointer e =>
        simp only [Option.map_eq_some_iff] at hmem
        obtain ⟨ll, _, hmem⟩ := hmem
        injection hmem with e1 e2
        injection e2 with e2 e3
        cases e3
       | _ =>
        have ht : t' = t := congrArg Prod.fst (Option.some.inj hmem)
        subst ht
        simp only [nilAhead, Sem.run_bind, run_info hi, Result.andThen_ok, hm, hpath', followBlind, Sem.run_pure, hfunc, run_underlying hund]
   ·cases hmem
theorem op_nilc {x : Operand} (ho : o.op = .nilCheck x) (hf : rels S fr (shape H) a.tmps.toList) (h : WRel S H w) {ax : AX} (hx : rx x = some ax)
  (hs : sat arS P H (exec1 arS σr fr H (.nilc (mtsOf P) ax)) K) : opRes P o a w (Done S H K) := by
 have gx := rx_rel hf hx
 unfold opRes execOp
 simp only [ho]
 simp only [exec1] at hs
 generalize ev fr ax = vx at *
 cases vx
 case ptr id t r off =>
  have gx' := gx
  simp only [rel] at gx
  obtain ⟨m, sz, B, o', h1, h2, h3, _⟩ := gx
  simp only [sat] at hs
  rw [h3] at gx' ⊢
  exact .here h gx' hs
 case bptr id off =>
  have gx' := gx
  simp only [rel] at gx
  obtain ⟨n, B, c, h1, h2, h3⟩ := gx
  simp only [sat] at hs
  rw [h3] at gx' ⊢
  exact .here h gx' hs
 case iptr cs =>
  have gx' := gx
  simp only [rel] at gx
  obtain ⟨B, c, h1, h2⟩ := gx
  simp only [sat] at hs
  rw [h1] at gx' ⊢
  exact .here h gx' hs
 case fn f fi ca =>
  cases f
  case func f =>
   have gx' := gx
   simp only [rel] at gx
   obtain ⟨x, y, h1, h2, h3⟩ := gx
   simp only [sat] at hs
   rw [h1] at gx' ⊢
   exact .here h gx' hs
  case method n =>
   simp only at hs
   by_cases hm : mvalOk (mtsOf P) n fi ca = true
   ·rw [if_pos hm] at hs
    have gx' := gx
    simp only [rel] at gx
    obtain ⟨p, q, h1, h2, h3⟩ := gx
    unfold mvalOk at hm
    split at hm
    ·rename_i t v
     split at hm
     ·rename_i f hl
      obtain ⟨p⟩ := p
      simp only [rels, rel] at h2
      obtain ⟨p0, ps, rfl, ⟨u, rfl, h4⟩, rfl⟩ := h2
      have hr := run_nilAhead (u := u) (lookM_some hl) w
      simp only [sat] at hs
      rw [h1] at gx' ⊢
      simp only [List.getElem?_toArray, List.getElem?_cons_zero, Sem.run_bind, run_program, Result.andThen_ok, hr]
      exact .here h gx' hs
     ·cases hm
    ·cases hm
   ·rw [if_neg hm] at hs; exact False.elim hs
  all_goals exact False.elim hs
 all_goals exact False.elim hs
theorem run_eqGuard_int {op : BinOp} {t : TypeId} {x y : Operand} {k k' : IntKind} {m n : Int} (w : World) : (eqGuard op t x y (.int k m) (.int k' n)).run P w = .ok () w := by
 unfold eqGuard
 cases op <;> rfl
theorem run_eqGuard_str {op : BinOp} {t : TypeId} {x y : Operand} {m n : ByteArray} (w : World) : (eqGuard op t x y (.string m) (.string n)).run P w = .ok () w := by
 unfold eqGuard
 cases op <;> rfl
theorem run_eqGuard_bool {op : BinOp} {t : TypeId} {x y : Operand} {m n : Bool} (w : World) : (eqGuard op t x y (.bool m) (.bool n)).run P w = .ok () w := by
 unfold eqGuard
 cases op <;> rfl
theorem nd_arS (p : Cnd) : arS.nd p = p.holds := rfl
theorem run_bin_int {k k' : IntKind} {op : BinOp} {t : TypeId} {m n : Int} (w : World) {K : AV → List ABlk → Prop} (hs : sat arS P H (binA arS op (.int k m) (.int k' n) H) K) :
  ∃ v u, (binOp op t (.int k m) (.int k' n)).run P w = .ok u w ∧ rel S v (shape H) u ∧ K v H := by
 by_cases hsh : op = .shl ∨ op = .shr
 ·rcases hsh with rfl | rfl
  ·simp only [binA, sat, nd_arS] at hs
   obtain ⟨hb, hs⟩ := hs
   have hb' : ¬ n < 0 := Int.not_lt.2 hb
   exact ⟨_, .int k (iopS .shl k m n), by simp [binOp, Op.shift, hb', iopS, Nat.min_def], by simp only [rel]; rfl, hs⟩
  ·simp only [binA, sat, nd_arS] at hs
   obtain ⟨hb, hs⟩ := hs
   have hb' : ¬ n < 0 := Int.not_lt.2 hb
   exact ⟨_, .int k (iopS .shr k m n), by simp [binOp, Op.shift, hb', iopS, Nat.min_def], by simp only [rel]; rfl, hs⟩
 ·by_cases hk : k = k'
  ·subst hk
   cases op <;> simp only [binA, if_true, sat, nd_arS] at hs
   case add => exact ⟨_, .int k (iopS .add k m n), by simp [binOp, Op.intArith, iopS], by simp only [rel]; rfl, hs⟩
   case sub => exact ⟨_, .int k (iopS .sub k m n), by simp [binOp, Op.intArith, iopS], by simp only [rel]; rfl, hs⟩
   case mul => exact ⟨_, .int k (iopS .mul k m n), by simp [binOp, Op.intArith, iopS], by simp only [rel]; rfl, hs⟩
   case and => exact ⟨_, .int k (iopS .and k m n), by simp [binOp, Op.intBits, iopS], by simp only [rel]; rfl, hs⟩
   case or => exact ⟨_, .int k (iopS .or k m n), by simp [binOp, Op.intBits, iopS], by simp only [rel]; rfl, hs⟩
   case xor => exact ⟨_, .int k (iopS .xor k m n), by simp [binOp, Op.intBits, iopS], by simp only [rel]; rfl, hs⟩
   case andNot => exact ⟨_, .int k (iopS .andNot k m n), by simp [binOp, Op.intBits, iopS], by simp only [rel]; rfl, hs⟩
   case quo => obtain ⟨hb, hs⟩ := hs; have hb : n ≠ 0 := hb; exact ⟨_, .int k (iopS .quo k m n), by simp [binOp, Op.intDiv, hb, iopS], by simp only [rel]; rfl, hs⟩
   case rem => obtain ⟨hb, hs⟩ := hs; have hb : n ≠ 0 := hb; exact ⟨_, .int k (iopS .rem k m n), by simp [binOp, Op.intDiv, hb, iopS], by simp only [rel]; rfl, hs⟩
   case eql => exact ⟨_, .bool (cmpS .eql m n), by simp [binOp, Op.intCmp, cmpS], by simp only [rel]; rfl, hs⟩
   case neq => exact ⟨_, .bool (cmpS .neq m n), by simp [binOp, Op.intCmp, cmpS], by simp only [rel]; rfl, hs⟩
   case lss => exact ⟨_, .bool (cmpS .lss m n), by simp [binOp, Op.intCmp, cmpS], by simp only [rel]; rfl, hs⟩
   case leq => exact ⟨_, .bool (cmpS .leq m n), by simp [binOp, Op.intCmp, cmpS], by simp only [rel]; rfl, hs⟩
   case gtr => exact ⟨_, .bool (cmpS .gtr m n), by simp [binOp, Op.intCmp, cmpS], by simp only [rel]; rfl, hs⟩
   case geq => exact ⟨_, .bool (cmpS .geq m n), by simp [binOp, Op.intCmp, cmpS], by simp only [rel]; rfl, hs⟩
   all_goals exact absurd (by simp) hsh
  ·exfalso
   cases op <;> simp [binA, hk] at hs hsh <;> exact hs
theorem run_bin_str {op : BinOp} {t : TypeId} {m n : ByteArray} (w : World) {K : AV → List ABlk → Prop} (hs : sat arS P H (binA arS op (.str m) (.str n) H) K) :
  ∃ v u, (binOp op t (.string m) (.string n)).run P w = .ok u w ∧ rel S v (shape H) u ∧ K v H := by
 cases op <;> simp only [binA, sat, nd_arS] at hs
 case add =>
  obtain ⟨hb, hs⟩ := hs
  have hb : m.size + n.size ≤ 9223372036854775807 := hb
  refine ⟨_, .string (m ++ n), ?_, by simp only [rel]; rfl, hs⟩
  have : ¬ (IntKind.i64.max < ((m.size + n.size : Nat) : Int)) := by
   have : IntKind.i64.max = 9223372036854775807 := by decide
   omega
  simp only [binOp, Op.stringOp]
  rw [if_neg (by simpa using this)]
  rfl
 case eql => exact ⟨_, .bool (sopS .eql m n), by simp [binOp, Op.stringOp, sopS], by simp only [rel]; rfl, hs⟩
 case neq => exact ⟨_, .bool (sopS .neq m n), by simp [binOp, Op.stringOp, sopS], by simp only [rel]; rfl, hs⟩
 case lss => exact ⟨_, .bool (sopS .lss m n), by simp [binOp, Op.stringOp, sopS], by simp only [rel]; rfl, hs⟩
 case leq => exact ⟨_, .bool (sopS .leq m n), by simp [binOp, Op.stringOp, sopS], by simp only [rel]; rfl, hs⟩
 case gtr => exact ⟨_, .bool (sopS .gtr m n), by simp [binOp, Op.stringOp, sopS], by simp only [rel]; rfl, hs⟩
 case geq => exact ⟨_, .bool (sopS .geq m n), by simp [binOp, Op.stringOp, sopS], by simp only [rel]; rfl, hs⟩
theorem equal_succ (t : TypeId) (x y : Value) : ∃ d, Op.equal t x y = Op.equalIn (d + 1) t x y := ⟨9999, rfl⟩
theorem run_eq_bool {t : TypeId} {m n : Bool} (ht : P.underlying t = some .bool) (w : World) : (Op.equal t (.bool m) (.bool n)).run P w = .ok (m == n) w := by
 obtain ⟨d, hd⟩ := equal_succ t (.bool m) (.bool n)
 rw [hd, run_equalIn_bool' w d t m n ht]
theorem nilQ_sat {x : AV} {u : Value} {k : Bool → Out} (hx : rel S x (shape H) u) (h : WRel S H w) (hs : sat arS P H (nilQ x H k) K) : ∃ p, u = .pointer p ∧ sat arS P H (k p.isNone) K := by
 cases x
 case nilp => simp only [rel] at hx; exact ⟨none, hx, hs⟩
 case bptr id o => simp only [rel] at hx; obtain ⟨_, B, c, _, _, rfl⟩ := hx; exact ⟨_, rfl, hs⟩
 case iptr cs => simp only [rel] at hx; obtain ⟨B, o, rfl, _⟩ := hx; exact ⟨_, rfl, hs⟩
 case ptr id t r o => simp only [rel] at hx; obtain ⟨m, sz, B, o', _, _, rfl, _⟩ := hx; exact ⟨_, rfl, hs⟩
 all_goals exact False.elim hs
theorem run_eqGuard_ptr {op : BinOp} {t : TypeId} {x y : Operand} {m n : Option Addr} (w : World) : (eqGuard op t x y (.pointer m) (.pointer n)).run P w = .ok () w := by
 unfold eqGuard
 cases op <;> rfl
theorem run_eq_nil_r {t e : TypeId} {m : Option Addr} (ht : P.underlying t = some (.pointer e)) (w : World) : (Op.equal t (.pointer m) (.pointer none)).run P w = .ok m.isNone w := by
 obtain ⟨d, hd⟩ := equal_succ t (.pointer m) (.pointer none)
 rw [hd]
 cases m <;> simp only [Op.equalIn, Sem.run_bind, run_underlying ht, Result.andThen_ok] <;> rfl
theorem run_eq_nil_l {t e : TypeId} {m : Option Addr} (ht : P.underlying t = some (.pointer e)) (w : World) : (Op.equal t (.pointer none) (.pointer m)).run P w = .ok m.isNone w := by
 obtain ⟨d, hd⟩ := equal_succ t (.pointer none) (.pointer m)
 rw [hd]
 cases m <;> simp only [Op.equalIn, Sem.run_bind, run_underlying ht, Result.andThen_ok] <;> rfl
theorem isNilp_true {x : AV} (h : isNilp x = true) : x = .nilp := by cases x <;> simp [isNilp] at h; rfl
theorem nil2_sat {t e : TypeId} {x y : AV} {u v : Value} {k : Bool → Out} (ht : P.underlying t = some (.pointer e)) (hx : rel S x (shape H) u) (hy : rel S y (shape H) v) (h : WRel S H w) (hs : sat arS P H (nil2 x y H k) K) :
  ∃ p q b, u = .pointer p ∧ v = .pointer q ∧ (Op.equal t (.pointer p) (.pointer q)).run P w = .ok b w ∧ sat arS P H (k b) K := by
 unfold nil2 at hs
 cases h1 : isNilp y <;> rw [h1] at hs
 ·cases h2 : isNilp x <;> rw [h2] at hs
  ·exact False.elim hs
  ·obtain rfl := isNilp_true h2
   obtain ⟨q, rfl, hs⟩ := nilQ_sat hy h hs
   simp only [rel] at hx
   subst hx
   exact ⟨none, q, _, rfl, rfl, run_eq_nil_l ht w, hs⟩
 ·obtain rfl := isNilp_true h1
  obtain ⟨p, rfl, hs⟩ := nilQ_sat hx h hs
  simp only [rel] at hy
  subst hy
  exact ⟨p, none, _, rfl, rfl, run_eq_nil_r ht w, hs⟩
theorem run_eql {t : TypeId} {u v : Value} {b : Bool} {w : World} (hu : (∃ p, u = .pointer p) ∧ (∃ p, v = .pointer p) ∨ (∃ p, u = .bool p) ∧ (∃ p, v = .bool p) ∨ (∃ p, u = .agg p) ∧ (∃ p, v = .agg p))
  (h : (Op.equal t u v).run P w = .ok b w) : (binOp .eql t u v).run P w = .ok (.bool b) w ∧ (binOp .neq t u v).run P w = .ok (.bool (!b)) w := by
 rcases hu with ⟨⟨p, rfl⟩, ⟨q, rfl⟩⟩ | ⟨⟨p, rfl⟩, ⟨q, rfl⟩⟩ | ⟨⟨p, rfl⟩, ⟨q, rfl⟩⟩
 all_goals exact ⟨by simp only [binOp, Sem.run_bind, h, Result.andThen_ok, Sem.run_pure], by simp only [binOp, Sem.run_bind, h, Result.andThen_ok, Sem.run_pure]⟩
theorem eqC_run {k : Nat} {x y : AV} {u v : Value} {t : TypeId} {b : Bool} {T : Sh} (hx : rel S x T u) (hy : rel S y T v) (h : eqC arS k x y = some b)
  (ht : (k = 0 ∧ ∃ k, P.underlying t = some (.int k)) ∨ (k = 1 ∧ P.underlying t = some .bool) ∨ (k = 2 ∧ P.underlying t = some .string)) (d : Nat) (w : World) : (Op.equalIn (d + 1) t u v).run P w = .ok b w := by
 rcases ht with ⟨rfl, k, ht⟩ | ⟨rfl, ht⟩ | ⟨rfl, ht⟩
 ·cases x <;> cases y <;> simp only [eqC] at h <;> try cases h
  split at h
  ·rename_i hk
   subst hk
   injection h with h
   subst h
   simp only [rel] at hx hy
   subst hx hy
   exact run_equalIn_int w d t _ k _ _ ht
  ·cases h
 ·cases x <;> cases y <;> simp only [eqC] at h <;> try cases h
  simp only [rel] at hx hy
  subst hx hy
  exact run_equalIn_bool' w d t _ _ ht
 ·cases x <;> cases y <;> simp only [eqC] at h <;> try cases h
  simp only [rel] at hx hy
  subst hx hy
  exact run_equalIn_string w d t _ _ ht
theorem eqF_run {T : Sh} (d : Nat) : ∀ (fs : List Field) (l : List (Nat × Nat)) {xs ys : List AV} {us vs : Array Value} {b : Bool}, rels S xs T us.toList → rels S ys T vs.toList → flatOffs P fs = some l → eqF arS xs ys l = some b →
  ∀ w, (Op.eqFields (d + 1) us vs fs).run P w = .ok b w
 | [], l, xs, ys, us, vs, b, hx, hy, hf, he, w => by
  simp only [flatOffs, Option.some.injEq] at hf
  subst hf
  simp only [eqF, Option.some.injEq] at he
  subst he
  rfl
 | f :: fs, l, xs, ys, us, vs, b, hx, hy, hf, he, w => by
  unfold flatOffs at hf
  split at hf
  ·rename_i hname
   have key : ∃ k l', l = (f.offset, k) :: l' ∧ flatOffs P fs = some l' ∧ ((k = 0 ∧ ∃ k, P.underlying f.type = some (.int k)) ∨ (k = 1 ∧ P.underlying f.type = some .bool) ∨ (k = 2 ∧ P.underlying f.type = some .string)) := by
    cases hu : P.underlying f.type with
    | none => rw [hu] at hf; cases hf
    | some dd =>
     rw [hu] at hf
     cases dd
     case int k => obtain ⟨l', h1, h2⟩ := Option.map_eq_some_iff.1 hf; exact ⟨0, l', h2.symm, h1, .inl ⟨rfl, k, rfl⟩⟩
     case bool => obtain ⟨l', h1, h2⟩ := Option.map_eq_some_iff.1 hf; exact ⟨1, l', h2.symm, h1, .inr (.inl ⟨rfl, rfl⟩)⟩
     case string => obtain ⟨l', h1, h2⟩ := Option.map_eq_some_iff.1 hf; exact ⟨2, l', h2.symm, h1, .inr (.inr ⟨rfl, rfl⟩)⟩
     all_goals cases hf
   obtain ⟨k, l', rfl, hl', hk⟩ := key
   simp only [eqF, getL_eq] at he
   cases hx1 : xs[f.offset]? with
   | none => rw [hx1] at he; cases he
   | some x =>
    cases hy1 : ys[f.offset]? with
    | none => rw [hx1, hy1] at he; cases he
    | some y =>
     rw [hx1, hy1] at he
     simp only at he
     cases hc : eqC arS k x y with
     | none => rw [hc] at he; cases he
     | some b1 =>
      cases hr : eqF arS xs ys l' with
      | none => rw [hc, hr] at he; cases he
      | some b2 =>
       rw [hc, hr] at he
       injection he with he
       subst he
       obtain ⟨u, gu, ru⟩ := rels_get hx hx1
       obtain ⟨v, gv, rv⟩ := rels_get hy hy1
       rw [Array.getElem?_toList] at gu gv
       have hna : isAg P f.type = some false := by
        unfold isAg
        rcases hk with ⟨_, k, hk⟩ | ⟨_, hk⟩ | ⟨_, hk⟩ <;> rw [hk]
       have pu : (part f.type us f.offset).run P w = .ok u w := by simp [part, run_isAg hna, gu]
       have pv : (part f.type vs f.offset).run P w = .ok v w := by simp [part, run_isAg hna, gv]
       have hq := eqC_run (P := P) ru rv hc hk d w
       have ih := eqF_run d fs l' hx hy hl' hr w
       simp only [Op.eqFields, ne_eq, hname, not_false_eq_true, if_true, Sem.run_bind, pu, pv, hq, Result.andThen_ok, Sem.run_ite, Sem.run_pure, ih]
       cases b1 <;> simp [arS]
  ·cases hf
theorem op_bin {op : BinOp} {t t' : TypeId} {x y : Operand} (ho : o.op = .binOp op t x y t') (hf : rels S fr (shape H) a.tmps.toList) (h : WRel S H w) {ax ay : AX} (hx : rx x = some ax) (hy : rx y = some ay)
  (hs : sat arS P H (exec1 arS σr fr H (.bin op (tkOf P t) ax ay)) K) : opRes P o a w (Done S H K) := by
 have gx := rx_rel hf hx
 have gy := rx_rel hf hy
 have key : ∃ v u, (eqGuard op t x y (a.eval x) (a.eval y)).run P w = .ok () w ∧ (binOp op t (a.eval x) (a.eval y)).run P w = .ok u w ∧ rel S v (shape H) u ∧ K v H := by
  simp only [exec1] at hs
  generalize ev fr ax = vx at *
  generalize ev fr ay = vy at *
  generalize a.eval x = ux at *
  generalize a.eval y = uy at *
  unfold binQ at hs
  split at hs
  ·simp only [rel] at gx gy
   subst gx gy
   obtain ⟨v, u, h1, h2, h3⟩ := run_bin_int (S := S) (t := t) w (K := K) hs
   exact ⟨v, u, run_eqGuard_int w, h1, h2, h3⟩
  ·simp only [rel] at gx gy
   subst gx gy
   obtain ⟨v, u, h1, h2, h3⟩ := run_bin_str (S := S) (t := t) w (K := K) hs
   exact ⟨v, u, run_eqGuard_str w, h1, h2, h3⟩
  ·rename_i xs ys
   simp only [rel] at gx gy
   obtain ⟨us, rfl, gx, _⟩ := gx
   obtain ⟨vs, rfl, gy, _⟩ := gy
   have hk : ∀ offs, tkOf P t = .ag offs → ∃ fs : Array Field, P.underlying t = some (.struct fs) ∧ P.stoodInHeld t = false ∧ P.eqGuardType P.depth t = false ∧ flatOffs P fs.toList = some offs := by
    intro offs hk
    unfold tkOf at hk
    cases hu : P.underlying t with
    | none => rw [hu] at hk; cases hk
    | some dd =>
     rw [hu] at hk
     cases dd <;> simp only at hk <;> try cases hk
     rename_i fs
     split at hk
     ·rename_i hc
      cases hl : flatOffs P fs.toList with
      | none => rw [hl] at hk; cases hk
      | some l => rw [hl] at hk; injection hk with hk; subst hk; exact ⟨fs, rfl, hc.1, hc.2, hl⟩
     ·cases hk
   have run : ∀ offs b, tkOf P t = .ag offs → eqF arS xs ys offs = some b → (eqGuard op t x y (.agg us) (.agg vs)).run P w = .ok () w ∧ (Op.equal t (.agg us) (.agg vs)).run P w = .ok b w := by
    intro offs b hk' hb
    obtain ⟨fs, h1, h2, h3, h4⟩ := hk offs hk'
    refine ⟨run_eqGuard_agg w op t x y us vs h3, ?_⟩
    have hfs : P.fieldsOf t = fs := by simp [Program.fieldsOf, h1]
    show (Op.equalIn (9999 + 1) t (.agg us) (.agg vs)).run P w = .ok b w
    rw [run_equalIn_struct w 9999 t us vs (by rw [hfs]; exact h1) h2, hfs]
    exact eqF_run 9998 fs.toList offs gx gy h4 hb w
   cases hk' : tkOf P t with
   | ag offs =>
    rw [hk'] at hs
    cases op
    case eql =>
     simp only at hs
     cases hb : eqF arS xs ys offs with
     | none => rw [hb] at hs; exact False.elim hs
     | some b =>
      rw [hb] at hs
      obtain ⟨r1, r2⟩ := run offs b hk' hb
      exact ⟨_, _, r1, (run_eql (.inr (.inr ⟨⟨_, rfl⟩, ⟨_, rfl⟩⟩)) r2).1, by simp only [rel], hs⟩
    case neq =>
     simp only at hs
     cases hb : eqF arS xs ys offs with
     | none => rw [hb] at hs; exact False.elim hs
     | some b =>
      rw [hb] at hs
      obtain ⟨r1, r2⟩ := run offs b hk' hb
      exact ⟨_, _, r1, (run_eql (.inr (.inr ⟨⟨_, rfl⟩, ⟨_, rfl⟩⟩)) r2).2, by simp only [rel]; rfl, hs⟩
    all_goals exact False.elim hs
   | _ => rw [hk'] at hs; exact False.elim hs
  ·unfold tkOf at hs
   cases hu : P.underlying t with
   | none => rw [hu] at hs; exact False.elim hs
   | some dd =>
    rw [hu] at hs
    cases dd <;> simp only at hs
    case bool =>
     cases op <;> simp only at hs <;> try exact False.elim hs
     all_goals
      cases hvx : sym vx <;> rw [hvx] at hs <;> (try exact False.elim hs)
      cases hvy : sym vy <;> rw [hvy] at hs <;> (try exact False.elim hs)
      have gx' := sym_rel gx
      have gy' := sym_rel gy
      rw [hvx] at gx'
      rw [hvy] at gy'
      simp only [rel] at gx' gy'
      subst gx' gy'
     ·exact ⟨_, _, run_eqGuard_bool w, (run_eql (.inr (.inl ⟨⟨_, rfl⟩, ⟨_, rfl⟩⟩)) (run_eq_bool hu w)).1, by simp only [rel]; rfl, hs⟩
     ·exact ⟨_, _, run_eqGuard_bool w, (run_eql (.inr (.inl ⟨⟨_, rfl⟩, ⟨_, rfl⟩⟩)) (run_eq_bool hu w)).2, by simp only [rel]; rfl, hs⟩
    case pointer e =>
     cases op <;> simp only at hs <;> try exact False.elim hs
     ·obtain ⟨p, q, b, rfl, rfl, h1, h2⟩ := nil2_sat hu gx gy h hs
      exact ⟨_, _, run_eqGuard_ptr w, (run_eql (.inl ⟨⟨_, rfl⟩, ⟨_, rfl⟩⟩) h1).1, by simp only [rel], h2⟩
     ·obtain ⟨p, q, b, rfl, rfl, h1, h2⟩ := nil2_sat hu gx gy h hs
      exact ⟨_, _, run_eqGuard_ptr w, (run_eql (.inl ⟨⟨_, rfl⟩, ⟨_, rfl⟩⟩) h1).2, by simp only [rel], h2⟩
    case struct fs =>
     generalize hkk : (if P.stoodInHeld t = false ∧ P.eqGuardType P.depth t = false then (match flatOffs P fs.toList with | some l => TK.ag l | none => TK.o) else TK.o) = kk at hs
     have hk2 : kk = .o ∨ ∃ l, kk = .ag l := by
      rw [← hkk]
      split
      ·split
       ·exact .inr ⟨_, rfl⟩
       ·exact .inl rfl
      ·exact .inl rfl
     rcases hk2 with rfl | ⟨l, rfl⟩ <;> (cases op <;> exact False.elim hs)
    all_goals (cases op <;> exact False.elim hs)
 obtain ⟨v, u, h1, h2, h3, h4⟩ := key
 unfold opRes execOp
 simp only [ho, Sem.run_bind, h1, h2, Result.andThen_ok, Sem.run_pure]
 exact .here h h3 h4
theorem run_eqGuard_slice {op : BinOp} {t : TypeId} {x y : Operand} {m n : Option Addr} {a b c d : Nat} (w : World) : (eqGuard op t x y (.slice m a b) (.slice n c d)).run P w = .ok () w := by
 unfold eqGuard
 cases op <;> rfl
theorem run_eq_nilS {t e : TypeId} {m : Option Addr} {n c : Nat} (ht : P.underlying t = some (.slice e)) (w : World) : (Op.equal t (.slice m n c) (.slice none 0 0)).run P w = .ok m.isNone w := by
 obtain ⟨d, hd⟩ := equal_succ t (.slice m n c) (.slice none 0 0)
 rw [hd]
 cases m <;> simp only [Op.equalIn, Sem.run_bind, run_underlying ht, Result.andThen_ok] <;> rfl
end
end Go.Ab

namespace Go.Ab
open Go
set_option linter.unusedVariables false
set_option linter.unusedSimpArgs false
variable {σr : RowF}
section
variable {P : Program} {S : RS} {H : List ABlk} {fr : List AV} {K : AV → List ABlk → Prop} {o : Oper} {a : Act} {w : World}
theorem op_of_run {c : Sem Value} (hx : execOp a.eval o = (do pure (.value (← c)))) {u : Value} (hr : c.run P w = .ok u w) (h : WRel S H w) {v : AV} (hv : rel S v (shape H) u) (hK : K v H) : opRes P o a w (Done S H K) := by
 unfold opRes
 rw [hx]
 simp only [Sem.run_bind, hr, Result.andThen_ok, Sem.run_pure]
 exact .here h hv hK
theorem op_un {op : UnOp} {t : TypeId} {x : Operand} (ho : o.op = .unOp op t x) (hf : rels S fr (shape H) a.tmps.toList) (h : WRel S H w) {ax : AX} (hx : rx x = some ax)
  (hs : sat arS P H (exec1 arS σr fr H (.un op ax)) K) : opRes P o a w (Done S H K) := by
 have gx := rx_rel hf hx
 simp only [exec1] at hs
 generalize ev fr ax = vx at *
 have hex : execOp a.eval o = (do pure (.value (← Op.unary op (a.eval x)))) := by simp only [execOp, ho]
 cases op <;> cases vx <;> first | exact False.elim hs | skip
 all_goals simp only [rel] at gx
 all_goals first
  | exact op_of_run hex (by rw [gx]; rfl) h (by simp only [rel]; rfl) hs
  | exact op_of_run hex (by rw [gx]; rfl) h (by simp only [rel]) hs
theorem op_cvt {s d : TypeId} {x : Operand} (ho : o.op = .convert s d x) (hf : rels S fr (shape H) a.tmps.toList) (h : WRel S H w) {ax : AX} (hx : rx x = some ax) {k k' : IntKind} (hs0 : P.underlying s = some (.int k')) (hd : P.underlying d = some (.int k))
  (hs : sat arS P H (exec1 arS σr fr H (.cvt k ax)) K) : opRes P o a w (Done S H K) := by
 have gx := rx_rel hf hx
 simp only [exec1] at hs
 generalize ev fr ax = vx at *
 have hex : execOp a.eval o = (do pure (.value (← convert s d (a.eval x)))) := by simp only [execOp, ho]
 cases vx <;> first | exact False.elim hs | skip
 simp only [rel] at gx
 refine op_of_run (u := .int k (k.wrap _)) hex ?_ h (by simp only [rel]; rfl) hs
 rw [gx]
 simp only [convert, Sem.run_bind, run_underlying hs0, run_underlying hd, Result.andThen_ok, Conv.intToInt, Sem.run_pure]
theorem op_mki {t : TypeId} {x : Operand} (ho : o.op = .makeInterface t x) (hf : rels S fr (shape H) a.tmps.toList) (h : WRel S H w) {ax : AX} (hx : rx x = some ax) {d : TypeDesc} (hd : P.underlying t = some d) (hn : ∀ ms, d ≠ .interface ms)
  (hs : sat arS P H (exec1 arS σr fr H (.mki t ax)) K) : opRes P o a w (Done S H K) := by
 have gx := rx_rel hf hx
 have hex : execOp a.eval o = (do pure (.value (← Instr.makeInterface t (a.eval x)))) := by simp only [execOp, ho]
 refine op_of_run (u := .iface t (a.eval x)) hex ?_ h (by simp only [rel]; exact ⟨_, rfl, uns_rel gx⟩) hs
 simp only [Instr.makeInterface, Sem.run_bind, run_underlying hd, Result.andThen_ok]
 cases d <;> first | rfl | exact absurd rfl (hn _)
theorem op_mkf {f : Fn} {x y : Array Operand} (ho : o.op = .makeFunc f x y) (hf : rels S fr (shape H) a.tmps.toList) (h : WRel S H w) {ax ay : List AX} (hx : rxs x.toList = some ax) (hy : rxs y.toList = some ay)
  (hs : sat arS P H (exec1 arS σr fr H (.mkf f ax ay)) K) : opRes P o a w (Done S H K) := by
 have hex : execOp a.eval o = (do pure (.value (← Instr.makeFunc f (x.map a.eval) (y.map a.eval)))) := by simp only [execOp, ho]
 refine op_of_run (u := .func f (x.map a.eval) (y.map a.eval)) hex rfl h ?_ hs
 simp only [rel]
 exact ⟨_, _, rfl, by simpa using rxs_rel hf hx, by simpa using rxs_rel hf hy⟩
theorem op_ext {x : Operand} {i : Nat} (ho : o.op = .extract x i) (hf : rels S fr (shape H) a.tmps.toList) (h : WRel S H w) {ax : AX} (hx : rx x = some ax)
  (hs : sat arS P H (exec1 arS σr fr H (.ext ax i)) K) : opRes P o a w (Done S H K) := by
 have gx := rx_rel hf hx
 simp only [exec1] at hs
 generalize ev fr ax = vx at *
 have hex : execOp a.eval o = (do pure (.value (← Instr.extract (a.eval x) i))) := by simp only [execOp, ho]
 cases vx <;> first | exact False.elim hs | skip
 rename_i vs
 obtain ⟨v, h1, h2⟩ := sat_okO hs
 rw [getL_eq] at h1
 obtain ⟨c, h0, rfl⟩ := Option.map_eq_some_iff.1 h1
 simp only [rel] at gx
 obtain ⟨us, gx, gr⟩ := gx
 obtain ⟨u, k1, k2⟩ := rels_get gr h0
 rw [Array.getElem?_toList] at k1
 exact op_of_run (u := u) hex (by rw [gx]; simp [Instr.extract, k1]) h (sym_rel k2) h2
theorem op_fad {s : TypeId} {x : Operand} {i : Nat} (ho : o.op = .fieldAddr s x i) (hf : rels S fr (shape H) a.tmps.toList) (h : WRel S H w) {ax : AX} (hx : rx x = some ax) {fs : Array Field} {f : Field} (hu : P.underlying s = some (.struct fs)) (hfi : fs[i]? = some f)
  {n : Nat} (hn : szOf P f.type = some n) (h0 : n ≠ 0) (hs : sat arS P H (exec1 arS σr fr H (.fad f.offset ax)) K) : opRes P o a w (Done S H K) := by
 have gx := rx_rel hf hx
 simp only [exec1] at hs
 generalize ev fr ax = vx at *
 have hex : execOp a.eval o = (do pure (.value (← Instr.fieldAt s (a.eval x) i))) := by simp only [execOp, ho]
 have run : ∀ (B off : Nat), (Instr.fieldAt s (.pointer (some ⟨B, off, none⟩)) i).run P w = .ok (.pointer (some ⟨B, off + f.offset, none⟩)) w := by
  intro B off
  simp [Instr.fieldAt, run_underlying hu, hfi, Instr.sureAddr, fieldPlace, run_szOf hn, h0, Addr.add_lit]
 cases vx <;> first | exact False.elim hs | skip
 case bptr id off =>
  simp only [rel] at gx
  obtain ⟨m, B, c, h1, h2, gx⟩ := gx
  exact op_of_run hex (by rw [gx]; exact run B off) h (by simp only [rel]; exact ⟨m, B, c, h1, h2, rfl⟩) hs
 case iptr cs =>
  simp only [rel] at gx
  obtain ⟨B, off, gx, h2⟩ := gx
  simp only [dropL_eq] at hs
  exact op_of_run hex (by rw [gx]; exact run B off) h (by simp only [rel]; exact ⟨B, _, rfl, fz_drop h2 _⟩) hs
 case ptr id t r off =>
  simp only [rel] at gx
  obtain ⟨m, sz, B, o', h1, h2, gx, h3⟩ := gx
  refine op_of_run hex (by rw [gx]; exact run B o') h ?_ hs
  simp only [rel]
  refine ⟨m, sz, B, _, h1, h2, rfl, fun ht => ?_⟩
  obtain ⟨c, k1, k2⟩ := h3 ht
  exact ⟨c, k1, by omega⟩
theorem run_part {T : Sh} {t : TypeId} {n : Option Nat} (hn : ldOf P t = some n) {cs : List AV} {us : Array Value} (hr : rels S cs T us.toList) (h1 : ∀ u ∈ us.toList, u.oneCell' = true) {off : Nat} {v : AV} (hv : partA n (cs.drop off) = some v) (w : World) :
  ∃ u, (part t us off).run P w = .ok u w ∧ rel S v T u := by
 unfold ldOf at hn
 cases hag : isAg P t with
 | none => rw [hag] at hn; cases hn
 | some b =>
  cases hsz : szOf P t with
  | none => rw [hag, hsz] at hn; cases b <;> cases hn
  | some m =>
   rw [hag, hsz] at hn
   cases b with
   | true =>
    injection hn with hn
    subst hn
    simp only [partA, Option.map_eq_some_iff] at hv
    obtain ⟨r, g1, rfl⟩ := hv
    obtain ⟨g2, g3⟩ := takeL_eq _ _ _ g1
    subst g2
    refine ⟨.agg (us.extract off (off + m)), by simp [part, run_isAg hag, run_szOf hsz], ?_⟩
    simp only [rel]
    have e : (us.extract off (off + m)).toList = (us.toList.drop off).take m := by
     rw [Array.toList_extract]
     simp [List.extract_eq_take_drop]
    refine ⟨_, rfl, ?_, fun u hu => ?_⟩
    ·rw [e]; exact rels_take (rels_drop hr off) m
    ·rw [e] at hu; exact h1 u (List.mem_of_mem_drop (List.mem_of_mem_take hu))
   | false =>
    have hm : m = 1 ∧ n = none := by
     cases m with
     | zero => cases hn
     | succ m => cases m with
      | zero => injection hn with hn; exact ⟨rfl, hn.symm⟩
      | succ m => cases hn
    obtain ⟨rfl, rfl⟩ := hm
    cases hd : cs.drop off with
    | nil => rw [hd] at hv; simp [partA] at hv
    | cons c cs' =>
     rw [hd] at hv
     simp only [partA, Option.some.injEq] at hv
     subst hv
     have hc : cs[off]? = some c := by
      have : (cs.drop off)[0]? = some c := by rw [hd]; rfl
      simpa using this
     obtain ⟨u, g1, g2⟩ := rels_get hr hc
     rw [Array.getElem?_toList] at g1
     exact ⟨u, by simp [part, run_isAg hag, g1], sym_rel g2⟩
theorem op_fld {s : TypeId} {x : Operand} {i : Nat} (ho : o.op = .field s x i) (hf : rels S fr (shape H) a.tmps.toList) (h : WRel S H w) {ax : AX} (hx : rx x = some ax) {fs : Array Field} {f : Field} (hu : P.underlying s = some (.struct fs)) (hfi : fs[i]? = some f)
  {n : Option Nat} (hn : ldOf P f.type = some n) (hs : sat arS P H (exec1 arS σr fr H (.fld f.offset n ax)) K) : opRes P o a w (Done S H K) := by
 have gx := rx_rel hf hx
 simp only [exec1] at hs
 generalize ev fr ax = vx at *
 have hex : execOp a.eval o = (do pure (.value (← Instr.field s (a.eval x) i))) := by simp only [execOp, ho]
 cases vx <;> first | exact False.elim hs | skip
 rename_i cs
 obtain ⟨v, h1, h2⟩ := sat_okO hs
 rw [dropL_eq] at h1
 simp only [rel] at gx
 obtain ⟨us, gx, gr, g1⟩ := gx
 obtain ⟨u, k1, k2⟩ := run_part hn gr g1 h1 w
 exact op_of_run hex (by rw [gx]; simp [Instr.field, run_underlying hu, hfi, asAgg, k1]) h k2 h2
theorem op_idxs {t : TypeId} {x y : Operand} (ho : o.op = .index t x y) (hf : rels S fr (shape H) a.tmps.toList) (h : WRel S H w) {ax ay : AX} (hx : rx x = some ax) (hy : rx y = some ay) (hu : P.underlying t = some .string)
  (hs : sat arS P H (exec1 arS σr fr H (.idxs ax ay)) K) : opRes P o a w (Done S H K) := by
 have gx := rx_rel hf hx
 have gy := rx_rel hf hy
 simp only [exec1] at hs
 generalize ev fr ax = vx at *
 generalize ev fr ay = vy at *
 have hex : execOp a.eval o = (do pure (.value (← Instr.index t (a.eval x) (a.eval y)))) := by simp only [execOp, ho]
 cases vx <;> first | exact False.elim hs | skip
 cases vy <;> first | exact False.elim hs | skip
 rename_i s k n
 obtain ⟨hn, hs⟩ := hs
 have hn : 0 ≤ n ∧ n < s.size := hn
 simp only [rel] at gx gy
 have hlt : n.toNat < s.size := by omega
 have hget : s[n.toNat]? = some s[n.toNat] := by simp [hlt]
 refine op_of_run (u := .int .u8 (s[n.toNat]).toNat) hex ?_ h ?_ hs
 ·rw [gx, gy]
  simp [Instr.index, asIntOf, run_underlying hu, hn.1, hlt]
 ·simp only [rel, arS]
  congr 2
  have : s.data.toList.getD n.toNat 0 = s[n.toNat] := by
   have h2 : n.toNat < s.data.toList.length := by simpa using hlt
   simp only [List.getD, List.getElem?_eq_getElem h2, Option.getD_some]
   rfl
  rw [this]
theorem op_mnmx {mx : Bool} {ts : Array TypeId} {x y : Operand} (ho : o.op = .call { callee := .builtin (if mx then .max else .min), args := #[x, y], argTypes := ts }) (hf : rels S fr (shape H) a.tmps.toList) (h : WRel S H w) {ax ay : AX} (hx : rx x = some ax) (hy : rx y = some ay)
  (hs : sat arS P H (exec1 arS σr fr H (.mnmx mx ax ay)) K) : opRes P o a w (Done S H K) := by
 have gx := rx_rel hf hx
 have gy := rx_rel hf hy
 simp only [exec1] at hs
 generalize ev fr ax = vx at *
 generalize ev fr ay = vy at *
 cases vx <;> first | exact False.elim hs | skip
 cases vy <;> first | exact False.elim hs | skip
 rename_i k m k' n
 simp only at hs
 split at hs
 ·rename_i hk
  subst hk
  simp only [rel] at gx gy
  unfold opRes execOp
  cases mx
  ·simp only [ho, Go.resolve, Go.invoke, Go.builtin, Sem.run_bind, Sem.run_pure, Result.andThen_ok, List.map_toArray, List.map_cons, List.map_nil, gx, gy, if_false, Bool.false_eq_true, Builtin.min_, List.foldlM, Builtin.min2]
   exact .here h (by simp only [rel]; rfl) hs
  ·simp only [ho, Go.resolve, Go.invoke, Go.builtin, Sem.run_bind, Sem.run_pure, Result.andThen_ok, List.map_toArray, List.map_cons, List.map_nil, gx, gy, if_true, Builtin.max_, List.foldlM, Builtin.max2]
   exact .here h (by simp only [rel]; rfl) hs
 ·exact False.elim hs
theorem op_mx4 {ts : Array TypeId} {x y z u : Operand} (ho : o.op = .call { callee := .builtin .max, args := #[x, y, z, u], argTypes := ts }) (hf : rels S fr (shape H) a.tmps.toList) (h : WRel S H w) {ax ay az au : AX} (hx : rx x = some ax) (hy : rx y = some ay) (hz : rx z = some az) (hu : rx u = some au)
  (hs : sat arS P H (exec1 arS σr fr H (.mx4 ax ay az au)) K) : opRes P o a w (Done S H K) := by
 have gx := rx_rel hf hx
 have gy := rx_rel hf hy
 have gz := rx_rel hf hz
 have gu := rx_rel hf hu
 simp only [exec1] at hs
 split at hs
 ·rename_i p q r s e1 e2 e3 e4
  rw [e1] at gx
  rw [e2] at gy
  rw [e3] at gz
  rw [e4] at gu
  simp only [rel] at gx gy gz gu
  unfold opRes execOp
  simp only [ho, Go.resolve, Go.invoke, Go.builtin, Sem.run_bind, Sem.run_pure, Result.andThen_ok, List.map_toArray, List.map_cons, List.map_nil, gx, gy, gz, gu, Builtin.max_, List.foldlM, Builtin.max2]
  exact .here h (by simp only [rel]; rfl) hs
 ·exact False.elim hs
end
end Go.Ab

namespace Go.Ab
open Go
set_option linter.unusedVariables false
set_option linter.unusedSimpArgs false
variable {σr : RowF}
inductive All2 {α β : Type} (R : α → β → Prop) : List α → List β → Prop
 | nil : All2 R [] []
 | cons {x y l m} : R x y → All2 R l m → All2 R (x :: l) (y :: m)
theorem All2.imp {α β : Type} {R Q : α → β → Prop} (h : ∀ x y, R x y → Q x y) : ∀ {l : List α} {m : List β}, All2 R l m → All2 Q l m
 | _, _, .nil => .nil
 | _, _, .cons a b => .cons (h _ _ a) (b.imp h)
theorem All2.of_mapM {α β : Type} {f : α → Option β} : ∀ {l : List α} {m : List β}, l.mapM f = some m → All2 (fun x y => f x = some y) l m
 | [], m, h => by simp at h; subst h; exact .nil
 | x :: l, m, h => by
  simp only [List.mapM_cons, Option.bind_eq_bind, Option.bind_eq_some_iff, Option.pure_def, Option.some.injEq] at h
  obtain ⟨y, h1, ys, h2, rfl⟩ := h
  exact .cons h1 (All2.of_mapM h2)
theorem foldl_set_list : ∀ (l : List Value) (k off : Nat) (cells : List Value), off + k + l.length ≤ cells.length →
  (l.zipIdx k).foldl (fun (cs : List Value) (x : Value × Nat) => cs.set (off + x.2) x.1) cells = cells.take (off + k) ++ l ++ cells.drop (off + k + l.length)
 | [], k, off, cells, h => by simp
 | v :: l, k, off, cells, h => by
  simp only [List.zipIdx_cons, List.foldl_cons]
  rw [foldl_set_list l (k + 1) off (cells.set (off + k) v) (by simp at h ⊢; omega)]
  have hk : off + k < cells.length := by simp at h; omega
  rw [List.take_set, List.drop_set, if_pos (by omega)]
  have e1 : cells.take (off + (k + 1)) = cells.take (off + k) ++ [cells[off + k]] := by
   rw [show off + (k + 1) = off + k + 1 by omega, List.take_succ_eq_append_getElem hk]
  rw [e1, List.set_append_right _ _ (by simp; omega)]
  have e2 : (off + k) - (cells.take (off + k)).length = 0 := by simp; omega
  rw [e2]
  simp only [List.set_cons_zero, List.append_assoc, List.cons_append, List.nil_append, List.length_cons]
  rw [show off + (k + 1) + l.length = off + k + (l.length + 1) by omega]
theorem foldl_set_arr (vs : Array Value) (off : Nat) (cells : Array Value) (h : off + vs.size ≤ cells.size) :
  (vs.zipIdx.foldl (fun cs (c, j) => cs.setIfInBounds (off + j) c) cells).toList = cells.toList.take off ++ vs.toList ++ cells.toList.drop (off + vs.size) := by
 have key : ∀ (l : List (Value × Nat)) (c : Array Value), (l.foldl (fun (cs : Array Value) (x : Value × Nat) => cs.setIfInBounds (off + x.2) x.1) c).toList = l.foldl (fun (cs : List Value) (x : Value × Nat) => cs.set (off + x.2) x.1) c.toList := by
  intro l
  induction l with
  | nil => intro c; rfl
  | cons x l ih => intro c; simp only [List.foldl_cons]; rw [ih]; simp
 rw [← Array.foldl_toList]
 have := key vs.zipIdx.toList cells
 rw [show (fun (cs : Array Value) (x : Value × Nat) => match x with | (c, j) => cs.setIfInBounds (off + j) c) = (fun (cs : Array Value) (x : Value × Nat) => cs.setIfInBounds (off + x.2) x.1) from by funext cs x; rfl]
 rw [this, Array.toList_zipIdx]
 have h2 := foldl_set_list vs.toList 0 off cells.toList (by simpa using h)
 simpa using h2
section
variable {P : Program} {S : RS} {H : List ABlk} {fr : List AV} {K : AV → List ABlk → Prop} {o : Oper} {a : Act} {w : World}
theorem cells_size {T : Sh} {v : AV} {u : Value} (h : rel S v T u) (h1 : allOne (cellsOf v) = true) : u.cells.size = (cellsOf v).length := by
 have := rels_length (cellsOf_rel h h1).1
 simpa using this
theorem rels_spl {T : Sh} {cs ys r : List AV} {us vs : List Value} {off : Nat} (hc : rels S cs T us) (hy : rels S ys T vs) (h : splL cs off ys = some r) : rels S r T (us.take off ++ vs ++ us.drop (off + vs.length)) := by
 obtain ⟨_, h2⟩ := splL_eq _ _ _ _ h
 subst h2
 rw [rels_length hy]
 exact rels_append (rels_append (rels_take hc off) hy) (rels_drop hc _)
theorem build_fill {T : Sh} (hf : rels S fr T a.tmps.toList) (place : Nat → Option (Nat × Nat)) : ∀ (parts : List (Nat × Operand)) (ps : List (Nat × Nat × AX)) (z r : List AV) (cells : Array Value),
  (∀ u ∈ cells.toList, u.oneCell' = true) → rels S z T cells.toList →
  All2 (fun (p : Nat × Operand) (q : Nat × Nat × AX) => place p.1 = some (q.1, q.2.1) ∧ rx p.2 = some q.2.2) parts ps → buildA fr z ps = some r →
  ∃ cells', Instr.fill place cells (parts.map fun p => (p.1, a.eval p.2)) = some cells' ∧ rels S r T cells'.toList ∧ ∀ u ∈ cells'.toList, u.oneCell' = true
 | [], ps, z, r, cells, h1, hz, hp, hb => by
  cases hp
  simp only [buildA, Option.some.injEq] at hb
  subst hb
  exact ⟨cells, rfl, hz, h1⟩
 | p :: parts, ps, z, r, cells, h1, hz, hp, hb => by
  cases hp with
  | cons hpq hp =>
   rename_i q ps
   obtain ⟨off, n, x⟩ := q
   obtain ⟨hpl, hx⟩ := hpq
   simp only at hpl hx
   simp only [buildA] at hb
   split at hb
   ·rename_i hc
    rw [lenL_eq] at hc
    cases hs : splL z off (cellsOf (ev fr x)) with
    | none => rw [hs] at hb; cases hb
    | some z' =>
     rw [hs] at hb
     have gx := rx_rel hf hx
     obtain ⟨g1, g2⟩ := cellsOf_rel gx hc.2
     have hsz := cells_size gx hc.2
     obtain ⟨hle, _⟩ := splL_eq _ _ _ _ hs
     have hle' : off + (a.eval p.2).cells.size ≤ cells.size := by
      have := rels_length hz
      simp at this
      omega
     have hfold := foldl_set_arr (a.eval p.2).cells off cells hle'
     have hr := rels_spl hz g1 hs
     have hlen : (a.eval p.2).cells.toList.length = (a.eval p.2).cells.size := by simp
     rw [hlen, ← hfold] at hr
     obtain ⟨c', k1, k2, k3⟩ := build_fill hf place parts ps z' r _ (by
      rw [hfold]
      intro u hu
      rcases List.mem_append.1 hu with hu | hu
      ·rcases List.mem_append.1 hu with hu | hu
       ·exact h1 u (List.mem_of_mem_take hu)
       ·exact g2 u hu
      ·exact h1 u (List.mem_of_mem_drop hu)) hr hp hb
     refine ⟨c', ?_, k2, k3⟩
     simp only [List.map_cons, Instr.fill, hpl]
     rw [if_neg]
     ·exact k1
     ·simp only [ne_eq, Bool.or_eq_true, decide_eq_true_eq, not_or, Decidable.not_not, gt_iff_lt, Nat.not_lt]
      exact ⟨by have := hc.1; omega, hle'⟩
   ·cases hb
theorem op_build {t : TypeId} {parts : Array (Nat × Operand)} (ho : o.op = .build t parts) (hf : rels S fr (shape H) a.tmps.toList) (h : WRel S H w) {z : List AV} (hz : zeroOf P t = some z) {fs : Array Field} (hu : P.underlying t = some (.struct fs))
  {ps : List (Nat × Nat × AX)} (hfs : ∀ f ∈ fs.toList, ∃ n, szOf P f.type = some n)
  (hps : All2 (fun (p : Nat × Operand) (q : Nat × Nat × AX) => (∃ f, fs[p.1]? = some f ∧ q.1 = f.offset ∧ szOf P f.type = some q.2.1) ∧ rx p.2 = some q.2.2) parts.toList ps)
  (hs : sat arS P H (exec1 arS σr fr H (.build z ps)) K) : opRes P o a w (Done S H K) := by
 simp only [exec1] at hs
 split at hs
 ·rename_i h1
  obtain ⟨v, hb, hK⟩ := sat_okO hs
  obtain ⟨r, hb', rfl⟩ := Option.map_eq_some_iff.1 hb
  obtain ⟨i, zv, hi, hzv, hc⟩ := zeroOf_spec hz
  have hzr := cvs_rel (S := S) (T := shape H) _ _ hc
  have hpl : ∃ pl : Array (Nat × Nat), (fs.mapM (fun f => do pure (f.offset, ← sizeOf f.type)) : Sem _).run P w = .ok pl w ∧ ∀ (i : Nat) (f : Field) (n : Nat), fs[i]? = some f → szOf P f.type = some n → pl[i]? = some (f.offset, n) := by
   have key : ∀ l : List Field, (∀ f ∈ l, ∃ n, szOf P f.type = some n) → ∃ pl : List (Nat × Nat), (l.mapM (fun f => do pure (f.offset, ← sizeOf f.type)) : Sem _).run P w = .ok pl w ∧ ∀ (i : Nat) (f : Field) (n : Nat), l[i]? = some f → szOf P f.type = some n → pl[i]? = some (f.offset, n) := by
    intro l
    induction l with
    | nil => intro _; exact ⟨[], by simp, fun i f n hi => by simp at hi⟩
    | cons f l ih =>
     intro hl
     obtain ⟨n, hn⟩ := hl f (by simp)
     obtain ⟨pl, g1, g2⟩ := ih (fun f' hf' => hl f' (by simp [hf']))
     refine ⟨(f.offset, n) :: pl, ?_, fun i f' n' hi hn' => ?_⟩
     ·simp only [List.mapM_cons, Sem.run_bind, run_szOf hn, Result.andThen_ok, Sem.run_pure, g1]
     ·cases i with
      | zero => simp at hi; subst hi; rw [hn] at hn'; injection hn' with hn'; subst hn'; simp
      | succ i => simp at hi; simpa using g2 i f' n' hi hn'
   obtain ⟨pl, g1, g2⟩ := key fs.toList hfs
   refine ⟨pl.toArray, ?_, fun i f n hi hn => by simpa using g2 i f n (by simpa using hi) hn⟩
   rw [Array.mapM_eq_mapM_toList, Sem.run_map, g1]
   rfl
  obtain ⟨pl, hpl1, hpl2⟩ := hpl
  obtain ⟨cells', k1, k2, k3⟩ := build_fill hf (pl[·]?) parts.toList ps z r zv.cells (rels_one hzr h1) hzr
   (by
    refine All2.imp (fun p q ⟨⟨f, e1, e2, e3⟩, e4⟩ => ⟨?_, e4⟩) hps
    rw [hpl2 p.1 f q.2.1 e1 e3, e2]) hb'
  have hex : execOp a.eval o = (do pure (.value (← Instr.build t (parts.map fun (i, x) => (i, a.eval x))))) := by simp only [execOp, ho]
  refine op_of_run (u := .agg cells') hex ?_ h (by simp only [rel]; exact ⟨_, rfl, k2, k3⟩) hK
  have hparts : (parts.map fun (i, x) => (i, a.eval x)).toList = parts.toList.map fun p => (p.1, a.eval p.2) := by simp
  simp only [Instr.build, Sem.run_bind, run_zero hi hzv, Result.andThen_ok, run_underlying hu, hpl1, hparts, k1, Sem.run_pure]
 ·exact False.elim hs
theorem lit_fill {T : Sh} (hf : rels S fr T a.tmps.toList) (sz : Nat) (n : Nat) : ∀ (parts : List (Nat × Operand)) (ps : List (Nat × AX)) (rows rows' : List (List AV)) (cells : Array Value),
  cells.size = n * sz → rows.length = n → RowRel S T sz rows cells →
  All2 (fun (p : Nat × Operand) (q : Nat × AX) => p.1 = q.1 ∧ rx p.2 = some q.2) parts ps → litA fr sz rows ps = some rows' →
  ∃ cells', Instr.fill (fun i => some (i * sz, sz)) cells (parts.map fun p => (p.1, a.eval p.2)) = some cells' ∧ cells'.size = n * sz ∧ rows'.length = n ∧ RowRel S T sz rows' cells'
 | [], ps, rows, rows', cells, h1, hl, hz, hp, hb => by
  cases hp
  simp only [litA, Option.some.injEq] at hb
  subst hb
  exact ⟨cells, rfl, h1, hl, hz⟩
 | p :: parts, ps, rows, rows', cells, h1, hl, hz, hp, hb => by
  cases hp with
  | cons hpq hp =>
   rename_i q ps
   obtain ⟨i, x⟩ := q
   obtain ⟨hpl, hx⟩ := hpq
   simp only at hpl hx
   simp only [litA] at hb
   split at hb
   ·rename_i hc
    rw [lenL_eq, lenL_eq] at hc
    obtain ⟨c1, c2, c3⟩ := hc
    have gx := rx_rel hf hx
    obtain ⟨g1, g2⟩ := cellsOf_rel gx c2
    have hsz := cells_size gx c2
    have hmul : i * sz + sz ≤ n * sz := by rw [← Nat.succ_mul]; exact Nat.mul_le_mul_right _ (by omega)
    have hle' : i * sz + (a.eval p.2).cells.size ≤ cells.size := by omega
    have hfold := foldl_set_arr (a.eval p.2).cells (i * sz) cells hle'
    have hsize : ((a.eval p.2).cells.zipIdx.foldl (fun cs (c, j) => cs.setIfInBounds (i * sz + j) c) cells).size = n * sz := by
     rw [← Array.length_toList, hfold]
     simp
     omega
    have hget : ∀ k : Nat, ((a.eval p.2).cells.zipIdx.foldl (fun cs (c, j) => cs.setIfInBounds (i * sz + j) c) cells)[k]? = if k < i * sz then cells[k]? else if k < i * sz + sz then (a.eval p.2).cells[k - i * sz]? else cells[k]? := by
     intro k
     rw [← Array.getElem?_toList, hfold]
     by_cases hk : k < i * sz
     ·rw [if_pos hk, List.append_assoc, List.getElem?_append_left (by simp; omega), List.getElem?_take, if_pos hk]; simp
     ·rw [if_neg hk]
      by_cases hk2 : k < i * sz + sz
      ·rw [if_pos hk2, List.getElem?_append_left (by simp; omega), List.getElem?_append_right (by simp; omega)]
       simp only [List.length_take, Array.length_toList]
       rw [show min (i * sz) cells.size = i * sz by omega]; simp
      ·rw [if_neg hk2, List.getElem?_append_right (by simp; omega), List.getElem?_drop]
       simp only [List.length_append, List.length_take, Array.length_toList]
       rw [Array.getElem?_toList]
       congr 1
       omega
    obtain ⟨c', k1, k2, k3, k4⟩ := lit_fill hf sz n parts ps _ rows' _ hsize (by rw [setL_eq]; simpa using hl) (fun i' r' hr' => by
     rw [setL_eq, List.getElem?_set] at hr'
     split at hr'
     ·rename_i hii
      subst hii
      injection hr' with hr'
      subst hr'
      refine ⟨c1, fun j c hj => ?_⟩
      obtain ⟨u, m1, m2⟩ := rels_get g1 hj
      have hjlt : j < sz := by rw [← c1]; exact (List.getElem?_eq_some_iff.1 hj).1
      refine ⟨u, ?_, m2, g2 u (List.mem_of_getElem? m1)⟩
      rw [hget, if_neg (by omega), if_pos (by omega), show i * sz + j - i * sz = j by omega]
      rwa [Array.getElem?_toList] at m1
     ·rename_i hii
      obtain ⟨m1, m2⟩ := hz i' r' hr'
      refine ⟨m1, fun j c hj => ?_⟩
      obtain ⟨u, q1, q2⟩ := m2 j c hj
      have hjlt : j < sz := by rw [← m1]; exact (List.getElem?_eq_some_iff.1 hj).1
      refine ⟨u, ?_, q2⟩
      rw [hget]
      rcases Nat.lt_or_gt_of_ne hii with hlt | hgt
      ·have : i * sz + sz ≤ i' * sz := by rw [← Nat.succ_mul]; exact Nat.mul_le_mul_right _ hlt
       rw [if_neg (by omega), if_neg (by omega)]; exact q1
      ·have : i' * sz + sz ≤ i * sz := by rw [← Nat.succ_mul]; exact Nat.mul_le_mul_right _ hgt
       rw [if_pos (by omega)]; exact q1) hp hb
    refine ⟨c', ?_, k2, k3, k4⟩
    simp only [List.map_cons, Instr.fill, hpl]
    rw [if_neg]
    ·exact k1
    ·simp only [ne_eq, Bool.or_eq_true, decide_eq_true_eq, not_or, Decidable.not_not, gt_iff_lt, Nat.not_lt]
     exact ⟨by omega, hle'⟩
   ·cases hb
end
mutual
theorem pur_rel {S : RS} {T : Sh} : ∀ (c : AV) (v : Value), pur c = true → rel S c T v → rel S c noSh v
 | .int .., _, _, h => h
 | .bool .., _, _, h => h
 | .sb .., _, _, h => h
 | .str .., _, _, h => h
 | .nilp, _, _, h => h
 | .nils, _, _, h => h
 | .nilf, _, _, h => h
 | .nili, _, _, h => h
 | .nilm, _, _, h => h
 | .junk, _, _, _ => trivial
 | .ptr .., _, h, _ => by simp [pur] at h
 | .bptr .., _, h, _ => by simp [pur] at h
 | .sl .., _, h, _ => by simp [pur] at h
 | .map _, _, h, _ => by simp [pur] at h
 | .iptr _, _, _, h => by simpa only [rel] using h
 | .inl .., _, _, h => by simpa only [rel] using h
 | .fn f fi ca, v, hp, h => by
  simp only [rel] at h ⊢
  simp only [pur, Bool.and_eq_true] at hp
  obtain ⟨a, b, h1, h2, h3⟩ := h
  exact ⟨a, b, h1, purs_rel fi _ hp.1 h2, purs_rel ca _ hp.2 h3⟩
 | .iface t x, v, hp, h => by
  simp only [rel] at h ⊢
  simp only [pur] at hp
  obtain ⟨u, h1, h2⟩ := h
  exact ⟨u, h1, pur_rel x u hp h2⟩
 | .agg cs, v, hp, h => by
  simp only [rel] at h ⊢
  simp only [pur] at hp
  obtain ⟨us, h1, h2, h3⟩ := h
  exact ⟨us, h1, purs_rel cs _ hp h2, h3⟩
 | .tup cs, v, hp, h => by
  simp only [rel] at h ⊢
  simp only [pur] at hp
  obtain ⟨us, h1, h2⟩ := h
  exact ⟨us, h1, purs_rel cs _ hp h2⟩
theorem purs_rel {S : RS} {T : Sh} : ∀ (cs : List AV) (vs : List Value), purs cs = true → rels S cs T vs → rels S cs noSh vs
 | [], _, _, h => h
 | c :: cs, vs, hp, h => by
  simp only [rels] at h ⊢
  simp only [purs, Bool.and_eq_true] at hp
  obtain ⟨v, vs', h1, h2, h3⟩ := h
  exact ⟨v, vs', h1, pur_rel c v hp.1 h2, purs_rel cs vs' hp.2 h3⟩
end
def RS.frozenNew (S : RS) (B : Nat) (arr : Array Value) : RS := { S with φ := fun B' o => if B' = B then arr[o]? else S.φ B' o }
theorem WRel.frozen_new {S : RS} {H : List ABlk} {w : World} (h : WRel S H w) (arr : Array Value) (e : TypeId) : WRel (S.frozenNew w.heap.size arr) H (w.alloc (.cells arr e)) ∧ Ext S (shape H) (S.frozenNew w.heap.size arr) (shape H) := by
 have hext : Ext S (shape H) (S.frozenNew w.heap.size arr) (shape H) :=
  ⟨rfl, rfl, fun B o v hv => by
   have := World.block_lt_of_cell? w _ (h.fro _ _ _ hv)
   simp only at this
   simp only [RS.frozenNew]
   rw [if_neg (by omega)]
   exact hv, fun B o v hv => by
   simp only [RS.frozenNew] at hv
   split at hv
   ·rename_i hB
    refine .inr fun hd => ?_
    have := (h.prot _ hd).1
    have := h.size
    omega
   ·exact .inl hv, fun _ _ h => ⟨h, rfl⟩, fun _ h => ⟨h, rfl⟩, fun _ m _ h => ⟨m, h, Nat.le_refl _, fun _ => rfl⟩⟩
 refine ⟨h.step hext (fun _ => False) (fun _ => False) (Chg.alloc w _ _) (fun _ _ h => h.elim) (fun B o v hv => ?_) (old := fun _ _ hb _ => ⟨hb, rfl, fun _ _ _ _ h => h⟩)
  (new := fun _ _ _ h => h.elim) (inj := fun _ _ _ _ _ _ _ _ _ _ _ _ _ h => h.elim), hext⟩
 simp only [RS.frozenNew] at hv
 split at hv
 ·rename_i hB
  subst hB
  exact .inr ⟨by rw [World.cell?_alloc_new]; exact hv, Nat.le_refl _⟩
 ·exact .inl hv
theorem pursS_get : ∀ {rows : List (List AV)} {i : Nat} {r : List AV}, pursS rows = true → rows[i]? = some r → purs r = true
 | [], i, r, _, h => by simp at h
 | r0 :: rows, i, r, h0, h => by
  simp only [pursS, Bool.and_eq_true] at h0
  cases i with
  | zero => simp at h; subst h; exact h0.1
  | succ i => simp at h; exact pursS_get h0.2 h
theorem purs_get : ∀ {cs : List AV} {i : Nat} {c : AV}, purs cs = true → cs[i]? = some c → pur c = true
 | [], i, c, _, h => by simp at h
 | c0 :: cs, i, c, h0, h => by
  simp only [purs, Bool.and_eq_true] at h0
  cases i with
  | zero => simp at h; subst h; exact h0.1
  | succ i => simp at h; exact purs_get h0.2 h
section
variable {P : Program} {S : RS} {H : List ABlk} {fr : List AV} {K : AV → List ABlk → Prop} {o : Oper} {a : Act} {w : World}
theorem op_lit {t e : TypeId} {n : Nat} {parts : Array (Nat × Operand)} (ho : o.op = .buildSlice t n parts) (hf : rels S fr (shape H) a.tmps.toList) (h : WRel S H w) (hu : P.underlying t = some (.slice e)) {sz : Nat} (hsz : szOf P e = some sz) {z : List AV} (hz : zeroOf P e = some z)
  (hzl : z.length = sz) (h0 : 0 < sz) (hlim : n * sz ≤ 2 ^ 24) {ps : List (Nat × AX)} (hps : All2 (fun (p : Nat × Operand) (q : Nat × AX) => p.1 = q.1 ∧ rx p.2 = some q.2) parts.toList ps)
  (hs : sat arS P H (exec1 arS σr fr H (.lit e sz n z ps)) K) : opRes P o a w (Done S H K) := by
 simp only [exec1] at hs
 split at hs
 ·rename_i h1
  rw [repL_eq] at hs
  cases hl : litA fr sz (List.replicate n z) ps with
  | none => rw [hl] at hs; exact False.elim hs
  | some rows =>
   rw [hl] at hs
   simp only at hs
   obtain ⟨i, zv, hi, hzv, hc⟩ := zeroOf_spec hz
   have hzr := cvs_rel (S := S) (T := shape H) _ _ hc
   have hzsz : zv.cells.size = sz := by have := rels_length hzr; simp at this; omega
   have hex : execOp a.eval o = (do pure (.value (← Instr.buildSlice t n (parts.map fun (i, x) => (i, a.eval x))))) := by simp only [execOp, ho]
   have hparts : (parts.map fun (i, x) => (i, a.eval x)).toList = parts.toList.map fun p => (p.1, a.eval p.2) := by simp
   obtain ⟨init, hinit, hisz, hirow⟩ : ∃ init : Array Value, init = (if n * sz = 0 then #[] else (Array.range (n * sz)).map (zv.cells[· % zv.cells.size]!)) ∧ init.size = n * sz ∧ RowRel S (shape H) sz (List.replicate n z) init := by
    refine ⟨_, rfl, ?_, ?_⟩
    ·split
     ·rename_i hh; simp [hh]
     ·simp
    ·intro i r hr
     rw [List.getElem?_replicate] at hr
     split at hr
     ·rename_i hin
      injection hr with hr
      subst hr
      refine ⟨hzl, fun j c hj => ?_⟩
      obtain ⟨u, g1, g2⟩ := rels_get hzr hj
      have hjlt : j < sz := by rw [← hzl]; exact (List.getElem?_eq_some_iff.1 hj).1
      refine ⟨u, ?_, g2, rels_one hzr h1 u (List.mem_of_getElem? g1)⟩
      have hmul : i * sz + sz ≤ n * sz := by rw [← Nat.succ_mul]; exact Nat.mul_le_mul_right _ (by omega)
      rw [if_neg (by omega)]
      rw [Array.getElem?_toList] at g1
      rw [Array.getElem?_map, Array.getElem?_range, if_pos (by omega)]
      simp only [Option.map_some, Option.some.injEq, hzsz]
      rw [show (i * sz + j) % sz = j by rw [Nat.mul_comm, Nat.mul_add_mod]; exact Nat.mod_eq_of_lt hjlt]
      obtain ⟨hlt, he⟩ := Array.getElem?_eq_some_iff.1 g1
      rw [getElem!_pos zv.cells j hlt, he]
     ·cases hr
   obtain ⟨cells', k1, k2, k3, k4⟩ := lit_fill hf sz n parts.toList ps (List.replicate n z) rows init hisz (by simp) hirow hps hl
   have hrun : (Instr.buildSlice t n (parts.map fun (i, x) => (i, a.eval x))).run P w = .ok (.slice (some ⟨w.heap.size, 0, none⟩) n n) (w.alloc (.cells cells' e)) := by
    by_cases hh : n * sz = 0
    ·rw [if_pos hh] at hinit
     simp only [Instr.buildSlice, Sem.run_bind, run_underlying hu, Result.andThen_ok, run_szOf hsz]
     rw [if_neg (by omega), if_pos hh]
     simp only [Sem.run_bind, Sem.run_pure, Result.andThen_ok]
     have : (Array.range (n * sz)).map ((#[] : Array Value)[· % (#[] : Array Value).size]!) = init := by rw [hinit, hh]; simp
     rw [hparts, this, k1]
     simp [newRow]
    ·rw [if_neg hh] at hinit
     simp only [Instr.buildSlice, Sem.run_bind, run_underlying hu, Result.andThen_ok, run_szOf hsz]
     rw [if_neg (by omega), if_neg hh]
     simp only [Sem.run_bind, run_zero hi hzv, Sem.run_pure, Result.andThen_ok]
     rw [hparts, ← hinit, k1]
     simp [newRow]
   split at hs
   ·rename_i hn
    subst hn
    refine ?_
    unfold opRes
    rw [hex]
    simp only [Sem.run_bind, hrun, Result.andThen_ok, Sem.run_pure]
    exact ⟨S, .nils, H, Ext.refl _ _, h.alloc _, by simp only [rel]; exact ⟨_, rfl⟩, hs⟩
   ·rename_i hn
    split at hs
    ·rename_i hpur
     have hpur : pursS rows = true := by rw [Bool.and_eq_true] at hpur; exact hpur.1
     obtain ⟨w1, w2⟩ := h.frozen_new cells' e
     unfold opRes
     rw [hex]
     simp only [Sem.run_bind, hrun, Result.andThen_ok, Sem.run_pure]
     refine ⟨_, _, H, w2, w1, ?_, hs⟩
     simp only [rel]
     refine ⟨_, n, by rw [k3], by omega, .inr ⟨w.heap.size, 0, rfl, fzs_of_get fun i r hr => ?_⟩⟩
     obtain ⟨m1, m2⟩ := k4 i r hr
     refine ⟨m1, fz_of_get fun j c hj => ?_⟩
     obtain ⟨u, q1, q2, q3⟩ := m2 j c hj
     refine ⟨u, by simpa [RS.frozenNew] using q1, ?_, q3⟩
     exact pur_rel c u (purs_get (pursS_get hpur hr) hj) (rel_ext _ _ _ _ w2 q2)
    ·have hs' : K (.sl H.length n 0 n) (H ++ [.arr e sz rows]) := by
      rw [lenL_eq, appL_eq] at hs
      exact hs
     obtain ⟨w1, w2⟩ := h.arr_new e sz rows n h0 (Chg.alloc w (.cells cells' e) _) (heap_alloc_new w _) k2 (by omega) k4
     unfold opRes
     rw [hex]
     simp only [Sem.run_bind, hrun, Result.andThen_ok, Sem.run_pure]
     refine ⟨_, _, _, w2, w1, ?_, hs'⟩
     simp only [rel]
     refine ⟨_, _, by rw [shape_last]; rfl, by omega, rfl, fun ht => ⟨by omega, ?_⟩⟩
     rw [put_same]
     exact ⟨some ⟨w.heap.size, 0, none⟩, by simp, fun _ => by simp⟩
 ·exact False.elim hs
end
end Go.Ab

namespace Go.Ab
open Go
set_option linter.unusedVariables false
set_option linter.unusedSimpArgs false
variable {σr : RowF}
section
variable {P : Program} {S : RS} {H : List ABlk} {fr : List AV} {K : AV → List ABlk → Prop} {o : Oper} {a : Act} {w : World}
theorem done_skip {w' : World} {H' : List ABlk} {S' : RS} (hx : (execOp a.eval o).run P w = .ok .skip w') (he : Ext S (shape H) S' (shape H')) (h : WRel S' H' w') (hK : K (.tup []) H') : opRes P o a w (Done S H K) := by
 unfold opRes
 rw [hx]
 exact ⟨S', .tup [], H', he, h, by simp [rel, rels, undef], hK⟩
theorem op_st {t : TypeId} {x y : Operand} (ho : o.op = .store t x y) (hf : rels S fr (shape H) a.tmps.toList) (h : WRel S H w) {ax ay : AX} (hx : rx x = some ax) (hy : rx y = some ay) {n : Nat} (hn : szOf P t = some n)
  (hs : sat arS P H (exec1 arS σr fr H (.st n ax ay)) K) : opRes P o a w (Done S H K) := by
 have gx := rx_rel hf hx
 have gy := rx_rel hf hy
 simp only [exec1] at hs
 split at hs
 case isFalse => exact False.elim hs
 rename_i hc
 rw [lenL_eq] at hc
 obtain ⟨c1, c2⟩ := hc
 obtain ⟨g1, g2⟩ := cellsOf_rel gy c2
 have hsz := cells_size gy c2
 have hcs := cells_size gy c2
 generalize ev fr ax = vx at *
 have hst : ∀ (B off : Nat) (e : TypeId) (arr : Array Value), w.heap[B]? = some (.cells arr e (0, 0)) → off + n ≤ arr.size → (Instr.storeAt t (.pointer (some ⟨B, off, none⟩)) (a.eval y)).run P w =
   .ok () (w.setRow B (arr.toList.take off ++ (a.eval y).cells.toList ++ arr.toList.drop (off + n)).toArray) := by
  intro B off e arr hB hle
  have := run_storeCells_at (P := P) B off e (a.eval y).cells.toList 0 arr w hB (by simp; omega) g2
  simp only [Nat.add_zero, Array.length_toList] at this
  rw [show (a.eval y).cells.size = n by omega] at this
  simp only [Instr.storeAt, Instr.sureAddr, Sem.run_bind, Sem.run_pure, Result.andThen_ok, storeVar, run_szOf hn]
  rw [if_neg (by simp; omega)]
  exact this
 have hex : (execOp a.eval o) = (do (Instr.storeAt t (a.eval x) (a.eval y)); pure .skip) := by simp only [execOp, ho]
 cases vx
 case bptr id off =>
  simp only at hs
  rw [getL_eq] at hs
  cases hb : H[id]? with
  | none => rw [hb] at hs; exact False.elim hs
  | some b =>
   rw [hb] at hs
   cases b <;> first | exact False.elim hs | skip
   rename_i e cs
   simp only at hs
   cases hsp : splL cs off (cellsOf (ev fr ay)) with
   | none => rw [hsp] at hs; exact False.elim hs
   | some cs' =>
    rw [hsp] at hs
    simp only [rel] at gx
    obtain ⟨m, B, c, h1, h2, h3⟩ := gx
    obtain ⟨B', c', arr, k1, k2, k3, k4, k5⟩ := h.blk id _ hb
    rw [h2] at k1
    injection k1 with k1
    injection k1 with k1 _
    subst k1
    obtain ⟨hle, _⟩ := splL_eq _ _ _ _ hsp
    have hl := rels_length k3
    simp at hl
    have hspl := rels_spl k3 g1 hsp
    have hlen : (a.eval y).cells.toList.length = n := by simp; omega
    rw [hlen] at hspl
    have hw := h.box_upd hb h2 (Chg.setRow w B _) (setRow_heap w B arr (arr.toList.take off ++ (a.eval y).cells.toList ++ arr.toList.drop (off + n)).toArray e (0, 0) k2) (cs' := cs') (by
     have := rels_length hspl
     rw [← this]
     simp only [List.length_append, List.length_take, List.length_drop, Array.length_toList]
     omega) (by simpa using hspl) (by
     intro u hu
     simp only [List.mem_append] at hu
     rcases hu with (hu | hu) | hu
     ·exact k4 u (List.mem_of_mem_take hu)
     ·exact g2 u hu
     ·exact k4 u (List.mem_of_mem_drop hu))
    simp only [setL_eq] at hs
    refine done_skip (w' := w.setRow B _) ?_ (Ext.upd hb ?_) hw hs
    ·rw [hex, h3]
     simp only [Sem.run_bind, hst B off e arr k2 (by omega), Result.andThen_ok, Sem.run_pure]
    ·simp only [ABlk.shp]
     congr 1
     have := rels_length hspl
     rw [← this]
     simp only [List.length_append, List.length_take, List.length_drop, Array.length_toList]
     omega
 case ptr id t' r off =>
  simp only at hs
  rw [getL_eq] at hs
  cases hb : H[id]? with
  | none => rw [hb] at hs; exact False.elim hs
  | some b =>
   rw [hb] at hs
   cases b <;> first | exact False.elim hs | skip
   rename_i e sz rows
   simp only at hs
   generalize σr arS e rows r = row at *
   cases hsp : splL row off (cellsOf (ev fr ay)) with
   | none => rw [hsp] at hs; exact False.elim hs
   | some row' =>
    rw [hsp] at hs
    obtain ⟨⟨ht, hrow⟩, hs⟩ := hs
    have hrow : rows[r]? = some row := hrow
    obtain ⟨B, c, k1, k2⟩ := ptr_valid gx hb ht
    obtain ⟨h0, hblk⟩ := h.blk id _ hb
    rw [k1] at hblk
    obtain ⟨arr, m1, m2, m3, m4, m5⟩ := hblk
    obtain ⟨hle, hre⟩ := splL_eq _ _ _ _ hsp
    obtain ⟨q1, q2⟩ := m4 r row hrow
    have hrlt : r < rows.length := (List.getElem?_eq_some_iff.1 hrow).1
    have hmul : r * sz + sz ≤ c * sz := by rw [← Nat.succ_mul]; exact Nat.mul_le_mul_right _ (by omega)
    have hlen : (a.eval y).cells.toList.length = n := by simp; omega
    have hrl : row'.length = sz := by rw [hre]; simp; omega
    have harr : ∀ k : Nat, ((arr.toList.take (r * sz + off) ++ (a.eval y).cells.toList ++ arr.toList.drop (r * sz + off + n)).toArray)[k]? = if k < r * sz + off then arr[k]? else if k < r * sz + off + n then (a.eval y).cells[k - (r * sz + off)]? else arr[k]? := by
     intro k
     rw [List.getElem?_toArray]
     by_cases hk : k < r * sz + off
     ·rw [if_pos hk, List.append_assoc, List.getElem?_append_left (by simp; omega), List.getElem?_take, if_pos hk]; simp
     ·rw [if_neg hk]
      by_cases hk2 : k < r * sz + off + n
      ·rw [if_pos hk2, List.getElem?_append_left (by simp; omega), List.getElem?_append_right (by simp; omega)]
       simp only [List.length_take, Array.length_toList]
       rw [show min (r * sz + off) arr.size = r * sz + off by omega]; simp
      ·rw [if_neg hk2, List.getElem?_append_right (by simp; omega), List.getElem?_drop]
       simp only [List.length_append, List.length_take, Array.length_toList]
       rw [Array.getElem?_toList]
       congr 1
       omega
    obtain ⟨hw, he⟩ := h.arr_upd hb k1 (Chg.setRow w B _) (setRow_heap w B arr (arr.toList.take (r * sz + off) ++ (a.eval y).cells.toList ++ arr.toList.drop (r * sz + off + n)).toArray e (0, 0) m1) (rows' := rows.set r row') (by
     simp only [List.size_toArray, List.length_append, List.length_take, List.length_drop, Array.length_toList]
     omega) (by simp) (by simpa using m3) (by
     intro i' r' hr'
     rw [List.getElem?_set] at hr'
     by_cases hii : r = i'
     ·subst hii
      rw [if_pos rfl, if_pos hrlt] at hr'
      injection hr' with hr'
      subst hr'
      refine ⟨hrl, fun j cc hj => ?_⟩
      have hjlt : j < sz := by rw [← hrl]; exact (List.getElem?_eq_some_iff.1 hj).1
      rw [harr, hre] at *
      by_cases hj1 : j < off
      ·rw [List.append_assoc, List.getElem?_append_left (by simp; omega), List.getElem?_take, if_pos hj1] at hj
       rw [if_pos (by omega)]
       exact q2 j cc hj
      ·by_cases hj2 : j < off + n
       ·rw [List.getElem?_append_left (by simp; omega), List.getElem?_append_right (by simp; omega)] at hj
        simp only [List.length_take] at hj
        rw [show min off row.length = off by omega] at hj
        obtain ⟨u, z1, z2⟩ := rels_get g1 hj
        rw [if_neg (by omega), if_pos (by omega), show r * sz + j - (r * sz + off) = j - off by omega]
        exact ⟨u, by rwa [Array.getElem?_toList] at z1, z2, g2 u (List.mem_of_getElem? z1)⟩
       ·rw [List.getElem?_append_right (by simp; omega), List.getElem?_drop] at hj
        simp only [List.length_append, List.length_take] at hj
        rw [show off + (cellsOf (ev fr ay)).length + (j - (min off row.length + (cellsOf (ev fr ay)).length)) = j by omega] at hj
        rw [if_neg (by omega), if_neg (by omega)]
        exact q2 j cc hj
     ·rw [if_neg hii] at hr'
      obtain ⟨z1, z2⟩ := m4 i' r' hr'
      refine ⟨z1, fun j cc hj => ?_⟩
      have hjlt : j < sz := by rw [← z1]; exact (List.getElem?_eq_some_iff.1 hj).1
      rw [harr]
      rcases Nat.lt_or_gt_of_ne hii with hlt | hgt
      ·have : r * sz + sz ≤ i' * sz := by rw [← Nat.succ_mul]; exact Nat.mul_le_mul_right _ hlt
       rw [if_neg (by omega), if_neg (by omega)]; exact z2 j cc hj
      ·have : i' * sz + sz ≤ r * sz := by rw [← Nat.succ_mul]; exact Nat.mul_le_mul_right _ hgt
       rw [if_pos (by omega)]; exact z2 j cc hj)
    simp only [setL_eq] at hs
    refine done_skip (w' := w.setRow B _) ?_ he hw hs
    rw [hex, k2]
    simp only [Sem.run_bind, hst B (r * sz + off) e arr m1 (by omega), Result.andThen_ok, Sem.run_pure]
 all_goals exact False.elim hs
theorem sl_valid {id t off n : Nat} {u : Value} {e : TypeId} {sz : Nat} {rows : List (List AV)} (hx : rel S (.sl id t off n) (shape H) u) (hb : H[id]? = some (.arr e sz rows)) (ht : t = rows.length) :
  off + n ≤ rows.length ∧ match S.ρ id with
   | some (B, c) => ∃ a, u = .slice a n (c - off) ∧ (off < c → a = some ⟨B, off * sz, none⟩)
   | none => n = 0 ∧ ∃ a, u = .slice a 0 0 := by
 simp only [rel] at hx
 obtain ⟨m, sz', h1, h2, _, h3⟩ := hx
 rw [shape_get hb] at h1
 simp only [ABlk.shp, Option.some.injEq, Shp.row.injEq] at h1
 obtain ⟨rfl, rfl⟩ := h1
 exact h3 ht
theorem sl_len {id t off n : Nat} {u : Value} {e : TypeId} {sz : Nat} {rows : List (List AV)} (hx : rel S (.sl id t off n) (shape H) u) (hb : H[id]? = some (.arr e sz rows)) (ht : t = rows.length) :
  ∃ a c, u = .slice a n c := by
 obtain ⟨_, h⟩ := sl_valid hx hb ht
 cases hr : S.ρ id with
 | none => rw [hr] at h; obtain ⟨rfl, a, h⟩ := h; exact ⟨a, 0, h⟩
 | some p => obtain ⟨B, c⟩ := p; rw [hr] at h; obtain ⟨a, h, _⟩ := h; exact ⟨a, _, h⟩
theorem op_nilS {op : BinOp} {t t' : TypeId} {x y : Operand} (ho : o.op = .binOp op t x y t') (hf : rels S fr (shape H) a.tmps.toList) (h : WRel S H w) {ax : AX} (hx : rx x = some ax) {neg : Bool} (hn : isNilS P op t y = some neg)
  (hs : sat arS P H (exec1 arS σr fr H (.nilS neg ax)) K) : opRes P o a w (Done S H K) := by
 have gx := rx_rel hf hx
 obtain ⟨e, hu, hy, hop⟩ : ∃ e, P.underlying t = some (.slice e) ∧ y = .const (.slice none 0 0) ∧ ((op = .eql ∧ neg = false) ∨ (op = .neq ∧ neg = true)) := by
  unfold isNilS at hn
  split at hn
  ·rename_i e hu
   simp only [Option.some.injEq] at hn
   exact ⟨e, hu, rfl, .inl ⟨rfl, hn.symm⟩⟩
  ·rename_i e hu
   simp only [Option.some.injEq] at hn
   exact ⟨e, hu, rfl, .inr ⟨rfl, hn.symm⟩⟩
  ·cases hn
 have key : ∃ m n c, a.eval x = .slice m n c ∧ ((n = 0 → K (.bool (!neg)) H) ∧ K (.bool neg) H) ∧ (m = none → n = 0) := by
  simp only [exec1] at hs
  generalize ev fr ax = vx at *
  generalize a.eval x = ux at *
  have fin : ∀ n : Nat, sat arS P H (.nilq neg n H) K → (n = 0 → K (.bool (!neg)) H) ∧ K (.bool neg) H := fun n hs => ⟨fun h0 => hs.1 (by subst h0; rfl), hs.2⟩
  cases vx <;> first | exact False.elim hs | skip
  case nils =>
   simp only [rel] at gx
   obtain ⟨a, rfl⟩ := gx
   exact ⟨a, 0, 0, rfl, fin 0 hs, fun _ => rfl⟩
  case inl sz rows =>
   simp only [rel] at gx
   obtain ⟨a, c, rfl, _, hz⟩ := gx
   refine ⟨a, _, c, rfl, fin _ hs, fun hm => ?_⟩
   rcases hz with hz | ⟨B, o, hz, _⟩
   ·rw [hz]; rfl
   ·rw [hz] at hm; cases hm
  case sl id tt off n =>
   simp only at hs
   cases hg : getL H id with
   | none => rw [hg] at hs; exact False.elim hs
   | some b =>
    rw [hg] at hs
    cases b <;> first | exact False.elim hs | skip
    rename_i e' sz rows
    rw [getL_eq] at hg
    have ht : tt = rows.length := hs.1
    obtain ⟨v1, v2⟩ := sl_valid gx hg ht
    obtain ⟨_, hblk⟩ := h.blk id _ hg
    have hk := fin n hs.2
    cases hr : S.ρ id with
    | none =>
     rw [hr] at v2
     obtain ⟨rfl, a, rfl⟩ := v2
     exact ⟨a, 0, 0, rfl, hk, fun _ => rfl⟩
    | some p =>
     obtain ⟨B, c⟩ := p
     rw [hr] at v2 hblk
     obtain ⟨a, rfl, q2⟩ := v2
     obtain ⟨arr, m1, m2, m3, _⟩ := hblk
     refine ⟨a, n, _, rfl, hk, fun hm => ?_⟩
     rcases Nat.lt_or_ge off c with hl | hl
     ·rw [q2 hl] at hm; cases hm
     ·omega
 obtain ⟨m, n, c, hev, ⟨k1, k2⟩, hm0⟩ := key
 unfold opRes execOp
 have hev2 : a.eval y = .slice none 0 0 := by rw [hy]; rfl
 have hq := run_eq_nilS (m := m) (n := n) (c := c) hu w
 simp only [ho, Sem.run_bind, hev, hev2, run_eqGuard_slice, Result.andThen_ok, Sem.run_pure]
 rcases hop with ⟨rfl, rfl⟩ | ⟨rfl, rfl⟩
 ·simp only [binOp, Sem.run_bind, hq, Result.andThen_ok, Sem.run_pure]
  cases m with
  | none => exact .here h (by simp only [rel]; rfl) (k1 (hm0 rfl))
  | some p => exact .here h (by simp only [rel]; rfl) k2
 ·simp only [binOp, Sem.run_bind, hq, Result.andThen_ok, Sem.run_pure]
  cases m with
  | none => exact .here h (by simp only [rel]; rfl) (k1 (hm0 rfl))
  | some p => exact .here h (by simp only [rel]; rfl) k2
theorem op_len {ts : Array TypeId} {x : Operand} (ho : o.op = .call { callee := .builtin .len, args := #[x], argTypes := ts }) (hf : rels S fr (shape H) a.tmps.toList) (h : WRel S H w) {ax : AX} (hx : rx x = some ax)
  {t : TypeId} (ht : ts[0]? = some t) {str : Bool} (hu : if str then P.underlying t = some .string else ∃ e, P.underlying t = some (.slice e))
  (hs : sat arS P H (exec1 arS σr fr H (.len str ax)) K) : opRes P o a w (Done S H K) := by
 have gx := rx_rel hf hx
 simp only [exec1] at hs
 generalize ev fr ax = vx at *
 have key : ∀ (u : Value), (Builtin.len_ ts o.type #[a.eval x]).run P w = .ok u w → ∀ v, rel S v (shape H) u → K v H → opRes P o a w (Done S H K) := by
  intro u hr v hv hK
  unfold opRes execOp
  simp only [ho, Go.resolve, Go.invoke, Go.builtin, Sem.run_bind, Sem.run_pure, Result.andThen_ok, List.map_toArray, List.map_cons, List.map_nil, hr]
  exact .here h hv hK
 cases str
 ·simp only [Bool.false_eq_true, if_false] at hu
  obtain ⟨el, hu⟩ := hu
  have slice : ∀ (aa : Option Addr) (n c : Nat), a.eval x = .slice aa n c → (Builtin.len_ ts o.type #[a.eval x]).run P w = .ok (.int .i64 n) w := by
   intro aa n c e
   simp [Builtin.len_, ht, e, run_underlying hu, goInt]
  cases vx <;> first | exact False.elim hs | skip
  case nils =>
   simp only [rel] at gx
   obtain ⟨aa, gx⟩ := gx
   exact key _ (slice aa 0 0 gx) _ (by simp only [rel]; rfl) hs
  case inl sz rows =>
   simp only [rel] at gx
   obtain ⟨aa, c, gx, _⟩ := gx
   exact key _ (slice aa _ c gx) _ (by simp only [rel]; rfl) hs
  case sl id t' off n =>
   simp only [getL_eq] at hs
   cases hb : H[id]? with
   | none => rw [hb] at hs; exact False.elim hs
   | some b =>
    rw [hb] at hs
    cases b <;> first | exact False.elim hs | skip
    obtain ⟨hv, hs⟩ := hs
    obtain ⟨aa, c, gx⟩ := sl_len gx hb hv
    exact key _ (slice aa _ c gx) _ (by simp only [rel]; rfl) hs
 ·simp only [if_true] at hu
  cases vx <;> first | exact False.elim hs | skip
  simp only [rel] at gx
  exact key _ (by rw [gx]; simp [Builtin.len_, ht, run_underlying hu, goInt]; rfl) _ (by simp only [rel]; rfl) hs
theorem op_idx {t e : TypeId} {x y : Operand} (ho : o.op = .indexAddr t x y) (hf : rels S fr (shape H) a.tmps.toList) (h : WRel S H w) {ax ay : AX} (hx : rx x = some ax) (hy : rx y = some ay) (hu : P.underlying t = some (.slice e)) {sz : Nat} (hsz : szOf P e = some sz)
  (hs : sat arS P H (exec1 arS σr fr H (.idx e sz ax ay)) K) : opRes P o a w (Done S H K) := by
 have gx := rx_rel hf hx
 have gy := rx_rel hf hy
 simp only [exec1] at hs
 generalize ev fr ax = vx at *
 generalize ev fr ay = vy at *
 have hex : execOp a.eval o = (do pure (.value (← Instr.indexAt t (a.eval x) (a.eval y)))) := by simp only [execOp, ho]
 have run : ∀ (B off n c : Nat) (k : IntKind) (i : Int), 0 ≤ i → i < n → (Instr.indexAt t (.slice (some ⟨B, off, none⟩) n c) (.int k i)).run P w = .ok (.pointer (some ⟨B, off + i.toNat * sz, none⟩)) w := by
  intro B off n c k i h0 h1
  simp [Instr.indexAt, asIntOf, run_underlying hu, run_szOf hsz, h0, h1, Addr.add_lit]
 cases vx <;> first | exact False.elim hs | skip
 case inl sz' rows =>
  cases vy <;> first | exact False.elim hs | skip
  rename_i k i
  simp only at hs
  split at hs
  ·rename_i hz
   subst hz
   obtain ⟨⟨h0, hr⟩, hs⟩ := hs
   have h0 : 0 ≤ i := h0
   have hr : rows[i.toNat]? = some (σr arS e rows i.toNat) := hr
   have hlt : i.toNat < rows.length := (List.getElem?_eq_some_iff.1 hr).1
   simp only [rel] at gx gy
   obtain ⟨aa, c, gx, hc, g1⟩ := gx
   rcases g1 with rfl | ⟨B, off, rfl, g1⟩
   ·simp at hlt
   ·obtain ⟨_, q2⟩ := fzs_get g1 hr
    exact op_of_run hex (by rw [gx, gy]; exact run B off _ c k i h0 (by omega)) h (by simp only [rel]; exact ⟨B, _, rfl, q2⟩) hs
  ·exact False.elim hs
 case sl id t' off n =>
  cases vy <;> first | exact False.elim hs | skip
  rename_i k i
  simp only [getL_eq] at hs
  cases hb : H[id]? with
  | none => rw [hb] at hs; exact False.elim hs
  | some b =>
   rw [hb] at hs
   cases b <;> first | exact False.elim hs | skip
   rename_i e' sz' rows
   simp only at hs
   split at hs
   ·rename_i hz
    subst hz
    obtain ⟨⟨h0, h1, ht⟩, hs⟩ := hs
    have h0 : 0 ≤ i := h0
    have h1 : i < (n : Int) := h1
    have ht : t' = rows.length := ht
    rw [show arS.adz off (arS.tn i) = off + i.toNat from adzS_eq _ _] at hs
    obtain ⟨v1, v2⟩ := sl_valid gx hb ht
    simp only [rel] at gy
    cases hr : S.ρ id with
    | none => rw [hr] at v2; obtain ⟨rfl, _⟩ := v2; omega
    | some p =>
     obtain ⟨B, c⟩ := p
     rw [hr] at v2
     obtain ⟨aa, gx', ha⟩ := v2
     have hoc : off < c := by
      obtain ⟨_, hblk⟩ := h.blk id _ hb
      rw [hr] at hblk
      obtain ⟨arr, _, _, q3, _⟩ := hblk
      omega
     have haa := ha hoc
     subst haa
     refine op_of_run hex (by rw [gx', gy]; exact run B _ n _ k i h0 h1) h ?_ hs
     simp only [rel]
     refine ⟨rows.length, sz, B, _, shape_get hb, by omega, rfl, fun _ => ⟨c, hr, ?_⟩⟩
     show off * sz + i.toNat * sz = (off + i.toNat) * sz + 0
     rw [Nat.add_mul]; omega
   ·exact False.elim hs
 all_goals (cases vy <;> exact False.elim hs)
end
end Go.Ab

namespace Go.Ab
open Go
set_option linter.unusedVariables false
set_option linter.unusedSimpArgs false
variable {σr : RowF}
section
variable {P : Program} {S : RS} {H : List ABlk} {fr : List AV} {K : AV → List ABlk → Prop} {o : Oper} {a : Act} {w : World}
def Bnd (a : Act) (x : Option Operand) (n : Option Int) : Prop :=
 match x, n with
 | none, none => True
 | some x, some n => ∃ k, a.eval x = .int k n
 | _, _ => False
theorem bndA_rel {T : Sh} (hf : rels S fr T a.tmps.toList) {x : Option Operand} {ax : Option AX} {n : Option Int} (hx : optX x = some ax) (h : bndA fr ax = some n) : Bnd a x n := by
 cases x with
 | none => simp only [optX, Option.some.injEq] at hx; subst hx; simp only [bndA, Option.some.injEq] at h; subst h; trivial
 | some x =>
  simp only [optX, Option.map_eq_some_iff] at hx
  obtain ⟨ax, hx, rfl⟩ := hx
  have gx := rx_rel hf hx
  simp only [bndA] at h
  generalize ev fr ax = v at *
  cases v <;> simp at h
  subst h
  simp only [rel] at gx
  exact ⟨_, gx⟩
theorem run_sliceBounds {b : Bool} {len cap : Nat} {lo hi : Option Operand} {l h : Nat} {nl nh : Option Int} (hl : Bnd a lo nl) (hh : Bnd a hi nh) (el : nl = none ∧ l = 0 ∨ nl = some (l : Int)) (eh : nh = none ∧ h = len ∨ nh = some (h : Int)) (h1 : l ≤ h) (h2 : h ≤ cap) (w : World) :
  (Instr.sliceBounds b len cap (lo.map a.eval) (hi.map a.eval) none).run P w = .ok (l, h, cap) w := by
 have hb : ∀ (v : Value) (k : IntKind) (i : Nat) (y : Nat) (c : BoundsCode), v = .int k (i : Int) → i ≤ y → (Instr.sliceBound v y c).run P w = .ok i w := by
  intro v k i y c e hle
  subst e
  simp [Instr.sliceBound, asIntOf, hle]
 rcases el with ⟨rfl, rfl⟩ | rfl
 ·cases lo with
  | some x => exact hl.elim
  | none =>
   rcases eh with ⟨rfl, rfl⟩ | rfl
   ·cases hi with
    | some x => exact hh.elim
    | none => simp [Instr.sliceBounds]
   ·cases hi with
    | none => exact hh.elim
    | some y =>
     obtain ⟨k, hy⟩ := hh
     simp [Instr.sliceBounds, hb _ k h cap _ hy h2]
 ·cases lo with
  | none => exact hl.elim
  | some x =>
   obtain ⟨k', hx⟩ := hl
   rcases eh with ⟨rfl, rfl⟩ | rfl
   ·cases hi with
    | some x => exact hh.elim
    | none => simp [Instr.sliceBounds, hb _ k' l h _ hx h1]
   ·cases hi with
    | none => exact hh.elim
    | some y =>
     obtain ⟨k, hy⟩ := hh
     simp [Instr.sliceBounds, hb _ k h cap _ hy h2, hb _ k' l h _ hx h1]
theorem run_sliceAt_slice {t e : TypeId} (hu : P.underlying t = some (.slice e)) {sz : Nat} (hsz : szOf P e = some sz) {aa : Option Addr} {len cap : Nat} {lo hi : Option Operand} {l h : Nat} {nl nh : Option Int} (hl : Bnd a lo nl) (hh : Bnd a hi nh)
  (el : nl = none ∧ l = 0 ∨ nl = some (l : Int)) (eh : nh = none ∧ h = len ∨ nh = some (h : Int)) (h1 : l ≤ h) (h2 : h ≤ cap) (w : World) :
  (Instr.sliceAt t (.slice aa len cap) (lo.map a.eval) (hi.map a.eval) none).run P w = .ok (.slice (if cap = l then aa else aa.map (·.add (l * sz))) (h - l) (cap - l)) w := by
 simp [Instr.sliceAt, run_underlying hu, Instr.slice, run_sliceBounds hl hh el eh h1 h2, run_szOf hsz]
theorem run_sliceAt_string {t : TypeId} (hu : P.underlying t = some .string) {s : ByteArray} {lo hi : Option Operand} {l h : Nat} {nl nh : Option Int} (hl : Bnd a lo nl) (hh : Bnd a hi nh)
  (el : nl = none ∧ l = 0 ∨ nl = some (l : Int)) (eh : nh = none ∧ h = s.size ∨ nh = some (h : Int)) (h1 : l ≤ h) (h2 : h ≤ s.size) (w : World) :
  (Instr.sliceAt t (.string s) (lo.map a.eval) (hi.map a.eval) none).run P w = .ok (.string (s.extract l h)) w := by
 simp [Instr.sliceAt, run_underlying hu, Instr.slice, run_sliceBounds hl hh el eh h1 h2]
theorem inl_cut {T : Sh} {sz : Nat} {rows : List (List AV)} {aa : Option Addr} {c l h : Nat} (hc : rows.length ≤ c) (hr : rows = [] ∨ ∃ B o, aa = some ⟨B, o, none⟩ ∧ fzs S B o sz rows) (h1 : l ≤ h) (h2 : h ≤ rows.length) :
  rel S (.inl sz ((rows.take h).drop l)) T (.slice (if c = l then aa else aa.map (·.add (l * sz))) (h - l) (c - l)) := by
 simp only [rel]
 have hlen : ((rows.take h).drop l).length = h - l := by simp; omega
 refine ⟨_, c - l, by rw [hlen], by rw [hlen]; omega, ?_⟩
 rcases Nat.eq_or_lt_of_le h1 with rfl | hlt
 ·exact .inl (List.eq_nil_of_length_eq_zero (by rw [hlen]; omega))
 ·rcases hr with rfl | ⟨B, off, rfl, hr⟩
  ·simp at h2; omega
  ·refine .inr ⟨B, off + l * sz, ?_, fzs_of_get fun i r hi => ?_⟩
   ·rw [if_neg (by omega)]
    simp [Addr.add_lit]
   ·rw [List.getElem?_drop, List.getElem?_take] at hi
    split at hi
    ·obtain ⟨q1, q2⟩ := fzs_get hr hi
     refine ⟨q1, ?_⟩
     rw [show off + l * sz + i * sz = off + (l + i) * sz by rw [Nat.add_mul]; omega]
     exact q2
    ·cases hi
theorem sl_cut {e : TypeId} {id t off n sz : Nat} {rows : List (List AV)} {u : Value} (h : WRel S H w) (hx : rel S (.sl id t off n) (shape H) u) (hb : H[id]? = some (.arr e sz rows)) (ht : t = rows.length) {l k : Nat} (h1 : l ≤ k) (h2 : k ≤ n) :
  ∃ aa c, u = .slice aa n c ∧ k ≤ c ∧ rel S (.sl id t (off + l) (k - l)) (shape H) (.slice (if c = l then aa else aa.map (·.add (l * sz))) (k - l) (c - l)) := by
 obtain ⟨v1, v2⟩ := sl_valid hx hb ht
 cases hr : S.ρ id with
 | none =>
  rw [hr] at v2
  obtain ⟨rfl, aa, rfl⟩ := v2
  refine ⟨aa, 0, rfl, by omega, ?_⟩
  simp only [rel]
  refine ⟨_, sz, shape_get hb, by omega, rfl, fun _ => ⟨by omega, ?_⟩⟩
  rw [hr]
  have h3 : k = 0 := by omega
  subst h3
  have h4 : l = 0 := by omega
  subst h4
  exact ⟨rfl, aa, by simp⟩
 | some p =>
  obtain ⟨B, c⟩ := p
  rw [hr] at v2
  obtain ⟨aa, hu, ha⟩ := v2
  obtain ⟨_, hblk⟩ := h.blk id _ hb
  rw [hr] at hblk
  obtain ⟨arr, _, _, q3, _⟩ := hblk
  refine ⟨aa, c - off, hu, by omega, ?_⟩
  simp only [rel]
  refine ⟨_, sz, shape_get hb, by omega, rfl, fun _ => ⟨by omega, ?_⟩⟩
  rw [hr]
  refine ⟨_, by rw [show c - off - l = c - (off + l) by omega], fun hlt => ?_⟩
  rw [if_neg (by omega), ha (by omega)]
  simp [Addr.add_lit, Nat.add_mul]
theorem sl_cut2 {e : TypeId} {id t off n sz : Nat} {rows : List (List AV)} {u : Value} (h : WRel S H w) (hx : rel S (.sl id t off n) (shape H) u) (hb : H[id]? = some (.arr e sz rows)) (ht : t = rows.length) {l k : Nat} (h1 : l ≤ k) (h2 : k ≤ rows.length - off) :
  ∃ aa c, u = .slice aa n c ∧ k ≤ c ∧ rel S (.sl id t (off + l) (k - l)) (shape H) (.slice (if c = l then aa else aa.map (·.add (l * sz))) (k - l) (c - l)) := by
 obtain ⟨v1, v2⟩ := sl_valid hx hb ht
 obtain ⟨_, hblk⟩ := h.blk id _ hb
 cases hr : S.ρ id with
 | none =>
  rw [hr] at v2 hblk
  obtain ⟨rfl, aa, rfl⟩ := v2
  have hrows : rows = [] := hblk
  subst hrows
  have h3 : k = 0 := by simpa using h2
  subst h3
  have h4 : l = 0 := by omega
  subst h4
  refine ⟨aa, 0, rfl, by omega, ?_⟩
  simp only [rel]
  refine ⟨_, sz, shape_get hb, by omega, rfl, fun _ => ⟨by omega, ?_⟩⟩
  rw [hr]
  first
   | exact ⟨rfl, aa, by simp⟩
   | exact ⟨trivial, aa, by simp⟩
 | some p =>
  obtain ⟨B, c⟩ := p
  rw [hr] at v2 hblk
  obtain ⟨aa, hu, ha⟩ := v2
  obtain ⟨arr, _, _, q3, _⟩ := hblk
  refine ⟨aa, c - off, hu, by omega, ?_⟩
  simp only [rel]
  refine ⟨_, sz, shape_get hb, by omega, rfl, fun _ => ⟨by omega, ?_⟩⟩
  rw [hr]
  refine ⟨_, by rw [show c - off - l = c - (off + l) by omega], fun hlt => ?_⟩
  rw [if_neg (by omega), ha (by omega)]
  simp [Addr.add_lit, Nat.add_mul]
theorem op_slc {t : TypeId} {x : Operand} {lo hi : Option Operand} (ho : o.op = .slice t x lo hi none) (hf : rels S fr (shape H) a.tmps.toList) (h : WRel S H w) {ax : AX} {alo ahi : Option AX} (hx : rx x = some ax) (hlo : optX lo = some alo) (hhi : optX hi = some ahi)
  {k : Option Nat} (hu : match k with | some sz => ∃ e, P.underlying t = some (.slice e) ∧ szOf P e = some sz | none => P.underlying t = some .string)
  (hs : sat arS P H (exec1 arS σr fr H (.slc k ax alo ahi)) K) : opRes P o a w (Done S H K) := by
 have gx := rx_rel hf hx
 simp only [exec1] at hs
 cases hnl : bndA fr alo with
 | none => rw [hnl] at hs; exact False.elim hs
 | some nl =>
  cases hnh : bndA fr ahi with
  | none => rw [hnl, hnh] at hs; exact False.elim hs
  | some nh =>
   rw [hnl, hnh] at hs
   have bl := bndA_rel hf hlo hnl
   have bh := bndA_rel hf hhi hnh
   simp only at hs
   have hex : execOp a.eval o = (do pure (.value (← Instr.sliceAt t (a.eval x) (lo.map a.eval) (hi.map a.eval) none))) := by simp only [execOp, ho, Option.map_none]
   generalize ev fr ax = vx at *
   cases k with
   | none =>
    cases vx <;> first | exact False.elim hs | skip
    rename_i s
    simp only [rel] at gx
    have go : ∀ (l k : Nat), (nl = none ∧ l = 0 ∨ nl = some (l : Int)) → (nh = none ∧ k = s.size ∨ nh = some (k : Int)) → l ≤ k → k ≤ s.size → K (.str (s.extract l k)) H → opRes P o a w (Done S H K) := by
     intro l k el eh h1 h2 hK
     exact op_of_run hex (by rw [gx]; exact run_sliceAt_string hu bl bh el eh h1 h2 w) h (by simp only [rel]) hK
    cases nl with
    | none =>
     cases nh with
     | none => refine go 0 s.size (.inl ⟨rfl, rfl⟩) (.inl ⟨rfl, rfl⟩) (by omega) (by omega) ?_; rw [ByteArray.extract_zero_size]; exact hs
     | some m =>
      obtain ⟨⟨q1, q2⟩, hs⟩ := hs
      have q1 : 0 ≤ m := q1
      have q2 : m ≤ ((s.size : Nat) : Int) := q2
      exact go 0 m.toNat (.inl ⟨rfl, rfl⟩) (.inr (by simp; omega)) (by omega) (by omega) hs
    | some l =>
     cases nh with
     | none =>
      obtain ⟨⟨q1, q2⟩, hs⟩ := hs
      have q1 : 0 ≤ l := q1
      have q2 : l ≤ ((s.size : Nat) : Int) := q2
      exact go l.toNat s.size (.inr (by simp; omega)) (.inl ⟨rfl, rfl⟩) (by omega) (by omega) hs
     | some m =>
      obtain ⟨⟨q1, q2, q3⟩, hs⟩ := hs
      have q1 : 0 ≤ l := q1
      have q2 : l ≤ m := q2
      have q3 : m ≤ ((s.size : Nat) : Int) := q3
      exact go l.toNat m.toNat (.inr (by simp; omega)) (.inr (by simp; omega)) (by omega) (by omega) hs
   | some z =>
    obtain ⟨e, hu, hsz⟩ := hu
    cases vx <;> first | exact False.elim hs | skip
    case nils =>
     obtain ⟨⟨q1, q1', q2, q2'⟩, hs⟩ := hs
     have q1 : nl.getD 0 = 0 := Int.le_antisymm q1 q1'
     have q2 : nh.getD 0 = 0 := Int.le_antisymm q2 q2'
     simp only [rel] at gx
     obtain ⟨aa, gx⟩ := gx
     refine op_of_run hex (by rw [gx]; exact run_sliceAt_slice hu hsz (l := 0) (h := 0) bl bh (by cases nl with | none => exact .inl ⟨rfl, rfl⟩ | some v => exact .inr (by simpa using q1)) (by cases nh with | none => exact .inl ⟨rfl, rfl⟩ | some v => exact .inr (by simpa using q2)) (by omega) (by omega) w) h (by simp only [rel]; exact ⟨_, rfl⟩) hs
    case inl sz rows =>
     simp only [slcA] at hs
     split at hs
     ·rename_i hz
      subst hz
      simp only [rel] at gx
      obtain ⟨aa, c, gx, hc, g1⟩ := gx
      have go : ∀ (l k : Nat), (nl = none ∧ l = 0 ∨ nl = some (l : Int)) → (nh = none ∧ k = rows.length ∨ nh = some (k : Int)) → l ≤ k → k ≤ rows.length → K (.inl sz ((rows.take k).drop l)) H → opRes P o a w (Done S H K) := by
       intro l k el eh h1 h2 hK
       exact op_of_run hex (by rw [gx]; exact run_sliceAt_slice hu hsz bl bh el eh h1 (by omega) w) h (inl_cut hc g1 h1 h2) hK
      cases nl with
      | none =>
       cases nh with
       | none => refine go 0 rows.length (.inl ⟨rfl, rfl⟩) (.inl ⟨rfl, rfl⟩) (by omega) (by omega) ?_; rw [List.take_length, List.drop_zero]; exact hs
       | some m =>
        obtain ⟨⟨q1, q2⟩, hs⟩ := hs
        have q1 : 0 ≤ m := q1
        have q2 : m ≤ ((rows.length : Nat) : Int) := q2
        exact go 0 m.toNat (.inl ⟨rfl, rfl⟩) (.inr (by simp; omega)) (by omega) (by omega) hs
      | some l =>
       cases nh with
       | none =>
        obtain ⟨⟨q1, q2⟩, hs⟩ := hs
        have q1 : 0 ≤ l := q1
        have q2 : l ≤ ((rows.length : Nat) : Int) := q2
        refine go l.toNat rows.length (.inr (by simp; omega)) (.inl ⟨rfl, rfl⟩) (by omega) (by omega) ?_
        rw [List.take_length]; exact hs
       | some m =>
        obtain ⟨⟨q1, q2, q3⟩, hs⟩ := hs
        have q1 : 0 ≤ l := q1
        have q2 : l ≤ m := q2
        have q3 : m ≤ ((rows.length : Nat) : Int) := q3
        exact go l.toNat m.toNat (.inr (by simp; omega)) (.inr (by simp; omega)) (by omega) (by omega) hs
     ·exact False.elim hs
    case sl id t' off n =>
     simp only [slcA, getL_eq] at hs
     cases hb : H[id]? with
     | none => rw [hb] at hs; exact False.elim hs
     | some b =>
      rw [hb] at hs
      cases b <;> first | exact False.elim hs | skip
      rename_i e' sz rows
      simp only at hs
      split at hs
      ·rename_i hz
       subst hz
       have go : ∀ (l k : Nat), t' = rows.length → (nl = none ∧ l = 0 ∨ nl = some (l : Int)) → (nh = none ∧ k = n ∨ nh = some (k : Int)) → l ≤ k → k ≤ n → K (.sl id t' (off + l) (k - l)) H → opRes P o a w (Done S H K) := by
        intro l k ht el eh h1 h2 hK
        obtain ⟨aa, c, q1, q2, q3⟩ := sl_cut h gx hb ht h1 h2
        exact op_of_run hex (by rw [q1]; exact run_sliceAt_slice hu hsz bl bh el eh h1 q2 w) h q3 hK
       cases nl with
       | none =>
        cases nh with
        | none => obtain ⟨q1, hs⟩ := hs; exact go 0 n q1 (.inl ⟨rfl, rfl⟩) (.inl ⟨rfl, rfl⟩) (by omega) (by omega) hs
        | some m =>
         obtain ⟨⟨q1, q2, q3⟩, hs⟩ := hs
         have q1 : 0 ≤ m := q1
         have q2 : m ≤ ((n : Nat) : Int) := q2
         exact go 0 m.toNat q3 (.inl ⟨rfl, rfl⟩) (.inr (by simp; omega)) (by omega) (by omega) hs
       | some l =>
        cases nh with
        | none =>
         obtain ⟨⟨q1, q2, q3⟩, hs⟩ := hs
         have q1 : 0 ≤ l := q1
         have q2 : l ≤ ((n : Nat) : Int) := q2
         exact go l.toNat n q3 (.inr (by simp; omega)) (.inl ⟨rfl, rfl⟩) (by omega) (by omega) hs
        | some m =>
         obtain ⟨⟨q1, q2, q3, q4⟩, hs⟩ := hs
         have q1 : 0 ≤ l := q1
         have q2 : l ≤ m := q2
         have q3 : m ≤ ((rows.length - off : Nat) : Int) := q3
         obtain ⟨aa, c, r1, r2, r3⟩ := sl_cut2 h gx hb q4 (l := l.toNat) (k := m.toNat) (by omega) (by omega)
         exact op_of_run hex (by rw [r1]; exact run_sliceAt_slice hu hsz bl bh (.inr (by simp; omega)) (.inr (by simp; omega)) (by omega) r2 w) h r3 hs
      ·exact False.elim hs
theorem op_slc3 {t : TypeId} {x lo hi mx : Operand} (ho : o.op = .slice t x (some lo) (some hi) (some mx)) (hf : rels S fr (shape H) a.tmps.toList) (h : WRel S H w) {ax al ah am : AX} (hx : rx x = some ax) (hl : rx lo = some al) (hh : rx hi = some ah) (hm : rx mx = some am)
  {k : Nat} {e : TypeId} (hu : P.underlying t = some (.slice e)) (hk : szOf P e = some k)
  (hs : sat arS P H (exec1 arS σr fr H (.slc3 k ax al ah am)) K) : opRes P o a w (Done S H K) := by
 have gx := rx_rel hf hx
 have gl := rx_rel hf hl
 have gh := rx_rel hf hh
 have gm := rx_rel hf hm
 simp only [exec1] at hs
 split at hs
 ·rename_i id t' off n kl l kh h' km m e1 e2 e3 e4
  rw [e1] at gx
  rw [e2] at gl
  rw [e3] at gh
  rw [e4] at gm
  rw [getL_eq] at hs
  cases hb : H[id]? with
  | none => rw [hb] at hs; exact False.elim hs
  | some b =>
   rw [hb] at hs
   cases b <;> first | exact False.elim hs | skip
   simp only at hs
   split at hs
   ·obtain ⟨⟨q0, q1, q2, q3, q4⟩, hK⟩ := hs
    have q0 : t' = _ := q0
    have q1 : 0 ≤ l := q1
    have q2 : l ≤ h' := q2
    have q3 : h' ≤ m := q3
    have q4 : m ≤ (n : Int) := q4
    obtain ⟨aa, c, hu', hc, _⟩ := sl_cut h gx hb q0 (l := 0) (k := n) (by omega) (Nat.le_refl _)
    simp only [rel] at gl gh gm
    have bd : ∀ (kk : IntKind) (i : Int) (y : Nat) (cd : BoundsCode), 0 ≤ i → i ≤ (y : Int) → (Instr.sliceBound (.int kk i) y cd).run P w = .ok i.toNat w := by
     intro kk i y cd h0 h1
     simp [Instr.sliceBound, asIntOf, h0, h1]
    have hex : execOp a.eval o = (do pure (.value (← Instr.sliceAt t (a.eval x) (some (a.eval lo)) (some (a.eval hi)) (some (a.eval mx))))) := by simp only [execOp, ho, Option.map_some]
    have hrun : ∃ v, (Instr.sliceAt t (a.eval x) (some (a.eval lo)) (some (a.eval hi)) (some (a.eval mx))).run P w = .ok v w := by
     rw [hu', gl, gh, gm]
     simp [Instr.sliceAt, run_underlying hu, Instr.slice, Instr.sliceBounds, bd km m c _ (by omega) (by omega), bd kh h' m.toNat _ (by omega) (by omega), bd kl l h'.toNat _ (by omega) (by omega), run_szOf hk]
    obtain ⟨v, hrun⟩ := hrun
    exact op_of_run hex hrun h (by simp only [rel]) hK
   ·exact False.elim hs
 ·exact False.elim hs
end
end Go.Ab

namespace Go.Ab
open Go
set_option linter.unusedVariables false
set_option linter.unusedSimpArgs false
variable {σr : RowF}
section
variable {P : Program} {S : RS} {H : List ABlk} {fr : List AV} {K : AV → List ABlk → Prop} {o : Oper} {a : Act} {w : World}
theorem op_asrt {t t0 : TypeId} {ok : Bool} {x : Operand} (ho : o.op = .typeAssert x t0 t ok) (hf : rels S fr (shape H) a.tmps.toList) (h : WRel S H w) {ax : AX} (hx : rx x = some ax) {d : TypeDesc} (hd : P.underlying t = some d) (hn : ∀ ms, d ≠ .interface ms)
  {z : List AV} (hz : zeroOf P t = some z) {ag : Bool} (hag : isAg P t = some ag)
  (hs : sat arS P H (exec1 arS σr fr H (.asrt t z ag ok ax)) K) : opRes P o a w (Done S H K) := by
 have gx := rx_rel hf hx
 simp only [exec1] at hs
 generalize ev fr ax = vx at *
 have hex : execOp a.eval o = (do pure (.value (← Instr.typeAssert (a.eval x) t0 t ok))) := by simp only [execOp, ho]
 cases vx <;> first | exact False.elim hs | skip
 rename_i t' v
 simp only at hs
 simp only [rel] at gx
 obtain ⟨u, gx, g1⟩ := gx
 split at hs
 ·rename_i ht
  subst ht
  have hrun : (Instr.typeAssert (a.eval x) t0 t' ok).run P w = .ok (if ok then .tuple #[u, .bool true] else u) w := by
   rw [gx]
   unfold Instr.typeAssert
   simp only [Sem.run_bind, run_underlying hd, Result.andThen_ok]
   cases d <;> first | exact absurd rfl (hn _) | (cases ok <;> simp)
  cases ok
  ·exact op_of_run hex hrun h (sym_rel g1) hs
  ·exact op_of_run hex hrun h (by simp only [rel, rels, if_true]; exact ⟨_, rfl, u, _, rfl, g1, _, [], rfl, rfl, rfl⟩) hs
 ·exact False.elim hs
theorem done_call {f : FuncId} {vs : Array Value} {as : List AV} (hex : (execOp a.eval o).run P w = .ok (.enter f vs) w) (h : WRel S H w) (hr : rels S as (shape H) vs.toList) (hs : CallsA P f (unsL as) H fun r H' => K (sym r) H') : opRes P o a w (Done S H K) := by
 have := hs.2 S w _ h (unsL_rel hr)
 rw [Array.toArray_toList] at this
 unfold opRes
 rw [hex]
 refine this.mono fun e w' ⟨u, he, hd⟩ => ⟨u, he, hd.sym⟩
theorem run_callFunc {f : FuncId} {fn : Func} {vs : Array Value} (hfn : P.funcs[f]? = some fn) (hname : (fn.name == "runtime.NumGoroutine") = false) (hb : fn.body.isNone = false) (w : World) : (callFunc f vs).run P w = .ok (.enter f vs) w := by
 simp only [callFunc, Sem.run_bind, run_program, Result.andThen_ok, hfn, hname, hb, Bool.false_eq_true, if_false, Sem.run_pure]
theorem op_call {f : FuncId} {fn : Func} {ts : Array TypeId} {args : Array Operand} (ho : o.op = .call { callee := .value (.func f), args := args, argTypes := ts }) (hfn : P.funcs[f]? = some fn) (hname : (fn.name == "runtime.NumGoroutine") = false) (hb : fn.body.isNone = false)
  (hf : rels S fr (shape H) a.tmps.toList) (h : WRel S H w) {axs : List AX} (hx : rxs args.toList = some axs)
  (hs : sat arS P H (exec1 arS σr fr H (.call f axs)) K) : opRes P o a w (Done S H K) := by
 simp only [exec1, sat] at hs
 refine done_call (vs := args.map a.eval) ?_ h (by simpa using rxs_rel hf hx) hs
 unfold execOp
 simp only [ho, Go.resolve, Deferred.ofValue, Act.eval, Go.invoke, Sem.run_bind, Sem.run_pure, Result.andThen_ok]
 rw [run_callFunc hfn hname hb]
 simp
theorem op_callv {n : Nat} {ts : Array TypeId} {args : Array Operand} (ho : o.op = .call { callee := .value (.tmp n), args := args, argTypes := ts })
  (hf : rels S fr (shape H) a.tmps.toList) (h : WRel S H w) {axs : List AX} (hx : rxs args.toList = some axs)
  (hs : sat arS P H (exec1 arS σr fr H (.callv (.t n) axs)) K) : opRes P o a w (Done S H K) := by
 have gx := rx_rel hf (x := .tmp n) (ax := .t n) rfl
 simp only [exec1] at hs
 generalize ev fr (.t n) = vx at *
 cases vx <;> first | exact False.elim hs | skip
 rename_i f fi ca
 cases f <;> first | exact False.elim hs | skip
 rename_i f
 simp only [sat, appL_eq] at hs
 simp only [rel] at gx
 obtain ⟨x, y, gx, g1, g2⟩ := gx
 obtain ⟨fn, c1, c2, c3⟩ := hs.1
 refine done_call (vs := x ++ args.map a.eval ++ y) ?_ h ?_ hs
 ·unfold execOp
  simp only [ho, Go.resolve, Deferred.ofValue, gx, Go.invoke, Sem.run_bind, Sem.run_pure, Result.andThen_ok]
  exact run_callFunc c1 c2 c3 w
 ·rw [Array.toList_append, Array.toList_append, List.append_assoc]
  exact rels_append g1 (rels_append (by simpa using rxs_rel hf hx) g2)
theorem find_add64 {fn : Func} (hname : fn.name = "math/bits.Add64") : Extern.find fn = some add64Entry := by
 unfold Extern.find
 rw [hname]
 have h1 : Extern.allGenericRows.lookup "math/bits.Add64" = none := by kernel_rfl
 have h2 : Extern.allTypedRows.lookup "math/bits.Add64" = none := by kernel_rfl
 have h3 : Extern.allRows.lookup "math/bits.Add64" = some add64Entry := by kernel_rfl
 simp only [h1, h2, h3, Option.map_none]
 rfl
theorem findNext_add64 {fn : Func} (hname : fn.name = "math/bits.Add64") (ho : fn.origin = "") : Extern.findNext fn = none := by
 unfold Extern.findNext
 rw [hname, ho]
 have h1 : Extern.allNextRows.lookup "math/bits.Add64" = none := by kernel_rfl
 have h2 : Extern.allNextRows.lookup "" = none := by kernel_rfl
 simp only [h1, h2, Option.map_none]
 rfl
theorem op_addc {f : FuncId} {fn : Func} {ts : Array TypeId} {x y z : Operand} (ho : o.op = .call { callee := .value (.func f), args := #[x, y, z], argTypes := ts }) (hfn : P.funcs[f]? = some fn) (hname : fn.name = "math/bits.Add64") (hor : fn.origin = "") (hb : fn.body.isNone = true)
  (hf : rels S fr (shape H) a.tmps.toList) (h : WRel S H w) {ax ay az : AX} (hx : rx x = some ax) (hy : rx y = some ay) (hz : rx z = some az)
  (hs : sat arS P H (exec1 arS σr fr H (.addc ax ay az)) K) : opRes P o a w (Done S H K) := by
 have gx := rx_rel hf hx
 have gy := rx_rel hf hy
 have gz := rx_rel hf hz
 simp only [exec1] at hs
 generalize ev fr ax = vx at *
 generalize ev fr ay = vy at *
 generalize ev fr az = vz at *
 split at hs
 ·rename_i m n
  simp only [rel] at gx gy gz
  have hn1 : (fn.name == "runtime.NumGoroutine") = false := by rw [hname]; decide
  have hrun : (callFunc f #[.int .u64 m, .int .u64 n, .int .u64 0]).run P w = .ok (.value (Extern.MathBitsCarry.pair ((m.toNat + n.toNat + 0) % Extern.MathBitsCarry.m64) ((m.toNat + n.toNat + 0) / Extern.MathBitsCarry.m64))) w := by
   simp only [callFunc, Sem.run_bind, run_program, Result.andThen_ok, hfn, hn1, hb, Bool.false_eq_true, if_false, if_true, run_mark, findNext_add64 hname hor, find_add64 hname]
   rfl
  unfold opRes execOp
  have hfv : a.eval (.func f) = .func (.func f) #[] #[] := rfl
  simp only [ho, Go.resolve, Deferred.ofValue, hfv, Go.invoke, Sem.run_bind, Sem.run_pure, Result.andThen_ok, List.map_toArray, List.map_cons, List.map_nil, gx, gy, gz]
  have happ : (#[] ++ #[Value.int .u64 m, .int .u64 n, .int .u64 0] ++ #[] : Array Value) = #[.int .u64 m, .int .u64 n, .int .u64 0] := by simp
  rw [show ((#[] ++ #[Value.int .u64 m, .int .u64 n, .int .u64 0] : Array Value) ++ #[]) = #[.int .u64 m, .int .u64 n, .int .u64 0] from happ, hrun]
  refine .here h ?_ hs
  simp only [rel, Extern.MathBitsCarry.pair, rels]
  refine ⟨_, rfl, _, _, rfl, ?_, _, [], rfl, ?_, rfl⟩
  ·simp [arS, Extern.MathBitsCarry.m64]
  ·simp [arS, Extern.MathBitsCarry.m64]
 ·exact False.elim hs
theorem extract_one {α : Type} (x : α) (ys : Array α) : (#[x] ++ ys).extract 1 (#[x] ++ ys).size = ys := by
 apply Array.ext'
 rw [Array.toList_extract]
 simp [List.take_of_length_le]
theorem head_one {α : Type} (x : α) (ys : Array α) : (#[x] ++ ys)[0]? = some x := by simp [Array.getElem?_append]
theorem run_wrapNil {P : Program} {ts : Array TypeId} {t : TypeId} {A : Addr} {x y : ByteArray} (w : World) : (Builtin.ssaWrapNilChk_ ts t #[.pointer (some A), .string x, .string y]).run P w = .ok (.pointer (some A)) w := rfl
theorem lookT_some : ∀ {l : List (TypeId × FuncId × Option (Option Nat))} {t : TypeId} {x : FuncId × Option (Option Nat)}, lookT l t = some x → (t, x.1, x.2) ∈ l
 | [], _, _, h => by simp [lookT] at h
 | (t', f, l) :: r, t, x, h => by
  simp only [lookT] at h
  split at h
  ·rename_i ht
   injection h with h
   subst h ht
   simp
  ·exact List.mem_cons_of_mem _ (lookT_some h)
theorem op_inv {r : Operand} {m : String} {ts : Array TypeId} {args : Array Operand} (ho : o.op = .call { callee := .invoke r m, args := args, argTypes := ts })
  (hf : rels S fr (shape H) a.tmps.toList) (h : WRel S H w) {ar : AX} {axs : List AX} (hr : rx r = some ar) (hx : rxs args.toList = some axs)
  (hs : sat arS P H (exec1 arS σr fr H (.inv (methTab P m) ar axs)) K) : opRes P o a w (Done S H K) := by
 have gr := rx_rel hf hr
 have gx := rxs_rel hf hx
 simp only [exec1] at hs
 generalize ev fr ar = vr at *
 cases vr <;> first | exact False.elim hs | skip
 rename_i t v
 simp only [rel] at gr
 obtain ⟨u, gr, g1⟩ := gr
 simp only at hs
 cases hl : lookT (methTab P m) t with
 | none => rw [hl] at hs; exact False.elim hs
 | some x =>
  obtain ⟨f, l⟩ := x
  rw [hl] at hs
  have hmem := lookT_some hl
  simp only [methTab, List.mem_filterMap] at hmem
  obtain ⟨t', _, hmem⟩ := hmem
  cases hi : P.info? t' with
  | none => rw [hi] at hmem; cases hmem
  | some i =>
   rw [hi] at hmem
   simp only at hmem
   cases hm : i.methods.find? (·.name == m) with
   | none => rw [hm] at hmem; cases hmem
   | some me =>
    rw [hm] at hmem
    simp only at hmem
    split at hmem
    ·rename_i hpath
     have hpath' : me.path.toList = [] := by simpa using hpath
     have key : ∀ (f' : FuncId) (pr : Bool) (d : TypeDesc) (y : Value), me.func = some (f', pr) → P.underlying t' = some d → t' = t → f' = f →
       (receiverAt t (.val u) pr (some ((m.splitOn ".").getLastD m))).run P w = .ok y w → Callable P f → (execOp a.eval o).run P w = .ok (.enter f (#[y] ++ args.map a.eval)) w := by
      intro f' pr d y hfunc hund ht hf' hrec ⟨fn, c1, c2, c3⟩
      subst ht hf'
      have hmeth : (method (P.types.size + Made.depth) t' u m).run P w = .ok (f', y) w := by
       obtain ⟨k, hk⟩ : ∃ k, P.types.size + Made.depth = k + 1 := ⟨P.types.size + Made.depth - 1, by have h9 : 0 < Made.depth := (by decide); omega⟩
       rw [hk]
       simp only [method, Sem.run_bind, run_info hi, Result.andThen_ok, hm, hpath', follow, Sem.run_pure, hfunc, hpath, if_true, hrec]
      unfold execOp
      simp only [ho, Go.resolve, Go.invoke, Sem.run_bind, Sem.run_pure, Result.andThen_ok]
      have e1 : (#[a.eval r] ++ args.map a.eval)[0]? = some (.iface t' u) := by rw [← gr]; exact head_one _ _
      have e2 : (#[a.eval r] ++ args.map a.eval).extract 1 (#[a.eval r] ++ args.map a.eval).size = args.map a.eval := extract_one _ _
      rw [e1]
      simp only [callMethod, Sem.run_bind, run_program, Result.andThen_ok, hmeth, e2]
      exact run_callFunc c1 c2 c3 w
     cases hfunc : me.func with
     | none => rw [hfunc] at hmem; cases hmem
     | some fp =>
      obtain ⟨f', pr⟩ := fp
      cases hund : P.underlying t' with
      | none => rw [hfunc, hund] at hmem; cases pr <;> cases hmem
      | some d =>
       rw [hfunc, hund] at hmem
       have asis : ∀ (hrec : (receiverAt t (.val u) pr (some ((m.splitOn ".").getLastD m))).run P w = .ok u w), (t', f', (none : Option (Option Nat))) = (t, f, l) → opRes P o a w (Done S H K) := by
        intro hrec heq
        injection heq with e1 e2
        injection e2 with e2 e3
        subst e3
        simp only [sat] at hs
        refine done_call (vs := #[u] ++ args.map a.eval) (key f' pr d u hfunc hund e1 e2 hrec hs.1) h ?_ hs
        simp only [List.cons_append, Array.toList_append, List.nil_append, Array.toList_map, rels]
        exact ⟨u, _, rfl, g1, gx⟩
       by_cases hp : ∃ e, d = .pointer e
       ·obtain ⟨e, rfl⟩ := hp
        cases pr with
        | true =>
         simp only [Option.some.injEq] at hmem
         have ht : t' = t := congrArg Prod.fst hmem
         refine asis ?_ hmem
         subst ht
         simp [receiverAt, run_underlying hund, Place.get]
        | false =>
         simp only [Option.map_eq_some_iff] at hmem
         obtain ⟨ll, hll, hmem⟩ := hmem
         injection hmem with e1 e2
         injection e2 with e2 e3
         subst e3
         simp only at hs
         obtain ⟨vv, y, q1, q2, q3⟩ := ldA_sat (fun _ => rfl) h g1 hs hll
         simp only [sat] at q3
         have hptr : ∃ A, u = .pointer (some A) := by
          cases u <;> simp [Instr.loadAt, Instr.sureAddr] at q1
          rename_i p
          cases p <;> simp [Instr.loadAt, Instr.sureAddr] at q1
          exact ⟨_, rfl⟩
         obtain ⟨A, rfl⟩ := hptr
         refine done_call (vs := #[y] ++ args.map a.eval) (key f' false _ y hfunc hund e1 e2 ?_ q3.1) h ?_ q3
         ·subst e1
          simp only [Instr.loadAt, Instr.sureAddr, Sem.run_bind, Sem.run_pure, Result.andThen_ok] at q1
          simp only [receiverAt, run_underlying hund, Place.get, Sem.run_bind, Sem.run_pure, Result.andThen_ok, strVal, run_wrapNil, asAddr, q1]
         ·simp only [List.cons_append, Array.toList_append, List.nil_append, Array.toList_map, rels]
          exact ⟨y, _, rfl, q2, gx⟩
       ·cases pr with
        | true =>
         exfalso
         cases d <;> first | exact hp ⟨_, rfl⟩ | cases hmem
        | false =>
         have hmem' : (t', f', (none : Option (Option Nat))) = (t, f, l) := by
          cases d <;> first | exact absurd ⟨_, rfl⟩ hp | (injection hmem)
         have ht : t' = t := congrArg Prod.fst hmem'
         refine asis ?_ hmem'
         subst ht
         simp only [receiverAt, Sem.run_bind, run_underlying hund, Result.andThen_ok]
         cases d <;> first | exact absurd ⟨_, rfl⟩ hp | rfl
    ·cases hmem
end
end Go.Ab

namespace Go.Ab
open Go
set_option linter.unusedVariables false
set_option linter.unusedSimpArgs false
variable {σr : RowF}
section
variable {P : Program} {S : RS} {H : List ABlk} {fr : List AV} {K : AV → List ABlk → Prop} {o : Oper} {a : Act} {w : World}
theorem replicate_row {T : Sh} {z : List AV} {zv : Array Value} {sz c l : Nat} (hz : rels S z T zv.toList) (h1 : ∀ u ∈ zv.toList, u.oneCell' = true) (hs : zv.size = sz) (h0 : 0 < sz) (hl : l ≤ c) :
  RowRel S T sz (List.replicate l z) ((Array.range (c * sz)).map (zv[· % zv.size]!)) := by
 intro i r hr
 rw [List.getElem?_replicate] at hr
 split at hr
 ·rename_i hin
  injection hr with hr
  subst hr
  have hzl := rels_length hz
  simp at hzl
  refine ⟨by omega, fun j c' hj => ?_⟩
  obtain ⟨u, g1, g2⟩ := rels_get hz hj
  have hjlt : j < sz := by have := (List.getElem?_eq_some_iff.1 hj).1; omega
  refine ⟨u, ?_, g2, h1 u (List.mem_of_getElem? g1)⟩
  have hmul : i * sz + sz ≤ c * sz := by rw [← Nat.succ_mul]; exact Nat.mul_le_mul_right _ (by omega)
  rw [Array.getElem?_toList] at g1
  rw [Array.getElem?_map, Array.getElem?_range, if_pos (by omega)]
  simp only [Option.map_some, Option.some.injEq, hs]
  rw [show (i * sz + j) % sz = j by rw [Nat.mul_comm, Nat.mul_add_mod]; exact Nat.mod_eq_of_lt hjlt]
  obtain ⟨hlt, he⟩ := Array.getElem?_eq_some_iff.1 g1
  rw [getElem!_pos zv j hlt, he]
 ·cases hr
theorem op_mks {t e : TypeId} {x y : Operand} (ho : o.op = .makeSlice t x y) (hf : rels S fr (shape H) a.tmps.toList) (h : WRel S H w) {ax ay : AX} (hx : rx x = some ax) (hy : rx y = some ay) (hu : P.underlying t = some (.slice e)) {i : TypeInfo} (hi : P.info? e = some i) {z : List AV} (hz : zeroOf P e = some z)
  (hsz : i.size = z.length) (h0 : 0 < i.size) (hs : sat arS P H (exec1 arS σr fr H (.mks e i.size i.bytes z ax ay)) K) : opRes P o a w (Done S H K) := by
 have gx := rx_rel hf hx
 have gy := rx_rel hf hy
 simp only [exec1] at hs
 generalize ev fr ax = vx at *
 generalize ev fr ay = vy at *
 have hex : execOp a.eval o = (do pure (.value (← Instr.makeSlice t (a.eval x) (a.eval y)))) := by simp only [execOp, ho]
 split at hs
 ·rename_i l c
  split at hs
  ·rename_i h1
   obtain ⟨⟨l0, lc, cm, cb⟩, hs⟩ := hs
   have l0 : 0 ≤ l := l0
   have lc : l ≤ c := lc
   have cm : c ≤ 140737488355328 := cm
   have cb : c * (i.bytes : Int) ≤ 140737488355328 := cb
   simp only [rel] at gx gy
   obtain ⟨i', zv, hi', hzv, hc⟩ := zeroOf_spec hz
   rw [hi] at hi'
   injection hi' with hi'
   subst hi'
   have hzr := cvs_rel (S := S) (T := shape H) _ _ hc
   have hzsz : zv.cells.size = i.size := by have := rels_length hzr; simp at this; omega
   have hrow := replicate_row (c := c.toNat) (l := l.toNat) hzr (rels_one hzr h1) hzsz h0 (by omega)
   have hbig : ¬ ((281474976710656 : Int) < i.bytes * c) := by rw [Int.mul_comm]; omega
   have hrun : (Instr.makeSlice t (a.eval x) (a.eval y)).run P w = .ok (.slice (some ⟨w.heap.size, 0, none⟩) l.toNat c.toNat) (w.alloc (.cells ((Array.range (c.toNat * i.size)).map (zv.cells[· % zv.cells.size]!)) e)) := by
    rw [gx, gy]
    exact run_make w t e i zv hu hi hzv .i64 .i64 l c l0 lc (by omega) (by omega)
   have hs' : K (.sl H.length l.toNat 0 l.toNat) (H ++ [.arr e i.size (List.replicate l.toNat z)]) := by
    rw [lenL_eq, appL_eq] at hs
    exact hs
   obtain ⟨w1, w2⟩ := h.arr_new e i.size (List.replicate l.toNat z) c.toNat h0 (Chg.alloc w (.cells ((Array.range (c.toNat * i.size)).map (zv.cells[· % zv.cells.size]!)) e) _) (heap_alloc_new w _) (by simp) (by simp; omega) hrow
   unfold opRes
   rw [hex]
   simp only [Sem.run_bind, hrun, Result.andThen_ok, Sem.run_pure]
   refine ⟨_, _, _, w2, w1, ?_, hs'⟩
   simp only [rel]
   refine ⟨_, _, by rw [shape_last]; rfl, by simp, rfl, fun ht => ⟨by simp, ?_⟩⟩
   rw [put_same]
   exact ⟨some ⟨w.heap.size, 0, none⟩, by simp, fun _ => by simp⟩
  ·exact False.elim hs
 ·exact False.elim hs
structure Src (S : RS) (T : Sh) (w : World) (u : Value) (new : List (List AV)) (sz : Nat) (vals : List Value) : Prop where
 sl : ∃ a c, u = .slice a new.length c ∧ (new.length ≠ 0 → ∃ ad, a = some ad ∧ ∀ (j : Nat) (v : Value), vals[j]? = some v → w.cell? (ad.add j) = some v)
 len : vals.length = new.length * sz
 row : ∀ (i : Nat) (r : List AV), new[i]? = some r → r.length = sz ∧ ∀ (j : Nat) (c : AV), r[j]? = some c → ∃ v, vals[i * sz + j]? = some v ∧ rel S c T v
 one : ∀ v ∈ vals, v.oneCell' = true
theorem exists_list {n : Nat} {Q : Nat → Value → Prop} (h : ∀ j, j < n → ∃ v, Q j v) : ∃ l : List Value, l.length = n ∧ ∀ (j : Nat) (v : Value), l[j]? = some v → Q j v := by
 induction n with
 | zero => exact ⟨[], rfl, fun j v hj => by simp at hj⟩
 | succ n ih =>
  obtain ⟨l, h1, h2⟩ := ih (fun j hj => h j (by omega))
  obtain ⟨v, hv⟩ := h n (by omega)
  refine ⟨l ++ [v], by simp [h1], fun j u hj => ?_⟩
  rcases Nat.lt_or_ge j n with hlt | hge
  ·rw [List.getElem?_append_left (by omega)] at hj
   exact h2 j u hj
  ·rw [List.getElem?_append_right (by omega)] at hj
   have : j = n := by
    rcases Nat.eq_or_lt_of_le hge with e | hlt
    ·exact e.symm
    ·rw [List.getElem?_eq_none (by simp; omega)] at hj; cases hj
   subst this
   simp [h1] at hj
   subst hj
   exact hv
theorem src_of {T : Sh} {u : Value} {new : List (List AV)} {sz : Nat} {a : Option Addr} {c : Nat} (h0 : 0 < sz) (hu : u = .slice a new.length c) (hrow : ∀ (i : Nat) (r : List AV), new[i]? = some r → r.length = sz)
  (hcell : new.length ≠ 0 → ∃ ad, a = some ad ∧ ∀ (i : Nat) (r : List AV), new[i]? = some r → ∀ (j : Nat) (c : AV), r[j]? = some c → ∃ v, w.cell? (ad.add (i * sz + j)) = some v ∧ rel S c T v ∧ v.oneCell' = true) : ∃ vals, Src S T w u new sz vals := by
 rcases Nat.eq_zero_or_pos new.length with hn | hn
 ·refine ⟨[], ⟨a, c, hu, fun h => absurd hn h⟩, by simp [hn], fun i r hi => ?_, fun v hv => by simp at hv⟩
  rw [List.eq_nil_of_length_eq_zero hn] at hi
  simp at hi
 ·obtain ⟨ad, ha, hc⟩ := hcell (by omega)
  obtain ⟨vals, q1, q2⟩ := exists_list (n := new.length * sz) (Q := fun k v => w.cell? (ad.add k) = some v ∧ v.oneCell' = true ∧ ∀ (i : Nat) (r : List AV) (j : Nat) (c : AV), new[i]? = some r → r[j]? = some c → k = i * sz + j → rel S c T v) (by
   intro k hk
   have hi : k / sz < new.length := by rw [Nat.div_lt_iff_lt_mul h0]; exact hk
   have hj : k % sz < sz := Nat.mod_lt _ h0
   have hr := hrow (k / sz) new[k / sz] (by simp [hi])
   obtain ⟨v, r1, r2, r3⟩ := hc (k / sz) new[k / sz] (by simp [hi]) (k % sz) (new[k / sz])[k % sz] (by simp)
   rw [show k / sz * sz + k % sz = k by rw [Nat.mul_comm]; exact Nat.div_add_mod k sz] at r1
   refine ⟨v, r1, r3, fun i r j c' hi' hj' hk' => ?_⟩
   have hjlt : j < sz := by rw [← hrow i r hi']; exact (List.getElem?_eq_some_iff.1 hj').1
   have e1 : k / sz = i := by rw [hk', Nat.mul_comm, Nat.mul_add_div h0, Nat.div_eq_of_lt hjlt]; omega
   have e2 : k % sz = j := by rw [hk', Nat.mul_comm, Nat.mul_add_mod, Nat.mod_eq_of_lt hjlt]
   have e3 : (new[k / sz])[k % sz] = c' := by
    have e4 : new[k / sz] = r := by
     have : new[k / sz]? = some r := by rw [e1]; exact hi'
     simpa [hi] using this
    have h5 : k % sz < (new[k / sz]).length := by rw [hr]; exact hj
    have h6 : (new[k / sz])[k % sz]? = some c' := by rw [e4, e2]; exact hj'
    rw [List.getElem?_eq_getElem h5] at h6
    exact Option.some.inj h6
   rw [← e3]
   exact r2)
  refine ⟨vals, ⟨a, c, hu, fun _ => ⟨ad, ha, fun j v hj => (q2 j v hj).1⟩⟩, q1, fun i r hi => ⟨hrow i r hi, fun j c' hj => ?_⟩, fun v hv => ?_⟩
  ·have hjlt : j < sz := by rw [← hrow i r hi]; exact (List.getElem?_eq_some_iff.1 hj).1
   have hilt : i < new.length := (List.getElem?_eq_some_iff.1 hi).1
   have hlt : i * sz + j < vals.length := by
    rw [q1]
    have : i * sz + sz ≤ new.length * sz := by rw [← Nat.succ_mul]; exact Nat.mul_le_mul_right _ (by omega)
    omega
   exact ⟨vals[i * sz + j], by simp [hlt], (q2 (i * sz + j) vals[i * sz + j] (by simp [hlt])).2.2 i r j c' hi hj rfl⟩
  ·obtain ⟨j, hj⟩ := List.getElem?_of_mem hv
   exact (q2 j v hj).2.1
theorem rowsOf_sat {x : AV} {k : List (List AV) → Out} {sz : Nat} {u : Value} (h0 : 0 < sz) (h : WRel S H w) (hx : rel S x (shape H) u) (hs : sat arS P H (rowsOf arS H x k sz) K) : ∃ new vals, Src S (shape H) w u new sz vals ∧ sat arS P H (k new) K := by
 cases x <;> simp only [rowsOf] at hs <;> first | exact False.elim hs | skip
 case nils =>
  simp only [rel] at hx
  obtain ⟨a, hx⟩ := hx
  obtain ⟨vals, hv⟩ := src_of (S := S) (T := shape H) (w := w) (new := []) h0 hx (fun i r hi => by simp at hi) (fun h => absurd rfl h)
  exact ⟨[], vals, hv, hs⟩
 case inl sz' rows =>
  simp only [rel] at hx
  obtain ⟨a, c, hu, hc, hr⟩ := hx
  split at hs
  ·rename_i hz
   subst hz
   obtain ⟨vals, hv⟩ := src_of (S := S) (T := shape H) (w := w) (new := rows) h0 hu (fun i r hi => by
    rcases hr with rfl | ⟨B, o, _, hr⟩
    ·simp at hi
    ·exact (fzs_get hr hi).1) (fun hn => by
    rcases hr with rfl | ⟨B, o, ha, hr⟩
    ·exact absurd rfl hn
    ·refine ⟨_, ha, fun i r hi j c hj => ?_⟩
     obtain ⟨v, q1, q2, q3⟩ := fz_get (fzs_get hr hi).2 hj
     exact ⟨v, by rw [Addr.add_lit, ← Nat.add_assoc]; exact h.fro _ _ _ q1, rel_noSh q2, q3⟩)
   exact ⟨rows, vals, hv, hs⟩
  ·obtain ⟨hn, hs⟩ := hs
   have hn : rows = [] := hn
   subst hn
   obtain ⟨vals, hv⟩ := src_of (S := S) (T := shape H) (w := w) (new := []) h0 hu (fun i r hi => by simp at hi) (fun h => absurd rfl h)
   exact ⟨[], vals, hv, hs⟩
 case sl id t off n =>
  rw [getL_eq] at hs
  cases hb : H[id]? with
  | none => rw [hb] at hs; exact False.elim hs
  | some b =>
   rw [hb] at hs
   cases b <;> first | exact False.elim hs | skip
   rename_i e sz' rows
   simp only at hs
   split at hs
   ·rename_i hz
    subst hz
    obtain ⟨⟨ht, hle⟩, hs⟩ := hs
    obtain ⟨v1, v2⟩ := sl_valid hx hb ht
    have hlen : ((rows.drop off).take n).length = n := by simp; omega
    obtain ⟨_, hblk⟩ := h.blk id _ hb
    have hget : ∀ (i : Nat) (r : List AV), ((rows.drop off).take n)[i]? = some r → rows[off + i]? = some r := by
     intro i r hi
     rw [List.getElem?_take] at hi
     split at hi
     ·rwa [List.getElem?_drop] at hi
     ·cases hi
    cases hr : S.ρ id with
    | none =>
     rw [hr] at v2
     obtain ⟨rfl, aa, hu⟩ := v2
     have hu' : u = .slice aa ((rows.drop off).take 0).length 0 := by rw [hlen]; exact hu
     obtain ⟨vals, hv⟩ := src_of (S := S) (T := shape H) (w := w) (new := (rows.drop off).take 0) h0 hu' (fun i r hi => by simp at hi) (fun h => absurd hlen h)
     exact ⟨_, vals, hv, hs⟩
    | some p =>
     obtain ⟨B, c⟩ := p
     rw [hr] at v2 hblk
     obtain ⟨aa, hu, ha⟩ := v2
     obtain ⟨arr, m1, m2, m3, m4, _⟩ := hblk
     have hu' : u = .slice aa ((rows.drop off).take n).length (c - off) := by rw [hlen]; exact hu
     obtain ⟨vals, hv⟩ := src_of (S := S) (T := shape H) (w := w) (new := (rows.drop off).take n) h0 hu' (fun i r hi => (m4 _ _ (hget i r hi)).1) (fun hn => by
      rw [hlen] at hn
      refine ⟨_, ha (by omega), fun i r hi j c' hj => ?_⟩
      obtain ⟨v, q1, q2, q3⟩ := (m4 _ _ (hget i r hi)).2 j c' hj
      refine ⟨v, ?_, q2, q3⟩
      rw [Addr.add_lit]
      simp only [World.cell?, m1]
      rw [Nat.add_mul] at q1
      simpa [Nat.add_assoc] using q1)
     exact ⟨_, vals, hv, hs⟩
   ·exact False.elim hs
theorem rapp_row {T : Sh} {sz n : Nat} {rows new : List (List AV)} {arr arr' : Array Value} {vals : List Value} {u : Value} (h0 : 0 < sz) (hr : RowRel S T sz rows arr) (hv : Src S T w u new sz vals) (hn : n ≤ rows.length)
  (g1 : ∀ k, k < n * sz → arr'[k]? = arr[k]?) (g2 : ∀ k, k < new.length * sz → arr'[n * sz + k]? = vals[k]?) (g3 : ∀ k, n * sz + new.length * sz ≤ k → k < rows.length * sz → arr'[k]? = arr[k]?) : RowRel S T sz (rappS rows n new) arr' := by
 intro i r hi
 simp only [rappS] at hi
 rcases Nat.lt_or_ge i n with hlt | hge
 ·rw [List.append_assoc, List.getElem?_append_left (by simp; omega), List.getElem?_take, if_pos hlt] at hi
  obtain ⟨q1, q2⟩ := hr i r hi
  refine ⟨q1, fun j c hj => ?_⟩
  have hjlt : j < sz := by rw [← q1]; exact (List.getElem?_eq_some_iff.1 hj).1
  have : i * sz + sz ≤ n * sz := by rw [← Nat.succ_mul]; exact Nat.mul_le_mul_right _ hlt
  rw [g1 _ (by omega)]
  exact q2 j c hj
 ·rcases Nat.lt_or_ge i (n + new.length) with hlt | hge2
  ·rw [List.getElem?_append_left (by simp; omega), List.getElem?_append_right (by simp; omega)] at hi
   simp only [List.length_take] at hi
   rw [show min n rows.length = n by omega] at hi
   obtain ⟨q1, q2⟩ := hv.row _ r hi
   refine ⟨q1, fun j c hj => ?_⟩
   have hjlt : j < sz := by rw [← q1]; exact (List.getElem?_eq_some_iff.1 hj).1
   obtain ⟨v, r1, r2⟩ := q2 j c hj
   have h3 : (i - n) * sz + sz ≤ new.length * sz := by rw [← Nat.succ_mul]; exact Nat.mul_le_mul_right _ (by omega)
   have h4 : i * sz + j = n * sz + ((i - n) * sz + j) := by rw [Nat.sub_mul]; have := Nat.mul_le_mul_right sz hge; omega
   refine ⟨v, ?_, r2, hv.one v (List.mem_of_getElem? r1)⟩
   rw [h4, g2 _ (by omega)]
   exact r1
  ·rw [List.getElem?_append_right (by simp; omega), List.getElem?_drop] at hi
   simp only [List.length_append, List.length_take] at hi
   rw [show n + new.length + (i - (min n rows.length + new.length)) = i by omega] at hi
   obtain ⟨q1, q2⟩ := hr i r hi
   refine ⟨q1, fun j c hj => ?_⟩
   have hjlt : j < sz := by rw [← q1]; exact (List.getElem?_eq_some_iff.1 hj).1
   have hilt : i < rows.length := (List.getElem?_eq_some_iff.1 hi).1
   have h3 : (n + new.length) * sz ≤ i * sz := Nat.mul_le_mul_right _ hge2
   have h4 : i * sz + sz ≤ rows.length * sz := by rw [← Nat.succ_mul]; exact Nat.mul_le_mul_right _ hilt
   rw [Nat.add_mul] at h3
   rw [g3 _ (by omega) (by omega)]
   exact q2 j c hj
theorem rapp_len (rows : List (List AV)) (n : Nat) (new : List (List AV)) (hn : n ≤ rows.length) : (rappS rows n new).length = max rows.length (n + new.length) := by
 simp only [rappS, List.length_append, List.length_take, List.length_drop]
 omega
theorem run_append_zero {t e : TypeId} (ht : P.underlying t = some (.slice e)) {i : TypeInfo} (hi : P.info? e = some i) {ty : TypeId} {base a : Option Addr} {sLen sCap c : Nat} (hle : sLen ≤ sCap) (w : World) :
  (Builtin.append_ #[t, t] ty #[.slice base sLen sCap, .slice a 0 c]).run P w = .ok (.slice base sLen sCap) w := by
 cases a <;> cases base <;> simp [Builtin.append_, run_underlying ht, sizeOf, typeInfo, hi, Builtin.lenOf, hle, Builtin.firstCells, loadCells, loadCellsFrom, storeCells]
theorem op_app {t e : TypeId} {x y : Operand} (ho : o.op = .call { callee := .builtin .append, args := #[x, y], argTypes := #[t, t] }) (hf : rels S fr (shape H) a.tmps.toList) (h : WRel S H w) {ax ay : AX} (hx : rx x = some ax) (hy : rx y = some ay) (hu : P.underlying t = some (.slice e)) {i : TypeInfo} (hi : P.info? e = some i) {z : List AV} (hz : zeroOf P e = some z)
  (hsz : i.size = z.length) (h0 : 0 < i.size) (hs : sat arS P H (exec1 arS σr fr H (.app e i.size i.bytes z ax ay)) K) : opRes P o a w (Done S H K) := by
 have gx := rx_rel hf hx
 have gy := rx_rel hf hy
 simp only [exec1] at hs
 have hs0 := rowsOf_sat h0 h gy hs
 clear hs
 obtain ⟨new, vals, hv, hs⟩ := hs0
 obtain ⟨i', zv, hi', hzv, hc⟩ := zeroOf_spec hz
 rw [hi] at hi'
 injection hi' with hi'
 subst hi'
 have hzr := cvs_rel (S := S) (T := shape H) _ _ hc
 have hzsz : zv.cells.size = i.size := by have := rels_length hzr; simp at this; omega
 generalize ev fr ax = vx at *
 have fin : ∀ (u : Value) (w' : World), (Builtin.append_ #[t, t] o.type #[a.eval x, a.eval y]).run P w = .ok u w' → ∀ S' v H', Ext S (shape H) S' (shape H') → WRel S' H' w' → rel S' v (shape H') u → K v H' → opRes P o a w (Done S H K) := by
  intro u w' hr S' v H' he hw hv hK
  unfold opRes execOp
  simp only [ho, Go.resolve, Go.invoke, Go.builtin, Sem.run_bind, Sem.run_pure, Result.andThen_ok, List.map_toArray, List.map_cons, List.map_nil, hr]
  exact ⟨S', v, H', he, hw, hv, hK⟩
 obtain ⟨ya, yc, hyu, hya⟩ := hv.sl
 have hbytes : ∀ k, k * i.bytes ≤ 140737488355328 → k * i.bytes ≤ 281474976710656 := fun k hk => by omega
 cases vx
 case nils =>
  simp only [appA] at hs
  obtain ⟨⟨n1, n2⟩, hs⟩ := hs
  have n1 : new.length ≤ 140737488355328 := n1
  have n2 : new.length * i.bytes ≤ 140737488355328 := n2
  simp only [rel] at gx
  obtain ⟨xa, gx⟩ := gx
  rw [lenL_eq, appL_eq] at hs
  rcases Nat.eq_zero_or_pos new.length with hn | hn
  ·have hnew : new = [] := List.eq_nil_of_length_eq_zero hn
   subst hnew
   obtain ⟨w1, w2⟩ := h.arr_none e i.size h0
   refine fin (.slice xa 0 0) w ?_ _ _ _ w2 w1 ?_ hs
   ·rw [gx, hyu]; exact run_append_zero hu hi (Nat.le_refl _) w
   ·simp only [rel]
    refine ⟨0, i.size, by rw [shape_last]; rfl, by simp [arS], rfl, fun _ => ⟨by simp [arS], ?_⟩⟩
    rw [put_same]
    exact ⟨rfl, xa, rfl⟩
  ·obtain ⟨ad, rfl, had⟩ := hya (by omega)
   have hrun : ∃ cap, new.length ≤ cap ∧ (Builtin.append_ #[t, t] o.type #[a.eval x, a.eval y]).run P w = .ok (.slice (some ⟨w.heap.size, 0, none⟩) new.length cap) (w.drew.alloc (.cells (vals.toArray ++ Builtin.zeroCells zv.cells (cap - new.length)) e)) := by
    rw [gx, hyu]
    cases xa with
    | none => exact ⟨_, grownCap_ge w new.length 0 e, run_append_nil (P := P) w t o.type e i zv hu hi hzv ad new.length yc vals hv.len had hn (by omega) (hbytes _ n2)⟩
    | some b =>
     have := run_append_grow (P := P) w t o.type e i zv hu hi hzv b 0 0 [] (by simp) (by simp) ad new.length yc vals hv.len had (by omega) (by omega) (by rw [Nat.zero_add, nextslicecap_zero hn]; exact hbytes _ n2)
     simp only [Nat.zero_add, Array.empty_append] at this
     exact ⟨_, grownCap_ge w new.length 0 e, this⟩
   obtain ⟨cap, hcap, hrun⟩ := hrun
   have hsize : (vals.toArray ++ Builtin.zeroCells zv.cells (cap - new.length)).size = cap * i.size := by
    simp only [Array.size_append, List.size_toArray, size_zeroCells, hzsz, hv.len, ← Nat.add_mul]
    congr 1; omega
   have hrow : RowRel S (shape H) i.size new (vals.toArray ++ Builtin.zeroCells zv.cells (cap - new.length)) := by
    intro k r hk
    obtain ⟨q1, q2⟩ := hv.row k r hk
    refine ⟨q1, fun j c hj => ?_⟩
    obtain ⟨v, r1, r2⟩ := q2 j c hj
    refine ⟨v, ?_, r2, hv.one v (List.mem_of_getElem? r1)⟩
    rw [Array.getElem?_append_left (by simpa using (List.getElem?_eq_some_iff.1 r1).1)]
    simpa using r1
   obtain ⟨w1, w2⟩ := h.drew.arr_new e i.size new cap h0 (w' := w.drew.alloc (.cells (vals.toArray ++ Builtin.zeroCells zv.cells (cap - new.length)) e)) (Chg.alloc w.drew _ _) (heap_alloc_new w.drew _) hsize hcap hrow
   refine fin _ _ hrun _ _ _ w2 w1 ?_ hs
   simp only [rel]
   refine ⟨new.length, i.size, by rw [shape_last]; rfl, by simp [arS], rfl, fun _ => ⟨by simp [arS], ?_⟩⟩
   rw [put_same]
   exact ⟨some ⟨w.heap.size, 0, none⟩, by simp [arS], fun _ => by simp⟩
 case sl id t' off n =>
  cases off with
  | succ off => exact False.elim hs
  | zero =>
   simp only [appA, getL_eq] at hs
   cases hb : H[id]? with
   | none => rw [hb] at hs; exact False.elim hs
   | some b =>
    rw [hb] at hs
    cases b <;> first | exact False.elim hs | skip
    rename_i e' sz' rows
    simp only at hs
    split at hs
    ·rename_i hez
     obtain ⟨rfl, rfl⟩ := hez
     obtain ⟨⟨ht, hnr, n1, n2⟩, hs⟩ := hs
     have ht : t' = rows.length := ht
     have hnr : n ≤ rows.length := hnr
     have n1 : n + new.length ≤ 140737488355328 := n1
     have n2 : (n + new.length) * i.bytes ≤ 140737488355328 := n2
     rw [setL_eq] at hs
     obtain ⟨v1, v2⟩ := sl_valid gx hb ht
     obtain ⟨_, hblk⟩ := h.blk id _ hb
     have hrl := rapp_len rows n new hnr
     rcases Nat.eq_zero_or_pos new.length with hn | hn
     ·have hnew : new = [] := List.eq_nil_of_length_eq_zero hn
      subst hnew
      have hsame : rappS rows n [] = rows := by simp [rappS]
      have hs2 : K (.sl id rows.length 0 n) (H.set id (.arr e' i.size rows)) := by
       have : K (.sl id (rappS rows n []).length 0 (n + 0)) (H.set id (.arr e' i.size (rappS rows n []))) := hs
       rw [hsame] at this
       exact this
      have hH : H.set id (.arr e' i.size rows) = H := by
       apply List.ext_getElem?
       intro j
       rw [List.getElem?_set]
       split
       ·rename_i hj
        subst hj
        rw [if_pos (get_lt hb), hb]
       ·rfl
      rw [hH] at hs2
      obtain ⟨aa, c, hxu⟩ := sl_len gx hb ht
      have hnc : n ≤ c := by
       cases hr : S.ρ id with
       | none => rw [hr] at v2; obtain ⟨rfl, _⟩ := v2; omega
       | some p =>
        obtain ⟨B, cc⟩ := p
        rw [hr] at v2 hblk
        obtain ⟨_, q, _⟩ := v2
        obtain ⟨_, _, _, q3, _⟩ := hblk
        rw [hxu] at q
        injection q with _ _ q
        omega
      refine fin _ w (by rw [hxu, hyu]; exact run_append_zero hu hi hnc w) S _ H (Ext.refl _ _) h ?_ hs2
      rw [← hxu, ← ht]
      exact gx
     ·obtain ⟨ad, rfl, had⟩ := hya (by omega)
      have move : ∀ (arr0 : Array Value) (olds : List Value) (cap : Nat), RowRel S (shape H) i.size rows arr0 → olds.length = n * i.size → (∀ k, k < n * i.size → olds[k]? = arr0[k]?) → rows.length < n + new.length → n + new.length ≤ cap → ∀ u : Value, u = .slice (some ⟨w.heap.size, 0, none⟩) (n + new.length) cap →
        (Builtin.append_ #[t, t] o.type #[a.eval x, a.eval y]).run P w = .ok u (w.drew.alloc (.cells (olds.toArray ++ vals.toArray ++ Builtin.zeroCells zv.cells (cap - (n + new.length))) e')) → opRes P o a w (Done S H K) := by
       intro arr0 olds cap hrow hlo holds hlt hcap u hu' hrun
       have hsize : (olds.toArray ++ vals.toArray ++ Builtin.zeroCells zv.cells (cap - (n + new.length))).size = cap * i.size := by
        simp only [Array.size_append, List.size_toArray, size_zeroCells, hzsz, hv.len, hlo, ← Nat.add_mul]
        congr 1; omega
       have hrow' : RowRel S (shape H) i.size (rappS rows n new) (olds.toArray ++ vals.toArray ++ Builtin.zeroCells zv.cells (cap - (n + new.length))) := by
        refine rapp_row h0 hrow hv hnr (fun k hk => ?_) (fun k hk => ?_) (fun k h1 h2 => ?_)
        ·rw [Array.append_assoc, Array.getElem?_append_left (by simp; omega)]
         simpa using holds k hk
        ·rw [Array.getElem?_append_left (by simp only [Array.size_append, List.size_toArray, hlo, hv.len]; omega), Array.getElem?_append_right (by simp; omega)]
         simp [hlo]
        ·have := Nat.mul_le_mul_right i.size (Nat.le_of_lt hlt)
         rw [Nat.add_mul] at this
         omega
       obtain ⟨w1, w2⟩ := h.drew.arr_move hb cap (w' := w.drew.alloc (.cells (olds.toArray ++ vals.toArray ++ Builtin.zeroCells zv.cells (cap - (n + new.length))) e')) (Chg.alloc w.drew _ _) (heap_alloc_new w.drew _) hsize (by rw [hrl]; omega) (by rw [hrl]; omega) hrow'
       refine fin _ _ hrun _ _ _ w2 w1 ?_ hs
       simp only [rel]
       refine ⟨(rappS rows n new).length, i.size, by rw [shape_set (get_lt hb), if_pos rfl]; rfl, Nat.le_refl _, by rw [hu']; rfl, fun _ => ⟨?_, ?_⟩⟩
       ·show 0 + (n + new.length) ≤ _
        rw [hrl]; omega
       ·rw [put_same]
        exact ⟨some ⟨w.heap.size, 0, none⟩, by rw [hu']; rfl, fun _ => by simp⟩
      cases hr : S.ρ id with
      | none =>
       rw [hr] at v2 hblk
       obtain ⟨rfl, xa, hxu⟩ := v2
       have hrows : rows = [] := hblk
       subst hrows
       have hrun : ∃ cap, new.length ≤ cap ∧ (Builtin.append_ #[t, t] o.type #[a.eval x, a.eval y]).run P w = .ok (.slice (some ⟨w.heap.size, 0, none⟩) new.length cap) (w.drew.alloc (.cells (vals.toArray ++ Builtin.zeroCells zv.cells (cap - new.length)) e')) := by
        rw [hxu, hyu]
        cases xa with
        | none => exact ⟨_, grownCap_ge w new.length 0 e', run_append_nil (P := P) w t o.type e' i zv hu hi hzv ad new.length yc vals hv.len had hn (by omega) (hbytes _ (by simpa using n2))⟩
        | some b =>
         have := run_append_grow (P := P) w t o.type e' i zv hu hi hzv b 0 0 [] (by simp) (by simp) ad new.length yc vals hv.len had (by omega) (by omega) (by rw [Nat.zero_add, nextslicecap_zero hn]; exact hbytes _ (by simpa using n2))
         simp only [Nat.zero_add, Array.empty_append] at this
         exact ⟨_, grownCap_ge w new.length 0 e', this⟩
       obtain ⟨cap, hcap, hrun⟩ := hrun
       exact move #[] [] cap (fun i r hi => by simp at hi) (by simp) (fun k hk => by simp at hk) (by simp; omega) (by omega) _ (by rw [Nat.zero_add]) (by rw [hrun]; simp)
      | some p =>
       obtain ⟨B, c⟩ := p
       rw [hr] at v2 hblk
       obtain ⟨xa, hxu, hxa⟩ := v2
       obtain ⟨arr, m1, m2, m3, m4, m5⟩ := hblk
       have hrow0 : RowRel S (shape H) i.size rows arr := m4
       have hxa' : n + new.length ≤ c → xa = some ⟨B, 0, none⟩ := fun hle => by rw [hxa (by omega), Nat.zero_mul]
       simp only [Nat.sub_zero] at hxu
       by_cases hroom : n + new.length ≤ c
       ·
        have hxa2 := hxa' hroom
        subst hxa2
        have hmul : n * i.size + new.length * i.size ≤ c * i.size := by rw [← Nat.add_mul]; exact Nat.mul_le_mul_right _ hroom
        have hrun := run_append_room (P := P) w t o.type e' i hu hi B n c arr m1 ad new.length yc vals hv.len had hv.one hroom (by rw [hv.len, m2]; exact hmul)
        have hnl : n * i.size ≤ arr.size := by omega
        obtain ⟨w1, w2⟩ := h.arr_upd hb hr (Chg.setRow w B _) (setRow_heap w B arr (arr.toList.take (n * i.size) ++ vals ++ arr.toList.drop (n * i.size + vals.length)).toArray e' (0, 0) m1) (rows' := rappS rows n new) (by
         simp only [List.size_toArray, List.length_append, List.length_take, List.length_drop, Array.length_toList, hv.len]
         omega) (by rw [hrl]; omega) (by rw [hrl]; omega) (rapp_row h0 hrow0 hv hnr (fun k hk => by
          rw [List.getElem?_toArray, List.append_assoc, List.getElem?_append_left (by simp; omega), List.getElem?_take, if_pos hk]; simp) (fun k hk => by
          rw [List.getElem?_toArray, List.getElem?_append_left (by simp [hv.len]; omega), List.getElem?_append_right (by simp; omega)]
          simp only [List.length_take, Array.length_toList]
          rw [show n * i.size + k - min (n * i.size) arr.size = k by omega]) (fun k h1 h2 => by
          rw [List.getElem?_toArray, List.getElem?_append_right (by simp [hv.len]; omega), List.getElem?_drop]
          simp only [List.length_append, List.length_take, Array.length_toList, hv.len]
          rw [Array.getElem?_toList]
          congr 1
          omega))
        refine fin _ _ (by rw [hxu, hyu]; exact hrun) S _ _ w2 w1 ?_ hs
        simp only [rel]
        refine ⟨(rappS rows n new).length, i.size, by rw [shape_set (get_lt hb), if_pos rfl]; rfl, Nat.le_refl _, rfl, fun _ => ⟨?_, ?_⟩⟩
        ·show 0 + (n + new.length) ≤ _
         rw [hrl]; omega
        ·rw [hr]
         exact ⟨some ⟨B, 0, none⟩, rfl, fun _ => by simp⟩
       ·
        have hlt : rows.length < n + new.length := by omega
        have holds : ∃ olds : List Value, olds.length = n * i.size ∧ ∀ k, k < n * i.size → olds[k]? = arr[k]? := by
         refine ⟨arr.toList.take (n * i.size), ?_, fun k hk => ?_⟩
         ·have : n * i.size ≤ c * i.size := Nat.mul_le_mul_right _ (by omega)
          simp; omega
         ·rw [List.getElem?_take, if_pos hk, Array.getElem?_toList]
        obtain ⟨olds, ho1, ho2⟩ := holds
        rcases Nat.eq_zero_or_pos n with rfl | hnpos
        ·have holdnil : olds = [] := List.eq_nil_of_length_eq_zero (by simpa using ho1)
         subst holdnil
         rcases Nat.eq_zero_or_pos c with rfl | hcpos
         ·have hrun : ∃ cap, new.length ≤ cap ∧ (Builtin.append_ #[t, t] o.type #[a.eval x, a.eval y]).run P w = .ok (.slice (some ⟨w.heap.size, 0, none⟩) new.length cap) (w.drew.alloc (.cells (vals.toArray ++ Builtin.zeroCells zv.cells (cap - new.length)) e')) := by
           rw [hxu, hyu]
           cases xa with
           | none => exact ⟨_, grownCap_ge w new.length 0 e', run_append_nil (P := P) w t o.type e' i zv hu hi hzv ad new.length yc vals hv.len had hn (by omega) (hbytes _ (by simpa using n2))⟩
           | some b =>
            have := run_append_grow (P := P) w t o.type e' i zv hu hi hzv b 0 0 [] (by simp) (by simp) ad new.length yc vals hv.len had (by omega) (by omega) (by rw [Nat.zero_add, nextslicecap_zero hn]; exact hbytes _ (by simpa using n2))
            simp only [Nat.zero_add, Array.empty_append] at this
            exact ⟨_, grownCap_ge w new.length 0 e', this⟩
          obtain ⟨cap, hcap, hrun⟩ := hrun
          exact move arr [] cap hrow0 (by simp) (fun k hk => by simp at hk) hlt (by omega) _ (by rw [Nat.zero_add]) (by rw [hrun]; simp)
         ·have hxb := hxa hcpos
          subst hxb
          have hrun := run_append_grow (P := P) w t o.type e' i zv hu hi hzv ⟨B, 0 * i.size, none⟩ 0 c [] (by simp) (by simp) ad new.length yc vals hv.len had (by omega) (by omega) (growslice_fits (by omega) n2)
          refine move arr [] _ hrow0 (by simp) (fun k hk => by simp at hk) hlt (grownCap_ge w (0 + new.length) c e') _ rfl ?_
          rw [hxu, hyu]
          exact hrun
        ·have hxb := hxa (by omega)
         subst hxb
         have hcells : ∀ (j : Nat) (v : Value), olds[j]? = some v → w.cell? ((⟨B, 0 * i.size, none⟩ : Addr).add j) = some v := by
          intro j v hj
          have hjlt : j < n * i.size := by rw [← ho1]; exact (List.getElem?_eq_some_iff.1 hj).1
          rw [ho2 j hjlt] at hj
          rw [Nat.zero_mul, Addr.add_lit, Nat.zero_add]
          simp only [World.cell?, m1]
          simpa using hj
         have hrun := run_append_grow (P := P) w t o.type e' i zv hu hi hzv ⟨B, 0 * i.size, none⟩ n c olds ho1 hcells ad new.length yc vals hv.len had (by omega) (by omega) (growslice_fits (by omega) n2)
         refine move arr olds _ hrow0 ho1 ho2 hlt (grownCap_ge w (n + new.length) c e') _ rfl ?_
         rw [hxu, hyu]
         exact hrun
    ·exact False.elim hs
 all_goals exact False.elim hs
end
end Go.Ab
