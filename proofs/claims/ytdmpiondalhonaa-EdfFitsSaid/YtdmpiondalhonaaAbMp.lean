/- The abstract machine's operations: maps, and clear. -/
import Derived.Test.YtdmpiondalhonaaAbM
import Derived.MapKept
namespace Go.Ab
open Go
set_option linter.unusedVariables false
set_option linter.unusedSimpArgs false
variable {σr : RowF}

section
variable {P : Program} {S : RS} {fr : List AV} {H : List ABlk} {K : AV → List ABlk → Prop} {a : Act} {w : World} {o : Oper}

theorem op_mkm {t : TypeId} (ho : o.op = .makeMap t none) (h : WRel S H w) (hK : K (.map (lenL H)) (appL H [.mpb []])) : opRes P o a w (Done S H K) := by
  unfold opRes execOp
  simp only [ho, Option.map_none, Instr.makeMap, Sem.run_bind, run_newObj, World.alloc_eq, Result.andThen_ok, Sem.run_pure]
  rw [lenL_eq, appL_eq] at hK
  refine ⟨_, _, _, Ext.put_new S H _ (some (w.heap.size, 0)), h.new (Chg.alloc w _ _) _ 0 ?_, ?_, hK⟩
  · exact ⟨w.heap.size, 0, #[], 0, by simp [RS.put], heap_alloc_new w _, rfl, h.fresh _ _⟩
  · simp only [rel]
    exact ⟨_, _, shape_last _ _, put_same _ _ _, rfl⟩

theorem findNow_mget {S : RS} {k k0 : IntKind} {n : Int} {z v : AV} : ∀ {rows : List (List AV)} {es : List MapEntry} (i : Nat), entR S rows es → mgetS k n z rows = some v →
    ∃ r, Instr.findNow (.int k0) (.int k n) es i = some r ∧ ((r = none ∧ v = z) ∨ ∃ j u, r = some (j, u) ∧ rel S v noSh u)
  | [], es, i, h, hg => by
    simp only [entR] at h
    subst h
    simp only [mgetS, Option.some.injEq] at hg
    exact ⟨none, rfl, .inl ⟨rfl, hg.symm⟩⟩
  | r :: rows, es, i, h, hg => by
    obtain ⟨e, es', rfl, ⟨k', v', rfl, h1, h2⟩, h3⟩ := h
    cases k' with
    | int k2 m =>
      simp only [mgetS] at hg
      simp only [rel] at h1
      split at hg
      · rename_i hk
        subst hk
        split at hg
        · rename_i hm
          subst hm
          simp only [Option.some.injEq] at hg
          subst hg
          refine ⟨some (i, e.val), ?_, .inr ⟨_, _, rfl, h2⟩⟩
          simp [Instr.findNow, h1, Instr.sameNow]
        · rename_i hm
          obtain ⟨r, g1, g2⟩ := findNow_mget (k0 := k0) (i + 1) h3 hg
          refine ⟨r, ?_, g2⟩
          have : (n == m) = false := by simpa using hm
          simp [Instr.findNow, h1, Instr.sameNow, this, g1]
      · cases hg
    | _ => simp [mgetS] at hg

theorem run_checkKeyInt {kt : TypeId} {k0 k : IntKind} {n : Int} (hd : P.underlying kt = some (.int k0)) (b : Bool) (w : World) : (Instr.checkKey b 10000 kt (.int k n)).run P w = .ok () w := by
  unfold Instr.checkKey
  simp only [Sem.run_bind, run_underlying hd, Result.andThen]
  rfl

theorem op_mget {t : TypeId} {x i : Operand} (ho : o.op = .lookup t x i false) (hf : rels S fr (shape H) a.tmps.toList) (h : WRel S H w) {ax ai : AX} (hx : rx x = some ax) (hi : rx i = some ai) {kt et : TypeId} {k0 : IntKind} (ht : P.underlying t = some (.map kt et)) (hk : P.underlying kt = some (.int k0))
    {ti : TypeInfo} {zv : Value} (hz1 : P.info? et = some ti) (hz2 : ti.zero = some zv) {z : AV} (hzr : ∀ T, rel S z T zv) (hs : sat arS P H (exec1 arS σr fr H (.mget z ax ai)) K) : opRes P o a w (Done S H K) := by
  have gx := rx_rel hf hx
  have gi := rx_rel hf hi
  simp only [exec1] at hs
  have hex : execOp a.eval o = (do pure (.value (← Instr.lookup t (a.eval x) (a.eval i) false))) := by simp only [execOp, ho]
  split at hs
  · rename_i k n e1 e2
    rw [e1] at gx
    rw [e2] at gi
    simp only [rel] at gx gi
    unfold opRes
    rw [hex, gx, gi]
    simp only [Instr.lookup, Sem.run_bind, run_underlying ht, Result.andThen, Sem.run_pure, run_checkKeyInt hk, List.toList_toArray, Instr.findKey, run_underlying hk, Instr.findNow, run_zero hz1 hz2]
    simp only [Bool.false_eq_true, if_false]
    exact Done.here h (sym_rel (hzr _)) hs
  · rename_i id k n e1 e2
    rw [e1] at gx
    rw [e2] at gi
    simp only [rel] at gx gi
    obtain ⟨B, c, g1, g2, gx⟩ := gx
    rw [getL_eq] at hs
    split at hs
    · rename_i rows hb
      obtain ⟨B', c', es, clock, q1, q2, q3, q4⟩ := h.blk id _ hb
      rw [g2] at q1
      simp only [Option.some.injEq, Prod.mk.injEq] at q1
      obtain ⟨rfl, rfl⟩ := q1
      have main : ∀ v u, mgetS k n z rows = some v → (∀ y, rel S v noSh y → rel S u (shape H) y) → K u H → opRes P o a w (Done S H K) := by
        intro v u hg hu hKu
        obtain ⟨r, p1, p2⟩ := findNow_mget (k0 := k0) 0 q3 hg
        unfold opRes
        rw [hex, gx, gi]
        simp only [Instr.lookup, Sem.run_bind, run_underlying ht, Result.andThen, Sem.run_pure, Go.MapKept.run_getObj_map q2, run_checkKeyInt hk, Go.MapKept.run_findKey hk p1]
        rcases p2 with ⟨rfl, rfl⟩ | ⟨j, y, rfl, hy⟩
        · simp only [Sem.run_bind, run_zero hz1 hz2, Result.andThen, Sem.run_pure, Bool.false_eq_true, if_false]
          exact Done.here h (hu _ (hzr _)) hKu
        · simp only [Sem.run_bind, Result.andThen, Sem.run_pure, Bool.false_eq_true, if_false]
          exact Done.here h (hu _ hy) hKu
      split at hs
      · exact main _ _ hs.1 (fun y hy => by simpa only [rel] using hy) hs.2
      · exact main _ _ hs.1 (fun y hy => by simpa only [rel] using hy) hs.2
      · exact False.elim hs
    · exact False.elim hs
  · exact False.elim hs

theorem Chg.setObj (w : World) (g : Nat) (o : Obj) : Chg w { w with heap := w.heap.setIfInBounds g o } (· = g) :=
  ⟨rfl, rfl, rfl, by simp, fun k _ hk => by
    show (w.heap.setIfInBounds g o)[k]? = _
    rw [Array.getElem?_setIfInBounds]
    rw [if_neg (fun e => hk e.symm)]⟩

theorem WRel.map_upd {H : List ABlk} {w w' : World} (h : WRel S H w) {id : Nat} {rows rows' : List (List AV)} (hb : H[id]? = some (.mpb rows)) {B c : Nat} (hρ : S.ρ id = some (B, c))
    (hc : Chg w w' (· = B)) {es' : Array MapEntry} {clock' : Nat} (hw : w'.heap[B]? = some (.map es' clock')) (hr : entR S rows' es'.toList) : WRel S (H.set id (.mpb rows')) w' := by
  have hext : Ext S (shape H) S (shape (H.set id (.mpb rows'))) := Ext.upd hb rfl
  have := h.repl (b' := .mpb rows') hb rfl (S.ρ id) (hc.mono fun k hk => ⟨c, by rw [hk]; exact hρ⟩) (by rw [RS.put_self]; exact hext) (fun B' c' hp => .inr ⟨c', hp⟩) (by
    rw [RS.put_self]
    exact ⟨B, c, es', clock', hρ, hw, hr, (h.place_lt hb rfl hρ).2⟩)
  rwa [RS.put_self] at this

theorem findNow_mset {S : RS} {k k0 : IntKind} {n : Int} {v : AV} {u : Value} (hv : rel S v noSh u) : ∀ {rows rows' : List (List AV)} {es : List MapEntry} (i : Nat), entR S rows es → msetS k n v rows = some rows' →
    ∃ r, Instr.findNow (.int k0) (.int k n) es i = some r ∧ ((r = none ∧ ∀ b, entR S rows' (es ++ [⟨.int k n, u, b⟩])) ∨ ∃ j y e, r = some (i + j, y) ∧ es[j]? = some e ∧ e.key = .int k n ∧ entR S rows' (es.modify j fun e => { e with key := .int k n, val := u }))
  | [], rows', es, i, h, hg => by
    simp only [entR] at h
    subst h
    simp only [msetS, Option.some.injEq] at hg
    subst hg
    exact ⟨none, rfl, .inl ⟨rfl, fun b => ⟨_, [], rfl, ⟨_, _, rfl, by simp [rel], hv⟩, rfl⟩⟩⟩
  | r :: rows, rows', es, i, h, hg => by
    obtain ⟨e, es', rfl, ⟨k', v', rfl, h1, h2⟩, h3⟩ := h
    cases k' with
    | int k2 m =>
      simp only [msetS] at hg
      simp only [rel] at h1
      split at hg
      · rename_i hk
        subst hk
        split at hg
        · rename_i hm
          subst hm
          simp only [Option.some.injEq] at hg
          subst hg
          refine ⟨some (i, e.val), by simp [Instr.findNow, h1, Instr.sameNow], .inr ⟨0, _, e, rfl, rfl, h1, ?_⟩⟩
          exact ⟨_, es', rfl, ⟨_, _, rfl, by simp [rel], hv⟩, h3⟩
        · rename_i hm
          obtain ⟨rs', hrs, rfl⟩ := Option.map_eq_some_iff.1 hg
          obtain ⟨r, g1, g2⟩ := findNow_mset (k0 := k0) hv (i + 1) h3 hrs
          have hne : (n == m) = false := by simpa using hm
          refine ⟨r, by simp [Instr.findNow, h1, Instr.sameNow, hne, g1], ?_⟩
          rcases g2 with ⟨rfl, g2⟩ | ⟨j, y, e', rfl, g2, g3, g4⟩
          · exact .inl ⟨rfl, fun b => ⟨e, _, rfl, ⟨_, _, rfl, by simpa only [rel] using h1, h2⟩, g2 b⟩⟩
          · refine .inr ⟨j + 1, y, e', by rw [show i + 1 + j = i + (j + 1) by omega], by simpa using g2, g3, ?_⟩
            exact ⟨e, _, rfl, ⟨_, _, rfl, by simpa only [rel] using h1, h2⟩, g4⟩
      · cases hg
    | _ => simp [msetS] at hg

theorem op_mset {t : TypeId} {x i v : Operand} (ho : o.op = .mapUpdate t x i v) (hf : rels S fr (shape H) a.tmps.toList) (h : WRel S H w) {ax ai av : AX} (hx : rx x = some ax) (hi : rx i = some ai) (hv : rx v = some av) {kt et : TypeId} {k0 : IntKind} (ht : P.underlying t = some (.map kt et)) (hk : P.underlying kt = some (.int k0))
    (hs : sat arS P H (exec1 arS σr fr H (.mset ax ai av)) K) : opRes P o a w (Done S H K) := by
  have gx := rx_rel hf hx
  have gi := rx_rel hf hi
  have gv := rx_rel hf hv
  simp only [exec1] at hs
  have hex : execOp a.eval o = (do (Instr.mapUpdate t (a.eval x) (a.eval i) (a.eval v)); pure .skip) := by simp only [execOp, ho]
  split at hs
  · rename_i id k n e1 e2
    rw [e1] at gx
    rw [e2] at gi
    simp only [rel] at gx gi
    obtain ⟨B, c, g1, g2, gx⟩ := gx
    rw [getL_eq] at hs
    split at hs
    · rename_i rows hb
      split at hs
      · rename_i hp
        obtain ⟨hset, hs⟩ := hs
        have hset : msetS k n (uns (ev fr av)) rows = some (mSS rows k n (uns (ev fr av))) := hset
        obtain ⟨B', c', es, clock, q1, q2, q3, q4⟩ := h.blk id _ hb
        rw [g2] at q1
        simp only [Option.some.injEq, Prod.mk.injEq] at q1
        obtain ⟨rfl, rfl⟩ := q1
        have hvr := pur_rel _ _ hp (uns_rel gv)
        obtain ⟨r, p1, p2⟩ := findNow_mset (k0 := k0) hvr 0 q3 hset
        rw [setL_eq] at hs
        have done : ∀ es' clock', entR S (mSS rows k n (uns (ev fr av))) es'.toList → (execOp a.eval o).run P w = .ok .skip { w with heap := w.heap.setIfInBounds B (.map es' clock') } → opRes P o a w (Done S H K) := fun es' clock' he hr =>
          done_skip (H' := H.set id (.mpb (mSS rows k n (uns (ev fr av))))) hr (Ext.upd hb rfl) (h.map_upd hb g2 (Chg.setObj w B _) (MapKept.heap_set q2).1 he) hs
        have hpre : ∀ X : Result Unit, ((do
            match ← Instr.findKey kt (.int k n) es.toList with
            | some (i, _) => do
              let key ← Instr.keyThatStays (((es[i]?).map (·.key)).getD (.int k n)) (.int k n)
              setObj B (.map (es.modify i fun e => { e with key, val := a.eval v }) clock)
            | none => setObj B (.map (es.push { key := .int k n, val := a.eval v, born := clock }) (clock + 1)) : Sem Unit).run P w = X) → (Instr.mapUpdate t (a.eval x) (a.eval i) (a.eval v)).run P w = X := by
          intro X hX
          rw [gx, gi]
          simp only [Instr.mapUpdate, Sem.run_bind, run_underlying ht, Result.andThen, Go.MapKept.run_getObj_map q2, run_checkKeyInt hk]
          simp only [Sem.run_bind, Result.andThen] at hX
          exact hX
        rcases p2 with ⟨rfl, p2⟩ | ⟨j, y, e, rfl, p2, p3, p4⟩
        · refine done (es.push ⟨.int k n, a.eval v, clock⟩) (clock + 1) (by simpa using p2 clock) ?_
          rw [hex]
          have := hpre (.ok () { w with heap := w.heap.setIfInBounds B (.map (es.push ⟨.int k n, a.eval v, clock⟩) (clock + 1)) }) (by
            simp only [Sem.run_bind, Go.MapKept.run_findKey hk p1, Result.andThen, Go.MapKept.run_setObj_map _ q2])
          simp only [Sem.run_bind, this, Result.andThen, Sem.run_pure]
        · rw [Nat.zero_add] at p1
          have hk1 : ((es[j]?).map (·.key)).getD (.int k n) = .int k n := by
            rw [← Array.getElem?_toList, p2]; exact p3
          refine done (es.modify j fun e => { e with key := .int k n, val := a.eval v }) clock (by simpa using p4) ?_
          rw [hex]
          have := hpre (.ok () { w with heap := w.heap.setIfInBounds B (.map (es.modify j fun e => { e with key := .int k n, val := a.eval v }) clock) }) (by
            simp only [Sem.run_bind, Go.MapKept.run_findKey hk p1, Result.andThen, hk1, Instr.keyThatStays, Instr.sameBits]
            simp only [BEq.rfl, Bool.and_self, if_true, Sem.run_bind, Sem.run_pure, Result.andThen, Go.MapKept.run_setObj_map _ q2])
          simp only [Sem.run_bind, this, Result.andThen, Sem.run_pure]
      · exact False.elim hs
    · exact False.elim hs
  · exact False.elim hs

theorem op_clr {t e : TypeId} {x : Operand} (ho : o.op = .call { callee := .builtin .clear, args := #[x], argTypes := #[t] }) (hf : rels S fr (shape H) a.tmps.toList) (h : WRel S H w) {ax : AX} (hx : rx x = some ax) (hu : P.underlying t = some (.slice e)) {i : TypeInfo} (hi : P.info? e = some i) {z : List AV} (hz : zeroOf P e = some z) (hl : i.size = z.length) (h1 : allOne z = true) (h0 : 0 < i.size)
    (hs : sat arS P H (exec1 arS σr fr H (.clr i.size z ax)) K) : opRes P o a w (Done S H K) := by
  have gx := rx_rel hf hx
  have fin : ∀ (w' : World), (Builtin.clear_ #[t] o.type #[a.eval x]).run P w = .ok (.tuple #[]) w' → ∀ S' H', Ext S (shape H) S' (shape H') → WRel S' H' w' → K (.tup []) H' → opRes P o a w (Done S H K) := by
    intro w' hr S' H' he hw hK
    unfold opRes execOp
    simp only [ho, Go.resolve, Go.invoke, Go.builtin, Sem.run_bind, Sem.run_pure, Result.andThen_ok, List.map_toArray, List.map_cons, List.map_nil, hr]
    exact ⟨S', .tup [], H', he, hw, by simp [rel, rels], hK⟩
  obtain ⟨i2, zv, hi2, hzv, hzc⟩ := zeroOf_spec hz
  rw [hi] at hi2
  simp only [Option.some.injEq] at hi2
  subst hi2
  have hzr := cvs_rel (S := S) (T := shape H) _ _ hzc
  have hzl := rels_length hzr
  have hzone := rels_one hzr h1
  simp only [exec1] at hs
  split at hs
  · rename_i e1
    rw [e1] at gx
    simp only [rel] at gx
    obtain ⟨aa, gx⟩ := gx
    refine fin w ?_ S H (Ext.refl _ _) h hs
    rw [gx]
    cases aa <;> simp [Builtin.clear_, run_underlying hu, Result.andThen]
  · rename_i id t' off n e1
    rw [e1] at gx
    rw [getL_eq] at hs
    split at hs
    · rename_i e' sz' rows hb
      split at hs
      · rename_i hsz
        subst hsz
        obtain ⟨⟨ht, hon⟩, hs⟩ := hs
        have ht : t' = rows.length := ht
        have hon : off + n ≤ rows.length := hon
        obtain ⟨v1, v2⟩ := sl_valid gx hb ht
        obtain ⟨_, hblk⟩ := h.blk id _ hb
        rw [setL_eq] at hs
        have hs : K (.tup []) (H.set id (.arr e' i.size (rappS rows off (List.replicate n z)))) := hs
        rcases Nat.eq_zero_or_pos n with hn | hn
        · subst hn
          have hsame : rappS rows off (List.replicate 0 z) = rows := by simp [rappS]
          rw [hsame] at hs
          have hH : H.set id (.arr e' i.size rows) = H := by
            apply List.ext_getElem?
            intro j
            rw [List.getElem?_set]
            split
            · rename_i hj
              subst hj
              rw [if_pos (get_lt hb), hb]
            · rfl
          rw [hH] at hs
          obtain ⟨aa, c, hxu⟩ := sl_len gx hb ht
          refine fin w ?_ S H (Ext.refl _ _) h hs
          rw [hxu]
          cases aa <;> simp [Builtin.clear_, run_underlying hu, Result.andThen]
        · cases hr : S.ρ id with
          | none => rw [hr] at v2; omega
          | some p =>
            obtain ⟨B, c⟩ := p
            rw [hr] at v2 hblk
            obtain ⟨aa, q1, q2⟩ := v2
            obtain ⟨arr, m1, m2, m3, m4, m5⟩ := hblk
            obtain rfl := q2 (by omega)
            have hzs : zv.cells.size = i.size := by
              have : zv.cells.toList.length = z.length := hzl
              simp only [Array.length_toList] at this
              omega
            have hvl : (Builtin.zeroCells zv.cells n).size = n * i.size := by rw [size_zeroCells, hzs]
            have hle : (off + n) * i.size ≤ c * i.size := Nat.mul_le_mul_right _ (by omega)
            rw [Nat.add_mul] at hle
            have hvone : ∀ u ∈ (Builtin.zeroCells zv.cells n).toList, u.oneCell' = true := by
              intro u hu2
              obtain ⟨k, hk⟩ := List.getElem?_of_mem hu2
              rw [Array.getElem?_toList] at hk
              simp only [Builtin.zeroCells, Array.getElem?_map, Array.getElem?_range] at hk
              split at hk
              · rename_i hlt
                simp only [Option.map_some, Option.some.injEq] at hk
                subst hk
                have hm : k % zv.cells.size < zv.cells.size := Nat.mod_lt _ (by omega)
                rw [getElem!_pos zv.cells _ hm]
                exact hzone _ (by simp)
              · simp at hk
            have hrun := run_storeCells_at (P := P) B (off * i.size) e' (Builtin.zeroCells zv.cells n).toList 0 arr w m1 (by simp only [Nat.add_zero, Array.length_toList]; omega) hvone
            simp only [Nat.add_zero, Array.length_toList, hvl] at hrun
            have harr : ∀ k : Nat, ((arr.toList.take (off * i.size) ++ (Builtin.zeroCells zv.cells n).toList ++ arr.toList.drop (off * i.size + n * i.size)).toArray)[k]? = if k < off * i.size then arr[k]? else if k < off * i.size + n * i.size then (Builtin.zeroCells zv.cells n)[k - off * i.size]? else arr[k]? := by
              intro k
              rw [List.getElem?_toArray]
              by_cases hk : k < off * i.size
              · rw [if_pos hk, List.append_assoc, List.getElem?_append_left (by simp; omega), List.getElem?_take, if_pos hk]; simp
              · rw [if_neg hk]
                by_cases hk2 : k < off * i.size + n * i.size
                · rw [if_pos hk2, List.getElem?_append_left (by simp [hvl]; omega), List.getElem?_append_right (by simp; omega)]
                  simp only [List.length_take, Array.length_toList]
                  rw [show min (off * i.size) arr.size = off * i.size by omega]; simp
                · rw [if_neg hk2, List.getElem?_append_right (by simp [hvl]; omega), List.getElem?_drop]
                  simp only [List.length_append, List.length_take, Array.length_toList, hvl]
                  rw [Array.getElem?_toList]
                  congr 1
                  omega
            have hsrc : Src S (shape H) (w.alloc (.cells (Builtin.zeroCells zv.cells n) e')) (.slice (some ⟨w.heap.size, 0, none⟩) (List.replicate n z).length n) (List.replicate n z) i.size (Builtin.zeroCells zv.cells n).toList := by
              refine ⟨⟨_, _, rfl, fun _ => ⟨_, rfl, fun j v hj => ?_⟩⟩, by simp [hvl], fun k r hk => ?_, hvone⟩
              · rw [Array.getElem?_toList] at hj
                have ea : (⟨w.heap.size, 0, none⟩ : Addr).add j = ⟨w.heap.size, j, none⟩ := by unfold Addr.add; split <;> simp_all
                rw [ea]
                simp only [World.cell?, heap_alloc_new]
                simpa using hj
              · have hrow := replicate_row (S := S) (T := shape H) (l := n) (c := n) hzr hzone hzs h0 (Nat.le_refl _) k r hk
                refine ⟨hrow.1, fun j c' hj => ?_⟩
                obtain ⟨u, g1, g2, _⟩ := hrow.2 j c' hj
                refine ⟨u, ?_, g2⟩
                rw [Array.getElem?_toList]
                simp only [Builtin.zeroCells, hzs] at g1 ⊢
                exact g1
            have hrow := rapp_row (n := off) (arr' := (arr.toList.take (off * i.size) ++ (Builtin.zeroCells zv.cells n).toList ++ arr.toList.drop (off * i.size + n * i.size)).toArray) h0 m4 hsrc (by omega) (fun k hk => by rw [harr, if_pos hk])
              (fun k hk => by
                simp only [List.length_replicate] at hk
                rw [harr, if_neg (by omega), if_pos (by omega), show off * i.size + k - off * i.size = k by omega, Array.getElem?_toList])
              (fun k hk _ => by
                simp only [List.length_replicate] at hk
                rw [harr, if_neg (by omega), if_neg (by omega)])
            have hrl := rapp_len rows off (List.replicate n z) (by omega)
            rw [List.length_replicate] at hrl
            obtain ⟨w1, w2⟩ := h.arr_upd hb hr (Chg.setRow w B _) (setRow_heap w B arr (arr.toList.take (off * i.size) ++ (Builtin.zeroCells zv.cells n).toList ++ arr.toList.drop (off * i.size + n * i.size)).toArray e' (0, 0) m1) (rows' := rappS rows off (List.replicate n z)) (by
              simp only [List.size_toArray, List.length_append, List.length_take, List.length_drop, Array.length_toList, hvl]
              omega) (by omega) (by omega) hrow
            refine fin _ ?_ S _ w2 w1 hs
            rw [q1]
            cases n with
            | zero => omega
            | succ n =>
              simp only [Builtin.clear_, Sem.run_bind, run_underlying hu, Result.andThen, run_zero hi hzv, hrun, Sem.run_pure, List.getElem?_toArray, List.getElem?_cons_zero]
      · exact False.elim hs
    · exact False.elim hs
  · exact False.elim hs
end
end Go.Ab
