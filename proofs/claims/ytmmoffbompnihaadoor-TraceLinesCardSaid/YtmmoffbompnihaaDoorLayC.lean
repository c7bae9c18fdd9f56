import Derived.Test.YtmmoffbompnihaaDoorLayB
import Derived.Lib.AppendStr
import Derived.Laws.BytesString
import Derived.MapKept
import Derived.AtR
namespace Go.Ab
open Go
set_option linter.unusedVariables false
set_option linter.unusedSimpArgs false
variable {σr : RowF}
section
variable {P : Program} {S : RS} {H : List ABlk} {fr : List AV} {K : AV → List ABlk → Prop} {o : Oper} {a : Act} {w : World}
theorem run_append_zero_s {t u e : TypeId} (ht : P.underlying t = some (.slice e)) (hu : P.underlying u = some .string) {i : TypeInfo} (hi : P.info? e = some i) {ty : TypeId} {base : Option Addr} {sLen sCap : Nat} (hle : sLen ≤ sCap) {s : ByteArray} (h0 : s.size = 0) (w : World) :
  (Builtin.append_ #[t, u] ty #[.slice base sLen sCap, .string s]).run P w = .ok (.slice base sLen sCap) w := by
 cases base <;> simp [Builtin.append_, run_underlying ht, run_underlying hu, sizeOf, typeInfo, hi, Builtin.lenOf, h0, hle, Builtin.firstCells, loadCells, loadCellsFrom, storeCells]
theorem op_apps {t u0 e : TypeId} {x y : Operand} (ho : o.op = .call { callee := .builtin .append, args := #[x, y], argTypes := #[t, u0] }) (hf : rels S fr (shape H) a.tmps.toList) (h : WRel S H w) {ax ay : AX} (hx : rx x = some ax) (hy : rx y = some ay) (hu : P.underlying t = some (.slice e)) (hu2 : P.underlying u0 = some .string) {i : TypeInfo} (hi : P.info? e = some i)
  (hzv : i.zero = some (.int .u8 0)) (hs1 : i.size = 1) (hs : sat arS P H (exec1 arS σr fr H (.apps e i.bytes ax ay)) K) : opRes P o a w (Done S H K) := by
 have gx := rx_rel hf hx
 have gy := rx_rel hf hy
 simp only [exec1] at hs
 generalize ev fr ay = vy at *
 cases vy <;> first | exact False.elim hs | skip
 rename_i s
 simp only [rel] at gy
 have h0 : 0 < i.size := by omega
 obtain ⟨zv, hzv0⟩ : ∃ zv, zv = Value.int .u8 0 := ⟨_, rfl⟩
 rw [← hzv0] at hzv
 have hzsz : zv.cells.size = i.size := by subst hzv0; simp [Value.cells, hs1]
 obtain ⟨vals, hvals⟩ : ∃ vals, vals = Lib.strCells s := ⟨_, rfl⟩
 have hvl : vals.length = s.size := by rw [hvals, Lib.strCells_length]
 obtain ⟨new, hnew0⟩ : ∃ new, new = srowS s := ⟨_, rfl⟩
 have hnl : new.length = s.size := by rw [hnew0]; simp [srowS]
 replace hs : sat arS P H (appA arS e i.size i.bytes (ev fr ax) new H) K := by rw [hs1, hnew0]; exact hs
 have hone : ∀ v ∈ vals, v.oneCell' = true := by rw [hvals]; exact Lib.strCells_oneCell s
 have hv : Src S (shape H) (w.alloc (.cells vals.toArray e)) (.slice (some ⟨w.heap.size, 0, none⟩) new.length new.length) new i.size vals := by
  refine ⟨⟨_, _, rfl, fun _ => ⟨_, rfl, fun j v hj => ?_⟩⟩, by rw [hvl, hnl, hs1, Nat.mul_one], fun k r hk => ?_, hone⟩
  ·rw [Addr.add_lit, Nat.zero_add]
   simp only [World.cell?, heap_alloc_new]
   simpa using hj
  ·rw [hnew0] at hk
   simp only [srowS, List.getElem?_map, Option.map_eq_some_iff] at hk
   obtain ⟨b, hb, rfl⟩ := hk
   refine ⟨by rw [hs1]; rfl, fun j c hj => ?_⟩
   cases j with
   | succ j => simp at hj
   | zero =>
    simp only [List.getElem?_cons_zero, Option.some.injEq] at hj
    subst hj
    refine ⟨.int .u8 b.toNat, ?_, by simp only [rel]⟩
    rw [hs1, Nat.mul_one, Nat.add_zero, hvals, Lib.strCells, List.getElem?_map, hb]
    rfl
 generalize ev fr ax = vx at *
 have fin : ∀ (u : Value) (w' : World), (Builtin.append_ #[t, u0] o.type #[a.eval x, a.eval y]).run P w = .ok u w' → ∀ S' v H', Ext S (shape H) S' (shape H') → WRel S' H' w' → rel S' v (shape H') u → K v H' → opRes P o a w (Done S H K) := by
  intro u w' hr S' v H' he hw hv hK
  unfold opRes execOp
  simp only [ho, Go.resolve, Go.invoke, Go.builtin, Sem.run_bind, Sem.run_pure, Result.andThen_ok, List.map_toArray, List.map_cons, List.map_nil, hr]
  exact ⟨S', v, H', he, hw, hv, hK⟩
 have hbytes : ∀ k, k * i.bytes ≤ 140737488355328 → k * i.bytes ≤ 281474976710656 := fun k hk => by omega
 have hyu : a.eval y = .string s := gy
 have rnil : 0 < new.length → new.length ≤ 140737488355328 → new.length * i.bytes ≤ 281474976710656 → (Builtin.append_ #[t, u0] o.type #[.slice none 0 0, .string s]).run P w = .ok (.slice (some ⟨w.heap.size, 0, none⟩) new.length (grownCap w new.length 0 e)) (w.drew.alloc (.cells (vals.toArray ++ Builtin.zeroCells zv.cells (grownCap w new.length 0 e - new.length)) e)) := by
  intro q1 q2 q3
  have := run_append_nil_string (P := P) (w := w) t u0 o.type e i zv hu hu2 hi hzv s (by omega) (by omega) (by rw [← hnl]; exact q3)
  rw [← hnl] at this
  have e9 : (Lib.strCells s).toArray = s.data.map (fun b => Value.int .u8 b.toNat) := by apply Array.ext'; simp [Lib.strCells]
  rw [this, hvals, e9]
 have rgrow : ∀ (b : Addr) (sLen sCap : Nat) (olds : List Value), olds.length = sLen * i.size → (∀ j v, olds[j]? = some v → w.cell? (b.add j) = some v) → sCap < sLen + new.length → sLen + new.length ≤ 9223372036854775807 → Builtin.nextslicecap (sLen + new.length) sCap * i.bytes ≤ 281474976710656 → (Builtin.append_ #[t, u0] o.type #[.slice (some b) sLen sCap, .string s]).run P w = .ok (.slice (some ⟨w.heap.size, 0, none⟩) (sLen + new.length) (grownCap w (sLen + new.length) sCap e)) (w.drew.alloc (.cells (olds.toArray ++ vals.toArray ++ Builtin.zeroCells zv.cells (grownCap w (sLen + new.length) sCap e - (sLen + new.length))) e)) := by
  intro b sLen sCap olds q1 q2 q3 q4 q5
  have := Lib.run_append_grow_string (P := P) (w := w) t u0 o.type e i zv hu hu2 hi hzv b sLen sCap olds q1 q2 s (by omega) (by omega) (by rw [← hnl]; exact q5)
  rw [← hnl, ← hvals] at this
  exact this
 have rroom : ∀ (B n c : Nat) (arr : Array Value), w.heap[B]? = some (.cells arr e (0, 0)) → n + new.length ≤ c → n + new.length ≤ arr.size → (Builtin.append_ #[t, u0] o.type #[.slice (some ⟨B, 0, none⟩) n c, .string s]).run P w = .ok (.slice (some ⟨B, 0, none⟩) (n + new.length) c) (w.setRow B (arr.toList.take (n * i.size) ++ vals ++ arr.toList.drop (n * i.size + vals.length)).toArray) := by
  intro B n c arr q1 q2 q3
  rw [show n * i.size = n by rw [hs1, Nat.mul_one], show vals.length = new.length by omega]
  have := Lib.run_append_room_string (P := P) (w := w) t u0 o.type e i hu hu2 hi hs1 B n c arr q1 s (by omega) (by omega)
  rw [← hnl, ← hvals] at this
  exact this
 cases vx
 case nils =>
  simp only [appA] at hs
  obtain ⟨⟨n1, n2⟩, hs⟩ := hs
  have n1 : new.length ≤ 140737488355328 := n1
  have n2 : new.length * i.bytes ≤ 140737488355328 := n2
  simp only [rel] at gx
  obtain ⟨xa, gx⟩ := gx
  rw [lenL_eq, appL_eq] at hs
  rcases Nat.eq_zero_or_pos new.length with hn | hn
  ·have hnew : new = [] := List.eq_nil_of_length_eq_zero hn
   subst hnew
   obtain ⟨w1, w2⟩ := h.arr_none e i.size h0
   refine fin (.slice xa 0 0) w ?_ _ _ _ w2 w1 ?_ hs
   ·rw [gx, hyu]; exact run_append_zero_s hu hu2 hi (Nat.le_refl _) (by simpa [hnl] using hn) w
   ·simp only [rel]
    refine ⟨0, i.size, by rw [shape_last]; rfl, by simp [arS], rfl, fun _ => ⟨by simp [arS], ?_⟩⟩
    rw [put_same]
    exact ⟨rfl, xa, rfl⟩
  ·have hrun : ∃ cap, new.length ≤ cap ∧ (Builtin.append_ #[t, u0] o.type #[a.eval x, a.eval y]).run P w = .ok (.slice (some ⟨w.heap.size, 0, none⟩) new.length cap) (w.drew.alloc (.cells (vals.toArray ++ Builtin.zeroCells zv.cells (cap - new.length)) e)) := by
    rw [gx, hyu]
    cases xa with
    | none => exact ⟨_, grownCap_ge w new.length 0 e, rnil hn (by omega) (hbytes _ n2)⟩
    | some b =>
     have := rgrow b 0 0 [] (by simp) (by simp) (by omega) (by omega) (by rw [Nat.zero_add, nextslicecap_zero hn]; exact hbytes _ n2)
     simp only [Nat.zero_add, Array.empty_append] at this
     exact ⟨_, grownCap_ge w new.length 0 e, this⟩
   obtain ⟨cap, hcap, hrun⟩ := hrun
   have hsize : (vals.toArray ++ Builtin.zeroCells zv.cells (cap - new.length)).size = cap * i.size := by
    simp only [Array.size_append, List.size_toArray, size_zeroCells, hzsz, hv.len, ← Nat.add_mul]
    congr 1; omega
   have hrow : RowRel S (shape H) i.size new (vals.toArray ++ Builtin.zeroCells zv.cells (cap - new.length)) := by
    intro k r hk
    obtain ⟨q1, q2⟩ := hv.row k r hk
    refine ⟨q1, fun j c hj => ?_⟩
    obtain ⟨v, r1, r2⟩ := q2 j c hj
    refine ⟨v, ?_, r2, hv.one v (List.mem_of_getElem? r1)⟩
    rw [Array.getElem?_append_left (by simpa using (List.getElem?_eq_some_iff.1 r1).1)]
    simpa using r1
   obtain ⟨w1, w2⟩ := h.drew.arr_new e i.size new cap h0 (w' := w.drew.alloc (.cells (vals.toArray ++ Builtin.zeroCells zv.cells (cap - new.length)) e)) (Chg.alloc w.drew _ _) (heap_alloc_new w.drew _) hsize hcap hrow
   refine fin _ _ hrun _ _ _ w2 w1 ?_ hs
   simp only [rel]
   refine ⟨new.length, i.size, by rw [shape_last]; rfl, by simp [arS], rfl, fun _ => ⟨by simp [arS], ?_⟩⟩
   rw [put_same]
   exact ⟨some ⟨w.heap.size, 0, none⟩, by simp [arS], fun _ => by simp⟩
 case sl id t' off n =>
  cases off with
  | succ off => exact False.elim hs
  | zero =>
   simp only [appA, getL_eq] at hs
   cases hb : H[id]? with
   | none => rw [hb] at hs; exact False.elim hs
   | some b =>
    rw [hb] at hs
    cases b <;> first | exact False.elim hs | skip
    rename_i e' sz' rows
    simp only at hs
    split at hs
    ·rename_i hez
     obtain ⟨rfl, rfl⟩ := hez
     obtain ⟨⟨ht, hnr, n1, n2⟩, hs⟩ := hs
     have ht : t' = rows.length := ht
     have hnr : n ≤ rows.length := hnr
     have n1 : n + new.length ≤ 140737488355328 := n1
     have n2 : (n + new.length) * i.bytes ≤ 140737488355328 := n2
     rw [setL_eq] at hs
     obtain ⟨v1, v2⟩ := sl_valid gx hb ht
     obtain ⟨_, hblk⟩ := h.blk id _ hb
     have hrl := rapp_len rows n new hnr
     rcases Nat.eq_zero_or_pos new.length with hn | hn
     ·have hnew : new = [] := List.eq_nil_of_length_eq_zero hn
      subst hnew
      have hsame : rappS rows n [] = rows := by simp [rappS]
      have hs2 : K (.sl id rows.length 0 n) (H.set id (.arr e' i.size rows)) := by
       have : K (.sl id (rappS rows n []).length 0 (n + 0)) (H.set id (.arr e' i.size (rappS rows n []))) := hs
       rw [hsame] at this
       exact this
      have hH : H.set id (.arr e' i.size rows) = H := by
       apply List.ext_getElem?
       intro j
       rw [List.getElem?_set]
       split
       ·rename_i hj
        subst hj
        rw [if_pos (get_lt hb), hb]
       ·rfl
      rw [hH] at hs2
      obtain ⟨aa, c, hxu⟩ := sl_len gx hb ht
      have hnc : n ≤ c := by
       cases hr : S.ρ id with
       | none => rw [hr] at v2; obtain ⟨rfl, _⟩ := v2; omega
       | some p =>
        obtain ⟨B, cc⟩ := p
        rw [hr] at v2 hblk
        obtain ⟨_, q, _⟩ := v2
        obtain ⟨_, _, _, q3, _⟩ := hblk
        rw [hxu] at q
        injection q with _ _ q
        omega
      refine fin _ w (by rw [hxu, hyu]; exact run_append_zero_s hu hu2 hi hnc (by simpa [hnl] using hn) w) S _ H (Ext.refl _ _) h ?_ hs2
      rw [← hxu, ← ht]
      exact gx
     ·
      have move : ∀ (arr0 : Array Value) (olds : List Value) (cap : Nat), RowRel S (shape H) i.size rows arr0 → olds.length = n * i.size → (∀ k, k < n * i.size → olds[k]? = arr0[k]?) → rows.length < n + new.length → n + new.length ≤ cap → ∀ u : Value, u = .slice (some ⟨w.heap.size, 0, none⟩) (n + new.length) cap →
        (Builtin.append_ #[t, u0] o.type #[a.eval x, a.eval y]).run P w = .ok u (w.drew.alloc (.cells (olds.toArray ++ vals.toArray ++ Builtin.zeroCells zv.cells (cap - (n + new.length))) e')) → opRes P o a w (Done S H K) := by
       intro arr0 olds cap hrow hlo holds hlt hcap u hu' hrun
       have hsize : (olds.toArray ++ vals.toArray ++ Builtin.zeroCells zv.cells (cap - (n + new.length))).size = cap * i.size := by
        simp only [Array.size_append, List.size_toArray, size_zeroCells, hzsz, hv.len, hlo, ← Nat.add_mul]
        congr 1; omega
       have hrow' : RowRel S (shape H) i.size (rappS rows n new) (olds.toArray ++ vals.toArray ++ Builtin.zeroCells zv.cells (cap - (n + new.length))) := by
        refine rapp_row h0 hrow hv hnr (fun k hk => ?_) (fun k hk => ?_) (fun k h1 h2 => ?_)
        ·rw [Array.append_assoc, Array.getElem?_append_left (by simp; omega)]
         simpa using holds k hk
        ·rw [Array.getElem?_append_left (by simp only [Array.size_append, List.size_toArray, hlo, hv.len]; omega), Array.getElem?_append_right (by simp; omega)]
         simp [hlo]
        ·have := Nat.mul_le_mul_right i.size (Nat.le_of_lt hlt)
         rw [Nat.add_mul] at this
         omega
       obtain ⟨w1, w2⟩ := h.drew.arr_move hb cap (w' := w.drew.alloc (.cells (olds.toArray ++ vals.toArray ++ Builtin.zeroCells zv.cells (cap - (n + new.length))) e')) (Chg.alloc w.drew _ _) (heap_alloc_new w.drew _) hsize (by rw [hrl]; omega) (by rw [hrl]; omega) hrow'
       refine fin _ _ hrun _ _ _ w2 w1 ?_ hs
       simp only [rel]
       refine ⟨(rappS rows n new).length, i.size, by rw [shape_set (get_lt hb), if_pos rfl]; rfl, Nat.le_refl _, by rw [hu']; rfl, fun _ => ⟨?_, ?_⟩⟩
       ·show 0 + (n + new.length) ≤ _
        rw [hrl]; omega
       ·rw [put_same]
        exact ⟨some ⟨w.heap.size, 0, none⟩, by rw [hu']; rfl, fun _ => by simp⟩
      cases hr : S.ρ id with
      | none =>
       rw [hr] at v2 hblk
       obtain ⟨rfl, xa, hxu⟩ := v2
       have hrows : rows = [] := hblk
       subst hrows
       have hrun : ∃ cap, new.length ≤ cap ∧ (Builtin.append_ #[t, u0] o.type #[a.eval x, a.eval y]).run P w = .ok (.slice (some ⟨w.heap.size, 0, none⟩) new.length cap) (w.drew.alloc (.cells (vals.toArray ++ Builtin.zeroCells zv.cells (cap - new.length)) e')) := by
        rw [hxu, hyu]
        cases xa with
        | none => exact ⟨_, grownCap_ge w new.length 0 e', rnil hn (by omega) (hbytes _ (by simpa using n2))⟩
        | some b =>
         have := rgrow b 0 0 [] (by simp) (by simp) (by omega) (by omega) (by rw [Nat.zero_add, nextslicecap_zero hn]; exact hbytes _ (by simpa using n2))
         simp only [Nat.zero_add, Array.empty_append] at this
         exact ⟨_, grownCap_ge w new.length 0 e', this⟩
       obtain ⟨cap, hcap, hrun⟩ := hrun
       exact move #[] [] cap (fun i r hi => by simp at hi) (by simp) (fun k hk => by simp at hk) (by simp; omega) (by omega) _ (by rw [Nat.zero_add]) (by rw [hrun]; simp)
      | some p =>
       obtain ⟨B, c⟩ := p
       rw [hr] at v2 hblk
       obtain ⟨xa, hxu, hxa⟩ := v2
       obtain ⟨arr, m1, m2, m3, m4, m5⟩ := hblk
       have hrow0 : RowRel S (shape H) i.size rows arr := m4
       have hxa' : n + new.length ≤ c → xa = some ⟨B, 0, none⟩ := fun hle => by rw [hxa (by omega), Nat.zero_mul]
       simp only [Nat.sub_zero] at hxu
       by_cases hroom : n + new.length ≤ c
       ·
        have hxa2 := hxa' hroom
        subst hxa2
        have hmul : n * i.size + new.length * i.size ≤ c * i.size := by rw [← Nat.add_mul]; exact Nat.mul_le_mul_right _ hroom
        have hrun := rroom B n c arr m1 hroom (by rw [m2, hs1]; omega)
        have hnl : n * i.size ≤ arr.size := by omega
        obtain ⟨w1, w2⟩ := h.arr_upd hb hr (Chg.setRow w B _) (setRow_heap w B arr (arr.toList.take (n * i.size) ++ vals ++ arr.toList.drop (n * i.size + vals.length)).toArray e' (0, 0) m1) (rows' := rappS rows n new) (by
         simp only [List.size_toArray, List.length_append, List.length_take, List.length_drop, Array.length_toList, hv.len]
         omega) (by rw [hrl]; omega) (by rw [hrl]; omega) (rapp_row h0 hrow0 hv hnr (fun k hk => by
          rw [List.getElem?_toArray, List.append_assoc, List.getElem?_append_left (by simp; omega), List.getElem?_take, if_pos hk]; simp) (fun k hk => by
          rw [List.getElem?_toArray, List.getElem?_append_left (by simp [hv.len]; omega), List.getElem?_append_right (by simp; omega)]
          simp only [List.length_take, Array.length_toList]
          rw [show n * i.size + k - min (n * i.size) arr.size = k by omega]) (fun k h1 h2 => by
          rw [List.getElem?_toArray, List.getElem?_append_right (by simp [hv.len]; omega), List.getElem?_drop]
          simp only [List.length_append, List.length_take, Array.length_toList, hv.len]
          rw [Array.getElem?_toList]
          congr 1
          omega))
        refine fin _ _ (by rw [hxu, hyu]; exact hrun) S _ _ w2 w1 ?_ hs
        simp only [rel]
        refine ⟨(rappS rows n new).length, i.size, by rw [shape_set (get_lt hb), if_pos rfl]; rfl, Nat.le_refl _, rfl, fun _ => ⟨?_, ?_⟩⟩
        ·show 0 + (n + new.length) ≤ _
         rw [hrl]; omega
        ·rw [hr]
         exact ⟨some ⟨B, 0, none⟩, rfl, fun _ => by simp⟩
       ·
        have hlt : rows.length < n + new.length := by omega
        have holds : ∃ olds : List Value, olds.length = n * i.size ∧ ∀ k, k < n * i.size → olds[k]? = arr[k]? := by
         refine ⟨arr.toList.take (n * i.size), ?_, fun k hk => ?_⟩
         ·have : n * i.size ≤ c * i.size := Nat.mul_le_mul_right _ (by omega)
          simp; omega
         ·rw [List.getElem?_take, if_pos hk, Array.getElem?_toList]
        obtain ⟨olds, ho1, ho2⟩ := holds
        rcases Nat.eq_zero_or_pos n with rfl | hnpos
        ·have holdnil : olds = [] := List.eq_nil_of_length_eq_zero (by simpa using ho1)
         subst holdnil
         rcases Nat.eq_zero_or_pos c with rfl | hcpos
         ·have hrun : ∃ cap, new.length ≤ cap ∧ (Builtin.append_ #[t, u0] o.type #[a.eval x, a.eval y]).run P w = .ok (.slice (some ⟨w.heap.size, 0, none⟩) new.length cap) (w.drew.alloc (.cells (vals.toArray ++ Builtin.zeroCells zv.cells (cap - new.length)) e')) := by
           rw [hxu, hyu]
           cases xa with
           | none => exact ⟨_, grownCap_ge w new.length 0 e', rnil hn (by omega) (hbytes _ (by simpa using n2))⟩
           | some b =>
            have := rgrow b 0 0 [] (by simp) (by simp) (by omega) (by omega) (by rw [Nat.zero_add, nextslicecap_zero hn]; exact hbytes _ (by simpa using n2))
            simp only [Nat.zero_add, Array.empty_append] at this
            exact ⟨_, grownCap_ge w new.length 0 e', this⟩
          obtain ⟨cap, hcap, hrun⟩ := hrun
          exact move arr [] cap hrow0 (by simp) (fun k hk => by simp at hk) hlt (by omega) _ (by rw [Nat.zero_add]) (by rw [hrun]; simp)
         ·have hxb := hxa hcpos
          subst hxb
          have hrun := rgrow ⟨B, 0 * i.size, none⟩ 0 c [] (by simp) (by simp) (by omega) (by omega) (growslice_fits (by omega) n2)
          refine move arr [] _ hrow0 (by simp) (fun k hk => by simp at hk) hlt (grownCap_ge w (0 + new.length) c e') _ rfl ?_
          rw [hxu, hyu]
          exact hrun
        ·have hxb := hxa (by omega)
         subst hxb
         have hcells : ∀ (j : Nat) (v : Value), olds[j]? = some v → w.cell? ((⟨B, 0 * i.size, none⟩ : Addr).add j) = some v := by
          intro j v hj
          have hjlt : j < n * i.size := by rw [← ho1]; exact (List.getElem?_eq_some_iff.1 hj).1
          rw [ho2 j hjlt] at hj
          rw [Nat.zero_mul, Addr.add_lit, Nat.zero_add]
          simp only [World.cell?, m1]
          simpa using hj
         have hrun := rgrow ⟨B, 0 * i.size, none⟩ n c olds ho1 hcells (by omega) (by omega) (growslice_fits (by omega) n2)
         refine move arr olds _ hrow0 ho1 ho2 hlt (grownCap_ge w (n + new.length) c e') _ rfl ?_
         rw [hxu, hyu]
         exact hrun
    ·exact False.elim hs
 all_goals exact False.elim hs
theorem push_fold (ns : List Int) : ∀ b : ByteArray, ns.foldl (fun r n => r.push (UInt8.ofNat n.toNat)) b = ⟨b.data ++ (ns.map fun n => UInt8.ofNat n.toNat).toArray⟩ := by
 induction ns with
 | nil => intro b; simp
 | cons n ns ih =>
  intro b
  rw [List.foldl_cons, ih]
  simp [ByteArray.push]
theorem op_b2s {s d e : TypeId} {x : Operand} (ho : o.op = .convert s d x) (hf : rels S fr (shape H) a.tmps.toList) (h : WRel S H w) {ax : AX} (hx : rx x = some ax) (hs0 : P.underlying s = some (.slice e)) (he : P.underlying e = some (.int .u8)) (hd : P.underlying d = some .string)
  (hs : sat arS P H (exec1 arS σr fr H (.b2s ax)) K) : opRes P o a w (Done S H K) := by
 have gx := rx_rel hf hx
 simp only [exec1] at hs
 have hex : execOp a.eval o = (do pure (.value (← convert s d (a.eval x)))) := by simp only [execOp, ho]
 obtain ⟨new, vals, hv, hb, hK⟩ := rowsOf_sat (by omega) h gx hs
 replace hb : ∀ r ∈ new, ∃ n : Int, r = [.int .u8 n] := hb
 obtain ⟨ns, hns⟩ : ∃ ns : List Int, new = ns.map fun n => [.int .u8 n] := by
  clear hv hK hs
  induction new with
  | nil => exact ⟨[], rfl⟩
  | cons r new ih =>
   obtain ⟨n, hn⟩ := hb r (by simp)
   obtain ⟨ns, hns⟩ := ih fun r hr => hb r (by simp [hr])
   exact ⟨n :: ns, by rw [hns, hn]; rfl⟩
 have hvals : vals = ns.map (Value.int .u8) := by
  apply List.ext_getElem?
  intro j
  have hl := hv.len
  rw [hns, List.length_map, Nat.mul_one] at hl
  rcases Nat.lt_or_ge j ns.length with hj | hj
  ·obtain ⟨_, q⟩ := hv.row j [.int .u8 ns[j]] (by rw [hns]; simp [hj])
   obtain ⟨v, q1, q2⟩ := q 0 _ rfl
   simp only [rel] at q2
   subst q2
   rw [show j * 1 + 0 = j by omega] at q1
   rw [q1]
   simp [hj]
  ·rw [List.getElem?_eq_none (by omega), List.getElem?_eq_none (by simpa using hj)]
 have hstr : arS.bstr new = ns.foldl (fun r n => r.push (UInt8.ofNat n.toNat)) ByteArray.empty := by
  rw [push_fold, hns]
  show bstrS _ = _
  simp only [bstrS, List.map_map]
  congr 1
  show _ = #[] ++ _
  rw [Array.empty_append]
  congr 1
 obtain ⟨a0, c, hu, hsl⟩ := hv.sl
 refine op_of_run (u := .string (arS.bstr new)) hex ?_ h (by simp only [rel]) hK
 rw [hu]
 have hconv : ∀ y : Value, (convert s d (.slice a0 new.length c)).run P w = (Conv.bytesToString (.slice a0 new.length c)).run P w := by
  intro y
  cases a0 <;> simp only [convert, Sem.run_bind, run_underlying hs0, run_underlying hd, run_underlying he, Result.andThen_ok]
 rw [hconv (.bool true), hstr]
 rcases Nat.eq_zero_or_pos new.length with hn | hn
 ·have h1 : ns = [] := List.eq_nil_of_length_eq_zero (by rw [hns] at hn; simpa using hn)
  subst h1
  cases a0 with
  | none => simp [Conv.bytesToString]
  | some ad =>
   have := run_bytesToString (P := P) w ad new.length c [] (by rw [hn]; simpa using run_loadCells_list (P := P) (w := w) ad [] (by simp))
   simpa using this
 ·obtain ⟨ad, rfl, had⟩ := hsl (by omega)
  refine run_bytesToString (P := P) w ad new.length c ns ?_
  have := run_loadCells_list (P := P) (w := w) ad vals had
  rw [hv.len, Nat.mul_one, hvals] at this
  exact this
theorem run_eqGuard_nilI {op : BinOp} {t : TypeId} {x : Operand} {u : Value} (hu : u = .nilIface ∨ ∃ t v, u = .iface t v) (w : World) : (eqGuard op t x (.const .nilIface) u .nilIface).run P w = .ok () w := by
 unfold eqGuard
 rcases hu with rfl | ⟨t, v, rfl⟩
 ·cases op <;> cases x <;> rfl
 ·cases op <;> rfl
theorem run_eq_nilI {t : TypeId} {ms : Array (String × TypeId)} {u : Value} (ht : P.underlying t = some (.interface ms)) {b : Bool} (hu : u = .nilIface ∧ b = true ∨ (∃ t v, u = .iface t v) ∧ b = false) (w : World) : (Op.equal t u .nilIface).run P w = .ok b w := by
 obtain ⟨d, hd⟩ := equal_succ t u .nilIface
 rw [hd]
 rcases hu with ⟨rfl, rfl⟩ | ⟨⟨t', v, rfl⟩, rfl⟩ <;> simp only [Op.equalIn, Sem.run_bind, run_underlying ht, Result.andThen_ok] <;> rfl
theorem op_nilI {op : BinOp} {t t' : TypeId} {x y : Operand} (ho : o.op = .binOp op t x y t') (hf : rels S fr (shape H) a.tmps.toList) (h : WRel S H w) {ax : AX} (hx : rx x = some ax) {neg : Bool} (hn : isNilI P op t y = some neg)
  (hs : sat arS P H (exec1 arS σr fr H (.nilI neg ax)) K) : opRes P o a w (Done S H K) := by
 have gx := rx_rel hf hx
 obtain ⟨ms, hu, hy, hop⟩ : ∃ ms, P.underlying t = some (.interface ms) ∧ y = .const .nilIface ∧ ((op = .eql ∧ neg = false) ∨ (op = .neq ∧ neg = true)) := by
  unfold isNilI at hn
  split at hn
  ·rename_i e hu
   simp only [Option.some.injEq] at hn
   exact ⟨_, hu, rfl, .inl ⟨rfl, hn.symm⟩⟩
  ·rename_i e hu
   simp only [Option.some.injEq] at hn
   exact ⟨_, hu, rfl, .inr ⟨rfl, hn.symm⟩⟩
  ·cases hn
 have key : ∃ b : Bool, (a.eval x = .nilIface ∧ b = true ∨ (∃ t v, a.eval x = .iface t v) ∧ b = false) ∧ K (.bool (if neg then !b else b)) H := by
  simp only [exec1] at hs
  generalize ev fr ax = vx at *
  generalize a.eval x = ux at *
  cases vx <;> first | exact False.elim hs | skip
  case nili =>
   simp only [rel] at gx
   exact ⟨true, .inl ⟨gx, rfl⟩, by cases neg <;> exact hs⟩
  case iface =>
   simp only [rel] at gx
   obtain ⟨u, gx, _⟩ := gx
   exact ⟨false, .inr ⟨⟨_, _, gx⟩, rfl⟩, by cases neg <;> exact hs⟩
 obtain ⟨b, hb, hK⟩ := key
 have hq := run_eq_nilI hu hb w
 have hg := run_eqGuard_nilI (P := P) (op := op) (t := t) (x := x) (u := a.eval x) (by rcases hb with ⟨e, _⟩ | ⟨e, _⟩; exact .inl e; exact .inr e) w
 unfold opRes execOp
 have hev2 : a.eval y = .nilIface := by rw [hy]; rfl
 subst hy
 simp only [ho, Sem.run_bind, hev2, hg, Result.andThen_ok, Sem.run_pure]
 rcases hop with ⟨rfl, rfl⟩ | ⟨rfl, rfl⟩
 ·have : (binOp .eql t (a.eval x) .nilIface).run P w = .ok (.bool b) w := by
   rcases hb with ⟨e, _⟩ | ⟨⟨t1, v1, e⟩, _⟩ <;> (rw [e] at hq ⊢; simp only [binOp, Sem.run_bind, hq, Result.andThen_ok, Sem.run_pure])
  simp only [this, Result.andThen_ok, Sem.run_pure]
  exact .here h (by simp [rel]) hK
 ·have : (binOp .neq t (a.eval x) .nilIface).run P w = .ok (.bool (!b)) w := by
   rcases hb with ⟨e, _⟩ | ⟨⟨t1, v1, e⟩, _⟩ <;> (rw [e] at hq ⊢; simp only [binOp, Sem.run_bind, hq, Result.andThen_ok, Sem.run_pure])
  simp only [this, Result.andThen_ok, Sem.run_pure]
  exact .here h (by simp only [rel]; rfl) hK
theorem chunk_spec (sz : Nat) : ∀ (n : Nat) (z : List AV), z.length = n * sz → (chunk sz n z).length = n ∧ ∀ i r, (chunk sz n z)[i]? = some r → r.length = sz ∧ ∀ j c, r[j]? = some c → z[i * sz + j]? = some c
 | 0, z, h => ⟨rfl, fun i r hi => by simp [chunk] at hi⟩
 | n + 1, z, h => by
  have hsz : sz ≤ z.length := by rw [h, Nat.add_mul, Nat.one_mul]; omega
  have htk : takeL sz z = some (z.take sz) := by
   have : ∀ (k : Nat) (l : List AV), k ≤ l.length → takeL k l = some (l.take k) := by
    intro k
    induction k with
    | zero => intro l _; rfl
    | succ k ih =>
     intro l hl
     cases l with
     | nil => simp at hl
     | cons a l => simp only [takeL, ih l (by simpa using hl), Option.map_some, List.take_succ_cons]
   exact this sz z hsz
  obtain ⟨h1, h2⟩ := chunk_spec sz n (z.drop sz) (by rw [List.length_drop, h, Nat.add_mul, Nat.one_mul]; omega)
  refine ⟨by simp only [chunk, dropL_eq, List.length_cons, h1], fun i r hi => ?_⟩
  simp only [chunk, dropL_eq, htk, Option.getD_some] at hi
  cases i with
  | zero =>
   simp only [List.getElem?_cons_zero, Option.some.injEq] at hi
   subst hi
   refine ⟨by rw [List.length_take]; omega, fun j c hj => ?_⟩
   rw [List.getElem?_take] at hj
   split at hj
   ·rw [Nat.zero_mul, Nat.zero_add]; exact hj
   ·cases hj
  | succ i =>
   simp only [List.getElem?_cons_succ] at hi
   obtain ⟨q1, q2⟩ := h2 i r hi
   refine ⟨q1, fun j c hj => ?_⟩
   have := q2 j c hj
   rw [List.getElem?_drop] at this
   rw [← this, Nat.add_mul, Nat.one_mul]
   congr 1; omega
theorem op_mka {e : TypeId} (ho : o.op = .alloc e) (h : WRel S H w) {z : List AV} (hz : zeroOf P e = some z) (h1 : allOne z = true) {sz n : Nat} (hl : z.length = n * sz) (h0 : 0 < sz)
  (hK : K (.ptr (lenL H) n 0 0) (appL H [.arr e sz (chunk sz n z)])) : opRes P o a w (Done S H K) := by
 obtain ⟨i, v, hi, hv, hc⟩ := zeroOf_spec hz
 have hr := cvs_rel (S := S) (T := shape H) _ _ hc
 have ho1 := rels_one hr h1
 have hvl : v.cells.size = n * sz := by have := rels_length hr; simp at this; omega
 obtain ⟨c1, c2⟩ := chunk_spec sz n z hl
 unfold opRes execOp
 simp only [ho, Instr.alloc, run_zero hi hv, newVar, newRow, Sem.run_bind, run_newObj, World.alloc_eq, Result.andThen_ok, Sem.run_pure]
 rw [lenL_eq, appL_eq] at hK
 obtain ⟨w1, w2⟩ := h.arr_new e sz (chunk sz n z) n h0 (w' := w.alloc (.cells v.cells e)) (Chg.alloc w _ _) (heap_alloc_new w _) hvl (by rw [c1]; omega) (fun k r hk => by
  obtain ⟨q1, q2⟩ := c2 k r hk
  refine ⟨q1, fun j c hj => ?_⟩
  obtain ⟨u, g1, g2⟩ := rels_get hr (q2 j c hj)
  exact ⟨u, by simpa using g1, g2, ho1 u (List.mem_of_getElem? g1)⟩)
 refine ⟨_, _, _, w2, w1, ?_, hK⟩
 simp only [rel]
 refine ⟨n, sz, w.heap.size, 0, by rw [shape_last]; simp [ABlk.shp, c1], Nat.le_refl _, rfl, fun _ => ⟨n, ?_, by simp⟩⟩
 rw [put_same]
theorem op_idxp {t e : TypeId} {n : Nat} {x y : Operand} (ho : o.op = .indexAddr t x y) (hf : rels S fr (shape H) a.tmps.toList) (h : WRel S H w) {ax ay : AX} (hx : rx x = some ax) (hy : rx y = some ay) (hu : P.underlying t = some (.array n e)) {sz : Nat} (hsz : szOf P e = some sz)
  (hs : sat arS P H (exec1 arS σr fr H (.idxp t sz n ax ay)) K) : opRes P o a w (Done S H K) := by
 have gx := rx_rel hf hx
 have gy := rx_rel hf hy
 simp only [exec1] at hs
 generalize ev fr ax = vx at *
 generalize ev fr ay = vy at *
 have hex : execOp a.eval o = (do pure (.value (← Instr.indexAt t (a.eval x) (a.eval y)))) := by simp only [execOp, ho]
 have run : ∀ (B off : Nat) (k : IntKind) (i : Int), 0 ≤ i → i < n → (Instr.indexAt t (.pointer (some ⟨B, off, none⟩)) (.int k i)).run P w = .ok (.pointer (some ⟨B, off + i.toNat * sz, none⟩)) w := by
  intro B off k i h0 h1
  simp [Instr.indexAt, asIntOf, Instr.sureAddr, run_underlying hu, run_szOf hsz, h0, h1, Addr.add_lit]
 cases vx <;> first | exact False.elim hs | skip
 case bptr id off =>
  cases vy <;> first | exact False.elim hs | skip
  rename_i k i
  obtain ⟨⟨q0, q1⟩, hs⟩ := hs
  have q0 : 0 ≤ i := q0
  have q1 : i < (n : Int) := q1
  simp only [rel] at gx gy
  obtain ⟨m, B, c, g1, g2, g3⟩ := gx
  refine op_of_run (u := .pointer (some ⟨B, off + i.toNat * sz, none⟩)) hex (by rw [g3, gy]; exact run B off k i q0 q1) h ?_ hs
  simp only [rel]
  exact ⟨m, B, c, g1, g2, rfl⟩
 rename_i id t' r off
 cases off with
 | succ off => cases vy <;> exact False.elim hs
 | zero =>
  cases vy <;> first | exact False.elim hs | skip
  rename_i k i
  simp only [getL_eq] at hs
  cases hb : H[id]? with
  | none => rw [hb] at hs; exact False.elim hs
  | some b =>
   rw [hb] at hs
   cases b <;> first | exact False.elim hs | skip
   rename_i e' sz' rows
   simp only at hs
   split at hs
   ·rename_i hz
    obtain ⟨rfl, rfl⟩ := hz
    obtain ⟨⟨q0, q1, q2, q3⟩, hs⟩ := hs
    have q0 : 0 ≤ i := q0
    have q1 : i < (n : Int) := q1
    have q2 : t' = rows.length := q2
    have q3 : r = 0 := q3
    subst q3
    simp only [rel] at gx gy
    obtain ⟨m, s1, B, o', g1, g2, g3, g4⟩ := gx
    have hsh := shape_get hb
    rw [hsh] at g1
    simp only [ABlk.shp, Option.some.injEq, Shp.row.injEq] at g1
    obtain ⟨rfl, rfl⟩ := g1
    obtain ⟨c, k1, k2⟩ := g4 q2
    rw [Nat.zero_mul, Nat.zero_add] at k2
    subst k2
    refine op_of_run (u := .pointer (some ⟨B, 0 + i.toNat * sz', none⟩)) hex (by rw [g3, gy]; exact run B 0 k i q0 q1) h ?_ hs
    simp only [rel]
    exact ⟨rows.length, sz', B, _, hsh, g2, rfl, fun _ => ⟨c, k1, by show _ = i.toNat * sz' + 0; omega⟩⟩
   ·exact False.elim hs
def RS.froz (S : RS) (w : World) (B0 : Nat) : RS := { S with φ := fun B o => if B = B0 then w.cell? ⟨B, o, none⟩ else S.φ B o }
theorem WRel.froz (h : WRel S H w) {id : Nat} {e : TypeId} {sz : Nat} {rows : List (List AV)} (hb : H[id]? = some (.arr e sz rows)) {B c : Nat} (hρ : S.ρ id = some (B, c)) : WRel (S.froz w B) (H.set id (.dead (.row rows.length sz))) w ∧ Ext S (shape H) (S.froz w B) (shape (H.set id (.dead (.row rows.length sz)))) := by
 obtain ⟨hB, hO⟩ := h.place_lt hb rfl hρ
 have hsh : shape (H.set id (.dead (.row rows.length sz))) = shape H := by
  funext j
  rw [shape_set (get_lt hb)]
  split
  ·rename_i hj; rw [hj, shape_get hb]; rfl
  ·rfl
 have hext : Ext S (shape H) (S.froz w B) (shape (H.set id (.dead (.row rows.length sz)))) := by
  rw [hsh]
  refine ⟨rfl, rfl, fun B' o v hv => ?_, fun B' o v hv => ?_, fun _ _ h => ⟨h, rfl⟩, fun _ h => ⟨h, rfl⟩, fun _ m _ h => ⟨m, h, Nat.le_refl _, fun _ => rfl⟩⟩
  ·simp only [RS.froz]
   split
   ·rename_i hj; subst hj; rw [hO.2 o] at hv; cases hv
   ·exact hv
  ·simp only [RS.froz] at hv
   split at hv
   ·rename_i hj; subst hj; exact .inr hO.1
   ·exact .inl hv
 refine ⟨⟨h.os, h.tape, h.output, h.size, h.prot, fun B' o v hv => ?_, fun k o p hp => ?_, fun j b hj => ?_, fun i j b b' B1 c1 c2 hi hj li lj hBi hBj => ?_⟩, hext⟩
 ·simp only [RS.froz] at hv
  split at hv
  ·exact hv
  ·exact h.fro B' o v hv
 ·obtain ⟨v, h1, h2⟩ := h.gl k o p hp
  exact ⟨v, hext.fro k o v h1, h2⟩
 ·rcases get_set hj with ⟨h1, h2⟩ | ⟨h1, rfl⟩
  ·refine (h.blk j b h2).keep hext (fun _ => rfl) (fun B1 c1 hl hB1 hlt ho => ⟨rfl, ho.1, fun o => ?_⟩)
   simp only [RS.froz]
   rw [if_neg (fun hj' => ?_)]
   ·exact ho.2 o
   ·subst hj'
    exact h1 (h.inj j id b _ B1 c1 c h2 hb hl rfl hB1 hρ)
  ·trivial
 ·rcases get_set hi with ⟨h1, h2⟩ | ⟨_, rfl⟩
  ·rcases get_set hj with ⟨h3, h4⟩ | ⟨_, rfl⟩
   ·exact h.inj i j b b' B1 c1 c2 h2 h4 li lj hBi hBj
   ·cases lj
  ·cases li
theorem op_slp {t e : TypeId} {n : Nat} {x : Operand} (ho : o.op = .slice t x none none none) (hf : rels S fr (shape H) a.tmps.toList) (h : WRel S H w) {ax : AX} (hx : rx x = some ax) (hu : P.underlying t = some (.array n e)) {sz : Nat} (hsz : szOf P e = some sz)
  (hs : sat arS P H (exec1 arS σr fr H (.slp t sz n ax)) K) : opRes P o a w (Done S H K) := by
 have gx := rx_rel hf hx
 simp only [exec1] at hs
 generalize ev fr ax = vx at *
 have hex : execOp a.eval o = (do pure (.value (← Instr.sliceAt t (a.eval x) none none none))) := by simp only [execOp, ho, Option.map_none]
 cases vx <;> first | exact False.elim hs | skip
 rename_i id t' r off
 cases off with
 | succ off => exact False.elim hs
 | zero =>
  simp only [getL_eq] at hs
  cases hb : H[id]? with
  | none => rw [hb] at hs; exact False.elim hs
  | some b =>
   rw [hb] at hs
   cases b <;> first | exact False.elim hs | skip
   rename_i e' sz' rows
   simp only at hs
   split at hs
   ·rename_i hz
    obtain ⟨rfl, rfl⟩ := hz
    obtain ⟨⟨q2, q3, q5, q4⟩, hs⟩ := hs
    have q2 : t' = rows.length := q2
    have q3 : r = 0 := q3
    have q4 : pursS rows = true := q4
    have q5 : rows.length = n := q5
    subst q3
    simp only [rel] at gx
    obtain ⟨m, s1, B, o', g1, g2, g3, g4⟩ := gx
    have hsh := shape_get hb
    rw [hsh] at g1
    simp only [ABlk.shp, Option.some.injEq, Shp.row.injEq] at g1
    obtain ⟨rfl, rfl⟩ := g1
    obtain ⟨c, k1, k2⟩ := g4 q2
    rw [Nat.zero_mul, Nat.zero_add] at k2
    subst k2
    obtain ⟨w1, w2⟩ := h.froz hb k1
    obtain ⟨_, hblk⟩ := h.blk id _ hb
    rw [k1] at hblk
    obtain ⟨arr, m1, m2, m3, m4, m5⟩ := hblk
    have hrun : (Instr.sliceAt e' (a.eval x) none none none).run P w = .ok (.slice (some ⟨B, 0, none⟩) n n) w := by
     have := run_sliceBounds (P := P) (a := a) (b := false) (len := n) (cap := n) (lo := none) (hi := none) (l := 0) (h := n) (nl := none) (nh := none) trivial trivial (.inl ⟨rfl, rfl⟩) (.inl ⟨rfl, rfl⟩) (Nat.zero_le _) (Nat.le_refl _) w
     simp only [Option.map_none] at this
     rw [g3]
     simp [Instr.sliceAt, Instr.sureAddr, run_underlying hu, this, run_szOf hsz, Addr.add_lit]
    unfold opRes
    rw [hex]
    simp only [Sem.run_bind, hrun, Result.andThen_ok, Sem.run_pure]
    refine ⟨_, _, _, w2, w1, ?_, by rw [setL_eq] at hs; exact hs⟩
    simp only [rel]
    refine ⟨some ⟨B, 0, none⟩, n, by rw [q5], by omega, .inr ⟨B, 0, rfl, fzs_of_get fun i r hi => ?_⟩⟩
    obtain ⟨r1, r2⟩ := m4 i r hi
    refine ⟨r1, fz_of_get fun j cc hj => ?_⟩
    obtain ⟨u, u1, u2, u3⟩ := r2 j cc hj
    refine ⟨u, ?_, ?_, u3⟩
    ·simp only [RS.froz, if_true]
     rw [Nat.zero_add]
     simp only [World.cell?, m1]
     exact u1
    ·exact rel_ext cc noSh noSh u w2.noSh (pur_rel cc u (purs_get (pursS_get q4 hi) hj) u2)
   ·exact False.elim hs
end
end Go.Ab

namespace Go.Ab
open Go
set_option linter.unusedVariables false
set_option linter.unusedSimpArgs false
variable {σr : RowF}
section
variable {P : Program} {S : RS} {fr : List AV} {H : List ABlk} {K : AV → List ABlk → Prop} {a : Act} {w : World} {o : Oper}
theorem op_mkm {t : TypeId} (ho : o.op = .makeMap t none) (h : WRel S H w) (hK : K (.map (lenL H)) (appL H [.mpb []])) : opRes P o a w (Done S H K) := by
 unfold opRes execOp
 simp only [ho, Option.map_none, Instr.makeMap, Sem.run_bind, run_newObj, World.alloc_eq, Result.andThen_ok, Sem.run_pure]
 rw [lenL_eq, appL_eq] at hK
 refine ⟨_, _, _, Ext.put_new S H _ (some (w.heap.size, 0)), h.new (Chg.alloc w _ _) _ 0 ?_, ?_, hK⟩
 ·exact ⟨w.heap.size, 0, #[], 0, by simp [RS.put], heap_alloc_new w _, rfl, h.fresh _ _⟩
 ·simp only [rel]
  exact ⟨_, _, shape_last _ _, put_same _ _ _, rfl⟩
theorem findNow_mget {S : RS} {k k0 : IntKind} {n : Int} {z v : AV} : ∀ {rows : List (List AV)} {es : List MapEntry} (i : Nat), entR S rows es → mgetS k n z rows = some v →
  ∃ r, Instr.findNow (.int k0) (.int k n) es i = some r ∧ ((r = none ∧ v = z) ∨ ∃ j u, r = some (j, u) ∧ rel S v noSh u)
 | [], es, i, h, hg => by
  simp only [entR] at h
  subst h
  simp only [mgetS, Option.some.injEq] at hg
  exact ⟨none, rfl, .inl ⟨rfl, hg.symm⟩⟩
 | r :: rows, es, i, h, hg => by
  obtain ⟨e, es', rfl, ⟨k', v', rfl, h1, h2⟩, h3⟩ := h
  cases k' with
  | int k2 m =>
   simp only [mgetS] at hg
   simp only [rel] at h1
   split at hg
   ·rename_i hk
    subst hk
    split at hg
    ·rename_i hm
     subst hm
     simp only [Option.some.injEq] at hg
     subst hg
     refine ⟨some (i, e.val), ?_, .inr ⟨_, _, rfl, h2⟩⟩
     simp [Instr.findNow, h1, Instr.sameNow]
    ·rename_i hm
     obtain ⟨r, g1, g2⟩ := findNow_mget (k0 := k0) (i + 1) h3 hg
     refine ⟨r, ?_, g2⟩
     have : (n == m) = false := by simpa using hm
     simp [Instr.findNow, h1, Instr.sameNow, this, g1]
   ·cases hg
  | _ => simp [mgetS] at hg
theorem run_checkKeyInt {kt : TypeId} {k0 k : IntKind} {n : Int} (hd : P.underlying kt = some (.int k0)) (b : Bool) (w : World) : (Instr.checkKey b 10000 kt (.int k n)).run P w = .ok () w := by
 unfold Instr.checkKey
 simp only [Sem.run_bind, run_underlying hd, Result.andThen]
 rfl
theorem op_mget {t : TypeId} {x i : Operand} (ho : o.op = .lookup t x i false) (hf : rels S fr (shape H) a.tmps.toList) (h : WRel S H w) {ax ai : AX} (hx : rx x = some ax) (hi : rx i = some ai) {kt et : TypeId} {k0 : IntKind} (ht : P.underlying t = some (.map kt et)) (hk : P.underlying kt = some (.int k0))
  {ti : TypeInfo} {zv : Value} (hz1 : P.info? et = some ti) (hz2 : ti.zero = some zv) {z : AV} (hzr : ∀ T, rel S z T zv) (hs : sat arS P H (exec1 arS σr fr H (.mget z ax ai)) K) : opRes P o a w (Done S H K) := by
 have gx := rx_rel hf hx
 have gi := rx_rel hf hi
 simp only [exec1] at hs
 have hex : execOp a.eval o = (do pure (.value (← Instr.lookup t (a.eval x) (a.eval i) false))) := by simp only [execOp, ho]
 split at hs
 ·rename_i k n e1 e2
  rw [e1] at gx
  rw [e2] at gi
  simp only [rel] at gx gi
  unfold opRes
  rw [hex, gx, gi]
  simp only [Instr.lookup, Sem.run_bind, run_underlying ht, Result.andThen, Sem.run_pure, run_checkKeyInt hk, List.toList_toArray, Instr.findKey, run_underlying hk, Instr.findNow, run_zero hz1 hz2]
  simp only [Bool.false_eq_true, if_false]
  exact Done.here h (sym_rel (hzr _)) hs
 ·rename_i id k n e1 e2
  rw [e1] at gx
  rw [e2] at gi
  simp only [rel] at gx gi
  obtain ⟨B, c, g1, g2, gx⟩ := gx
  rw [getL_eq] at hs
  split at hs
  ·rename_i rows hb
   obtain ⟨B', c', es, clock, q1, q2, q3, q4⟩ := h.blk id _ hb
   rw [g2] at q1
   simp only [Option.some.injEq, Prod.mk.injEq] at q1
   obtain ⟨rfl, rfl⟩ := q1
   have main : ∀ v u, mgetS k n z rows = some v → (∀ y, rel S v noSh y → rel S u (shape H) y) → K u H → opRes P o a w (Done S H K) := by
    intro v u hg hu hKu
    obtain ⟨r, p1, p2⟩ := findNow_mget (k0 := k0) 0 q3 hg
    unfold opRes
    rw [hex, gx, gi]
    simp only [Instr.lookup, Sem.run_bind, run_underlying ht, Result.andThen, Sem.run_pure, Go.MapKept.run_getObj_map q2, run_checkKeyInt hk, Go.MapKept.run_findKey hk p1]
    rcases p2 with ⟨rfl, rfl⟩ | ⟨j, y, rfl, hy⟩
    ·simp only [Sem.run_bind, run_zero hz1 hz2, Result.andThen, Sem.run_pure, Bool.false_eq_true, if_false]
     exact Done.here h (hu _ (hzr _)) hKu
    ·simp only [Sem.run_bind, Result.andThen, Sem.run_pure, Bool.false_eq_true, if_false]
     exact Done.here h (hu _ hy) hKu
   split at hs
   ·exact main _ _ hs.1 (fun y hy => by simpa only [rel] using hy) hs.2
   ·exact main _ _ hs.1 (fun y hy => by simpa only [rel] using hy) hs.2
   ·exact False.elim hs
  ·exact False.elim hs
 ·exact False.elim hs
theorem Chg.setObj (w : World) (g : Nat) (o : Obj) : Chg w { w with heap := w.heap.setIfInBounds g o } (· = g) :=
 ⟨rfl, rfl, rfl, by simp, fun k _ hk => by
  show (w.heap.setIfInBounds g o)[k]? = _
  rw [Array.getElem?_setIfInBounds]
  rw [if_neg (fun e => hk e.symm)]⟩
theorem WRel.map_upd {H : List ABlk} {w w' : World} (h : WRel S H w) {id : Nat} {rows rows' : List (List AV)} (hb : H[id]? = some (.mpb rows)) {B c : Nat} (hρ : S.ρ id = some (B, c))
  (hc : Chg w w' (· = B)) {es' : Array MapEntry} {clock' : Nat} (hw : w'.heap[B]? = some (.map es' clock')) (hr : entR S rows' es'.toList) : WRel S (H.set id (.mpb rows')) w' := by
 have hext : Ext S (shape H) S (shape (H.set id (.mpb rows'))) := Ext.upd hb rfl
 have := h.repl (b' := .mpb rows') hb rfl (S.ρ id) (hc.mono fun k hk => ⟨c, by rw [hk]; exact hρ⟩) (by rw [RS.put_self]; exact hext) (fun B' c' hp => .inr ⟨c', hp⟩) (by
  rw [RS.put_self]
  exact ⟨B, c, es', clock', hρ, hw, hr, (h.place_lt hb rfl hρ).2⟩)
 rwa [RS.put_self] at this
theorem findNow_mset {S : RS} {k k0 : IntKind} {n : Int} {v : AV} {u : Value} (hv : rel S v noSh u) : ∀ {rows rows' : List (List AV)} {es : List MapEntry} (i : Nat), entR S rows es → msetS k n v rows = some rows' →
  ∃ r, Instr.findNow (.int k0) (.int k n) es i = some r ∧ ((r = none ∧ ∀ b, entR S rows' (es ++ [⟨.int k n, u, b⟩])) ∨ ∃ j y e, r = some (i + j, y) ∧ es[j]? = some e ∧ e.key = .int k n ∧ entR S rows' (es.modify j fun e => { e with key := .int k n, val := u }))
 | [], rows', es, i, h, hg => by
  simp only [entR] at h
  subst h
  simp only [msetS, Option.some.injEq] at hg
  subst hg
  exact ⟨none, rfl, .inl ⟨rfl, fun b => ⟨_, [], rfl, ⟨_, _, rfl, by simp [rel], hv⟩, rfl⟩⟩⟩
 | r :: rows, rows', es, i, h, hg => by
  obtain ⟨e, es', rfl, ⟨k', v', rfl, h1, h2⟩, h3⟩ := h
  cases k' with
  | int k2 m =>
   simp only [msetS] at hg
   simp only [rel] at h1
   split at hg
   ·rename_i hk
    subst hk
    split at hg
    ·rename_i hm
     subst hm
     simp only [Option.some.injEq] at hg
     subst hg
     refine ⟨some (i, e.val), by simp [Instr.findNow, h1, Instr.sameNow], .inr ⟨0, _, e, rfl, rfl, h1, ?_⟩⟩
     exact ⟨_, es', rfl, ⟨_, _, rfl, by simp [rel], hv⟩, h3⟩
    ·rename_i hm
     obtain ⟨rs', hrs, rfl⟩ := Option.map_eq_some_iff.1 hg
     obtain ⟨r, g1, g2⟩ := findNow_mset (k0 := k0) hv (i + 1) h3 hrs
     have hne : (n == m) = false := by simpa using hm
     refine ⟨r, by simp [Instr.findNow, h1, Instr.sameNow, hne, g1], ?_⟩
     rcases g2 with ⟨rfl, g2⟩ | ⟨j, y, e', rfl, g2, g3, g4⟩
     ·exact .inl ⟨rfl, fun b => ⟨e, _, rfl, ⟨_, _, rfl, by simpa only [rel] using h1, h2⟩, g2 b⟩⟩
     ·refine .inr ⟨j + 1, y, e', by rw [show i + 1 + j = i + (j + 1) by omega], by simpa using g2, g3, ?_⟩
      exact ⟨e, _, rfl, ⟨_, _, rfl, by simpa only [rel] using h1, h2⟩, g4⟩
   ·cases hg
  | _ => simp [msetS] at hg
theorem op_mset {t : TypeId} {x i v : Operand} (ho : o.op = .mapUpdate t x i v) (hf : rels S fr (shape H) a.tmps.toList) (h : WRel S H w) {ax ai av : AX} (hx : rx x = some ax) (hi : rx i = some ai) (hv : rx v = some av) {kt et : TypeId} {k0 : IntKind} (ht : P.underlying t = some (.map kt et)) (hk : P.underlying kt = some (.int k0))
  (hs : sat arS P H (exec1 arS σr fr H (.mset ax ai av)) K) : opRes P o a w (Done S H K) := by
 have gx := rx_rel hf hx
 have gi := rx_rel hf hi
 have gv := rx_rel hf hv
 simp only [exec1] at hs
 have hex : execOp a.eval o = (do (Instr.mapUpdate t (a.eval x) (a.eval i) (a.eval v)); pure .skip) := by simp only [execOp, ho]
 split at hs
 ·rename_i id k n e1 e2
  rw [e1] at gx
  rw [e2] at gi
  simp only [rel] at gx gi
  obtain ⟨B, c, g1, g2, gx⟩ := gx
  rw [getL_eq] at hs
  split at hs
  ·rename_i rows hb
   split at hs
   ·rename_i hp
    obtain ⟨hset, hs⟩ := hs
    have hset : msetS k n (uns (ev fr av)) rows = some (mSS rows k n (uns (ev fr av))) := hset
    obtain ⟨B', c', es, clock, q1, q2, q3, q4⟩ := h.blk id _ hb
    rw [g2] at q1
    simp only [Option.some.injEq, Prod.mk.injEq] at q1
    obtain ⟨rfl, rfl⟩ := q1
    have hvr := pur_rel _ _ hp (uns_rel gv)
    obtain ⟨r, p1, p2⟩ := findNow_mset (k0 := k0) hvr 0 q3 hset
    rw [setL_eq] at hs
    have done : ∀ es' clock', entR S (mSS rows k n (uns (ev fr av))) es'.toList → (execOp a.eval o).run P w = .ok .skip { w with heap := w.heap.setIfInBounds B (.map es' clock') } → opRes P o a w (Done S H K) := fun es' clock' he hr =>
     done_skip (H' := H.set id (.mpb (mSS rows k n (uns (ev fr av))))) hr (Ext.upd hb rfl) (h.map_upd hb g2 (Chg.setObj w B _) (MapKept.heap_set q2).1 he) hs
    have hpre : ∀ X : Result Unit, ((do
      match ← Instr.findKey kt (.int k n) es.toList with
      | some (i, _) => do
       let key ← Instr.keyThatStays (((es[i]?).map (·.key)).getD (.int k n)) (.int k n)
       setObj B (.map (es.modify i fun e => { e with key, val := a.eval v }) clock)
      | none => setObj B (.map (es.push { key := .int k n, val := a.eval v, born := clock }) (clock + 1)) : Sem Unit).run P w = X) → (Instr.mapUpdate t (a.eval x) (a.eval i) (a.eval v)).run P w = X := by
     intro X hX
     rw [gx, gi]
     simp only [Instr.mapUpdate, Sem.run_bind, run_underlying ht, Result.andThen, Go.MapKept.run_getObj_map q2, run_checkKeyInt hk]
     simp only [Sem.run_bind, Result.andThen] at hX
     exact hX
    rcases p2 with ⟨rfl, p2⟩ | ⟨j, y, e, rfl, p2, p3, p4⟩
    ·refine done (es.push ⟨.int k n, a.eval v, clock⟩) (clock + 1) (by simpa using p2 clock) ?_
     rw [hex]
     have := hpre (.ok () { w with heap := w.heap.setIfInBounds B (.map (es.push ⟨.int k n, a.eval v, clock⟩) (clock + 1)) }) (by
      simp only [Sem.run_bind, Go.MapKept.run_findKey hk p1, Result.andThen, Go.MapKept.run_setObj_map _ q2])
     simp only [Sem.run_bind, this, Result.andThen, Sem.run_pure]
    ·rw [Nat.zero_add] at p1
     have hk1 : ((es[j]?).map (·.key)).getD (.int k n) = .int k n := by
      rw [← Array.getElem?_toList, p2]; exact p3
     refine done (es.modify j fun e => { e with key := .int k n, val := a.eval v }) clock (by simpa using p4) ?_
     rw [hex]
     have := hpre (.ok () { w with heap := w.heap.setIfInBounds B (.map (es.modify j fun e => { e with key := .int k n, val := a.eval v }) clock) }) (by
      simp only [Sem.run_bind, Go.MapKept.run_findKey hk p1, Result.andThen, hk1, Instr.keyThatStays, Instr.sameBits]
      simp only [BEq.rfl, Bool.and_self, if_true, Sem.run_bind, Sem.run_pure, Result.andThen, Go.MapKept.run_setObj_map _ q2])
     simp only [Sem.run_bind, this, Result.andThen, Sem.run_pure]
   ·exact False.elim hs
  ·exact False.elim hs
 ·exact False.elim hs
theorem op_clr {t e : TypeId} {x : Operand} (ho : o.op = .call { callee := .builtin .clear, args := #[x], argTypes := #[t] }) (hf : rels S fr (shape H) a.tmps.toList) (h : WRel S H w) {ax : AX} (hx : rx x = some ax) (hu : P.underlying t = some (.slice e)) {i : TypeInfo} (hi : P.info? e = some i) {z : List AV} (hz : zeroOf P e = some z) (hl : i.size = z.length) (h1 : allOne z = true) (h0 : 0 < i.size)
  (hs : sat arS P H (exec1 arS σr fr H (.clr i.size z ax)) K) : opRes P o a w (Done S H K) := by
 have gx := rx_rel hf hx
 have fin : ∀ (w' : World), (Builtin.clear_ #[t] o.type #[a.eval x]).run P w = .ok (.tuple #[]) w' → ∀ S' H', Ext S (shape H) S' (shape H') → WRel S' H' w' → K (.tup []) H' → opRes P o a w (Done S H K) := by
  intro w' hr S' H' he hw hK
  unfold opRes execOp
  simp only [ho, Go.resolve, Go.invoke, Go.builtin, Sem.run_bind, Sem.run_pure, Result.andThen_ok, List.map_toArray, List.map_cons, List.map_nil, hr]
  exact ⟨S', .tup [], H', he, hw, by simp [rel, rels], hK⟩
 obtain ⟨i2, zv, hi2, hzv, hzc⟩ := zeroOf_spec hz
 rw [hi] at hi2
 simp only [Option.some.injEq] at hi2
 subst hi2
 have hzr := cvs_rel (S := S) (T := shape H) _ _ hzc
 have hzl := rels_length hzr
 have hzone := rels_one hzr h1
 simp only [exec1] at hs
 split at hs
 ·rename_i e1
  rw [e1] at gx
  simp only [rel] at gx
  obtain ⟨aa, gx⟩ := gx
  refine fin w ?_ S H (Ext.refl _ _) h hs
  rw [gx]
  cases aa <;> simp [Builtin.clear_, run_underlying hu, Result.andThen]
 ·rename_i id t' off n e1
  rw [e1] at gx
  rw [getL_eq] at hs
  split at hs
  ·rename_i e' sz' rows hb
   split at hs
   ·rename_i hsz
    subst hsz
    obtain ⟨⟨ht, hon⟩, hs⟩ := hs
    have ht : t' = rows.length := ht
    have hon : off + n ≤ rows.length := hon
    obtain ⟨v1, v2⟩ := sl_valid gx hb ht
    obtain ⟨_, hblk⟩ := h.blk id _ hb
    rw [setL_eq] at hs
    have hs : K (.tup []) (H.set id (.arr e' i.size (rappS rows off (List.replicate n z)))) := hs
    rcases Nat.eq_zero_or_pos n with hn | hn
    ·subst hn
     have hsame : rappS rows off (List.replicate 0 z) = rows := by simp [rappS]
     rw [hsame] at hs
     have hH : H.set id (.arr e' i.size rows) = H := by
      apply List.ext_getElem?
      intro j
      rw [List.getElem?_set]
      split
      ·rename_i hj
       subst hj
       rw [if_pos (get_lt hb), hb]
      ·rfl
     rw [hH] at hs
     obtain ⟨aa, c, hxu⟩ := sl_len gx hb ht
     refine fin w ?_ S H (Ext.refl _ _) h hs
     rw [hxu]
     cases aa <;> simp [Builtin.clear_, run_underlying hu, Result.andThen]
    ·cases hr : S.ρ id with
     | none => rw [hr] at v2; omega
     | some p =>
      obtain ⟨B, c⟩ := p
      rw [hr] at v2 hblk
      obtain ⟨aa, q1, q2⟩ := v2
      obtain ⟨arr, m1, m2, m3, m4, m5⟩ := hblk
      obtain rfl := q2 (by omega)
      have hzs : zv.cells.size = i.size := by
       have : zv.cells.toList.length = z.length := hzl
       simp only [Array.length_toList] at this
       omega
      have hvl : (Builtin.zeroCells zv.cells n).size = n * i.size := by rw [size_zeroCells, hzs]
      have hle : (off + n) * i.size ≤ c * i.size := Nat.mul_le_mul_right _ (by omega)
      rw [Nat.add_mul] at hle
      have hvone : ∀ u ∈ (Builtin.zeroCells zv.cells n).toList, u.oneCell' = true := by
       intro u hu2
       obtain ⟨k, hk⟩ := List.getElem?_of_mem hu2
       rw [Array.getElem?_toList] at hk
       simp only [Builtin.zeroCells, Array.getElem?_map, Array.getElem?_range] at hk
       split at hk
       ·rename_i hlt
        simp only [Option.map_some, Option.some.injEq] at hk
        subst hk
        have hm : k % zv.cells.size < zv.cells.size := Nat.mod_lt _ (by omega)
        rw [getElem!_pos zv.cells _ hm]
        exact hzone _ (by simp)
       ·simp at hk
      have hrun := run_storeCells_at (P := P) B (off * i.size) e' (Builtin.zeroCells zv.cells n).toList 0 arr w m1 (by simp only [Nat.add_zero, Array.length_toList]; omega) hvone
      simp only [Nat.add_zero, Array.length_toList, hvl] at hrun
      have harr : ∀ k : Nat, ((arr.toList.take (off * i.size) ++ (Builtin.zeroCells zv.cells n).toList ++ arr.toList.drop (off * i.size + n * i.size)).toArray)[k]? = if k < off * i.size then arr[k]? else if k < off * i.size + n * i.size then (Builtin.zeroCells zv.cells n)[k - off * i.size]? else arr[k]? := by
       intro k
       rw [List.getElem?_toArray]
       by_cases hk : k < off * i.size
       ·rw [if_pos hk, List.append_assoc, List.getElem?_append_left (by simp; omega), List.getElem?_take, if_pos hk]; simp
       ·rw [if_neg hk]
        by_cases hk2 : k < off * i.size + n * i.size
        ·rw [if_pos hk2, List.getElem?_append_left (by simp [hvl]; omega), List.getElem?_append_right (by simp; omega)]
         simp only [List.length_take, Array.length_toList]
         rw [show min (off * i.size) arr.size = off * i.size by omega]; simp
        ·rw [if_neg hk2, List.getElem?_append_right (by simp [hvl]; omega), List.getElem?_drop]
         simp only [List.length_append, List.length_take, Array.length_toList, hvl]
         rw [Array.getElem?_toList]
         congr 1
         omega
      have hsrc : Src S (shape H) (w.alloc (.cells (Builtin.zeroCells zv.cells n) e')) (.slice (some ⟨w.heap.size, 0, none⟩) (List.replicate n z).length n) (List.replicate n z) i.size (Builtin.zeroCells zv.cells n).toList := by
       refine ⟨⟨_, _, rfl, fun _ => ⟨_, rfl, fun j v hj => ?_⟩⟩, by simp [hvl], fun k r hk => ?_, hvone⟩
       ·rw [Array.getElem?_toList] at hj
        have ea : (⟨w.heap.size, 0, none⟩ : Addr).add j = ⟨w.heap.size, j, none⟩ := by unfold Addr.add; split <;> simp_all
        rw [ea]
        simp only [World.cell?, heap_alloc_new]
        simpa using hj
       ·have hrow := replicate_row (S := S) (T := shape H) (l := n) (c := n) hzr hzone hzs h0 (Nat.le_refl _) k r hk
        refine ⟨hrow.1, fun j c' hj => ?_⟩
        obtain ⟨u, g1, g2, _⟩ := hrow.2 j c' hj
        refine ⟨u, ?_, g2⟩
        rw [Array.getElem?_toList]
        simp only [Builtin.zeroCells, hzs] at g1 ⊢
        exact g1
      have hrow := rapp_row (n := off) (arr' := (arr.toList.take (off * i.size) ++ (Builtin.zeroCells zv.cells n).toList ++ arr.toList.drop (off * i.size + n * i.size)).toArray) h0 m4 hsrc (by omega) (fun k hk => by rw [harr, if_pos hk])
       (fun k hk => by
        simp only [List.length_replicate] at hk
        rw [harr, if_neg (by omega), if_pos (by omega), show off * i.size + k - off * i.size = k by omega, Array.getElem?_toList])
       (fun k hk _ => by
        simp only [List.length_replicate] at hk
        rw [harr, if_neg (by omega), if_neg (by omega)])
      have hrl := rapp_len rows off (List.replicate n z) (by omega)
      rw [List.length_replicate] at hrl
      obtain ⟨w1, w2⟩ := h.arr_upd hb hr (Chg.setRow w B _) (setRow_heap w B arr (arr.toList.take (off * i.size) ++ (Builtin.zeroCells zv.cells n).toList ++ arr.toList.drop (off * i.size + n * i.size)).toArray e' (0, 0) m1) (rows' := rappS rows off (List.replicate n z)) (by
       simp only [List.size_toArray, List.length_append, List.length_take, List.length_drop, Array.length_toList, hvl]
       omega) (by omega) (by omega) hrow
      refine fin _ ?_ S _ w2 w1 hs
      rw [q1]
      cases n with
      | zero => omega
      | succ n =>
       simp only [Builtin.clear_, Sem.run_bind, run_underlying hu, Result.andThen, run_zero hi hzv, hrun, Sem.run_pure, List.getElem?_toArray, List.getElem?_cons_zero]
   ·exact False.elim hs
  ·exact False.elim hs
 ·exact False.elim hs
end
end Go.Ab

namespace Go.Ab
open Go
set_option linter.unusedVariables false
set_option linter.unusedSimpArgs false
variable {σr : RowF}
theorem rxs_one {l : List Operand} {x : AX} (h : rxs l = some [x]) : ∃ p, l = [p] ∧ rx p = some x := by
 have A := All2.of_mapM h
 cases A with
 | cons h1 A => cases A with
  | nil => exact ⟨_, rfl, h1⟩
theorem rxs_two {l : List Operand} {x y : AX} (h : rxs l = some [x, y]) : ∃ p q, l = [p, q] ∧ rx p = some x ∧ rx q = some y := by
 have A := All2.of_mapM h
 cases A with
 | cons h1 A => cases A with
  | cons h2 A => cases A with
   | nil => exact ⟨_, _, rfl, h1, h2⟩
theorem rxs_four {l : List Operand} {x y z u : AX} (h : rxs l = some [x, y, z, u]) : ∃ p q r s, l = [p, q, r, s] ∧ rx p = some x ∧ rx q = some y ∧ rx r = some z ∧ rx s = some u := by
 have A := All2.of_mapM h
 cases A with
 | cons h1 A => cases A with
  | cons h2 A => cases A with
   | cons h3 A => cases A with
    | cons h4 A => cases A with
     | nil => exact ⟨_, _, _, _, rfl, h1, h2, h3, h4⟩
theorem rxs_three {l : List Operand} {x y z : AX} (h : rxs l = some [x, y, z]) : ∃ p q r, l = [p, q, r] ∧ rx p = some x ∧ rx q = some y ∧ rx r = some z := by
 have A := All2.of_mapM h
 cases A with
 | cons h1 A => cases A with
  | cons h2 A => cases A with
   | cons h3 A => cases A with
    | nil => exact ⟨_, _, _, rfl, h1, h2, h3⟩
section
variable {P : Program} {S : RS} {H : List ABlk} {fr : List AV} {K : AV → List ABlk → Prop} {o : Oper} {a : Act} {w : World}
theorem bi_sound {b : Builtin} {args : List Operand} {ts : List TypeId} (ho : o.op = .call { callee := .builtin b, args := ⟨args⟩, argTypes := ⟨ts⟩ }) (hf : rels S fr (shape H) a.tmps.toList) (h : WRel S H w) {axs : List AX} (hx : rxs args = some axs) {ao : AO} (hr : resolveBi P b ts axs = some ao) (hs : sat arS P H (exec1 arS σr fr H ao) K) : opRes P o a w (Done S H K) := by
 unfold resolveBi at hr
 split at hr
 ·rename_i x
  obtain ⟨p, rfl, hx'⟩ := rxs_one hx
  cases ts with
  | nil => cases hr
  | cons t ts =>
   simp only [List.getElem?_cons_zero, Option.bind_some] at hr
   cases hu : P.underlying t with
   | none => rw [hu] at hr; cases hr
   | some d =>
    rw [hu] at hr
    cases d <;> try (cases hr; done)
    case string =>
     injection hr with hr
     subst hr
     exact op_len (str := true) ho hf h hx' (t := t) (by simp) (by simpa using hu) hs
    case slice e =>
     injection hr with hr
     subst hr
     exact op_len (str := false) ho hf h hx' (t := t) (by simp) (by simp only [Bool.false_eq_true, if_false]; exact ⟨_, hu⟩) hs
 ·rename_i x y
  obtain ⟨p, q, rfl, hx', hy'⟩ := rxs_two hx
  split at hr
  ·rename_i t t'
   unfold resolveApp at hr
   split at hr
   ·rename_i ht
    subst ht
    cases hu : P.underlying t with
    | none => rw [hu] at hr; cases hr
    | some d =>
     rw [hu] at hr
     cases d <;> try (cases hr; done)
     rename_i e
     simp only at hr
     cases hi : P.info? e with
     | none => rw [hi] at hr; cases hr
     | some i =>
      cases hz : zeroOf P e with
      | none => rw [hi, hz] at hr; cases hr
      | some z =>
       rw [hi, hz] at hr
       simp only at hr
       split at hr
       ·rename_i hc
        injection hr with hr
        subst hr
        exact op_app ho hf h hx' hy' hu hi hz hc.1 hc.2 hs
       ·cases hr
   ·rename_i hne
    split at hr
    ·rename_i e hu hu2
     cases hi : P.info? e with
     | none => rw [hi] at hr; cases hr
     | some i =>
      rw [hi] at hr
      simp only at hr
      split at hr
      ·rename_i hz hs1
       injection hr with hr
       subst hr
       exact op_apps ho hf h hx' hy' hu hu2 hi hz hs1 hs
      ·cases hr
    ·cases hr
  ·cases hr
 ·rename_i x
  obtain ⟨p, rfl, hx'⟩ := rxs_one hx
  split at hr
  ·rename_i t
   cases hu : P.underlying t with
   | none => rw [hu] at hr; cases hr
   | some d =>
    rw [hu] at hr
    cases d <;> try (cases hr; done)
    rename_i e
    simp only at hr
    cases hi : P.info? e with
    | none => rw [hi] at hr; cases hr
    | some i =>
     cases hz : zeroOf P e with
     | none => rw [hi, hz] at hr; cases hr
     | some z =>
      rw [hi, hz] at hr
      simp only at hr
      split at hr
      ·rename_i hc
       injection hr with hr
       subst hr
       exact op_clr ho hf h hx' hu hi hz hc.1 hc.2.2 hc.2.1 hs
      ·cases hr
  ·cases hr
 ·rename_i x y
  obtain ⟨p, q, rfl, hx', hy'⟩ := rxs_two hx
  injection hr with hr
  subst hr
  exact op_mnmx (mx := true) ho hf h hx' hy' hs
 ·rename_i x y
  obtain ⟨p, q, rfl, hx', hy'⟩ := rxs_two hx
  injection hr with hr
  subst hr
  exact op_mnmx (mx := false) ho hf h hx' hy' hs
 ·rename_i x y z u
  obtain ⟨p, q, r, s, rfl, hx', hy', hz', hu'⟩ := rxs_four hx
  injection hr with hr
  subst hr
  exact op_mx4 ho hf h hx' hy' hz' hu' hs
 ·cases hr
theorem call_sound {c : Call} (ho : o.op = .call c) (hf : rels S fr (shape H) a.tmps.toList) (h : WRel S H w) {ao : AO} (hr : resolveCall P c = some ao) (hs : sat arS P H (exec1 arS σr fr H ao) K) : opRes P o a w (Done S H K) := by
 obtain ⟨callee, args, ts⟩ := c
 simp only [resolveCall, Option.bind_eq_some_iff] at hr
 obtain ⟨axs, hx, hr⟩ := hr
 cases callee with
 | value f =>
  cases f with
  | func f =>
   simp only [resolveFn] at hr
   cases hfn : P.funcs[f]? with
   | none => rw [hfn] at hr; cases hr
   | some fn =>
    rw [hfn] at hr
    simp only at hr
    split at hr
    ·cases hr
    ·rename_i hname
     split at hr
     ·rename_i hb
      split at hr
      ·rename_i hadd
       simp only [Bool.and_eq_true, beq_iff_eq] at hadd
       split at hr
       ·rename_i x y z
        injection hr with hr
        subst hr
        obtain ⟨args⟩ := args
        obtain ⟨p, q, r, e, k1, k2, k3⟩ := rxs_three hx
        simp only at e
        subst e
        exact op_addc ho hfn hadd.1 hadd.2 hb hf h k1 k2 k3 hs
       ·cases hr
      ·cases hr
     ·rename_i hb
      injection hr with hr
      subst hr
      exact op_call ho hfn (by simpa using hname) (Bool.eq_false_iff.2 hb) hf h hx hs
  | tmp n =>
   injection hr with hr
   subst hr
   exact op_callv ho hf h hx hs
  | const _ => cases hr
  | global _ => cases hr
 | invoke r m =>
  obtain ⟨ar, h1, rfl⟩ := Option.map_eq_some_iff.1 hr
  exact op_inv ho hf h h1 hx hs
 | builtin b =>
  obtain ⟨args⟩ := args
  obtain ⟨ts⟩ := ts
  exact bi_sound ho hf h hx hr hs
theorem op_sound (hf : rels S fr (shape H) a.tmps.toList) (h : WRel S H w) (hs : sat arS P H (exec1 arS σr fr H (rslv P o.op)) K) : opRes P o a w (Done S H K) := by
 unfold rslv at hs
 obtain ⟨ao, hr, hs⟩ := orBad_some hs
 cases ho : o.op <;> rw [ho] at hr <;> simp only [Option.bind_eq_bind, Option.bind_eq_some_iff, Option.map_eq_some_iff, Option.some.injEq] at hr
 case move x => obtain ⟨ax, h1, rfl⟩ := hr; exact op_mv (.inl ho) hf h h1 hs
 case assign x => obtain ⟨ax, h1, rfl⟩ := hr; exact op_mv (.inr ho) hf h h1 hs
 case pick x y z => obtain ⟨ax, h1, ay, h2, az, h3, rfl⟩ := hr; exact op_pick ho hf h h1 h2 h3 hs
 case alloc e =>
  split at hr
  ·rename_i n el hu
   split at hr
   ·obtain ⟨z, h1, rfl⟩ := Option.map_eq_some_iff.1 hr
    simp only [exec1] at hs
    split at hs
    ·rename_i h3; exact op_alloc ho h h1 h3 hs
    ·exact False.elim hs
   ·simp only [Option.bind_eq_some_iff] at hr
    obtain ⟨sz, h1, z, h2, hr⟩ := hr
    split at hr
    ·rename_i hc
     injection hr with hr
     subst hr
     simp only [exec1] at hs
     split at hs
     ·rename_i h3; exact op_mka ho h h2 h3 hc.1 hc.2 hs
     ·exact False.elim hs
    ·cases hr
  ·obtain ⟨z, h1, rfl⟩ := Option.map_eq_some_iff.1 hr
   simp only [exec1] at hs
   split at hs
   ·rename_i h2; exact op_alloc ho h h1 h2 hs
   ·exact False.elim hs
 case box e x =>
  obtain ⟨ax, h1, rfl⟩ := hr
  simp only [exec1] at hs
  split at hs
  ·rename_i h2; exact op_box ho hf h h1 h2 hs
  ·exact False.elim hs
 case build t parts =>
  obtain ⟨z, h1, hr⟩ := hr
  split at hr
  ·rename_i fs hu
   simp only [Option.bind_eq_some_iff, Option.some.injEq] at hr
   obtain ⟨ps, h2, szs, h3, rfl⟩ := hr
   refine op_build ho hf h h1 hu (fun f hf' => ?_) ?_ hs
   ·have A := All2.of_mapM h3
    clear h2 h1 hs h3 hu
    generalize fs.toList = l at *
    induction A with
    | nil => simp at hf'
    | cons hh _ ih =>
     rcases List.mem_cons.1 hf' with rfl | hf'
     ·exact ⟨_, hh⟩
     ·exact ih hf'
   ·refine All2.imp (fun p q hpq => ?_) (All2.of_mapM h2)
    simp only [Option.bind_eq_some_iff, Option.some.injEq] at hpq
    obtain ⟨f, e1, n, e2, x, e3, rfl⟩ := hpq
    exact ⟨⟨f, e1, rfl, e2⟩, e3⟩
  ·cases hr
 case buildSlice t n parts =>
  split at hr
  ·rename_i e hu
   simp only [Option.bind_eq_some_iff] at hr
   obtain ⟨sz, h1, z, h2, ps, h3, hr⟩ := hr
   split at hr
   ·rename_i hc
    injection hr with hr
    subst hr
    refine op_lit ho hf h hu h1 h2 hc.2.1 hc.2.2 hc.1 ?_ hs
    refine All2.imp (fun p q hpq => ?_) (All2.of_mapM h3)
    simp only [Option.bind_eq_some_iff, Option.some.injEq] at hpq
    obtain ⟨x, e3, rfl⟩ := hpq
    exact ⟨rfl, e3⟩
   ·cases hr
  ·cases hr
 case load t x => obtain ⟨n, h1, ax, h2, rfl⟩ := hr; exact op_ld ho hf h h2 h1 hs
 case store t x y => obtain ⟨n, h1, ax, h2, ay, h3, rfl⟩ := hr; exact op_st ho hf h h2 h3 h1 hs
 case nilCheck x => obtain ⟨ax, h1, rfl⟩ := hr; exact op_nilc ho hf h h1 hs
 case binOp op t x y t' =>
  split at hr
  ·rename_i neg hn
   have hr : (rx x).bind (fun z => some (AO.nilS neg z)) = some ao := hr
   simp only [Option.bind_eq_some_iff, Option.some.injEq] at hr
   obtain ⟨ax, h1, rfl⟩ := hr
   exact op_nilS ho hf h h1 hn hs
  ·split at hr
   ·rename_i neg hn
    have hr : (rx x).bind (fun z => some (AO.nilI neg z)) = some ao := hr
    simp only [Option.bind_eq_some_iff, Option.some.injEq] at hr
    obtain ⟨ax, h1, rfl⟩ := hr
    exact op_nilI ho hf h h1 hn hs
   ·have hr : (rx x).bind (fun z => (rx y).bind fun z2 => some (AO.bin op (tkOf P t) z z2)) = some ao := hr
    simp only [Option.bind_eq_some_iff, Option.some.injEq] at hr
    obtain ⟨ax, h1, ay, h2, rfl⟩ := hr; exact op_bin ho hf h h1 h2 hs
 case unOp op t x => obtain ⟨ax, h1, rfl⟩ := hr; exact op_un ho hf h h1 hs
 case convert s d x =>
  split at hr
  ·rename_i k k' h1 h2
   obtain ⟨ax, h3, rfl⟩ := Option.map_eq_some_iff.1 hr
   exact op_cvt ho hf h h3 h1 h2 hs
  ·rename_i e h1 h2
   split at hr
   ·rename_i he hsz
    obtain ⟨ax, h3, rfl⟩ := Option.map_eq_some_iff.1 hr
    exact op_b2s ho hf h h3 h1 he h2 hs
   ·cases hr
  ·cases hr
 case makeInterface t x =>
  split at hr
  ·cases hr
  ·cases hr
  ·rename_i h1 h2
   obtain ⟨ax, h3, rfl⟩ := Option.map_eq_some_iff.1 hr
   cases hu : P.underlying t with
   | none => exact absurd hu h2
   | some d => exact op_mki ho hf h h3 hu (fun ms e => h1 ms (by rw [hu, e])) hs
 case makeFunc f x y => obtain ⟨ax, h1, ay, h2, rfl⟩ := hr; exact op_mkf ho hf h h1 h2 hs
 case makeSlice t x y =>
  split at hr
  ·rename_i e hu
   simp only [Option.bind_eq_some_iff] at hr
   obtain ⟨i, h1, z, h2, hr⟩ := hr
   split at hr
   ·rename_i hc
    simp only [Option.bind_eq_some_iff, Option.some.injEq] at hr
    obtain ⟨ax, h3, ay, h4, rfl⟩ := hr
    exact op_mks ho hf h h3 h4 hu h1 h2 hc.1 hc.2 hs
   ·cases hr
  ·cases hr
 case slice t x lo hi mx =>
  cases mx with
  | some mx =>
   cases lo with
   | none => cases hr
   | some lo =>
    cases hi with
    | none => cases hr
    | some hi =>
     simp only at hr
     split at hr
     ·rename_i e hu
      simp only [Option.bind_eq_some_iff, Option.some.injEq] at hr
      obtain ⟨k, h1, ax, h2, al, h3, ah, h4, am, h5, rfl⟩ := hr
      exact op_slc3 ho hf h h2 h3 h4 h5 hu h1 hs
     ·cases hr
  | none =>
   simp only at hr
   split at hr
   ·rename_i e hu
    simp only [Option.bind_eq_some_iff, Option.some.injEq] at hr
    obtain ⟨k, h1, alo, h2, ahi, h3, ax, h4, rfl⟩ := hr
    exact op_slc (k := some k) ho hf h h4 h2 h3 ⟨e, hu, h1⟩ hs
   ·rename_i hu
    simp only [Option.bind_eq_some_iff, Option.some.injEq] at hr
    obtain ⟨alo, h2, ahi, h3, ax, h4, rfl⟩ := hr
    exact op_slc (k := none) ho hf h h4 h2 h3 hu hs
   ·rename_i n e hu
    split at hr
    ·simp only [Option.bind_eq_some_iff, Option.some.injEq] at hr
     obtain ⟨sz, h1, ax, h2, rfl⟩ := hr
     exact op_slp ho hf h h2 hu h1 hs
    ·cases hr
   ·cases hr
 case fieldAddr s x i =>
  split at hr
  ·rename_i fs hu
   simp only [Option.bind_eq_some_iff] at hr
   obtain ⟨f, h1, n, h2, hr⟩ := hr
   split at hr
   ·cases hr
   ·rename_i h0
    simp only [Option.bind_eq_some_iff, Option.some.injEq] at hr
    obtain ⟨ax, h3, rfl⟩ := hr
    exact op_fad ho hf h h3 hu h1 h2 h0 hs
  ·cases hr
 case field s x i =>
  split at hr
  ·rename_i fs hu
   simp only [Option.bind_eq_some_iff, Option.some.injEq] at hr
   obtain ⟨f, h1, n, h2, ax, h3, rfl⟩ := hr
   exact op_fld ho hf h h3 hu h1 h2 hs
  ·cases hr
 case indexAddr t x i =>
  split at hr
  ·rename_i e hu
   simp only [Option.bind_eq_some_iff, Option.some.injEq] at hr
   obtain ⟨sz, h1, ax, h2, ay, h3, rfl⟩ := hr
   exact op_idx ho hf h h2 h3 hu h1 hs
  ·rename_i n e hu
   simp only [Option.bind_eq_some_iff, Option.some.injEq] at hr
   obtain ⟨sz, h1, ax, h2, ay, h3, rfl⟩ := hr
   exact op_idxp ho hf h h2 h3 hu h1 hs
  ·cases hr
 case index t x i =>
  split at hr
  ·rename_i hu
   simp only [Option.bind_eq_some_iff, Option.some.injEq] at hr
   obtain ⟨ax, h2, ay, h3, rfl⟩ := hr
   exact op_idxs ho hf h h2 h3 hu hs
  ·cases hr
 case extract x i => obtain ⟨ax, h1, rfl⟩ := hr; exact op_ext ho hf h h1 hs
 case typeAssert x t0 t ok =>
  split at hr
  ·cases hr
  ·cases hr
  ·rename_i h1 h2
   simp only [Option.bind_eq_some_iff, Option.some.injEq] at hr
   obtain ⟨z, h3, ag, h4, ax, h5, rfl⟩ := hr
   cases hu : P.underlying t with
   | none => exact absurd hu h2
   | some d => exact op_asrt ho hf h h5 hu (fun ms e => h1 ms (by rw [hu, e])) h3 h4 hs
 case call c => exact call_sound ho hf h hr hs
 case makeMap t r =>
  cases r with
  | some _ => cases hr
  | none =>
   simp only [Option.some.injEq] at hr
   subst hr
   exact op_mkm ho h hs
 case lookup t x i ok =>
  cases ok with
  | true => cases hr
  | false =>
   simp only at hr
   split at hr
   ·rename_i kt et ht
    split at hr
    ·rename_i k0 b hk hz
     obtain ⟨ti, hz1, hz2⟩ := Option.bind_eq_some_iff.1 hz
     replace hr := Option.bind_eq_some_iff.1 hr
     obtain ⟨ax, h1, hr⟩ := hr
     obtain ⟨ai, h2, hr⟩ := Option.bind_eq_some_iff.1 hr
     simp only [Option.some.injEq] at hr
     subst hr
     exact op_mget ho hf h h1 h2 ht hk hz1 hz2 (fun T => by simp only [rel]) hs
    ·rename_i k0 k n hk hz
     obtain ⟨ti, hz1, hz2⟩ := Option.bind_eq_some_iff.1 hz
     replace hr := Option.bind_eq_some_iff.1 hr
     obtain ⟨ax, h1, hr⟩ := hr
     obtain ⟨ai, h2, hr⟩ := Option.bind_eq_some_iff.1 hr
     simp only [Option.some.injEq] at hr
     subst hr
     exact op_mget ho hf h h1 h2 ht hk hz1 hz2 (fun T => by simp only [rel]) hs
    ·cases hr
   ·cases hr
 case mapUpdate t x i v =>
  split at hr
  ·rename_i kt et ht
   split at hr
   ·rename_i k0 hk
    obtain ⟨ax, h1, hr⟩ := Option.bind_eq_some_iff.1 hr
    obtain ⟨ai, h2, hr⟩ := Option.bind_eq_some_iff.1 hr
    obtain ⟨av, h3, hr⟩ := Option.bind_eq_some_iff.1 hr
    simp only [Option.some.injEq] at hr
    subst hr
    exact op_mset ho hf h h1 h2 h3 ht hk hs
   ·cases hr
  ·cases hr
 all_goals cases hr
end
end Go.Ab

namespace Go.Ab
open Go
set_option linter.unusedVariables false
set_option linter.unusedSimpArgs false
structure AOp where
 dst : Option Nat
 op : AO
 guard : Option (Option Nat × Bool)
 after : List Nat := []
 looks : List Nat := []
 deriving Inhabited
inductive Node where
 | seq (d : Nat)
 | cond (x : AX) (d : Nat)
 | block (id : Nat)
 | loop
 | region (ops : List AOp) (draw : Bool)
 | exit (id : Nat)
 | skip
 | ret
 | rng (g : AX) (ps : List Nat) (d e : Nat)
 | bad
 deriving Inhabited
def rslvOp (P : Program) (ops : Array Oper) (d : Bool) (o : Oper) : AOp :=
  { dst := o.dst, op := rslv P o.op, guard := o.guard.map fun (j, b) => ((ops[j]?).bind (·.dst), b),
    after := if d then (o.after.toList.filter (Region.binds .any)).map (·.on) else [], looks := if d then o.looksAt ops else [] }
def nodeSize : Code → Nat
 | .seq a b => nodeSize a + nodeSize b + 1
 | .cond _ a b => nodeSize a + nodeSize b + 1
 | .block _ a => nodeSize a + 1
 | .loop a => nodeSize a + 1
 | .rangeFunc _ _ a b => nodeSize a + nodeSize b + 1
 | _ => 1
def flat (P : Program) : Code → List Node
 | .seq a b => .seq (nodeSize a + 1) :: (flat P a ++ flat P b)
 | .cond x a b => (match rx x with | some x => .cond x (nodeSize a + 1) | none => .bad) :: (flat P a ++ flat P b)
 | .block id a => .block id :: flat P a
 | .loop a => .loop :: flat P a
 | .region _ ops draw => [.region (ops.toList.map (rslvOp P ops draw)) draw]
 | .exit id => [.exit id]
 | .skip => [.skip]
 | .ret => [.ret]
 | .rangeFunc x ps a b => (match rx x with | some x => .rng x ps.toList (nodeSize a + 1) (nodeSize b) | none => .bad) :: (flat P a ++ flat P b)
 | _ => [.bad]
theorem flat_length (P : Program) : ∀ c : Code, (flat P c).length = nodeSize c
 | .seq a b => by simp [flat, nodeSize, flat_length P a, flat_length P b]
 | .cond x a b => by simp [flat, nodeSize, flat_length P a, flat_length P b]
 | .block id a => by simp [flat, nodeSize, flat_length P a]
 | .loop a => by simp [flat, nodeSize, flat_length P a]
 | .region .. => by simp [flat, nodeSize]
 | .exit _ => by simp [flat, nodeSize]
 | .skip => by simp [flat, nodeSize]
 | .ret => by simp [flat, nodeSize]
 | .rangeFunc _ _ a b => by simp [flat, nodeSize, flat_length P a, flat_length P b]
 | .scope _ => by simp [flat, nodeSize]
 | .label _ => by simp [flat, nodeSize]
 | .goto _ => by simp [flat, nodeSize]
 | .refuse _ => by simp [flat, nodeSize]
inductive RV where
 | t (n : Nat)
 | cell (n : Nat) (l : Option Nat)
 deriving Inhabited
def rvOf (P : Program) : ResultVar → Option RV
 | .tmp n => some (.t n)
 | .cell n t => (ldOf P t).map (.cell n)
structure AFn where
 np : Nat
 nt : Nat
 res : List RV
 tab : List Node
 deriving Inhabited
def AFn.of (P : Program) (fn : Func) (F : AFn) : Prop :=
 F.np = fn.params.size ∧ F.nt = fn.ntmps ∧ fn.results.toList.mapM (rvOf P) = some F.res ∧ (fn.body.map (flat P)) = some F.tab
inductive AItem where
 | c (n : Nat)
 | ops (n k : Nat)
 | blk (id : Nat)
 | lp (n : Nat)
 deriving Inhabited
def At (P : Program) (tab : List Node) (n : Nat) (x : Code) : Prop := ∃ pre post, tab = pre ++ flat P x ++ post ∧ pre.length = n
def MatchI (P : Program) (tab : List Node) : AItem → Item → Prop
 | .c n, .code x => At P tab n x
 | .ops n k, .inRegion ops l => (∃ id d, At P tab n (.region id ops d)) ∧ l = List.range' k (ops.size - k)
 | .blk id, .inBlock id' => id = id'
 | .lp n, .inLoop x => At P tab n x
 | _, _ => False
def rnd (P : Program) (fn : Func) : Bool := (fn.results.toList.mapM (rvOf P)).isNone
def endF (r : Bool) (f : Frame) : Frame := if r then f else { f with mode := .returning }
def Run (P : Program) (fn : Func) (tab : List Node) (H0 : List ABlk) (R : AV → List ABlk → Prop) (K : List AItem) (fr : List AV) (H : List ABlk) : Prop :=
 ∀ S0 S w a (b : Frame) k cs, Ext S0 (shape H0) S (shape H) → (rnd P fn = false → b.roundOf = none) → rels S fr (shape H) a.tmps.toList → WRel S H w → All2 (MatchI P tab) K k →
  ∃ a' w' todo v, Steps P (lone (b.atR a k) cs w) (lone (endF (rnd P fn) (b.atR a' todo)) cs w') ∧ a'.defers = a.defers ∧ (if rnd P fn then todo = [] else (results fn a'.tmps).run P w' = .ok v w') ∧ Done S0 H0 R v w'
section
variable {P : Program} {fn : Func} {tab : List Node} {H0 : List ABlk} {R : AV → List ABlk → Prop} {K : List AItem} {fr : List AV} {H : List ABlk}
theorem At.head {n : Nat} {x : Code} (h : At P tab n x) : tab[n]? = (flat P x)[0]? := by
 obtain ⟨pre, post, rfl, rfl⟩ := h
 rw [List.append_assoc, List.getElem?_append_right (Nat.le_refl _), Nat.sub_self]
 cases hf : flat P x with
 | nil => have := flat_length P x; rw [hf] at this; cases x <;> simp [nodeSize] at this
 | cons y l => simp
theorem At.seq {n : Nat} {x y : Code} (h : At P tab n (.seq x y)) : At P tab (n + 1) x ∧ At P tab (n + (nodeSize x + 1)) y := by
 obtain ⟨pre, post, rfl, rfl⟩ := h
 simp only [flat]
 exact ⟨⟨pre ++ [.seq (nodeSize x + 1)], flat P y ++ post, by simp, by simp⟩, ⟨pre ++ .seq (nodeSize x + 1) :: flat P x, post, by simp, by simp [flat_length]⟩⟩
theorem At.cond {n : Nat} {c : Operand} {x y : Code} (h : At P tab n (.cond c x y)) : At P tab (n + 1) x ∧ At P tab (n + (nodeSize x + 1)) y := by
 obtain ⟨pre, post, rfl, rfl⟩ := h
 simp only [flat]
 generalize (match rx c with | some x_1 => Node.cond x_1 (nodeSize x + 1) | none => Node.bad) = nd
 exact ⟨⟨pre ++ [nd], flat P y ++ post, by simp, by simp⟩, ⟨pre ++ nd :: flat P x, post, by simp, by simp [flat_length]⟩⟩
theorem At.block {n id : Nat} {x : Code} (h : At P tab n (.block id x)) : At P tab (n + 1) x := by
 obtain ⟨pre, post, rfl, rfl⟩ := h
 simp only [flat]
 exact ⟨pre ++ [.block id], post, by simp, by simp⟩
theorem At.loop {n : Nat} {x : Code} (h : At P tab n (.loop x)) : At P tab (n + 1) x := by
 obtain ⟨pre, post, rfl, rfl⟩ := h
 simp only [flat]
 exact ⟨pre ++ [.loop], post, by simp, by simp⟩
theorem At.rng {n : Nat} {c : Operand} {ps : Array Tmp} {x y : Code} (h : At P tab n (.rangeFunc c ps x y)) : At P tab (n + 1) x ∧ At P tab (n + (nodeSize x + 1)) y := by
 obtain ⟨pre, post, rfl, rfl⟩ := h
 simp only [flat]
 generalize (match rx c with | some x_1 => Node.rng x_1 ps.toList (nodeSize x + 1) (nodeSize y) | none => Node.bad) = nd
 exact ⟨⟨pre ++ [nd], flat P y ++ post, by simp, by simp⟩, ⟨pre ++ nd :: flat P x, post, by simp, by simp [flat_length]⟩⟩
theorem At.mask {n e : Nat} {y : Code} {tabB : List Node} (h : At P tab n y) (he : e = nodeSize y) (hB : tabB = List.replicate n .bad ++ (tab.drop n).take e) : At P tabB n y := by
 obtain ⟨pre, post, rfl, rfl⟩ := h
 refine ⟨List.replicate pre.length .bad, [], ?_, by simp⟩
 rw [hB, he, List.append_assoc, List.drop_left, List.append_nil, ← flat_length P y, List.take_left]
theorem At.is_seq {n d : Nat} {x : Code} (h : At P tab n x) (ht : tab[n]? = some (.seq d)) : ∃ a b, x = .seq a b ∧ d = nodeSize a + 1 := by
 rw [h.head] at ht
 cases x <;> simp [flat] at ht
 ·exact ⟨_, _, rfl, ht.symm⟩
 all_goals (exfalso; revert ht; split <;> simp)
theorem At.is_cond {n d : Nat} {x : Code} {ax : AX} (h : At P tab n x) (ht : tab[n]? = some (.cond ax d)) : ∃ c a b, x = .cond c a b ∧ rx c = some ax ∧ d = nodeSize a + 1 := by
 rw [h.head] at ht
 cases x <;> simp [flat] at ht
 ·rename_i c _ _
  cases hc : rx c with
  | none => simp [hc] at ht
  | some y => simp [hc] at ht; exact ⟨_, _, _, rfl, by rw [hc, ht.1], ht.2.symm⟩
 all_goals (exfalso; revert ht; split <;> simp)
theorem At.is_rng {n d e : Nat} {x : Code} {ax : AX} {ps : List Nat} (h : At P tab n x) (ht : tab[n]? = some (.rng ax ps d e)) : ∃ c qs a b, x = .rangeFunc c qs a b ∧ rx c = some ax ∧ qs.toList = ps ∧ d = nodeSize a + 1 ∧ e = nodeSize b := by
 rw [h.head] at ht
 cases x <;> simp [flat] at ht
 ·exfalso; revert ht; split <;> simp
 ·rename_i c qs _ _
  cases hc : rx c with
  | none => simp [hc] at ht
  | some y => simp [hc] at ht; exact ⟨_, _, _, _, rfl, by rw [hc, ht.1], ht.2.1, ht.2.2.1.symm, ht.2.2.2.symm⟩
theorem At.is_block {n id : Nat} {x : Code} (h : At P tab n x) (ht : tab[n]? = some (.block id)) : ∃ a, x = .block id a := by
 rw [h.head] at ht
 cases x <;> simp [flat] at ht
 all_goals first | (exfalso; revert ht; split <;> simp; done) | (subst ht; exact ⟨_, rfl⟩)
theorem At.is_loop {n : Nat} {x : Code} (h : At P tab n x) (ht : tab[n]? = some .loop) : ∃ a, x = .loop a := by
 rw [h.head] at ht
 cases x <;> simp [flat] at ht
 all_goals first | (exfalso; revert ht; split <;> simp; done) | (exact ⟨_, rfl⟩)
theorem At.is_exit {n id : Nat} {x : Code} (h : At P tab n x) (ht : tab[n]? = some (.exit id)) : x = .exit id := by
 rw [h.head] at ht
 cases x <;> simp [flat] at ht
 all_goals first | (exfalso; revert ht; split <;> simp; done) | (subst ht; rfl)
theorem At.is_skip {n : Nat} {x : Code} (h : At P tab n x) (ht : tab[n]? = some .skip) : x = .skip := by
 rw [h.head] at ht
 cases x <;> simp [flat] at ht
 all_goals first | (exfalso; revert ht; split <;> simp; done) | rfl
theorem At.is_ret {n : Nat} {x : Code} (h : At P tab n x) (ht : tab[n]? = some .ret) : x = .ret := by
 rw [h.head] at ht
 cases x <;> simp [flat] at ht
 all_goals first | (exfalso; revert ht; split <;> simp; done) | rfl
theorem At.is_region {n : Nat} {x : Code} {l : List AOp} {d : Bool} (h : At P tab n x) (ht : tab[n]? = some (.region l d)) : ∃ id ops, x = .region id ops d ∧ l = ops.toList.map (rslvOp P ops d) := by
 rw [h.head] at ht
 cases x <;> simp [flat] at ht
 all_goals first | (exfalso; revert ht; split <;> simp; done) | (obtain ⟨h1, rfl⟩ := ht; exact ⟨_, _, rfl, h1.symm⟩)
theorem Run.step {K' : List AItem} (h : ∀ S w a (b : Frame) k cs, True → rels S fr (shape H) a.tmps.toList → WRel S H w → All2 (MatchI P tab) K k → ∃ k', Steps P (lone (b.atR a k) cs w) (lone (b.atR a k') cs w) ∧ All2 (MatchI P tab) K' k')
  (hr : Run P fn tab H0 R K' fr H) : Run P fn tab H0 R K fr H := by
 intro S0 S w a b k cs he hd hf hw hk
 obtain ⟨k', h1, h2⟩ := h S w a b k cs trivial hf hw hk
 obtain ⟨a', w', todo, v, q1, q2, q3, q4⟩ := hr S0 S w a b k' cs he hd hf hw h2
 exact ⟨a', w', todo, v, h1.trans q1, q2, q3, q4⟩
theorem Run.seq {n d : Nat} (ht : tab[n]? = some (.seq d)) (h : Run P fn tab H0 R (.c (n + 1) :: .c (n + d) :: K) fr H) : Run P fn tab H0 R (.c n :: K) fr H := by
 refine Run.step (fun S w a b k cs _ _ _ hk => ?_) h
 cases hk with
 | cons h1 hk =>
  rename_i it k
  cases it <;> first | exact h1.elim | skip
  obtain ⟨x, y, rfl, rfl⟩ := At.is_seq h1 ht
  exact ⟨_, .one stepR_seq, .cons (At.seq h1).1 (.cons (At.seq h1).2 hk)⟩
theorem Run.block {n id : Nat} (ht : tab[n]? = some (.block id)) (h : Run P fn tab H0 R (.c (n + 1) :: .blk id :: K) fr H) : Run P fn tab H0 R (.c n :: K) fr H := by
 refine Run.step (fun S w a b k cs _ _ _ hk => ?_) h
 cases hk with
 | cons h1 hk =>
  rename_i it k
  cases it <;> first | exact h1.elim | skip
  obtain ⟨x, rfl⟩ := At.is_block h1 ht
  exact ⟨_, .one stepR_block, .cons (At.block h1) (.cons rfl hk)⟩
theorem Run.loop {n : Nat} (ht : tab[n]? = some .loop) (h : Run P fn tab H0 R (.c (n + 1) :: .lp (n + 1) :: K) fr H) : Run P fn tab H0 R (.c n :: K) fr H := by
 refine Run.step (fun S w a b k cs _ _ _ hk => ?_) h
 cases hk with
 | cons h1 hk =>
  rename_i it k
  cases it <;> first | exact h1.elim | skip
  obtain ⟨x, rfl⟩ := At.is_loop h1 ht
  exact ⟨_, .one stepR_loop, .cons (At.loop h1) (.cons (At.loop h1) hk)⟩
theorem Run.lp {n : Nat} (h : Run P fn tab H0 R (.c n :: .lp n :: K) fr H) : Run P fn tab H0 R (.lp n :: K) fr H := by
 refine Run.step (fun S w a b k cs _ _ _ hk => ?_) h
 cases hk with
 | cons h1 hk =>
  rename_i it k
  cases it <;> first | exact h1.elim | skip
  exact ⟨_, .one stepR_inLoop, .cons h1 (.cons h1 hk)⟩
theorem Run.blk {id : Nat} (h : Run P fn tab H0 R K fr H) : Run P fn tab H0 R (.blk id :: K) fr H := by
 refine Run.step (fun S w a b k cs _ _ _ hk => ?_) h
 cases hk with
 | cons h1 hk =>
  rename_i it k
  cases it <;> first | exact h1.elim | skip
  exact ⟨_, .one stepR_inBlock, hk⟩
theorem Run.skip {n : Nat} (ht : tab[n]? = some .skip) (h : Run P fn tab H0 R K fr H) : Run P fn tab H0 R (.c n :: K) fr H := by
 refine Run.step (fun S w a b k cs _ _ _ hk => ?_) h
 cases hk with
 | cons h1 hk =>
  rename_i it k
  cases it <;> first | exact h1.elim | skip
  obtain rfl := At.is_skip h1 ht
  exact ⟨_, .one stepR_skip, hk⟩
def exitA (id : Nat) : List AItem → Option (List AItem)
 | .blk id' :: K => if id' = id then some K else exitA id K
 | _ :: K => exitA id K
 | [] => none
theorem exitA_match {id : Nat} : ∀ {K K' : List AItem} {k : List Item}, All2 (MatchI P tab) K k → exitA id K = some K' → ∃ k', exitTo id k = some k' ∧ All2 (MatchI P tab) K' k'
 | _, _, _, .nil, h => by simp [exitA] at h
 | _, K', _, .cons (x := it) (y := it') (l := K) (m := k) h1 hk, h => by
  cases it with
  | blk id' =>
   cases it' <;> first | exact h1.elim | skip
   have h1 : id' = _ := h1
   subst h1
   simp only [exitA] at h
   split at h
   ·rename_i he
    injection h with h
    subst h he
    exact ⟨k, by simp [exitTo], hk⟩
   ·rename_i he
    obtain ⟨k', q1, q2⟩ := exitA_match hk h
    exact ⟨k', by simp [exitTo, he, q1], q2⟩
  | c n =>
   cases it' <;> first | exact h1.elim | skip
   obtain ⟨k', q1, q2⟩ := exitA_match hk (show exitA id K = some K' from h)
   exact ⟨k', by simp [exitTo, q1], q2⟩
  | ops n j =>
   cases it' <;> first | exact h1.elim | skip
   obtain ⟨k', q1, q2⟩ := exitA_match hk (show exitA id K = some K' from h)
   exact ⟨k', by simp [exitTo, q1], q2⟩
  | lp n =>
   cases it' <;> first | exact h1.elim | skip
   obtain ⟨k', q1, q2⟩ := exitA_match hk (show exitA id K = some K' from h)
   exact ⟨k', by simp [exitTo, q1], q2⟩
theorem Run.exit {n id : Nat} {K' : List AItem} (ht : tab[n]? = some (.exit id)) (he : exitA id K = some K') (h : Run P fn tab H0 R K' fr H) : Run P fn tab H0 R (.c n :: K) fr H := by
 refine Run.step (fun S w a b k cs _ _ _ hk => ?_) h
 cases hk with
 | cons h1 hk =>
  rename_i it k
  cases it <;> first | exact h1.elim | skip
  obtain rfl := At.is_exit h1 ht
  obtain ⟨k', q1, q2⟩ := exitA_match hk he
  exact ⟨_, .one (stepR_exit q1), q2⟩
theorem Run.cond {n d : Nat} {x : AX} {t : Bool} (ht : tab[n]? = some (.cond x d)) (hx : ev fr x = .bool t ∨ ev fr x = .sb t) (h : Run P fn tab H0 R (.c (if t then n + 1 else n + d) :: K) fr H) : Run P fn tab H0 R (.c n :: K) fr H := by
 refine Run.step (fun S w a b k cs _ hf _ hk => ?_) h
 cases hk with
 | cons h1 hk =>
  rename_i it k
  cases it <;> first | exact h1.elim | skip
  obtain ⟨c, p, q, rfl, hc, rfl⟩ := At.is_cond h1 ht
  have hr := rx_rel hf hc
  have he : a.eval c = .bool t := by
   rcases hx with hx | hx <;> (rw [hx] at hr; simpa [rel] using hr)
  refine ⟨_, .one (stepR_cond he), .cons ?_ hk⟩
  cases t
  ·exact (At.cond h1).2
  ·exact (At.cond h1).1
theorem Run.region {n : Nat} {l : List AOp} (ht : tab[n]? = some (.region l false)) (h : Run P fn tab H0 R (.ops n 0 :: K) fr H) : Run P fn tab H0 R (.c n :: K) fr H := by
 refine Run.step (fun S w a b k cs _ _ _ hk => ?_) h
 cases hk with
 | cons h1 hk =>
  rename_i it k
  cases it <;> first | exact h1.elim | skip
  obtain ⟨id, ops, rfl, rfl⟩ := At.is_region h1 ht
  exact ⟨_, .one stepR_region, .cons ⟨⟨id, _, h1⟩, by simp [List.range_eq_range']⟩ hk⟩
end
end Go.Ab

namespace Go.Ab
open Go
set_option linter.unusedVariables false
set_option linter.unusedSimpArgs false
variable {σr : RowF}
def putL (fr : List AV) (d : Option Nat) (v : AV) : List AV :=
 match d with
 | some d => setL fr d v
 | none => fr
section
variable {P : Program} {fn : Func} {tab : List Node} {H0 : List ABlk} {R : AV → List ABlk → Prop} {K : List AItem} {fr : List AV} {H : List ABlk}
theorem put_rels {S : RS} {T : Sh} {a : Act} (hf : rels S fr T a.tmps.toList) (d : Option Nat) {v : AV} {u : Value} (hv : rel S v T u) : rels S (putL fr d v) T (a.put d u).tmps.toList := by
 cases d with
 | none => exact hf
 | some d =>
  simp only [putL, setL_eq, Act.put, Array.toList_setIfInBounds]
  exact rels_set hf d hv
theorem put_defers (a : Act) (d : Option Nat) (u : Value) : (a.put d u).defers = a.defers := by cases d <;> rfl
theorem opRes_steps {ops : Array Oper} {i : Nat} {rest : List Nat} {o : Oper} {a : Act} {w : World} {G : Value → World → Prop} {b : Frame} {k : List Go.Item} {cs : List Frame} (ho : ops[i]? = some o) (hw : Region.wanted o (yielded ops a.tmps) = true) (h : opRes P o a w G) :
  ∃ u w', G u w' ∧ Steps P (lone (b.atR a (.inRegion ops (i :: rest) :: k)) cs w) (lone (b.atR (a.put o.dst u) (.inRegion ops rest :: k)) cs w') := by
 have hg := stepGR_op (P := P) (b := b) (k := k) (cs := cs) (w := w) (rest := rest) ho hw
 have hsem : o.semAt b.roundOf a.eval = execOp a.eval o := by
  refine Oper.semAt_eq _ _ _ fun c hc => ?_
  unfold opRes at h
  simp only [execOp, hc] at h
  revert h
  simp only [Sem.run_bind, Result.andThen, Sem.run_pure]
  cases (resolve a.eval c o.type).run P w <;> simp
 rw [hsem] at hg
 have hfin : ∀ v, (b.atR a (.inRegion ops (i :: rest) :: k)).finish v = b.atR (a.put o.dst v) (.inRegion ops rest :: k) := by
  intro v; rw [Frame.finish_atR, ho]; rfl
 unfold opRes at h
 split at h
 ·rename_i u w' hr
  refine ⟨u, w', h, .one (step_lone_go ?_)⟩
  rw [hg, ← hfin]; simp [stepG.apply, hr]
 ·rename_i w' hr
  refine ⟨undef, w', h, .one (step_lone_go ?_)⟩
  rw [hg, ← hfin]; simp [stepG.apply, hr]
 ·rename_i f args w' hr
  obtain ⟨e, w'', fr', ⟨u, rfl, hR⟩, hsteps, _, hleave⟩ := h (b.atR a (.inRegion ops (i :: rest) :: k) :: cs)
  have henter : step P (lone (b.atR a (.inRegion ops (i :: rest) :: k)) cs w) =
    .next (lone (Frame.enter P f args .normal) (b.atR a (.inRegion ops (i :: rest) :: k) :: cs) w') :=
   step_lone_go (by rw [hg]; simp [stepG.apply, hr, Frame.atR])
  refine ⟨u, w'', hR, .head henter (Steps.trans hsteps (.one ?_))⟩
  rw [← hfin]; exact step_leave_returned hleave
 ·exact h.elim
def gOk (fr : List AV) (g : Option (Option Nat × Bool)) (b : Bool) : Prop :=
 match g with
 | none => b = true
 | some (some t, want) => (ev fr (.t t) = .bool (if b then want else !want)) ∨ (ev fr (.t t) = .sb (if b then want else !want)) ∨ (b = false ∧ ev fr (.t t) = .tup [])
 | some (none, _) => b = false
theorem gOk_wanted {S : RS} {T : Sh} {a : Act} {ops : Array Oper} {o : Oper} {d b : Bool} (hf : rels S fr T a.tmps.toList) (h : gOk fr (rslvOp P ops d o).guard b) : Region.wanted o (yielded ops a.tmps) = b := by
 unfold Region.wanted
 simp only [rslvOp] at h
 cases hg : o.guard with
 | none => rw [hg] at h; simp only [Option.map_none, gOk] at h; exact h.symm
 | some g =>
  obtain ⟨j, want⟩ := g
  rw [hg] at h
  simp only [Option.map_some] at h
  simp only [yielded]
  cases hd : (ops[j]?).bind (·.dst) with
  | none => rw [hd] at h; simp only [gOk] at h; subst h; simp
  | some t =>
   rw [hd] at h
   simp only [gOk] at h
   have hget : ∀ c, ev fr (.t t) = c → c ≠ .junk → ∃ v, a.tmps[t]? = some v ∧ rel S c T v := by
    intro c hc hn
    simp only [ev, getL_eq] at hc
    cases hx : fr[t]? with
    | none => rw [hx] at hc; simp at hc; exact absurd hc.symm hn
    | some c' =>
     rw [hx] at hc
     simp at hc
     subst hc
     obtain ⟨v, h1, h2⟩ := rels_get hf hx
     rw [Array.getElem?_toList] at h1
     exact ⟨v, h1, h2⟩
   rcases h with h | h | ⟨rfl, h⟩
   ·obtain ⟨v, h1, h2⟩ := hget _ h (by simp)
    simp only [rel] at h2
    simp only [Option.bind_some, h1, h2]
    cases b <;> cases want <;> rfl
   ·obtain ⟨v, h1, h2⟩ := hget _ h (by simp)
    simp only [rel] at h2
    simp only [Option.bind_some, h1, h2]
    cases b <;> cases want <;> rfl
   ·obtain ⟨v, h1, h2⟩ := hget _ h (by simp)
    simp only [rel, rels] at h2
    obtain ⟨us, rfl, _⟩ := h2
    simp only [Option.bind_some, h1]
    rfl
theorem Run.op {n j : Nat} {l : List AOp} {d : Bool} {o : AOp} (ht : tab[n]? = some (.region l d)) (ho : l[j]? = some o) (hg : gOk fr o.guard true)
  (h : sat arS P H (exec1 arS σr fr H o.op) fun v H' => Run P fn tab H0 R (.ops n (j + 1) :: K) (putL fr o.dst v) H') : Run P fn tab H0 R (.ops n j :: K) fr H := by
 intro S0 S w a b k cs he hd hf hw hk
 cases hk with
 | cons h1 hk =>
  rename_i it k
  cases it <;> first | exact h1.elim | skip
  rename_i ops li
  obtain ⟨⟨id, d', hat⟩, rfl⟩ := h1
  have hreg := At.is_region hat ht
  obtain ⟨id', ops', heq, rfl⟩ := hreg
  injection heq with _ heq _
  subst heq
  rw [List.getElem?_map] at ho
  obtain ⟨o', ho', rfl⟩ := Option.map_eq_some_iff.1 ho
  have hlt : j < ops.size := by
   have := (List.getElem?_eq_some_iff.1 ho').1
   simpa using this
  have ho2 : ops[j]? = some o' := by rw [← Array.getElem?_toList]; exact ho'
  have hres := op_sound (o := o') hf hw h
  obtain ⟨u, w', hG, hs⟩ := opRes_steps (b := b) (k := k) (cs := cs) (rest := List.range' (j + 1) (ops.size - (j + 1))) ho2 (gOk_wanted hf hg) hres
  obtain ⟨S', v, H', e1, e2, e3, e4⟩ := hG
  have hl : List.range' j (ops.size - j) = j :: List.range' (j + 1) (ops.size - (j + 1)) := by
   rw [show ops.size - j = (ops.size - (j + 1)) + 1 by omega, List.range'_succ]
  rw [hl]
  obtain ⟨a', w'', todo, vv, q1, q2, q3, q4⟩ := e4 S0 S' w' (a.put o'.dst u) b (.inRegion ops (List.range' (j + 1) (ops.size - (j + 1))) :: k) cs (he.trans e1) hd
   (put_rels (rels_ext _ _ _ _ e1 hf) _ e3) e2 (.cons ⟨⟨id, d', hat⟩, rfl⟩ hk)
  exact ⟨a', w'', todo, vv, hs.trans q1, q2.trans (put_defers _ _ _), q3, q4⟩
theorem Run.opSkip {n j : Nat} {l : List AOp} {d : Bool} {o : AOp} (ht : tab[n]? = some (.region l d)) (ho : l[j]? = some o) (hg : gOk fr o.guard false)
  (h : Run P fn tab H0 R (.ops n (j + 1) :: K) (putL fr o.dst (.tup [])) H) : Run P fn tab H0 R (.ops n j :: K) fr H := by
 intro S0 S w a b k cs he hd hf hw hk
 cases hk with
 | cons h1 hk =>
  rename_i it k
  cases it <;> first | exact h1.elim | skip
  rename_i ops li
  obtain ⟨⟨id, d', hat⟩, rfl⟩ := h1
  obtain ⟨id', ops', heq, rfl⟩ := At.is_region hat ht
  injection heq with _ heq _
  subst heq
  rw [List.getElem?_map] at ho
  obtain ⟨o', ho', rfl⟩ := Option.map_eq_some_iff.1 ho
  have hlt : j < ops.size := by
   have := (List.getElem?_eq_some_iff.1 ho').1
   simpa using this
  have ho2 : ops[j]? = some o' := by rw [← Array.getElem?_toList]; exact ho'
  have hl : List.range' j (ops.size - j) = j :: List.range' (j + 1) (ops.size - (j + 1)) := by
   rw [show ops.size - j = (ops.size - (j + 1)) + 1 by omega, List.range'_succ]
  rw [hl]
  have hstep := stepR_op_skip (P := P) (b := b) (a := a) (k := k) (cs := cs) (w := w) (ops := ops) (i := j) (rest := List.range' (j + 1) (ops.size - (j + 1))) (by simp [ho2, gOk_wanted hf hg])
  simp only [ho2, Option.bind_some] at hstep
  obtain ⟨a', w'', todo, vv, q1, q2, q3, q4⟩ := h S0 S w (a.put o'.dst undef) b (.inRegion ops (List.range' (j + 1) (ops.size - (j + 1))) :: k) cs he hd
   (put_rels hf _ (by simp [rel, rels, undef])) hw (.cons ⟨⟨id, d', hat⟩, rfl⟩ hk)
  exact ⟨a', w'', todo, vv, .head hstep q1, q2.trans (put_defers _ _ _), q3, q4⟩
theorem Run.opsEnd {n j : Nat} {l : List AOp} {d : Bool} (ht : tab[n]? = some (.region l d)) (ho : l.length ≤ j) (h : Run P fn tab H0 R K fr H) : Run P fn tab H0 R (.ops n j :: K) fr H := by
 refine Run.step (fun S w a b k cs _ _ _ hk => ?_) h
 cases hk with
 | cons h1 hk =>
  rename_i it k
  cases it <;> first | exact h1.elim | skip
  rename_i ops li
  obtain ⟨⟨id, d', hat⟩, rfl⟩ := h1
  obtain ⟨id', ops', heq, rfl⟩ := At.is_region hat ht
  injection heq with _ heq _
  subst heq
  simp at ho
  rw [show ops.size - j = 0 by omega]
  exact ⟨k, .one stepR_region_end, hk⟩
def resA (A : Ar) (σr : RowF) (fr : List AV) (H : List ABlk) : List RV → List AV → Out
 | [], acc => .ok (match acc with
  | [v] => v
  | l => .tup l) H
 | .t n :: rs, acc => resA A σr fr H rs (appL acc [uns (ev fr (.t n))])
 | .cell n l :: rs, acc => ldA A σr l (ev fr (.t n)) H fun v => resA A σr fr H rs (appL acc [uns v])
theorem tmp_rel {S : RS} {T : Sh} {a : Act} (hf : rels S fr T a.tmps.toList) (n : Nat) : rel S (ev fr (.t n)) T (a.tmps.getD n undef) := rx_rel hf (x := .tmp n) rfl
def resF (tmps : Array Value) : ResultVar → Sem Value
 | .tmp t => pure (tmps.getD t undef)
 | .cell x t => do loadVar t (← asAddr (tmps.getD x undef))
theorem results_eq (fn : Func) (tmps : Array Value) : results fn tmps = (do
  let vs ← fn.results.mapM (resF tmps)
  pure (if h : vs.size = 1 then vs[0] else .tuple vs)) := by
 unfold results
 congr 1
theorem run_asAddr_some (A : Addr) (w : World) : (asAddr (.pointer (some A))).run P w = .ok A w := rfl
theorem resA_run {S : RS} {a : Act} {w : World} (hf : rels S fr (shape H) a.tmps.toList) (h : WRel S H w) : ∀ (l : List ResultVar) (rs : List RV) (acc : List AV) (vs : List Value), l.mapM (rvOf P) = some rs → rels S acc (shape H) vs → sat arS P H (resA arS σr fr H rs acc) R →
  ∃ us, (l.mapM (resF a.tmps)).run P w = .ok us w ∧
   ∃ v, rel S v (shape H) (if h : (vs ++ us).length = 1 then (vs ++ us)[0] else .tuple (vs ++ us).toArray) ∧ R v H
 | [], rs, acc, vs, hm, hacc, hs => by
  simp at hm
  subst hm
  refine ⟨[], by simp, ?_⟩
  simp only [List.append_nil]
  simp only [resA, sat] at hs
  refine ⟨_, ?_, hs⟩
  cases acc with
  | nil => simp only [rels] at hacc; subst hacc; simp [rel, rels]
  | cons c acc =>
   cases acc with
   | nil =>
    simp only [rels] at hacc
    obtain ⟨v, _, rfl, hv, rfl⟩ := hacc
    simpa using hv
   | cons c' acc =>
    have hl := rels_length hacc
    rw [dif_neg (by rw [hl]; simp)]
    simp only [rel]
    exact ⟨_, rfl, hacc⟩
 | .tmp n :: l, rs, acc, vs, hm, hacc, hs => by
  simp only [List.mapM_cons, Option.bind_eq_bind, Option.bind_eq_some_iff, Option.pure_def, Option.some.injEq, rvOf] at hm
  obtain ⟨_, rfl, rs, hm, rfl⟩ := hm
  simp only [resA, appL_eq] at hs
  obtain ⟨us, q1, q2⟩ := resA_run hf h l rs _ (vs ++ [a.tmps.getD n undef]) hm (rels_append hacc (by simp only [rels]; exact ⟨_, [], rfl, uns_rel (tmp_rel hf n), rfl⟩)) hs
  refine ⟨a.tmps.getD n undef :: us, ?_, by simpa using q2⟩
  simp only [List.mapM_cons, resF, Sem.run_bind, Sem.run_pure, Result.andThen_ok, q1]
 | .cell n t :: l, rs, acc, vs, hm, hacc, hs => by
  simp only [List.mapM_cons, Option.bind_eq_bind, Option.bind_eq_some_iff, Option.pure_def, Option.some.injEq, rvOf, Option.map_eq_some_iff] at hm
  obtain ⟨_, ⟨ll, hll, rfl⟩, rs, hm, rfl⟩ := hm
  simp only [resA, appL_eq] at hs
  obtain ⟨v, y, p1, p2, p3⟩ := ldA_sat (fun _ => rfl) h (tmp_rel hf n) hs hll
  obtain ⟨us, q1, q2⟩ := resA_run hf h l rs _ (vs ++ [y]) hm (rels_append hacc (by simp only [rels]; exact ⟨_, [], rfl, uns_rel p2, rfl⟩)) p3
  refine ⟨y :: us, ?_, by simpa using q2⟩
  have hptr : ∃ A, a.tmps.getD n undef = .pointer (some A) := by
   generalize a.tmps.getD n undef = u at *
   cases u <;> simp [Instr.loadAt, Instr.sureAddr] at p1
   rename_i p
   cases p <;> simp at p1
   exact ⟨_, rfl⟩
  obtain ⟨A, hA⟩ := hptr
  rw [hA] at p1
  simp only [Instr.loadAt, Instr.sureAddr, Sem.run_bind, Sem.run_pure, Result.andThen_ok] at p1
  simp only [List.mapM_cons, resF, Sem.run_bind, Sem.run_pure, Result.andThen_ok, hA, run_asAddr_some, p1, q1]
theorem results_run {S : RS} {a : Act} {w : World} {rs : List RV} (hrs : fn.results.toList.mapM (rvOf P) = some rs) (hf : rels S fr (shape H) a.tmps.toList) (h : WRel S H w) (hs : sat arS P H (resA arS σr fr H rs []) R) :
  ∃ v, (results fn a.tmps).run P w = .ok v w ∧ Done S H R v w := by
 obtain ⟨us, q1, v, q2, q3⟩ := resA_run hf h fn.results.toList rs [] [] hrs (by simp [rels]) hs
 refine ⟨_, ?_, .here h q2 q3⟩
 rw [results_eq, Sem.run_bind, Array.mapM_eq_mapM_toList, Sem.run_map, q1]
 simp only [Result.andThen_ok, Sem.run_pure, List.nil_append, List.size_toArray]
 split <;> rfl
theorem Done.trans {S0 S : RS} {H0 H : List ABlk} {v : Value} {w : World} (he : Ext S0 (shape H0) S (shape H)) (h : Done S H R v w) : Done S0 H0 R v w := by
 obtain ⟨S', x, H', h1, h2⟩ := h
 exact ⟨S', x, H', he.trans h1, h2⟩
theorem Run.ret {n : Nat} {rs : List RV} (ht : tab[n]? = some .ret) (hrs : fn.results.toList.mapM (rvOf P) = some rs) (h : sat arS P H (resA arS σr fr H rs []) R) : Run P fn tab H0 R (.c n :: K) fr H := by
 intro S0 S w a b k cs he hd hf hw hk
 cases hk with
 | cons h1 hk =>
  rename_i it k
  cases it <;> first | exact h1.elim | skip
  obtain rfl := At.is_ret h1 ht
  obtain ⟨v, q1, q2⟩ := results_run hrs hf hw h
  have hr : rnd P fn = false := by simp [rnd, hrs]
  refine ⟨a, w, .code .ret :: k, v, ?_, rfl, by rw [hr]; exact q1, q2.trans he⟩
  rw [hr]
  exact .one (stepR_ret (hd hr))
theorem Run.fin {rs : List RV} (hrs : fn.results.toList.mapM (rvOf P) = some rs) (h : sat arS P H (resA arS σr fr H rs []) R) : Run P fn tab H0 R [] fr H := by
 intro S0 S w a b k cs he hd hf hw hk
 cases hk
 obtain ⟨v, q1, q2⟩ := results_run hrs hf hw h
 have hr : rnd P fn = false := by simp [rnd, hrs]
 refine ⟨a, w, [], v, ?_, rfl, by rw [hr]; exact q1, q2.trans he⟩
 rw [hr]
 exact .one (stepR_end (hd hr))
theorem Run.finR (hr : rnd P fn = true) (h : R (.tup []) H) : Run P fn tab H0 R [] fr H := by
 intro S0 S w a b k cs he hd hf hw hk
 cases hk
 refine ⟨a, w, [], .tuple #[], ?_, rfl, by rw [hr]; rfl, S, .tup [], H, he, hw, by simp [rel, rels], h⟩
 rw [hr]
 exact Steps.refl _ _
theorem CallsA.enter {f : FuncId} {F : AFn} {body : Code} {args : List AV} (hfn : P.funcs[f]? = some fn) (hname : (fn.name == "runtime.NumGoroutine") = false) (hb : fn.body = some body) (hF : F.of P fn)
  (h : Run P fn F.tab H R [.c 0] (symL args ++ List.replicate (F.nt - args.length) .junk) H) : CallsA P f args H R := by
 refine ⟨⟨fn, hfn, hname, by rw [hb]; rfl⟩, fun S w vs hw hr cs => ?_⟩
 let b : Frame := { (default : Frame) with fn := f, kind := .normal }
 have henter : Frame.enter P f vs.toArray .normal = b.atR { tmps := vs.toArray ++ Array.replicate (fn.ntmps - vs.toArray.size) undef, defers := [] } [.code body] := by
  simp [Frame.enter, Frame.atR, hfn, hb, b]
  rfl
 obtain ⟨h1, h2, h3, h4⟩ := hF
 rw [hb] at h4
 simp only [Option.map_some, Option.some.injEq] at h4
 have hl := rels_length hr
 obtain ⟨a', w', todo, v, q1, q2, q3, q4⟩ := h S S w { tmps := vs.toArray ++ Array.replicate (fn.ntmps - vs.toArray.size) undef, defers := [] } b [.code body] cs (Ext.refl _ _) (fun _ => rfl) (by
  simp only [Array.toList_append, Array.toList_replicate, List.size_toArray]
  rw [hl, ← h2]
  refine rels_append (symL_rel hr) (rels_of_get (by simp) fun i c hi => ?_)
  rw [List.getElem?_replicate] at hi ⊢
  split at hi
  ·rename_i hlt
   injection hi with hi
   subst hi
   exact ⟨undef, by rw [if_pos hlt], by simp [rel]⟩
  ·cases hi) hw (.cons ⟨[], [], by simp [h4], rfl⟩ .nil)
 have hr : rnd P fn = false := by simp [rnd, h3]
 rw [hr] at q1 q3
 refine ⟨.returned v, w', { b.atR a' todo with mode := .returning }, ⟨v, rfl, q4⟩, ?_, rfl, rfl, q2, rfl, fn, hfn, q3⟩
 rw [henter]
 exact q1
def subL : List AV → List AV → Prop
 | [], [] => True
 | x :: xs, y :: ys => (y = .junk ∨ x = y) ∧ subL xs ys
 | _, _ => False
theorem subL_rels {S : RS} {T : Sh} : ∀ {xs ys : List AV} {vs : List Value}, subL xs ys → rels S xs T vs → rels S ys T vs
 | [], [], vs, _, h => h
 | x :: xs, y :: ys, vs, hs, h => by
  simp only [subL] at hs
  simp only [rels] at h ⊢
  obtain ⟨v, vs', h1, h2, h3⟩ := h
  refine ⟨v, vs', h1, ?_, subL_rels hs.2 h3⟩
  rcases hs.1 with rfl | rfl
  ·simp [rel]
  ·exact h2
 | [], _ :: _, _, h, _ => h.elim
 | _ :: _, [], _, h, _ => h.elim
theorem Run.sub {fr' : List AV} (h : Run P fn tab H0 R K fr' H) (hs : subL fr fr') : Run P fn tab H0 R K fr H := fun S0 S w a b k cs he hd hf hw hk => h S0 S w a b k cs he hd (subL_rels hs hf) hw hk
end
end Go.Ab

namespace Go.Ab
open Go
set_option linter.unusedVariables false
set_option linter.unusedSimpArgs false
variable {σr : RowF}
def satC (A : Ar) (C : FuncId → List AV → List ABlk → (AV → List ABlk → Prop) → Prop) (H : List ABlk) : Out → (AV → List ABlk → Prop) → Prop
 | .ok v H', K => K v H'
 | .need p o, K => A.nd p ∧ satC A C H o K
 | .ask p k, K => ∃ r, p r ∧ satC A C H (k r) K
 | .br b k, K => satC A C H (k b) K
 | .nilq neg n H', K => A.im (A.cmp .eql (A.ofN n) 0) true (K (.bool (!neg)) H') ∧ K (.bool neg) H'
 | .call f args, K => C f (unsL args) H fun r H' => K (sym r) H'
 | .bad, _ => False
theorem satC_sat {P : Program} {H : List ABlk} : ∀ {o : Out} {K : AV → List ABlk → Prop}, satC arS (CallsA P) H o K → sat arS P H o K
 | .ok _ _, _, h => h
 | .need _ _, _, h => ⟨h.1, satC_sat h.2⟩
 | .ask _ _, _, h => h.elim fun r hr => ⟨r, hr.1, satC_sat hr.2⟩
 | .br _ _, _, h => by simp only [satC] at h; simp only [sat]; exact satC_sat h
 | .nilq _ _ _, _, h => h
 | .call _ _, _, h => h
 | .bad, _, h => h
inductive GS where
 | yes | no | sym (t : Nat) (b : Bool) (want : Bool) | bad
def gst (fr : List AV) : Option (Option Nat × Bool) → GS
 | none => .yes
 | some (none, _) => .no
 | some (some t, want) => match ev fr (.t t), want with
  | .bool true, true => .yes
  | .bool false, false => .yes
  | .bool true, false => .no
  | .bool false, true => .no
  | .sb b, want => .sym t b want
  | .tup [], _ => .no
  | _, _ => .bad
section
variable (A : Ar) (σr : RowF) (C : FuncId → List AV → List ABlk → (AV → List ABlk → Prop) → Prop) (Rn : List AItem → List AV → List ABlk → Prop) (R : AV → List ABlk → Prop) (tab : List Node) (rs : List RV)
def pickOf (fr : List AV) : AO → Option (Nat × Bool × AV × AV)
 | .pick (.t t) a b => match ev fr (.t t) with
  | .sb s => some (t, s, ev (setL fr t (.bool true)) a, ev (setL fr t (.bool false)) b)
  | _ => none
 | _ => none
def yesG (m : Nat) (K : List AItem) (k : Nat) (o : AOp) (cont : List AV → List ABlk → Prop) (fr : List AV) (H : List ABlk) : Prop :=
 match pickOf fr o.op with
 | some (t, b, va, vb) => A.im b true (cont (putL (setL fr t (.bool true)) o.dst va) H) ∧ A.im b false (cont (putL (setL fr t (.bool false)) o.dst vb) H)
 | none => match exec1 A σr fr H o.op with
  | .ok v H' => cont (putL fr o.dst v) H'
  | .need p (.ok v H') => A.nd p ∧ cont (putL fr o.dst v) H'
  | out => satC A C H out fun v H' => Rn (.ops m (k + 1) :: K) (putL fr o.dst v) H'
def opsG (m : Nat) (K : List AItem) (fin : List AV → List ABlk → Prop) : List AOp → Nat → List AV → List ABlk → Prop
 | [], _, fr, H => fin fr H
 | o :: os, k, fr, H =>
  match gst fr o.guard with
  | .yes => yesG A σr C Rn m K k o (fun fr H => opsG m K fin os (k + 1) fr H) fr H
  | .no => opsG m K fin os (k + 1) (putL fr o.dst (.tup [])) H
  | .sym t b true => A.im b true (yesG A σr C Rn m K k o (fun fr H => opsG m K fin os (k + 1) fr H) (setL fr t (.bool true)) H) ∧ A.im b false (opsG m K fin os (k + 1) (putL (setL fr t (.bool false)) o.dst (.tup [])) H)
  | .sym t b false => A.im b false (yesG A σr C Rn m K k o (fun fr H => opsG m K fin os (k + 1) fr H) (setL fr t (.bool false)) H) ∧ A.im b true (opsG m K fin os (k + 1) (putL (setL fr t (.bool true)) o.dst (.tup [])) H)
  | .bad => False
def stopAt (m : Nat) : List Nat → Bool
 | [] => false
 | x :: xs => Nat.beq m x || stopAt m xs
def GT (st : List Nat) : Nat → List AItem → List AV → List ABlk → Prop
 | 0, K, fr, H => Rn K fr H
 | _ + 1, [], fr, H => satC A C H (resA A σr fr H rs []) R
 | n + 1, .blk _ :: K, fr, H => GT st n K fr H
 | _ + 1, .lp m :: K, fr, H => Rn (.lp m :: K) fr H
 | n + 1, .ops m k :: K, fr, H => match getL tab m with
  | some (.region l false) => opsG A σr C Rn m K (GT st n K) (dropL k l) k fr H
  | _ => False
 | n + 1, .c m :: K, fr, H => if stopAt m st = true then Rn (.c m :: K) fr H else match getL tab m with
  | some (.seq d) => GT st n (.c (m + 1) :: .c (m + d) :: K) fr H
  | some (.block id) => GT st n (.c (m + 1) :: .blk id :: K) fr H
  | some .loop => Rn (.c m :: K) fr H
  | some (.cond x d) => match ev fr x with
   | .bool true => GT st n (.c (m + 1) :: K) fr H
   | .bool false => GT st n (.c (m + d) :: K) fr H
   | .sb b => match x with
    | .t t => A.im b true (GT st n (.c (m + 1) :: K) (setL fr t (.bool true)) H) ∧ A.im b false (GT st n (.c (m + d) :: K) (setL fr t (.bool false)) H)
    | .c _ => False
   | _ => False
  | some (.region l false) => opsG A σr C Rn m K (GT st n K) l 0 fr H
  | some (.region _ true) => Rn (.c m :: K) fr H
  | some (.exit id) => match exitA id K with
   | some K' => GT st n K' fr H
   | none => False
  | some .skip => GT st n K fr H
  | some .ret => satC A C H (resA A σr fr H rs []) R
  | _ => False
def G (n : Nat) (K : List AItem) (fr : List AV) (H : List ABlk) : Prop := GT A σr C Rn R tab rs [] n K fr H
end
section
variable {P : Program} {fn : Func} {tab : List Node} {H0 : List ABlk} {R : AV → List ABlk → Prop} {K : List AItem} {fr : List AV} {H : List ABlk} {rs : List RV}
theorem set_known {S : RS} {T : Sh} {vs : List Value} {t : Nat} {b : Bool} (hf : rels S fr T vs) (h : ev fr (.t t) = .sb b) : rels S (setL fr t (.bool b)) T vs := by
 simp only [ev, getL_eq] at h
 cases hx : fr[t]? with
 | none => rw [hx] at h; simp at h
 | some c =>
  rw [hx] at h
  simp at h
  subst h
  obtain ⟨v, h1, h2⟩ := rels_get hf hx
  rw [setL_eq]
  have := rels_set hf t (c := .bool b) (v := v) (by simpa only [rel] using h2)
  have e : vs.set t v = vs := by
   apply List.ext_getElem?
   intro i
   rw [List.getElem?_set]
   split
   ·rename_i hi
    subst hi
    rw [if_pos (List.getElem?_eq_some_iff.1 h1).1, h1]
   ·rfl
  rwa [e] at this
theorem Run.known {t : Nat} {b : Bool} (hb : ev fr (.t t) = .sb b) (h : Run P fn tab H0 R K (setL fr t (.bool b)) H) : Run P fn tab H0 R K fr H :=
 fun S0 S w a bb k cs he hd hf hw hk => h S0 S w a bb k cs he hd (set_known hf hb) hw hk
theorem gst_yes {g : Option (Option Nat × Bool)} (h : gst fr g = .yes) : gOk fr g true := by
 cases g with
 | none => rfl
 | some g =>
  obtain ⟨t, want⟩ := g
  cases t with
  | none => cases h
  | some t =>
   simp only [gst] at h
   simp only [gOk, if_true]
   cases he : ev fr (.t t) <;> rw [he] at h <;> try (cases want <;> cases h)
   ·rename_i b
    cases b <;> cases want <;> simp_all
   ·rename_i vs
    cases vs <;> cases want <;> simp_all
theorem gst_no {g : Option (Option Nat × Bool)} (h : gst fr g = .no) : gOk fr g false := by
 cases g with
 | none => cases h
 | some g =>
  obtain ⟨t, want⟩ := g
  cases t with
  | none => rfl
  | some t =>
   simp only [gst] at h
   simp only [gOk, Bool.false_eq_true, if_false]
   cases he : ev fr (.t t) <;> rw [he] at h <;> try (cases want <;> cases h)
   ·rename_i b
    cases b <;> cases want <;> simp_all
   ·rename_i vs
    cases vs <;> cases want <;> simp_all
theorem gst_sym {g : Option (Option Nat × Bool)} {t : Nat} {b want : Bool} (h : gst fr g = .sym t b want) : ev fr (.t t) = .sb b ∧ g = some (some t, want) := by
 cases g with
 | none => cases h
 | some g =>
  obtain ⟨t', want⟩ := g
  cases t' with
  | none => cases h
  | some t' =>
   simp only [gst] at h
   cases he : ev fr (.t t') <;> rw [he] at h <;> try (cases want <;> cases h)
   all_goals first
    | exact ⟨he, rfl⟩
    | (rename_i b'; cases b' <;> cases want <;> cases h; done)
    | (rename_i vs; cases vs <;> cases want <;> simp_all; done)
theorem ev_set {t : Nat} {b c : Bool} (h : ev fr (.t t) = .sb b) : ev (setL fr t (.bool c)) (.t t) = .bool c := by
 simp only [ev, getL_eq, setL_eq] at h ⊢
 cases hx : fr[t]? with
 | none => rw [hx] at h; simp at h
 | some x =>
  have := (List.getElem?_eq_some_iff.1 hx).1
  simp [this]
theorem gOk_set {t : Nat} {b c want : Bool} (h : ev fr (.t t) = .sb b) : gOk (setL fr t (.bool c)) (some (some t, want)) (c == want) := by
 simp only [gOk]
 refine .inl ?_
 rw [ev_set h]
 cases c <;> cases want <;> rfl
theorem pickOf_spec {ao : AO} {t : Nat} {s : Bool} {va vb : AV} (h : pickOf fr ao = some (t, s, va, vb)) : ∃ a b, ao = .pick (.t t) a b ∧ ev fr (.t t) = .sb s ∧ va = ev (setL fr t (.bool true)) a ∧ vb = ev (setL fr t (.bool false)) b := by
 unfold pickOf at h
 split at h
 ·split at h
  ·rename_i he
   injection h with h
   injection h with h1 h
   injection h with h2 h
   injection h with h3 h4
   subst h1 h2 h3 h4
   exact ⟨_, _, rfl, he, rfl, rfl⟩
  ·cases h
 ·cases h
theorem yesG_sound {m k : Nat} {l : List AOp} {d : Bool} {o : AOp} (ht : tab[m]? = some (.region l d)) (ho : l[k]? = some o) {cont : List AV → List ABlk → Prop} (hc : ∀ fr H, cont fr H → Run P fn tab H0 R (.ops m (k + 1) :: K) fr H) (hg : gOk fr o.guard true) (hg2 : ∀ t b c, ev fr (.t t) = .sb b → gOk (setL fr t (.bool c)) o.guard true)
  (h : yesG arS σr (CallsA P) (Run P fn tab H0 R) m K k o cont fr H) : Run P fn tab H0 R (.ops m k :: K) fr H := by
 unfold yesG at h
 split at h
 ·rename_i t b va vb hp
  obtain ⟨x, y, hao, he, rfl, rfl⟩ := pickOf_spec hp
  cases b
  ·refine Run.known he (Run.op (σr := σr) ht ho (hg2 _ _ _ he) ?_)
   rw [hao]
   simp only [exec1, ev_set he]
   exact hc _ _ (h.2 rfl)
  ·refine Run.known he (Run.op (σr := σr) ht ho (hg2 _ _ _ he) ?_)
   rw [hao]
   simp only [exec1, ev_set he]
   exact hc _ _ (h.1 rfl)
 ·refine Run.op (σr := σr) ht ho hg ?_
  split at h
  ·rename_i v H' hx
   rw [hx]
   exact hc _ _ h
  ·rename_i p v H' hx
   rw [hx]
   exact ⟨h.1, hc _ _ h.2⟩
  ·exact satC_sat h
theorem ev_set_ne {t t' : Nat} {x : AV} (h : t' ≠ t) : ev (setL fr t x) (.t t') = ev fr (.t t') := by
 simp only [ev, getL_eq, setL_eq]
 rw [List.getElem?_set_ne (fun e => h e.symm)]
theorem gOk_keep {g : Option (Option Nat × Bool)} {want : Bool} (hg : gOk fr g want) : ∀ t b c, ev fr (.t t) = .sb b → (g = some (some t, true) ∨ g = some (some t, false) → gOk (setL fr t (.bool c)) g want) → gOk (setL fr t (.bool c)) g want := by
 intro t b c he hs
 cases g with
 | none => exact hg
 | some g =>
  obtain ⟨t', w⟩ := g
  cases t' with
  | none => exact hg
  | some t' =>
   by_cases ht : t' = t
   ·subst ht
    cases w
    ·exact hs (.inr rfl)
    ·exact hs (.inl rfl)
   ·simp only [gOk] at hg ⊢
    rw [ev_set_ne ht]
    exact hg
theorem opsG_sound {m : Nat} {l : List AOp} {d : Bool} (ht : tab[m]? = some (.region l d)) {fin : List AV → List ABlk → Prop} (hfin : ∀ fr H, fin fr H → Run P fn tab H0 R K fr H) : ∀ (os : List AOp) (k : Nat) (fr : List AV) (H : List ABlk), os = l.drop k →
  opsG arS σr (CallsA P) (Run P fn tab H0 R) m K fin os k fr H → Run P fn tab H0 R (.ops m k :: K) fr H
 | [], k, fr, H, he, h => Run.opsEnd ht (by have := congrArg List.length he; simp at this; omega) (hfin fr H h)
 | o :: os, k, fr, H, he, h => by
  have ho : l[k]? = some o := by
   have : (l.drop k)[0]? = some o := by rw [← he]; rfl
   simpa using this
  have hos : os = l.drop (k + 1) := by
   have : (l.drop k).drop 1 = os := by rw [← he]; rfl
   rw [← this, List.drop_drop]
  have hc : ∀ fr H, opsG arS σr (CallsA P) (Run P fn tab H0 R) m K fin os (k + 1) fr H → Run P fn tab H0 R (.ops m (k + 1) :: K) fr H := fun fr H h => opsG_sound ht hfin os (k + 1) fr H hos h
  unfold opsG at h
  cases hg : gst fr o.guard with
  | yes =>
   rw [hg] at h
   have hgy := gst_yes hg
   refine yesG_sound ht ho hc hgy (fun t b c he => gOk_keep hgy t b c he fun hs => ?_) h
   exfalso
   rcases hs with hs | hs <;> (rw [hs] at hg; simp only [gst, he] at hg; cases hg)
  | no =>
   rw [hg] at h
   exact Run.opSkip ht ho (gst_no hg) (hc _ _ h)
  | sym t b want =>
   rw [hg] at h
   obtain ⟨hsy, hgd⟩ := gst_sym hg
   have hk : ∀ c, gOk (setL fr t (.bool c)) o.guard (c == want) := fun c => by rw [hgd]; exact gOk_set hsy
   have hk2 : ∀ c, gOk (setL fr t (.bool c)) o.guard true → ∀ t' b' c', ev (setL fr t (.bool c)) (.t t') = .sb b' → gOk (setL (setL fr t (.bool c)) t' (.bool c')) o.guard true := fun c hc t' b' c' he => by
    refine gOk_keep hc t' b' c' he fun hs => ?_
    exfalso
    have : t' = t := by rw [hgd] at hs; rcases hs with hs | hs <;> (injection hs with hs; injection hs with hs _; injection hs with hs; exact hs.symm)
    subst this
    rw [ev_set hsy] at he
    cases he
   cases want <;> cases b
   ·exact Run.known hsy (yesG_sound ht ho hc (hk false) (hk2 false (hk false)) (h.1 rfl))
   ·exact Run.known hsy (Run.opSkip ht ho (hk true) (hc _ _ (h.2 rfl)))
   ·exact Run.known hsy (Run.opSkip ht ho (hk false) (hc _ _ (h.2 rfl)))
   ·exact Run.known hsy (yesG_sound ht ho hc (hk true) (hk2 true (hk true)) (h.1 rfl))
  | bad => rw [hg] at h; exact h.elim
theorem GT_sound (st : List Nat) (hrs : fn.results.toList.mapM (rvOf P) = some rs) : ∀ (n : Nat) (K : List AItem) (fr : List AV) (H : List ABlk), GT arS σr (CallsA P) (Run P fn tab H0 R) R tab rs st n K fr H → Run P fn tab H0 R K fr H
 | 0, K, fr, H, h => h
 | n + 1, [], fr, H, h => Run.fin hrs (satC_sat h)
 | n + 1, .blk id :: K, fr, H, h => Run.blk (GT_sound st hrs n K fr H h)
 | n + 1, .lp m :: K, fr, H, h => h
 | n + 1, .ops m k :: K, fr, H, h => by
  simp only [GT, getL_eq] at h
  split at h
  ·rename_i l ht
   exact opsG_sound ht (fun fr H => GT_sound st hrs n K fr H) _ k fr H (dropL_eq k l) h
  ·exact h.elim
 | n + 1, .c m :: K, fr, H, h => by
  unfold GT at h
  split at h
  ·exact h
  simp only [getL_eq] at h
  split at h
  ·rename_i d ht
   exact Run.seq ht (GT_sound st hrs n _ fr H h)
  ·rename_i id ht
   exact Run.block ht (GT_sound st hrs n _ fr H h)
  ·exact h
  ·rename_i x d ht
   split at h
   ·rename_i hx
    exact Run.cond (t := true) ht (.inl hx) (GT_sound st hrs n _ fr H h)
   ·rename_i hx
    exact Run.cond (t := false) ht (.inl hx) (GT_sound st hrs n _ fr H h)
   ·rename_i b hx
    split at h
    ·rename_i t
     cases b
     ·exact Run.cond (t := false) ht (.inr hx) (Run.known hx (GT_sound st hrs n _ _ H (h.2 rfl)))
     ·exact Run.cond (t := true) ht (.inr hx) (Run.known hx (GT_sound st hrs n _ _ H (h.1 rfl)))
    ·exact h.elim
   ·exact h.elim
  ·rename_i l ht
   exact Run.region ht (opsG_sound ht (fun fr H => GT_sound st hrs n K fr H) l 0 fr H rfl h)
  ·exact h
  ·rename_i id ht
   split at h
   ·rename_i K' he
    exact Run.exit ht he (GT_sound st hrs n _ fr H h)
   ·exact h.elim
  ·rename_i ht
   exact Run.skip ht (GT_sound st hrs n _ fr H h)
  ·rename_i ht
   exact Run.ret ht hrs (satC_sat h)
  ·exact h.elim
theorem G_sound (hrs : fn.results.toList.mapM (rvOf P) = some rs) (n : Nat) (K : List AItem) (fr : List AV) (H : List ABlk) (h : G arS σr (CallsA P) (Run P fn tab H0 R) R tab rs n K fr H) : Run P fn tab H0 R K fr H :=
 GT_sound [] hrs n K fr H h
theorem Run.go (σr : RowF) (n : Nat) (hrs : fn.results.toList.mapM (rvOf P) = some rs)
  (h : ∀ A C Rn RR, A = arS → C = CallsA P → Rn = Run P fn tab H0 R → RR = R → G A σr C Rn RR tab rs n K fr H) : Run P fn tab H0 R K fr H :=
 G_sound hrs n K fr H (h _ _ _ _ rfl rfl rfl rfl)
theorem CallsA.mono {f : FuncId} {args : List AV} {R' : AV → List ABlk → Prop} (h : CallsA P f args H R) (hm : ∀ r H', R r H' → R' r H') : CallsA P f args H R' :=
 ⟨h.1, fun S w vs hw hr => (h.2 S w vs hw hr).mono fun e w' ⟨u, he, S', v, H', h1, h2, h3, h4⟩ => ⟨u, he, S', v, H', h1, h2, h3, hm _ _ h4⟩⟩
end
end Go.Ab

namespace Go.Ab
open Go
set_option linter.unusedVariables false
set_option linter.unusedSimpArgs false
structure AFn.at (P : Program) (i : Nat) (fn : Func) (F : AFn) : Prop where
 func : P.funcs[i]? = some fn
 name : (fn.name == "runtime.NumGoroutine") = false
 res : fn.results.toList.mapM (rvOf P) = some F.res
 np : F.np = fn.params.size
 nt : F.nt = fn.ntmps
 tab : fn.body.map (flat P) = some F.tab
end Go.Ab

namespace Go.Ab
open Go
set_option linter.unusedVariables false
set_option linter.unusedSimpArgs false
mutual
def blw (n : Nat) : AV → Bool
 | .ptr id _ _ _ => Nat.blt id n
 | .bptr id _ => Nat.blt id n
 | .sl id _ _ _ => Nat.blt id n
 | .map id => Nat.blt id n
 | .fn _ a b => blws n a && blws n b
 | .iface _ x => blw n x
 | .agg cs => blws n cs
 | .tup cs => blws n cs
 | _ => true
def blws (n : Nat) : List AV → Bool
 | [] => true
 | c :: cs => blw n c && blws n cs
end
theorem blws_get {n : Nat} : ∀ {cs : List AV} {i : Nat} {c : AV}, blws n cs = true → cs[i]? = some c → blw n c = true
 | [], i, c, _, h => by simp at h
 | c0 :: cs, i, c, h0, h => by
  simp only [blws, Bool.and_eq_true] at h0
  cases i with
  | zero => simp at h; subst h; exact h0.1
  | succ i => simp at h; exact blws_get h0.2 h
mutual
theorem blw_pur (n : Nat) : ∀ (c : AV), pur c = true → blw n c = true
 | .int .., _ => rfl
 | .bool .., _ => rfl
 | .sb .., _ => rfl
 | .str .., _ => rfl
 | .nilp, _ => rfl
 | .nils, _ => rfl
 | .nilf, _ => rfl
 | .nili, _ => rfl
 | .nilm, _ => rfl
 | .junk, _ => rfl
 | .iptr _, _ => rfl
 | .inl .., _ => rfl
 | .ptr .., h => by simp [pur] at h
 | .bptr .., h => by simp [pur] at h
 | .sl .., h => by simp [pur] at h
 | .map _, h => by simp [pur] at h
 | .fn _ a b, h => by simp only [pur, Bool.and_eq_true] at h; simp only [blw, Bool.and_eq_true]; exact ⟨blws_purs n a h.1, blws_purs n b h.2⟩
 | .iface _ x, h => by simp only [pur] at h; simp only [blw]; exact blw_pur n x h
 | .agg cs, h => by simp only [pur] at h; simp only [blw]; exact blws_purs n cs h
 | .tup cs, h => by simp only [pur] at h; simp only [blw]; exact blws_purs n cs h
theorem blws_purs (n : Nat) : ∀ (cs : List AV), purs cs = true → blws n cs = true
 | [], _ => rfl
 | c :: cs, h => by simp only [purs, Bool.and_eq_true] at h; simp only [blws, Bool.and_eq_true]; exact ⟨blw_pur n c h.1, blws_purs n cs h.2⟩
end
section
variable {S S' : RS} {T T' : Sh} {n : Nat}
theorem fro_ext (hφ : ∀ B o v, S.φ B o = some v → S'.φ B o = some v) : Ext0 S noSh S' noSh := ⟨hφ, fun _ _ h => (by cases h), fun _ h => (by cases h), fun _ _ _ h => (by cases h)⟩
mutual
theorem rel_loc (hT : ∀ id, id < n → T' id = T id ∧ S'.ρ id = S.ρ id) (hφ : ∀ B o v, S.φ B o = some v → S'.φ B o = some v) : ∀ (c : AV) (v : Value), blw n c = true → rel S c T v → rel S' c T' v
 | .int .., _, _, h => h
 | .bool .., _, _, h => h
 | .sb .., _, _, h => h
 | .str .., _, _, h => h
 | .nilp, _, _, h => h
 | .nils, _, _, h => h
 | .nilf, _, _, h => h
 | .nili, _, _, h => h
 | .nilm, _, _, h => h
 | .junk, _, _, _ => trivial
 | .ptr id t r o, v, hb, h => by
  simp only [blw] at hb
  obtain ⟨h1, h2⟩ := hT id (Nat.blt_eq.mp hb)
  simp only [rel] at h ⊢
  rw [h1, h2]
  exact h
 | .bptr id o, v, hb, h => by
  simp only [blw] at hb
  obtain ⟨h1, h2⟩ := hT id (Nat.blt_eq.mp hb)
  simp only [rel] at h ⊢
  rw [h1, h2]
  exact h
 | .iptr cs, v, _, h => by
  simp only [rel] at h ⊢
  obtain ⟨B, o, h1, h2⟩ := h
  exact ⟨B, o, h1, fz_ext0 cs B o (fro_ext hφ) h2⟩
 | .sl id t o k, v, hb, h => by
  simp only [blw] at hb
  obtain ⟨h1, h2⟩ := hT id (Nat.blt_eq.mp hb)
  simp only [rel] at h ⊢
  rw [h1, h2]
  exact h
 | .inl sz rows, v, _, h => by
  simp only [rel] at h ⊢
  obtain ⟨a, c, h1, h2, h3⟩ := h
  refine ⟨a, c, h1, h2, ?_⟩
  rcases h3 with h3 | ⟨B, o, h3, h4⟩
  ·exact .inl h3
  ·exact .inr ⟨B, o, h3, fzs_ext0 rows B o sz (fro_ext hφ) h4⟩
 | .fn f fi ca, v, hb, h => by
  simp only [blw, Bool.and_eq_true] at hb
  simp only [rel] at h ⊢
  obtain ⟨a, b, h1, h2, h3⟩ := h
  exact ⟨a, b, h1, rels_loc hT hφ fi _ hb.1 h2, rels_loc hT hφ ca _ hb.2 h3⟩
 | .iface t x, v, hb, h => by
  simp only [blw] at hb
  simp only [rel] at h ⊢
  obtain ⟨u, h1, h2⟩ := h
  exact ⟨u, h1, rel_loc hT hφ x u hb h2⟩
 | .agg cs, v, hb, h => by
  simp only [blw] at hb
  simp only [rel] at h ⊢
  obtain ⟨us, h1, h2, h3⟩ := h
  exact ⟨us, h1, rels_loc hT hφ cs _ hb h2, h3⟩
 | .tup cs, v, hb, h => by
  simp only [blw] at hb
  simp only [rel] at h ⊢
  obtain ⟨us, h1, h2⟩ := h
  exact ⟨us, h1, rels_loc hT hφ cs _ hb h2⟩
 | .map id, v, hb, h => by
  simp only [blw] at hb
  obtain ⟨h1, h2⟩ := hT id (Nat.blt_eq.mp hb)
  simp only [rel] at h ⊢
  rw [h1, h2]
  exact h
theorem rels_loc (hT : ∀ id, id < n → T' id = T id ∧ S'.ρ id = S.ρ id) (hφ : ∀ B o v, S.φ B o = some v → S'.φ B o = some v) : ∀ (cs : List AV) (vs : List Value), blws n cs = true → rels S cs T vs → rels S' cs T' vs
 | [], _, _, h => h
 | c :: cs, vs, hb, h => by
  simp only [blws, Bool.and_eq_true] at hb
  simp only [rels] at h ⊢
  obtain ⟨v, vs', h1, h2, h3⟩ := h
  exact ⟨v, vs', h1, rel_loc hT hφ c v hb.1 h2, rels_loc hT hφ cs vs' hb.2 h3⟩
end
end
def ABlk.cells : ABlk → List AV
 | .box _ cs => cs
 | .arr _ _ rows => rows.flatten
 | .mpb _ => []
 | .dead _ => []
def ABlk.blw (n : Nat) (b : ABlk) : Prop := ∀ c ∈ b.cells, Ab.blw n c = true
theorem BlkRel.loc {S S' : RS} {T T' : Sh} {n : Nat} {b : ABlk} {id : Nat} {w w' : World} (h : BlkRel S T b id w) (hT : ∀ id, id < n → T' id = T id ∧ S'.ρ id = S.ρ id) (hφ : ∀ B o v, S.φ B o = some v → S'.φ B o = some v)
  (hb : b.blw n) (hρ : b.live = true → S'.ρ id = S.ρ id) (hw : ∀ B c, b.live = true → S.ρ id = some (B, c) → B < w.heap.size → Own S B → w'.heap[B]? = w.heap[B]? ∧ Own S' B) : BlkRel S' T' b id w' := by
 cases b with
 | box e' cs =>
  obtain ⟨B, c, arr, h1, h2, h3, h4, h5⟩ := h
  obtain ⟨k1, k2⟩ := hw B c rfl h1 (block_lt h2) h5
  refine ⟨B, c, arr, (hρ rfl).trans h1, k1.trans h2, ?_, h4, k2⟩
  refine rels_of_get (rels_length h3) fun i c hi => ?_
  obtain ⟨v, g1, g2⟩ := rels_get h3 hi
  exact ⟨v, g1, rel_loc hT hφ c v (hb c (List.mem_of_getElem? hi)) g2⟩
 | arr e' sz rows =>
  obtain ⟨h0, h⟩ := h
  refine ⟨h0, ?_⟩
  rw [hρ rfl]
  cases hr : S.ρ id with
  | none => rw [hr] at h; exact h
  | some p =>
   obtain ⟨B, c⟩ := p
   rw [hr] at h
   obtain ⟨arr, h2, h3, h4, h5, h6⟩ := h
   obtain ⟨k1, k2⟩ := hw B c rfl hr (block_lt h2) h6
   refine ⟨arr, k1.trans h2, h3, h4, fun i r hi => ?_, k2⟩
   obtain ⟨g1, g2⟩ := h5 i r hi
   refine ⟨g1, fun j c hj => ?_⟩
   obtain ⟨u, m1, m2, m3⟩ := g2 j c hj
   exact ⟨u, m1, rel_loc hT hφ c u (hb c (List.mem_flatten.2 ⟨r, List.mem_of_getElem? hi, List.mem_of_getElem? hj⟩)) m2, m3⟩
 | mpb rows =>
  obtain ⟨B, c, es, clock, h1, h2, h3, h5⟩ := h
  obtain ⟨k1, k2⟩ := hw B c rfl h1 (block_lt h2) h5
  have hx : Ext0 S noSh S' noSh := ⟨hφ, fun _ _ h => (by cases h), fun _ h => (by cases h), fun _ _ _ h => (by cases h)⟩
  exact ⟨B, c, es, clock, (hρ rfl).trans h1, k1.trans h2, entR_ext hx h3, k2⟩
 | dead s => trivial
section
variable {P : Program} {f : FuncId} {args : List AV} {Hp : List ABlk} {R : AV → List ABlk → Prop}
theorem shape_left (H L : List ABlk) (id : Nat) (h : id < H.length) : shape (H ++ L) id = shape H id := shape_append H L id h
theorem shape_right (H L : List ABlk) (id : Nat) (h : H.length ≤ id) : shape (H ++ L) id = shape L (id - H.length) := by
 simp [shape, List.getElem?_append_right h]
theorem CallsA.frame (h : CallsA P f args Hp R) (hl : ∀ r H', R r H' → H'.length = Hp.length) (ha : blws Hp.length args = true) (hH : ∀ b ∈ Hp, b.blw Hp.length) (rest : List ABlk) :
  CallsA P f args (Hp ++ rest) (fun r H' => ∃ Hp', R r Hp' ∧ H' = Hp' ++ rest) := by
 refine ⟨h.1, fun S w vs hw hr => ?_⟩
 let D1 : Nat → Prop := fun k => k < w.heap.size ∧ ¬ ∃ id c b, Hp[id]? = some b ∧ b.live = true ∧ S.ρ id = some (k, c)
 let S1 : RS := { W0 := w, D := D1, ρ := S.ρ, φ := S.φ }
 have hT1 : ∀ id, id < Hp.length → shape Hp id = shape (Hp ++ rest) id ∧ S1.ρ id = S.ρ id := fun id hid => ⟨(shape_left _ _ _ hid).symm, rfl⟩
 have hget : ∀ {id b}, Hp[id]? = some b → (Hp ++ rest)[id]? = some b := fun {id b} hb => by
  have := get_lt hb
  rw [List.getElem?_append_left this]; exact hb
 have hw1 : WRel S1 Hp w := by
  refine ⟨rfl, rfl, rfl, Nat.le_refl _, fun k hk => ⟨hk.1, rfl⟩, hw.fro, hw.gl, fun id b hb => ?_, fun i j b b' B c c' hi hj li lj hBi hBj => ?_⟩
  ·refine (hw.blk id b (hget hb)).loc hT1 (fun _ _ _ h => h) (hH b (List.mem_of_getElem? hb)) (fun _ => rfl) (fun B c hl hB _ ho => ⟨rfl, fun hd => ?_, ho.2⟩)
   exact hd.2 ⟨id, c, b, hb, hl, hB⟩
  ·exact hw.inj i j b b' B c c' (hget hi) (hget hj) li lj hBi hBj
 have hr1 : rels S1 args (shape Hp) vs := rels_loc hT1 (fun _ _ _ h => h) args vs ha hr
 refine (h.2 S1 w vs hw1 hr1).mono fun e w' ⟨u, he, S2, r, Hp', q1, q2, q3, q4⟩ => ⟨u, he, ?_⟩
 have hlen := hl r Hp' q4
 let S' : RS := { W0 := S.W0, D := S.D, ρ := fun id => if id < Hp.length then S2.ρ id else S.ρ id, φ := S2.φ }
 have hW2 : S2.W0 = w := q1.W0
 have hD2 : S2.D = D1 := q1.D
 have hkeep : ∀ k, D1 k → w'.heap[k]? = w.heap[k]? := fun k hk => by
  have := (q2.prot k (by rw [hD2]; exact hk)).2
  rw [hW2] at this
  exact this
 have hDD : ∀ k, S.D k → D1 k := fun k hk => ⟨Nat.lt_of_lt_of_le (hw.prot k hk).1 hw.size, fun ⟨id, c, b, hb, hl, hρ⟩ => (hw.place_lt (hget hb) hl hρ).2.1 hk⟩
 have hrest : ∀ {id b B c}, Hp.length ≤ id → (Hp ++ rest)[id]? = some b → b.live = true → S.ρ id = some (B, c) → D1 B := fun {id b B c} hge hb hl hρ => by
  refine ⟨(hw.place_lt hb hl hρ).1, fun ⟨id', c', b', hb', hl', hρ'⟩ => ?_⟩
  have := hw.inj id id' b b' B c c' hb (hget hb') hl hl' hρ hρ'
  have := get_lt hb'
  omega
 have hshape : ∀ id, id < Hp.length → shape (Hp' ++ rest) id = shape Hp' id := fun id hid => shape_left _ _ _ (by omega)
 have hshape' : ∀ id, ¬ id < Hp.length → shape (Hp' ++ rest) id = shape (Hp ++ rest) id := fun id hid => by
  rw [shape_right _ _ _ (by omega), shape_right _ _ _ (by omega), hlen]
 have hext : Ext S (shape (Hp ++ rest)) S' (shape (Hp' ++ rest)) := by
  refine ⟨rfl, rfl, q1.fro, fun B o v hv => ?_, fun id n hn => ?_, fun id hn => ?_, fun id m sz hn => ?_⟩
  ·rcases q1.fnw B o v hv with h1 | h1
   ·exact .inl h1
   ·exact .inr fun hd => h1 (hDD B hd)
  ·by_cases hid : id < Hp.length
   ·rw [shape_left _ _ _ hid] at hn
    obtain ⟨a, b⟩ := q1.box id n hn
    exact ⟨by rw [hshape id hid]; exact a, by simp only [S', if_pos hid]; exact b⟩
   ·exact ⟨by rw [hshape' id hid]; exact hn, by simp only [S', if_neg hid]⟩
  ·by_cases hid : id < Hp.length
   ·rw [shape_left _ _ _ hid] at hn
    obtain ⟨a, b⟩ := q1.mp id hn
    exact ⟨by rw [hshape id hid]; exact a, by simp only [S', if_pos hid]; exact b⟩
   ·exact ⟨by rw [hshape' id hid]; exact hn, by simp only [S', if_neg hid]⟩
  ·by_cases hid : id < Hp.length
   ·rw [shape_left _ _ _ hid] at hn
    obtain ⟨m', a, b, c⟩ := q1.row id m sz hn
    exact ⟨m', by rw [hshape id hid]; exact a, b, fun hm => by simp only [S', if_pos hid]; exact c hm⟩
   ·exact ⟨m, by rw [hshape' id hid]; exact hn, Nat.le_refl _, fun _ => by simp only [S', if_neg hid]⟩
 have hext2 : Ext0 S2 (shape Hp') S' (shape (Hp' ++ rest)) := by
  have key : ∀ id s, shape Hp' id = some s → shape (Hp' ++ rest) id = some s ∧ S'.ρ id = S2.ρ id := fun id s hs => by
   have := shape_lt hs
   exact ⟨by rw [shape_left _ _ _ this]; exact hs, by simp only [S']; rw [if_pos (by omega)]⟩
  exact ⟨fun _ _ _ h => h, fun id n hn => key id _ hn, fun id hn => key id _ hn, fun id m sz hn => ⟨m, (key id _ hn).1, Nat.le_refl _, fun _ => (key id _ hn).2⟩⟩
 refine ⟨S', r, Hp' ++ rest, hext, ?_, rel_ext0 r _ _ u hext2 q3, Hp', q4, rfl⟩
 have hsz : w.heap.size ≤ w'.heap.size := by have := q2.size; rw [hW2] at this; exact this
 have hOwn : ∀ B, Own S2 B → Own S' B := fun B ho => ⟨fun hd => ho.1 (by rw [hD2]; exact hDD B hd), ho.2⟩
 refine ⟨?_, ?_, ?_, Nat.le_trans hw.size hsz, fun k hk => ?_, q2.fro, q2.gl, fun id b hb => ?_, fun i j b b' B c c' hi hj li lj hBi hBj => ?_⟩
 ·have := q2.os; rw [hW2] at this; exact this.trans hw.os
 ·have := q2.tape; rw [hW2] at this; exact this.trans hw.tape
 ·have := q2.output; rw [hW2] at this; exact this.trans hw.output
 ·obtain ⟨a, b⟩ := hw.prot k hk
  exact ⟨a, (hkeep k (hDD k hk)).trans b⟩
 ·by_cases hid : id < Hp.length
  ·have hb' : Hp'[id]? = some b := by rw [List.getElem?_append_left (by omega)] at hb; exact hb
   have h1 := q2.blk id b hb'
   cases b with
   | box e' cs =>
    obtain ⟨B, c, arr, h1, h2, h3, h4, h5⟩ := h1
    exact ⟨B, c, arr, by simp only [S', if_pos hid]; exact h1, h2, rels_ext0 _ _ _ _ hext2 h3, h4, hOwn B h5⟩
   | arr e' sz rows =>
    obtain ⟨h0, h1⟩ := h1
    refine ⟨h0, ?_⟩
    simp only [S', if_pos hid]
    cases hr : S2.ρ id with
    | none => rw [hr] at h1; exact h1
    | some p =>
     obtain ⟨B, c⟩ := p
     rw [hr] at h1
     obtain ⟨arr, h2, h3, h4, h5, h6⟩ := h1
     refine ⟨arr, h2, h3, h4, fun i r hi => ?_, hOwn B h6⟩
     obtain ⟨g1, g2⟩ := h5 i r hi
     refine ⟨g1, fun j c hj => ?_⟩
     obtain ⟨u, m1, m2, m3⟩ := g2 j c hj
     exact ⟨u, m1, rel_ext0 c _ _ u hext2 m2, m3⟩
   | mpb rows =>
    obtain ⟨B, c, es, clock, h1, h2, h3, h5⟩ := h1
    exact ⟨B, c, es, clock, by simp only [S', if_pos hid]; exact h1, h2, entR_ext hext2.noSh h3, hOwn B h5⟩
   | dead s => trivial
  ·have hb' : (Hp ++ rest)[id]? = some b := by
    rw [List.getElem?_append_right (by omega)] at hb ⊢
    rw [← hlen]; exact hb
   refine (hw.blk id b hb').keep hext (fun _ => by simp only [S', if_neg hid]) (fun B c hl hB _ ho => ?_)
   have hd := hrest (by omega) hb' hl hB
   refine ⟨hkeep B hd, ho.1, fun o => ?_⟩
   cases hv : S'.φ B o with
   | none => rfl
   | some v =>
    rcases q1.fnw B o v hv with h1 | h1
    ·have h1 : S.φ B o = some v := h1
     rw [ho.2 o] at h1; cases h1
    ·exact absurd hd h1
 ·have back : ∀ {id b}, (Hp' ++ rest)[id]? = some b → ¬ id < Hp.length → (Hp ++ rest)[id]? = some b := fun {id b} hb hid => by
   rw [List.getElem?_append_right (by omega)] at hb ⊢
   rw [← hlen]; exact hb
  have front : ∀ {id b}, (Hp' ++ rest)[id]? = some b → id < Hp.length → Hp'[id]? = some b := fun {id b} hb hid => by
   rwa [List.getElem?_append_left (by omega)] at hb
  by_cases h1 : i < Hp.length <;> by_cases h2 : j < Hp.length
  ·simp only [S', if_pos h1] at hBi
   simp only [S', if_pos h2] at hBj
   exact q2.inj i j b b' B c c' (front hi h1) (front hj h2) li lj hBi hBj
  ·simp only [S', if_pos h1] at hBi
   simp only [S', if_neg h2] at hBj
   have hd := hrest (by omega) (back hj h2) lj hBj
   exact absurd (by rw [hD2]; exact hd) (q2.place_lt (front hi h1) li hBi).2.1
  ·simp only [S', if_neg h1] at hBi
   simp only [S', if_pos h2] at hBj
   have hd := hrest (by omega) (back hi h1) li hBi
   exact absurd (by rw [hD2]; exact hd) (q2.place_lt (front hj h2) lj hBj).2.1
  ·simp only [S', if_neg h1] at hBi
   simp only [S', if_neg h2] at hBj
   exact hw.inj i j b b' B c c' (back hi h1) (back hj h2) li lj hBi hBj
theorem CallsA.pure {Q : AV → Prop} (h : CallsA P f args [] (fun r H => Q r ∧ H = [])) (ha : purs args = true) (H : List ABlk) : CallsA P f args H (fun r H' => Q r ∧ H' = H) := by
 have := h.frame (fun r H' h => by rw [h.2]) (blws_purs _ _ ha) (by simp) H
 simp only [List.nil_append] at this
 refine this.mono fun r H' ⟨Hp', ⟨h1, h2⟩, h3⟩ => ⟨h1, by rw [h3, h2, List.nil_append]⟩
end
end Go.Ab

namespace Go.Ab
open Go
set_option linter.unusedVariables false
set_option linter.unusedSimpArgs false
def maskL (ts : List Nat) : Nat → List AV → List AV
 | _, [] => []
 | k, x :: l => (if ts.contains k then x else .junk) :: maskL ts (k + 1) l
theorem maskL_get (ts : List Nat) : ∀ (l : List AV) (k i : Nat), (maskL ts k l)[i]? = (l[i]?).map fun x => if ts.contains (k + i) then x else .junk
 | [], k, i => by simp [maskL]
 | x :: l, k, 0 => by simp [maskL]
 | x :: l, k, i + 1 => by
  simp only [maskL, List.getElem?_cons_succ]
  rw [maskL_get ts l (k + 1) i, show k + 1 + i = k + (i + 1) by omega]
theorem maskL_set (ts : List Nat) (l : List AV) (d : Nat) (v : AV) (h : d ∉ ts) : maskL ts 0 (l.set d v) = maskL ts 0 l := by
 apply List.ext_getElem?
 intro i
 rw [maskL_get, maskL_get, List.getElem?_set]
 by_cases hd : d = i
 ·subst hd
  by_cases hlt : d < l.length
  ·simp [hlt, h]
  ·simp [hlt]
 ·rw [if_neg hd]
theorem maskL_put (ts : List Nat) (l : List AV) (d : Option Nat) (v : AV) (h : ∀ x, d = some x → x ∉ ts) : maskL ts 0 (putL l d v) = maskL ts 0 l := by
 cases d with
 | none => rfl
 | some d => simp only [putL, setL_eq]; exact maskL_set ts l d v (h d rfl)
theorem maskL_rels {S : RS} {T : Sh} (ts : List Nat) {l : List AV} {vs : List Value} (h : rels S l T vs) : rels S (maskL ts 0 l) T vs := by
 refine rels_of_get ?_ fun i c hi => ?_
 ·have := rels_length h
  have hl : ∀ (l : List AV) k, (maskL ts k l).length = l.length := by
   intro l
   induction l with
   | nil => intro k; rfl
   | cons x l ih => intro k; simp [maskL, ih]
  rw [hl, this]
 ·rw [maskL_get] at hi
  obtain ⟨x, hx, rfl⟩ := Option.map_eq_some_iff.1 hi
  obtain ⟨v, h1, h2⟩ := rels_get h hx
  refine ⟨v, h1, ?_⟩
  split
  ·exact h2
  ·simp [rel]
theorem putL_comm (l : List AV) (d e : Option Nat) (v u : AV) (h : ∀ x, d = some x → e ≠ some x) : putL (putL l d v) e u = putL (putL l e u) d v := by
 cases d with
 | none => rfl
 | some d =>
  cases e with
  | none => rfl
  | some e =>
   have hne : d ≠ e := fun he => h d rfl (he ▸ rfl)
   simp only [putL, setL_eq]
   exact List.set_comm _ _ hne
section
variable {P : Program} {ops : Array Oper}
def StepT (P : Program) (ops : Array Oper) (o : Oper) (fr : List AV) (H : List ABlk) (K : AV → List ABlk → Prop) : Prop :=
 ∀ S a w, rels S fr (shape H) a.tmps.toList → WRel S H w →
  (Region.wanted o (yielded ops a.tmps) = true → opRes P o a w (Done S H K)) ∧ (Region.wanted o (yielded ops a.tmps) = false → K (.tup []) H)
theorem Done.mono {S : RS} {H : List ABlk} {K K' : AV → List ABlk → Prop} {u : Value} {w : World} (hm : ∀ v H', K v H' → K' v H') (h : Done S H K u w) : Done S H K' u w := by
 obtain ⟨S', v, H', h1, h2, h3, h4⟩ := h
 exact ⟨S', v, H', h1, h2, h3, hm _ _ h4⟩
theorem opRes.mono {o : Oper} {a : Act} {w : World} {G G' : Value → World → Prop} (hm : ∀ v w, G v w → G' v w) (h : opRes P o a w G) : opRes P o a w G' := by
 unfold opRes at *
 split
 ·rename_i hr; rw [hr] at h; exact hm _ _ h
 ·rename_i hr; rw [hr] at h; exact hm _ _ h
 ·rename_i hr; rw [hr] at h; exact Calls.mono h fun e w' ⟨u, h1, h2⟩ => ⟨u, h1, hm _ _ h2⟩
 ·rename_i h1 h2 h3
  split at h
  ·rename_i hr; exact absurd hr (h1 _ _)
  ·rename_i hr; exact absurd hr (h2 _)
  ·rename_i hr; exact absurd hr (h3 _ _ _)
  ·exact h
theorem StepT.mono {o : Oper} {fr : List AV} {H : List ABlk} {K K' : AV → List ABlk → Prop} (hm : ∀ v H', K v H' → K' v H') (h : StepT P ops o fr H K) : StepT P ops o fr H K' :=
 fun S a w hf hw => ⟨fun hg => ((h S a w hf hw).1 hg).mono fun v w' hd => hd.mono hm, fun hg => hm _ _ ((h S a w hf hw).2 hg)⟩
def keepP : List Bool → List ABlk → List ABlk → Prop
 | [], _, _ => True
 | true :: bs, x :: H, y :: H' => x = y ∧ keepP bs H H'
 | false :: bs, _ :: H, _ :: H' => keepP bs H H'
 | _, _, _ => False
theorem keepP.trans : ∀ {bs : List Bool} {H H' H'' : List ABlk}, keepP bs H H' → keepP bs H' H'' → keepP bs H H''
 | [], _, _, _, _, _ => trivial
 | true :: bs, x :: H, y :: H', z :: H'', h, k => ⟨h.1.trans k.1, keepP.trans h.2 k.2⟩
 | false :: bs, x :: H, y :: H', z :: H'', h, k => keepP.trans (bs := bs) h k
 | true :: bs, [], _, _, h, _ => h.elim
 | true :: bs, _ :: _, [], _, h, _ => h.elim
 | true :: bs, _ :: _, _ :: _, [], _, h => h.elim
 | false :: bs, [], _, _, h, _ => h.elim
 | false :: bs, _ :: _, [], _, h, _ => h.elim
 | false :: bs, _ :: _, _ :: _, [], _, h => h.elim
def Dcl (ops : Array Oper) (listed : Array Bool) : Prop := ∀ (k : Nat) ok, ops[k]? = some ok → listed.getD k false = true → ∀ e ∈ ok.after, Region.binds .any e = true → listed.getD e.on false = true
def Aft (ops : Array Oper) (i j : Nat) : Prop := ∀ listed : Array Bool, Dcl ops listed → j ∈ Region.ready .any ops listed → listed.getD i false = true
theorem Dcl.set {ops : Array Oper} {listed : Array Bool} (h : Dcl ops listed) {i : Nat} (hi : i ∈ Region.ready .any ops listed) : Dcl ops (listed.setIfInBounds i true) := by
 intro k ok hk hl e he hb
 have mono : ∀ x, listed.getD x false = true → (listed.setIfInBounds i true).getD x false = true := fun x hx => by
  by_cases hxi : i = x
  ·subst hxi
   have : i < listed.size := by
    rcases Nat.lt_or_ge i listed.size with h' | h'
    ·exact h'
    ·simp [Array.getElem?_eq_none h'] at hx
   simp [this]
  ·rw [getD_set_ne false hxi]; exact hx
 by_cases hki : i = k
 ·subst hki
  obtain ⟨_, o', ho', hall⟩ := mem_ready.1 hi
  rw [hk] at ho'
  injection ho' with ho'
  subst ho'
  exact mono _ (hall e he hb)
 ·rw [getD_set_ne false hki] at hl
  exact mono _ (h k ok hk hl e he hb)
def AnyA (P : Program) (ops : Array Oper) (bs : List Bool) (Fr : Nat → Prop) (Fin : List AV → List ABlk → Prop) : Nat → Array Bool → List AV → List ABlk → Prop
 | 0, listed, fr, H => Region.ready .any ops listed = [] ∧ Fin fr H
 | n + 1, listed, fr, H => (Region.ready .any ops listed = [] → Fin fr H) ∧
  ∀ i ∈ Region.ready .any ops listed, ∀ o, ops[i]? = some o → StepT P ops o (maskL (o.looksAt ops) 0 fr) H fun v H' => ((Fr i ∧ keepP bs H' H') ∨ keepP bs H H') ∧ AnyA P ops bs Fr Fin n (listed.setIfInBounds i true) (putL fr o.dst v) H'
def Mv (P : Program) (ops : Array Oper) (bs : List Bool) (o : Oper) (v : AV) (fr : List AV) (H : List ABlk) : Prop :=
 ∀ H2, keepP bs H H2 → StepT P ops o (maskL (o.looksAt ops) 0 fr) H2 fun r H' => r = v ∧ H' = H2
def MvA (P : Program) (ops : Array Oper) (o : Oper) (v : AV) (fr : List AV) : Prop :=
 ∀ H2, StepT P ops o (maskL (o.looksAt ops) 0 fr) H2 fun r H' => r = v ∧ H' = H2
theorem AnyA.first {bs : List Bool} {Fr : Nat → Prop} {Fin : List AV → List ABlk → Prop} {i : Nat} {oi : Oper} {v : AV} (hi : ops[i]? = some oi) :
  ∀ (fuel : Nat) (listed : Array Bool) (fr : List AV) (H : List ABlk), Dcl ops listed →
   (∀ j oj, ops[j]? = some oj → j ≠ i → listed.getD j true = false → (∀ e ∈ oj.after, Region.binds .any e = true → e.on ≠ i) → oi.apart ops oj = true) →
   i ∈ Region.ready .any ops listed → (MvA P ops oi v fr ∨ ((∀ j, j ≠ i → Fr j → Aft ops i j ∨ Aft ops j i) ∧ keepP bs H H ∧ Mv P ops bs oi v fr H)) → keepP bs H H →
   AnyA P ops bs Fr Fin fuel (listed.setIfInBounds i true) (putL fr oi.dst v) H → AnyA P ops bs Fr Fin (fuel + 1) listed fr H := by
 intro fuel
 have notL : ∀ {listed : Array Bool} {x : Nat}, x ∈ Region.ready .any ops listed → listed.getD x false = true → False := fun {listed x} hr this => by
  have h0 := (mem_ready.1 hr).1
  rcases Nat.lt_or_ge x listed.size with h' | h'
  ·simp [h'] at h0 this; rw [h0] at this; cases this
  ·simp [Array.getElem?_eq_none h'] at this
 have atH : ∀ {fr : List AV} {H : List ABlk}, (MvA P ops oi v fr ∨ ((∀ j, j ≠ i → Fr j → Aft ops i j ∨ Aft ops j i) ∧ keepP bs H H ∧ Mv P ops bs oi v fr H)) → StepT P ops oi (maskL (oi.looksAt ops) 0 fr) H fun r H' => r = v ∧ H' = H := fun {fr H} hy => by
  rcases hy with hy | ⟨_, hk, hy⟩
  ·exact hy H
  ·exact hy H hk
 induction fuel with
 | zero =>
  intro listed fr H _ _ hr hy hk HA
  refine ⟨fun h => (by rw [h] at hr; cases hr), fun j hj o ho => ?_⟩
  by_cases hji : j = i
  ·subst hji
   rw [hi] at ho
   injection ho with ho
   subst ho
   exact (atH hy).mono fun r H' ⟨h1, h2⟩ => by subst h1 h2; exact ⟨.inr hk, HA⟩
  ·have := ready_mono hj hji
   rw [HA.1] at this
   cases this
 | succ fuel ih =>
  intro listed fr H hdc hfree hr hy hk HA
  refine ⟨fun h => (by rw [h] at hr; cases hr), fun j hj oj hoj => ?_⟩
  by_cases hji : j = i
  ·subst hji
   rw [hi] at hoj
   injection hoj with hoj
   subst hoj
   exact (atH hy).mono fun r H' ⟨h1, h2⟩ => by subst h1 h2; exact ⟨.inr hk, HA⟩
  ·have h1 := HA.2 j (ready_mono hj hji) oj hoj
   obtain ⟨hjun, oj', hoj', hall⟩ := mem_ready.1 hj
   rw [hoj] at hoj'
   injection hoj' with hoj'
   subst hoj'
   have hnot : ∀ e ∈ oj.after, Region.binds .any e = true → e.on ≠ i := fun e he hb heq => by
    have h1 := hall e he hb
    rw [heq] at h1
    exact notL hr h1
   have hap := hfree j oj hoj hji hjun hnot
   obtain ⟨a1, a2, a3⟩ := Oper.apart_spec hap
   have hfree' : ∀ k ok, ops[k]? = some ok → k ≠ i → (listed.setIfInBounds j true).getD k true = false →
     (∀ e ∈ ok.after, Region.binds .any e = true → e.on ≠ i) → oi.apart ops ok = true := fun k ok hk hki hun hno => by
    refine hfree k ok hk hki ?_ hno
    by_cases hjk : j = k
    ·subst hjk; exact hjun
    ·rw [getD_set_ne true hjk] at hun; exact hun
   rw [maskL_put _ _ _ _ a1] at h1
   have key : ∀ {bs : List Bool} {A B : List ABlk}, keepP bs A B → keepP bs B B := by
    intro bs
    induction bs with
    | nil => intro A B _; trivial
    | cons x bs ih =>
     intro A B h
     cases x <;> cases A <;> cases B <;> first | exact h.elim | skip
     ·exact ih (A := _) h
     ·exact ⟨rfl, ih h.2⟩
   have rest : ∀ r H', keepP bs H' H' → (MvA P ops oi v (putL fr oj.dst r) ∨ ((∀ j, j ≠ i → Fr j → Aft ops i j ∨ Aft ops j i) ∧ keepP bs H' H' ∧ Mv P ops bs oi v (putL fr oj.dst r) H')) → AnyA P ops bs Fr Fin fuel ((listed.setIfInBounds i true).setIfInBounds j true) (putL (putL fr oi.dst v) oj.dst r) H' → AnyA P ops bs Fr Fin (fuel + 1) (listed.setIfInBounds j true) (putL fr oj.dst r) H' := fun r H' hk' hy' h3 => by
    refine ih (listed.setIfInBounds j true) (putL fr oj.dst r) H' (hdc.set hj) hfree' (ready_mono hr (Ne.symm hji)) hy' hk' ?_
    rw [Array.setIfInBounds_comm _ _ hji, putL_comm _ _ _ _ _ (fun x hx hy => a2 x hy (by rw [hx]))]
    exact h3
   rcases hy with hy | ⟨hF, _, hy⟩
   ·refine h1.mono fun r H' ⟨h2, h3⟩ => ⟨h2, rest r H' ?_ (.inl ?_) h3⟩
    ·rcases h2 with h2 | h2
     ·exact h2.2
     ·exact key h2
    ·intro H2
     rw [maskL_put _ _ _ _ a3]
     exact hy H2
   ·refine h1.mono fun r H' ⟨h2, h3⟩ => ?_
    have h2 : keepP bs H H' := by
     rcases h2 with h2 | h2
     ·rcases hF j hji h2.1 with h | h
      ·exact (notL hr (h listed hdc hj)).elim
      ·exact (notL hj (h listed hdc hr)).elim
     ·exact h2
    refine ⟨.inr h2, rest r H' (key h2) (.inr ⟨hF, key h2, fun H2 hk2 => ?_⟩) h3⟩
    rw [maskL_put _ _ _ _ a3]
    exact hy H2 (h2.trans hk2)
theorem known_rels {S : RS} {T : Sh} {ts : List Nat} {fr : List AV} {vs : List Value} {t : Nat} {b : Bool} (hb : fr[t]? = some (.sb b)) (h : rels S (maskL ts 0 fr) T vs) : rels S (maskL ts 0 (fr.set t (.bool b))) T vs := by
 refine rels_of_get ?_ fun i c hi => ?_
 ·have hl : ∀ (l : List AV) k, (maskL ts k l).length = l.length := by
   intro l
   induction l with
   | nil => intro k; rfl
   | cons x l ih => intro k; simp [maskL, ih]
  have := rels_length h
  rw [hl] at this
  rw [hl, List.length_set, this]
 ·rw [maskL_get, List.getElem?_set] at hi
  by_cases ht : t = i
  ·subst ht
   have hlt := (List.getElem?_eq_some_iff.1 hb).1
   simp only [if_true, hlt, Option.map_some, Option.some.injEq] at hi
   subst hi
   obtain ⟨v, h1, h2⟩ := rels_get h (i := t) (c := if ts.contains (0 + t) then .sb b else .junk) (by rw [maskL_get, hb]; rfl)
   refine ⟨v, h1, ?_⟩
   split
   ·rename_i hc; rw [if_pos hc] at h2; simpa only [rel] using h2
   ·simp [rel]
  ·rw [if_neg ht, ← maskL_get] at hi
   exact rels_get h hi
theorem StepT.known {o : Oper} {ts : List Nat} {fr : List AV} {H : List ABlk} {K : AV → List ABlk → Prop} {t : Nat} {b : Bool} (hb : fr[t]? = some (.sb b)) (h : StepT P ops o (maskL ts 0 (fr.set t (.bool b))) H K) : StepT P ops o (maskL ts 0 fr) H K :=
 fun S a w hf hw => h S a w (known_rels hb hf) hw
theorem AnyA.known {bs : List Bool} {Fr : Nat → Prop} {Fin : List AV → List ABlk → Prop} (hFin : ∀ fr H t b, fr[t]? = some (.sb b) → Fin (fr.set t (.bool b)) H → Fin fr H) :
  ∀ (fuel : Nat) (listed : Array Bool) (fr : List AV) (H : List ABlk) (t : Nat) (b : Bool), fr[t]? = some (.sb b) → AnyA P ops bs Fr Fin fuel listed (fr.set t (.bool b)) H → AnyA P ops bs Fr Fin fuel listed fr H := by
 intro fuel
 induction fuel with
 | zero => intro listed fr H t b hb h; exact ⟨h.1, hFin _ _ _ _ hb h.2⟩
 | succ fuel ih =>
  intro listed fr H t b hb h
  refine ⟨fun h0 => hFin _ _ _ _ hb (h.1 h0), fun i hi o ho => ?_⟩
  refine (StepT.known hb (h.2 i hi o ho)).mono fun v H' ⟨h1, h2⟩ => ⟨h1, ?_⟩
  cases hd : o.dst with
  | none => rw [hd] at h2; exact ih _ _ _ t b hb h2
  | some d =>
   rw [hd] at h2
   simp only [putL, setL_eq] at h2 ⊢
   by_cases htd : t = d
   ·subst htd
    rw [List.set_set] at h2
    exact h2
   ·refine ih _ _ _ t b (by rw [List.getElem?_set_ne (fun e => htd e.symm)]; exact hb) ?_
    rw [List.set_comm _ _ (fun e => htd e.symm)]
    exact h2
theorem AnyA.steps {bs : List Bool} {Fr : Nat → Prop} {Fin : List AV → List ABlk → Prop} {b : Frame} {k : List Go.Item} {cs : List Frame} : ∀ (fuel t : Nat) (listed : Array Bool) (fr : List AV) (H : List ABlk) (S : RS) (a : Act) (w : World),
  AnyA P ops bs Fr Fin fuel listed fr H → rels S fr (shape H) a.tmps.toList → WRel S H w →
  ∃ a' w' S' fr' H', Steps P (lone (b.atR a (.inRegion ops (Region.linearise.go .any ops fuel t listed []) :: k)) cs w) (lone (b.atR a' (.inRegion ops [] :: k)) cs w') ∧ a'.defers = a.defers ∧ Ext S (shape H) S' (shape H') ∧
   rels S' fr' (shape H') a'.tmps.toList ∧ WRel S' H' w' ∧ Fin fr' H' := by
 intro fuel
 induction fuel with
 | zero => intro t listed fr H S a w h hf hw; exact ⟨a, w, S, fr, H, Steps.refl _ _, rfl, Ext.refl _ _, hf, hw, h.2⟩
 | succ fuel ih =>
  intro t listed fr H S a w h hf hw
  obtain ⟨h₀, h₁⟩ := h
  simp only [Region.linearise.go]
  change ∃ a' w' S' fr' H', Steps P (lone (b.atR a (.inRegion ops (match (Region.ready .any ops listed)[t % (Region.ready .any ops listed).length]? with
   | some i => Region.linearise.go .any ops fuel (t / (Region.ready .any ops listed).length) (listed.setIfInBounds i true) [i]
   | none => [].reverse) :: k)) cs w) _ ∧ _
  cases hi : (Region.ready .any ops listed)[t % (Region.ready .any ops listed).length]? with
  | none =>
   have hnil : Region.ready .any ops listed = [] := by
    cases hr : Region.ready .any ops listed with
    | nil => rfl
    | cons x xs =>
     rw [hr] at hi
     have hlt : t % (x :: xs).length < (x :: xs).length := Nat.mod_lt _ (by simp)
     simp at hi
     simp at hlt
     omega
   simp only [List.reverse_nil]
   exact ⟨a, w, S, fr, H, Steps.refl _ _, rfl, Ext.refl _ _, hf, hw, h₀ hnil⟩
  | some i =>
   simp only []
   rw [linearise_go_acc, List.reverse_singleton, List.singleton_append]
   have hmem := List.mem_of_getElem? hi
   obtain ⟨_, o, ho, _⟩ := mem_ready.1 hmem
   have hst := h₁ i hmem o ho S a w (maskL_rels _ hf) hw
   cases hg : Region.wanted o (yielded ops a.tmps) with
   | true =>
    obtain ⟨u, w', hG, hs⟩ := opRes_steps (b := b) (k := k) (cs := cs) (rest := Region.linearise.go .any ops fuel (t / (Region.ready .any ops listed).length) (listed.setIfInBounds i true) []) ho hg (hst.1 hg)
    obtain ⟨S', v, H', e1, e2, e3, _, e4⟩ := hG
    obtain ⟨a', w'', S'', fr', H'', q1, q2, q3, q4, q5, q6⟩ := ih (t / (Region.ready .any ops listed).length) _ _ _ S' (a.put o.dst u) w' e4 (put_rels (rels_ext _ _ _ _ e1 hf) _ e3) e2
    exact ⟨a', w'', S'', fr', H'', hs.trans q1, q2.trans (put_defers a _ _), e1.trans q3, q4, q5, q6⟩
   | false =>
    obtain ⟨_, e4⟩ := hst.2 hg
    have hstep := stepR_op_skip (P := P) (b := b) (a := a) (k := k) (cs := cs) (w := w) (ops := ops) (i := i) (rest := Region.linearise.go .any ops fuel (t / (Region.ready .any ops listed).length) (listed.setIfInBounds i true) []) (by simp [ho, hg])
    simp only [ho, Option.bind_some] at hstep
    obtain ⟨a', w'', S'', fr', H'', q1, q2, q3, q4, q5, q6⟩ := ih (t / (Region.ready .any ops listed).length) _ _ _ S (a.put o.dst undef) w e4 (put_rels hf _ (by simp [rel, rels, undef])) hw
    exact ⟨a', w'', S'', fr', H'', .head hstep q1, q2.trans (put_defers a _ _), q3, q4, q5, q6⟩
end
section
variable {P : Program} {fn : Func} {tab : List Node} {H0 : List ABlk} {R : AV → List ABlk → Prop} {K : List AItem} {fr : List AV} {H : List ABlk}
def memN (n : Nat) : List Nat → Bool
 | [] => false
 | m :: ms => Nat.beq n m || memN n ms
def rdK : AO → Bool
 | .ld .. | .idx .. | .idxp .. | .len .. | .slc .. | .slc3 .. | .inv .. | .mget .. => true
 | _ => false
def upGo (l : List AOp) : Nat → List Nat → List Nat
 | 0, need => need
 | k + 1, need => match memN k need, getL l k with
  | true, some o => upGo l k (appL o.after need)
  | _, _ => upGo l k need
def ups (l : List AOp) (j : Nat) : List Nat :=
 match getL l j with
 | some o => upGo l j o.after
 | none => []
def frGo (l : List AOp) (j : Nat) (u : List Nat) : Nat → List AOp → Bool
 | _, [] => true
 | i, o :: os => (Nat.beq i j || !(rdK o.op) || memN i u || memN j (ups l i)) && frGo l j u (i + 1) os
def frB (l : List AOp) (j : Nat) : Bool := frGo l j (ups l j) 0 l
def DrawA (P : Program) (l : List AOp) (bs : List Bool) (Fin : List AV → List ABlk → Prop) (n : Nat) (listed : List Bool) (fr : List AV) (H : List ABlk) : Prop :=
 ∀ ops : Array Oper, l = ops.toList.map (rslvOp P ops true) → Dcl ops listed.toArray → AnyA P ops bs (fun j => frB l j = true) Fin n listed.toArray fr H
theorem Run.draw {n : Nat} {l : List AOp} (hm : P.follows .mixedOrders = true) (ht : tab[n]? = some (.region l true)) (bs : List Bool)
  (h : DrawA P l bs (Run P fn tab H0 R K) l.length (List.replicate l.length false) fr H) : Run P fn tab H0 R (.c n :: K) fr H := by
 intro S0 S w a b k cs he hd hf hw hk
 cases hk with
 | cons h1 hk =>
  rename_i it k
  cases it <;> first | exact h1.elim | skip
  obtain ⟨id, ops, rfl, hl⟩ := At.is_region h1 ht
  have hsz : l.length = ops.size := by rw [hl]; simp
  have h2 := h ops hl (fun k ok hk hl => by
   exfalso
   simp only [Array.getD_eq_getD_getElem?, List.getElem?_toArray, List.getElem?_replicate] at hl
   split at hl <;> simp at hl)
  rw [hsz] at h2
  obtain ⟨a', w', S', fr', H', q1, q2, q3, q4, q5, q6⟩ := AnyA.steps (b := b) (k := k) (cs := cs) ops.size (w.tape w.drawn (.order b.fn id)) _ _ _ S a w.drew h2 hf hw.drew
  obtain ⟨a2, w2, todo, v, r1, r2, r3, r4⟩ := q6 S0 S' w' a' b k cs (he.trans q3) hd q4 q5 hk
  refine ⟨a2, w2, todo, v, .head stepR_region_draw ?_, r2.trans q2, r3, r4⟩
  simp only [Region.schedule, hm, Bool.true_or, if_true, Region.linearise]
  rw [show (Array.replicate ops.size false) = (List.replicate ops.size false).toArray by simp]
  exact q1.trans (.head stepR_region_end r1)
end
end Go.Ab

namespace Go.Ab
open Go
set_option linter.unusedVariables false
set_option linter.unusedSimpArgs false
variable {σr : RowF}
def hideL : List Bool → List ABlk → List ABlk
 | true :: bs, x :: H => x :: hideL bs H
 | false :: bs, _ :: H => .dead .mp :: hideL bs H
 | _, _ => []
def SubH (HB H : List ABlk) : Prop := ∀ (id : Nat) (b : ABlk), getL HB id = some b → b.live = true → getL H id = some b
theorem hideL_sub : ∀ {bs : List Bool} {H H2 : List ABlk}, keepP bs H H2 → SubH (hideL bs H) H2
 | [], _, _, _, id, b, h, _ => by simp [hideL, getL] at h
 | true :: bs, [], _, h, _, _, _, _ => h.elim
 | true :: bs, _ :: _, [], h, _, _, _, _ => h.elim
 | false :: bs, [], _, h, _, _, _, _ => h.elim
 | false :: bs, _ :: _, [], h, _, _, _, _ => h.elim
 | true :: bs, x :: H, y :: H2, h, 0, b, hb, _ => by simp only [hideL, getL] at hb ⊢; rw [← h.1]; exact hb
 | true :: bs, x :: H, y :: H2, h, id + 1, b, hb, hl => by simp only [hideL, getL] at hb ⊢; exact hideL_sub h.2 id b hb hl
 | false :: bs, x :: H, y :: H2, h, 0, b, hb, hl => by simp only [hideL, getL, Option.some.injEq] at hb; subst hb; cases hl
 | false :: bs, x :: H, y :: H2, h, id + 1, b, hb, hl => by simp only [hideL, getL] at hb ⊢; exact hideL_sub (bs := bs) h id b hb hl
def mvK : AO → Bool
 | .alloc .. | .box .. | .st .. | .mks .. | .app .. | .lit .. | .mkm | .mset .. | .clr .. | .nilS .. | .apps .. | .b2s .. | .mka .. | .slp .. | .bad => false
 | _ => true
def mvS (A : Ar) (C : FuncId → List AV → List ABlk → (AV → List ABlk → Prop) → Prop) : Out → AV → Prop
 | .ok v' _, v => v' = v
 | .need p o, v => A.nd p ∧ mvS A C o v
 | .ask p k, v => ∃ r, p r ∧ mvS A C (k r) v
 | .br b k, v => mvS A C (k b) v
 | .nilq .., _ => False
 | .call f args, v => purs (unsL args) = true ∧ C f (unsL args) [] fun r H' => sym r = v ∧ H' = []
 | .bad, _ => False
section
variable {P : Program} {HB H2 : List ABlk} {v : AV}
theorem partA_sim {n : Option Nat} {cs : List AV} {k k2 : AV → Out} {K : AV → List ABlk → Prop} (hk : ∀ u, mvS arS (CallsA P) (k u) v → sat arS P H2 (k2 u) K)
  (h : mvS arS (CallsA P) (match partA n cs with | some u => k u | none => .bad) v) : sat arS P H2 (match partA n cs with | some u => k2 u | none => .bad) K := by
 cases hp : partA n cs with
 | none => rw [hp] at h; exact h.elim
 | some u => rw [hp] at h; exact hk u h
theorem ldA_sim (hs : SubH HB H2) {n : Option Nat} {x : AV} {k k2 : AV → Out} {K : AV → List ABlk → Prop} (hk : ∀ u, mvS arS (CallsA P) (k u) v → sat arS P H2 (k2 u) K)
  (h : mvS arS (CallsA P) (ldA arS σr n x HB k) v) : sat arS P H2 (ldA arS σr n x H2 k2) K := by
 unfold ldA at h ⊢
 cases x <;> first | exact False.elim h | skip
 case ptr id t r o =>
  simp only at h ⊢
  cases hg : getL HB id with
  | none => rw [hg] at h; exact h.elim
  | some b =>
   rw [hg] at h
   cases b with
   | box => exact h.elim
   | dead => exact h.elim
   | mpb => exact h.elim
   | arr e sz rows =>
    rw [hs id _ hg rfl]
    exact ⟨h.1, partA_sim hk h.2⟩
 case bptr id o =>
  simp only at h ⊢
  cases hg : getL HB id with
  | none => rw [hg] at h; exact h.elim
  | some b =>
   rw [hg] at h
   cases b with
   | arr => exact h.elim
   | dead => exact h.elim
   | mpb => exact h.elim
   | box e cs =>
    rw [hs id _ hg rfl]
    exact partA_sim hk h
 case iptr cs => exact partA_sim hk h
theorem call_sim {f : FuncId} {args : List AV} (h : mvS arS (CallsA P) (.call f args) v) : sat arS P H2 (.call f args) (fun r H' => r = v ∧ H' = H2) := by
 obtain ⟨h1, h2⟩ := h
 exact CallsA.pure (Q := fun r => sym r = v) h2 h1 H2
theorem ok_sim {u : AV} {H' : List ABlk} (h : mvS arS (CallsA P) (.ok u H') v) : sat arS P H2 (.ok u H2) (fun r H' => r = v ∧ H' = H2) := ⟨h, rfl⟩
theorem okO_sim {u : Option AV} (h : mvS arS (CallsA P) (okO u HB) v) : sat arS P H2 (okO u H2) (fun r H' => r = v ∧ H' = H2) := by
 cases u with
 | none => exact h.elim
 | some u => exact ⟨h, rfl⟩
theorem nil2_sim {x y : AV} {k k2 : Bool → Out} {K : AV → List ABlk → Prop} (hk : ∀ u, mvS arS (CallsA P) (k u) v → sat arS P H2 (k2 u) K)
  (h : mvS arS (CallsA P) (nil2 x y HB k) v) : sat arS P H2 (nil2 x y H2 k2) K := by
 unfold nil2 at h ⊢
 have hq : ∀ x, mvS arS (CallsA P) (nilQ x HB k) v → sat arS P H2 (nilQ x H2 k2) K := by
  intro x h
  unfold nilQ at h ⊢
  cases x <;> first | exact False.elim h | exact hk _ h
 split at h <;> first | exact hq _ h | exact h.elim
theorem binA_sim {op : BinOp} {x y : AV} (h : mvS arS (CallsA P) (binA arS op x y HB) v) : sat arS P H2 (binA arS op x y H2) (fun r H' => r = v ∧ H' = H2) := by
  unfold binA at h ⊢
  cases x <;> cases y <;> first | exact False.elim h | skip
  · cases op <;> simp only at h ⊢ <;> first
      | exact ⟨h.1, h.2, rfl⟩
      | (split at h
         · rename_i hk; rw [if_pos hk]; first | exact ⟨h.1, h.2, rfl⟩ | exact ⟨h, rfl⟩ | exact h.elim
         · exact h.elim)
  · cases op <;> simp only at h ⊢ <;> first
      | exact ⟨h.1, h.2, rfl⟩
      | exact ⟨h, rfl⟩
      | exact h.elim
theorem binQ_sim {op : BinOp} {tk : TK} {x y : AV} (h : mvS arS (CallsA P) (binQ arS op tk x y HB) v) : sat arS P H2 (binQ arS op tk x y H2) (fun r H' => r = v ∧ H' = H2) := by
 unfold binQ at h ⊢
 split at h
 ·exact binA_sim h
 ·exact binA_sim h
 ·split at h
  ·split at h
   ·exact ⟨h, rfl⟩
   ·exact h.elim
  ·split at h
   ·exact ⟨h, rfl⟩
   ·exact h.elim
  ·exact h.elim
 ·split at h
  ·split at h
   ·exact ⟨h, rfl⟩
   ·exact h.elim
  ·split at h
   ·exact ⟨h, rfl⟩
   ·exact h.elim
  ·exact nil2_sim (k := fun b => .ok (.bool b) HB) (fun u hu => ⟨hu, rfl⟩) h
  ·exact nil2_sim (k := fun b => .ok (.bool (!b)) HB) (fun u hu => ⟨hu, rfl⟩) h
  ·exact h.elim
theorem slcA_sim (hs : SubH HB H2) {k : Option Nat} {x : AV} {lo hi : Option Int} (h : mvS arS (CallsA P) (slcA arS k x lo hi HB) v) : sat arS P H2 (slcA arS k x lo hi H2) (fun r H' => r = v ∧ H' = H2) := by
 unfold slcA at h ⊢
 split at h
 ·split at h
  ·rename_i hz
   simp only [if_pos hz]
   split at h <;> first | exact ⟨h.1, h.2, rfl⟩ | exact ⟨h, rfl⟩
  ·exact h.elim
 ·rename_i z id t o n
  cases hg : getL HB id with
  | none => rw [hg] at h; exact h.elim
  | some b =>
   rw [hg] at h
   cases b with
   | box => exact h.elim
   | dead => exact h.elim
   | mpb => exact h.elim
   | arr e sz rows =>
    rw [hs id _ hg rfl]
    simp only at h ⊢
    split at h
    ·rename_i hz
     simp only [if_pos hz]
     split at h <;> exact ⟨h.1, h.2, rfl⟩
    ·exact h.elim
 ·exact ⟨h.1, h.2, rfl⟩
 ·split at h <;> first | exact ⟨h.1, h.2, rfl⟩ | exact ⟨h, rfl⟩
 ·exact h.elim
theorem mv_sim (hs : SubH HB H2) {fr : List AV} {ao : AO} (hk : mvK ao = true) (h : mvS arS (CallsA P) (exec1 arS σr fr HB ao) v) : sat arS P H2 (exec1 arS σr fr H2 ao) (fun r H' => r = v ∧ H' = H2) := by
 cases ao <;> first | exact (Bool.noConfusion hk : False).elim | skip
 case mv => exact ok_sim h
 case pick c a b =>
  simp only [exec1] at h ⊢
  split at h <;> first | exact ⟨h, rfl⟩ | exact h.elim
 case build z ps =>
  simp only [exec1] at h ⊢
  split at h
  ·rename_i hz; rw [if_pos hz]; exact okO_sim h
  ·exact h.elim
 case ld n x => exact ldA_sim hs (k := fun v => .ok v HB) (fun u hu => ⟨hu, rfl⟩) h
 case nilc mt x =>
  simp only [exec1] at h ⊢
  split at h <;> first | exact ⟨h, rfl⟩ | exact h.elim | (split at h <;> first | (rename_i hz; rw [if_pos hz]; exact ⟨h, rfl⟩) | exact h.elim)
 case bin op k x y => exact binQ_sim h
 case un op x =>
  simp only [exec1] at h ⊢
  split at h <;> first | exact ⟨h, rfl⟩ | exact h.elim
 case cvt k x =>
  simp only [exec1] at h ⊢
  split at h <;> first | exact ⟨h, rfl⟩ | exact h.elim
 case nilI neg x =>
  simp only [exec1] at h ⊢
  split at h <;> first | exact ⟨h, rfl⟩ | exact h.elim
 case mki => exact ok_sim h
 case mkf => exact ok_sim h
 case slc k x lo hi =>
  simp only [exec1] at h ⊢
  split at h
  ·exact slcA_sim hs h
  ·exact h.elim
 case fad off x =>
  simp only [exec1] at h ⊢
  split at h <;> first | exact ⟨h, rfl⟩ | exact h.elim
 case fld off n x =>
  simp only [exec1] at h ⊢
  split at h
  ·exact okO_sim h
  ·exact h.elim
 case idx e0 sz x i =>
  simp only [exec1] at h ⊢
  split at h
  ·split at h
   ·rename_i hz
    rw [if_pos hz]
    exact ⟨h.1, h.2, rfl⟩
   ·exact h.elim
  ·rename_i id t o len k n _ _
   cases hg : getL HB id with
   | none => rw [hg] at h; exact h.elim
   | some b =>
    rw [hg] at h
    cases b with
    | box => exact h.elim
    | dead => exact h.elim
    | mpb => exact h.elim
    | arr e sz' rows =>
     rw [hs id _ hg rfl]
     simp only at h ⊢
     split at h
     ·rename_i hz
      rw [if_pos hz]
      exact ⟨h.1, h.2, rfl⟩
     ·exact h.elim
  ·exact h.elim
 case idxp e0 sz n x i =>
  simp only [exec1] at h ⊢
  split at h
  ·rename_i id t r k m _ _
   cases hg : getL HB id with
   | none => rw [hg] at h; exact h.elim
   | some b =>
    rw [hg] at h
    cases b with
    | box => exact h.elim
    | dead => exact h.elim
    | mpb => exact h.elim
    | arr e sz' rows =>
     rw [hs id _ hg rfl]
     simp only at h ⊢
     split at h
     ·rename_i hz
      rw [if_pos hz]
      exact ⟨h.1, h.2, rfl⟩
     ·exact h.elim
  ·exact ⟨h.1, h.2, rfl⟩
  ·exact h.elim
 case idxs x i =>
  simp only [exec1] at h ⊢
  split at h <;> first | exact ⟨h.1, h.2, rfl⟩ | exact h.elim
 case ext x i =>
  simp only [exec1] at h ⊢
  split at h
  ·exact okO_sim h
  ·exact h.elim
 case asrt t z ag ok x =>
  simp only [exec1] at h ⊢
  split at h
  ·split at h
   ·rename_i hz; rw [if_pos hz]; exact ⟨h, rfl⟩
   ·exact h.elim
  ·exact h.elim
 case call f args => exact call_sim h
 case callv x args =>
  simp only [exec1] at h ⊢
  split at h
  ·exact call_sim h
  ·exact h.elim
 case inv tab x args =>
  simp only [exec1] at h ⊢
  split at h
  ·split at h
   ·exact call_sim h
   ·exact ldA_sim hs (k := fun u => .call _ (u :: evs fr args)) (fun u hu => call_sim hu) h
   ·exact h.elim
  ·exact h.elim
 case len str x =>
  simp only [exec1] at h ⊢
  split at h
  ·exact ⟨h, rfl⟩
  ·exact ⟨h, rfl⟩
  ·rename_i id t _ n _
   cases hg : getL HB id with
   | none => rw [hg] at h; exact h.elim
   | some b =>
    rw [hg] at h
    cases b with
    | box => exact h.elim
    | dead => exact h.elim
    | mpb => exact h.elim
    | arr e sz' rows =>
     rw [hs id _ hg rfl]
     exact ⟨h.1, h.2, rfl⟩
  ·exact ⟨h, rfl⟩
  ·exact h.elim
 case mget z x i =>
  simp only [exec1] at h ⊢
  split at h
  ·exact ⟨h, rfl⟩
  ·rename_i id k n _ _
   cases hg : getL HB id with
   | none => rw [hg] at h; exact h.elim
   | some b =>
    rw [hg] at h
    cases b with
    | box => exact h.elim
    | dead => exact h.elim
    | arr => exact h.elim
    | mpb rows =>
     rw [hs id _ hg rfl]
     simp only at h ⊢
     split at h
     ·exact ⟨h.1, h.2, rfl⟩
     ·exact ⟨h.1, h.2, rfl⟩
     ·exact h.elim
  ·exact h.elim
 case mnmx mx x y =>
  simp only [exec1] at h ⊢
  split at h
  ·split at h
   ·rename_i hz; rw [if_pos hz]; exact ⟨h, rfl⟩
   ·exact h.elim
  ·exact h.elim
 case addc x y z =>
  simp only [exec1] at h ⊢
  split at h
  ·exact ⟨h, rfl⟩
  ·exact h.elim
 case mx4 x y z u =>
  simp only [exec1] at h ⊢
  split at h
  ·exact ⟨h, rfl⟩
  ·exact h.elim
 case slc3 k x lo hi mx =>
  simp only [exec1] at h ⊢
  split at h
  ·rename_i id t o n _ l _ h' _ m e1 e2 e3 e4
   cases hg : getL HB id with
   | none => rw [hg] at h; exact h.elim
   | some b =>
    rw [hg] at h
    cases b with
    | box => exact h.elim
    | dead => exact h.elim
    | mpb => exact h.elim
    | arr e sz rows =>
     rw [hs id _ hg rfl]
     simp only at h ⊢
     split at h
     ·rename_i hc
      rw [if_pos hc]
      exact ⟨h.1, ⟨h.2, rfl⟩⟩
     ·exact h.elim
  ·exact h.elim
end
end Go.Ab

namespace Go.Ab
open Go
set_option linter.unusedVariables false
set_option linter.unusedSimpArgs false
variable {σr : RowF}
def lst (listed : List Bool) (i : Nat) (d : Bool) : Bool := (getL listed i).getD d
def allIn (listed : List Bool) : List Nat → Bool
 | [] => true
 | j :: js => lst listed j false && allIn listed js
def rdyG (listed : List Bool) : Nat → List AOp → List Nat
 | _, [] => []
 | k, o :: os => if (!(lst listed k true) && allIn listed o.after) = true then k :: rdyG listed (k + 1) os else rdyG listed (k + 1) os
def apartG (x y : AOp) : Bool :=
 (match x.dst with
   | some d => !(memN d y.looks) && (match y.dst with | some e => !(Nat.beq e d) | none => true)
   | none => true) &&
 (match y.dst with
   | some d => !(memN d x.looks)
   | none => true)
def freeG (oi : AOp) (i : Nat) (listed : List Bool) : Nat → List AOp → Bool
 | _, [] => true
 | j, oj :: os => (Nat.beq j i || lst listed j true || memN i oj.after || apartG oi oj) && freeG oi i listed (j + 1) os
theorem memN_eq : ∀ (n : Nat) (l : List Nat), memN n l = l.contains n
 | n, [] => rfl
 | n, m :: l => by
  rw [List.contains_cons, memN, memN_eq n l]
  cases h : Nat.beq n m
  ·have : n ≠ m := fun e => by subst e; simp at h
   simp [this]
  ·have := Nat.eq_of_beq_eq_true h
   simp [this]
theorem lst_eq (listed : List Bool) (i : Nat) (d : Bool) : lst listed i d = listed.toArray.getD i d := by
 simp [lst, getL_eq, Array.getD_eq_getD_getElem?]
theorem allIn_eq (listed : List Bool) : ∀ l : List Nat, allIn listed l = l.all fun j => listed.toArray.getD j false
 | [] => rfl
 | j :: js => by rw [allIn, allIn_eq listed js, lst_eq]; rfl
theorem rdyG_mem {listed : List Bool} : ∀ {l : List AOp} {k i : Nat}, i ∈ rdyG listed k l ↔ k ≤ i ∧ ∃ o, l[i - k]? = some o ∧ lst listed i true = false ∧ allIn listed o.after = true
 | [], k, i => by simp [rdyG]
 | o :: os, k, i => by
  have ih := rdyG_mem (listed := listed) (l := os) (k := k + 1) (i := i)
  have step : ∀ {Q : Prop}, (k + 1 ≤ i ∧ ∃ o', os[i - (k + 1)]? = some o' ∧ lst listed i true = false ∧ allIn listed o'.after = true) → k ≤ i ∧ ∃ o', (o :: os)[i - k]? = some o' ∧ lst listed i true = false ∧ allIn listed o'.after = true := by
   rintro _ ⟨h1, o', h2, h3⟩
   refine ⟨by omega, o', ?_, h3⟩
   rw [show i - k = (i - (k + 1)) + 1 by omega, List.getElem?_cons_succ]
   exact h2
  simp only [rdyG]
  split
  ·rename_i hc
   simp only [Bool.and_eq_true, Bool.not_eq_true'] at hc
   rw [List.mem_cons, ih]
   constructor
   ·rintro (rfl | h)
    ·exact ⟨Nat.le_refl _, o, by simp, hc.1, hc.2⟩
    ·exact step (Q := True) h
   ·rintro ⟨h1, o', h2, h3, h4⟩
    rcases Nat.eq_or_lt_of_le h1 with he | hlt
    ·exact .inl he.symm
    ·refine .inr ⟨hlt, o', ?_, h3, h4⟩
     rw [show i - k = (i - (k + 1)) + 1 by omega, List.getElem?_cons_succ] at h2
     exact h2
  ·rename_i hc
   rw [ih]
   constructor
   ·exact step (Q := True)
   ·rintro ⟨h1, o', h2, h3, h4⟩
    rcases Nat.eq_or_lt_of_le h1 with he | hlt
    ·subst he
     simp at h2
     subst h2
     exact absurd (by simp [h3, h4]) hc
    ·refine ⟨hlt, o', ?_, h3, h4⟩
     rw [show i - k = (i - (k + 1)) + 1 by omega, List.getElem?_cons_succ] at h2
     exact h2
section
variable {P : Program} {ops : Array Oper} {l : List AOp} {listed : List Bool}
theorem op_of {i : Nat} {o : AOp} (hl : l = ops.toList.map (rslvOp P ops true)) (h : l[i]? = some o) : ∃ o', ops[i]? = some o' ∧ rslvOp P ops true o' = o := by
 rw [hl, List.getElem?_map] at h
 obtain ⟨o', h1, h2⟩ := Option.map_eq_some_iff.1 h
 exact ⟨o', by rw [← Array.getElem?_toList]; exact h1, h2⟩
theorem of_op {i : Nat} {o' : Oper} (hl : l = ops.toList.map (rslvOp P ops true)) (h : ops[i]? = some o') : l[i]? = some (rslvOp P ops true o') := by
 rw [hl, List.getElem?_map, Array.getElem?_toList, h]
 rfl
theorem after_eq (o' : Oper) : allIn listed (rslvOp P ops true o').after = true ↔ ∀ e ∈ o'.after, Region.binds .any e = true → listed.toArray.getD e.on false = true := by
  rw [allIn_eq]
  simp only [rslvOp, if_true, List.all_eq_true, List.mem_map, List.mem_filter, Array.mem_toList_iff]
  constructor
  · intro h e he hb
    exact h e.on ⟨e, ⟨he, hb⟩, rfl⟩
  · rintro h x ⟨e, ⟨he, hb⟩, rfl⟩
    exact h e he hb
theorem ready_iff (hl : l = ops.toList.map (rslvOp P ops true)) {i : Nat} : i ∈ Region.ready .any ops listed.toArray ↔ i ∈ rdyG listed 0 l := by
 rw [mem_ready, rdyG_mem]
 constructor
 ·rintro ⟨h1, o', h2, h3⟩
  exact ⟨Nat.zero_le _, _, of_op hl h2, by rw [lst_eq]; exact h1, (after_eq o').2 h3⟩
 ·rintro ⟨_, o, h2, h3, h4⟩
  obtain ⟨o', g1, rfl⟩ := op_of hl h2
  exact ⟨by rw [← lst_eq]; exact h3, o', g1, (after_eq o').1 h4⟩
theorem ready_nil (hl : l = ops.toList.map (rslvOp P ops true)) : Region.ready .any ops listed.toArray = [] ↔ rdyG listed 0 l = [] := by
 constructor
 ·intro h
  cases hr : rdyG listed 0 l with
  | nil => rfl
  | cons x xs =>
   have : x ∈ Region.ready .any ops listed.toArray := (ready_iff hl).2 (by rw [hr]; simp)
   rw [h] at this
   cases this
 ·intro h
  cases hr : Region.ready .any ops listed.toArray with
  | nil => rfl
  | cons x xs =>
   have : x ∈ rdyG listed 0 l := (ready_iff hl).1 (by rw [hr]; simp)
   rw [h] at this
   cases this
theorem apart_of {x y : Oper} (h : apartG (rslvOp P ops true x) (rslvOp P ops true y) = true) : x.apart ops y = true := by
  simp only [apartG, rslvOp, if_true, Bool.and_eq_true, memN_eq] at h
  simp only [Oper.apart, Bool.and_eq_true]
  obtain ⟨h1, h2⟩ := h
  refine ⟨?_, h2⟩
  cases hx : x.dst with
  | none => rfl
  | some d =>
    rw [hx] at h1
    simp only [Bool.and_eq_true] at h1 ⊢
    refine ⟨h1.1, ?_⟩
    cases hy : y.dst with
    | none => rfl
    | some e =>
      rw [hy] at h1
      have h3 := h1.2
      simp only [Bool.not_eq_true'] at h3
      have : e ≠ d := fun he => by subst he; simp at h3
      simp [this]
theorem freeG_get {oi : AOp} {i : Nat} : ∀ {l : List AOp} {k : Nat}, freeG oi i listed k l = true → ∀ j oj, l[j]? = some oj → k + j = i ∨ lst listed (k + j) true = true ∨ memN i oj.after = true ∨ apartG oi oj = true
 | [], k, _, j, oj, h => by simp at h
 | o :: os, k, hf, j, oj, h => by
  simp only [freeG, Bool.and_eq_true, Bool.or_eq_true] at hf
  cases j with
  | zero =>
   simp at h
   subst h
   rcases hf.1 with ((h1 | h1) | h1) | h1
   ·exact .inl (Nat.eq_of_beq_eq_true h1)
   ·exact .inr (.inl h1)
   ·exact .inr (.inr (.inl h1))
   ·exact .inr (.inr (.inr h1))
  | succ j =>
   have := freeG_get hf.2 j oj (by simpa using h)
   rwa [show k + 1 + j = k + (j + 1) by omega] at this
theorem free_of (hl : l = ops.toList.map (rslvOp P ops true)) {i : Nat} {oi : Oper} (hf : freeG (rslvOp P ops true oi) i listed 0 l = true) : ∀ j oj, ops[j]? = some oj → j ≠ i → listed.toArray.getD j true = false →
    (∀ e ∈ oj.after, Region.binds .any e = true → e.on ≠ i) → oi.apart ops oj = true := by
  intro j oj hj hne hun hno
  rcases freeG_get hf j _ (of_op hl hj) with h | h | h | h
  · omega
  · rw [lst_eq, Nat.zero_add, hun] at h; cases h
  · rw [memN_eq] at h
    simp only [rslvOp, if_true, List.contains_eq_mem, decide_eq_true_eq, List.mem_map, List.mem_filter, Array.mem_toList_iff] at h
    obtain ⟨e, ⟨he, hb⟩, heq⟩ := h
    exact absurd heq (hno e he hb)
  · exact apart_of h
theorem stepT_of {fr : List AV} {H : List ABlk} {o' : Oper} {K : AV → List ABlk → Prop}
  (h : (gOk fr (rslvOp P ops true o').guard true ∧ sat arS P H (exec1 arS σr fr H (rslvOp P ops true o').op) K) ∨ (gOk fr (rslvOp P ops true o').guard false ∧ K (.tup []) H)) : StepT P ops o' fr H K := by
 intro S a w hf hw
 rcases h with ⟨hg, hs⟩ | ⟨hg, hk⟩
 ·have := gOk_wanted hf hg
  rw [this]
  exact ⟨fun _ => op_sound hf hw hs, fun h => Bool.noConfusion h⟩
 ·have := gOk_wanted hf hg
  rw [this]
  exact ⟨fun h => Bool.noConfusion h, fun _ => hk⟩
variable {bs : List Bool} {Fin : List AV → List ABlk → Prop} {n : Nat} {fr : List AV} {H : List ABlk}
theorem upGo_sound (hl : l = ops.toList.map (rslvOp P ops true)) {li : Array Bool} (hd : Dcl ops li) : ∀ {k : Nat} {need : List Nat}, (∀ x ∈ need, li.getD x false = true) → ∀ x ∈ upGo l k need, li.getD x false = true
  | 0, _, hn, x, hx => hn x hx
  | k + 1, need, hn, x, hx => by
    simp only [upGo, getL_eq] at hx
    split at hx
    · rename_i o hm ho
      rw [memN_eq, List.contains_iff_mem] at hm
      have hk := hn k hm
      refine upGo_sound hl hd (fun y hy => ?_) x hx
      rw [appL_eq, List.mem_append] at hy
      rcases hy with hy | hy
      · obtain ⟨o', ho', rfl⟩ := op_of hl ho
        simp only [rslvOp, if_true, List.mem_map, List.mem_filter, Array.mem_toList_iff] at hy
        obtain ⟨e, ⟨he, hb⟩, rfl⟩ := hy
        exact hd k o' ho' hk e he hb
      · exact hn y hy
    · exact upGo_sound hl hd hn x hx
theorem ups_sound (hl : l = ops.toList.map (rslvOp P ops true)) {i j : Nat} (h : memN i (ups l j) = true) : Aft ops i j := by
  intro li hd hr
  rw [memN_eq, List.contains_iff_mem] at h
  unfold ups at h
  rw [getL_eq] at h
  split at h
  · rename_i o ho
    obtain ⟨o', ho', rfl⟩ := op_of hl ho
    refine upGo_sound hl hd (fun x hx => ?_) i h
    simp only [rslvOp, if_true, List.mem_map, List.mem_filter, Array.mem_toList_iff] at hx
    obtain ⟨e, ⟨he, hb⟩, rfl⟩ := hx
    obtain ⟨_, o2, ho2, hall⟩ := mem_ready.1 hr
    rw [ho'] at ho2
    injection ho2 with ho2
    subst ho2
    exact hall e he hb
  · cases h
theorem frGo_sound (hl : l = ops.toList.map (rslvOp P ops true)) {j : Nat} {u : List Nat} (hu : u = ups l j) : ∀ {k : Nat} {os : List AOp}, frGo l j u k os = true → ∀ (i : Nat) (o : AOp), os[i]? = some o → rdK o.op = true → k + i ≠ j → Aft ops (k + i) j ∨ Aft ops j (k + i)
 | _, [], _, i, o, ho, _, _ => by simp at ho
 | k, o1 :: os, h, i, o, ho, hr, hne => by
  simp only [frGo, Bool.and_eq_true, Bool.or_eq_true] at h
  cases i with
  | zero =>
   simp at ho
   subst ho
   rcases h.1 with ((h1 | h1) | h1) | h1
   ·exact absurd (Nat.eq_of_beq_eq_true h1) hne
   ·rw [hr] at h1; cases h1
   ·rw [hu] at h1; exact .inl (ups_sound hl h1)
   ·exact .inr (ups_sound hl h1)
  | succ i =>
   have := frGo_sound hl hu h.2 i o (by simpa using ho) hr (by omega)
   rwa [show k + 1 + i = k + (i + 1) by omega] at this
theorem frB_sound (hl : l = ops.toList.map (rslvOp P ops true)) {i j : Nat} {o : AOp} (hi : l[i]? = some o) (hr : rdK o.op = true) (hne : j ≠ i) (h : frB l j = true) : Aft ops i j ∨ Aft ops j i := by
 have := frGo_sound hl rfl h i o hi hr (by omega)
 rwa [Nat.zero_add] at this
theorem okO_any {u : Option AV} {H H2 : List ABlk} {v : AV} (h : mvS arS (CallsA P) (okO u H) v) : mvS arS (CallsA P) (okO u H2) v := by
 cases u with
 | none => exact h
 | some u => exact h
theorem nil2_any {x y : AV} {H H2 : List ABlk} {b : Bool} {v : AV} (h : mvS arS (CallsA P) (nil2 x y H fun c => .ok (.bool (b == c)) H) v) : mvS arS (CallsA P) (nil2 x y H2 fun c => .ok (.bool (b == c)) H2) v := by
 unfold nil2 nilQ at h ⊢
 cases x <;> cases y <;> exact h
theorem binA_any {op : BinOp} {x y : AV} {H H2 : List ABlk} {v : AV} (h : mvS arS (CallsA P) (binA arS op x y H) v) : mvS arS (CallsA P) (binA arS op x y H2) v := by
  unfold binA at h ⊢
  cases x <;> cases y <;> first | exact False.elim h | skip
  · cases op <;> simp only at h ⊢ <;> first
      | exact h
      | (split at h
         · rename_i hk; rw [if_pos hk]; exact h
         · exact h.elim)
  · cases op <;> exact h
theorem binQ_any {op : BinOp} {tk : TK} {x y : AV} {H H2 : List ABlk} {v : AV} (h : mvS arS (CallsA P) (binQ arS op tk x y H) v) : mvS arS (CallsA P) (binQ arS op tk x y H2) v := by
 unfold binQ at h ⊢
 split at h
 ·exact binA_any h
 ·exact binA_any h
 ·split at h
  ·cases he : eqF arS _ _ _ with
   | none => rw [he] at h; exact h.elim
   | some b => rw [he] at h; exact h
  ·cases he : eqF arS _ _ _ with
   | none => rw [he] at h; exact h.elim
   | some b => rw [he] at h; exact h
  ·exact h.elim
 ·rename_i h1 h2 h3
  split at h
  ·split at h
   ·first
     | exact h
     | (rename_i a b ea eb; simp only [ea, eb]; exact h)
   ·exact h.elim
  ·split at h
   ·first
     | exact h
     | (rename_i a b ea eb; simp only [ea, eb]; exact h)
   ·exact h.elim
  ·have e : (fun b => Out.ok (AV.bool b) H) = fun c => Out.ok (.bool (true == c)) H := by funext c; cases c <;> rfl
   have e2 : (fun b => Out.ok (AV.bool b) H2) = fun c => Out.ok (.bool (true == c)) H2 := by funext c; cases c <;> rfl
   rw [e] at h
   try simp only
   rw [e2]
   exact nil2_any h
  ·have e : (fun b => Out.ok (AV.bool !b) H) = fun c => Out.ok (.bool (false == c)) H := by funext c; cases c <;> rfl
   have e2 : (fun b => Out.ok (AV.bool !b) H2) = fun c => Out.ok (.bool (false == c)) H2 := by funext c; cases c <;> rfl
   rw [e] at h
   try simp only
   rw [e2]
   exact nil2_any h
  ·exact h.elim
theorem mvS_any {o : AO} {fr : List AV} {H H2 : List ABlk} {v : AV} (hr : rdK o = false) (hm : mvK o = true) (h : mvS arS (CallsA P) (exec1 arS σr fr H o) v) : mvS arS (CallsA P) (exec1 arS σr fr H2 o) v := by
 cases o <;> first | (cases hr; done) | (cases hm; done) | skip
 case mv x => exact h
 case pick c a b =>
  simp only [exec1] at h ⊢
  cases hc : ev fr c <;> rw [hc] at h <;> first | exact False.elim h | skip
  ·rename_i b; cases b <;> exact h
  ·exact h
 case build z ps =>
  simp only [exec1] at h ⊢
  split at h
  ·rename_i hz; rw [if_pos hz]; exact okO_any h
  ·exact h.elim
 case nilc mt x =>
  simp only [exec1] at h ⊢
  cases hc : ev fr x <;> rw [hc] at h <;> first | exact h | exact False.elim h | skip
  rename_i f a b
  cases f <;> first | exact h | skip
  rename_i n
  simp only at h ⊢
  split at h
  ·rename_i hz; rw [if_pos hz]; exact h
  ·exact h.elim
 case bin op k x y => exact binQ_any h
 case un op x =>
  simp only [exec1] at h ⊢
  cases op <;> cases hc : ev fr x <;> rw [hc] at h <;> first | exact h | exact False.elim h
 case cvt k x =>
  simp only [exec1] at h ⊢
  cases hc : ev fr x <;> rw [hc] at h <;> first | exact h | exact False.elim h
 case nilI neg x =>
  simp only [exec1] at h ⊢
  cases hc : ev fr x <;> rw [hc] at h <;> first | exact h | exact False.elim h
 case mki t x => exact h
 case mkf f a b => exact h
 case fad off x =>
  simp only [exec1] at h ⊢
  cases hc : ev fr x <;> rw [hc] at h <;> first | exact h | exact False.elim h
 case fld off n x =>
  simp only [exec1] at h ⊢
  cases hc : ev fr x <;> rw [hc] at h <;> first | exact okO_any h | exact False.elim h
 case idxs x i =>
  simp only [exec1] at h ⊢
  cases hc : ev fr x <;> rw [hc] at h <;> first | exact False.elim h | skip
  cases hd : ev fr i <;> rw [hd] at h <;> first | exact h | exact False.elim h
 case ext x i =>
  simp only [exec1] at h ⊢
  cases hc : ev fr x <;> rw [hc] at h <;> first | exact okO_any h | exact False.elim h
 case asrt t z ag ok x =>
  simp only [exec1] at h ⊢
  cases hc : ev fr x <;> rw [hc] at h <;> first | exact False.elim h | skip
  rename_i t' u
  by_cases ht : t' = t
  ·simp only [if_pos ht] at h ⊢; exact h
  ·simp only [if_neg ht] at h; exact h.elim
 case call f args => exact h
 case callv x args =>
  simp only [exec1] at h ⊢
  cases hc : ev fr x <;> rw [hc] at h <;> first | exact False.elim h | skip
  rename_i f a b
  cases f <;> first | exact h | exact False.elim h
 case mnmx mx x y =>
  simp only [exec1] at h ⊢
  cases hc : ev fr x <;> rw [hc] at h <;> first | exact False.elim h | skip
  cases hd : ev fr y <;> rw [hd] at h <;> first | exact False.elim h | skip
  rename_i k a k' b
  by_cases ht : k = k'
  ·simp only [if_pos ht] at h ⊢; exact h
  ·simp only [if_neg ht] at h; exact h.elim
 case addc x y z =>
  simp only [exec1] at h ⊢
  split at h
  ·first
    | exact h
    | (rename_i e1 e2 e3; rw [e1, e2, e3]; exact h)
  ·exact h.elim
 case mx4 x y z u =>
  simp only [exec1] at h ⊢
  split at h
  ·first
    | exact h
    | (rename_i e1 e2 e3 e4; rw [e1, e2, e3, e4]; exact h)
  ·exact h.elim
theorem DrawA.done (hr : rdyG listed 0 l = []) (h : Fin fr H) : DrawA P l bs Fin n listed fr H := fun ops hl hdc => by
 have := (ready_nil hl).2 hr
 cases n with
 | zero => exact ⟨this, h⟩
 | succ n => exact ⟨fun _ => h, fun i hi => by rw [this] at hi; cases hi⟩
theorem DrawA.known (hFin : ∀ fr H t b, fr[t]? = some (.sb b) → Fin (fr.set t (.bool b)) H → Fin fr H) {t : Nat} {b : Bool} (hb : fr[t]? = some (.sb b)) (h : DrawA P l bs Fin n listed (fr.set t (.bool b)) H) : DrawA P l bs Fin n listed fr H :=
 fun ops hl hdc => AnyA.known hFin _ _ _ _ t b hb (h ops hl hdc)
theorem DrawA.mv {i : Nat} {o : AOp} {v : AV} (hi : l[i]? = some o) (hr : i ∈ rdyG listed 0 l) (hf : freeG o i listed 0 l = true) (hk : keepP bs H H)
    (h : (gOk (maskL o.looks 0 fr) o.guard true ∧ mvK o.op = true ∧ mvS arS (CallsA P) (exec1 arS σr (maskL o.looks 0 fr) (hideL bs H) o.op) v) ∨ (gOk (maskL o.looks 0 fr) o.guard false ∧ v = .tup []))
    (hn : DrawA P l bs Fin n (listed.set i true) (putL fr o.dst v) H) : DrawA P l bs Fin (n + 1) listed fr H := fun ops hl hdc => by
  obtain ⟨o', ho', rfl⟩ := op_of hl hi
  have hcase : MvA P ops o' v fr ∨ rdK (rslvOp P ops true o').op = true := by
    rcases h with ⟨h1, h2, h3⟩ | ⟨h1, h2⟩
    · cases hrd : rdK (rslvOp P ops true o').op with
      | true => exact .inr rfl
      | false => exact .inl fun H2 => stepT_of (σr := σr) (.inl ⟨h1, mv_sim (HB := []) (fun id b hb _ => by simp [getL] at hb) h2 (mvS_any hrd h2 h3)⟩)
    · exact .inl fun H2 => stepT_of (σr := σr) (.inr ⟨h1, h2.symm, rfl⟩)
  refine AnyA.first ho' n _ fr H hdc (free_of hl hf) ((ready_iff hl).2 hr) (hcase.imp id fun hrd => ⟨fun j hji hj => frB_sound hl hi hrd hji hj, hk, fun H2 hk2 => ?_⟩) hk (v := v) ?_
  · refine stepT_of (σr := σr) ?_
    rcases h with ⟨h1, h2, h3⟩ | ⟨h1, h2⟩
    · exact .inl ⟨h1, mv_sim (hideL_sub hk2) h2 h3⟩
    · exact .inr ⟨h1, h2.symm, rfl⟩
  · have := hn ops hl (by have := hdc.set ((ready_iff hl).2 hr); rwa [List.setIfInBounds_toArray] at this)
    rw [List.setIfInBounds_toArray]
    exact this
theorem DrawA.allL (hne : rdyG listed 0 l ≠ [])
    (h : ∀ i ∈ rdyG listed 0 l, ∀ o, l[i]? = some o → (gOk (maskL o.looks 0 fr) o.guard true ∧ sat arS P H (exec1 arS σr (maskL o.looks 0 fr) H o.op) fun v H' => ((frB l i = true ∧ keepP bs H' H') ∨ keepP bs H H') ∧ DrawA P l bs Fin n (listed.set i true) (putL fr o.dst v) H') ∨
      (gOk (maskL o.looks 0 fr) o.guard false ∧ keepP bs H H ∧ DrawA P l bs Fin n (listed.set i true) (putL fr o.dst (.tup [])) H)) : DrawA P l bs Fin (n + 1) listed fr H := fun ops hl hdc => by
  refine ⟨fun h0 => absurd ((ready_nil hl).1 h0) hne, fun i hi o' ho' => ?_⟩
  have h1 := h i ((ready_iff hl).1 hi) _ (of_op hl ho')
  have h2 : StepT P ops o' (maskL (rslvOp P ops true o').looks 0 fr) H fun v H' => ((frB l i = true ∧ keepP bs H' H') ∨ keepP bs H H') ∧ DrawA P l bs Fin n (listed.set i true) (putL fr o'.dst v) H' := stepT_of (σr := σr) (h1.imp id fun ⟨a, b, c⟩ => ⟨a, .inr b, c⟩)
  exact h2.mono fun v H' ⟨g1, g2⟩ => ⟨g1, by have := g2 ops hl (by have := hdc.set hi; rwa [List.setIfInBounds_toArray] at this); simpa using this⟩
theorem sat.mono' {K K' : AV → List ABlk → Prop} (hm : ∀ v H', K v H' → K' v H') : ∀ {o : Out}, sat arS P H o K → sat arS P H o K'
 | .ok _ _, h => hm _ _ h
 | .need _ _, h => ⟨h.1, sat.mono' hm h.2⟩
 | .ask _ _, h => h.elim fun r hr => ⟨r, hr.1, sat.mono' hm hr.2⟩
 | .br _ _, h => by simp only [sat] at h ⊢; exact sat.mono' hm h
 | .nilq _ _ _, h => ⟨fun hb => hm _ _ (h.1 hb), hm _ _ h.2⟩
 | .call _ _, h => CallsA.mono h fun r H' hr => hm _ _ hr
 | .bad, h => h
theorem DrawA.all (hne : rdyG listed 0 l ≠ [])
  (h : ∀ i ∈ rdyG listed 0 l, ∀ o, l[i]? = some o → (gOk (maskL o.looks 0 fr) o.guard true ∧ sat arS P H (exec1 arS σr (maskL o.looks 0 fr) H o.op) fun v H' => keepP bs H H' ∧ DrawA P l bs Fin n (listed.set i true) (putL fr o.dst v) H') ∨
   (gOk (maskL o.looks 0 fr) o.guard false ∧ keepP bs H H ∧ DrawA P l bs Fin n (listed.set i true) (putL fr o.dst (.tup [])) H)) : DrawA P l bs Fin (n + 1) listed fr H :=
 DrawA.allL (σr := σr) hne fun i hi o ho => (h i hi o ho).imp (fun ⟨a, b⟩ => ⟨a, sat.mono' (fun v H' ⟨c, d⟩ => ⟨.inr c, d⟩) b⟩) id
end
section
variable (A : Ar) (σr : RowF) (C : FuncId → List AV → List ABlk → (AV → List ABlk → Prop) → Prop) (Fin : List AV → List ABlk → Prop) (Dr : Nat → List Bool → List AV → List ABlk → Prop) (l : List AOp) (bs : List Bool)
def symOf (fr : List AV) : List Nat → Option (Nat × Bool)
 | [] => none
 | i :: is => match getL l i with
  | some o => match gst fr o.guard with
   | .sym t b _ => some (t, b)
   | _ => symOf fr is
  | none => symOf fr is
def quietOf (listed : List Bool) (fr : List AV) (HB : List ABlk) : List Nat → Option (Nat × AOp × Option Out)
 | [] => none
 | i :: is => match getL l i with
  | some o => if freeG o i listed 0 l = true then
    match gst (maskL o.looks 0 fr) o.guard with
    | .no => some (i, o, none)
    | .yes => if mvK o.op = true then
      match exec1 A σr (maskL o.looks 0 fr) HB o.op with
      | .bad => quietOf listed fr HB is
      | out => some (i, o, some out)
     else quietOf listed fr HB is
    | _ => quietOf listed fr HB is
   else quietOf listed fr HB is
  | none => quietOf listed fr HB is
def isCallO : AO → Bool
 | .call .. | .callv .. | .inv .. => true
 | _ => false
def noCalls (l : List AOp) : List Nat → List Nat
 | [] => []
 | i :: is => match getL l i with
  | some o => match isCallO o.op with
   | true => noCalls l is
   | false => i :: noCalls l is
  | none => noCalls l is
theorem noCalls_mem (l : List AOp) {i : Nat} : ∀ {rs : List Nat}, i ∈ noCalls l rs → i ∈ rs
 | [], h => h
 | j :: rs, h => by
  unfold noCalls at h
  split at h
  ·split at h
   ·exact List.mem_cons_of_mem _ (noCalls_mem l h)
   ·rcases List.mem_cons.1 h with h | h
    ·rw [h]; exact List.mem_cons_self ..
    ·exact List.mem_cons_of_mem _ (noCalls_mem l h)
  ·exact List.mem_cons_of_mem _ (noCalls_mem l h)
def pureCalls (qf : List Nat) (l : List AOp) : List Nat → List Nat
 | [] => []
 | i :: is => match getL l i with
  | some o => match o.op with
   | .call f _ => match memN f qf with
    | true => i :: pureCalls qf l is
    | false => pureCalls qf l is
   | _ => pureCalls qf l is
  | none => pureCalls qf l is
theorem pureCalls_mem (qf : List Nat) (l : List AOp) {i : Nat} : ∀ {rs : List Nat}, i ∈ pureCalls qf l rs → i ∈ rs
 | [], h => h
 | j :: rs, h => by
  have tail : i ∈ pureCalls qf l rs → i ∈ j :: rs := fun h => List.mem_cons_of_mem _ (pureCalls_mem qf l h)
  unfold pureCalls at h
  split at h
  ·split at h
   ·split at h
    ·rcases List.mem_cons.1 h with h | h
     ·rw [h]; exact List.mem_cons_self ..
     ·exact tail h
    ·exact tail h
   ·exact tail h
  ·exact tail h
def quietR (qf : List Nat) (l : List AOp) (listed : List Bool) (fr : List AV) (HB : List ABlk) (rs : List Nat) : Option (Nat × AOp × Option Out) :=
 match quietOf A σr l listed fr HB (noCalls l rs) with
 | some x => some x
 | none => match rs with
  | [_] => none
  | _ => match quietOf A σr l listed fr HB (pureCalls qf l rs) with
   | some x => some x
   | none => match rs with
    | [_, _] => none
    | _ => quietOf A σr l listed fr HB rs
def mvG : Out → (AV → Prop) → (AV → Prop) → Prop
 | .ok v _, K, _ => K v
 | .need p (.ok v _), K, _ => A.nd p ∧ K v
 | .need p o, K, K' => A.nd p ∧ mvG o K' K'
 | .ask p k, _, K' => ∃ r, p r ∧ mvG (k r) K' K'
 | .br b k, _, K' => mvG (k b) K' K'
 | .nilq .., _, _ => False
 | .call f args, _, K' => ∃ v, (purs (unsL args) = true ∧ C f (unsL args) [] fun r H' => sym r = v ∧ H' = []) ∧ K' v
 | .bad, _, _ => False
def allG (fr : List AV) (H : List ABlk) (cont : Nat → AOp → AV → List ABlk → Prop) (stop : Nat → AOp → AV → List ABlk → Prop) : List Nat → Prop
 | [] => True
 | i :: is => (match getL l i with
  | some o => match gst (maskL o.looks 0 fr) o.guard with
   | .no => keepP bs H H ∧ cont i o (.tup []) H
   | .yes => match exec1 A σr (maskL o.looks 0 fr) H o.op with
    | .ok v H' => keepP bs H H' ∧ cont i o v H'
    | .need p (.ok v H') => A.nd p ∧ keepP bs H H' ∧ cont i o v H'
    | out => satC A C H out fun v H' => keepP bs H H' ∧ stop i o v H'
   | _ => False
  | none => False) ∧ allG fr H cont stop is
def drawG (qf : List Nat) : Nat → List Bool → List AV → List ABlk → Prop
 | 0, listed, fr, H => match rdyG listed 0 l with
  | [] => Fin fr H
  | _ => False
 | n + 1, listed, fr, H => match rdyG listed 0 l with
  | [] => Fin fr H
  | rs => match symOf l fr rs with
   | some (t, b) => (b = true → Dr (n + 1) listed (setL fr t (.bool true)) H) ∧ (b = false → Dr (n + 1) listed (setL fr t (.bool false)) H)
   | none => match quietR A σr qf l listed fr (hideL bs H) rs with
    | some (i, o, none) => drawG qf n (setL listed i true) (putL fr o.dst (.tup [])) H
    | some (i, o, some out) => mvG A C out (fun v => drawG qf n (setL listed i true) (putL fr o.dst v) H) fun v => Dr n (setL listed i true) (putL fr o.dst v) H
    | none => allG A σr C l bs fr H (fun i o v H' => drawG qf n (setL listed i true) (putL fr o.dst v) H') (fun i o v H' => Dr n (setL listed i true) (putL fr o.dst v) H') rs
end
section
variable {P : Program} {l : List AOp} {bs : List Bool} {Fin : List AV → List ABlk → Prop}
theorem mvG_sound {o : Out} : ∀ {K K' : AV → Prop}, mvG arS (CallsA P) o K K' → ∃ v, mvS arS (CallsA P) o v ∧ (K v ∨ K' v) := by
 induction o with
 | ok v H => intro K K' h; exact ⟨v, rfl, .inl h⟩
 | need p o ih =>
  intro K K' h
  cases o with
  | ok v H => exact ⟨v, ⟨h.1, rfl⟩, .inl h.2⟩
  | need p' o' => obtain ⟨v, h1, h2⟩ := ih h.2; exact ⟨v, ⟨h.1, h1⟩, .inr (h2.elim id id)⟩
  | ask p' k' => obtain ⟨v, h1, h2⟩ := ih h.2; exact ⟨v, ⟨h.1, h1⟩, .inr (h2.elim id id)⟩
  | br b' k' => obtain ⟨v, h1, h2⟩ := ih h.2; exact ⟨v, ⟨h.1, h1⟩, .inr (h2.elim id id)⟩
  | nilq => exact h.2.elim
  | call f args => obtain ⟨v, h1, h2⟩ := ih h.2; exact ⟨v, ⟨h.1, h1⟩, .inr (h2.elim id id)⟩
  | bad => exact h.2.elim
 | ask p k ih =>
  intro K K' h
  obtain ⟨r, h1, h2⟩ := h
  obtain ⟨v, g1, g2⟩ := ih r h2
  exact ⟨v, ⟨r, h1, g1⟩, .inr (g2.elim id id)⟩
 | br b k ih =>
  intro K K' h
  obtain ⟨v, g1, g2⟩ := ih b h
  exact ⟨v, g1, .inr (g2.elim id id)⟩
 | nilq => intro K K' h; exact h.elim
 | call f args =>
  intro K K' h
  obtain ⟨v, h1, h2⟩ := h
  exact ⟨v, h1, .inr h2⟩
 | bad => intro K K' h; exact h.elim
theorem quietOf_sound {listed : List Bool} {fr : List AV} {HB : List ABlk} : ∀ {rs : List Nat} {i : Nat} {o : AOp} {out : Option Out}, quietOf arS σr l listed fr HB rs = some (i, o, out) →
  i ∈ rs ∧ l[i]? = some o ∧ freeG o i listed 0 l = true ∧ ((out = none ∧ gOk (maskL o.looks 0 fr) o.guard false) ∨ (gOk (maskL o.looks 0 fr) o.guard true ∧ mvK o.op = true ∧ out = some (exec1 arS σr (maskL o.looks 0 fr) HB o.op)))
 | [], i, o, out, h => by simp [quietOf] at h
 | j :: is, i, o, out, h => by
  have tail : quietOf arS σr l listed fr HB is = some (i, o, out) → i ∈ j :: is ∧ l[i]? = some o ∧ freeG o i listed 0 l = true ∧ ((out = none ∧ gOk (maskL o.looks 0 fr) o.guard false) ∨ (gOk (maskL o.looks 0 fr) o.guard true ∧ mvK o.op = true ∧ out = some (exec1 arS σr (maskL o.looks 0 fr) HB o.op))) :=
   fun h => by
    obtain ⟨h1, h2⟩ := quietOf_sound h
    exact ⟨List.mem_cons_of_mem _ h1, h2⟩
  simp only [quietOf] at h
  split at h
  ·rename_i o' ho'
   rw [getL_eq] at ho'
   split at h
   ·rename_i hf
    split at h
    ·rename_i hg
     injection h with h
     injection h with h1 h
     injection h with h2 h3
     subst h1 h2 h3
     exact ⟨by simp, ho', hf, .inl ⟨rfl, gst_no hg⟩⟩
    ·rename_i hg
     split at h
     ·rename_i hk
      split at h
      ·exact tail h
      ·injection h with h
       injection h with h1 h
       injection h with h2 h3
       subst h1 h2 h3
       exact ⟨by simp, ho', hf, .inr ⟨gst_yes hg, hk, rfl⟩⟩
     ·exact tail h
    ·exact tail h
   ·exact tail h
  ·exact tail h
theorem quietR_sound {listed : List Bool} {fr : List AV} {HB : List ABlk} {rs : List Nat} {i : Nat} {o : AOp} {out : Option Out} {qf : List Nat} (h : quietR arS σr qf l listed fr HB rs = some (i, o, out)) :
  i ∈ rs ∧ l[i]? = some o ∧ freeG o i listed 0 l = true ∧ ((out = none ∧ gOk (maskL o.looks 0 fr) o.guard false) ∨ (gOk (maskL o.looks 0 fr) o.guard true ∧ mvK o.op = true ∧ out = some (exec1 arS σr (maskL o.looks 0 fr) HB o.op))) := by
 unfold quietR at h
 split at h
 ·rename_i x hq
  rw [h] at hq
  obtain ⟨h1, h2⟩ := quietOf_sound hq
  exact ⟨noCalls_mem l h1, h2⟩
 ·split at h
  ·cases h
  ·split at h
   ·rename_i x hq
    rw [h] at hq
    obtain ⟨h1, h2⟩ := quietOf_sound hq
    exact ⟨pureCalls_mem qf l h1, h2⟩
   ·split at h
    ·cases h
    ·exact quietOf_sound h
theorem symOf_sound {fr : List AV} : ∀ {rs : List Nat} {t : Nat} {b : Bool}, symOf l fr rs = some (t, b) → ev fr (.t t) = .sb b
 | [], t, b, h => by simp [symOf] at h
 | j :: is, t, b, h => by
  simp only [symOf] at h
  split at h
  ·split at h
   ·rename_i hg
    injection h with h
    injection h with h1 h2
    subst h1 h2
    exact (gst_sym hg).1
   ·exact symOf_sound h
  ·exact symOf_sound h
theorem allG_sound {fr : List AV} {H : List ABlk} {cont stop : Nat → AOp → AV → List ABlk → Prop} : ∀ {rs : List Nat}, allG arS σr (CallsA P) l bs fr H cont stop rs → ∀ i ∈ rs, ∀ o, l[i]? = some o →
  (gOk (maskL o.looks 0 fr) o.guard true ∧ sat arS P H (exec1 arS σr (maskL o.looks 0 fr) H o.op) fun v H' => keepP bs H H' ∧ (cont i o v H' ∨ stop i o v H')) ∨
   (gOk (maskL o.looks 0 fr) o.guard false ∧ keepP bs H H ∧ (cont i o (.tup []) H ∨ stop i o (.tup []) H))
 | [], _, i, hi, _, _ => by cases hi
 | j :: is, h, i, hi, o, ho => by
  simp only [allG] at h
  rcases List.mem_cons.1 hi with rfl | hi
  ·have h1 := h.1
   rw [getL_eq, ho] at h1
   simp only at h1
   split at h1
   ·rename_i hg
    exact .inr ⟨gst_no hg, h1.1, .inl h1.2⟩
   ·rename_i hg
    refine .inl ⟨gst_yes hg, ?_⟩
    split at h1
    ·rename_i v H' hx
     rw [hx]
     exact ⟨h1.1, .inl h1.2⟩
    ·rename_i p v H' hx
     rw [hx]
     exact ⟨h1.1, h1.2.1, .inl h1.2.2⟩
    ·have : ∀ {o : Out} {K K' : AV → List ABlk → Prop}, (∀ v H', K v H' → K' v H') → sat arS P H o K → sat arS P H o K' := by
      intro o
      induction o with
      | ok v H => intro K K' hm h; exact hm _ _ h
      | need p o ih => intro K K' hm h; exact ⟨h.1, ih hm h.2⟩
      | ask p k ih => intro K K' hm h; obtain ⟨r, h1, h2⟩ := h; exact ⟨r, h1, ih r hm h2⟩
      | br b k ih => intro K K' hm h; exact ih b hm h
      | nilq neg n H => intro K K' hm h; exact ⟨fun hb => hm _ _ (h.1 hb), hm _ _ h.2⟩
      | call f args => intro K K' hm h; exact CallsA.mono h fun r H' => hm _ _
      | bad => intro K K' hm h; exact h
     exact this (fun v H' ⟨g1, g2⟩ => ⟨g1, .inr g2⟩) (satC_sat h1)
   ·exact h1.elim
  ·exact allG_sound h.2 i hi o ho
theorem keepP_right : ∀ {bs : List Bool} {A B : List ABlk}, keepP bs A B → keepP bs B B := by
 intro bs
 induction bs with
 | nil => intro A B _; trivial
 | cons x bs ih =>
  intro A B h
  cases x <;> cases A <;> cases B <;> first | exact h.elim | skip
  ·exact ih (A := _) h
  ·exact ⟨rfl, ih h.2⟩
theorem drawG_sound {qf : List Nat} (hFin : ∀ fr H t b, fr[t]? = some (.sb b) → Fin (fr.set t (.bool b)) H → Fin fr H) : ∀ (n : Nat) (listed : List Bool) (fr : List AV) (H : List ABlk), keepP bs H H →
  drawG arS σr (CallsA P) Fin (DrawA P l bs Fin) l bs qf n listed fr H → DrawA P l bs Fin n listed fr H := by
 have evGet : ∀ {fr : List AV} {t : Nat} {b : Bool}, ev fr (.t t) = .sb b → fr[t]? = some (.sb b) := by
  intro fr t b h
  simp only [ev, getL_eq] at h
  cases hx : fr[t]? with
  | none => rw [hx] at h; simp at h
  | some c => rw [hx] at h; simp at h; rw [h]
 intro n
 induction n with
 | zero =>
  intro listed fr H hk h
  simp only [drawG] at h
  split at h
  ·rename_i hr; exact DrawA.done hr h
  ·exact h.elim
 | succ n ih =>
  intro listed fr H hk h
  simp only [drawG] at h
  split at h
  ·rename_i hr; exact DrawA.done hr h
  ·rename_i hne
   have hne' : rdyG listed 0 l ≠ [] := fun e => hne e
   split at h
   ·rename_i t b hs
    have hsy := evGet (symOf_sound hs)
    rw [setL_eq, setL_eq] at h
    cases b
    ·exact DrawA.known hFin hsy (h.2 rfl)
    ·exact DrawA.known hFin hsy (h.1 rfl)
   ·split at h
    ·rename_i i o hq
     obtain ⟨q1, q2, q3, q4⟩ := quietR_sound hq
     rw [setL_eq] at h
     refine DrawA.mv (σr := σr) q2 q1 q3 hk (v := .tup []) ?_ (ih _ _ _ hk h)
     rcases q4 with ⟨_, q4⟩ | ⟨_, _, q4⟩
     ·exact .inr ⟨q4, rfl⟩
     ·cases q4
    ·rename_i i o out hq
     obtain ⟨q1, q2, q3, q4⟩ := quietR_sound hq
     rw [setL_eq] at h
     obtain ⟨v, g1, g2⟩ := mvG_sound h
     refine DrawA.mv (σr := σr) q2 q1 q3 hk (v := v) ?_ ?_
     ·rcases q4 with ⟨q4, _⟩ | ⟨q4, q5, q6⟩
      ·cases q4
      ·injection q6 with q6
       subst q6
       exact .inl ⟨q4, q5, g1⟩
     ·rcases g2 with g2 | g2
      ·exact ih _ _ _ hk g2
      ·exact g2
    ·refine DrawA.all (σr := σr) hne' fun i hi o ho => ?_
     rcases allG_sound h i hi o ho with ⟨g1, g2⟩ | ⟨g1, g2, g3⟩
     ·refine .inl ⟨g1, ?_⟩
      have : ∀ {o : Out} {K K' : AV → List ABlk → Prop}, (∀ v H', K v H' → K' v H') → sat arS P H o K → sat arS P H o K' := by
       intro o
       induction o with
       | ok v H => intro K K' hm h; exact hm _ _ h
       | need p o ih => intro K K' hm h; exact ⟨h.1, ih hm h.2⟩
       | ask p k ih => intro K K' hm h; obtain ⟨r, h1, h2⟩ := h; exact ⟨r, h1, ih r hm h2⟩
       | br b k ih => intro K K' hm h; exact ih b hm h
       | nilq neg n H => intro K K' hm h; exact ⟨fun hb => hm _ _ (h.1 hb), hm _ _ h.2⟩
       | call f args => intro K K' hm h; exact CallsA.mono h fun r H' => hm _ _
       | bad => intro K K' hm h; exact h
      refine this (fun v H' ⟨e1, e2⟩ => ⟨e1, ?_⟩) g2
      rw [setL_eq] at e2
      rcases e2 with e2 | e2
      ·exact ih _ _ _ (keepP_right e1) e2
      ·exact e2
     ·refine .inr ⟨g1, g2, ?_⟩
      rw [setL_eq] at g3
      rcases g3 with g3 | g3
      ·exact ih _ _ _ hk g3
      ·exact g3
theorem keepP_refl : ∀ (bs : List Bool) (H : List ABlk), bs.length ≤ H.length → keepP bs H H
 | [], _, _ => trivial
 | true :: bs, x :: H, h => ⟨rfl, keepP_refl bs H (by simpa using h)⟩
 | false :: bs, x :: H, h => keepP_refl bs H (by simpa using h)
 | true :: bs, [], h => by simp at h
 | false :: bs, [], h => by simp at h
end
section
variable {P : Program} {fn : Func} {tab : List Node} {H0 : List ABlk} {R : AV → List ABlk → Prop} {K : List AItem} {fr : List AV} {H : List ABlk}
theorem Run.knownSet {t : Nat} {b : Bool} (hb : fr[t]? = some (.sb b)) (h : Run P fn tab H0 R K (fr.set t (.bool b)) H) : Run P fn tab H0 R K fr H := by
 refine Run.known (t := t) (b := b) ?_ (by rw [setL_eq]; exact h)
 simp only [ev, getL_eq, hb, Option.getD_some]
theorem DrawA.go (σr : RowF) {l : List AOp} {bs : List Bool} {n : Nat} {listed : List Bool} (hbs : bs.length ≤ H.length)
  (h : ∀ A C Fin Dr, A = arS → C = CallsA P → Fin = Run P fn tab H0 R K → Dr = DrawA P l bs (Run P fn tab H0 R K) → drawG A σr C Fin Dr l bs [] n listed fr H) : DrawA P l bs (Run P fn tab H0 R K) n listed fr H :=
 drawG_sound (fun fr H t b => Run.knownSet) _ _ _ _ (keepP_refl bs H hbs) (h _ _ _ _ rfl rfl rfl rfl)
end
end Go.Ab

namespace Go.Ab
open Go
set_option linter.unusedVariables false
set_option linter.unusedSimpArgs false
theorem shape_take (H : List ABlk) (n id : Nat) (h : id < n) : shape (H.take n) id = shape H id := by
 simp [shape, List.getElem?_take, h]
theorem WRel.trim {S : RS} {H : List ABlk} {w : World} (h : WRel S H w) (n : Nat) (hb : ∀ b ∈ H.take n, b.blw n) : WRel S (H.take n) w := by
 have hget : ∀ {id b}, (H.take n)[id]? = some b → id < n ∧ H[id]? = some b := fun {id b} hi => by
  rw [List.getElem?_take] at hi
  split at hi
  ·rename_i hlt; exact ⟨hlt, hi⟩
  ·cases hi
 refine ⟨h.os, h.tape, h.output, h.size, h.prot, h.fro, h.gl, fun id b hi => ?_, fun i j b b' B c c' hi hj => h.inj i j b b' B c c' (hget hi).2 (hget hj).2⟩
 refine (h.blk id b (hget hi).2).loc (n := n) (fun id hid => ⟨shape_take _ _ _ hid, rfl⟩) (fun _ _ _ h => h) (hb b (List.mem_of_getElem? hi)) (fun _ => rfl) (fun B c _ _ _ ho => ⟨rfl, ho⟩)
theorem Ext.trim {S0 S : RS} {H0 H : List ABlk} (e : Ext S0 (shape H0) S (shape H)) (n : Nat) (hn : H0.length ≤ n) : Ext S0 (shape H0) S (shape (H.take n)) := by
 have key : ∀ id s, shape H0 id = some s → shape (H.take n) id = shape H id := fun id s hs => shape_take _ _ _ (Nat.lt_of_lt_of_le (shape_lt hs) hn)
 exact ⟨e.W0, e.D, e.fro, e.fnw, fun id n hn => by rw [key id _ hn]; exact e.box id n hn, fun id hn => by rw [key id _ hn]; exact e.mp id hn, fun id m sz hn => by rw [key id _ hn]; exact e.row id m sz hn⟩
def blwH.blwR (n : Nat) : List (List AV) → Bool
 | [] => true
 | r :: rs => blws n r && blwH.blwR n rs
def blwH (n : Nat) : List ABlk → Bool
 | [] => true
 | .box _ cs :: H => blws n cs && blwH n H
 | .arr _ _ rows :: H => blwH.blwR n rows && blwH n H
 | .mpb _ :: H => blwH n H
 | .dead _ :: H => blwH n H
theorem blwR_get {n : Nat} : ∀ {rows : List (List AV)}, blwH.blwR n rows = true → ∀ r ∈ rows, blws n r = true
 | [], _, r, hr => by cases hr
 | r0 :: rs, h, r, hr => by
  simp only [blwH.blwR, Bool.and_eq_true] at h
  rcases List.mem_cons.1 hr with rfl | hr
  ·exact h.1
  ·exact blwR_get h.2 r hr
theorem blws_mem {n : Nat} {cs : List AV} (h : blws n cs = true) : ∀ c ∈ cs, blw n c = true := fun c hc => by
 obtain ⟨i, hi⟩ := List.getElem?_of_mem hc
 exact blws_get h hi
theorem blwH_get {n : Nat} : ∀ {H : List ABlk}, blwH n H = true → ∀ b ∈ H, b.blw n
 | [], _, b, hb => by cases hb
 | b0 :: H, h, b, hb => by
  have h0 : b0.blw n ∧ blwH n H = true := by
   cases b0 with
   | box e cs => simp only [blwH, Bool.and_eq_true] at h; exact ⟨blws_mem h.1, h.2⟩
   | arr e sz rows =>
    simp only [blwH, Bool.and_eq_true] at h
    refine ⟨fun c hc => ?_, h.2⟩
    obtain ⟨r, hr, hcr⟩ := List.mem_flatten.1 hc
    exact blws_mem (blwR_get h.1 r hr) c hcr
   | mpb s => exact ⟨fun c hc => (List.not_mem_nil hc).elim, h⟩
   | dead s => exact ⟨fun c hc => (List.not_mem_nil hc).elim, h⟩
  rcases List.mem_cons.1 hb with rfl | hb
  ·exact h0.1
  ·exact blwH_get h0.2 b hb
theorem blwR_pursS {n : Nat} : ∀ {rows : List (List AV)}, pursS rows = true → blwH.blwR n rows = true
 | [], _ => rfl
 | r :: rs, h => by
  simp only [pursS, Bool.and_eq_true] at h
  simp only [blwH.blwR, Bool.and_eq_true]
  exact ⟨blws_purs n r h.1, blwR_pursS h.2⟩
section
variable {P : Program} {fn : Func} {tab : List Node} {H0 : List ABlk} {R : AV → List ABlk → Prop} {K : List AItem} {fr : List AV} {H : List ABlk}
theorem Run.trim (n : Nat) (H' : List ABlk) (hH : H.take n = H') (hn : H0.length ≤ n) (hf : blws n fr = true) (hb : blwH n H' = true) (h : Run P fn tab H0 R K fr H') : Run P fn tab H0 R K fr H := by
 subst hH
 intro S0 S w a b k cs he hd hr hw hk
 exact h S0 S w a b k cs (he.trim n hn) hd (rels_loc (n := n) (fun id hid => ⟨shape_take _ _ _ hid, rfl⟩) (fun _ _ _ h => h) fr _ hf hr) (hw.trim n (blwH_get hb)) hk
theorem CallsA.trim {f : FuncId} {args : List AV} {R' : AV → List ABlk → Prop} (h : CallsA P f args H R) (hm : ∀ r H', R r H' → blw H.length r = true ∧ blwH H.length (H'.take H.length) = true ∧ R' r (H'.take H.length)) : CallsA P f args H R' :=
 ⟨h.1, fun S w vs hw hr => (h.2 S w vs hw hr).mono fun e w' ⟨u, he, S', v, H', h1, h2, h3, h4⟩ => by
  obtain ⟨g1, g2, g3⟩ := hm v H' h4
  exact ⟨u, he, S', v, _, h1.trim _ (Nat.le_refl _), h2.trim _ (blwH_get g2), rel_loc (n := H.length) (fun id hid => ⟨shape_take _ _ _ hid, rfl⟩) (fun _ _ _ h => h) v _ g1 h3, g3⟩⟩
end
mutual
def fzV (id : Nat) (b : ABlk) : AV → AV
 | .sl id' t o n => match Nat.beq id' id, b with
  | true, .arr _ sz rows => .inl sz ((rows.drop o).take n)
  | true, _ => .junk
  | false, _ => .sl id' t o n
 | .ptr id' t r o => match Nat.beq id' id, b with
  | true, .arr _ _ rows => match rows[r]? with
   | some row => .iptr (row.drop o)
   | none => .junk
  | true, _ => .junk
  | false, _ => .ptr id' t r o
 | .bptr id' o => match Nat.beq id' id, b with
  | true, .box _ cs => .iptr (cs.drop o)
  | true, _ => .junk
  | false, _ => .bptr id' o
 | .map id' => match Nat.beq id' id with
  | true => .junk
  | false => .map id'
 | .fn f x y => .fn f (fzVs id b x) (fzVs id b y)
 | .iface t x => .iface t (fzV id b x)
 | .agg cs => .agg (fzVs id b cs)
 | .tup cs => .tup (fzVs id b cs)
 | c => c
def fzVs (id : Nat) (b : ABlk) : List AV → List AV
 | [] => []
 | c :: cs => fzV id b c :: fzVs id b cs
end
mutual
def fzO (id m : Nat) : AV → Prop
 | .sl id' t _ _ => match Nat.beq id' id with
  | true => t = m
  | false => True
 | .ptr id' t _ _ => match Nat.beq id' id with
  | true => t = m
  | false => True
 | .fn _ x y => fzOs id m x ∧ fzOs id m y
 | .iface _ x => fzO id m x
 | .agg cs => fzOs id m cs
 | .tup cs => fzOs id m cs
 | _ => True
def fzOs (id m : Nat) : List AV → Prop
 | [] => True
 | c :: cs => fzO id m c ∧ fzOs id m cs
end
def fzB (id : Nat) (b : ABlk) : ABlk → ABlk
 | .box e cs => .box e (fzVs id b cs)
 | .arr e sz rows => .arr e sz (rows.map (fzVs id b))
 | .mpb rows => .mpb rows
 | .dead s => .dead s
def fzBO (id m : Nat) : ABlk → Prop
 | .box _ cs => fzOs id m cs
 | .arr _ _ rows => ∀ r ∈ rows, fzOs id m r
 | .mpb _ => True
 | .dead _ => True
def rowsN : ABlk → Nat
 | .arr _ _ rows => rows.length
 | _ => 0
def ABlk.pure : ABlk → Bool
 | .box _ cs => purs cs
 | .arr _ _ rows => pursS rows
 | .mpb _ => false
 | .dead _ => false
theorem fzVs_map (id : Nat) (b : ABlk) : ∀ cs : List AV, fzVs id b cs = cs.map (fzV id b)
 | [] => rfl
 | c :: cs => by rw [fzVs, fzVs_map id b cs]; rfl
theorem fzOs_mem {id m : Nat} : ∀ {cs : List AV}, fzOs id m cs → ∀ c ∈ cs, fzO id m c
 | [], _, c, hc => by cases hc
 | c0 :: cs, h, c, hc => by
  rcases List.mem_cons.1 hc with rfl | hc
  ·exact h.1
  ·exact fzOs_mem h.2 c hc
section
variable {S : RS} {H : List ABlk} {w : World} {id : Nat} {b : ABlk} {T' : Sh}
mutual
theorem fzV_rel (h : WRel S H w) (hb : H[id]? = some b) (hp : b.pure = true) (hT : ∀ j, j ≠ id → T' j = shape H j) : ∀ (c : AV) (v : Value), fzO id (rowsN b) c → rel S c (shape H) v → rel (S.frz w (Nat.beq · id) H) (fzV id b c) T' v
 | .int .., _, _, h => h
 | .bool .., _, _, h => h
 | .sb .., _, _, h => h
 | .str .., _, _, h => h
 | .nilp, _, _, h => h
 | .nils, _, _, h => h
 | .nilf, _, _, h => h
 | .nili, _, _, h => h
 | .nilm, _, _, h => h
 | .junk, _, _, _ => trivial
 | .iptr cs, v, _, hr => by
  simp only [fzV, rel] at hr ⊢
  obtain ⟨B, o, h1, h2⟩ := hr
  exact ⟨B, o, h1, fz_ext cs B o (frz_ext h _) h2⟩
 | .inl sz rows, v, _, hr => by
  simp only [fzV, rel] at hr ⊢
  obtain ⟨a, c, h1, h2, h3⟩ := hr
  refine ⟨a, c, h1, h2, ?_⟩
  rcases h3 with h3 | ⟨B, o, h3, h4⟩
  ·exact .inl h3
  ·exact .inr ⟨B, o, h3, fzs_ext rows B o sz (frz_ext h _) h4⟩
 | .map id', v, _, hr => by
  simp only [fzV]
  cases hid : Nat.beq id' id with
  | true => simp [rel]
  | false =>
   have hne : id' ≠ id := fun e => by subst e; simp at hid
   simp only [rel] at hr ⊢
   rw [hT id' hne]
   exact hr
 | .bptr id' o, v, _, hr => by
  simp only [fzV]
  cases hid : Nat.beq id' id with
  | false =>
   have hne : id' ≠ id := fun e => by subst e; simp at hid
   simp only [rel] at hr ⊢
   rw [hT id' hne]
   exact hr
  | true =>
   have := Nat.eq_of_beq_eq_true hid
   subst this
   cases b with
   | arr => simp [rel]
   | dead => simp [rel]
   | mpb => simp [rel]
   | box e cs =>
    simp only [rel] at hr
    obtain ⟨n, B, c, h1, h2, h3⟩ := hr
    obtain ⟨B', c', arr, g1, g2, g3, g4, g5⟩ := h.blk id' _ hb
    rw [h2] at g1
    injection g1 with g1
    injection g1 with g1 g1'
    subst g1
    simp only [rel]
    refine ⟨B, o, h3, fz_of_get fun j c0 hj => ?_⟩
    rw [List.getElem?_drop] at hj
    obtain ⟨u, n1, n2⟩ := rels_get g3 hj
    refine ⟨u, ?_, rel_ext c0 _ _ u (frz_ext h _) (pur_rel c0 u (purs_get hp hj) n2), g4 u (List.mem_of_getElem? n1)⟩
    rw [frz_cell (F := (Nat.beq · id')) (by simp) hb rfl h2]
    simp only [World.cell?, g2]
    simpa using n1
 | .ptr id' t r o, v, ho, hr => by
  simp only [fzV]
  cases hid : Nat.beq id' id with
  | false =>
   have hne : id' ≠ id := fun e => by subst e; simp at hid
   simp only [rel] at hr ⊢
   rw [hT id' hne]
   exact hr
  | true =>
   simp only [fzO, hid] at ho
   have := Nat.eq_of_beq_eq_true hid
   subst this
   cases b with
   | box => simp [rel]
   | dead => simp [rel]
   | mpb => simp [rel]
   | arr e sz rows =>
    simp only
    cases hrow : rows[r]? with
    | none => simp [rel]
    | some row =>
     simp only [rowsN] at ho
     simp only [rel] at hr
     obtain ⟨m, sz', B, o', h1, h2, g2, h3⟩ := hr
     rw [shape_get hb] at h1
     simp only [ABlk.shp, Option.some.injEq, Shp.row.injEq] at h1
     obtain ⟨rfl, rfl⟩ := h1
     obtain ⟨c, g1, rfl⟩ := h3 ho
     obtain ⟨_, hblk⟩ := h.blk id' _ hb
     rw [g1] at hblk
     obtain ⟨arr, k1, k2, k3, k4, k5⟩ := hblk
     obtain ⟨m1, m2⟩ := k4 r row hrow
     simp only [rel]
     refine ⟨B, _, g2, fz_of_get fun j c0 hj => ?_⟩
     rw [List.getElem?_drop] at hj
     obtain ⟨u, n1, n2, n3⟩ := m2 _ _ hj
     refine ⟨u, ?_, rel_ext c0 _ _ u (frz_ext h _) (pur_rel c0 u (purs_get (pursS_get hp hrow) hj) n2), n3⟩
     rw [frz_cell (F := (Nat.beq · id')) (by simp) hb rfl g1]
     simp only [World.cell?, k1]
     simpa [Nat.add_assoc] using n1
 | .sl id' t o n, v, ho, hr => by
  simp only [fzV]
  cases hid : Nat.beq id' id with
  | false =>
   have hne : id' ≠ id := fun e => by subst e; simp at hid
   simp only [rel] at hr ⊢
   rw [hT id' hne]
   exact hr
  | true =>
   simp only [fzO, hid] at ho
   have := Nat.eq_of_beq_eq_true hid
   subst this
   cases b with
   | box => simp [rel]
   | dead => simp [rel]
   | mpb => simp [rel]
   | arr e sz rows =>
    simp only [rowsN] at ho
    simp only [rel] at hr
    obtain ⟨m, sz', h1, h2, _, h3⟩ := hr
    rw [shape_get hb] at h1
    simp only [ABlk.shp, Option.some.injEq, Shp.row.injEq] at h1
    obtain ⟨rfl, rfl⟩ := h1
    obtain ⟨hon, h3⟩ := h3 ho
    obtain ⟨_, hblk⟩ := h.blk id' _ hb
    cases hρ : S.ρ id' with
    | none =>
     rw [hρ] at h3
     obtain ⟨rfl, a, rfl⟩ := h3
     simp only [rel]
     exact ⟨a, 0, by simp, by simp, .inl (by simp)⟩
    | some p =>
     obtain ⟨B, c⟩ := p
     rw [hρ] at h3 hblk
     obtain ⟨a, h4, h5⟩ := h3
     obtain ⟨arr, k1, k2, k3, k4, k5⟩ := hblk
     have hlen : ((rows.drop o).take n).length = n := by simp; omega
     simp only [rel]
     refine ⟨a, c - o, by rw [hlen]; exact h4, by rw [hlen]; omega, ?_⟩
     rcases Nat.eq_zero_or_pos n with hn | hn
     ·exact .inl (List.eq_nil_of_length_eq_zero (by rw [hlen]; exact hn))
     ·refine .inr ⟨B, o * sz, h5 (by omega), fzs_of_get fun i r hi => ?_⟩
      rw [List.getElem?_take] at hi
      split at hi
      ·rename_i hin
       rw [List.getElem?_drop] at hi
       obtain ⟨m1, m2⟩ := k4 _ _ hi
       refine ⟨m1, fz_of_get fun j c0 hj => ?_⟩
       obtain ⟨u, n1, n2, n3⟩ := m2 _ _ hj
       refine ⟨u, ?_, rel_ext c0 _ _ u (frz_ext h _) (pur_rel c0 u (purs_get (pursS_get hp hi) hj) n2), n3⟩
       rw [frz_cell (F := (Nat.beq · id')) (by simp) hb rfl hρ]
       simp only [World.cell?, k1]
       rw [← n1, Nat.add_mul]
       simp
      ·cases hi
 | .fn f x y, v, ho, hr => by
  simp only [fzV, rel] at hr ⊢
  simp only [fzO] at ho
  obtain ⟨a, b', h1, h2, h3⟩ := hr
  exact ⟨a, b', h1, fzVs_rel h hb hp hT x _ ho.1 h2, fzVs_rel h hb hp hT y _ ho.2 h3⟩
 | .iface t x, v, ho, hr => by
  simp only [fzV, rel] at hr ⊢
  simp only [fzO] at ho
  obtain ⟨u, h1, h2⟩ := hr
  exact ⟨u, h1, fzV_rel h hb hp hT x u ho h2⟩
 | .agg cs, v, ho, hr => by
  simp only [fzV, rel] at hr ⊢
  simp only [fzO] at ho
  obtain ⟨us, h1, h2, h3⟩ := hr
  exact ⟨us, h1, fzVs_rel h hb hp hT cs _ ho h2, h3⟩
 | .tup cs, v, ho, hr => by
  simp only [fzV, rel] at hr ⊢
  simp only [fzO] at ho
  obtain ⟨us, h1, h2⟩ := hr
  exact ⟨us, h1, fzVs_rel h hb hp hT cs _ ho h2⟩
theorem fzVs_rel (h : WRel S H w) (hb : H[id]? = some b) (hp : b.pure = true) (hT : ∀ j, j ≠ id → T' j = shape H j) : ∀ (cs : List AV) (vs : List Value), fzOs id (rowsN b) cs → rels S cs (shape H) vs → rels (S.frz w (Nat.beq · id) H) (fzVs id b cs) T' vs
 | [], _, _, h => h
 | c :: cs, vs, ho, hr => by
  simp only [fzVs, rels] at hr ⊢
  simp only [fzOs] at ho
  obtain ⟨v, vs', h1, h2, h3⟩ := hr
  exact ⟨v, vs', h1, fzV_rel h hb hp hT c v ho.1 h2, fzVs_rel h hb hp hT cs vs' ho.2 h3⟩
end
def fzH (id : Nat) (b : ABlk) (H : List ABlk) : List ABlk := (H.set id (.dead .mp)).map (fzB id b)
theorem fzB_shp (id : Nat) (b x : ABlk) : (fzB id b x).shp = x.shp := by
 cases x <;> simp [fzB, ABlk.shp, fzVs_map]
theorem fzH_get {j : Nat} {x : ABlk} (hj : (fzH id b H)[j]? = some x) : (j = id ∧ x = .dead .mp) ∨ (j ≠ id ∧ ∃ y, H[j]? = some y ∧ x = fzB id b y) := by
 unfold fzH at hj
 rw [List.getElem?_map] at hj
 obtain ⟨y, hy, rfl⟩ := Option.map_eq_some_iff.1 hj
 rcases get_set hy with ⟨h1, h2⟩ | ⟨h1, h2⟩
 ·exact .inr ⟨h1, y, h2, rfl⟩
 ·subst h2; exact .inl ⟨h1, rfl⟩
theorem fzH_shape (j : Nat) (hj : j ≠ id) : shape (fzH id b H) j = shape H j := by
 unfold fzH shape
 rw [List.getElem?_map, List.getElem?_set_ne (fun e => hj e.symm)]
 cases H[j]? with
 | none => rfl
 | some x => simp [fzB_shp]
theorem WRel.fz (h : WRel S H w) (hb : H[id]? = some b) (hp : b.pure = true) (hO : ∀ x ∈ H, fzBO id (rowsN b) x) : WRel (S.frz w (Nat.beq · id) H) (fzH id b H) w := by
 have hl : b.live = true := by cases b <;> first | rfl | cases hp
 have hT : ∀ j, j ≠ id → shape (fzH id b H) j = shape H j := fun j hj => fzH_shape j hj
 have hOwn : ∀ {j y B c}, j ≠ id → H[j]? = some y → y.live = true → S.ρ j = some (B, c) → Own S B → Own (S.frz w (Nat.beq · id) H) B := fun {j y B c} hj hy hyl hρ ho => by
  refine ⟨ho.1, fun o => ?_⟩
  simp only [RS.frz]
  rw [if_neg ?_]
  ·exact ho.2 o
  ·rintro ⟨id', c', b', hF, hb', hl', hρ'⟩
   have := Nat.eq_of_beq_eq_true hF
   subst this
   exact hj (h.inj j id' y b' B c c' hy hb' hyl hl' hρ hρ')
 refine ⟨h.os, h.tape, h.output, h.size, h.prot, fun B o v hv => ?_, fun k o p hp => ?_, fun j x hx => ?_, fun i j x y B c c' hi hj li lj hBi hBj => ?_⟩
 rotate_left 1
 ·obtain ⟨v, h1, h2⟩ := h.gl k o p hp
  refine ⟨v, ?_, h2⟩
  simp only [RS.frz]
  split
  ·exact h.fro k o v h1
  ·exact h1
 rotate_right 1
 ·simp only [RS.frz] at hv
  split at hv
  ·exact hv
  ·exact h.fro B o v hv
 ·rcases fzH_get hx with ⟨rfl, rfl⟩ | ⟨hne, y, hy, rfl⟩
  ·trivial
  ·have hrel := h.blk j y hy
   have hok := hO y (List.mem_of_getElem? hy)
   cases y with
   | box e cs =>
    obtain ⟨B, c, arr, h1, h2, h3, h4, h5⟩ := hrel
    exact ⟨B, c, arr, h1, h2, fzVs_rel h hb hp hT cs _ hok h3, h4, hOwn hne hy rfl h1 h5⟩
   | arr e sz rows =>
    obtain ⟨h0, hrel⟩ := hrel
    refine ⟨h0, ?_⟩
    show match S.ρ j with
     | some (B, c) => _
     | none => _
    cases hρ : S.ρ j with
    | none => rw [hρ] at hrel; simp only; rw [hrel]; rfl
    | some p =>
     obtain ⟨B, c⟩ := p
     rw [hρ] at hrel
     obtain ⟨arr, h2, h3, h4, h5, h6⟩ := hrel
     refine ⟨arr, h2, h3, by simpa using h4, fun i r hi => ?_, hOwn hne hy rfl hρ h6⟩
     rw [List.getElem?_map] at hi
     obtain ⟨r0, hr0, rfl⟩ := Option.map_eq_some_iff.1 hi
     obtain ⟨g1, g2⟩ := h5 i r0 hr0
     have hokr := hok r0 (List.mem_of_getElem? hr0)
     refine ⟨by rw [fzVs_map, List.length_map]; exact g1, fun k c0 hk => ?_⟩
     rw [fzVs_map, List.getElem?_map] at hk
     obtain ⟨c1, hc1, rfl⟩ := Option.map_eq_some_iff.1 hk
     obtain ⟨u, m1, m2, m3⟩ := g2 k c1 hc1
     exact ⟨u, m1, fzV_rel h hb hp hT c1 u (fzOs_mem hokr c1 (List.mem_of_getElem? hc1)) m2, m3⟩
   | mpb rows =>
    obtain ⟨B, c, es, clock, h1, h2, h3, h5⟩ := hrel
    exact ⟨B, c, es, clock, h1, h2, entR_ext (frz_ext h _).zero h3, hOwn hne hy rfl h1 h5⟩
   | dead s => trivial
 ·rcases fzH_get hi with ⟨_, rfl⟩ | ⟨_, x', hx', rfl⟩
  ·cases li
  ·rcases fzH_get hj with ⟨_, rfl⟩ | ⟨_, y', hy', rfl⟩
   ·cases lj
   ·exact h.inj i j x' y' B c c' hx' hy' (by cases x' <;> first | rfl | exact li) (by cases y' <;> first | rfl | exact lj) hBi hBj
theorem Ext.fz {S0 : RS} {H0 : List ABlk} (e : Ext S0 (shape H0) S (shape H)) (h : WRel S H w) (hid : H0.length ≤ id) : Ext S0 (shape H0) (S.frz w (Nat.beq · id) H) (shape (fzH id b H)) := by
 have key : ∀ j s, shape H0 j = some s → shape (fzH id b H) j = shape H j := fun j s hs => fzH_shape j (by have := shape_lt hs; omega)
 refine ⟨e.W0, e.D, fun B o v hv => frz_fro h _ B o v (e.fro B o v hv), fun B o v hv => ?_, fun j n hn => by rw [key j _ hn]; exact e.box j n hn, fun j hn => by rw [key j _ hn]; exact e.mp j hn, fun j m sz hn => by rw [key j _ hn]; exact e.row j m sz hn⟩
 rcases frz_fnw h _ B o v hv with h1 | h1
 ·exact e.fnw B o v h1
 ·exact .inr (by rw [e.D] at h1; exact h1)
end
section
variable {P : Program} {fn : Func} {tab : List Node} {H0 : List ABlk} {R : AV → List ABlk → Prop} {K : List AItem} {fr : List AV} {H : List ABlk}
theorem Run.freeze (id : Nat) (b : ABlk) (fr' : List AV) (H' : List ABlk) (hb : H[id]? = some b) (hid : H0.length ≤ id) (hp : b.pure = true) (hf : fzOs id (rowsN b) fr) (hO : ∀ x ∈ H, fzBO id (rowsN b) x) (hfr : fzVs id b fr = fr') (hH : fzH id b H = H')
  (h : Run P fn tab H0 R K fr' H') : Run P fn tab H0 R K fr H := by
 subst hfr hH
 intro S0 S w a bb k cs he hd hr hw hk
 exact h S0 _ w a bb k cs (he.fz hw hid) hd (fzVs_rel hw hb hp (fun j hj => fzH_shape j hj) fr _ hf hr) (hw.fz hb hp hO) hk
theorem CallsA.freeze {f : FuncId} {args : List AV} {R' : AV → List ABlk → Prop} (h : CallsA P f args H R)
  (hm : ∀ r H', R r H' → ∃ id b, H'[id]? = some b ∧ H.length ≤ id ∧ b.pure = true ∧ fzO id (rowsN b) r ∧ (∀ x ∈ H', fzBO id (rowsN b) x) ∧ R' (fzV id b r) (fzH id b H')) : CallsA P f args H R' :=
 ⟨h.1, fun S w vs hw hr => (h.2 S w vs hw hr).mono fun e w' ⟨u, he, S', v, H', h1, h2, h3, h4⟩ => by
  obtain ⟨id, b, g1, g2, g3, g4, g5, g6⟩ := hm v H' h4
  exact ⟨u, he, _, _, _, h1.fz h2 g2, h2.fz g1 g3 g5, fzV_rel h2 g1 g3 (fun j hj => fzH_shape j hj) v u g4 h3, g6⟩⟩
end
end Go.Ab

namespace Go.Ab
set_option linter.unusedVariables false
set_option linter.unusedSimpArgs false
open Go
section
variable {P : Program} {fn : Func} {tab : List Node} {H0 : List ABlk} {R : AV → List ABlk → Prop} {K : List AItem} {fr : List AV} {H : List ABlk} {rs : List RV}
end
section
variable {A : Ar}
theorem imI (hA : A = arS) {b c : Bool} {q : Prop} (h : b = c → q) : A.im b c q := by subst hA; exact h
theorem ndI (hA : A = arS) {p : Cnd} (h : p.holds) : A.nd p := by subst hA; exact h
end
section
variable {A : Ar}
end
theorem wrap_i64 {x : Int} (h1 : -9223372036854775808 ≤ x) (h2 : x ≤ 9223372036854775807) : IntKind.i64.wrap x = x := by
 simp only [IntKind.wrap]
 have hb : IntKind.i64.bits = 64 := rfl
 simp [IntKind.signed, hb]
 omega
end Go.Ab
namespace Go.Ab
set_option linter.unusedVariables false
set_option linter.unusedSimpArgs false
open Go
def ownL (n : Nat) : List AV → List AV → Prop
 | [], [] => True
 | x :: xs, y :: ys => (x = y ∨ y = .junk ∨ (x = .nils ∧ y = .sl n 0 0 0)) ∧ ownL n xs ys
 | _, _ => False
def ownH (n : Nat) : List ABlk → List ABlk → Prop
 | [], [] => True
 | x :: xs, y :: ys => (x = y ∨ ∃ e cs cs', x = .box e cs ∧ y = .box e cs' ∧ ownL n cs cs') ∧ ownH n xs ys
 | _, _ => False
theorem ownL_rels {S : RS} {T : Sh} {n sz : Nat} (hT : T n = some (.row 0 sz)) (hρ : S.ρ n = none) : ∀ {xs ys : List AV} {vs : List Value}, ownL n xs ys → rels S xs T vs → rels S ys T vs
 | [], [], vs, _, h => h
 | x :: xs, y :: ys, vs, hs, h => by
  simp only [ownL] at hs
  simp only [rels] at h ⊢
  obtain ⟨v, vs', h1, h2, h3⟩ := h
  refine ⟨v, vs', h1, ?_, ownL_rels hT hρ hs.2 h3⟩
  rcases hs.1 with rfl | rfl | ⟨rfl, rfl⟩
  ·exact h2
  ·simp [rel]
  ·simp only [rel] at h2 ⊢
   obtain ⟨a, rfl⟩ := h2
   exact ⟨0, sz, hT, Nat.le_refl _, rfl, fun _ => ⟨Nat.le_refl _, by rw [hρ]; exact ⟨trivial, a, rfl⟩⟩⟩
 | [], _ :: _, _, h, _ => h.elim
 | _ :: _, [], _, h, _ => h.elim
theorem ownL_length {n : Nat} : ∀ {xs ys : List AV}, ownL n xs ys → ys.length = xs.length
 | [], [], _ => rfl
 | x :: xs, y :: ys, h => by simp [ownL_length h.2]
 | [], _ :: _, h => h.elim
 | _ :: _, [], h => h.elim
theorem ownH_get {n : Nat} : ∀ {H H' : List ABlk}, ownH n H H' → ∀ (i : Nat) (y : ABlk), H'[i]? = some y → ∃ x, H[i]? = some x ∧ (x = y ∨ ∃ e cs cs', x = .box e cs ∧ y = .box e cs' ∧ ownL n cs cs')
 | [], [], _, i, y, h => by simp at h
 | x :: xs, y :: ys, h, 0, z, hz => by simp at hz; subst hz; exact ⟨x, by simp, h.1⟩
 | x :: xs, y :: ys, h, i + 1, z, hz => by
  obtain ⟨x', h1, h2⟩ := ownH_get h.2 i z (by simpa using hz)
  exact ⟨x', by simpa using h1, h2⟩
 | [], _ :: _, h, _, _, _ => h.elim
 | _ :: _, [], h, _, _, _ => h.elim
theorem ownH_length {n : Nat} : ∀ {H H' : List ABlk}, ownH n H H' → H'.length = H.length
 | [], [], _ => rfl
 | x :: xs, y :: ys, h => by simp [ownH_length h.2]
 | [], _ :: _, h => h.elim
 | _ :: _, [], h => h.elim
theorem ownH_shape {n : Nat} : ∀ {H H' : List ABlk}, ownH n H H' → ∀ i : Nat, (H'[i]?).map ABlk.shp = (H[i]?).map ABlk.shp
 | [], [], _, i => rfl
 | x :: xs, y :: ys, h, 0 => by
  rcases h.1 with rfl | ⟨e, cs, cs', rfl, rfl, hl⟩
  ·rfl
  ·simp [ABlk.shp, ownL_length hl]
 | x :: xs, y :: ys, h, i + 1 => by simpa using ownH_shape h.2 i
 | [], _ :: _, h, _ => h.elim
 | _ :: _, [], h, _ => h.elim
section
variable {P : Program} {fn : Func} {tab : List Node} {H0 : List ABlk} {R : AV → List ABlk → Prop} {K : List AItem} {fr : List AV} {H : List ABlk}
theorem WRel.swap {S : RS} {H H' : List ABlk} {w : World} (h : WRel S H w) (hs : ∀ i : Nat, (H'[i]?).map ABlk.shp = (H[i]?).map ABlk.shp)
  (hb : ∀ (i : Nat) (y : ABlk), H'[i]? = some y → ∃ x, H[i]? = some x ∧ (x = y ∨ ∃ e cs cs', x = .box e cs ∧ y = .box e cs' ∧ ∀ vs, rels S cs (shape H) vs → rels S cs' (shape H) vs)) : WRel S H' w := by
 have hsh : shape H' = shape H := funext fun i => hs i
 refine ⟨h.os, h.tape, h.output, h.size, h.prot, h.fro, h.gl, fun i y hy => ?_, fun i j b b' B c c' hi hj li lj => ?_⟩
 ·obtain ⟨x, hx, hxy⟩ := hb i y hy
  have := h.blk i x hx
  rw [hsh]
  rcases hxy with rfl | ⟨e, cs, cs', rfl, rfl, hr⟩
  ·exact this
  ·obtain ⟨B, c, arr, h1, h2, h3, h4, h5⟩ := this
   exact ⟨B, c, arr, h1, h2, hr _ h3, h4, h5⟩
 ·obtain ⟨x, hx, hxy⟩ := hb i b hi
  obtain ⟨x', hx', hxy'⟩ := hb j b' hj
  refine h.inj i j x x' B c c' hx hx' ?_ ?_
  ·rcases hxy with rfl | ⟨e, cs, cs', rfl, rfl, hr⟩
   ·exact li
   ·rfl
  ·rcases hxy' with rfl | ⟨e, cs, cs', rfl, rfl, hr⟩
   ·exact lj
   ·rfl
theorem Run.own (e sz : Nat) (h0 : 0 < sz) {fr' : List AV} {H' : List ABlk} (hf : ownL H.length fr fr') (hH : ownH H.length H H') (h : Run P fn tab H0 R K fr' (H' ++ [.arr e sz []])) : Run P fn tab H0 R K fr H := by
 intro S0 S w a b k cs he hd hr hw hk
 obtain ⟨w1, e1⟩ := hw.arr_none e sz h0
 have hT : shape (H ++ [ABlk.arr e sz []]) H.length = some (.row 0 sz) := by rw [shape_last]; rfl
 have hρ : (S.put H.length none).ρ H.length = none := put_same _ _ _
 have hl := ownH_length hH
 have hs : ∀ i : Nat, ((H' ++ [ABlk.arr e sz []])[i]?).map ABlk.shp = ((H ++ [ABlk.arr e sz []])[i]?).map ABlk.shp := fun i => by
  rcases Nat.lt_or_ge i H.length with hi | hi
  ·rw [List.getElem?_append_left (by omega), List.getElem?_append_left hi]
   exact ownH_shape hH i
  ·rw [List.getElem?_append_right (by omega), List.getElem?_append_right hi, hl]
 have hsh : shape (H' ++ [ABlk.arr e sz []]) = shape (H ++ [ABlk.arr e sz []]) := funext hs
 refine h S0 (S.put H.length none) w a b k cs (by rw [hsh]; exact he.trans e1) hd (by rw [hsh]; exact ownL_rels hT hρ hf (rels_ext _ _ _ _ e1 hr)) (w1.swap hs fun i y hy => ?_) hk
 rcases get_append_one hy with ⟨hi, hy⟩ | ⟨hi, rfl⟩
 ·obtain ⟨x, hx, hxy⟩ := ownH_get hH i y hy
  refine ⟨x, by rw [List.getElem?_append_left (by omega)]; exact hx, ?_⟩
  rcases hxy with rfl | ⟨e', cs, cs', rfl, rfl, hc⟩
  ·exact .inl rfl
  ·exact .inr ⟨e', cs, cs', rfl, rfl, fun vs hv => ownL_rels hT hρ hc hv⟩
 ·exact ⟨_, by rw [hi, hl]; simp, .inl rfl⟩
theorem rel_nils {S : RS} {T : Sh} {v : Value} (sz : Nat) (h : rel S .nils T v) : rel S (.inl sz []) T v := by
 simp only [rel] at h ⊢
 obtain ⟨a, rfl⟩ := h
 exact ⟨a, 0, rfl, Nat.le_refl _, Or.inl trivial⟩
end
end Go.Ab
namespace Go.Ab
set_option linter.unusedVariables false
set_option linter.unusedSimpArgs false
open Go
section
variable {P : Program} {fn : Func} {tab : List Node} {H0 : List ABlk} {R : AV → List ABlk → Prop} {K : List AItem} {fr : List AV} {H : List ABlk}
theorem CallsA.beside {f : FuncId} {args : List AV} {Q : AV → Prop} {Hp H1 : List ABlk} (h : CallsA P f args Hp (fun r H => Q r ∧ H = H1)) (hl : H1.length = Hp.length) (ha : blws Hp.length args = true) (hH : blwH Hp.length Hp = true) (rest : List ABlk) :
  CallsA P f args (Hp ++ rest) (fun r H => Q r ∧ H = H1 ++ rest) :=
 (h.frame (fun r H' h => by rw [h.2, hl]) ha (blwH_get hH) rest).mono fun r H' ⟨Hp', ⟨h1, h2⟩, h3⟩ => ⟨h1, by rw [h3, h2]⟩
end
end Go.Ab
namespace Go.Ab
set_option linter.unusedVariables false
set_option linter.unusedSimpArgs false
open Go
mutual
theorem fzV_blw (id m : Nat) (b : ABlk) : ∀ (c : AV), blw id c = true → fzV id b c = c ∧ fzO id m c
 | .int .., _ => ⟨rfl, trivial⟩
 | .bool .., _ => ⟨rfl, trivial⟩
 | .sb .., _ => ⟨rfl, trivial⟩
 | .str .., _ => ⟨rfl, trivial⟩
 | .nilp, _ => ⟨rfl, trivial⟩
 | .nils, _ => ⟨rfl, trivial⟩
 | .nilf, _ => ⟨rfl, trivial⟩
 | .nili, _ => ⟨rfl, trivial⟩
 | .nilm, _ => ⟨rfl, trivial⟩
 | .junk, _ => ⟨rfl, trivial⟩
 | .iptr _, _ => ⟨rfl, trivial⟩
 | .inl .., _ => ⟨rfl, trivial⟩
 | .ptr id' .., h => by
  simp only [blw] at h
  have h1 : id' < id := Nat.blt_eq.mp h
  have h2 : Nat.beq id' id = false := by
   cases hb : Nat.beq id' id
   ·rfl
   ·have := Nat.eq_of_beq_eq_true hb; omega
  simp [fzV, fzO, h2]
 | .bptr id' .., h => by
  simp only [blw] at h
  have h1 : id' < id := Nat.blt_eq.mp h
  have h2 : Nat.beq id' id = false := by
   cases hb : Nat.beq id' id
   ·rfl
   ·have := Nat.eq_of_beq_eq_true hb; omega
  simp [fzV, fzO, h2]
 | .sl id' .., h => by
  simp only [blw] at h
  have h1 : id' < id := Nat.blt_eq.mp h
  have h2 : Nat.beq id' id = false := by
   cases hb : Nat.beq id' id
   ·rfl
   ·have := Nat.eq_of_beq_eq_true hb; omega
  simp [fzV, fzO, h2]
 | .map id', h => by
  simp only [blw] at h
  have h1 : id' < id := Nat.blt_eq.mp h
  have h2 : Nat.beq id' id = false := by
   cases hb : Nat.beq id' id
   ·rfl
   ·have := Nat.eq_of_beq_eq_true hb; omega
  simp [fzV, fzO, h2]
 | .fn f x y, h => by
  simp only [blw, Bool.and_eq_true] at h
  obtain ⟨h1, h2⟩ := fzVs_blw id m b x h.1
  obtain ⟨h3, h4⟩ := fzVs_blw id m b y h.2
  exact ⟨by simp only [fzV, h1, h3], h2, h4⟩
 | .iface _ x, h => by
  simp only [blw] at h
  obtain ⟨h1, h2⟩ := fzV_blw id m b x h
  exact ⟨by simp only [fzV, h1], h2⟩
 | .agg cs, h => by
  simp only [blw] at h
  obtain ⟨h1, h2⟩ := fzVs_blw id m b cs h
  exact ⟨by simp only [fzV, h1], h2⟩
 | .tup cs, h => by
  simp only [blw] at h
  obtain ⟨h1, h2⟩ := fzVs_blw id m b cs h
  exact ⟨by simp only [fzV, h1], h2⟩
theorem fzVs_blw (id m : Nat) (b : ABlk) : ∀ (cs : List AV), blws id cs = true → fzVs id b cs = cs ∧ fzOs id m cs
 | [], _ => ⟨rfl, trivial⟩
 | c :: cs, h => by
  simp only [blws, Bool.and_eq_true] at h
  obtain ⟨h1, h2⟩ := fzV_blw id m b c h.1
  obtain ⟨h3, h4⟩ := fzVs_blw id m b cs h.2
  exact ⟨by simp only [fzVs, h1, h3], h2, h4⟩
end
theorem fzR_blw (id m : Nat) (b : ABlk) : ∀ (rows : List (List AV)), blwH.blwR id rows = true → rows.map (fzVs id b) = rows ∧ ∀ r ∈ rows, fzOs id m r
 | [], _ => ⟨rfl, fun r hr => by cases hr⟩
 | r :: rs, h => by
  simp only [blwH.blwR, Bool.and_eq_true] at h
  obtain ⟨h1, h2⟩ := fzVs_blw id m b r h.1
  obtain ⟨h3, h4⟩ := fzR_blw id m b rs h.2
  refine ⟨by simp only [List.map_cons, h1, h3], fun r' hr => ?_⟩
  rcases List.mem_cons.1 hr with rfl | hr
  ·exact h2
  ·exact h4 r' hr
theorem fzH_blw (id m : Nat) (b : ABlk) : ∀ (H : List ABlk), blwH id H = true → H.map (fzB id b) = H ∧ ∀ x ∈ H, fzBO id m x
 | [], _ => ⟨rfl, fun x hx => by cases hx⟩
 | x :: H, h => by
  have key : (fzB id b x = x ∧ fzBO id m x) ∧ blwH id H = true := by
   cases x with
   | box e cs =>
    simp only [blwH, Bool.and_eq_true] at h
    obtain ⟨h1, h2⟩ := fzVs_blw id m b cs h.1
    exact ⟨⟨by simp only [fzB, h1], h2⟩, h.2⟩
   | arr e sz rows =>
    simp only [blwH, Bool.and_eq_true] at h
    obtain ⟨h1, h2⟩ := fzR_blw id m b rows h.1
    exact ⟨⟨by simp only [fzB, h1], h2⟩, h.2⟩
   | mpb s => exact ⟨⟨rfl, trivial⟩, h⟩
   | dead s => exact ⟨⟨rfl, trivial⟩, h⟩
  obtain ⟨h3, h4⟩ := fzH_blw id m b H key.2
  refine ⟨by simp only [List.map_cons, key.1.1, h3], fun y hy => ?_⟩
  rcases List.mem_cons.1 hy with rfl | hy
  ·exact key.1.2
  ·exact h4 y hy
section
variable {P : Program} {H : List ABlk}
theorem CallsA.out {f : FuncId} {args : List AV} {e sz : Nat} {L : List (List AV)} {H1 : List ABlk} {Q : Prop} (h : CallsA P f args H (fun r H' => (∃ m, r = .sl H1.length m 0 m ∧ m = L.length) ∧ H' = H1 ++ [.arr e sz L] ∧ Q)) (hl : H1.length = H.length) (hp : pursS L = true) (hb : blwH H1.length H1 = true) :
  CallsA P f args H (fun r H' => r = .inl sz L ∧ H' = H1 ∧ Q) := by
 obtain ⟨g1, g2⟩ := fzH_blw H1.length L.length (.arr e sz L) H1 hb
 have hf : CallsA P f args H (fun r H' => r = .inl sz L ∧ H' = H1 ++ [.dead .mp] ∧ Q) := by
  refine h.freeze fun r H' ⟨⟨m, hr, hm⟩, hH, hQ⟩ => ⟨H1.length, .arr e sz L, ?_⟩
  subst hr hH
  refine ⟨by simp, by omega, hp, ?_, fun x hx => ?_, ?_, ?_, hQ⟩
  ·simp [fzO, rowsN, hm]
  ·rcases List.mem_append.1 hx with hx | hx
   ·exact g2 x hx
   ·simp only [List.mem_singleton] at hx
    subst hx
    exact (fzR_blw H1.length L.length (.arr e sz L) L (blwR_pursS hp)).2
  ·simp [fzV, hm]
  ·simp only [fzH]
   rw [List.set_append_right _ _ (Nat.le_refl _)]
   simp [g1, fzB]
 refine hf.trim fun r H' ⟨hr, hH, hQ⟩ => ?_
 subst hr hH
 rw [← hl, List.take_left]
 exact ⟨rfl, hb, rfl, rfl, hQ⟩
end
end Go.Ab
