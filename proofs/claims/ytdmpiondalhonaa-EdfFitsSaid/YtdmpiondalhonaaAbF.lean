/- Each operation of the abstract machine is what the model does. -/
import Derived.Test.YtdmpiondalhonaaAbE
namespace Go.Ab
open Go
set_option linter.unusedVariables false
set_option linter.unusedSimpArgs false
variable {σr : RowF}

/-- A value of the model, and a world, that a pair of the abstract machine speaks of, later than (S, H). -/
def Done (S : RS) (H : List ABlk) (K : AV → List ABlk → Prop) (u : Value) (w' : World) : Prop :=
  ∃ S' v H', Ext S (shape H) S' (shape H') ∧ WRel S' H' w' ∧ rel S' v (shape H') u ∧ K v H'

/-- A function that has a text of its own. -/
def Callable (P : Program) (f : FuncId) : Prop := ∃ fn, P.funcs[f]? = some fn ∧ (fn.name == "runtime.NumGoroutine") = false ∧ fn.body.isNone = false

/-- THE CONTRACT OF A FUNCTION over the abstract machine. -/
def CallsA (P : Program) (f : FuncId) (args : List AV) (H : List ABlk) (R : AV → List ABlk → Prop) : Prop :=
  Callable P f ∧ ∀ S w vs, WRel S H w → rels S args (shape H) vs → Calls P f vs.toArray w fun e w' => ∃ u, e = .returned u ∧ Done S H R u w'

def unsL : List AV → List AV
  | [] => []
  | v :: l => uns v :: unsL l
def symL : List AV → List AV
  | [] => []
  | v :: l => sym v :: symL l

theorem unsL_rel {S : RS} {T : Sh} : ∀ {cs : List AV} {vs : List Value}, rels S cs T vs → rels S (unsL cs) T vs
  | [], _, h => h
  | c :: cs, vs, h => by
    simp only [rels, unsL] at h ⊢
    obtain ⟨v, vs', h1, h2, h3⟩ := h
    exact ⟨v, vs', h1, uns_rel h2, unsL_rel h3⟩
theorem symL_rel {S : RS} {T : Sh} : ∀ {cs : List AV} {vs : List Value}, rels S cs T vs → rels S (symL cs) T vs
  | [], _, h => h
  | c :: cs, vs, h => by
    simp only [rels, symL] at h ⊢
    obtain ⟨v, vs', h1, h2, h3⟩ := h
    exact ⟨v, vs', h1, sym_rel h2, symL_rel h3⟩

/-- What is asked of what an operation comes to. -/
def sat (A : Ar) (P : Program) (H : List ABlk) : Out → (AV → List ABlk → Prop) → Prop
  | .ok v H', K => K v H'
  | .need p o, K => A.nd p ∧ sat A P H o K
  | .ask p k, K => ∃ r, p r ∧ sat A P H (k r) K
  | .br b k, K => sat A P H (k b) K
  | .nilq neg n H', K => A.im (A.cmp .eql (A.ofN n) 0) true (K (.bool (!neg)) H') ∧ K (.bool neg) H'
  | .call f args, K => CallsA P f (unsL args) H fun r H' => K (sym r) H'
  | .bad, _ => False

def opRes (P : Program) (o : Oper) (a : Act) (w : World) (G : Value → World → Prop) : Prop :=
  match (execOp a.eval o).run P w with
  | .ok (.value u) w' => G u w'
  | .ok .skip w' => G undef w'
  | .ok (.enter f args) w' => Calls P f args w' fun e w'' => ∃ u, e = .returned u ∧ G u w''
  | _ => False

theorem Done.here {S : RS} {H : List ABlk} {K : AV → List ABlk → Prop} {u : Value} {w : World} {v : AV} (h : WRel S H w) (hr : rel S v (shape H) u) (hK : K v H) : Done S H K u w :=
  ⟨S, v, H, Ext.refl _ _, h, hr, hK⟩

theorem Done.sym {S : RS} {H : List ABlk} {K : AV → List ABlk → Prop} {u : Value} {w : World} (h : Done S H (fun r H' => K (sym r) H') u w) : Done S H K u w := by
  obtain ⟨S', v, H', h1, h2, h3, h4⟩ := h
  exact ⟨S', Ab.sym v, H', h1, h2, sym_rel h3, h4⟩

theorem shape_last (H : List ABlk) (b : ABlk) : shape (H ++ [b]) H.length = some b.shp := by simp [shape]
theorem put_same (S : RS) (i : Nat) (p : Option (Nat × Nat)) : (S.put i p).ρ i = p := by simp [RS.put]

section
variable {P : Program} {S : RS} {H : List ABlk} {fr : List AV} {K : AV → List ABlk → Prop} {o : Oper} {a : Act} {w : World}

theorem sat_bad {A : Ar} {r : Prop} (h : sat A P H .bad K) : r := h.elim

theorem orBad_some {A : Ar} {x : Option AO} (h : sat A P H (exec1 A σr fr H (orBad x)) K) : ∃ ao, x = some ao ∧ sat A P H (exec1 A σr fr H ao) K := by
  cases x with
  | none => exact h.elim
  | some ao => exact ⟨ao, rfl, h⟩

theorem sat_okO {A : Ar} {x : Option AV} (h : sat A P H (okO x H) K) : ∃ v, x = some v ∧ K v H := by
  cases x with
  | none => exact h.elim
  | some v => exact ⟨v, rfl, h⟩

theorem op_mv {x : Operand} (ho : o.op = .move x ∨ o.op = .assign x) (hf : rels S fr (shape H) a.tmps.toList) (h : WRel S H w) {ax : AX} (hx : rx x = some ax) (hK : K (ev fr ax) H) : opRes P o a w (Done S H K) := by
  unfold opRes execOp
  rcases ho with ho | ho <;> (simp only [ho, Sem.run_pure]; exact .here h (rx_rel hf hx) hK)

theorem cellsOf_rel {T : Sh} {v : AV} {u : Value} (h : rel S v T u) (h1 : allOne (cellsOf v) = true) : rels S (cellsOf v) T u.cells.toList ∧ ∀ x ∈ u.cells.toList, x.oneCell' = true := by
  by_cases hc : ∃ cs, v = .agg cs
  · obtain ⟨cs, rfl⟩ := hc
    simp only [rel] at h
    obtain ⟨us, rfl, h2, h3⟩ := h
    exact ⟨h2, h3⟩
  · have hcell : cellsOf v = [uns v] := by
      cases v <;> first | rfl | exact absurd ⟨_, rfl⟩ hc
    rw [hcell] at h1 ⊢
    simp only [allOne, Bool.and_true] at h1
    have hu := uns_rel h
    have ho := one_cell hu h1
    have hcu : u.cells = #[u] := by cases u <;> first | rfl | (simp [Value.oneCell'] at ho)
    rw [hcu]
    exact ⟨by simp only [rels]; exact ⟨u, [], rfl, hu, rfl⟩, by simpa using ho⟩

theorem op_box {e : TypeId} {x : Operand} (ho : o.op = .box e x) (hf : rels S fr (shape H) a.tmps.toList) (h : WRel S H w) {ax : AX} (hx : rx x = some ax) (h1 : allOne (cellsOf (ev fr ax)) = true)
    (hK : K (.bptr (lenL H) 0) (appL H [.box e (cellsOf (ev fr ax))])) : opRes P o a w (Done S H K) := by
  unfold opRes execOp
  simp only [ho, Instr.box, newVar, newRow, Sem.run_bind, run_newObj, World.alloc_eq, Result.andThen_ok, Sem.run_pure]
  obtain ⟨g1, g2⟩ := cellsOf_rel (rx_rel hf hx) h1
  rw [lenL_eq, appL_eq] at hK
  refine ⟨_, _, _, Ext.put_new S H _ _, h.box_new e _ _ g1 g2, ?_, hK⟩
  simp only [rel]
  exact ⟨_, _, _, shape_last _ _, put_same _ _ _, rfl⟩

theorem zeroOf_spec {t : TypeId} {z : List AV} (hz : zeroOf P t = some z) : ∃ i v, P.info? t = some i ∧ i.zero = some v ∧ cvs v.cells.toList = some z := by
  unfold zeroOf at hz
  cases h1 : P.info? t with
  | none => rw [h1] at hz; cases hz
  | some i =>
    rw [h1] at hz
    simp only at hz
    cases h2 : i.zero with
    | none => rw [h2] at hz; cases hz
    | some v => rw [h2] at hz; exact ⟨i, v, rfl, h2, hz⟩

theorem run_zero {t : TypeId} {i : TypeInfo} {v : Value} (h1 : P.info? t = some i) (h2 : i.zero = some v) (w : World) : (zeroValue t).run P w = .ok v w := by
  simp [zeroValue, run_info h1, h2]

theorem op_alloc {e : TypeId} (ho : o.op = .alloc e) (h : WRel S H w) {z : List AV} (hz : zeroOf P e = some z) (h1 : allOne z = true)
    (hK : K (.bptr (lenL H) 0) (appL H [.box e z])) : opRes P o a w (Done S H K) := by
  obtain ⟨i, v, hi, hv, hc⟩ := zeroOf_spec hz
  have hr := cvs_rel (S := S) (T := shape H) _ _ hc
  unfold opRes execOp
  simp only [ho, Instr.alloc, run_zero hi hv, newVar, newRow, Sem.run_bind, run_newObj, World.alloc_eq, Result.andThen_ok, Sem.run_pure]
  rw [lenL_eq, appL_eq] at hK
  refine ⟨_, _, _, Ext.put_new S H _ _, h.box_new e _ _ hr (rels_one hr h1), ?_, hK⟩
  simp only [rel]
  exact ⟨_, _, _, shape_last _ _, put_same _ _ _, rfl⟩

/-- A load's address, and what comes behind it. -/
theorem ldA_sat {n : Option Nat} {x : AV} {k : AV → Out} {u : Value} (hA : ∀ p : Cnd, arS.nd p = p.holds) (h : WRel S H w) (hx : rel S x (shape H) u) (hs : sat arS P H (ldA arS σr n x H k) K) {t : TypeId} (hl : ldOf P t = some n) :
    ∃ v y, (Instr.loadAt t u).run P w = .ok y w ∧ rel S v (shape H) y ∧ sat arS P H (k v) K := by
  cases x <;> simp only [ldA] at hs
  case bptr id o =>
    simp only [rel] at hx
    obtain ⟨m, B, c, h1, h2, rfl⟩ := hx
    rw [getL_eq] at hs
    cases hb : H[id]? with
    | none => rw [hb] at hs; exact hs.elim
    | some b =>
      rw [hb] at hs
      cases b <;> simp only at hs
      case arr => exact hs.elim
      case dead => exact hs.elim
      case mpb => exact hs.elim
      case box e cs =>
        rw [dropL_eq] at hs
        have hc := (cellsAt_box h hb h2).drop o
        simp only [Nat.zero_add] at hc
        cases hp : partA n (cs.drop o) with
        | none => rw [hp] at hs; exact hs.elim
        | some v =>
          rw [hp] at hs
          obtain ⟨y, g1, g2⟩ := run_ld hl hc hp
          exact ⟨v, y, by simp [Instr.loadAt, Instr.sureAddr, g1], g2, hs⟩
  case iptr cs =>
    simp only [rel] at hx
    obtain ⟨B, o, rfl, h2⟩ := hx
    have hc := cellsAt_iptr (T := shape H) h h2
    cases hp : partA n cs with
    | none => rw [hp] at hs; exact hs.elim
    | some v =>
      rw [hp] at hs
      obtain ⟨y, g1, g2⟩ := run_ld hl hc hp
      exact ⟨v, y, by simp [Instr.loadAt, Instr.sureAddr, g1], g2, hs⟩
  case ptr id t' r o =>
    rw [getL_eq] at hs
    cases hb : H[id]? with
    | none => rw [hb] at hs; exact hs.elim
    | some b =>
      rw [hb] at hs
      cases b <;> simp only at hs
      case box => exact hs.elim
      case dead => exact hs.elim
      case mpb => exact hs.elim
      case arr e sz rows =>
        simp only [sat, hA] at hs
        obtain ⟨⟨ht, hrow⟩, hs⟩ := hs
        generalize σr arS e rows r = row at *
        have hrow : rows[r]? = some row := hrow
        simp only [rel] at hx
        obtain ⟨m, sz', B, o', h1, h2, rfl, h3⟩ := hx
        rw [shape_get hb] at h1
        simp only [ABlk.shp, Option.some.injEq, Shp.row.injEq] at h1
        obtain ⟨rfl, rfl⟩ := h1
        obtain ⟨c, g1, rfl⟩ := h3 ht
        have hc := (cellsAt_row h hb g1 hrow).drop o
        rw [dropL_eq] at hs
        cases hp : partA n (row.drop o) with
        | none => rw [hp] at hs; exact hs.elim
        | some v =>
          rw [hp] at hs
          obtain ⟨y, k1, k2⟩ := run_ld hl hc hp
          exact ⟨v, y, by simp [Instr.loadAt, Instr.sureAddr, k1], k2, hs⟩
  all_goals exact hs.elim

theorem op_ld {t : TypeId} {x : Operand} (ho : o.op = .load t x) (hf : rels S fr (shape H) a.tmps.toList) (h : WRel S H w) {ax : AX} (hx : rx x = some ax) {n : Option Nat} (hl : ldOf P t = some n)
    (hs : sat arS P H (exec1 arS σr fr H (.ld n ax)) K) : opRes P o a w (Done S H K) := by
  simp only [exec1] at hs
  obtain ⟨v, y, h1, h2, h3⟩ := ldA_sat (fun _ => rfl) h (rx_rel hf hx) hs hl
  unfold opRes execOp
  simp only [ho, Sem.run_bind, h1, Result.andThen_ok, Sem.run_pure]
  exact .here h h2 h3

end
end Go.Ab
