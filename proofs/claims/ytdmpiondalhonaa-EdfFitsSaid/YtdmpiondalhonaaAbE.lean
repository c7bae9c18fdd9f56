/- Each operation of the abstract machine is what the model does: the parts. -/
import Derived.Test.YtdmpiondalhonaaAbD
namespace Go.Ab
open Go
set_option linter.unusedVariables false
set_option linter.unusedSimpArgs false

theorem lenL_eq {α : Type} : ∀ l : List α, lenL l = l.length
  | [] => rfl
  | _ :: l => by simp [lenL, lenL_eq l]
theorem getL_eq {α : Type} : ∀ (l : List α) (n : Nat), getL l n = l[n]?
  | [], _ => by simp [getL]
  | x :: _, 0 => by simp [getL]
  | _ :: l, n + 1 => by simp [getL, getL_eq l n]
theorem setL_eq {α : Type} : ∀ (l : List α) (n : Nat) (y : α), setL l n y = l.set n y
  | [], _, _ => rfl
  | _ :: l, 0, y => rfl
  | x :: l, n + 1, y => by simp [setL, setL_eq l n y]
theorem dropL_eq {α : Type} : ∀ (n : Nat) (l : List α), dropL n l = l.drop n
  | 0, l => by simp [dropL]
  | _ + 1, [] => by simp [dropL]
  | n + 1, _ :: l => by simp [dropL, dropL_eq n l]
theorem appL_eq {α : Type} : ∀ l m : List α, appL l m = l ++ m
  | [], m => rfl
  | x :: l, m => by simp [appL, appL_eq l m]
theorem takeL_eq {α : Type} : ∀ (n : Nat) (l r : List α), takeL n l = some r → r = l.take n ∧ r.length = n
  | 0, l, r, h => by simp [takeL] at h; subst h; simp
  | n + 1, [], r, h => by simp [takeL] at h
  | n + 1, x :: l, r, h => by
    simp only [takeL, Option.map_eq_some_iff] at h
    obtain ⟨r', h1, rfl⟩ := h
    obtain ⟨h2, h3⟩ := takeL_eq n l r' h1
    simp [← h2, h3]
theorem repL_eq {α : Type} : ∀ (n : Nat) (x : α), repL n x = List.replicate n x
  | 0, _ => rfl
  | n + 1, x => by simp [repL, List.replicate_succ, repL_eq n x]
theorem splL_eq : ∀ (cs : List AV) (o : Nat) (ys r : List AV), splL cs o ys = some r → o + ys.length ≤ cs.length ∧ r = cs.take o ++ ys ++ cs.drop (o + ys.length)
  | cs, 0, [], r, h => by simp [splL] at h; subst h; simp
  | [], 0, _ :: _, r, h => by simp [splL] at h
  | _ :: cs, 0, y :: ys, r, h => by
    simp only [splL, Option.map_eq_some_iff] at h
    obtain ⟨r', h1, rfl⟩ := h
    obtain ⟨h2, h3⟩ := splL_eq cs 0 ys r' h1
    subst h3
    simp at h2 ⊢
    omega
  | [], _ + 1, ys, r, h => by cases ys <;> simp [splL] at h
  | c :: cs, o + 1, ys, r, h => by
    have h' : (splL cs o ys).map (c :: ·) = some r := by cases ys <;> simpa [splL] using h
    simp only [Option.map_eq_some_iff] at h'
    obtain ⟨r', h1, rfl⟩ := h'
    obtain ⟨h2, h3⟩ := splL_eq cs o ys r' h1
    subst h3
    refine ⟨by simp; omega, ?_⟩
    rw [show o + 1 + ys.length = (o + ys.length) + 1 by omega]
    simp

theorem one_cell {S : RS} {T : Sh} {c : AV} {v : Value} (h : rel S c T v) (h1 : one c = true) : v.oneCell' = true := by
  cases c <;> simp only [one, Bool.false_eq_true] at h1 <;> simp only [rel] at h
  case int => subst h; rfl
  case bool => subst h; rfl
  case sb => subst h; rfl
  case str => subst h; rfl
  case nilp => subst h; rfl
  case nilf => subst h; rfl
  case nili => subst h; rfl
  case nilm => subst h; rfl
  case ptr => obtain ⟨_, _, _, _, _, _, rfl, _⟩ := h; rfl
  case bptr => obtain ⟨_, _, _, _, _, rfl⟩ := h; rfl
  case iptr => obtain ⟨_, _, rfl, _⟩ := h; rfl
  case nils => obtain ⟨_, rfl⟩ := h; rfl
  case sl => obtain ⟨_, _, _, _, h0, _⟩ := h; exact h0
  case inl => obtain ⟨_, _, rfl, _⟩ := h; rfl
  case fn => obtain ⟨_, _, rfl, _⟩ := h; rfl
  case iface => obtain ⟨_, rfl, _⟩ := h; rfl
  case map => obtain ⟨_, _, _, _, rfl⟩ := h; rfl
theorem rels_one {S : RS} {T : Sh} : ∀ {cs : List AV} {vs : List Value}, rels S cs T vs → allOne cs = true → ∀ u ∈ vs, u.oneCell' = true
  | [], vs, h, _, u, hu => by simp only [rels] at h; subst h; simp at hu
  | c :: cs, vs, h, h1, u, hu => by
    simp only [rels] at h
    obtain ⟨v, vs', rfl, h2, h3⟩ := h
    simp only [allOne, Bool.and_eq_true] at h1
    rcases List.mem_cons.1 hu with rfl | hu
    · exact one_cell h2 h1.1
    · exact rels_one h3 h1.2 u hu

mutual
theorem cv_rel {S : RS} {T : Sh} : ∀ (v : Value) (c : AV), cv v = some c → rel S c T v
  | .int k n, c, h => by simp [cv] at h; subst h; simp [rel]
  | .bool b, c, h => by simp [cv] at h; subst h; simp [rel]
  | .string s, c, h => by simp [cv] at h; subst h; simp [rel]
  | .pointer none, c, h => by simp [cv] at h; subst h; simp [rel]
  | .pointer (some a), c, h => by simp [cv] at h
  | .slice none 0 0, c, h => by simp [cv] at h; subst h; exact ⟨none, rfl⟩
  | .slice none 0 (_ + 1), c, h => by simp [cv] at h
  | .slice none (_ + 1) _, c, h => by simp [cv] at h
  | .slice (some _) _ _, c, h => by simp [cv] at h
  | .nilFunc, c, h => by simp [cv] at h; subst h; simp [rel]
  | .nilIface, c, h => by simp [cv] at h; subst h; simp [rel]
  | .map none, c, h => by simp [cv] at h; subst h; simp [rel]
  | .map (some _), c, h => by simp [cv] at h
  | .float .., c, h => by simp [cv] at h
  | .complex .., c, h => by simp [cv] at h
  | .chan _, c, h => by simp [cv] at h
  | .func .., c, h => by simp [cv] at h
  | .iface .., c, h => by simp [cv] at h
  | .agg ⟨cs⟩, c, h => by
    simp only [cv, Option.bind_eq_some_iff] at h
    obtain ⟨l, h1, h2⟩ := h
    split at h2
    · rename_i ho
      injection h2 with h2
      subst h2
      simp only [rel]
      have hr := cvs_rel (S := S) (T := T) cs l h1
      exact ⟨_, rfl, hr, fun u hu => rels_one hr ho u hu⟩
    · cases h2
  | .tuple ⟨cs⟩, c, h => by
    simp only [cv, Option.map_eq_some_iff] at h
    obtain ⟨l, h1, rfl⟩ := h
    simp only [rel]
    exact ⟨_, rfl, cvs_rel cs l h1⟩
theorem cvs_rel {S : RS} {T : Sh} : ∀ (vs : List Value) (cs : List AV), cvs vs = some cs → rels S cs T vs
  | [], cs, h => by simp [cvs] at h; subst h; simp [rels]
  | v :: vs, cs, h => by
    simp only [cvs] at h
    cases h1 : cv v with
    | none => rw [h1] at h; cases h
    | some a =>
      cases h2 : cvs vs with
      | none => rw [h1, h2] at h; cases h
      | some as =>
        rw [h1, h2] at h
        injection h with h
        subst h
        simp only [rels]
        exact ⟨v, vs, rfl, cv_rel v a h1, cvs_rel vs as h2⟩
end

def Act.vals (a : Act) : List Value := a.tmps.toList

theorem rx_rel {S : RS} {T : Sh} {fr : List AV} {a : Act} (hf : rels S fr T a.tmps.toList) {x : Operand} {ax : AX} (h : rx x = some ax) : rel S (ev fr ax) T (a.eval x) := by
  cases x with
  | tmp n =>
    simp only [rx, Option.some.injEq] at h
    subst h
    simp only [ev, getL_eq]
    cases hn : fr[n]? with
    | none => simp [rel]
    | some c =>
      obtain ⟨v, h1, h2⟩ := rels_get hf hn
      simp only [Option.getD_some, Act.eval]
      have : a.tmps.getD n undef = v := by
        rw [Array.getElem?_toList] at h1
        simp [Array.getD_eq_getD_getElem?, h1]
      rw [this]
      exact h2
  | const v =>
    simp only [rx, Option.map_eq_some_iff] at h
    obtain ⟨c, h1, rfl⟩ := h
    exact cv_rel v c h1
  | func f =>
    simp only [rx, Option.some.injEq] at h
    subst h
    simp [ev, rel, rels, Act.eval]
  | global g => simp [rx] at h

theorem rxs_rel {S : RS} {T : Sh} {fr : List AV} {a : Act} (hf : rels S fr T a.tmps.toList) : ∀ {xs : List Operand} {axs : List AX}, rxs xs = some axs → rels S (evs fr axs) T (xs.map a.eval)
  | [], axs, h => by
    simp [rxs] at h
    subst h
    simp [evs, rels]
  | x :: xs, axs, h => by
    simp only [rxs, List.mapM_cons, Option.bind_eq_bind, Option.bind_eq_some_iff, Option.pure_def, Option.some.injEq] at h
    obtain ⟨ax, h1, as, h2, rfl⟩ := h
    simp only [evs, List.map_cons, rels]
    exact ⟨_, _, rfl, rx_rel hf h1, rxs_rel hf h2⟩

/-! ### parts of the model's operations -/
theorem run_info {P : Program} {t : TypeId} {i : TypeInfo} (h : P.info? t = some i) (w : World) : (typeInfo t).run P w = .ok i w := by simp [typeInfo, h]

theorem run_szOf {P : Program} {t : TypeId} {n : Nat} (h : szOf P t = some n) (w : World) : (sizeOf t).run P w = .ok n w := by
  simp only [szOf, Option.map_eq_some_iff] at h
  obtain ⟨i, h1, rfl⟩ := h
  simp [sizeOf, run_info h1]

theorem run_isAg {P : Program} {t : TypeId} {b : Bool} (h : isAg P t = some b) (w : World) : (isAgg t).run P w = .ok b w := by
  unfold isAg at h
  cases hu : P.underlying t with
  | none => rw [hu] at h; cases h
  | some d =>
    rw [hu] at h
    simp only [isAgg, Sem.run_bind, run_underlying hu, Result.andThen_ok]
    cases d <;> simp at h <;> subst h <;> rfl

/-- Cells of the model that abstract cells speak of. -/
def CellsAt (S : RS) (T : Sh) (w : World) (a : Addr) (cs : List AV) : Prop :=
  a.spot = none ∧ ∀ (j : Nat) (c : AV), cs[j]? = some c → ∃ u, w.cell? (a.add j) = some u ∧ rel S c T u ∧ u.oneCell' = true

theorem CellsAt.drop {S : RS} {T : Sh} {w : World} {a : Addr} {cs : List AV} (h : CellsAt S T w a cs) (n : Nat) : CellsAt S T w ⟨a.block, a.off + n, none⟩ (cs.drop n) := by
  obtain ⟨B, o, s⟩ := a
  obtain ⟨h0, h⟩ := h
  simp only at h0
  subst h0
  refine ⟨rfl, fun j c hj => ?_⟩
  rw [List.getElem?_drop] at hj
  obtain ⟨u, h1, h2⟩ := h _ _ hj
  exact ⟨u, by rw [← h1]; simp [Addr.add_lit, Nat.add_assoc], h2⟩

theorem sym_rel {S : RS} {T : Sh} {c : AV} {v : Value} (h : rel S c T v) : rel S (sym c) T v := by
  cases c <;> first | exact h | (simp only [sym, rel] at h ⊢; exact h)
theorem uns_rel {S : RS} {T : Sh} {c : AV} {v : Value} (h : rel S c T v) : rel S (uns c) T v := by
  cases c <;> first | exact h | (simp only [uns, rel] at h ⊢; exact h)

/-- A load of what is known. -/
theorem run_ld {P : Program} {S : RS} {T : Sh} {w : World} {t : TypeId} {n : Option Nat} (hl : ldOf P t = some n) {a : Addr} {cs : List AV} (hc : CellsAt S T w a cs) {v : AV} (hv : partA n cs = some v) :
    ∃ u, (loadVar t a).run P w = .ok u w ∧ rel S v T u := by
  unfold ldOf at hl
  cases hag : isAg P t with
  | none => rw [hag] at hl; cases hl
  | some b =>
    cases hsz : szOf P t with
    | none => rw [hag, hsz] at hl; cases b <;> cases hl
    | some m =>
      rw [hag, hsz] at hl
      cases b with
      | true =>
        injection hl with hl
        subst hl
        simp only [partA, Option.map_eq_some_iff] at hv
        obtain ⟨r, h1, rfl⟩ := hv
        obtain ⟨h2, h3⟩ := takeL_eq _ _ _ h1
        -- the values
        have hex : ∃ us : List Value, us.length = r.length ∧ ∀ (j : Nat) (c : AV), r[j]? = some c → ∃ u, us[j]? = some u ∧ w.cell? (a.add j) = some u ∧ rel S c T u ∧ u.oneCell' = true := by
          have hr : ∀ (j : Nat) (c : AV), r[j]? = some c → ∃ u, w.cell? (a.add j) = some u ∧ rel S c T u ∧ u.oneCell' = true := fun j c hj => hc.2 j c (by
            rw [h2, List.getElem?_take] at hj
            split at hj
            · exact hj
            · cases hj)
          clear h1 h2 h3
          have key : ∀ (r : List AV) (k : Nat), (∀ (j : Nat) (c : AV), r[j]? = some c → ∃ u, w.cell? (a.add (k + j)) = some u ∧ rel S c T u ∧ u.oneCell' = true) → ∃ us : List Value, us.length = r.length ∧ ∀ (j : Nat) (c : AV), r[j]? = some c → ∃ u, us[j]? = some u ∧ w.cell? (a.add (k + j)) = some u ∧ rel S c T u ∧ u.oneCell' = true := by
            intro r
            induction r with
            | nil => intro k _; exact ⟨[], rfl, fun j c hj => by simp at hj⟩
            | cons c r ih =>
              intro k h
              obtain ⟨u, g1, g2⟩ := h 0 c (by simp)
              obtain ⟨us, k1, k2⟩ := ih (k + 1) (fun j c' hj => by
                obtain ⟨u', m1, m2⟩ := h (j + 1) c' (by simpa using hj)
                exact ⟨u', by rw [show k + 1 + j = k + (j + 1) by omega]; exact m1, m2⟩)
              refine ⟨u :: us, by simp [k1], fun j c' hj => ?_⟩
              cases j with
              | zero => simp at hj; subst hj; exact ⟨u, by simp, g1, g2⟩
              | succ j =>
                obtain ⟨u', m1, m2, m3⟩ := k2 j c' (by simpa using hj)
                exact ⟨u', by simpa using m1, by rw [show k + (j + 1) = k + 1 + j by omega]; exact m2, m3⟩
          simpa using key r 0 (by simpa using hr)
        obtain ⟨us, k1, k2⟩ := hex
        have hload := run_loadCells_list (P := P) w a us (fun j u hj => by
          have hlt : j < r.length := by rw [← k1]; exact (List.getElem?_eq_some_iff.1 hj).1
          obtain ⟨u', m1, m2, _⟩ := k2 j r[j] (by simp [hlt])
          rw [m1] at hj
          injection hj with hj
          subst hj
          exact m2)
        rw [k1, h3] at hload
        refine ⟨.agg us.toArray, ?_, ?_⟩
        · simp [loadVar, run_isAg hag, run_szOf hsz, hload]
        · simp only [rel]
          refine ⟨_, rfl, rels_of_get (by simpa using k1) (fun j c hj => ?_), fun u hu => ?_⟩
          · obtain ⟨u, m1, _, m3, _⟩ := k2 j c hj
            exact ⟨u, by simpa using m1, m3⟩
          · simp at hu
            obtain ⟨j, hj⟩ := List.getElem?_of_mem hu
            have hlt : j < r.length := by rw [← k1]; exact (List.getElem?_eq_some_iff.1 hj).1
            obtain ⟨u', m1, _, _, m4⟩ := k2 j r[j] (by simp [hlt])
            rw [m1] at hj
            injection hj with hj
            subst hj
            exact m4
      | false =>
        have hm : m = 1 ∧ n = none := by
          cases m with
          | zero => cases hl
          | succ m => cases m with
            | zero => injection hl with hl; exact ⟨rfl, hl.symm⟩
            | succ m => cases hl
        obtain ⟨rfl, rfl⟩ := hm
        cases cs with
        | nil => simp [partA] at hv
        | cons c cs =>
          simp only [partA, Option.some.injEq] at hv
          subst hv
          obtain ⟨u, g1, g2, _⟩ := hc.2 0 c (by simp)
          have ha : a.add 0 = a := by simp [Addr.add]
          rw [ha] at g1
          exact ⟨u, by simp [loadVar, run_isAg hag, g1], sym_rel g2⟩

theorem cellsAt_iptr {S : RS} {H : List ABlk} {T : Sh} {w : World} (h : WRel S H w) {B o : Nat} {cs : List AV} (hf : fz S B o cs) : CellsAt S T w ⟨B, o, none⟩ cs :=
  ⟨rfl, fun j c hj => by
    obtain ⟨v, h1, h2, h3⟩ := fz_get hf hj
    exact ⟨v, by rw [Addr.add_lit]; exact h.fro _ _ _ h1, rel_noSh h2, h3⟩⟩

theorem cellsAt_box {S : RS} {H : List ABlk} {w : World} (h : WRel S H w) {id B c : Nat} {e : TypeId} {cs : List AV} (hb : H[id]? = some (.box e cs)) (hρ : S.ρ id = some (B, c)) : CellsAt S (shape H) w ⟨B, 0, none⟩ cs := by
  obtain ⟨B', c', arr, h1, h2, h3, h4, _⟩ := h.blk id _ hb
  rw [hρ] at h1
  injection h1 with h1
  injection h1 with h1 _
  subst h1
  refine ⟨rfl, fun j c hj => ?_⟩
  obtain ⟨u, k1, k2⟩ := rels_get h3 hj
  refine ⟨u, ?_, k2, h4 u (List.mem_of_getElem? k1)⟩
  rw [Addr.add_lit]
  simp only [World.cell?, h2]
  simpa using k1

theorem cellsAt_row {S : RS} {H : List ABlk} {w : World} (h : WRel S H w) {id B c : Nat} {e : TypeId} {sz : Nat} {rows : List (List AV)} (hb : H[id]? = some (.arr e sz rows)) (hρ : S.ρ id = some (B, c)) {r : Nat} {row : List AV} (hr : rows[r]? = some row) :
    CellsAt S (shape H) w ⟨B, r * sz, none⟩ row := by
  obtain ⟨_, h1⟩ := h.blk id _ hb
  rw [hρ] at h1
  obtain ⟨arr, k1, k2, k3, k4, _⟩ := h1
  refine ⟨rfl, fun j c hj => ?_⟩
  obtain ⟨u, m1, m2, m3⟩ := (k4 r row hr).2 j c hj
  refine ⟨u, ?_, m2, m3⟩
  rw [Addr.add_lit]
  simp only [World.cell?, k1]
  simpa using m1

end Go.Ab
