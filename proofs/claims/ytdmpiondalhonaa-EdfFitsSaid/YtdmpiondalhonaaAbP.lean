/- The abstract machine's code: operations, returns, calls, loops. -/
import Derived.Test.YtdmpiondalhonaaAbO
namespace Go.Ab
open Go
set_option linter.unusedVariables false
set_option linter.unusedSimpArgs false
variable {σr : RowF}

def putL (fr : List AV) (d : Option Nat) (v : AV) : List AV :=
  match d with
  | some d => setL fr d v
  | none => fr

section
variable {P : Program} {fn : Func} {tab : List Node} {H0 : List ABlk} {R : AV → List ABlk → Prop} {K : List AItem} {fr : List AV} {H : List ABlk}

theorem put_rels {S : RS} {T : Sh} {a : Act} (hf : rels S fr T a.tmps.toList) (d : Option Nat) {v : AV} {u : Value} (hv : rel S v T u) : rels S (putL fr d v) T (a.put d u).tmps.toList := by
  cases d with
  | none => exact hf
  | some d =>
    simp only [putL, setL_eq, Act.put, Array.toList_setIfInBounds]
    exact rels_set hf d hv

theorem put_defers (a : Act) (d : Option Nat) (u : Value) : (a.put d u).defers = a.defers := by cases d <;> rfl

/-- What an operation comes to, in steps of the machine. -/
theorem opRes_steps {ops : Array Oper} {i : Nat} {rest : List Nat} {o : Oper} {a : Act} {w : World} {G : Value → World → Prop} {b : Frame} {k : List Go.Item} {cs : List Frame} (ho : ops[i]? = some o) (hw : Region.wanted o (yielded ops a.tmps) = true) (h : opRes P o a w G) :
    ∃ u w', G u w' ∧ Steps P (lone (b.at a (.inRegion ops (i :: rest) :: k)) cs w) (lone (b.at (a.put o.dst u) (.inRegion ops rest :: k)) cs w') := by
  have hg := stepG_op (P := P) (b := b) (k := k) (cs := cs) (w := w) (rest := rest) ho hw
  have hfin : ∀ v, (b.at a (.inRegion ops (i :: rest) :: k)).finish v = b.at (a.put o.dst v) (.inRegion ops rest :: k) := by
    intro v; rw [Frame.finish_at, ho]; rfl
  unfold opRes at h
  split at h
  · rename_i u w' hr
    refine ⟨u, w', h, .one (step_lone_go ?_)⟩
    rw [hg, ← hfin]; simp [stepG.apply, hr]
  · rename_i w' hr
    refine ⟨undef, w', h, .one (step_lone_go ?_)⟩
    rw [hg, ← hfin]; simp [stepG.apply, hr]
  · rename_i f args w' hr
    obtain ⟨e, w'', fr', ⟨u, rfl, hR⟩, hsteps, _, hleave⟩ := h (b.at a (.inRegion ops (i :: rest) :: k) :: cs)
    have henter : step P (lone (b.at a (.inRegion ops (i :: rest) :: k)) cs w) =
        .next (lone (Frame.enter P f args .normal) (b.at a (.inRegion ops (i :: rest) :: k) :: cs) w') :=
      step_lone_go (by rw [hg]; simp [stepG.apply, hr, Frame.at])
    refine ⟨u, w'', hR, .head henter (Steps.trans hsteps (.one ?_))⟩
    rw [← hfin]; exact step_leave_returned hleave
  · exact h.elim

/-- Is an operation wanted? -/
def gOk (fr : List AV) (g : Option (Option Nat × Bool)) (b : Bool) : Prop :=
  match g with
  | none => b = true
  | some (some t, want) => (ev fr (.t t) = .bool (if b then want else !want)) ∨ (ev fr (.t t) = .sb (if b then want else !want)) ∨ (b = false ∧ ev fr (.t t) = .tup [])
  | some (none, _) => b = false

theorem gOk_wanted {S : RS} {T : Sh} {a : Act} {ops : Array Oper} {o : Oper} {d b : Bool} (hf : rels S fr T a.tmps.toList) (h : gOk fr (rslvOp P ops d o).guard b) : Region.wanted o (yielded ops a.tmps) = b := by
  unfold Region.wanted
  simp only [rslvOp] at h
  cases hg : o.guard with
  | none => rw [hg] at h; simp only [Option.map_none, gOk] at h; exact h.symm
  | some g =>
    obtain ⟨j, want⟩ := g
    rw [hg] at h
    simp only [Option.map_some] at h
    simp only [yielded]
    cases hd : (ops[j]?).bind (·.dst) with
    | none => rw [hd] at h; simp only [gOk] at h; subst h; simp
    | some t =>
      rw [hd] at h
      simp only [gOk] at h
      have hget : ∀ c, ev fr (.t t) = c → c ≠ .junk → ∃ v, a.tmps[t]? = some v ∧ rel S c T v := by
        intro c hc hn
        simp only [ev, getL_eq] at hc
        cases hx : fr[t]? with
        | none => rw [hx] at hc; simp at hc; exact absurd hc.symm hn
        | some c' =>
          rw [hx] at hc
          simp at hc
          subst hc
          obtain ⟨v, h1, h2⟩ := rels_get hf hx
          rw [Array.getElem?_toList] at h1
          exact ⟨v, h1, h2⟩
      rcases h with h | h | ⟨rfl, h⟩
      · obtain ⟨v, h1, h2⟩ := hget _ h (by simp)
        simp only [rel] at h2
        simp only [Option.bind_some, h1, h2]
        cases b <;> cases want <;> rfl
      · obtain ⟨v, h1, h2⟩ := hget _ h (by simp)
        simp only [rel] at h2
        simp only [Option.bind_some, h1, h2]
        cases b <;> cases want <;> rfl
      · obtain ⟨v, h1, h2⟩ := hget _ h (by simp)
        simp only [rel, rels] at h2
        obtain ⟨us, rfl, _⟩ := h2
        simp only [Option.bind_some, h1]
        rfl

theorem Run.op {n j : Nat} {l : List AOp} {d : Bool} {o : AOp} (ht : tab[n]? = some (.region l d)) (ho : l[j]? = some o) (hg : gOk fr o.guard true)
    (h : sat arS P H (exec1 arS σr fr H o.op) fun v H' => Run P fn tab H0 R (.ops n (j + 1) :: K) (putL fr o.dst v) H') : Run P fn tab H0 R (.ops n j :: K) fr H := by
  intro S0 S w a b k cs he hd hf hw hk
  cases hk with
  | cons h1 hk =>
    rename_i it k
    cases it <;> first | exact h1.elim | skip
    rename_i ops li
    obtain ⟨⟨id, d', hat⟩, rfl⟩ := h1
    have hreg := At.is_region hat ht
    obtain ⟨id', ops', heq, rfl⟩ := hreg
    injection heq with _ heq _
    subst heq
    rw [List.getElem?_map] at ho
    obtain ⟨o', ho', rfl⟩ := Option.map_eq_some_iff.1 ho
    have hlt : j < ops.size := by
      have := (List.getElem?_eq_some_iff.1 ho').1
      simpa using this
    have ho2 : ops[j]? = some o' := by rw [← Array.getElem?_toList]; exact ho'
    have hres := op_sound (o := o') hf hw h
    obtain ⟨u, w', hG, hs⟩ := opRes_steps (b := b) (k := k) (cs := cs) (rest := List.range' (j + 1) (ops.size - (j + 1))) ho2 (gOk_wanted hf hg) hres
    obtain ⟨S', v, H', e1, e2, e3, e4⟩ := hG
    have hl : List.range' j (ops.size - j) = j :: List.range' (j + 1) (ops.size - (j + 1)) := by
      rw [show ops.size - j = (ops.size - (j + 1)) + 1 by omega, List.range'_succ]
    rw [hl]
    obtain ⟨a', w'', todo, vv, q1, q2, q3, q4⟩ := e4 S0 S' w' (a.put o'.dst u) b (.inRegion ops (List.range' (j + 1) (ops.size - (j + 1))) :: k) cs (he.trans e1) (by rw [put_defers]; exact hd)
      (put_rels (rels_ext _ _ _ _ e1 hf) _ e3) e2 (.cons ⟨⟨id, d', hat⟩, rfl⟩ hk)
    exact ⟨a', w'', todo, vv, hs.trans q1, q2, q3, q4⟩

theorem Run.opSkip {n j : Nat} {l : List AOp} {d : Bool} {o : AOp} (ht : tab[n]? = some (.region l d)) (ho : l[j]? = some o) (hg : gOk fr o.guard false)
    (h : Run P fn tab H0 R (.ops n (j + 1) :: K) (putL fr o.dst (.tup [])) H) : Run P fn tab H0 R (.ops n j :: K) fr H := by
  intro S0 S w a b k cs he hd hf hw hk
  cases hk with
  | cons h1 hk =>
    rename_i it k
    cases it <;> first | exact h1.elim | skip
    rename_i ops li
    obtain ⟨⟨id, d', hat⟩, rfl⟩ := h1
    obtain ⟨id', ops', heq, rfl⟩ := At.is_region hat ht
    injection heq with _ heq _
    subst heq
    rw [List.getElem?_map] at ho
    obtain ⟨o', ho', rfl⟩ := Option.map_eq_some_iff.1 ho
    have hlt : j < ops.size := by
      have := (List.getElem?_eq_some_iff.1 ho').1
      simpa using this
    have ho2 : ops[j]? = some o' := by rw [← Array.getElem?_toList]; exact ho'
    have hl : List.range' j (ops.size - j) = j :: List.range' (j + 1) (ops.size - (j + 1)) := by
      rw [show ops.size - j = (ops.size - (j + 1)) + 1 by omega, List.range'_succ]
    rw [hl]
    have hstep := step_op_skip (P := P) (b := b) (a := a) (k := k) (cs := cs) (w := w) (ops := ops) (i := j) (rest := List.range' (j + 1) (ops.size - (j + 1))) (by simp [ho2, gOk_wanted hf hg])
    simp only [ho2, Option.bind_some] at hstep
    obtain ⟨a', w'', todo, vv, q1, q2, q3, q4⟩ := h S0 S w (a.put o'.dst undef) b (.inRegion ops (List.range' (j + 1) (ops.size - (j + 1))) :: k) cs he (by rw [put_defers]; exact hd)
      (put_rels hf _ (by simp [rel, rels, undef])) hw (.cons ⟨⟨id, d', hat⟩, rfl⟩ hk)
    exact ⟨a', w'', todo, vv, .head hstep q1, q2, q3, q4⟩

theorem Run.opsEnd {n j : Nat} {l : List AOp} {d : Bool} (ht : tab[n]? = some (.region l d)) (ho : l.length ≤ j) (h : Run P fn tab H0 R K fr H) : Run P fn tab H0 R (.ops n j :: K) fr H := by
  refine Run.step (fun S w a b k cs _ _ _ hk => ?_) h
  cases hk with
  | cons h1 hk =>
    rename_i it k
    cases it <;> first | exact h1.elim | skip
    rename_i ops li
    obtain ⟨⟨id, d', hat⟩, rfl⟩ := h1
    obtain ⟨id', ops', heq, rfl⟩ := At.is_region hat ht
    injection heq with _ heq _
    subst heq
    simp at ho
    rw [show ops.size - j = 0 by omega]
    exact ⟨k, .one step_region_end, hk⟩

/-! ### returns -/
def resA (A : Ar) (σr : RowF) (fr : List AV) (H : List ABlk) : List RV → List AV → Out
  | [], acc => .ok (match acc with
    | [v] => v
    | l => .tup l) H
  | .t n :: rs, acc => resA A σr fr H rs (appL acc [uns (ev fr (.t n))])
  | .cell n l :: rs, acc => ldA A σr l (ev fr (.t n)) H fun v => resA A σr fr H rs (appL acc [uns v])

theorem tmp_rel {S : RS} {T : Sh} {a : Act} (hf : rels S fr T a.tmps.toList) (n : Nat) : rel S (ev fr (.t n)) T (a.tmps.getD n undef) := rx_rel hf (x := .tmp n) rfl

def resF (tmps : Array Value) : ResultVar → Sem Value
  | .tmp t => pure (tmps.getD t undef)
  | .cell x t => do loadVar t (← asAddr (tmps.getD x undef))

theorem results_eq (fn : Func) (tmps : Array Value) : results fn tmps = (do
    let vs ← fn.results.mapM (resF tmps)
    pure (if h : vs.size = 1 then vs[0] else .tuple vs)) := by
  unfold results
  congr 1

theorem run_asAddr_some (A : Addr) (w : World) : (asAddr (.pointer (some A))).run P w = .ok A w := rfl

theorem resA_run {S : RS} {a : Act} {w : World} (hf : rels S fr (shape H) a.tmps.toList) (h : WRel S H w) : ∀ (l : List ResultVar) (rs : List RV) (acc : List AV) (vs : List Value), l.mapM (rvOf P) = some rs → rels S acc (shape H) vs → sat arS P H (resA arS σr fr H rs acc) R →
    ∃ us, (l.mapM (resF a.tmps)).run P w = .ok us w ∧
      ∃ v, rel S v (shape H) (if h : (vs ++ us).length = 1 then (vs ++ us)[0] else .tuple (vs ++ us).toArray) ∧ R v H
  | [], rs, acc, vs, hm, hacc, hs => by
    simp at hm
    subst hm
    refine ⟨[], by simp, ?_⟩
    simp only [List.append_nil]
    simp only [resA, sat] at hs
    refine ⟨_, ?_, hs⟩
    cases acc with
    | nil => simp only [rels] at hacc; subst hacc; simp [rel, rels]
    | cons c acc =>
      cases acc with
      | nil =>
        simp only [rels] at hacc
        obtain ⟨v, _, rfl, hv, rfl⟩ := hacc
        simpa using hv
      | cons c' acc =>
        have hl := rels_length hacc
        rw [dif_neg (by rw [hl]; simp)]
        simp only [rel]
        exact ⟨_, rfl, hacc⟩
  | .tmp n :: l, rs, acc, vs, hm, hacc, hs => by
    simp only [List.mapM_cons, Option.bind_eq_bind, Option.bind_eq_some_iff, Option.pure_def, Option.some.injEq, rvOf] at hm
    obtain ⟨_, rfl, rs, hm, rfl⟩ := hm
    simp only [resA, appL_eq] at hs
    obtain ⟨us, q1, q2⟩ := resA_run hf h l rs _ (vs ++ [a.tmps.getD n undef]) hm (rels_append hacc (by simp only [rels]; exact ⟨_, [], rfl, uns_rel (tmp_rel hf n), rfl⟩)) hs
    refine ⟨a.tmps.getD n undef :: us, ?_, by simpa using q2⟩
    simp only [List.mapM_cons, resF, Sem.run_bind, Sem.run_pure, Result.andThen_ok, q1]
  | .cell n t :: l, rs, acc, vs, hm, hacc, hs => by
    simp only [List.mapM_cons, Option.bind_eq_bind, Option.bind_eq_some_iff, Option.pure_def, Option.some.injEq, rvOf, Option.map_eq_some_iff] at hm
    obtain ⟨_, ⟨ll, hll, rfl⟩, rs, hm, rfl⟩ := hm
    simp only [resA, appL_eq] at hs
    obtain ⟨v, y, p1, p2, p3⟩ := ldA_sat (fun _ => rfl) h (tmp_rel hf n) hs hll
    obtain ⟨us, q1, q2⟩ := resA_run hf h l rs _ (vs ++ [y]) hm (rels_append hacc (by simp only [rels]; exact ⟨_, [], rfl, uns_rel p2, rfl⟩)) p3
    refine ⟨y :: us, ?_, by simpa using q2⟩
    have hptr : ∃ A, a.tmps.getD n undef = .pointer (some A) := by
      generalize a.tmps.getD n undef = u at *
      cases u <;> simp [Instr.loadAt, Instr.sureAddr] at p1
      rename_i p
      cases p <;> simp at p1
      exact ⟨_, rfl⟩
    obtain ⟨A, hA⟩ := hptr
    rw [hA] at p1
    simp only [Instr.loadAt, Instr.sureAddr, Sem.run_bind, Sem.run_pure, Result.andThen_ok] at p1
    simp only [List.mapM_cons, resF, Sem.run_bind, Sem.run_pure, Result.andThen_ok, hA, run_asAddr_some, p1, q1]

theorem results_run {S : RS} {a : Act} {w : World} {rs : List RV} (hrs : fn.results.toList.mapM (rvOf P) = some rs) (hf : rels S fr (shape H) a.tmps.toList) (h : WRel S H w) (hs : sat arS P H (resA arS σr fr H rs []) R) :
    ∃ v, (results fn a.tmps).run P w = .ok v w ∧ Done S H R v w := by
  obtain ⟨us, q1, v, q2, q3⟩ := resA_run hf h fn.results.toList rs [] [] hrs (by simp [rels]) hs
  refine ⟨_, ?_, .here h q2 q3⟩
  rw [results_eq, Sem.run_bind, Array.mapM_eq_mapM_toList, Sem.run_map, q1]
  simp only [Result.andThen_ok, Sem.run_pure, List.nil_append, List.size_toArray]
  split <;> rfl

theorem Done.trans {S0 S : RS} {H0 H : List ABlk} {v : Value} {w : World} (he : Ext S0 (shape H0) S (shape H)) (h : Done S H R v w) : Done S0 H0 R v w := by
  obtain ⟨S', x, H', h1, h2⟩ := h
  exact ⟨S', x, H', he.trans h1, h2⟩

theorem Run.ret {n : Nat} {rs : List RV} (ht : tab[n]? = some .ret) (hrs : fn.results.toList.mapM (rvOf P) = some rs) (h : sat arS P H (resA arS σr fr H rs []) R) : Run P fn tab H0 R (.c n :: K) fr H := by
  intro S0 S w a b k cs he hd hf hw hk
  cases hk with
  | cons h1 hk =>
    rename_i it k
    cases it <;> first | exact h1.elim | skip
    obtain rfl := At.is_ret h1 ht
    obtain ⟨v, q1, q2⟩ := results_run hrs hf hw h
    exact ⟨a, w, _, v, .one step_ret, hd, q1, q2.trans he⟩

theorem Run.fin {rs : List RV} (hrs : fn.results.toList.mapM (rvOf P) = some rs) (h : sat arS P H (resA arS σr fr H rs []) R) : Run P fn tab H0 R [] fr H := by
  intro S0 S w a b k cs he hd hf hw hk
  cases hk
  obtain ⟨v, q1, q2⟩ := results_run hrs hf hw h
  exact ⟨a, w, _, v, .one step_end, hd, q1, q2.trans he⟩

/-- A FUNCTION's CONTRACT, out of running its text. -/
theorem CallsA.enter {f : FuncId} {F : AFn} {body : Code} {args : List AV} (hfn : P.funcs[f]? = some fn) (hname : (fn.name == "runtime.NumGoroutine") = false) (hb : fn.body = some body) (hF : F.of P fn)
    (h : Run P fn F.tab H R [.c 0] (symL args ++ List.replicate (F.nt - args.length) .junk) H) : CallsA P f args H R := by
  refine ⟨⟨fn, hfn, hname, by rw [hb]; rfl⟩, fun S w vs hw hr cs => ?_⟩
  let b : Frame := { (default : Frame) with fn := f, kind := .normal }
  have henter : Frame.enter P f vs.toArray .normal = b.at { tmps := vs.toArray ++ Array.replicate (fn.ntmps - vs.toArray.size) undef, defers := [] } [.code body] := by
    simp [Frame.enter, Frame.at, hfn, hb, b]
  obtain ⟨h1, h2, h3, h4⟩ := hF
  rw [hb] at h4
  simp only [Option.map_some, Option.some.injEq] at h4
  have hl := rels_length hr
  obtain ⟨a', w', todo, v, q1, q2, q3, q4⟩ := h S S w { tmps := vs.toArray ++ Array.replicate (fn.ntmps - vs.toArray.size) undef, defers := [] } b [.code body] cs (Ext.refl _ _) rfl (by
    simp only [Array.toList_append, Array.toList_replicate, List.size_toArray]
    rw [hl, ← h2]
    refine rels_append (symL_rel hr) (rels_of_get (by simp) fun i c hi => ?_)
    rw [List.getElem?_replicate] at hi ⊢
    split at hi
    · rename_i hlt
      injection hi with hi
      subst hi
      exact ⟨undef, by rw [if_pos hlt], by simp [rel]⟩
    · cases hi) hw (.cons ⟨[], [], by simp [h4], rfl⟩ .nil)
  refine ⟨.returned v, w', { b.at a' todo with mode := .returning }, ⟨v, rfl, q4⟩, ?_, rfl, rfl, q2, rfl, fn, hfn, q3⟩
  rw [henter]
  exact q1

/-! ### loops -/
theorem Run.loopS {σ : Type} {n : Nat} (m : σ → Nat) (f : σ → List AV) (h : σ → List ABlk) (I : σ → Prop)
    (round : ∀ s, I s → (∀ s', I s' → m s' < m s → Run P fn tab H0 R (.lp n :: K) (f s') (h s')) → Run P fn tab H0 R (.c n :: .lp n :: K) (f s) (h s)) : ∀ s, I s → Run P fn tab H0 R (.lp n :: K) (f s) (h s) := by
  have key : ∀ k s, m s = k → I s → Run P fn tab H0 R (.lp n :: K) (f s) (h s) := by
    intro k
    induction k using Nat.strongRecOn with
    | _ k ih =>
      intro s hs hI
      exact Run.lp (round s hI fun s' hI' hlt => ih (m s') (hs ▸ hlt) s' rfl hI')
  exact fun s hI => key _ s rfl hI

/-- Values forgotten. -/
def subL : List AV → List AV → Prop
  | [], [] => True
  | x :: xs, y :: ys => (y = .junk ∨ x = y) ∧ subL xs ys
  | _, _ => False

theorem subL_rels {S : RS} {T : Sh} : ∀ {xs ys : List AV} {vs : List Value}, subL xs ys → rels S xs T vs → rels S ys T vs
  | [], [], vs, _, h => h
  | x :: xs, y :: ys, vs, hs, h => by
    simp only [subL] at hs
    simp only [rels] at h ⊢
    obtain ⟨v, vs', h1, h2, h3⟩ := h
    refine ⟨v, vs', h1, ?_, subL_rels hs.2 h3⟩
    rcases hs.1 with rfl | rfl
    · simp [rel]
    · exact h2
  | [], _ :: _, _, h, _ => h.elim
  | _ :: _, [], _, h, _ => h.elim

theorem Run.sub {fr' : List AV} (h : Run P fn tab H0 R K fr' H) (hs : subL fr fr') : Run P fn tab H0 R K fr H := fun S0 S w a b k cs he hd hf hw hk => h S0 S w a b k cs he hd (subL_rels hs hf) hw hk

end
end Go.Ab
