/- Each operation of the abstract machine is what the model does: all of them. -/
import Derived.Test.YtdmpiondalhonaaAbMp
namespace Go.Ab
open Go
set_option linter.unusedVariables false
set_option linter.unusedSimpArgs false
variable {σr : RowF}

theorem rxs_one {l : List Operand} {x : AX} (h : rxs l = some [x]) : ∃ p, l = [p] ∧ rx p = some x := by
  have A := All2.of_mapM h
  cases A with
  | cons h1 A => cases A with
    | nil => exact ⟨_, rfl, h1⟩
theorem rxs_two {l : List Operand} {x y : AX} (h : rxs l = some [x, y]) : ∃ p q, l = [p, q] ∧ rx p = some x ∧ rx q = some y := by
  have A := All2.of_mapM h
  cases A with
  | cons h1 A => cases A with
    | cons h2 A => cases A with
      | nil => exact ⟨_, _, rfl, h1, h2⟩
theorem rxs_three {l : List Operand} {x y z : AX} (h : rxs l = some [x, y, z]) : ∃ p q r, l = [p, q, r] ∧ rx p = some x ∧ rx q = some y ∧ rx r = some z := by
  have A := All2.of_mapM h
  cases A with
  | cons h1 A => cases A with
    | cons h2 A => cases A with
      | cons h3 A => cases A with
        | nil => exact ⟨_, _, _, rfl, h1, h2, h3⟩

section
variable {P : Program} {S : RS} {H : List ABlk} {fr : List AV} {K : AV → List ABlk → Prop} {o : Oper} {a : Act} {w : World}

theorem bi_sound {b : Builtin} {args : List Operand} {ts : List TypeId} (ho : o.op = .call { callee := .builtin b, args := ⟨args⟩, argTypes := ⟨ts⟩ }) (hf : rels S fr (shape H) a.tmps.toList) (h : WRel S H w) {axs : List AX} (hx : rxs args = some axs) {ao : AO} (hr : resolveBi P b ts axs = some ao) (hs : sat arS P H (exec1 arS σr fr H ao) K) : opRes P o a w (Done S H K) := by
  unfold resolveBi at hr
  split at hr
  · rename_i x
    obtain ⟨p, rfl, hx'⟩ := rxs_one hx
    cases ts with
    | nil => cases hr
    | cons t ts =>
      simp only [List.getElem?_cons_zero, Option.bind_some] at hr
      cases hu : P.underlying t with
      | none => rw [hu] at hr; cases hr
      | some d =>
        rw [hu] at hr
        cases d <;> try (cases hr; done)
        case string =>
          injection hr with hr
          subst hr
          exact op_len (str := true) ho hf h hx' (t := t) (by simp) (by simpa using hu) hs
        case slice e =>
          injection hr with hr
          subst hr
          exact op_len (str := false) ho hf h hx' (t := t) (by simp) (by simp only [Bool.false_eq_true, if_false]; exact ⟨_, hu⟩) hs
  · rename_i x y
    obtain ⟨p, q, rfl, hx', hy'⟩ := rxs_two hx
    split at hr
    · rename_i t t'
      unfold resolveApp at hr
      split at hr
      · rename_i ht
        subst ht
        cases hu : P.underlying t with
        | none => rw [hu] at hr; cases hr
        | some d =>
          rw [hu] at hr
          cases d <;> try (cases hr; done)
          rename_i e
          simp only at hr
          cases hi : P.info? e with
          | none => rw [hi] at hr; cases hr
          | some i =>
            cases hz : zeroOf P e with
            | none => rw [hi, hz] at hr; cases hr
            | some z =>
              rw [hi, hz] at hr
              simp only at hr
              split at hr
              · rename_i hc
                injection hr with hr
                subst hr
                exact op_app ho hf h hx' hy' hu hi hz hc.1 hc.2 hs
              · cases hr
      · cases hr
    · cases hr
  · rename_i x
    obtain ⟨p, rfl, hx'⟩ := rxs_one hx
    split at hr
    · rename_i t
      cases hu : P.underlying t with
      | none => rw [hu] at hr; cases hr
      | some d =>
        rw [hu] at hr
        cases d <;> try (cases hr; done)
        rename_i e
        simp only at hr
        cases hi : P.info? e with
        | none => rw [hi] at hr; cases hr
        | some i =>
          cases hz : zeroOf P e with
          | none => rw [hi, hz] at hr; cases hr
          | some z =>
            rw [hi, hz] at hr
            simp only at hr
            split at hr
            · rename_i hc
              injection hr with hr
              subst hr
              exact op_clr ho hf h hx' hu hi hz hc.1 hc.2.2 hc.2.1 hs
            · cases hr
    · cases hr
  · rename_i x y
    obtain ⟨p, q, rfl, hx', hy'⟩ := rxs_two hx
    injection hr with hr
    subst hr
    exact op_mnmx (mx := true) ho hf h hx' hy' hs
  · rename_i x y
    obtain ⟨p, q, rfl, hx', hy'⟩ := rxs_two hx
    injection hr with hr
    subst hr
    exact op_mnmx (mx := false) ho hf h hx' hy' hs
  · cases hr

theorem call_sound {c : Call} (ho : o.op = .call c) (hf : rels S fr (shape H) a.tmps.toList) (h : WRel S H w) {ao : AO} (hr : resolveCall P c = some ao) (hs : sat arS P H (exec1 arS σr fr H ao) K) : opRes P o a w (Done S H K) := by
  obtain ⟨callee, args, ts⟩ := c
  simp only [resolveCall, Option.bind_eq_some_iff] at hr
  obtain ⟨axs, hx, hr⟩ := hr
  cases callee with
  | value f =>
    cases f with
    | func f =>
      simp only [resolveFn] at hr
      cases hfn : P.funcs[f]? with
      | none => rw [hfn] at hr; cases hr
      | some fn =>
        rw [hfn] at hr
        simp only at hr
        split at hr
        · cases hr
        · rename_i hname
          split at hr
          · rename_i hb
            split at hr
            · rename_i hadd
              simp only [Bool.and_eq_true, beq_iff_eq] at hadd
              split at hr
              · rename_i x y z
                injection hr with hr
                subst hr
                obtain ⟨args⟩ := args
                obtain ⟨p, q, r, e, k1, k2, k3⟩ := rxs_three hx
                simp only at e
                subst e
                exact op_addc ho hfn hadd.1 hadd.2 hb hf h k1 k2 k3 hs
              · cases hr
            · cases hr
          · rename_i hb
            injection hr with hr
            subst hr
            exact op_call ho hfn (by simpa using hname) (Bool.eq_false_iff.2 hb) hf h hx hs
    | tmp n =>
      injection hr with hr
      subst hr
      exact op_callv ho hf h hx hs
    | const _ => cases hr
    | global _ => cases hr
  | invoke r m =>
    obtain ⟨ar, h1, rfl⟩ := Option.map_eq_some_iff.1 hr
    exact op_inv ho hf h h1 hx hs
  | builtin b =>
    obtain ⟨args⟩ := args
    obtain ⟨ts⟩ := ts
    exact bi_sound ho hf h hx hr hs

/-- **EVERY OPERATION.** -/
theorem op_sound (hf : rels S fr (shape H) a.tmps.toList) (h : WRel S H w) (hs : sat arS P H (exec1 arS σr fr H (rslv P o.op)) K) : opRes P o a w (Done S H K) := by
  unfold rslv at hs
  obtain ⟨ao, hr, hs⟩ := orBad_some hs
  cases ho : o.op <;> rw [ho] at hr <;> simp only [Option.bind_eq_bind, Option.bind_eq_some_iff, Option.map_eq_some_iff, Option.some.injEq] at hr
  case move x => obtain ⟨ax, h1, rfl⟩ := hr; exact op_mv (.inl ho) hf h h1 hs
  case assign x => obtain ⟨ax, h1, rfl⟩ := hr; exact op_mv (.inr ho) hf h h1 hs
  case pick x y z => obtain ⟨ax, h1, ay, h2, az, h3, rfl⟩ := hr; exact op_pick ho hf h h1 h2 h3 hs
  case alloc e =>
    obtain ⟨z, h1, rfl⟩ := hr
    simp only [exec1] at hs
    split at hs
    · rename_i h2; exact op_alloc ho h h1 h2 hs
    · exact False.elim hs
  case box e x =>
    obtain ⟨ax, h1, rfl⟩ := hr
    simp only [exec1] at hs
    split at hs
    · rename_i h2; exact op_box ho hf h h1 h2 hs
    · exact False.elim hs
  case build t parts =>
    obtain ⟨z, h1, hr⟩ := hr
    split at hr
    · rename_i fs hu
      simp only [Option.bind_eq_some_iff, Option.some.injEq] at hr
      obtain ⟨ps, h2, szs, h3, rfl⟩ := hr
      refine op_build ho hf h h1 hu (fun f hf' => ?_) ?_ hs
      · have A := All2.of_mapM h3
        clear h2 h1 hs h3 hu
        generalize fs.toList = l at *
        induction A with
        | nil => simp at hf'
        | cons hh _ ih =>
          rcases List.mem_cons.1 hf' with rfl | hf'
          · exact ⟨_, hh⟩
          · exact ih hf'
      · refine All2.imp (fun p q hpq => ?_) (All2.of_mapM h2)
        simp only [Option.bind_eq_some_iff, Option.some.injEq] at hpq
        obtain ⟨f, e1, n, e2, x, e3, rfl⟩ := hpq
        exact ⟨⟨f, e1, rfl, e2⟩, e3⟩
    · cases hr
  case buildSlice t n parts =>
    split at hr
    · rename_i e hu
      simp only [Option.bind_eq_some_iff] at hr
      obtain ⟨sz, h1, z, h2, ps, h3, hr⟩ := hr
      split at hr
      · rename_i hc
        injection hr with hr
        subst hr
        refine op_lit ho hf h hu h1 h2 hc.2.1 hc.2.2 hc.1 ?_ hs
        refine All2.imp (fun p q hpq => ?_) (All2.of_mapM h3)
        simp only [Option.bind_eq_some_iff, Option.some.injEq] at hpq
        obtain ⟨x, e3, rfl⟩ := hpq
        exact ⟨rfl, e3⟩
      · cases hr
    · cases hr
  case load t x => obtain ⟨n, h1, ax, h2, rfl⟩ := hr; exact op_ld ho hf h h2 h1 hs
  case store t x y => obtain ⟨n, h1, ax, h2, ay, h3, rfl⟩ := hr; exact op_st ho hf h h2 h3 h1 hs
  case nilCheck x => obtain ⟨ax, h1, rfl⟩ := hr; exact op_nilc ho hf h h1 hs
  case binOp op t x y t' =>
    split at hr
    · rename_i neg hn
      have hr : (rx x).bind (fun z => some (AO.nilS neg z)) = some ao := hr
      simp only [Option.bind_eq_some_iff, Option.some.injEq] at hr
      obtain ⟨ax, h1, rfl⟩ := hr
      exact op_nilS ho hf h h1 hn hs
    · have hr : (rx x).bind (fun z => (rx y).bind fun z2 => some (AO.bin op (tkOf P t) z z2)) = some ao := hr
      simp only [Option.bind_eq_some_iff, Option.some.injEq] at hr
      obtain ⟨ax, h1, ay, h2, rfl⟩ := hr; exact op_bin ho hf h h1 h2 hs
  case unOp op t x => obtain ⟨ax, h1, rfl⟩ := hr; exact op_un ho hf h h1 hs
  case convert s d x =>
    split at hr
    · rename_i k k' h1 h2
      obtain ⟨ax, h3, rfl⟩ := Option.map_eq_some_iff.1 hr
      exact op_cvt ho hf h h3 h1 h2 hs
    · cases hr
  case makeInterface t x =>
    split at hr
    · cases hr
    · cases hr
    · rename_i h1 h2
      obtain ⟨ax, h3, rfl⟩ := Option.map_eq_some_iff.1 hr
      cases hu : P.underlying t with
      | none => exact absurd hu h2
      | some d => exact op_mki ho hf h h3 hu (fun ms e => h1 ms (by rw [hu, e])) hs
  case makeFunc f x y => obtain ⟨ax, h1, ay, h2, rfl⟩ := hr; exact op_mkf ho hf h h1 h2 hs
  case makeSlice t x y =>
    split at hr
    · rename_i e hu
      simp only [Option.bind_eq_some_iff] at hr
      obtain ⟨i, h1, z, h2, hr⟩ := hr
      split at hr
      · rename_i hc
        simp only [Option.bind_eq_some_iff, Option.some.injEq] at hr
        obtain ⟨ax, h3, ay, h4, rfl⟩ := hr
        exact op_mks ho hf h h3 h4 hu h1 h2 hc.1 hc.2 hs
      · cases hr
    · cases hr
  case slice t x lo hi mx =>
    cases mx with
    | some _ => cases hr
    | none =>
      simp only at hr
      split at hr
      · rename_i e hu
        simp only [Option.bind_eq_some_iff, Option.some.injEq] at hr
        obtain ⟨k, h1, alo, h2, ahi, h3, ax, h4, rfl⟩ := hr
        exact op_slc (k := some k) ho hf h h4 h2 h3 ⟨e, hu, h1⟩ hs
      · rename_i hu
        simp only [Option.bind_eq_some_iff, Option.some.injEq] at hr
        obtain ⟨alo, h2, ahi, h3, ax, h4, rfl⟩ := hr
        exact op_slc (k := none) ho hf h h4 h2 h3 hu hs
      · cases hr
  case fieldAddr s x i =>
    split at hr
    · rename_i fs hu
      simp only [Option.bind_eq_some_iff] at hr
      obtain ⟨f, h1, n, h2, hr⟩ := hr
      split at hr
      · cases hr
      · rename_i h0
        simp only [Option.bind_eq_some_iff, Option.some.injEq] at hr
        obtain ⟨ax, h3, rfl⟩ := hr
        exact op_fad ho hf h h3 hu h1 h2 h0 hs
    · cases hr
  case field s x i =>
    split at hr
    · rename_i fs hu
      simp only [Option.bind_eq_some_iff, Option.some.injEq] at hr
      obtain ⟨f, h1, n, h2, ax, h3, rfl⟩ := hr
      exact op_fld ho hf h h3 hu h1 h2 hs
    · cases hr
  case indexAddr t x i =>
    split at hr
    · rename_i e hu
      simp only [Option.bind_eq_some_iff, Option.some.injEq] at hr
      obtain ⟨sz, h1, ax, h2, ay, h3, rfl⟩ := hr
      exact op_idx ho hf h h2 h3 hu h1 hs
    · cases hr
  case index t x i =>
    split at hr
    · rename_i hu
      simp only [Option.bind_eq_some_iff, Option.some.injEq] at hr
      obtain ⟨ax, h2, ay, h3, rfl⟩ := hr
      exact op_idxs ho hf h h2 h3 hu hs
    · cases hr
  case extract x i => obtain ⟨ax, h1, rfl⟩ := hr; exact op_ext ho hf h h1 hs
  case typeAssert x t0 t ok =>
    split at hr
    · cases hr
    · cases hr
    · rename_i h1 h2
      simp only [Option.bind_eq_some_iff, Option.some.injEq] at hr
      obtain ⟨z, h3, ag, h4, ax, h5, rfl⟩ := hr
      cases hu : P.underlying t with
      | none => exact absurd hu h2
      | some d => exact op_asrt ho hf h h5 hu (fun ms e => h1 ms (by rw [hu, e])) h3 h4 hs
  case call c => exact call_sound ho hf h hr hs
  case makeMap t r =>
    cases r with
    | some _ => cases hr
    | none =>
      simp only [Option.some.injEq] at hr
      subst hr
      exact op_mkm ho h hs
  case lookup t x i ok =>
    cases ok with
    | true => cases hr
    | false =>
      simp only at hr
      split at hr
      · rename_i kt et ht
        split at hr
        · rename_i k0 b hk hz
          obtain ⟨ti, hz1, hz2⟩ := Option.bind_eq_some_iff.1 hz
          replace hr := Option.bind_eq_some_iff.1 hr
          obtain ⟨ax, h1, hr⟩ := hr
          obtain ⟨ai, h2, hr⟩ := Option.bind_eq_some_iff.1 hr
          simp only [Option.some.injEq] at hr
          subst hr
          exact op_mget ho hf h h1 h2 ht hk hz1 hz2 (fun T => by simp only [rel]) hs
        · rename_i k0 k n hk hz
          obtain ⟨ti, hz1, hz2⟩ := Option.bind_eq_some_iff.1 hz
          replace hr := Option.bind_eq_some_iff.1 hr
          obtain ⟨ax, h1, hr⟩ := hr
          obtain ⟨ai, h2, hr⟩ := Option.bind_eq_some_iff.1 hr
          simp only [Option.some.injEq] at hr
          subst hr
          exact op_mget ho hf h h1 h2 ht hk hz1 hz2 (fun T => by simp only [rel]) hs
        · cases hr
      · cases hr
  case mapUpdate t x i v =>
    split at hr
    · rename_i kt et ht
      split at hr
      · rename_i k0 hk
        obtain ⟨ax, h1, hr⟩ := Option.bind_eq_some_iff.1 hr
        obtain ⟨ai, h2, hr⟩ := Option.bind_eq_some_iff.1 hr
        obtain ⟨av, h3, hr⟩ := Option.bind_eq_some_iff.1 hr
        simp only [Option.some.injEq] at hr
        subst hr
        exact op_mset ho hf h h1 h2 h3 ht hk hs
      · cases hr
    · cases hr
  all_goals cases hr

end
end Go.Ab
