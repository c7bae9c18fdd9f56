/- Each operation of the abstract machine is what the model does: makes, appends, calls. -/
import Derived.Test.YtdmpiondalhonaaAbK
namespace Go.Ab
open Go
set_option linter.unusedVariables false
set_option linter.unusedSimpArgs false
variable {σr : RowF}

section
variable {P : Program} {S : RS} {H : List ABlk} {fr : List AV} {K : AV → List ABlk → Prop} {o : Oper} {a : Act} {w : World}

theorem op_asrt {t t0 : TypeId} {ok : Bool} {x : Operand} (ho : o.op = .typeAssert x t0 t ok) (hf : rels S fr (shape H) a.tmps.toList) (h : WRel S H w) {ax : AX} (hx : rx x = some ax) {d : TypeDesc} (hd : P.underlying t = some d) (hn : ∀ ms, d ≠ .interface ms)
    {z : List AV} (hz : zeroOf P t = some z) {ag : Bool} (hag : isAg P t = some ag)
    (hs : sat arS P H (exec1 arS σr fr H (.asrt t z ag ok ax)) K) : opRes P o a w (Done S H K) := by
  have gx := rx_rel hf hx
  simp only [exec1] at hs
  generalize ev fr ax = vx at *
  have hex : execOp a.eval o = (do pure (.value (← Instr.typeAssert (a.eval x) t0 t ok))) := by simp only [execOp, ho]
  cases vx <;> first | exact False.elim hs | skip
  rename_i t' v
  simp only at hs
  simp only [rel] at gx
  obtain ⟨u, gx, g1⟩ := gx
  split at hs
  · rename_i ht
    subst ht
    have hrun : (Instr.typeAssert (a.eval x) t0 t' ok).run P w = .ok (if ok then .tuple #[u, .bool true] else u) w := by
      rw [gx]
      unfold Instr.typeAssert
      simp only [Sem.run_bind, run_underlying hd, Result.andThen_ok]
      cases d <;> first | exact absurd rfl (hn _) | (cases ok <;> simp)
    cases ok
    · exact op_of_run hex hrun h (sym_rel g1) hs
    · exact op_of_run hex hrun h (by simp only [rel, rels, if_true]; exact ⟨_, rfl, u, _, rfl, g1, _, [], rfl, rfl, rfl⟩) hs
  · exact False.elim hs

theorem done_call {f : FuncId} {vs : Array Value} {as : List AV} (hex : (execOp a.eval o).run P w = .ok (.enter f vs) w) (h : WRel S H w) (hr : rels S as (shape H) vs.toList) (hs : CallsA P f (unsL as) H fun r H' => K (sym r) H') : opRes P o a w (Done S H K) := by
  have := hs.2 S w _ h (unsL_rel hr)
  rw [Array.toArray_toList] at this
  unfold opRes
  rw [hex]
  refine this.mono fun e w' ⟨u, he, hd⟩ => ⟨u, he, hd.sym⟩

theorem run_callFunc {f : FuncId} {fn : Func} {vs : Array Value} (hfn : P.funcs[f]? = some fn) (hname : (fn.name == "runtime.NumGoroutine") = false) (hb : fn.body.isNone = false) (w : World) : (callFunc f vs).run P w = .ok (.enter f vs) w := by
  simp only [callFunc, Sem.run_bind, run_program, Result.andThen_ok, hfn, hname, hb, Bool.false_eq_true, if_false, Sem.run_pure]

theorem op_call {f : FuncId} {fn : Func} {ts : Array TypeId} {args : Array Operand} (ho : o.op = .call { callee := .value (.func f), args := args, argTypes := ts }) (hfn : P.funcs[f]? = some fn) (hname : (fn.name == "runtime.NumGoroutine") = false) (hb : fn.body.isNone = false)
    (hf : rels S fr (shape H) a.tmps.toList) (h : WRel S H w) {axs : List AX} (hx : rxs args.toList = some axs)
    (hs : sat arS P H (exec1 arS σr fr H (.call f axs)) K) : opRes P o a w (Done S H K) := by
  simp only [exec1, sat] at hs
  refine done_call (vs := args.map a.eval) ?_ h (by simpa using rxs_rel hf hx) hs
  unfold execOp
  simp only [ho, Go.resolve, Deferred.ofValue, Act.eval, Go.invoke, Sem.run_bind, Sem.run_pure, Result.andThen_ok]
  rw [run_callFunc hfn hname hb]
  simp

theorem op_callv {n : Nat} {ts : Array TypeId} {args : Array Operand} (ho : o.op = .call { callee := .value (.tmp n), args := args, argTypes := ts })
    (hf : rels S fr (shape H) a.tmps.toList) (h : WRel S H w) {axs : List AX} (hx : rxs args.toList = some axs)
    (hs : sat arS P H (exec1 arS σr fr H (.callv (.t n) axs)) K) : opRes P o a w (Done S H K) := by
  have gx := rx_rel hf (x := .tmp n) (ax := .t n) rfl
  simp only [exec1] at hs
  generalize ev fr (.t n) = vx at *
  cases vx <;> first | exact False.elim hs | skip
  rename_i f fi ca
  cases f <;> first | exact False.elim hs | skip
  rename_i f
  simp only [sat, appL_eq] at hs
  simp only [rel] at gx
  obtain ⟨x, y, gx, g1, g2⟩ := gx
  obtain ⟨fn, c1, c2, c3⟩ := hs.1
  refine done_call (vs := x ++ args.map a.eval ++ y) ?_ h ?_ hs
  · unfold execOp
    simp only [ho, Go.resolve, Deferred.ofValue, gx, Go.invoke, Sem.run_bind, Sem.run_pure, Result.andThen_ok]
    exact run_callFunc c1 c2 c3 w
  · rw [Array.toList_append, Array.toList_append, List.append_assoc]
    exact rels_append g1 (rels_append (by simpa using rxs_rel hf hx) g2)

theorem find_add64 {fn : Func} (hname : fn.name = "math/bits.Add64") : Extern.find fn = some add64Entry := by
  unfold Extern.find
  rw [hname]
  have h1 : Extern.allGenericRows.lookup "math/bits.Add64" = none := by kernel_rfl
  have h2 : Extern.allTypedRows.lookup "math/bits.Add64" = none := by kernel_rfl
  have h3 : Extern.allRows.lookup "math/bits.Add64" = some add64Entry := by kernel_rfl
  simp only [h1, h2, h3, Option.map_none]
  rfl
theorem findNext_add64 {fn : Func} (hname : fn.name = "math/bits.Add64") (ho : fn.origin = "") : Extern.findNext fn = none := by
  unfold Extern.findNext
  rw [hname, ho]
  have h1 : Extern.allNextRows.lookup "math/bits.Add64" = none := by kernel_rfl
  have h2 : Extern.allNextRows.lookup "" = none := by kernel_rfl
  simp only [h1, h2, Option.map_none]
  rfl

theorem op_addc {f : FuncId} {fn : Func} {ts : Array TypeId} {x y z : Operand} (ho : o.op = .call { callee := .value (.func f), args := #[x, y, z], argTypes := ts }) (hfn : P.funcs[f]? = some fn) (hname : fn.name = "math/bits.Add64") (hor : fn.origin = "") (hb : fn.body.isNone = true)
    (hf : rels S fr (shape H) a.tmps.toList) (h : WRel S H w) {ax ay az : AX} (hx : rx x = some ax) (hy : rx y = some ay) (hz : rx z = some az)
    (hs : sat arS P H (exec1 arS σr fr H (.addc ax ay az)) K) : opRes P o a w (Done S H K) := by
  have gx := rx_rel hf hx
  have gy := rx_rel hf hy
  have gz := rx_rel hf hz
  simp only [exec1] at hs
  generalize ev fr ax = vx at *
  generalize ev fr ay = vy at *
  generalize ev fr az = vz at *
  split at hs
  · rename_i m n
    simp only [rel] at gx gy gz
    have hn1 : (fn.name == "runtime.NumGoroutine") = false := by rw [hname]; decide
    have hrun : (callFunc f #[.int .u64 m, .int .u64 n, .int .u64 0]).run P w = .ok (.value (Extern.MathBitsCarry.pair ((m.toNat + n.toNat + 0) % Extern.MathBitsCarry.m64) ((m.toNat + n.toNat + 0) / Extern.MathBitsCarry.m64))) w := by
      simp only [callFunc, Sem.run_bind, run_program, Result.andThen_ok, hfn, hn1, hb, Bool.false_eq_true, if_false, if_true, run_mark, findNext_add64 hname hor, find_add64 hname]
      rfl
    unfold opRes execOp
    have hfv : a.eval (.func f) = .func (.func f) #[] #[] := rfl
    simp only [ho, Go.resolve, Deferred.ofValue, hfv, Go.invoke, Sem.run_bind, Sem.run_pure, Result.andThen_ok, List.map_toArray, List.map_cons, List.map_nil, gx, gy, gz]
    have happ : (#[] ++ #[Value.int .u64 m, .int .u64 n, .int .u64 0] ++ #[] : Array Value) = #[.int .u64 m, .int .u64 n, .int .u64 0] := by simp
    rw [show ((#[] ++ #[Value.int .u64 m, .int .u64 n, .int .u64 0] : Array Value) ++ #[]) = #[.int .u64 m, .int .u64 n, .int .u64 0] from happ, hrun]
    refine .here h ?_ hs
    simp only [rel, Extern.MathBitsCarry.pair, rels]
    refine ⟨_, rfl, _, _, rfl, ?_, _, [], rfl, ?_, rfl⟩
    · simp [arS, Extern.MathBitsCarry.m64]
    · simp [arS, Extern.MathBitsCarry.m64]
  · exact False.elim hs

theorem extract_one {α : Type} (x : α) (ys : Array α) : (#[x] ++ ys).extract 1 (#[x] ++ ys).size = ys := by
  apply Array.ext'
  rw [Array.toList_extract]
  simp [List.take_of_length_le]

theorem head_one {α : Type} (x : α) (ys : Array α) : (#[x] ++ ys)[0]? = some x := by simp [Array.getElem?_append]

theorem run_wrapNil {P : Program} {ts : Array TypeId} {t : TypeId} {A : Addr} {x y : ByteArray} (w : World) : (Builtin.ssaWrapNilChk_ ts t #[.pointer (some A), .string x, .string y]).run P w = .ok (.pointer (some A)) w := rfl

theorem lookT_some : ∀ {l : List (TypeId × FuncId × Option (Option Nat))} {t : TypeId} {x : FuncId × Option (Option Nat)}, lookT l t = some x → (t, x.1, x.2) ∈ l
  | [], _, _, h => by simp [lookT] at h
  | (t', f, l) :: r, t, x, h => by
    simp only [lookT] at h
    split at h
    · rename_i ht
      injection h with h
      subst h ht
      simp
    · exact List.mem_cons_of_mem _ (lookT_some h)

theorem op_inv {r : Operand} {m : String} {ts : Array TypeId} {args : Array Operand} (ho : o.op = .call { callee := .invoke r m, args := args, argTypes := ts })
    (hf : rels S fr (shape H) a.tmps.toList) (h : WRel S H w) {ar : AX} {axs : List AX} (hr : rx r = some ar) (hx : rxs args.toList = some axs)
    (hs : sat arS P H (exec1 arS σr fr H (.inv (methTab P m) ar axs)) K) : opRes P o a w (Done S H K) := by
  have gr := rx_rel hf hr
  have gx := rxs_rel hf hx
  simp only [exec1] at hs
  generalize ev fr ar = vr at *
  cases vr <;> first | exact False.elim hs | skip
  rename_i t v
  simp only [rel] at gr
  obtain ⟨u, gr, g1⟩ := gr
  simp only at hs
  cases hl : lookT (methTab P m) t with
  | none => rw [hl] at hs; exact False.elim hs
  | some x =>
    obtain ⟨f, l⟩ := x
    rw [hl] at hs
    have hmem := lookT_some hl
    simp only [methTab, List.mem_filterMap] at hmem
    obtain ⟨t', _, hmem⟩ := hmem
    cases hi : P.info? t' with
    | none => rw [hi] at hmem; cases hmem
    | some i =>
      rw [hi] at hmem
      simp only at hmem
      cases hm : i.methods.find? (·.name == m) with
      | none => rw [hm] at hmem; cases hmem
      | some me =>
        rw [hm] at hmem
        simp only at hmem
        split at hmem
        · rename_i hpath
          have hpath' : me.path.toList = [] := by simpa using hpath
          have key : ∀ (f' : FuncId) (pr : Bool) (d : TypeDesc) (y : Value), me.func = some (f', pr) → P.underlying t' = some d → t' = t → f' = f →
              (receiverAt t (.val u) pr (some ((m.splitOn ".").getLastD m))).run P w = .ok y w → Callable P f → (execOp a.eval o).run P w = .ok (.enter f (#[y] ++ args.map a.eval)) w := by
            intro f' pr d y hfunc hund ht hf' hrec ⟨fn, c1, c2, c3⟩
            subst ht hf'
            have hmeth : (method (P.types.size + Made.depth) t' u m).run P w = .ok (f', y) w := by
              obtain ⟨k, hk⟩ : ∃ k, P.types.size + Made.depth = k + 1 := ⟨P.types.size + Made.depth - 1, by have h9 : 0 < Made.depth := (by decide); omega⟩
              rw [hk]
              simp only [method, Sem.run_bind, run_info hi, Result.andThen_ok, hm, hpath', follow, Sem.run_pure, hfunc, hpath, if_true, hrec]
            unfold execOp
            simp only [ho, Go.resolve, Go.invoke, Sem.run_bind, Sem.run_pure, Result.andThen_ok]
            have e1 : (#[a.eval r] ++ args.map a.eval)[0]? = some (.iface t' u) := by rw [← gr]; exact head_one _ _
            have e2 : (#[a.eval r] ++ args.map a.eval).extract 1 (#[a.eval r] ++ args.map a.eval).size = args.map a.eval := extract_one _ _
            rw [e1]
            simp only [callMethod, Sem.run_bind, run_program, Result.andThen_ok, hmeth, e2]
            exact run_callFunc c1 c2 c3 w
          cases hfunc : me.func with
          | none => rw [hfunc] at hmem; cases hmem
          | some fp =>
            obtain ⟨f', pr⟩ := fp
            cases hund : P.underlying t' with
            | none => rw [hfunc, hund] at hmem; cases pr <;> cases hmem
            | some d =>
              rw [hfunc, hund] at hmem
              -- passed on as it is
              have asis : ∀ (hrec : (receiverAt t (.val u) pr (some ((m.splitOn ".").getLastD m))).run P w = .ok u w), (t', f', (none : Option (Option Nat))) = (t, f, l) → opRes P o a w (Done S H K) := by
                intro hrec heq
                injection heq with e1 e2
                injection e2 with e2 e3
                subst e3
                simp only [sat] at hs
                refine done_call (vs := #[u] ++ args.map a.eval) (key f' pr d u hfunc hund e1 e2 hrec hs.1) h ?_ hs
                simp only [List.cons_append, Array.toList_append, List.nil_append, Array.toList_map, rels]
                exact ⟨u, _, rfl, g1, gx⟩
              by_cases hp : ∃ e, d = .pointer e
              · obtain ⟨e, rfl⟩ := hp
                cases pr with
                | true =>
                  simp only [Option.some.injEq] at hmem
                  have ht : t' = t := congrArg Prod.fst hmem
                  refine asis ?_ hmem
                  subst ht
                  simp [receiverAt, run_underlying hund, Place.get]
                | false =>
                  simp only [Option.map_eq_some_iff] at hmem
                  obtain ⟨ll, hll, hmem⟩ := hmem
                  injection hmem with e1 e2
                  injection e2 with e2 e3
                  subst e3
                  simp only at hs
                  obtain ⟨vv, y, q1, q2, q3⟩ := ldA_sat (fun _ => rfl) h g1 hs hll
                  simp only [sat] at q3
                  have hptr : ∃ A, u = .pointer (some A) := by
                    cases u <;> simp [Instr.loadAt, Instr.sureAddr] at q1
                    rename_i p
                    cases p <;> simp [Instr.loadAt, Instr.sureAddr] at q1
                    exact ⟨_, rfl⟩
                  obtain ⟨A, rfl⟩ := hptr
                  refine done_call (vs := #[y] ++ args.map a.eval) (key f' false _ y hfunc hund e1 e2 ?_ q3.1) h ?_ q3
                  · subst e1
                    simp only [Instr.loadAt, Instr.sureAddr, Sem.run_bind, Sem.run_pure, Result.andThen_ok] at q1
                    simp only [receiverAt, run_underlying hund, Place.get, Sem.run_bind, Sem.run_pure, Result.andThen_ok, strVal, run_wrapNil, asAddr, q1]
                  · simp only [List.cons_append, Array.toList_append, List.nil_append, Array.toList_map, rels]
                    exact ⟨y, _, rfl, q2, gx⟩
              · cases pr with
                | true =>
                  exfalso
                  cases d <;> first | exact hp ⟨_, rfl⟩ | cases hmem
                | false =>
                  have hmem' : (t', f', (none : Option (Option Nat))) = (t, f, l) := by
                    cases d <;> first | exact absurd ⟨_, rfl⟩ hp | (injection hmem)
                  have ht : t' = t := congrArg Prod.fst hmem'
                  refine asis ?_ hmem'
                  subst ht
                  simp only [receiverAt, Sem.run_bind, run_underlying hund, Result.andThen_ok]
                  cases d <;> first | exact absurd ⟨_, rfl⟩ hp | rfl
        · cases hmem

end
end Go.Ab
