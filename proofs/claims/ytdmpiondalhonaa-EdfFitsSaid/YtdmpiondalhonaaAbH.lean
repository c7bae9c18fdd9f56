/- Each operation of the abstract machine is what the model does: the third part. -/
import Derived.Test.YtdmpiondalhonaaAbG
namespace Go.Ab
open Go
set_option linter.unusedVariables false
set_option linter.unusedSimpArgs false
variable {σr : RowF}

section
variable {P : Program} {S : RS} {H : List ABlk} {fr : List AV} {K : AV → List ABlk → Prop} {o : Oper} {a : Act} {w : World}

theorem op_of_run {c : Sem Value} (hx : execOp a.eval o = (do pure (.value (← c)))) {u : Value} (hr : c.run P w = .ok u w) (h : WRel S H w) {v : AV} (hv : rel S v (shape H) u) (hK : K v H) : opRes P o a w (Done S H K) := by
  unfold opRes
  rw [hx]
  simp only [Sem.run_bind, hr, Result.andThen_ok, Sem.run_pure]
  exact .here h hv hK

theorem op_un {op : UnOp} {t : TypeId} {x : Operand} (ho : o.op = .unOp op t x) (hf : rels S fr (shape H) a.tmps.toList) (h : WRel S H w) {ax : AX} (hx : rx x = some ax)
    (hs : sat arS P H (exec1 arS σr fr H (.un op ax)) K) : opRes P o a w (Done S H K) := by
  have gx := rx_rel hf hx
  simp only [exec1] at hs
  generalize ev fr ax = vx at *
  have hex : execOp a.eval o = (do pure (.value (← Op.unary op (a.eval x)))) := by simp only [execOp, ho]
  cases op <;> cases vx <;> first | exact False.elim hs | skip
  all_goals simp only [rel] at gx
  all_goals first
    | exact op_of_run hex (by rw [gx]; rfl) h (by simp only [rel]; rfl) hs
    | exact op_of_run hex (by rw [gx]; rfl) h (by simp only [rel]) hs

theorem op_cvt {s d : TypeId} {x : Operand} (ho : o.op = .convert s d x) (hf : rels S fr (shape H) a.tmps.toList) (h : WRel S H w) {ax : AX} (hx : rx x = some ax) {k k' : IntKind} (hs0 : P.underlying s = some (.int k')) (hd : P.underlying d = some (.int k))
    (hs : sat arS P H (exec1 arS σr fr H (.cvt k ax)) K) : opRes P o a w (Done S H K) := by
  have gx := rx_rel hf hx
  simp only [exec1] at hs
  generalize ev fr ax = vx at *
  have hex : execOp a.eval o = (do pure (.value (← convert s d (a.eval x)))) := by simp only [execOp, ho]
  cases vx <;> first | exact False.elim hs | skip
  simp only [rel] at gx
  refine op_of_run (u := .int k (k.wrap _)) hex ?_ h (by simp only [rel]; rfl) hs
  rw [gx]
  simp only [convert, Sem.run_bind, run_underlying hs0, run_underlying hd, Result.andThen_ok, Conv.intToInt, Sem.run_pure]

theorem op_mki {t : TypeId} {x : Operand} (ho : o.op = .makeInterface t x) (hf : rels S fr (shape H) a.tmps.toList) (h : WRel S H w) {ax : AX} (hx : rx x = some ax) {d : TypeDesc} (hd : P.underlying t = some d) (hn : ∀ ms, d ≠ .interface ms)
    (hs : sat arS P H (exec1 arS σr fr H (.mki t ax)) K) : opRes P o a w (Done S H K) := by
  have gx := rx_rel hf hx
  have hex : execOp a.eval o = (do pure (.value (← Instr.makeInterface t (a.eval x)))) := by simp only [execOp, ho]
  refine op_of_run (u := .iface t (a.eval x)) hex ?_ h (by simp only [rel]; exact ⟨_, rfl, uns_rel gx⟩) hs
  simp only [Instr.makeInterface, Sem.run_bind, run_underlying hd, Result.andThen_ok]
  cases d <;> first | rfl | exact absurd rfl (hn _)

theorem op_mkf {f : Fn} {x y : Array Operand} (ho : o.op = .makeFunc f x y) (hf : rels S fr (shape H) a.tmps.toList) (h : WRel S H w) {ax ay : List AX} (hx : rxs x.toList = some ax) (hy : rxs y.toList = some ay)
    (hs : sat arS P H (exec1 arS σr fr H (.mkf f ax ay)) K) : opRes P o a w (Done S H K) := by
  have hex : execOp a.eval o = (do pure (.value (← Instr.makeFunc f (x.map a.eval) (y.map a.eval)))) := by simp only [execOp, ho]
  refine op_of_run (u := .func f (x.map a.eval) (y.map a.eval)) hex rfl h ?_ hs
  simp only [rel]
  exact ⟨_, _, rfl, by simpa using rxs_rel hf hx, by simpa using rxs_rel hf hy⟩

theorem op_ext {x : Operand} {i : Nat} (ho : o.op = .extract x i) (hf : rels S fr (shape H) a.tmps.toList) (h : WRel S H w) {ax : AX} (hx : rx x = some ax)
    (hs : sat arS P H (exec1 arS σr fr H (.ext ax i)) K) : opRes P o a w (Done S H K) := by
  have gx := rx_rel hf hx
  simp only [exec1] at hs
  generalize ev fr ax = vx at *
  have hex : execOp a.eval o = (do pure (.value (← Instr.extract (a.eval x) i))) := by simp only [execOp, ho]
  cases vx <;> first | exact False.elim hs | skip
  rename_i vs
  obtain ⟨v, h1, h2⟩ := sat_okO hs
  rw [getL_eq] at h1
  obtain ⟨c, h0, rfl⟩ := Option.map_eq_some_iff.1 h1
  simp only [rel] at gx
  obtain ⟨us, gx, gr⟩ := gx
  obtain ⟨u, k1, k2⟩ := rels_get gr h0
  rw [Array.getElem?_toList] at k1
  exact op_of_run (u := u) hex (by rw [gx]; simp [Instr.extract, k1]) h (sym_rel k2) h2

theorem op_fad {s : TypeId} {x : Operand} {i : Nat} (ho : o.op = .fieldAddr s x i) (hf : rels S fr (shape H) a.tmps.toList) (h : WRel S H w) {ax : AX} (hx : rx x = some ax) {fs : Array Field} {f : Field} (hu : P.underlying s = some (.struct fs)) (hfi : fs[i]? = some f)
    {n : Nat} (hn : szOf P f.type = some n) (h0 : n ≠ 0) (hs : sat arS P H (exec1 arS σr fr H (.fad f.offset ax)) K) : opRes P o a w (Done S H K) := by
  have gx := rx_rel hf hx
  simp only [exec1] at hs
  generalize ev fr ax = vx at *
  have hex : execOp a.eval o = (do pure (.value (← Instr.fieldAt s (a.eval x) i))) := by simp only [execOp, ho]
  have run : ∀ (B off : Nat), (Instr.fieldAt s (.pointer (some ⟨B, off, none⟩)) i).run P w = .ok (.pointer (some ⟨B, off + f.offset, none⟩)) w := by
    intro B off
    simp [Instr.fieldAt, run_underlying hu, hfi, Instr.sureAddr, fieldPlace, run_szOf hn, h0, Addr.add_lit]
  cases vx <;> first | exact False.elim hs | skip
  case bptr id off =>
    simp only [rel] at gx
    obtain ⟨m, B, c, h1, h2, gx⟩ := gx
    exact op_of_run hex (by rw [gx]; exact run B off) h (by simp only [rel]; exact ⟨m, B, c, h1, h2, rfl⟩) hs
  case iptr cs =>
    simp only [rel] at gx
    obtain ⟨B, off, gx, h2⟩ := gx
    simp only [dropL_eq] at hs
    exact op_of_run hex (by rw [gx]; exact run B off) h (by simp only [rel]; exact ⟨B, _, rfl, fz_drop h2 _⟩) hs
  case ptr id t r off =>
    simp only [rel] at gx
    obtain ⟨m, sz, B, o', h1, h2, gx, h3⟩ := gx
    refine op_of_run hex (by rw [gx]; exact run B o') h ?_ hs
    simp only [rel]
    refine ⟨m, sz, B, _, h1, h2, rfl, fun ht => ?_⟩
    obtain ⟨c, k1, k2⟩ := h3 ht
    exact ⟨c, k1, by omega⟩

/-- A part of an aggregate. -/
theorem run_part {T : Sh} {t : TypeId} {n : Option Nat} (hn : ldOf P t = some n) {cs : List AV} {us : Array Value} (hr : rels S cs T us.toList) (h1 : ∀ u ∈ us.toList, u.oneCell' = true) {off : Nat} {v : AV} (hv : partA n (cs.drop off) = some v) (w : World) :
    ∃ u, (part t us off).run P w = .ok u w ∧ rel S v T u := by
  unfold ldOf at hn
  cases hag : isAg P t with
  | none => rw [hag] at hn; cases hn
  | some b =>
    cases hsz : szOf P t with
    | none => rw [hag, hsz] at hn; cases b <;> cases hn
    | some m =>
      rw [hag, hsz] at hn
      cases b with
      | true =>
        injection hn with hn
        subst hn
        simp only [partA, Option.map_eq_some_iff] at hv
        obtain ⟨r, g1, rfl⟩ := hv
        obtain ⟨g2, g3⟩ := takeL_eq _ _ _ g1
        subst g2
        refine ⟨.agg (us.extract off (off + m)), by simp [part, run_isAg hag, run_szOf hsz], ?_⟩
        simp only [rel]
        have e : (us.extract off (off + m)).toList = (us.toList.drop off).take m := by
          rw [Array.toList_extract]
          simp [List.extract_eq_take_drop]
        refine ⟨_, rfl, ?_, fun u hu => ?_⟩
        · rw [e]; exact rels_take (rels_drop hr off) m
        · rw [e] at hu; exact h1 u (List.mem_of_mem_drop (List.mem_of_mem_take hu))
      | false =>
        have hm : m = 1 ∧ n = none := by
          cases m with
          | zero => cases hn
          | succ m => cases m with
            | zero => injection hn with hn; exact ⟨rfl, hn.symm⟩
            | succ m => cases hn
        obtain ⟨rfl, rfl⟩ := hm
        cases hd : cs.drop off with
        | nil => rw [hd] at hv; simp [partA] at hv
        | cons c cs' =>
          rw [hd] at hv
          simp only [partA, Option.some.injEq] at hv
          subst hv
          have hc : cs[off]? = some c := by
            have : (cs.drop off)[0]? = some c := by rw [hd]; rfl
            simpa using this
          obtain ⟨u, g1, g2⟩ := rels_get hr hc
          rw [Array.getElem?_toList] at g1
          exact ⟨u, by simp [part, run_isAg hag, g1], sym_rel g2⟩

theorem op_fld {s : TypeId} {x : Operand} {i : Nat} (ho : o.op = .field s x i) (hf : rels S fr (shape H) a.tmps.toList) (h : WRel S H w) {ax : AX} (hx : rx x = some ax) {fs : Array Field} {f : Field} (hu : P.underlying s = some (.struct fs)) (hfi : fs[i]? = some f)
    {n : Option Nat} (hn : ldOf P f.type = some n) (hs : sat arS P H (exec1 arS σr fr H (.fld f.offset n ax)) K) : opRes P o a w (Done S H K) := by
  have gx := rx_rel hf hx
  simp only [exec1] at hs
  generalize ev fr ax = vx at *
  have hex : execOp a.eval o = (do pure (.value (← Instr.field s (a.eval x) i))) := by simp only [execOp, ho]
  cases vx <;> first | exact False.elim hs | skip
  rename_i cs
  obtain ⟨v, h1, h2⟩ := sat_okO hs
  rw [dropL_eq] at h1
  simp only [rel] at gx
  obtain ⟨us, gx, gr, g1⟩ := gx
  obtain ⟨u, k1, k2⟩ := run_part hn gr g1 h1 w
  exact op_of_run hex (by rw [gx]; simp [Instr.field, run_underlying hu, hfi, asAgg, k1]) h k2 h2

theorem op_idxs {t : TypeId} {x y : Operand} (ho : o.op = .index t x y) (hf : rels S fr (shape H) a.tmps.toList) (h : WRel S H w) {ax ay : AX} (hx : rx x = some ax) (hy : rx y = some ay) (hu : P.underlying t = some .string)
    (hs : sat arS P H (exec1 arS σr fr H (.idxs ax ay)) K) : opRes P o a w (Done S H K) := by
  have gx := rx_rel hf hx
  have gy := rx_rel hf hy
  simp only [exec1] at hs
  generalize ev fr ax = vx at *
  generalize ev fr ay = vy at *
  have hex : execOp a.eval o = (do pure (.value (← Instr.index t (a.eval x) (a.eval y)))) := by simp only [execOp, ho]
  cases vx <;> first | exact False.elim hs | skip
  cases vy <;> first | exact False.elim hs | skip
  rename_i s k n
  obtain ⟨hn, hs⟩ := hs
  have hn : 0 ≤ n ∧ n < s.size := hn
  simp only [rel] at gx gy
  have hlt : n.toNat < s.size := by omega
  have hget : s[n.toNat]? = some s[n.toNat] := by simp [hlt]
  refine op_of_run (u := .int .u8 (s[n.toNat]).toNat) hex ?_ h ?_ hs
  · rw [gx, gy]
    simp [Instr.index, asIntOf, run_underlying hu, hn.1, hlt]
  · simp only [rel, arS]
    congr 2
    have : s.data.toList.getD n.toNat 0 = s[n.toNat] := by
      have h2 : n.toNat < s.data.toList.length := by simpa using hlt
      simp only [List.getD, List.getElem?_eq_getElem h2, Option.getD_some]
      rfl
    rw [this]

theorem op_mnmx {mx : Bool} {ts : Array TypeId} {x y : Operand} (ho : o.op = .call { callee := .builtin (if mx then .max else .min), args := #[x, y], argTypes := ts }) (hf : rels S fr (shape H) a.tmps.toList) (h : WRel S H w) {ax ay : AX} (hx : rx x = some ax) (hy : rx y = some ay)
    (hs : sat arS P H (exec1 arS σr fr H (.mnmx mx ax ay)) K) : opRes P o a w (Done S H K) := by
  have gx := rx_rel hf hx
  have gy := rx_rel hf hy
  simp only [exec1] at hs
  generalize ev fr ax = vx at *
  generalize ev fr ay = vy at *
  cases vx <;> first | exact False.elim hs | skip
  cases vy <;> first | exact False.elim hs | skip
  rename_i k m k' n
  simp only at hs
  split at hs
  · rename_i hk
    subst hk
    simp only [rel] at gx gy
    unfold opRes execOp
    cases mx
    · simp only [ho, Go.resolve, Go.invoke, Go.builtin, Sem.run_bind, Sem.run_pure, Result.andThen_ok, List.map_toArray, List.map_cons, List.map_nil, gx, gy, if_false, Bool.false_eq_true, Builtin.min_, List.foldlM, Builtin.min2]
      exact .here h (by simp only [rel]; rfl) hs
    · simp only [ho, Go.resolve, Go.invoke, Go.builtin, Sem.run_bind, Sem.run_pure, Result.andThen_ok, List.map_toArray, List.map_cons, List.map_nil, gx, gy, if_true, Builtin.max_, List.foldlM, Builtin.max2]
      exact .here h (by simp only [rel]; rfl) hs
  · exact False.elim hs

end
end Go.Ab
