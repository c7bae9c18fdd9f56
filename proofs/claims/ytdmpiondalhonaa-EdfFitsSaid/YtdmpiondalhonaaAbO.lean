/- The abstract machine's code: nodes, items, and what running them comes to. -/
import Derived.Test.YtdmpiondalhonaaAbN
namespace Go.Ab
open Go
set_option linter.unusedVariables false
set_option linter.unusedSimpArgs false

structure AOp where
  dst : Option Nat
  op : AO
  guard : Option (Option Nat × Bool)
  after : List Nat := []
  looks : List Nat := []
  deriving Inhabited

inductive Node where
  | seq (d : Nat)
  | cond (x : AX) (d : Nat)
  | block (id : Nat)
  | loop
  | region (ops : List AOp) (draw : Bool)
  | exit (id : Nat)
  | skip
  | ret
  | bad
  deriving Inhabited

def rslvOp (P : Program) (ops : Array Oper) (d : Bool) (o : Oper) : AOp :=
  { dst := o.dst, op := rslv P o.op, guard := o.guard.map fun (j, b) => ((ops[j]?).bind (·.dst), b),
    after := if d then (o.after.toList.filter (Region.binds .any)).map (·.on) else [], looks := if d then o.looksAt ops else [] }

def nodeSize : Code → Nat
  | .seq a b => nodeSize a + nodeSize b + 1
  | .cond _ a b => nodeSize a + nodeSize b + 1
  | .block _ a => nodeSize a + 1
  | .loop a => nodeSize a + 1
  | _ => 1

def flat (P : Program) : Code → List Node
  | .seq a b => .seq (nodeSize a + 1) :: (flat P a ++ flat P b)
  | .cond x a b => (match rx x with | some x => .cond x (nodeSize a + 1) | none => .bad) :: (flat P a ++ flat P b)
  | .block id a => .block id :: flat P a
  | .loop a => .loop :: flat P a
  | .region _ ops draw => [.region (ops.toList.map (rslvOp P ops draw)) draw]
  | .exit id => [.exit id]
  | .skip => [.skip]
  | .ret => [.ret]
  | _ => [.bad]

theorem flat_length (P : Program) : ∀ c : Code, (flat P c).length = nodeSize c
  | .seq a b => by simp [flat, nodeSize, flat_length P a, flat_length P b]
  | .cond x a b => by simp [flat, nodeSize, flat_length P a, flat_length P b]
  | .block id a => by simp [flat, nodeSize, flat_length P a]
  | .loop a => by simp [flat, nodeSize, flat_length P a]
  | .region .. => by simp [flat, nodeSize]
  | .exit _ => by simp [flat, nodeSize]
  | .skip => by simp [flat, nodeSize]
  | .ret => by simp [flat, nodeSize]
  | .rangeFunc .. => by simp [flat, nodeSize]
  | .scope _ => by simp [flat, nodeSize]
  | .label _ => by simp [flat, nodeSize]
  | .goto _ => by simp [flat, nodeSize]
  | .refuse _ => by simp [flat, nodeSize]

inductive RV where
  | t (n : Nat)
  | cell (n : Nat) (l : Option Nat)
  deriving Inhabited

def rvOf (P : Program) : ResultVar → Option RV
  | .tmp n => some (.t n)
  | .cell n t => (ldOf P t).map (.cell n)

/-- A function's text for the abstract machine. -/
structure AFn where
  np : Nat
  nt : Nat
  res : List RV
  tab : List Node
  deriving Inhabited

def AFn.of (P : Program) (fn : Func) (F : AFn) : Prop :=
  F.np = fn.params.size ∧ F.nt = fn.ntmps ∧ fn.results.toList.mapM (rvOf P) = some F.res ∧ (fn.body.map (flat P)) = some F.tab

inductive AItem where
  | c (n : Nat)
  | ops (n k : Nat)
  | blk (id : Nat)
  | lp (n : Nat)
  deriving Inhabited

/-- At place `n` of the table stands this code. -/
def At (P : Program) (tab : List Node) (n : Nat) (x : Code) : Prop := ∃ pre post, tab = pre ++ flat P x ++ post ∧ pre.length = n

def MatchI (P : Program) (tab : List Node) : AItem → Item → Prop
  | .c n, .code x => At P tab n x
  | .ops n k, .inRegion ops l => (∃ id d, At P tab n (.region id ops d)) ∧ l = List.range' k (ops.size - k)
  | .blk id, .inBlock id' => id = id'
  | .lp n, .inLoop x => At P tab n x
  | _, _ => False

/-- RUNNING what is left to do ends in a return of which `R` holds; `H0`: the heap when the call began. -/
def Run (P : Program) (fn : Func) (tab : List Node) (H0 : List ABlk) (R : AV → List ABlk → Prop) (K : List AItem) (fr : List AV) (H : List ABlk) : Prop :=
  ∀ S0 S w a (b : Frame) k cs, Ext S0 (shape H0) S (shape H) → a.defers = [] → rels S fr (shape H) a.tmps.toList → WRel S H w → All2 (MatchI P tab) K k →
    ∃ a' w' todo v, Steps P (lone (b.at a k) cs w) (lone { b.at a' todo with mode := .returning } cs w') ∧ a'.defers = [] ∧ (results fn a'.tmps).run P w' = .ok v w' ∧ Done S0 H0 R v w'

section
variable {P : Program} {fn : Func} {tab : List Node} {H0 : List ABlk} {R : AV → List ABlk → Prop} {K : List AItem} {fr : List AV} {H : List ABlk}

theorem At.head {n : Nat} {x : Code} (h : At P tab n x) : tab[n]? = (flat P x)[0]? := by
  obtain ⟨pre, post, rfl, rfl⟩ := h
  rw [List.append_assoc, List.getElem?_append_right (Nat.le_refl _), Nat.sub_self]
  cases hf : flat P x with
  | nil => have := flat_length P x; rw [hf] at this; cases x <;> simp [nodeSize] at this
  | cons y l => simp

theorem At.seq {n : Nat} {x y : Code} (h : At P tab n (.seq x y)) : At P tab (n + 1) x ∧ At P tab (n + (nodeSize x + 1)) y := by
  obtain ⟨pre, post, rfl, rfl⟩ := h
  simp only [flat]
  exact ⟨⟨pre ++ [.seq (nodeSize x + 1)], flat P y ++ post, by simp, by simp⟩, ⟨pre ++ .seq (nodeSize x + 1) :: flat P x, post, by simp, by simp [flat_length]⟩⟩

theorem At.cond {n : Nat} {c : Operand} {x y : Code} (h : At P tab n (.cond c x y)) : At P tab (n + 1) x ∧ At P tab (n + (nodeSize x + 1)) y := by
  obtain ⟨pre, post, rfl, rfl⟩ := h
  simp only [flat]
  generalize (match rx c with | some x_1 => Node.cond x_1 (nodeSize x + 1) | none => Node.bad) = nd
  exact ⟨⟨pre ++ [nd], flat P y ++ post, by simp, by simp⟩, ⟨pre ++ nd :: flat P x, post, by simp, by simp [flat_length]⟩⟩

theorem At.block {n id : Nat} {x : Code} (h : At P tab n (.block id x)) : At P tab (n + 1) x := by
  obtain ⟨pre, post, rfl, rfl⟩ := h
  simp only [flat]
  exact ⟨pre ++ [.block id], post, by simp, by simp⟩

theorem At.loop {n : Nat} {x : Code} (h : At P tab n (.loop x)) : At P tab (n + 1) x := by
  obtain ⟨pre, post, rfl, rfl⟩ := h
  simp only [flat]
  exact ⟨pre ++ [.loop], post, by simp, by simp⟩

/-- What code stands at a place, by its node. -/
theorem At.is_seq {n d : Nat} {x : Code} (h : At P tab n x) (ht : tab[n]? = some (.seq d)) : ∃ a b, x = .seq a b ∧ d = nodeSize a + 1 := by
  rw [h.head] at ht
  cases x <;> simp [flat] at ht
  · exact ⟨_, _, rfl, ht.symm⟩
  · rename_i c _ _; cases hc : rx c <;> simp [hc] at ht
theorem At.is_cond {n d : Nat} {x : Code} {ax : AX} (h : At P tab n x) (ht : tab[n]? = some (.cond ax d)) : ∃ c a b, x = .cond c a b ∧ rx c = some ax ∧ d = nodeSize a + 1 := by
  rw [h.head] at ht
  cases x <;> simp [flat] at ht
  rename_i c _ _
  cases hc : rx c with
  | none => simp [hc] at ht
  | some y => simp [hc] at ht; exact ⟨_, _, _, rfl, by rw [hc, ht.1], ht.2.symm⟩
theorem At.is_block {n id : Nat} {x : Code} (h : At P tab n x) (ht : tab[n]? = some (.block id)) : ∃ a, x = .block id a := by
  rw [h.head] at ht
  cases x <;> simp [flat] at ht
  · rename_i c _ _; cases hc : rx c <;> simp [hc] at ht
  · subst ht; exact ⟨_, rfl⟩
theorem At.is_loop {n : Nat} {x : Code} (h : At P tab n x) (ht : tab[n]? = some .loop) : ∃ a, x = .loop a := by
  rw [h.head] at ht
  cases x <;> simp [flat] at ht
  · rename_i c _ _; cases hc : rx c <;> simp [hc] at ht
  · exact ⟨_, rfl⟩
theorem At.is_exit {n id : Nat} {x : Code} (h : At P tab n x) (ht : tab[n]? = some (.exit id)) : x = .exit id := by
  rw [h.head] at ht
  cases x <;> simp [flat] at ht
  · rename_i c _ _; cases hc : rx c <;> simp [hc] at ht
  · subst ht; rfl
theorem At.is_skip {n : Nat} {x : Code} (h : At P tab n x) (ht : tab[n]? = some .skip) : x = .skip := by
  rw [h.head] at ht
  cases x <;> simp [flat] at ht
  · rfl
  · rename_i c _ _; cases hc : rx c <;> simp [hc] at ht
theorem At.is_ret {n : Nat} {x : Code} (h : At P tab n x) (ht : tab[n]? = some .ret) : x = .ret := by
  rw [h.head] at ht
  cases x <;> simp [flat] at ht
  · rename_i c _ _; cases hc : rx c <;> simp [hc] at ht
  · rfl
theorem At.is_region {n : Nat} {x : Code} {l : List AOp} {d : Bool} (h : At P tab n x) (ht : tab[n]? = some (.region l d)) : ∃ id ops, x = .region id ops d ∧ l = ops.toList.map (rslvOp P ops d) := by
  rw [h.head] at ht
  cases x <;> simp [flat] at ht
  · obtain ⟨h1, rfl⟩ := ht; exact ⟨_, _, rfl, h1.symm⟩
  · rename_i c _ _; cases hc : rx c <;> simp [hc] at ht

/-- One step of the machine, and then what is known. -/
theorem Run.step {K' : List AItem} (h : ∀ S w a (b : Frame) k cs, a.defers = [] → rels S fr (shape H) a.tmps.toList → WRel S H w → All2 (MatchI P tab) K k → ∃ k', Steps P (lone (b.at a k) cs w) (lone (b.at a k') cs w) ∧ All2 (MatchI P tab) K' k')
    (hr : Run P fn tab H0 R K' fr H) : Run P fn tab H0 R K fr H := by
  intro S0 S w a b k cs he hd hf hw hk
  obtain ⟨k', h1, h2⟩ := h S w a b k cs hd hf hw hk
  obtain ⟨a', w', todo, v, q1, q2, q3, q4⟩ := hr S0 S w a b k' cs he hd hf hw h2
  exact ⟨a', w', todo, v, h1.trans q1, q2, q3, q4⟩

theorem Run.seq {n d : Nat} (ht : tab[n]? = some (.seq d)) (h : Run P fn tab H0 R (.c (n + 1) :: .c (n + d) :: K) fr H) : Run P fn tab H0 R (.c n :: K) fr H := by
  refine Run.step (fun S w a b k cs _ _ _ hk => ?_) h
  cases hk with
  | cons h1 hk =>
    rename_i it k
    cases it <;> first | exact h1.elim | skip
    obtain ⟨x, y, rfl, rfl⟩ := At.is_seq h1 ht
    exact ⟨_, .one step_seq, .cons (At.seq h1).1 (.cons (At.seq h1).2 hk)⟩

theorem Run.block {n id : Nat} (ht : tab[n]? = some (.block id)) (h : Run P fn tab H0 R (.c (n + 1) :: .blk id :: K) fr H) : Run P fn tab H0 R (.c n :: K) fr H := by
  refine Run.step (fun S w a b k cs _ _ _ hk => ?_) h
  cases hk with
  | cons h1 hk =>
    rename_i it k
    cases it <;> first | exact h1.elim | skip
    obtain ⟨x, rfl⟩ := At.is_block h1 ht
    exact ⟨_, .one step_block, .cons (At.block h1) (.cons rfl hk)⟩

theorem Run.loop {n : Nat} (ht : tab[n]? = some .loop) (h : Run P fn tab H0 R (.c (n + 1) :: .lp (n + 1) :: K) fr H) : Run P fn tab H0 R (.c n :: K) fr H := by
  refine Run.step (fun S w a b k cs _ _ _ hk => ?_) h
  cases hk with
  | cons h1 hk =>
    rename_i it k
    cases it <;> first | exact h1.elim | skip
    obtain ⟨x, rfl⟩ := At.is_loop h1 ht
    exact ⟨_, .one step_loop, .cons (At.loop h1) (.cons (At.loop h1) hk)⟩

theorem Run.lp {n : Nat} (h : Run P fn tab H0 R (.c n :: .lp n :: K) fr H) : Run P fn tab H0 R (.lp n :: K) fr H := by
  refine Run.step (fun S w a b k cs _ _ _ hk => ?_) h
  cases hk with
  | cons h1 hk =>
    rename_i it k
    cases it <;> first | exact h1.elim | skip
    exact ⟨_, .one step_inLoop, .cons h1 (.cons h1 hk)⟩

theorem Run.blk {id : Nat} (h : Run P fn tab H0 R K fr H) : Run P fn tab H0 R (.blk id :: K) fr H := by
  refine Run.step (fun S w a b k cs _ _ _ hk => ?_) h
  cases hk with
  | cons h1 hk =>
    rename_i it k
    cases it <;> first | exact h1.elim | skip
    exact ⟨_, .one step_inBlock, hk⟩

theorem Run.skip {n : Nat} (ht : tab[n]? = some .skip) (h : Run P fn tab H0 R K fr H) : Run P fn tab H0 R (.c n :: K) fr H := by
  refine Run.step (fun S w a b k cs _ _ _ hk => ?_) h
  cases hk with
  | cons h1 hk =>
    rename_i it k
    cases it <;> first | exact h1.elim | skip
    obtain rfl := At.is_skip h1 ht
    exact ⟨_, .one step_skip, hk⟩

def exitA (id : Nat) : List AItem → Option (List AItem)
  | .blk id' :: K => if id' = id then some K else exitA id K
  | _ :: K => exitA id K
  | [] => none

theorem exitA_match {id : Nat} : ∀ {K K' : List AItem} {k : List Item}, All2 (MatchI P tab) K k → exitA id K = some K' → ∃ k', exitTo id k = some k' ∧ All2 (MatchI P tab) K' k'
  | _, _, _, .nil, h => by simp [exitA] at h
  | _, K', _, .cons (x := it) (y := it') (l := K) (m := k) h1 hk, h => by
    cases it with
    | blk id' =>
      cases it' <;> first | exact h1.elim | skip
      have h1 : id' = _ := h1
      subst h1
      simp only [exitA] at h
      split at h
      · rename_i he
        injection h with h
        subst h he
        exact ⟨k, by simp [exitTo], hk⟩
      · rename_i he
        obtain ⟨k', q1, q2⟩ := exitA_match hk h
        exact ⟨k', by simp [exitTo, he, q1], q2⟩
    | c n =>
      cases it' <;> first | exact h1.elim | skip
      obtain ⟨k', q1, q2⟩ := exitA_match hk (show exitA id K = some K' from h)
      exact ⟨k', by simp [exitTo, q1], q2⟩
    | ops n j =>
      cases it' <;> first | exact h1.elim | skip
      obtain ⟨k', q1, q2⟩ := exitA_match hk (show exitA id K = some K' from h)
      exact ⟨k', by simp [exitTo, q1], q2⟩
    | lp n =>
      cases it' <;> first | exact h1.elim | skip
      obtain ⟨k', q1, q2⟩ := exitA_match hk (show exitA id K = some K' from h)
      exact ⟨k', by simp [exitTo, q1], q2⟩

theorem Run.exit {n id : Nat} {K' : List AItem} (ht : tab[n]? = some (.exit id)) (he : exitA id K = some K') (h : Run P fn tab H0 R K' fr H) : Run P fn tab H0 R (.c n :: K) fr H := by
  refine Run.step (fun S w a b k cs _ _ _ hk => ?_) h
  cases hk with
  | cons h1 hk =>
    rename_i it k
    cases it <;> first | exact h1.elim | skip
    obtain rfl := At.is_exit h1 ht
    obtain ⟨k', q1, q2⟩ := exitA_match hk he
    exact ⟨_, .one (step_exit q1), q2⟩

theorem Run.cond {n d : Nat} {x : AX} {t : Bool} (ht : tab[n]? = some (.cond x d)) (hx : ev fr x = .bool t ∨ ev fr x = .sb t) (h : Run P fn tab H0 R (.c (if t then n + 1 else n + d) :: K) fr H) : Run P fn tab H0 R (.c n :: K) fr H := by
  refine Run.step (fun S w a b k cs _ hf _ hk => ?_) h
  cases hk with
  | cons h1 hk =>
    rename_i it k
    cases it <;> first | exact h1.elim | skip
    obtain ⟨c, p, q, rfl, hc, rfl⟩ := At.is_cond h1 ht
    have hr := rx_rel hf hc
    have he : a.eval c = .bool t := by
      rcases hx with hx | hx <;> (rw [hx] at hr; simpa [rel] using hr)
    refine ⟨_, .one (step_cond he), .cons ?_ hk⟩
    cases t
    · exact (At.cond h1).2
    · exact (At.cond h1).1

theorem Run.region {n : Nat} {l : List AOp} (ht : tab[n]? = some (.region l false)) (h : Run P fn tab H0 R (.ops n 0 :: K) fr H) : Run P fn tab H0 R (.c n :: K) fr H := by
  refine Run.step (fun S w a b k cs _ _ _ hk => ?_) h
  cases hk with
  | cons h1 hk =>
    rename_i it k
    cases it <;> first | exact h1.elim | skip
    obtain ⟨id, ops, rfl, rfl⟩ := At.is_region h1 ht
    exact ⟨_, .one step_region, .cons ⟨⟨id, _, h1⟩, by simp [List.range_eq_range']⟩ hk⟩

end
end Go.Ab
