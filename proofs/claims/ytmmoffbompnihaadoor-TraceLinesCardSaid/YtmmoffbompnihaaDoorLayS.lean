import Derived.Test.YtmmoffbompnihaaDoorLayG
import Derived.Shelf.Strings.OnBuilder
import Derived.Shelf.Strings.SplitShaped
import Derived.Shelf.Strconv.AtoiAll
import Derived.Lib.AtoiErrMem
import Derived.HandedShaped
import Derived.ProofKit
import Derived.OpenShut
import Derived.ChangeOld
import Derived.LaidMore
import Derived.Lay
import Derived.Stop.Joined
import Derived.SevenTiedAt
namespace Go.Ab
open Go Go.Proofs
set_option linter.unusedVariables false
set_option linter.unusedSimpArgs false
theorem WRel.below {S : RS} {w w' : World} (h : WRel S [] w) (hb : Go.RowKit.Below w.heap.size w w') : WRel S [] w' :=
 h.step (H' := []) (Ext.refl _ _) (fun _ => False) (fun _ => False) ⟨hb.os, hb.tape, hb.output, hb.size, fun k hk _ => hb.block k hk⟩ (fun _ _ h => h.elim) (fun _ _ _ h => .inl h) (old := fun id b hb _ => by simp at hb) (new := fun _ _ _ h => h.elim) (inj := fun _ _ _ _ _ _ _ _ _ _ _ _ _ h => h.elim)
theorem CallsA.ofBelow {P : Program} {f : FuncId} {args : List AV} {r : AV} (hc : Callable P f)
  (h : ∀ S w vs, WRel S [] w → rels S args noSh vs → ∃ v, rel S r noSh v ∧ Calls P f vs.toArray w fun e w' => e = .returned v ∧ Go.RowKit.Below w.heap.size w w') : CallsA P f args [] fun r0 H0 => r0 = r ∧ H0 = [] := by
 refine ⟨hc, fun S w vs hw hr => ?_⟩
 rw [shape_nil] at hr
 obtain ⟨v, hv, hcalls⟩ := h S w vs hw hr
 refine hcalls.mono ?_
 rintro e w' ⟨rfl, hb⟩
 exact ⟨v, rfl, S, r, [], Ext.refl _ _, hw.below hb, by rw [shape_nil]; exact hv, rfl, rfl⟩
theorem kn_of {P : Program} {f : FuncId} {args : List AV} {r : AV} (h : CallsA P f args [] fun r0 H0 => r0 = r ∧ H0 = []) : KnOk P ⟨f, args, r, []⟩ := ⟨h, fun j e sz rows hj => by simp at hj⟩
def strR (L : List ByteArray) : List (List AV) := L.map fun s => [.str s]
theorem strR_cells {S : RS} {w : World} {L : List ByteArray} {v : Value} (h : WRel S [] w) (hr : rel S (.inl 1 (strR L)) noSh v) : ∃ a c, v = .slice a L.length c ∧ L.length ≤ c ∧ (L = [] ∨ ∃ B o, a = some ⟨B, o, none⟩ ∧ B < w.heap.size ∧ ∀ (j : Nat) x, L[j]? = some x → w.cell? ⟨B, o + j, none⟩ = some (.string x)) := by
 simp only [rel] at hr
 obtain ⟨a, c, h1, h2, h3⟩ := hr
 have hl : (strR L).length = L.length := by simp [strR]
 rw [hl] at h1 h2
 refine ⟨a, c, h1, h2, ?_⟩
 rcases h3 with h3 | ⟨B, o, h3, h4⟩
 ·left; simpa [strR] using h3
 ·cases L with
  | nil => exact .inl rfl
  | cons x0 L =>
   have key : ∀ (j : Nat) x, (x0 :: L)[j]? = some x → w.cell? ⟨B, o + j, none⟩ = some (.string x) := fun j x hj => by
    obtain ⟨_, q⟩ := fzs_get h4 (i := j) (r := [.str x]) (by unfold strR; rw [List.getElem?_map, hj]; rfl)
    obtain ⟨u, u1, u2, _⟩ := fz_get q (j := 0) (c := .str x) rfl
    simp only [rel] at u2
    subst u2
    rw [Nat.mul_one, Nat.add_zero] at u1
    exact h.fro _ _ _ u1
   exact .inr ⟨B, o, h3, World.block_lt_of_cell? w _ (key 0 x0 rfl), key⟩
def joinB (L : List ByteArray) (sep : ByteArray) : ByteArray := ⟨(Lib.join (L.map (·.data.toList)) sep.data.toList).toArray⟩
def JoinC (P : Program) (f : FuncId) : Prop := Callable P f ∧ (∀ (a : Option Addr) (c : Nat) (sep : ByteArray) (w : World), Calls P f #[.slice a 0 c, .string sep] w fun e w' => e = .returned (.string ⟨#[]⟩) ∧ w' = w) ∧
 ∀ (bk o c : Nat) (xs : List ByteArray) (sep : ByteArray) (w : World), (∀ (j : Nat) x, xs[j]? = some x → w.cell? ⟨bk, o + j, none⟩ = some (.string x)) → bk < w.heap.size → xs.length ≤ 140737488355328 → xs.length ≤ c →
  (Lib.join (xs.map (·.data.toList)) sep.data.toList).length ≤ 140737488355328 →
  Calls P f #[.slice (some ⟨bk, o, none⟩) xs.length c, .string sep] w fun e w' => e = .returned (.string ⟨(Lib.join (xs.map (·.data.toList)) sep.data.toList).toArray⟩) ∧ Go.RowKit.Below w.heap.size w w'
theorem join_A {P : Program} {f : FuncId} (hc : JoinC P f) (L : List ByteArray) (sep : ByteArray) (h1 : L.length ≤ 140737488355328) (h2 : (Lib.join (L.map (·.data.toList)) sep.data.toList).length ≤ 140737488355328) :
  CallsA P f [.inl 1 (strR L), .str sep] [] fun r H => r = .str (joinB L sep) ∧ H = [] := by
 refine CallsA.ofBelow hc.1 fun S w vs hw hr => ?_
 simp only [rels] at hr
 obtain ⟨v, _, rfl, hv, v2, _, rfl, hv2, rfl⟩ := hr
 simp only [rel] at hv2
 subst hv2
 obtain ⟨a, c, rfl, hlc, hcl⟩ := strR_cells hw hv
 refine ⟨.string (joinB L sep), by simp only [rel], ?_⟩
 rcases hcl with rfl | ⟨B, o, rfl, hB, hcells⟩
 ·exact (hc.2.1 a c sep w).mono fun e w' ⟨he, hw'⟩ => ⟨he, hw' ▸ Go.RowKit.Below.refl _ _⟩
 ·exact hc.2.2 B o c L sep w hcells hB h1 hlc h2
def splitL (s sep : ByteArray) : List ByteArray := Lib.splitB sep 0 (Lib.countB s sep) s
def SplitC (P : Program) (f : FuncId) (g t : Nat) : Prop := Callable P f ∧ ∀ (s sep : ByteArray) (m : Int) (w : World), s.size < 4294967281 → w.cell? ⟨g, 0, none⟩ = some (.int .i64 m) → 1 ≤ sep.size →
 Calls P f #[.string s, .string sep] w fun e w' => e = .returned (.slice (some ⟨w.heap.size, 0, none⟩) (Lib.countB s sep + 1) (Lib.countB s sep + 1)) ∧ w' = w.alloc (.cells ((splitL s sep).map Value.string).toArray t)
def AtoiC (P : Program) (f : FuncId) : Prop := Callable P f ∧ ∀ (s : ByteArray) (v : Int) w, s.size ≤ 9223372036854775806 → Lib.atoiAll s.data.toList = .ok v →
 Calls P f #[.string s] w fun e w' => e = .returned (.tuple #[.int .i64 v, .nilIface]) ∧ Go.RowKit.Below w.heap.size w w'
theorem atoi_A {P : Program} {f : FuncId} (hc : AtoiC P f) (s : ByteArray) (v : Int) (h1 : s.size ≤ 9223372036854775806) (h2 : Lib.atoiAll s.data.toList = .ok v) :
  CallsA P f [.str s] [] fun r H => r = .tup [.int .i64 v, .nili] ∧ H = [] := by
 refine CallsA.ofBelow hc.1 fun S w vs hw hr => ?_
 simp only [rels, rel] at hr
 obtain ⟨v0, _, rfl, rfl, rfl⟩ := hr
 exact ⟨_, by simp only [rel, rels]; exact ⟨_, rfl, _, _, rfl, rfl, _, _, rfl, rfl, rfl⟩, hc.2 s v w h1 h2⟩
end Go.Ab

namespace Go.Ab
open Go Go.ChangeShapes Go.WideShapes Go.ChangeAt Go.RowKit
theorem returnsInHanded_laid {H : Type} {enc : TypeId × Value → H} {a : Assume} {C : Checked} {os : Os} {f : FuncId} {fn : Func} {s : ChangeSpec} {conds : List PathCond} {apart fresh handsOn again : Bool} {X : World → Array Value → Prop}
  (hX : ∀ (w w' : World) (args : Array Value), w.heap = w'.heap → X w args → X w' args)
  (own : ownKnob C.prog.godebug = none) (started : os.Started) (noInit : C.prog.inits.idxOf? f = none) (hfn : C.prog.funcs[f]? = some fn)
  (witness : ∃ (w : World) (tape : Tape) (i : Input), w.os = os ∧ (w.forCall tape i).Shaped C.prog ∧ i.vars = [] ∧ Input.okWide C.prog (w.forCall tape i) .any w.heap.size f i ∧
   ((s.pre enc C.prog fn conds apart (w.forCall tape i).memory i.args ∧ X (w.forCall tape i).memory i.args) ∧ sizedMet enc C.prog fn (OpenSpec.ofChange s) apart (w.forCall tape i).memory i.args) ∧ a.holds C.prog (lone (Frame.enter C.prog f i.args .normal) [] (w.forCall tape i)))
  (contract : ∀ (W : World) (base : Nat) (args : Array Value) (ds gs : List (DataW H)) (before : List MemPlace),
   (∀ (j : Nat) t v, fn.params[j]? = some t → args[j]? = some v → Value.okWide C.prog W .any base t v) →
   DataW.Whole enc C.prog fn.params.toList s.vars apart W args.toList ds gs before →
   conds.all (PathCond.test C.prog ⟨fn.params.toList, ds, s.plain.varTypes C.prog, gs⟩) = true →
   (DataW.weightsEach C.prog (fn.params.toList ++ s.plain.varTypes C.prog) (ds ++ gs)).all (· ≤ reachBytes) = true → X W args → W.ShapedOpen C.prog →
   Calls C.prog f args W fun e W' => ∃ v, e = .returned v ∧ s.post enc C.prog fn apart fresh handsOn again W args v W') :
  ReturnsInHanded a C os f .any (fun w args => (s.pre enc C.prog fn conds apart w args ∧ X w args) ∧ sizedMet enc C.prog fn (OpenSpec.ofChange s) apart w args) (s.post enc C.prog fn apart fresh handsOn again) := by
 refine returnsInHanded_of_calls own started noInit witness ?_
 intro w tape i _ hsh _ hok hpre hholds
 obtain ⟨_, _, _, fn', hfn', _, _, _, _, hval⟩ := hok
 have e : fn' = fn := Option.some.inj (hfn'.symm.trans hfn)
 subst e
 obtain ⟨⟨⟨ds, gs, before, hw, hc⟩, hx⟩, hz⟩ := hpre
 have hw' := DataW.Whole.of_heap (w' := w.forCall tape i) (by rfl) hw
 refine (contract (w.forCall tape i) w.heap.size i.args ds gs before hval hw' hc (hz.weights hw) (hX _ _ _ (by rfl) hx) hsh).mono fun e W' ⟨v, he, hp⟩ => ?_
 subst he
 exact ChangeSpec.post_blind hp
end Go.Ab
