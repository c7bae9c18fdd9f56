/- The evaluator with one arithmetic throughout a proof; what its words mean. -/
import Derived.Test.YtdmpiondalhonaaAbW
namespace Go.Ab
set_option linter.unusedVariables false
set_option linter.unusedSimpArgs false
open Go

section
variable {P : Program} {fn : Func} {tab : List Node} {H0 : List ABlk} {R : AV → List ABlk → Prop} {K : List AItem} {fr : List AV} {H : List ABlk} {rs : List RV}

theorem Run.gA {A : Ar} (hA : A = arS) (σr : RowF) (n : Nat) (hrs : fn.results.toList.mapM (rvOf P) = some rs)
    (h : ∀ C Rn RR, C = CallsA P → Rn = Run P fn tab H0 R → RR = R → G A σr C Rn RR tab rs n K fr H) : Run P fn tab H0 R K fr H :=
  Run.go σr n hrs fun A' C Rn RR h1 h2 h3 h4 => by
    subst h1
    subst hA
    exact h C Rn RR h2 h3 h4

/-- Run till one of the places of `st`. -/
theorem Run.gS {A : Ar} (hA : A = arS) (σr : RowF) (st : List Nat) (n : Nat) (hrs : fn.results.toList.mapM (rvOf P) = some rs)
    (h : ∀ C Rn RR, C = CallsA P → Rn = Run P fn tab H0 R → RR = R → GT A σr C Rn RR tab rs st n K fr H) : Run P fn tab H0 R K fr H :=
  Run.goS σr st n hrs fun A' C Rn RR h1 h2 h3 h4 => by
    subst h1
    subst hA
    exact h C Rn RR h2 h3 h4

theorem CallsA.inA {A : Ar} (hA : A = arS) {i : Nat} {F : AFn} {args : List AV} (hF : F.at P i fn) (σr : RowF) (n : Nat)
    (h : ∀ C Rn RR, C = CallsA P → Rn = Run P fn F.tab H R → RR = R → G A σr C Rn RR F.tab F.res n [.c 0] (symL args ++ List.replicate (F.nt - args.length) .junk) H) : CallsA P i args H R :=
  CallsA.into hF σr n fun A' C Rn RR h1 h2 h3 h4 => by
    subst h1
    subst hA
    exact h C Rn RR h2 h3 h4

theorem Run.gD {A : Ar} (hA : A = arS) {n : Nat} {l : List AOp} (hm : P.follows .mixedOrders = true) (ht : getL tab n = some (.region l true)) (σr : RowF) (bs : List Bool) (hbs : bs.length ≤ H.length)
    (h : ∀ C Fin Dr, C = CallsA P → Fin = Run P fn tab H0 R K → Dr = DrawA P l bs (Run P fn tab H0 R K) → drawG A σr C Fin Dr l bs [] (lenL l) (List.replicate (lenL l) false) fr H) : Run P fn tab H0 R (.c n :: K) fr H :=
  Run.goDraw hm ht σr bs hbs fun A' C Fin Dr h1 h2 h3 h4 => by
    subst h1
    subst hA
    exact h C Fin Dr h2 h3 h4

theorem DrawA.gA {A : Ar} (hA : A = arS) (σr : RowF) {l : List AOp} {bs : List Bool} {n : Nat} {listed : List Bool} (hbs : bs.length ≤ H.length)
    (h : ∀ C Fin Dr, C = CallsA P → Fin = Run P fn tab H0 R K → Dr = DrawA P l bs (Run P fn tab H0 R K) → drawG A σr C Fin Dr l bs [] n listed fr H) : DrawA P l bs (Run P fn tab H0 R K) n listed fr H :=
  DrawA.go σr hbs fun A' C Fin Dr h1 h2 h3 h4 => by
    subst h1
    subst hA
    exact h C Fin Dr h2 h3 h4

theorem Run.eqv {fr' : List AV} {H' : List ABlk} (hf : fr = fr') (hH : H = H') (h : Run P fn tab H0 R K fr' H') : Run P fn tab H0 R K fr H := by
  subst hf hH
  exact h
end

/-! ### words -/
section
variable {A : Ar}
theorem imI (hA : A = arS) {b c : Bool} {q : Prop} (h : b = c → q) : A.im b c q := by subst hA; exact h
theorem ndI (hA : A = arS) {p : Cnd} (h : p.holds) : A.nd p := by subst hA; exact h
theorem lssT (hA : A = arS) {x y : Int} (h : A.cmp .lss x y = true) : x < y := by subst hA; simpa [arS, cmpS] using h
theorem lssF (hA : A = arS) {x y : Int} (h : A.cmp .lss x y = false) : y ≤ x := by subst hA; simpa [arS, cmpS] using h
theorem leqT (hA : A = arS) {x y : Int} (h : A.cmp .leq x y = true) : x ≤ y := by subst hA; simpa [arS, cmpS] using h
theorem leqF (hA : A = arS) {x y : Int} (h : A.cmp .leq x y = false) : y < x := by subst hA; simpa [arS, cmpS] using h
theorem gtrT (hA : A = arS) {x y : Int} (h : A.cmp .gtr x y = true) : y < x := by subst hA; simpa [arS, cmpS] using h
theorem gtrF (hA : A = arS) {x y : Int} (h : A.cmp .gtr x y = false) : x ≤ y := by subst hA; simpa [arS, cmpS] using h
theorem geqT (hA : A = arS) {x y : Int} (h : A.cmp .geq x y = true) : y ≤ x := by subst hA; simpa [arS, cmpS] using h
theorem geqF (hA : A = arS) {x y : Int} (h : A.cmp .geq x y = false) : x < y := by subst hA; simpa [arS, cmpS] using h
theorem eqlT (hA : A = arS) {x y : Int} (h : A.cmp .eql x y = true) : x = y := by subst hA; simpa [arS, cmpS] using h
theorem eqlF (hA : A = arS) {x y : Int} (h : A.cmp .eql x y = false) : x ≠ y := by subst hA; simpa [arS, cmpS] using h
theorem neqT (hA : A = arS) {x y : Int} (h : A.cmp .neq x y = true) : x ≠ y := by subst hA; simpa [arS, cmpS] using h
theorem neqF (hA : A = arS) {x y : Int} (h : A.cmp .neq x y = false) : x = y := by subst hA; simpa [arS, cmpS] using h
theorem notT (hA : A = arS) {b : Bool} (h : A.not b = true) : b = false := by subst hA; simpa [arS] using h
theorem notF (hA : A = arS) {b : Bool} (h : A.not b = false) : b = true := by subst hA; simpa [arS] using h
end

section
variable {A : Ar}
theorem rlen_eq (hA : A = arS) (rows : List (List AV)) : A.rlen rows = rows.length := by subst hA; rfl
theorem ofN_eq (hA : A = arS) (n : Nat) : A.ofN n = (n : Int) := by subst hA; rfl
theorem tn_eq (hA : A = arS) (n : Int) : A.tn n = n.toNat := by subst hA; rfl
theorem cI_of (hA : A = arS) {rows : List (List AV)} {i j : Nat} {k : IntKind} {x : Int} {r : List AV} (h : rows[i]? = some r) (hr : r[j]? = some (.int k x)) : A.cI rows (A.tn (i : Int)) j = x := by
  subst hA
  show cIS rows i j = x
  unfold cIS cellS
  simp [h, hr]
theorem cI_of' (hA : A = arS) {rows : List (List AV)} {i j : Nat} {k : IntKind} {x : Int} {r : List AV} (h : rows[i]? = some r) (hr : r[j]? = some (.int k x)) : A.cI rows i j = x := by
  subst hA
  show cIS rows i j = x
  unfold cIS cellS
  simp [h, hr]
theorem add_nat (hA : A = arS) {x : Nat} {y : Int} (h0 : 0 ≤ y) (h : (x : Int) + y ≤ 9223372036854775807) : A.iop .add .i64 (x : Int) y = ((x + y.toNat : Nat) : Int) := by
  subst hA
  have he : arS.iop .add .i64 (x : Int) y = IntKind.i64.wrap ((x : Int) + y) := rfl
  rw [he]
  simp only [IntKind.wrap]
  have hb : IntKind.i64.bits = 64 := rfl
  simp [IntKind.signed, hb]
  omega
end

theorem wrap_i64 {x : Int} (h1 : -9223372036854775808 ≤ x) (h2 : x ≤ 9223372036854775807) : IntKind.i64.wrap x = x := by
  simp only [IntKind.wrap]
  have hb : IntKind.i64.bits = 64 := rfl
  simp [IntKind.signed, hb]
  omega

theorem cellS_set (rows : List (List AV)) (i j k : Nat) (r : List AV) : cellS (rows.set i r) j k = if i = j ∧ i < rows.length then (r[k]?).getD .junk else cellS rows j k := by
  unfold cellS
  rw [List.getElem?_set]
  by_cases h : i = j
  · subst h
    by_cases h2 : i < rows.length <;> simp [h2]
  · simp [h]

def ivI : AV → Int
  | .int _ n => n
  | _ => 0
def ivB : AV → Bool
  | .bool b => b
  | _ => false
theorem cIS_iv (rows : List (List AV)) (i j : Nat) : cIS rows i j = ivI (cellS rows i j) := by
  unfold cIS ivI; rfl
theorem cBS_iv (rows : List (List AV)) (i j : Nat) : cBS rows i j = ivB (cellS rows i j) := by
  unfold cBS ivB; rfl
theorem cIS_set {rows : List (List AV)} {j k : Nat} {r : List AV} (h : j < rows.length) : cIS (rows.set j r) j k = ivI ((r[k]?).getD .junk) := by
  rw [cIS_iv, cellS_set, if_pos ⟨rfl, h⟩]
theorem cBS_set {rows : List (List AV)} {j k : Nat} {r : List AV} (h : j < rows.length) : cBS (rows.set j r) j k = ivB ((r[k]?).getD .junk) := by
  rw [cBS_iv, cellS_set, if_pos ⟨rfl, h⟩]

theorem cellS_map {α : Type} (l : List α) (f : α → List AV) (j k : Nat) : cellS (l.map f) j k = ((l[j]?).bind fun x => (f x)[k]?).getD .junk := by
  unfold cellS
  rw [List.getElem?_map]
  cases l[j]? <;> rfl
end Go.Ab

namespace Go.Ab
set_option linter.unusedVariables false
set_option linter.unusedSimpArgs false
open Go
/-! ### a nil slice is owned -/
def ownL (n : Nat) : List AV → List AV → Prop
  | [], [] => True
  | x :: xs, y :: ys => (x = y ∨ y = .junk ∨ (x = .nils ∧ y = .sl n 0 0 0)) ∧ ownL n xs ys
  | _, _ => False

def ownH (n : Nat) : List ABlk → List ABlk → Prop
  | [], [] => True
  | x :: xs, y :: ys => (x = y ∨ ∃ e cs cs', x = .box e cs ∧ y = .box e cs' ∧ ownL n cs cs') ∧ ownH n xs ys
  | _, _ => False

theorem ownL_rels {S : RS} {T : Sh} {n sz : Nat} (hT : T n = some (.row 0 sz)) (hρ : S.ρ n = none) : ∀ {xs ys : List AV} {vs : List Value}, ownL n xs ys → rels S xs T vs → rels S ys T vs
  | [], [], vs, _, h => h
  | x :: xs, y :: ys, vs, hs, h => by
    simp only [ownL] at hs
    simp only [rels] at h ⊢
    obtain ⟨v, vs', h1, h2, h3⟩ := h
    refine ⟨v, vs', h1, ?_, ownL_rels hT hρ hs.2 h3⟩
    rcases hs.1 with rfl | rfl | ⟨rfl, rfl⟩
    · exact h2
    · simp [rel]
    · simp only [rel] at h2 ⊢
      obtain ⟨a, rfl⟩ := h2
      exact ⟨0, sz, hT, Nat.le_refl _, rfl, fun _ => ⟨Nat.le_refl _, by rw [hρ]; exact ⟨trivial, a, rfl⟩⟩⟩
  | [], _ :: _, _, h, _ => h.elim
  | _ :: _, [], _, h, _ => h.elim

theorem ownL_length {n : Nat} : ∀ {xs ys : List AV}, ownL n xs ys → ys.length = xs.length
  | [], [], _ => rfl
  | x :: xs, y :: ys, h => by simp [ownL_length h.2]
  | [], _ :: _, h => h.elim
  | _ :: _, [], h => h.elim

theorem ownH_get {n : Nat} : ∀ {H H' : List ABlk}, ownH n H H' → ∀ (i : Nat) (y : ABlk), H'[i]? = some y → ∃ x, H[i]? = some x ∧ (x = y ∨ ∃ e cs cs', x = .box e cs ∧ y = .box e cs' ∧ ownL n cs cs')
  | [], [], _, i, y, h => by simp at h
  | x :: xs, y :: ys, h, 0, z, hz => by simp at hz; subst hz; exact ⟨x, by simp, h.1⟩
  | x :: xs, y :: ys, h, i + 1, z, hz => by
    obtain ⟨x', h1, h2⟩ := ownH_get h.2 i z (by simpa using hz)
    exact ⟨x', by simpa using h1, h2⟩
  | [], _ :: _, h, _, _, _ => h.elim
  | _ :: _, [], h, _, _, _ => h.elim

theorem ownH_length {n : Nat} : ∀ {H H' : List ABlk}, ownH n H H' → H'.length = H.length
  | [], [], _ => rfl
  | x :: xs, y :: ys, h => by simp [ownH_length h.2]
  | [], _ :: _, h => h.elim
  | _ :: _, [], h => h.elim

theorem ownH_shape {n : Nat} : ∀ {H H' : List ABlk}, ownH n H H' → ∀ i : Nat, (H'[i]?).map ABlk.shp = (H[i]?).map ABlk.shp
  | [], [], _, i => rfl
  | x :: xs, y :: ys, h, 0 => by
    rcases h.1 with rfl | ⟨e, cs, cs', rfl, rfl, hl⟩
    · rfl
    · simp [ABlk.shp, ownL_length hl]
  | x :: xs, y :: ys, h, i + 1 => by simpa using ownH_shape h.2 i
  | [], _ :: _, h, _ => h.elim
  | _ :: _, [], h, _ => h.elim

section
variable {P : Program} {fn : Func} {tab : List Node} {H0 : List ABlk} {R : AV → List ABlk → Prop} {K : List AItem} {fr : List AV} {H : List ABlk}

/-- What lies in boxes may be shown otherwise, so long as it says no more. -/
theorem WRel.swap {S : RS} {H H' : List ABlk} {w : World} (h : WRel S H w) (hs : ∀ i : Nat, (H'[i]?).map ABlk.shp = (H[i]?).map ABlk.shp)
    (hb : ∀ (i : Nat) (y : ABlk), H'[i]? = some y → ∃ x, H[i]? = some x ∧ (x = y ∨ ∃ e cs cs', x = .box e cs ∧ y = .box e cs' ∧ ∀ vs, rels S cs (shape H) vs → rels S cs' (shape H) vs)) : WRel S H' w := by
  have hsh : shape H' = shape H := funext fun i => hs i
  refine ⟨h.os, h.tape, h.output, h.size, h.prot, h.fro, fun i y hy => ?_, fun i j b b' B c c' hi hj li lj => ?_⟩
  · obtain ⟨x, hx, hxy⟩ := hb i y hy
    have := h.blk i x hx
    rw [hsh]
    rcases hxy with rfl | ⟨e, cs, cs', rfl, rfl, hr⟩
    · exact this
    · obtain ⟨B, c, arr, h1, h2, h3, h4, h5⟩ := this
      exact ⟨B, c, arr, h1, h2, hr _ h3, h4, h5⟩
  · obtain ⟨x, hx, hxy⟩ := hb i b hi
    obtain ⟨x', hx', hxy'⟩ := hb j b' hj
    refine h.inj i j x x' B c c' hx hx' ?_ ?_
    · rcases hxy with rfl | ⟨e, cs, cs', rfl, rfl, hr⟩
      · exact li
      · rfl
    · rcases hxy' with rfl | ⟨e, cs, cs', rfl, rfl, hr⟩
      · exact lj
      · rfl

theorem Run.own (e sz : Nat) (h0 : 0 < sz) {fr' : List AV} {H' : List ABlk} (hf : ownL H.length fr fr') (hH : ownH H.length H H') (h : Run P fn tab H0 R K fr' (H' ++ [.arr e sz []])) : Run P fn tab H0 R K fr H := by
  intro S0 S w a b k cs he hd hr hw hk
  obtain ⟨w1, e1⟩ := hw.arr_none e sz h0
  have hT : shape (H ++ [ABlk.arr e sz []]) H.length = some (.row 0 sz) := by rw [shape_last]; rfl
  have hρ : (S.put H.length none).ρ H.length = none := put_same _ _ _
  have hl := ownH_length hH
  have hs : ∀ i : Nat, ((H' ++ [ABlk.arr e sz []])[i]?).map ABlk.shp = ((H ++ [ABlk.arr e sz []])[i]?).map ABlk.shp := fun i => by
    rcases Nat.lt_or_ge i H.length with hi | hi
    · rw [List.getElem?_append_left (by omega), List.getElem?_append_left hi]
      exact ownH_shape hH i
    · rw [List.getElem?_append_right (by omega), List.getElem?_append_right hi, hl]
  have hsh : shape (H' ++ [ABlk.arr e sz []]) = shape (H ++ [ABlk.arr e sz []]) := funext hs
  refine h S0 (S.put H.length none) w a b k cs (by rw [hsh]; exact he.trans e1) hd (by rw [hsh]; exact ownL_rels hT hρ hf (rels_ext _ _ _ _ e1 hr)) (w1.swap hs fun i y hy => ?_) hk
  rcases get_append_one hy with ⟨hi, hy⟩ | ⟨hi, rfl⟩
  · obtain ⟨x, hx, hxy⟩ := ownH_get hH i y hy
    refine ⟨x, by rw [List.getElem?_append_left (by omega)]; exact hx, ?_⟩
    rcases hxy with rfl | ⟨e', cs, cs', rfl, rfl, hc⟩
    · exact .inl rfl
    · exact .inr ⟨e', cs, cs', rfl, rfl, fun vs hv => ownL_rels hT hρ hc hv⟩
  · exact ⟨_, by rw [hi, hl]; simp, .inl rfl⟩

/-- A LOOP, entered: by its states. -/
theorem Run.loopN {σ : Type} {n : Nat} (ht : getL tab n = some .loop) (m : σ → Nat) (f : σ → List AV) (h : σ → List ABlk) (I : σ → Prop)
    (round : ∀ s, I s → (∀ s', I s' → m s' < m s → Run P fn tab H0 R (.lp (n + 1) :: K) (f s') (h s')) → Run P fn tab H0 R (.c (n + 1) :: .lp (n + 1) :: K) (f s) (h s)) : ∀ s, I s → Run P fn tab H0 R (.c n :: K) (f s) (h s) := by
  rw [getL_eq] at ht
  have key : ∀ k s, m s = k → I s → Run P fn tab H0 R (.c (n + 1) :: .lp (n + 1) :: K) (f s) (h s) := by
    intro k
    induction k using Nat.strongRecOn with
    | _ k ih =>
      intro s hs hI
      exact round s hI fun s' hI' hlt => Run.lp (ih (m s') (hs ▸ hlt) s' rfl hI')
  exact fun s hI => Run.loop ht (key _ s rfl hI)

/-- A nil slice read as rows. -/
theorem rel_nils {S : RS} {T : Sh} {v : Value} (sz : Nat) (h : rel S .nils T v) : rel S (.inl sz []) T v := by
  simp only [rel] at h ⊢
  obtain ⟨a, rfl⟩ := h
  exact ⟨a, 0, rfl, Nat.le_refl _, Or.inl trivial⟩
end
end Go.Ab

namespace Go.Ab
set_option linter.unusedVariables false
set_option linter.unusedSimpArgs false
open Go
theorem nc (n : Nat) : @NatCast.natCast Int instNatCastInt n = (n : Int) := rfl
theorem nc2 (n : Nat) : Int.ofNat n = (n : Int) := rfl
section
variable {P : Program} {fn : Func} {tab : List Node} {H0 : List ABlk} {R : AV → List ABlk → Prop} {K : List AItem} {fr : List AV} {H : List ABlk}

/-- To a state of a loop: what is not carried is forgotten. -/
theorem Run.toS {fr' : List AV} {H' : List ABlk} (h : Run P fn tab H0 R K fr' H') (hf : subL fr fr') (hH : H = H') : Run P fn tab H0 R K fr H := by
  subst hH
  exact Run.sub h hf

theorem CallsA.beside {f : FuncId} {args : List AV} {Q : AV → Prop} {Hp H1 : List ABlk} (h : CallsA P f args Hp (fun r H => Q r ∧ H = H1)) (hl : H1.length = Hp.length) (ha : blws Hp.length args = true) (hH : blwH Hp.length Hp = true) (rest : List ABlk) :
    CallsA P f args (Hp ++ rest) (fun r H => Q r ∧ H = H1 ++ rest) :=
  (h.frame (fun r H' h => by rw [h.2, hl]) ha (blwH_get hH) rest).mono fun r H' ⟨Hp', ⟨h1, h2⟩, h3⟩ => ⟨h1, by rw [h3, h2]⟩
end
end Go.Ab

namespace Go.Ab
set_option linter.unusedVariables false
set_option linter.unusedSimpArgs false
open Go
mutual
theorem fzV_blw (id m : Nat) (b : ABlk) : ∀ (c : AV), blw id c = true → fzV id b c = c ∧ fzO id m c
  | .int .., _ => ⟨rfl, trivial⟩
  | .bool .., _ => ⟨rfl, trivial⟩
  | .sb .., _ => ⟨rfl, trivial⟩
  | .str .., _ => ⟨rfl, trivial⟩
  | .nilp, _ => ⟨rfl, trivial⟩
  | .nils, _ => ⟨rfl, trivial⟩
  | .nilf, _ => ⟨rfl, trivial⟩
  | .nili, _ => ⟨rfl, trivial⟩
  | .nilm, _ => ⟨rfl, trivial⟩
  | .junk, _ => ⟨rfl, trivial⟩
  | .iptr _, _ => ⟨rfl, trivial⟩
  | .inl .., _ => ⟨rfl, trivial⟩
  | .ptr id' .., h => by
    simp only [blw] at h
    have h1 : id' < id := Nat.blt_eq.mp h
    have h2 : Nat.beq id' id = false := by
      cases hb : Nat.beq id' id
      · rfl
      · have := Nat.eq_of_beq_eq_true hb; omega
    simp [fzV, fzO, h2]
  | .bptr id' .., h => by
    simp only [blw] at h
    have h1 : id' < id := Nat.blt_eq.mp h
    have h2 : Nat.beq id' id = false := by
      cases hb : Nat.beq id' id
      · rfl
      · have := Nat.eq_of_beq_eq_true hb; omega
    simp [fzV, fzO, h2]
  | .sl id' .., h => by
    simp only [blw] at h
    have h1 : id' < id := Nat.blt_eq.mp h
    have h2 : Nat.beq id' id = false := by
      cases hb : Nat.beq id' id
      · rfl
      · have := Nat.eq_of_beq_eq_true hb; omega
    simp [fzV, fzO, h2]
  | .map id', h => by
    simp only [blw] at h
    have h1 : id' < id := Nat.blt_eq.mp h
    have h2 : Nat.beq id' id = false := by
      cases hb : Nat.beq id' id
      · rfl
      · have := Nat.eq_of_beq_eq_true hb; omega
    simp [fzV, fzO, h2]
  | .fn f x y, h => by
    simp only [blw, Bool.and_eq_true] at h
    obtain ⟨h1, h2⟩ := fzVs_blw id m b x h.1
    obtain ⟨h3, h4⟩ := fzVs_blw id m b y h.2
    exact ⟨by simp only [fzV, h1, h3], h2, h4⟩
  | .iface _ x, h => by
    simp only [blw] at h
    obtain ⟨h1, h2⟩ := fzV_blw id m b x h
    exact ⟨by simp only [fzV, h1], h2⟩
  | .agg cs, h => by
    simp only [blw] at h
    obtain ⟨h1, h2⟩ := fzVs_blw id m b cs h
    exact ⟨by simp only [fzV, h1], h2⟩
  | .tup cs, h => by
    simp only [blw] at h
    obtain ⟨h1, h2⟩ := fzVs_blw id m b cs h
    exact ⟨by simp only [fzV, h1], h2⟩
theorem fzVs_blw (id m : Nat) (b : ABlk) : ∀ (cs : List AV), blws id cs = true → fzVs id b cs = cs ∧ fzOs id m cs
  | [], _ => ⟨rfl, trivial⟩
  | c :: cs, h => by
    simp only [blws, Bool.and_eq_true] at h
    obtain ⟨h1, h2⟩ := fzV_blw id m b c h.1
    obtain ⟨h3, h4⟩ := fzVs_blw id m b cs h.2
    exact ⟨by simp only [fzVs, h1, h3], h2, h4⟩
end

theorem fzR_blw (id m : Nat) (b : ABlk) : ∀ (rows : List (List AV)), blwH.blwR id rows = true → rows.map (fzVs id b) = rows ∧ ∀ r ∈ rows, fzOs id m r
  | [], _ => ⟨rfl, fun r hr => by cases hr⟩
  | r :: rs, h => by
    simp only [blwH.blwR, Bool.and_eq_true] at h
    obtain ⟨h1, h2⟩ := fzVs_blw id m b r h.1
    obtain ⟨h3, h4⟩ := fzR_blw id m b rs h.2
    refine ⟨by simp only [List.map_cons, h1, h3], fun r' hr => ?_⟩
    rcases List.mem_cons.1 hr with rfl | hr
    · exact h2
    · exact h4 r' hr

theorem fzH_blw (id m : Nat) (b : ABlk) : ∀ (H : List ABlk), blwH id H = true → H.map (fzB id b) = H ∧ ∀ x ∈ H, fzBO id m x
  | [], _ => ⟨rfl, fun x hx => by cases hx⟩
  | x :: H, h => by
    have key : (fzB id b x = x ∧ fzBO id m x) ∧ blwH id H = true := by
      cases x with
      | box e cs =>
        simp only [blwH, Bool.and_eq_true] at h
        obtain ⟨h1, h2⟩ := fzVs_blw id m b cs h.1
        exact ⟨⟨by simp only [fzB, h1], h2⟩, h.2⟩
      | arr e sz rows =>
        simp only [blwH, Bool.and_eq_true] at h
        obtain ⟨h1, h2⟩ := fzR_blw id m b rows h.1
        exact ⟨⟨by simp only [fzB, h1], h2⟩, h.2⟩
      | mpb s => exact ⟨⟨rfl, trivial⟩, h⟩
      | dead s => exact ⟨⟨rfl, trivial⟩, h⟩
    obtain ⟨h3, h4⟩ := fzH_blw id m b H key.2
    refine ⟨by simp only [List.map_cons, key.1.1, h3], fun y hy => ?_⟩
    rcases List.mem_cons.1 hy with rfl | hy
    · exact key.1.2
    · exact h4 y hy

section
variable {P : Program} {H : List ABlk}

/-- What is handed out in a new slice is read as rows. -/
theorem CallsA.out {f : FuncId} {args : List AV} {e sz : Nat} {L : List (List AV)} {H1 : List ABlk} {Q : Prop} (h : CallsA P f args H (fun r H' => (∃ m, r = .sl H1.length m 0 m ∧ m = L.length) ∧ H' = H1 ++ [.arr e sz L] ∧ Q)) (hl : H1.length = H.length) (hp : pursS L = true) (hb : blwH H1.length H1 = true) :
    CallsA P f args H (fun r H' => r = .inl sz L ∧ H' = H1 ∧ Q) := by
  obtain ⟨g1, g2⟩ := fzH_blw H1.length L.length (.arr e sz L) H1 hb
  have hf : CallsA P f args H (fun r H' => r = .inl sz L ∧ H' = H1 ++ [.dead .mp] ∧ Q) := by
    refine h.freeze fun r H' ⟨⟨m, hr, hm⟩, hH, hQ⟩ => ⟨H1.length, .arr e sz L, ?_⟩
    subst hr hH
    refine ⟨by simp, by omega, hp, ?_, fun x hx => ?_, ?_, ?_, hQ⟩
    · simp [fzO, rowsN, hm]
    · rcases List.mem_append.1 hx with hx | hx
      · exact g2 x hx
      · simp only [List.mem_singleton] at hx
        subst hx
        exact (fzR_blw H1.length L.length (.arr e sz L) L (blwR_pursS hp)).2
    · simp [fzV, hm]
    · simp only [fzH]
      rw [List.set_append_right _ _ (Nat.le_refl _)]
      simp [g1, fzB]
  refine hf.trim fun r H' ⟨hr, hH, hQ⟩ => ?_
  subst hr hH
  rw [← hl, List.take_left]
  exact ⟨rfl, hb, rfl, rfl, hQ⟩
end
end Go.Ab
