import Derived.Test.YtmmoffbompnihaaDoorLayE
import Derived.ChangeArms
import Derived.ChangeSlices
import Derived.WideShapes
import Derived.SizedLaws
namespace Go.Ab
open Go
set_option linter.unusedVariables false
set_option linter.unusedSimpArgs false
inductive BT (α : Type) where
 | e
 | lf (a : α)
 | nd (l r : BT α)
noncomputable def BT.get {α : Type} (t : BT α) : Nat → Option α :=
 BT.rec (motive := fun _ => Nat → Option α) (fun _ => none) (fun a _ => some a) (fun _ _ ihl ihr n => Nat.rec (motive := fun _ => Option α) (ihl (Nat.div n 2)) (fun _ _ => ihr (Nat.div n 2)) (Nat.mod n 2)) t
noncomputable def BT.set {α : Type} (v : α) (t : BT α) : Nat → BT α :=
 BT.rec (motive := fun _ => Nat → BT α) (fun _ => .e) (fun _ _ => .lf v) (fun l r ihl ihr n => Nat.rec (motive := fun _ => BT α) (.nd (ihl (Nat.div n 2)) r) (fun _ _ => .nd l (ihr (Nat.div n 2))) (Nat.mod n 2)) t
theorem BT.get_nd {α : Type} (l r : BT α) (n : Nat) : BT.get (.nd l r) n = if n % 2 = 0 then l.get (n / 2) else r.get (n / 2) := by
 show Nat.rec (motive := fun _ => Option α) (l.get (n / 2)) (fun _ _ => r.get (n / 2)) (n % 2) = _
 cases n % 2 with
 | zero => rfl
 | succ m => rfl
theorem BT.set_nd {α : Type} (v : α) (l r : BT α) (n : Nat) : BT.set v (.nd l r) n = if n % 2 = 0 then .nd (l.set v (n / 2)) r else .nd l (r.set v (n / 2)) := by
 show Nat.rec (motive := fun _ => BT α) (.nd (l.set v (n / 2)) r) (fun _ _ => .nd l (r.set v (n / 2))) (n % 2) = _
 cases n % 2 with
 | zero => rfl
 | succ m => rfl
def BT.full {α : Type} : Nat → BT α → Prop
 | 0, .lf _ => True
 | d + 1, .nd l r => full d l ∧ full d r
 | _, _ => False
theorem BT.full_set {α : Type} (v : α) : ∀ (d : Nat) (t : BT α) (i : Nat), full d t → full d (t.set v i)
 | 0, .lf _, _, _ => trivial
 | 0, .e, _, h => h.elim
 | 0, .nd _ _, _, h => h.elim
 | _ + 1, .e, _, h => h.elim
 | _ + 1, .lf _, _, h => h.elim
 | d + 1, .nd l r, i, h => by
  rw [set_nd]
  split
  ·exact ⟨full_set v d l _ h.1, h.2⟩
  ·exact ⟨h.1, full_set v d r _ h.2⟩
theorem BT.get_set {α : Type} (v : α) : ∀ (d : Nat) (t : BT α) (i j : Nat), full d t → i < 2 ^ d → j < 2 ^ d → (t.set v i).get j = if i = j then some v else t.get j
 | 0, .lf _, i, j, _, hi, hj => by
  have : i = j := by simp at hi hj; omega
  rw [if_pos this]; rfl
 | 0, .e, _, _, h, _, _ => h.elim
 | 0, .nd _ _, _, _, h, _, _ => h.elim
 | _ + 1, .e, _, _, h, _, _ => h.elim
 | _ + 1, .lf _, _, _, h, _, _ => h.elim
 | d + 1, .nd l r, i, j, h, hi, hj => by
  have e2 : 2 ^ (d + 1) = 2 * 2 ^ d := by rw [Nat.pow_succ]; omega
  have i1 : i / 2 < 2 ^ d := by omega
  have j1 : j / 2 < 2 ^ d := by omega
  have gl := get_set v d l (i / 2) (j / 2) h.1 i1 j1
  have gr := get_set v d r (i / 2) (j / 2) h.2 i1 j1
  rw [set_nd, get_nd]
  by_cases a : i % 2 = 0 <;> by_cases b : j % 2 = 0
  ·rw [if_pos a, get_nd, if_pos b, if_pos b, gl]
   by_cases c : i = j
   ·rw [if_pos c, if_pos (by omega)]
   ·rw [if_neg c, if_neg (by omega)]
  ·rw [if_pos a, get_nd, if_neg b, if_neg b, if_neg (by omega)]
  ·rw [if_neg a, get_nd, if_pos b, if_pos b, if_neg (by omega)]
  ·rw [if_neg a, get_nd, if_neg b, if_neg b, gr]
   by_cases c : i = j
   ·rw [if_pos c, if_pos (by omega)]
   ·rw [if_neg c, if_neg (by omega)]
noncomputable def BT.mk {α : Type} (a : α) (d : Nat) : BT α := Nat.rec (motive := fun _ => BT α) (.lf a) (fun _ t => .nd t t) d
theorem BT.mk_full {α : Type} (a : α) : ∀ d, full d (mk a d)
 | 0 => trivial
 | d + 1 => ⟨mk_full a d, mk_full a d⟩
theorem BT.mk_get {α : Type} (a : α) : ∀ d n, (mk a d).get n = some a
 | 0, _ => rfl
 | d + 1, n => by
  show (BT.nd (mk a d) (mk a d)).get n = _
  rw [get_nd, mk_get a d]; simp
def evens {α : Type} : List α → List α
 | a :: _ :: l => a :: evens l
 | [a] => [a]
 | [] => []
def odds {α : Type} : List α → List α
 | _ :: b :: l => b :: odds l
 | _ => []
theorem evens_get {α : Type} : ∀ (l : List α) (k : Nat), (evens l)[k]? = l[2 * k]?
 | [], k => by simp [evens]
 | [a], 0 => by simp [evens]
 | [a], k + 1 => by simp only [evens]; rw [show 2 * (k + 1) = 2 * k + 1 + 1 by omega]; simp
 | a :: b :: l, 0 => by simp [evens]
 | a :: b :: l, k + 1 => by
  simp only [evens, List.getElem?_cons_succ]
  rw [evens_get l k, show 2 * (k + 1) = 2 * k + 1 + 1 by omega, List.getElem?_cons_succ, List.getElem?_cons_succ]
theorem odds_get {α : Type} : ∀ (l : List α) (k : Nat), (odds l)[k]? = l[2 * k + 1]?
 | [], k => by simp [odds]
 | [a], k => by simp [odds]
 | a :: b :: l, 0 => by simp [odds]
 | a :: b :: l, k + 1 => by
  simp only [odds, List.getElem?_cons_succ]
  rw [odds_get l k, show 2 * (k + 1) = 2 * k + 1 + 1 by omega, List.getElem?_cons_succ]
def BT.ofL {α : Type} : Nat → List α → BT α
 | 0, a :: _ => .lf a
 | 0, [] => .e
 | d + 1, l => .nd (ofL d (evens l)) (ofL d (odds l))
theorem BT.ofL_get {α : Type} : ∀ (d : Nat) (l : List α) (n : Nat), n < 2 ^ d → (ofL d l).get n = l[n]?
 | 0, [], n, h => by simp at h; subst h; rfl
 | 0, a :: l, n, h => by simp at h; subst h; rfl
 | d + 1, l, n, h => by
  have e2 : 2 ^ (d + 1) = 2 * 2 ^ d := by rw [Nat.pow_succ]; omega
  rw [ofL, get_nd, ofL_get d _ _ (by omega), ofL_get d _ _ (by omega), evens_get, odds_get]
  split
  ·rw [show 2 * (n / 2) = n by omega]
  ·rw [show 2 * (n / 2) + 1 = n by omega]
def dep (n : Nat) : Nat := Nat.log2 n + 1
theorem dep_lt (n : Nat) : n < 2 ^ dep n := Nat.lt_log2_self
noncomputable def evT (nt : Nat) (t : BT AV) (n : Nat) : AV :=
 match Nat.ble (n + 1) nt with
 | true => match t.get n with
  | some v => v
  | none => .junk
 | false => .junk
noncomputable def toL (nt : Nat) (t : BT AV) : List AV := (List.range nt).map (evT nt t)
theorem toL_get (nt : Nat) (t : BT AV) (n : Nat) : (toL nt t)[n]? = if n < nt then some (evT nt t n) else none := by
 unfold toL
 rw [List.getElem?_map]
 by_cases h : n < nt
 ·rw [if_pos h, List.getElem?_range h]; rfl
 ·rw [if_neg h, List.getElem?_eq_none (by simpa using h)]; rfl
theorem toL_ev (nt : Nat) (t : BT AV) (n : Nat) : ev (toL nt t) (.t n) = evT nt t n := by
 simp only [ev, getL_eq, toL_get]
 split
 ·rfl
 ·rename_i h
  unfold evT
  rw [show Nat.ble (n + 1) nt = false by rw [Bool.eq_false_iff]; intro hb; exact h (Nat.ble_eq.mp hb)]
  rfl
noncomputable def putT (nt : Nat) (t : BT AV) (d : Option Nat) (v : AV) : BT AV :=
 match d with
 | some d => match Nat.ble (d + 1) nt with
  | true => t.set v d
  | false => t
 | none => t
theorem putT_full {nt : Nat} {t : BT AV} {d : Option Nat} {v : AV} {D : Nat} (h : t.full D) : (putT nt t d v).full D := by
 unfold putT
 split
 ·split
  ·exact BT.full_set _ _ _ _ h
  ·exact h
 ·exact h
theorem toL_put {nt D : Nat} {t : BT AV} (d : Option Nat) (v : AV) (hf : t.full D) (hD : nt ≤ 2 ^ D) : toL nt (putT nt t d v) = putL (toL nt t) d v := by
 cases d with
 | none => rfl
 | some d =>
  simp only [putL, setL_eq]
  apply List.ext_getElem?
  intro i
  rw [toL_get, List.getElem?_set, toL_get]
  have hlen : (toL nt t).length = nt := by simp [toL]
  unfold putT
  simp only
  by_cases hd : d < nt
  ·rw [show Nat.ble (d + 1) nt = true from Nat.ble_eq.mpr hd]
   simp only
   by_cases hi : i < nt
   ·rw [if_pos hi]
    have hg := BT.get_set v D t d i hf (by omega) (by omega)
    unfold evT
    rw [show Nat.ble (i + 1) nt = true from Nat.ble_eq.mpr hi, hg]
    by_cases e : d = i
    ·subst e
     rw [if_pos rfl, if_pos rfl, if_pos (by rw [hlen]; exact hi)]
    ·simp [e, hi]
   ·rw [if_neg hi]
    have : d ≠ i := by omega
    simp [this, hi]
  ·rw [show Nat.ble (d + 1) nt = false by rw [Bool.eq_false_iff]; intro hb; exact hd (Nat.ble_eq.mp hb)]
   by_cases e : d = i
   ·subst e
    simp [hd, hlen]
   ·simp [e]
noncomputable def argsT (nt : Nat) : Nat → List AV → BT AV → BT AV
 | _, [], t => t
 | i, a :: as, t => argsT nt (i + 1) as (putT nt t (some i) a)
theorem argsT_full {nt D : Nat} : ∀ {i : Nat} {as : List AV} {t : BT AV}, t.full D → (argsT nt i as t).full D
 | _, [], _, h => h
 | i, a :: as, t, h => argsT_full (i := i + 1) (as := as) (putT_full h)
theorem argsT_get {nt D : Nat} (hD : nt ≤ 2 ^ D) : ∀ (as : List AV) (i : Nat) (t : BT AV), t.full D → ∀ j : Nat, (toL nt (argsT nt i as t))[j]? = if i ≤ j ∧ j < i + as.length ∧ j < nt then as[j - i]? else (toL nt t)[j]?
 | [], i, t, h, j => by rw [argsT, if_neg (by simp; omega)]
 | a :: as, i, t, h, j => by
  rw [argsT, argsT_get hD as (i + 1) _ (putT_full h) j, toL_put (some i) a h hD]
  simp only [putL, setL_eq, List.getElem?_set]
  have hlen : (toL nt t).length = nt := by simp [toL]
  by_cases e : i = j
  ·subst e
   rw [if_neg (by omega)]
   simp only [if_true, hlen]
   by_cases hn : i < nt
   ·rw [if_pos hn, if_pos ⟨Nat.le_refl _, by simp, hn⟩]; simp
   ·rw [if_neg hn, if_neg (by omega), toL_get, if_neg hn]
  ·by_cases c : i + 1 ≤ j ∧ j < i + 1 + as.length ∧ j < nt
   ·rw [if_pos c, if_pos ⟨by omega, by simp; omega, c.2.2⟩, show j - i = (j - (i + 1)) + 1 by omega, List.getElem?_cons_succ]
   ·rw [if_neg c, if_neg e, if_neg (by simp; omega)]
noncomputable def startT (nt : Nat) (as : List AV) : BT AV := argsT nt 0 as (BT.mk .junk (dep nt))
theorem startT_full (nt : Nat) (as : List AV) : (startT nt as).full (dep nt) := argsT_full (BT.mk_full _ _)
theorem startT_toL {nt : Nat} {as : List AV} (h : as.length ≤ nt) : toL nt (startT nt as) = as ++ List.replicate (nt - as.length) .junk := by
 apply List.ext_getElem?
 intro j
 unfold startT
 rw [argsT_get (Nat.le_of_lt (dep_lt nt)) _ _ _ (BT.mk_full _ _), toL_get]
 by_cases hj : j < as.length
 ·rw [if_pos ⟨Nat.zero_le _, by omega, by omega⟩, List.getElem?_append_left hj]; simp
 ·rw [if_neg (by omega), List.getElem?_append_right (by omega), List.getElem?_replicate]
  by_cases hn : j < nt
  ·rw [if_pos hn, if_pos (by omega)]
   unfold evT
   rw [show Nat.ble (j + 1) nt = true from Nat.ble_eq.mpr hn, BT.mk_get]
  ·rw [if_neg hn, if_neg (by omega)]
noncomputable def sbX (nt : Nat) (t : BT AV) : AX → AX
 | .t n => .c (evT nt t n)
 | .c v => .c v
noncomputable def sbXs (nt : Nat) (t : BT AV) : List AX → List AX
 | [] => []
 | x :: xs => sbX nt t x :: sbXs nt t xs
noncomputable def sbO (nt : Nat) (t : BT AV) : Option AX → Option AX
 | none => none
 | some x => some (sbX nt t x)
noncomputable def sbB (nt : Nat) (t : BT AV) : List (Nat × Nat × AX) → List (Nat × Nat × AX)
 | [] => []
 | (a, b, x) :: ps => (a, b, sbX nt t x) :: sbB nt t ps
noncomputable def sbL (nt : Nat) (t : BT AV) : List (Nat × AX) → List (Nat × AX)
 | [] => []
 | (a, x) :: ps => (a, sbX nt t x) :: sbL nt t ps
noncomputable def sbA (nt : Nat) (t : BT AV) : AO → AO
 | .mv x => .mv (sbX nt t x)
 | .pick c a b => .pick (sbX nt t c) (sbX nt t a) (sbX nt t b)
 | .alloc e z => .alloc e z
 | .box e x => .box e (sbX nt t x)
 | .build z ps => .build z (sbB nt t ps)
 | .lit e sz n z ps => .lit e sz n z (sbL nt t ps)
 | .ld n x => .ld n (sbX nt t x)
 | .st n a v => .st n (sbX nt t a) (sbX nt t v)
 | .nilc mt x => .nilc mt (sbX nt t x)
 | .bin op k x y => .bin op k (sbX nt t x) (sbX nt t y)
 | .un op x => .un op (sbX nt t x)
 | .cvt k x => .cvt k (sbX nt t x)
 | .mki ty x => .mki ty (sbX nt t x)
 | .mkf f a b => .mkf f (sbXs nt t a) (sbXs nt t b)
 | .mks e sz bytes z l c => .mks e sz bytes z (sbX nt t l) (sbX nt t c)
 | .slc k x lo hi => .slc k (sbX nt t x) (sbO nt t lo) (sbO nt t hi)
 | .slc3 k x lo hi mx => .slc3 k (sbX nt t x) (sbX nt t lo) (sbX nt t hi) (sbX nt t mx)
 | .fad off x => .fad off (sbX nt t x)
 | .fld off n x => .fld off n (sbX nt t x)
 | .idx e sz x i => .idx e sz (sbX nt t x) (sbX nt t i)
 | .idxs x i => .idxs (sbX nt t x) (sbX nt t i)
 | .ext x i => .ext (sbX nt t x) i
 | .asrt ty z ag ok x => .asrt ty z ag ok (sbX nt t x)
 | .call f as => .call f (sbXs nt t as)
 | .callv x as => .callv (sbX nt t x) (sbXs nt t as)
 | .inv tab x as => .inv tab (sbX nt t x) (sbXs nt t as)
 | .len s x => .len s (sbX nt t x)
 | .app e sz bytes z x y => .app e sz bytes z (sbX nt t x) (sbX nt t y)
 | .mnmx mx x y => .mnmx mx (sbX nt t x) (sbX nt t y)
 | .addc x y z => .addc (sbX nt t x) (sbX nt t y) (sbX nt t z)
 | .mx4 x y z u => .mx4 (sbX nt t x) (sbX nt t y) (sbX nt t z) (sbX nt t u)
 | .mkm => .mkm
 | .mget z x i => .mget z (sbX nt t x) (sbX nt t i)
 | .mset x i v => .mset (sbX nt t x) (sbX nt t i) (sbX nt t v)
 | .clr sz z x => .clr sz z (sbX nt t x)
 | .nilS neg x => .nilS neg (sbX nt t x)
 | .nilI neg x => .nilI neg (sbX nt t x)
 | .b2s x => .b2s (sbX nt t x)
 | .mka e sz n z => .mka e sz n z
 | .idxp e sz n x i => .idxp e sz n (sbX nt t x) (sbX nt t i)
 | .slp e sz n x => .slp e sz n (sbX nt t x)
 | .apps e b x y => .apps e b (sbX nt t x) (sbX nt t y)
 | .bad => .bad
theorem sbX_ev (nt : Nat) (t : BT AV) (x : AX) : ev [] (sbX nt t x) = ev (toL nt t) x := by
 cases x with
 | t n => rw [toL_ev]; rfl
 | c v => rfl
theorem sbXs_ev (nt : Nat) (t : BT AV) : ∀ xs : List AX, evs [] (sbXs nt t xs) = evs (toL nt t) xs
 | [] => rfl
 | x :: xs => by simp only [sbXs, evs, sbX_ev, sbXs_ev nt t xs]
theorem sbO_ev (nt : Nat) (t : BT AV) (x : Option AX) : bndA [] (sbO nt t x) = bndA (toL nt t) x := by
 cases x with
 | none => rfl
 | some x => simp only [sbO, bndA, sbX_ev]
theorem sbB_ev (nt : Nat) (t : BT AV) : ∀ (ps : List (Nat × Nat × AX)) (z : List AV), buildA [] z (sbB nt t ps) = buildA (toL nt t) z ps
 | [], z => by simp only [sbB, buildA]
 | (o, n, x) :: ps, z => by
  simp only [sbB, buildA, sbX_ev]
  split
  ·cases splL z o (cellsOf (ev (toL nt t) x)) with
   | none => rfl
   | some z' => exact sbB_ev nt t ps z'
  ·rfl
theorem sbL_ev (nt : Nat) (t : BT AV) (sz : Nat) : ∀ (ps : List (Nat × AX)) (rows : List (List AV)), litA [] sz rows (sbL nt t ps) = litA (toL nt t) sz rows ps
 | [], rows => by simp only [sbL, litA]
 | (i, x) :: ps, rows => by
  simp only [sbL, litA, sbX_ev]
  split
  ·exact sbL_ev nt t sz ps _
  ·rfl
theorem sbA_exec {A : Ar} {σr : RowF} (nt : Nat) (t : BT AV) (H : List ABlk) (o : AO) : exec1 A σr [] H (sbA nt t o) = exec1 A σr (toL nt t) H o := by
 cases o with
 | pick c a b =>
  have e : ∀ s : Bool, ev [] (if s = true then sbX nt t a else sbX nt t b) = ev (toL nt t) (if s = true then a else b) := fun s => by cases s <;> simp [sbX_ev]
  simp only [sbA, exec1, sbX_ev, e]
 | _ => simp only [sbA, exec1, sbX_ev, sbXs_ev, sbO_ev, sbB_ev, sbL_ev]
noncomputable def gstT (nt : Nat) (t : BT AV) : Option (Option Nat × Bool) → GS
 | none => .yes
 | some (none, _) => .no
 | some (some n, want) => match evT nt t n, want with
  | .bool true, true => .yes
  | .bool false, false => .yes
  | .bool true, false => .no
  | .bool false, true => .no
  | .sb b, want => .sym n b want
  | .tup [], _ => .no
  | _, _ => .bad
theorem gstT_eq (nt : Nat) (t : BT AV) (g : Option (Option Nat × Bool)) : gstT nt t g = gst (toL nt t) g := by
 cases g with
 | none => rfl
 | some g =>
  obtain ⟨n, w⟩ := g
  cases n with
  | none => rfl
  | some n =>
   simp only [gstT, gst, toL_ev]
   rfl
def livL : List ABlk → List Bool
 | [] => []
 | .dead _ :: H => false :: livL H
 | _ :: H => true :: livL H
theorem livL_length : ∀ (H : List ABlk), (livL H).length = H.length
 | [] => rfl
 | .dead _ :: H => by simp only [livL, List.length_cons, livL_length H]
 | .box _ _ :: H => by simp only [livL, List.length_cons, livL_length H]
 | .arr _ _ _ :: H => by simp only [livL, List.length_cons, livL_length H]
 | .mpb _ :: H => by simp only [livL, List.length_cons, livL_length H]
section
variable (call : FuncId → List AV → List ABlk → Option (AV × List ABlk)) (nt : Nat)
noncomputable def opT (t : BT AV) (H : List ABlk) (o : AO) : Option (AV × List ABlk) :=
 match outC (exec1 arS sgX [] H (sbA nt t o)) with
 | .ok v H' => some (uns v, H')
 | .call f args => match call f args H with
  | some (r, H') => some (uns r, H')
  | none => none
 | .bad => none
theorem opT_eq (t : BT AV) (H : List ABlk) (o : AO) : opT call nt t H o = opC call (toL nt t) H o := by
 unfold opT opC
 rw [sbA_exec]
 rfl
noncomputable def opsK : List AOp → BT AV → List ABlk → Option (BT AV × List ABlk)
 | [], t, H => some (t, H)
 | o :: os, t, H => match gstT nt t o.guard with
  | .no => opsK os (putT nt t o.dst (.tup [])) H
  | .yes => match opT call nt t H o.op with
   | some (v, H') => opsK os (putT nt t o.dst v) H'
   | none => none
  | _ => none
noncomputable def runK (bs : List Bool) : List ABlk → List (AOp × Bool × Bool) → BT AV → List ABlk → Option (BT AV × List ABlk)
 | _, [], t, H => some (t, H)
 | HB, (o, true, z) :: p, t, H => match gstT nt t o.guard with
  | .no => runK bs HB p (putT nt t o.dst (.tup [])) H
  | .yes => match outC (exec1 arS sgX [] HB (sbA nt t o.op)) with
   | .ok v _ => runK bs HB p (putT nt t o.dst (uns v)) H
   | _ => match z, opT call nt t H o.op with
    | true, some (v, H') => match keepB bs H H' with
     | true => runK bs HB p (putT nt t o.dst v) H'
     | false => none
    | _, _ => none
  | _ => none
 | HB, (o, false, z) :: p, t, H => match gstT nt t o.guard with
  | .no => runK bs HB p (putT nt t o.dst (.tup [])) H
  | .yes => match opT call nt t H o.op with
   | some (v, H') => match keepZ z bs H H' with
    | true => runK bs (match z with | true => hideL bs H' | false => HB) p (putT nt t o.dst v) H'
    | false => none
   | none => none
  | _ => none
noncomputable def drawK (l : List AOp) (t : BT AV) (H : List ABlk) : Option (BT AV × List ABlk) :=
 match planS l (lenL l) (repL (lenL l) false) with
 | some p => match runK call nt [] [] p t H with
  | some r => some r
  | none => runK call nt (livL H) (hideL (livL H) H) p t H
 | none => none
theorem runK_eq {D : Nat} (hD : nt ≤ 2 ^ D) {bs : List Bool} : ∀ (HB : List ABlk) (p : List (AOp × Bool × Bool)) (t : BT AV) (H : List ABlk) (t' : BT AV) (H' : List ABlk), t.full D → runK call nt bs HB p t H = some (t', H') → t'.full D ∧ runS call bs HB p (toL nt t) H = some (toL nt t', H')
 | HB, [], t, H, t', H', hf, h => by
  simp only [runK, Option.some.injEq, Prod.mk.injEq] at h
  obtain ⟨rfl, rfl⟩ := h
  exact ⟨hf, rfl⟩
 | HB, (o, true, z) :: p, t, H, t', H', hf, h => by
  simp only [runK, gstT_eq, sbA_exec, opT_eq] at h
  simp only [runS]
  split at h
  ·rename_i hg
   obtain ⟨h1, h2⟩ := runK_eq hD _ p _ H t' H' (putT_full hf) h
   rw [hg]
   rw [toL_put _ _ hf hD] at h2
   exact ⟨h1, h2⟩
  ·rename_i hg
   rw [hg]
   simp only
   split at h
   ·rename_i v _ hx
    obtain ⟨h1, h2⟩ := runK_eq hD _ p _ H t' H' (putT_full hf) h
    rw [toL_put _ _ hf hD] at h2
    rw [hx]
    exact ⟨h1, h2⟩
   ·rename_i hne
    split at h
    ·rename_i v H1 hx
     split at h
     ·rename_i hk
      obtain ⟨h1, h2⟩ := runK_eq hD _ p _ H1 t' H' (putT_full hf) h
      rw [toL_put _ _ hf hD] at h2
      refine ⟨h1, ?_⟩
      simp only [hx, hk]
      cases ho : outC (exec1 arS sgX (toL nt t) HB o.op) with
      | ok v H0 => exact absurd ho (hne v H0)
      | call f a => exact h2
      | bad => exact h2
     ·cases h
    ·cases h
  ·cases h
 | HB, (o, false, z) :: p, t, H, t', H', hf, h => by
  simp only [runK, gstT_eq, opT_eq] at h
  simp only [runS]
  split at h
  ·rename_i hg
   obtain ⟨h1, h2⟩ := runK_eq hD _ p _ H t' H' (putT_full hf) h
   rw [hg]
   rw [toL_put _ _ hf hD] at h2
   exact ⟨h1, h2⟩
  ·rename_i hg
   rw [hg]
   simp only
   split at h
   ·rename_i v H1 hx
    rw [hx]
    simp only
    split at h
    ·rename_i hk
     obtain ⟨h1, h2⟩ := runK_eq hD _ p _ H1 t' H' (putT_full hf) h
     rw [toL_put _ _ hf hD] at h2
     rw [hk]
     exact ⟨h1, h2⟩
    ·cases h
   ·cases h
  ·cases h
theorem drawK_eq {D : Nat} (hD : nt ≤ 2 ^ D) {n0 : Nat} {l : List AOp} {t : BT AV} {H : List ABlk} {t' : BT AV} {H' : List ABlk} (hf : t.full D) (h : drawK call nt l t H = some (t', H')) : t'.full D ∧ ∃ p, planS l (lenL l) (repL (lenL l) false) = some p ∧ (runS call [] [] p (toL nt t) H = some (toL nt t', H') ∨ runS call (livL H) (hideL (livL H) H) p (toL nt t) H = some (toL nt t', H')) := by
 unfold drawK at h
 split at h
 ·rename_i p hp
  split at h
  ·rename_i r hr
   simp only [Option.some.injEq] at h
   subst h
   obtain ⟨h1, h2⟩ := runK_eq call nt hD _ _ _ _ _ _ hf hr
   exact ⟨h1, p, hp, .inl h2⟩
  ·obtain ⟨h1, h2⟩ := runK_eq call nt hD _ _ _ _ _ _ hf h
   exact ⟨h1, p, hp, .inr h2⟩
 ·cases h
end
def tabT (F : AFn) : BT Node := BT.ofL (dep (lenL F.tab)) F.tab
noncomputable def nodeT (F : AFn) (m : Nat) : Option Node :=
 match Nat.ble (m + 1) (lenL F.tab) with
 | true => (tabT F).get m
 | false => none
theorem nodeT_eq {F : AFn} {m : Nat} {x : Node} (h : nodeT F m = some x) : F.tab[m]? = some x := by
 unfold nodeT at h
 split at h
 ·rename_i hb
  have hb := Nat.ble_eq.mp hb
  unfold tabT at h
  rw [BT.ofL_get _ _ _ (Nat.lt_trans hb (dep_lt _))] at h
  exact h
 ·cases h
noncomputable def resT (nt : Nat) (t : BT AV) (H : List ABlk) (res : List RV) : Option (AV × List ABlk) := resC (toL nt t) H res
structure Kn where
 f : FuncId
 args : List AV
 r : AV
 H' : List ABlk
def KnOk (P : Program) (k : Kn) : Prop := CallsA P k.f k.args [] (fun r0 H0 => r0 = k.r ∧ H0 = k.H') ∧ pureA k.H'
def lookK (f : FuncId) (args : List AV) (H : List ABlk) : List Kn → Option (AV × List ABlk)
 | [] => none
 | k :: l => match Nat.beq k.f f && (eqAs k.args args && purs k.args) with
  | true => some (ren (outN [] (lenL H)) k.r, appL H (newHs (outN [] (lenL H)) [] k.H'))
  | false => lookK f args H l
theorem imps_pure {τ : Nat → Option Nat} : ∀ {cs : List AV}, purs cs = true → Imps τ cs cs
 | [], _ => trivial
 | c :: cs, h => by
  simp only [purs, Bool.and_eq_true] at h
  exact ⟨Imp.pure h.1, imps_pure h.2⟩
theorem lookK_sound {P : Program} {f : FuncId} {args : List AV} {H : List ABlk} {r : AV} {H' : List ABlk} : ∀ {l : List Kn}, (∀ k ∈ l, KnOk P k) → lookK f args H l = some (r, H') → CallsA P f args H fun r0 H0 => r0 = r ∧ H0 = H'
 | [], _, h => by cases h
 | k :: l, hk, h => by
  simp only [lookK] at h
  split at h
  ·rename_i hb
   simp only [Bool.and_eq_true] at hb
   have e1 := Nat.eq_of_beq_eq_true hb.1
   have e2 := eqAs_eq _ _ hb.2.1
   simp only [Option.some.injEq, Prod.mk.injEq] at h
   obtain ⟨rfl, rfl⟩ := h
   subst e1 e2
   obtain ⟨h1, h2⟩ := hk k (by simp)
   refine (CallsA.ren (H := H) [] h1 List.nodup_nil rfl (fun j id hj => by simp at hj) (imps_pure hb.2.2) (fun r H' ⟨_, e⟩ => ⟨by simp, by rw [e]; exact h2⟩)).mono ?_
   rintro r0 H0 ⟨r1, H1, ⟨rfl, rfl⟩, e3, e4⟩
   rw [lenL_eq, appL_eq]
   refine ⟨e3, ?_⟩
   rw [e4]
   rfl
  ·exact lookK_sound (fun k' h' => hk k' (by simp [h'])) h
def frzA (x : AV) (H : List ABlk) : AV × List ABlk := match x with
 | .sl id t 0 n => match getL H id with
  | some (.arr e sz rows) => match Nat.beq t (lenL rows) && (Nat.ble n (lenL rows) && pursS rows) with
   | true => (.inl sz ((takeL n rows).getD []), setL H id (.dead (.row (lenL rows) sz)))
   | false => (x, H)
  | _ => (x, H)
 | _ => (x, H)
def frzL : List AV → List ABlk → List AV × List ABlk
 | [], H => ([], H)
 | x :: xs, H => ((frzA x H).1 :: (frzL xs (frzA x H).2).1, (frzL xs (frzA x H).2).2)
theorem takeL_some {α : Type} : ∀ (k : Nat) (l : List α), k ≤ l.length → takeL k l = some (l.take k)
 | 0, _, _ => rfl
 | k + 1, [], h => by simp at h
 | k + 1, a :: l, h => by simp only [takeL, takeL_some k l (by simpa using h), Option.map_some, List.take_succ_cons]
theorem WRel.kill {S : RS} {H : List ABlk} {w : World} (h : WRel S H w) {id : Nat} {e : TypeId} {sz : Nat} {rows : List (List AV)} (hb : H[id]? = some (.arr e sz rows)) : WRel S (H.set id (.dead (.row rows.length sz))) w ∧ Ext S (shape H) S (shape (H.set id (.dead (.row rows.length sz)))) := by
 have hsh : shape (H.set id (.dead (.row rows.length sz))) = shape H := by
  funext j
  rw [shape_set (get_lt hb)]
  split
  ·rename_i hj; rw [hj, shape_get hb]; rfl
  ·rfl
 have hext : Ext S (shape H) S (shape (H.set id (.dead (.row rows.length sz)))) := by rw [hsh]; exact Ext.refl _ _
 refine ⟨⟨h.os, h.tape, h.output, h.size, h.prot, h.fro, h.gl, fun j b hj => ?_, fun i j b b' B1 c1 c2 hi hj li lj hBi hBj => ?_⟩, hext⟩
 ·rcases get_set hj with ⟨h1, h2⟩ | ⟨h1, rfl⟩
  ·exact (h.blk j b h2).keep hext (fun _ => rfl) (fun B1 c1 hl hB1 hlt ho => ⟨rfl, ho⟩)
  ·trivial
 ·rcases get_set hi with ⟨h1, h2⟩ | ⟨_, rfl⟩
  ·rcases get_set hj with ⟨h3, h4⟩ | ⟨_, rfl⟩
   ·exact h.inj i j b b' B1 c1 c2 h2 h4 li lj hBi hBj
   ·cases lj
  ·cases li
theorem frzA_ok {S : RS} {H : List ABlk} {w : World} {x : AV} {v : Value} (h : WRel S H w) (hr : rel S x (shape H) v) : ∃ S1, WRel S1 (frzA x H).2 w ∧ Ext S (shape H) S1 (shape (frzA x H).2) ∧ rel S1 (frzA x H).1 (shape (frzA x H).2) v := by
 have same : ∃ S1, WRel S1 H w ∧ Ext S (shape H) S1 (shape H) ∧ rel S1 x (shape H) v := ⟨S, h, Ext.refl _ _, hr⟩
 unfold frzA
 split
 ·rename_i id t n
  split
  ·rename_i e sz rows hg
   rw [getL_eq] at hg
   split
   ·rename_i hc
    simp only [Bool.and_eq_true] at hc
    obtain ⟨c1, c2, c3⟩ := hc
    have ht : t = rows.length := by rw [← lenL_eq]; exact Nat.eq_of_beq_eq_true c1
    have hn : n ≤ rows.length := by rw [← lenL_eq]; exact Nat.le_of_ble_eq_true c2
    obtain ⟨v1, v2⟩ := sl_valid hr hg ht
    obtain ⟨_, hblk⟩ := h.blk id _ hg
    rw [takeL_some n rows hn, setL_eq, lenL_eq, Option.getD_some]
    cases hρ : S.ρ id with
    | none =>
     rw [hρ] at v2 hblk
     obtain ⟨hn0, a, rfl⟩ := v2
     obtain ⟨w1, w2⟩ := h.kill hg
     refine ⟨S, w1, w2, ?_⟩
     have hrows : rows = [] := hblk
     subst hrows
     simp only [rel]
     exact ⟨a, 0, by simp, by simp, .inl (by simp)⟩
    | some p =>
     obtain ⟨B, c⟩ := p
     rw [hρ] at v2 hblk
     obtain ⟨a, rfl, q2⟩ := v2
     obtain ⟨arr, m1, m2, m3, m4, m5⟩ := hblk
     obtain ⟨w1, w2⟩ := h.froz hg hρ
     refine ⟨_, w1, w2, ?_⟩
     simp only [rel]
     have hl : (rows.take n).length = n := by simp; omega
     refine ⟨a, c - 0, by rw [hl], by rw [hl]; omega, ?_⟩
     rcases Nat.eq_zero_or_pos n with hn0 | hn0
     ·subst hn0; exact .inl (by simp)
     ·refine .inr ⟨B, 0, ?_, fzs_of_get fun i r hi => ?_⟩
      ·rw [q2 (by omega)]; simp
      rw [List.getElem?_take] at hi
      split at hi
      ·obtain ⟨r1, r2⟩ := m4 i r hi
       refine ⟨r1, fz_of_get fun j cc hj => ?_⟩
       obtain ⟨u, u1, u2, u3⟩ := r2 j cc hj
       refine ⟨u, ?_, ?_, u3⟩
       ·simp only [RS.froz, if_true]
        rw [Nat.zero_add]
        simp only [World.cell?, m1]
        exact u1
       ·exact rel_ext cc noSh noSh u w2.noSh (pur_rel cc u (purs_get (pursS_get c3 hi) hj) u2)
      ·cases hi
   ·exact same
  ·exact same
 ·exact same
theorem frzL_ok {w : World} : ∀ {xs : List AV} {S : RS} {H : List ABlk} {vs : List Value}, WRel S H w → rels S xs (shape H) vs → ∃ S1, WRel S1 (frzL xs H).2 w ∧ Ext S (shape H) S1 (shape (frzL xs H).2) ∧ rels S1 (frzL xs H).1 (shape (frzL xs H).2) vs
 | [], S, H, vs, h, hr => ⟨S, h, Ext.refl _ _, hr⟩
 | x :: xs, S, H, vs, h, hr => by
  simp only [rels] at hr
  obtain ⟨v, vs', rfl, h1, h2⟩ := hr
  obtain ⟨S1, a1, a2, a3⟩ := frzA_ok h h1
  obtain ⟨S2, b1, b2, b3⟩ := frzL_ok a1 (rels_ext _ _ _ _ a2 h2)
  exact ⟨S2, b1, a2.trans b2, by simp only [frzL, rels]; exact ⟨v, vs', rfl, rel_ext _ _ _ _ b2 a3, b3⟩⟩
theorem CallsA.frz {P : Program} {f : FuncId} {args : List AV} {H : List ABlk} {R : AV → List ABlk → Prop} (h : CallsA P f (frzL args H).1 (frzL args H).2 R) : CallsA P f args H R := by
 refine ⟨h.1, fun S w vs hw hr => ?_⟩
 obtain ⟨S1, a1, a2, a3⟩ := frzL_ok hw hr
 exact (h.2 S1 w vs a1 a3).mono fun e w' ⟨u, he, S2, v, H2, b1, b2, b3, b4⟩ => ⟨u, he, S2, v, H2, a2.trans b1, b2, b3, b4⟩
def hasK (f : FuncId) : List Kn → Bool
 | [] => false
 | k :: l => Nat.beq k.f f || hasK f l
def lookZ (f : FuncId) (args : List AV) (H : List ABlk) (kn : List Kn) : Option (AV × List ABlk) :=
 match lookK f args H kn with
 | some r => some r
 | none => match hasK f kn with
  | true => lookK f (frzL args H).1 (frzL args H).2 kn
  | false => none
theorem lookZ_sound {P : Program} {f : FuncId} {args : List AV} {H : List ABlk} {r : AV} {H' : List ABlk} {l : List Kn} (hk : ∀ k ∈ l, KnOk P k) (h : lookZ f args H l = some (r, H')) : CallsA P f args H fun r0 H0 => r0 = r ∧ H0 = H' := by
 unfold lookZ at h
 split at h
 ·rename_i r1 h1
  simp only [Option.some.injEq] at h
  subst h
  exact lookK_sound hk h1
 ·split at h
  ·exact CallsA.frz (lookK_sound hk h)
  ·cases h
def knOf (g : Sig) (ex : Exit) (vs : List Lf) (R : Rs) (V : List Lf) : Kn := ⟨g.f, (bldC arS g.args g.hp [] vs).1, (bldX arS ex R V).1, (bldX arS ex R V).2⟩
theorem EC.kn {P : Program} {g : Sig} {vs : List Lf} {x : Nat} {ex : Exit} {R : Rs} {V : List Lf} (h : EC P g [] vs fun y r v => y = x ∧ r = R ∧ v = V) (hg : g.hp = []) (hx : getL g.exits x = some ex) (hR : puAll R) : KnOk P (knOf g ex vs R V) := by
 have hH : (bldC arS g.args g.hp [] vs).2 = [] := by rw [hg]; rfl
 have h := h trivial
 rw [hH] at h
 refine ⟨h.mono fun r H ⟨y, ex', rs', vs', h1, _, ⟨e1, e2, e3⟩, h4, _⟩ => ?_, ?_⟩
 ·subst e1 e2 e3
  rw [hx] at h1
  injection h1 with h1
  subst h1
  show r = (bldX arS ex rs' vs').1 ∧ H = (bldX arS ex rs' vs').2
  rw [h4]
  exact ⟨rfl, rfl⟩
 ·have := bldS_pure (A := arS) (nt := lenL ex.st.slots) (st := ex.st) (rs := R) (vs := V) hR
  rw [← bldX_2] at this
  exact this
noncomputable def goK (T : List (Nat × AFn)) (kn : List Kn) : Nat → AFn → List AItem → BT AV → List ABlk → Option (AV × List ABlk)
 | 0, _, _, _, _ => none
 | n + 1, F, K, t, H =>
  match K with
  | [] => resT F.nt t H F.res
  | .blk _ :: K => goK T kn n F K t H
  | .lp m :: K => goK T kn n F (.c m :: .lp m :: K) t H
  | .ops _ _ :: _ => none
  | .c m :: K => match nodeT F m with
   | some (.seq d) => goK T kn n F (.c (m + 1) :: .c (m + d) :: K) t H
   | some (.block id) => goK T kn n F (.c (m + 1) :: .blk id :: K) t H
   | some .loop => goK T kn n F (.c (m + 1) :: .lp (m + 1) :: K) t H
   | some (.cond x d) => match ev [] (sbX F.nt t x) with
    | .bool true => goK T kn n F (.c (m + 1) :: K) t H
    | .bool false => goK T kn n F (.c (m + d) :: K) t H
    | _ => none
   | some (.region l d) => match (match d with
     | false => opsK (fun f args H => match lookZ f args H kn with
      | some r => some r
      | none => match lookF T f with
       | some G => match Nat.ble (lenL args) G.nt with
        | true => goK T kn n G [.c 0] (startT G.nt (unsL args)) H
        | false => none
       | none => none) F.nt l t H
     | true => drawK (fun f args H => match lookZ f args H kn with
      | some r => some r
      | none => match lookF T f with
       | some G => match Nat.ble (lenL args) G.nt with
        | true => goK T kn n G [.c 0] (startT G.nt (unsL args)) H
        | false => none
       | none => none) F.nt l t H) with
    | some (t, H) => goK T kn n F K t H
    | none => none
   | some (.exit id) => match exitA id K with
    | some K' => goK T kn n F K' t H
    | none => none
   | some .skip => goK T kn n F K t H
   | some .ret => resT F.nt t H F.res
   | _ => none
noncomputable def callK2 (T : List (Nat × AFn)) (kn : List Kn) (n : Nat) (f : FuncId) (args : List AV) (H : List ABlk) : Option (AV × List ABlk) :=
 match lookZ f args H kn with
 | some r => some r
 | none => match lookF T f with
  | some G => match Nat.ble (lenL args) G.nt with
   | true => goK T kn n G [.c 0] (startT G.nt (unsL args)) H
   | false => none
  | none => none
section
variable {P : Program} {call : FuncId → List AV → List ABlk → Option (AV × List ABlk)}
theorem opsK_sound {fn : Func} {tab : List Node} {H0 : List ABlk} {R : AV → List ABlk → Prop} {m : Nat} {l : List AOp} {d : Bool} {K : List AItem} {nt D : Nat} (hD : nt ≤ 2 ^ D) (hc : CallOk P call) (ht : tab[m]? = some (.region l d)) {t' : BT AV} {H' : List ABlk} (hfin : t'.full D → Run P fn tab H0 R K (toL nt t') H') : ∀ (os : List AOp) (k : Nat) (t : BT AV) (H : List ABlk), os = l.drop k → t.full D → opsK call nt os t H = some (t', H') →
  Run P fn tab H0 R (.ops m k :: K) (toL nt t) H
 | [], k, t, H, he, hf, h => by
  simp only [opsK, Option.some.injEq, Prod.mk.injEq] at h
  obtain ⟨rfl, rfl⟩ := h
  exact Run.opsEnd ht (by have := congrArg List.length he; simp at this; omega) (hfin hf)
 | o :: os, k, t, H, he, hf, h => by
  have ho : l[k]? = some o := by
   have : (l.drop k)[0]? = some o := by rw [← he]; rfl
   simpa using this
  have hos : os = l.drop (k + 1) := by
   have : (l.drop k).drop 1 = os := by rw [← he]; rfl
   rw [← this, List.drop_drop]
  have ih := fun t H hf h => opsK_sound hD hc ht hfin os (k + 1) t H hos hf h
  simp only [opsK, gstT_eq, opT_eq] at h
  split at h
  ·rename_i hg
   have := ih _ _ (putT_full hf) h
   rw [toL_put _ _ hf hD] at this
   exact Run.opSkip ht ho (gst_no hg) this
  ·rename_i hg
   split at h
   ·rename_i v H1 hx
    have := ih _ _ (putT_full hf) h
    rw [toL_put _ _ hf hD] at this
    refine Run.op (σr := sgX) ht ho (gst_yes hg) (opC_sound hc hx fun v0 hv => ?_)
    refine put_uns (Q := fun fr => Run P fn tab H0 R _ fr H1) (fun fr t b hb h => Run.knownSet hb h) _ o.dst v0 ?_
    rw [hv]
    exact this
   ·cases h
  ·cases h
theorem goK_sound {T : List (Nat × AFn)} {kn : List Kn} (hm : P.follows .mixedOrders = true) (hT : ∀ p ∈ T, ∃ fn, p.2.at P p.1 fn) (hkn : ∀ k ∈ kn, KnOk P k) : ∀ (n i : Nat) (F : AFn) (fn : Func), F.at P i fn → ∀ (K : List AItem) (t : BT AV) (H : List ABlk) (r : AV) (H' : List ABlk) (H0 : List ABlk), t.full (dep F.nt) → goK T kn n F K t H = some (r, H') →
  Run P fn F.tab H0 (fun r0 H1 => r0 = r ∧ H1 = H') K (toL F.nt t) H
 | 0, i, F, fn, hF, K, t, H, r, H', H0, _, h => by simp [goK] at h
 | n + 1, i, F, fn, hF, K, t, H, r, H', H0, hf, h => by
  have hD : F.nt ≤ 2 ^ dep F.nt := Nat.le_of_lt (dep_lt _)
  have ih := fun K t H hf h => goK_sound hm hT hkn n i F fn hF K t H r H' H0 hf h
  have hcall : CallOk P (fun f args H => match lookZ f args H kn with
      | some r => some r
      | none => match lookF T f with
       | some G => match Nat.ble (lenL args) G.nt with
        | true => goK T kn n G [.c 0] (startT G.nt (unsL args)) H
        | false => none
       | none => none) := fun f args H r H' h => by
   simp only at h
   split at h
   ·rename_i r1 hk
    simp only [Option.some.injEq] at h
    subst h
    exact lookZ_sound hkn hk
   split at h
   ·rename_i G hG
    split at h
    ·rename_i hb
     have hb := Nat.ble_eq.mp hb
     rw [lenL_eq] at hb
     obtain ⟨fn2, hfn⟩ := hT _ (lookF_mem hG)
     obtain ⟨body, hbd⟩ : ∃ body, fn2.body = some body := by
      have := hfn.tab
      cases hb : fn2.body with
      | none => rw [hb] at this; cases this
      | some b => exact ⟨b, rfl⟩
     refine CallsA.enter hfn.func hfn.name hbd ⟨hfn.np, hfn.nt, hfn.res, hfn.tab⟩ ?_
     have h1 := goK_sound hm hT hkn n f G fn2 hfn _ _ _ _ _ H (startT_full _ _) h
     have hul : ∀ args : List AV, (unsL args).length = args.length := fun args => by
      induction args with
      | nil => rfl
      | cons x l ih => simp only [unsL, List.length_cons, ih]
     rw [startT_toL (by rw [hul]; exact hb), hul] at h1
     refine Run.ent (Ent.sub ?_) h1
     have key : ∀ (args : List AV) (m : Nat), Imps some (symL args ++ List.replicate m .junk) (unsL args ++ List.replicate m .junk) := by
      intro args m
      induction args with
      | nil =>
       simp only [symL, unsL, List.nil_append]
       induction m with
       | zero => trivial
       | succ m ih => exact ⟨Imp.junk _, ih⟩
      | cons x l ih =>
       refine ⟨fun S T S' T' v hc hv => rel_some hc ?_, ih⟩
       cases x <;> exact hv
     exact key args _
    ·cases h
   ·cases h
  simp only [goK] at h
  split at h
  ·exact Run.fin hF.res (resC_sound hF.res h)
  ·exact Run.blk (ih _ _ _ hf h)
  ·exact Run.lp (ih _ _ _ hf h)
  ·cases h
  ·split at h
   ·rename_i d ht
    exact Run.seq (nodeT_eq ht) (ih _ _ _ hf h)
   ·rename_i id ht
    exact Run.block (nodeT_eq ht) (ih _ _ _ hf h)
   ·rename_i ht
    exact Run.loop (nodeT_eq ht) (ih _ _ _ hf h)
   ·rename_i x d ht
    rw [sbX_ev] at h
    split at h
    ·rename_i hx
     exact Run.cond (t := true) (nodeT_eq ht) (.inl hx) (ih _ _ _ hf h)
    ·rename_i hx
     exact Run.cond (t := false) (nodeT_eq ht) (.inl hx) (ih _ _ _ hf h)
    ·cases h
   ·rename_i l d ht
    cases d with
    | false =>
     simp only at h
     split at h
     ·rename_i t1 H1 ho
      exact Run.region (nodeT_eq ht) (opsK_sound hD hcall (nodeT_eq ht) (fun hf => ih _ _ _ hf h) l 0 t H rfl hf ho)
     ·cases h
    | true =>
     simp only at h
     split at h
     ·rename_i t1 H1 ho
      obtain ⟨hf1, p, hp, hr⟩ := drawK_eq _ _ hD (n0 := 0) hf ho
      have ht2 := nodeT_eq ht
      have hFin : ∀ K fr H t b, fr[t]? = some (.sb b) → Run P fn F.tab H0 (fun r0 H1 => r0 = r ∧ H1 = H') K (fr.set t (.bool b)) H → Run P fn F.tab H0 (fun r0 H1 => r0 = r ∧ H1 = H') K fr H := fun K fr H t b hb h => Run.knownSet hb h
      rw [lenL_eq l, repL_eq] at hp
      rcases hr with hr | hr
      ·refine Run.draw hm ht2 [] ?_
       exact runS_sound hcall (hFin _) _ _ _ _ _ _ _ _ hp trivial (by cases H <;> rfl) hr (ih _ _ _ hf1 h)
      ·refine Run.draw hm ht2 (livL H) ?_
       exact runS_sound hcall (hFin _) _ _ _ _ _ _ _ _ hp (keepP_refl _ _ (by rw [livL_length]; exact Nat.le_refl _)) rfl hr (ih _ _ _ hf1 h)
     ·cases h
   ·rename_i id ht
    split at h
    ·rename_i K' he
     exact Run.exit (nodeT_eq ht) he (ih _ _ _ hf h)
    ·cases h
   ·rename_i ht
    exact Run.skip (nodeT_eq ht) (ih _ _ _ hf h)
   ·rename_i ht
    exact Run.ret (nodeT_eq ht) hF.res (resC_sound hF.res h)
   ·cases h
theorem callK2_sound {T : List (Nat × AFn)} {kn : List Kn} (hm : P.follows .mixedOrders = true) (hT : ∀ p ∈ T, ∃ fn, p.2.at P p.1 fn) (hkn : ∀ k ∈ kn, KnOk P k) {n : Nat} {f : FuncId} {args : List AV} {H : List ABlk} {r : AV} {H' : List ABlk} (h : callK2 T kn n f args H = some (r, H')) : CallsA P f args H fun r0 H0 => r0 = r ∧ H0 = H' := by
 unfold callK2 at h
 split at h
 ·rename_i r1 hk
  simp only [Option.some.injEq] at h
  subst h
  exact lookZ_sound hkn hk
 split at h
 ·rename_i G hG
  split at h
  ·rename_i hb
   have hb := Nat.ble_eq.mp hb
   rw [lenL_eq] at hb
   obtain ⟨fn2, hfn⟩ := hT _ (lookF_mem hG)
   obtain ⟨body, hbd⟩ : ∃ body, fn2.body = some body := by
    have := hfn.tab
    cases hb : fn2.body with
    | none => rw [hb] at this; cases this
    | some b => exact ⟨b, rfl⟩
   refine CallsA.enter hfn.func hfn.name hbd ⟨hfn.np, hfn.nt, hfn.res, hfn.tab⟩ ?_
   have h1 := goK_sound hm hT hkn n f G fn2 hfn _ _ _ _ _ H (startT_full _ _) h
   have hul : ∀ args : List AV, (unsL args).length = args.length := fun args => by
    induction args with
    | nil => rfl
    | cons x l ih => simp only [unsL, List.length_cons, ih]
   rw [startT_toL (by rw [hul]; exact hb), hul] at h1
   refine Run.ent (Ent.sub ?_) h1
   have key : ∀ (args : List AV) (m : Nat), Imps some (symL args ++ List.replicate m .junk) (unsL args ++ List.replicate m .junk) := by
    intro args m
    induction args with
    | nil =>
     simp only [symL, unsL, List.nil_append]
     induction m with
     | zero => trivial
     | succ m ih => exact ⟨Imp.junk _, ih⟩
    | cons x l ih =>
     refine ⟨fun S T S' T' v hc hv => rel_some hc ?_, ih⟩
     cases x <;> exact hv
   exact key args _
  ·cases h
 ·cases h
end
theorem EC.closedK {P : Program} {T : List (Nat × AFn)} {kn : List Kn} (hm : P.follows .mixedOrders = true) (hT : ∀ p ∈ T, ∃ fn, p.2.at P p.1 fn) (hkn : ∀ k ∈ kn, KnOk P k) {n : Nat} {f : FuncId} {b : Bool} (h : isB b (callK2 T kn n f [] []) = true) :
  EC P ⟨f, [], [], [⟨false, ⟨[(0, .sb)], []⟩⟩]⟩ [] [] fun x rs vs => x = 0 ∧ rs = [] ∧ vs = [.b b] := by
 intro _
 have key : ∃ r H', callK2 T kn n f [] [] = some (r, H') ∧ (r = .bool b ∨ r = .sb b) := by
  unfold isB at h
  split at h
  ·rename_i b' H' he
   exact ⟨_, H', he, .inl (by rw [beq_iff_eq] at h; rw [h])⟩
  ·rename_i b' H' he
   exact ⟨_, H', he, .inr (by rw [beq_iff_eq] at h; rw [h])⟩
  ·cases h
 obtain ⟨r, H', hc, hr⟩ := key
 refine CallsA.ent ((callK2_sound hm hT hkn hc).mono fun r0 H0 ⟨e1, e2⟩ => ⟨.sb b, [], ?_, 0, _, [], [.b b], rfl, trivial, ⟨rfl, rfl, rfl⟩, rfl, Nat.zero_le _, fun j e sz rows hj => by simp at hj⟩)
 subst e1 e2
 refine Ent.ren [] (Nat.zero_le _) (fun j hj => absurd hj (Nat.not_lt_zero _)) (fun i j k hi => by simp at hi) rfl (fun j id hj => by simp at hj) ⟨fun S T S' T' v hc h => ?_, trivial⟩
 rcases hr with rfl | rfl
 ·simpa only [rel] using h
 ·simpa only [rel] using h
end Go.Ab

namespace Go.Ab
open Go Go.RowKit
set_option linter.unusedVariables false
set_option linter.unusedSimpArgs false
inductive DT where
 | int (k : IntKind)
 | bool
 | str
 | rows (ds : List DT)
def fldC (P : Program) (go : TypeId → Option (List DT)) : Nat → List Field → Option (List DT)
 | _, [] => some []
 | off, f :: fs => if f.offset = off then (match go f.type with
  | some ds => if P.cellsOf f.type = ds.length then (match fldC P go (off + ds.length) fs with
   | some ds' => some (ds ++ ds')
   | none => none) else none
  | none => none) else none
def tyC (P : Program) : Nat → TypeId → Option (List DT)
 | 0, _ => none
 | n + 1, t => match P.underlying t with
  | some (.int k) => some [.int k]
  | some .bool => some [.bool]
  | some .string => some [.str]
  | some (.slice e) => match tyC P n e with
   | some ds => if P.cellsOf e = ds.length ∧ 0 < ds.length then some [.rows ds] else none
   | none => none
  | some (.struct fs) => match fldC P (tyC P n) 0 fs.toList with
   | some ds => if P.cellsOf t = ds.length then some ds else none
   | none => none
  | _ => none
mutual
def GdC : DT → AV → Prop
 | .int k, v => ∃ n, v = .int k n ∧ (Lit.int k n).wf = true
 | .bool, v => ∃ b, v = .bool b
 | .str, v => ∃ s : ByteArray, v = .str s ∧ s.size ≤ maxLen
 | .rows ds, v => ∃ rows : List (List AV), v = .inl ds.length rows ∧ rows.length ≤ maxLen ∧ ∀ r ∈ rows, GdL ds r
def GdL : List DT → List AV → Prop
 | [], xs => xs = []
 | d :: ds, xs => ∃ x xs', xs = x :: xs' ∧ GdC d x ∧ GdL ds xs'
end
theorem GdL.length : ∀ {ds : List DT} {xs : List AV}, GdL ds xs → xs.length = ds.length
 | [], xs, h => by simp only [GdL] at h; subst h; rfl
 | d :: ds, xs, h => by
  simp only [GdL] at h
  obtain ⟨x, xs', rfl, _, h2⟩ := h
  simp [GdL.length h2]
theorem GdL.append : ∀ {ds ds' : List DT} {xs xs' : List AV}, GdL ds xs → GdL ds' xs' → GdL (ds ++ ds') (xs ++ xs')
 | [], ds', xs, xs', h, k => by simp only [GdL] at h; subst h; exact k
 | d :: ds, ds', xs, xs', h, k => by
  simp only [GdL] at h
  obtain ⟨x, ys, rfl, h1, h2⟩ := h
  simp only [List.cons_append, GdL]
  exact ⟨x, _, rfl, h1, GdL.append h2 k⟩
theorem GdC.one {d : DT} {x : AV} (h : GdC d x) : one x = true := by
 cases d <;> simp only [GdC] at h
 ·obtain ⟨n, rfl, _⟩ := h; rfl
 ·obtain ⟨b, rfl⟩ := h; rfl
 ·obtain ⟨s, rfl, _⟩ := h; rfl
 ·obtain ⟨rows, rfl, _⟩ := h; rfl
theorem GdL.allOne : ∀ {ds : List DT} {xs : List AV}, GdL ds xs → allOne xs = true
 | [], xs, h => by simp only [GdL] at h; subst h; rfl
 | d :: ds, xs, h => by
  simp only [GdL] at h
  obtain ⟨x, ys, rfl, h1, h2⟩ := h
  simp [Ab.allOne, h1.one, h2.allOne]
theorem listOf {α : Type} {p : Nat → α → Prop} : ∀ (n : Nat), (∀ i, i < n → ∃ a, p i a) → ∃ l : List α, l.length = n ∧ ∀ (i : Nat) (a : α), l[i]? = some a → p i a
 | 0, _ => ⟨[], rfl, fun i a h => by simp at h⟩
 | n + 1, h => by
  obtain ⟨l, h1, h2⟩ := listOf n fun i hi => h i (by omega)
  obtain ⟨a, ha⟩ := h n (by omega)
  refine ⟨l ++ [a], by simp [h1], fun i b hi => ?_⟩
  rcases Nat.lt_trichotomy i n with hl | rfl | hl
  ·rw [List.getElem?_append_left (by omega)] at hi
   exact h2 i b hi
  ·rw [List.getElem?_append_right (by omega)] at hi
   simp [h1] at hi
   subst hi
   exact ha
  ·rw [List.getElem?_eq_none (by simp; omega)] at hi
   cases hi
section
variable {H : Type} {enc : TypeId × Value → H} {P : Program} {w : World} {spare : Nat → Bool} {held : Bool}
theorem cells_get {a : Addr} {n : Nat} {cs : List Value} (h : w.cells? 0 a n = some cs) : cs.length = n ∧ ∀ (j : Nat) (v : Value), cs[j]? = some v → w.cell? (a.add j) = some v := by
 unfold World.cells? at h
 simp only [Nat.zero_le, if_true] at h
 have hl := mapM_some_length h
 refine ⟨by simpa using hl, fun j v hj => ?_⟩
 have hjl : j < n := by
  have := (List.getElem?_eq_some_iff.1 hj).1
  simp at hl
  omega
 have := mapM_some_get h j j (by simp [hjl])
 rw [this, hj]
theorem fields_open {n : Nat} {cs : List Value} {go : TypeId → Option (List DT)} (hgo : ∀ t cs x ds, DataW.trod enc P w 0 spare held n t cs = some x → go t = some ds → ∃ as, rels (RS.start w) as noSh cs ∧ GdL ds as) :
  ∀ (fs : List Field) (off : Nat) (ds : List DT), fldC P go off fs = some ds → (∀ f ∈ fs, ∃ y, DataW.trod enc P w 0 spare held n f.type ((cs.drop f.offset).take (P.cellsOf f.type)) = some y) →
   ∃ as, rels (RS.start w) as noSh ((cs.drop off).take ds.length) ∧ GdL ds as
 | [], off, ds, h, _ => by
  simp only [fldC, Option.some.injEq] at h
  subst h
  exact ⟨[], by simp [rels], by simp [GdL]⟩
 | f :: fs, off, ds, h, hf => by
  simp only [fldC] at h
  split at h
  ·rename_i ho
   split at h
   ·rename_i ds1 h1
    split at h
    ·rename_i hc
     split at h
     ·rename_i ds2 h2
      simp only [Option.some.injEq] at h
      subst h
      obtain ⟨y, hy⟩ := hf f (by simp)
      rw [ho, hc] at hy
      obtain ⟨as1, q1, q2⟩ := hgo _ _ _ _ hy h1
      obtain ⟨as2, q3, q4⟩ := fields_open hgo fs _ ds2 h2 fun g hg => hf g (by simp [hg])
      refine ⟨as1 ++ as2, ?_, q2.append q4⟩
      rw [List.length_append, List.take_add, List.drop_drop]
      exact rels_append q1 q3
     ·cases h
    ·cases h
   ·cases h
  ·cases h
theorem trod_open : ∀ (fuel : Nat) (t : TypeId) (cs : List Value) (x : DataW H × List MemPlace) (n : Nat) (ds : List DT), DataW.trod enc P w 0 spare held fuel t cs = some x → tyC P n t = some ds → ∃ as, rels (RS.start w) as noSh cs ∧ GdL ds as := by
 intro fuel
 induction fuel with
 | zero => intro t cs x n ds h; simp [DataW.trod] at h
 | succ m ih =>
  intro t cs x n ds h ht
  cases n with
  | zero => simp [tyC] at ht
  | succ n =>
   simp only [tyC] at ht
   split at ht
   ·rename_i k hu
    simp only [Option.some.injEq] at ht
    subst ht
    obtain ⟨z, rfl, _, hw⟩ := DataW.trod_int hu h
    exact ⟨[.int k z], by simp [rels, rel], by simp only [GdL, GdC]; exact ⟨_, _, rfl, ⟨z, rfl, hw⟩, rfl⟩⟩
   ·rename_i hu
    simp only [Option.some.injEq] at ht
    subst ht
    obtain ⟨b, rfl, _⟩ := DataW.trod_bool hu h
    exact ⟨[.bool b], by simp [rels, rel], by simp only [GdL, GdC]; exact ⟨_, _, rfl, ⟨b, rfl⟩, rfl⟩⟩
   ·rename_i hu
    simp only [Option.some.injEq] at ht
    subst ht
    obtain ⟨s, rfl, _, hs⟩ := DataW.trod_string hu h
    exact ⟨[.str s], by simp [rels, rel], by simp only [GdL, GdC]; exact ⟨_, _, rfl, ⟨s, rfl, hs⟩, rfl⟩⟩
   ·rename_i e hu
    split at ht
    ·rename_i de he
     split at ht
     ·rename_i hc
      simp only [Option.some.injEq] at ht
      subst ht
      rcases DataW.trod_slice hu h with ⟨rfl, _⟩ | ⟨a, len, cap, elems, rest, m', hm, rfl, _, hb, hl, hcap, hlen, hel, _, _⟩
      ·refine ⟨[.inl de.length []], ?_, ?_⟩
       ·simp only [rels, rel]
        exact ⟨_, [], rfl, ⟨none, 0, rfl, Nat.le_refl _, .inl trivial⟩, rfl⟩
       ·simp only [GdL, GdC]
        exact ⟨_, _, rfl, ⟨[], rfl, Nat.zero_le _, fun r hr => by cases hr⟩, rfl⟩
      ·obtain rfl : m = m' := by omega
       have each : ∀ i, i < len → ∃ r : List AV, ∃ cs' : List Value, w.cells? 0 (a.add (i * P.cellsOf e)) (P.cellsOf e) = some cs' ∧ rels (RS.start w) r noSh cs' ∧ GdL de r := fun i hi => by
        have h1 := hel i hi
        rw [List.getElem?_eq_getElem (by omega), Option.bind_eq_some_iff] at h1
        obtain ⟨cs', g1, g2⟩ := h1
        obtain ⟨r, g3, g4⟩ := ih e cs' _ n de g2 he
        exact ⟨r, cs', g1, g3, g4⟩
       obtain ⟨rows, hr1, hr2⟩ := listOf len each
       refine ⟨[.inl de.length rows], ?_, ?_⟩
       ·simp only [rels, rel]
        refine ⟨_, [], rfl, ⟨some a, cap, by rw [hr1], by omega, ?_⟩, rfl⟩
        rcases Nat.eq_zero_or_pos len with h0 | h0
        ·exact .inl (List.eq_nil_of_length_eq_zero (by omega))
        ·refine .inr ?_
         obtain ⟨B, o, spot⟩ := a
         have hspot : spot = none := by
          obtain ⟨r0, cs0, c1, c2, c3⟩ := each 0 h0
          obtain ⟨d1, d2⟩ := cells_get c1
          have : 0 < cs0.length := by omega
          have := d2 0 cs0[0] (List.getElem?_eq_getElem this)
          simpa [Addr.add] using World.cell?_spot this
         subst hspot
         refine ⟨B, o, rfl, fzs_of_get fun i r hi => ?_⟩
         obtain ⟨cs', c1, c2, c3⟩ := hr2 i r hi
         obtain ⟨d1, d2⟩ := cells_get c1
         refine ⟨c3.length, fz_of_get fun j c hj => ?_⟩
         obtain ⟨v, e1, e2⟩ := rels_get c2 hj
         refine ⟨v, ?_, e2, ?_⟩
         ·have := d2 j v e1
          rw [hc.1, Addr.add_lit, Addr.add_lit] at this
          exact this
         ·refine rels_one c2 c3.allOne v (List.mem_of_getElem? e1)
       ·simp only [GdL, GdC]
        refine ⟨_, _, rfl, ⟨rows, rfl, by omega, fun r hr => ?_⟩, rfl⟩
        obtain ⟨i, hi⟩ := List.getElem?_of_mem hr
        obtain ⟨_, _, _, c3⟩ := hr2 i r hi
        exact c3
     ·cases ht
    ·cases ht
   ·rename_i fs hu
    split at ht
    ·rename_i de hde
     split at ht
     ·rename_i hc
      simp only [Option.some.injEq] at ht
      subst ht
      obtain ⟨xs, m', hm, _, hl, hxs, hfs⟩ := DataW.trod_struct hu h
      obtain rfl : m = m' := by omega
      obtain ⟨as, q1, q2⟩ := fields_open (cs := cs) (n := m) (fun t cs x ds h1 h2 => ih t cs x n ds h1 h2) fs.toList 0 de hde fun f hf => by
       obtain ⟨i, hi⟩ := List.getElem?_of_mem hf
       have hi' : fs[i]? = some f := by simpa using hi
       have h1 := hfs i f hi'
       have : i < xs.length := by
        rw [hxs]
        exact (Array.getElem?_eq_some_iff.1 hi').1
       rw [List.getElem?_eq_getElem this] at h1
       exact ⟨_, h1⟩
      refine ⟨as, ?_, q2⟩
      rw [List.drop_zero, List.take_of_length_le (by omega)] at q1
      exact q1
     ·cases ht
    ·cases ht
   ·cases ht
theorem arg_agg {t : TypeId} {cs : Array Value} {d : DataW H} {ps : List MemPlace} {n : Nat} {ds : List DT} (ht : tyC P n t = some ds) (hd : DataW.Trod enc P w 0 spare held t (.agg cs) d ps) :
  ∃ as, rel (RS.start w) (.agg as) noSh (.agg cs) ∧ GdL ds as := by
 obtain ⟨fuel, hf⟩ := hd
 obtain ⟨as, q1, q2⟩ := trod_open fuel t _ _ n _ hf ht
 refine ⟨as, ?_, q2⟩
 simp only [rel]
 exact ⟨cs, rfl, q1, rels_one q1 q2.allOne⟩
end
end Go.Ab

namespace Go.Ab
open Go
section
variable {H : Type} {enc : TypeId × Value → H} {P : Program} {w : World} {spare : Nat → Bool} {held : Bool}
end
end Go.Ab

namespace Go.Ab
open Go
set_option linter.unusedVariables false
set_option linter.unusedSimpArgs false
abbrev RW := List (List AV)
abbrev EP := Nat → Rs → List Lf → Prop
theorem An {a b : Prop} (h : a) (k : b) : a ∧ b := ⟨h, k⟩
abbrev r3 (R : List (List AV)) (i : Nat) : List AV := [.int .i64 (cIS R i 0), .int .i64 (cIS R i 1), .int .i64 (cIS R i 2)]
theorem Wk.q {P : Program} {fn : Func} {I : Inst} {sigs : List Sig} {Q EV RR : EP} {A : Ar} {σr : RowF} {CE : Nat → Rs → List Lf → (Nat → Rs → List Lf → Prop) → Prop} {CK : Nat → Rs → List Lf → Cont → Prop} {Dn : Nat → List Bool → List AItem → Nat → List Bool → List AV → List ABlk → Prop}
  (h : Wk P fn I sigs Q A σr CE CK Dn EV RR) {n : Nat} {rs : Rs} {vs : List Lf} (hq : Q n rs vs) : RR n rs vs := by rw [h.rr]; exact hq
theorem Wk.cl {P : Program} {fn : Func} {I : Inst} {sigs : List Sig} {Q EV RR : EP} {A : Ar} {σr : RowF} {CE : Nat → Rs → List Lf → (Nat → Rs → List Lf → Prop) → Prop} {CK : Nat → Rs → List Lf → Cont → Prop} {Dn : Nat → List Bool → List AItem → Nat → List Bool → List AV → List ABlk → Prop}
  (h : Wk P fn I sigs Q A σr CE CK Dn EV RR) {i : Nat} {g : Sig} {rs rs0 : Rs} {vs vs0 : List Lf} {c : Cont} {Q1 : Nat → Rs → List Lf → Prop} (he : EC P g rs0 vs0 Q1)
  (hs : ∀ x rs' vs', puAll rs' → Q1 x rs' vs' → contS A g.exits c (fun K fr H => segP A σr sigs CE CK Dn EV RR I.F.tab I.F.res I.stops I.anns I.drw I.sig.exits (lenL I.sig.hp) I.F.nt 80 true K fr H) x rs' vs')
  (hg : getL sigs i = some g := by rfl) (hr : rs = rs0 := by subst_vars; rfl) (hv : vs = vs0 := by subst_vars; rfl) : CK i rs vs c := h.call 80 hg he hr hv hs
theorem Wk.cd {P : Program} {fn : Func} {I : Inst} {sigs : List Sig} {Q EV RR : EP} {A : Ar} {σr : RowF} {CE : Nat → Rs → List Lf → (Nat → Rs → List Lf → Prop) → Prop} {CK : Nat → Rs → List Lf → Cont → Prop} {Dn : Nat → List Bool → List AItem → Nat → List Bool → List AV → List ABlk → Prop}
  (h : Wk P fn I sigs Q A σr CE CK Dn EV RR) {i : Nat} {g : Sig} {rs rs0 : Rs} {vs vs0 : List Lf} {Q0 Q1 : Nat → Rs → List Lf → Prop} (he : EC P g rs0 vs0 Q1)
  (hs : ∀ x rs' vs', puAll rs' → Q1 x rs' vs' → Q0 x rs' vs') (hg : getL sigs i = some g := by rfl) (hr : rs = rs0 := by subst_vars; rfl) (hv : vs = vs0 := by subst_vars; rfl) : CE i rs vs Q0 := h.callD hg he hr hv hs
theorem vnot {a b : Bool} (h : (!a) = b) : a = !b := by cases a <;> cases b <;> simp_all
theorem notE {A : Ar} (hA : A = arS) {a b : Bool} (h : A.not a = b) : a = !b := by subst hA; exact vnot h
theorem vpur {r : List (List AV)} (h : pursS r = true := by rfl) : pursS r = true := h
theorem pursS_iff {rows : List (List AV)} : pursS rows = true ↔ ∀ r ∈ rows, purs r = true := by
 induction rows with
 | nil => simp [pursS]
 | cons r rs ih => simp [pursS, ih]
theorem vtake {rows : List (List AV)} {i : Nat} (h : pursS rows = true) : pursS (rows.take i) = true := by
 rw [pursS_iff] at *
 exact fun x hx => h x (List.mem_of_mem_take hx)
theorem vdrop {rows : List (List AV)} {i : Nat} (h : pursS rows = true) : pursS (rows.drop i) = true := by
 rw [pursS_iff] at *
 exact fun x hx => h x (List.mem_of_mem_drop hx)
theorem vapp {rows new : List (List AV)} {i : Nat} (h : pursS rows = true) (hn : pursS new = true) : pursS (rappS rows i new) = true := by
 rw [pursS_iff] at *
 intro x hx
 unfold rappS at hx
 rcases List.mem_append.1 hx with h1 | h1
 ·rcases List.mem_append.1 h1 with h2 | h2
  ·exact h x (List.mem_of_mem_take h2)
  ·exact hn x h2
 ·exact h x (List.mem_of_mem_drop h1)
theorem vrep {n : Nat} {r : List AV} (h : purs r = true) : pursS (List.replicate n r) = true := by
 rw [pursS_iff]
 intro x hx
 rw [List.eq_of_mem_replicate hx]; exact h
theorem wrap64 {x : Int} (h0 : -9223372036854775808 ≤ x) (h1 : x < 9223372036854775808) : IntKind.wrap .i64 x = x := wrap_i64 h0 (by omega)
end Go.Ab
