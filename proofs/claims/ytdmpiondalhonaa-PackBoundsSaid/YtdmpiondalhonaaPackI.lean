import Derived.Test.YtdmpiondalhonaaStabB
import Derived.Test.YtdmpiondalhonaaPackA
namespace Go.Pak
set_option linter.unusedVariables false

/-- Going through the boxes: the first one with room, or the tightest one. -/
def chs (tight : Bool) (L : List Int) (size : Int) : List Int → Nat → Int → Int
  | [], _, at' => at'
  | r :: rs, b, at' => chs tight L size rs (b + 1) (if r ≥ size ∧ (at' < 0 ∨ tight = true ∧ r < L.getD at'.toNat 0) then (b : Int) else at')
def aF (tight : Bool) (L : List Int) (size : Int) : Int := chs tight L size L 0 (-1)
/-- None, or a box with room. -/
def Ok (L : List Int) (size : Int) (a : Int) : Prop := a = -1 ∨ 0 ≤ a ∧ a.toNat < L.length ∧ size ≤ L.getD a.toNat 0
theorem chs_ok {tight : Bool} {L : List Int} {size : Int} : ∀ (rs pre : List Int) (at' : Int), L = pre ++ rs → Ok L size at' → Ok L size (chs tight L size rs pre.length at')
  | [], pre, at', _, h => h
  | r :: rs, pre, at', hL, h => by
    simp only [chs]
    have := chs_ok (tight := tight) (L := L) (size := size) rs (pre ++ [r]) (if r ≥ size ∧ (at' < 0 ∨ tight = true ∧ r < L.getD at'.toNat 0) then (pre.length : Int) else at') (by rw [hL]; simp) (by
      split
      · rename_i h1
        refine .inr ⟨by omega, ?_, ?_⟩
        · rw [hL]; simp
        · have : L.getD ((pre.length : Int).toNat) 0 = r := by rw [hL]; simp [List.getD_eq_getElem?_getD]
          omega
      · exact h)
    rw [List.length_append] at this
    exact this
theorem aF_ok (tight : Bool) (L : List Int) (size : Int) : Ok L size (aF tight L size) := chs_ok L [] (-1) rfl (.inl rfl)
/-- The first one, once it is found, stays. -/
theorem chs_first {L : List Int} {size : Int} : ∀ (rs : List Int) (b : Nat) (a : Int), 0 ≤ a → chs false L size rs b a = a
  | [], _, _, _ => rfl
  | r :: rs, b, a, h => by
    simp only [chs]
    rw [if_neg (by simp; omega)]
    exact chs_first rs _ a h

/-- One thing is put: the boxes of all things, and what is left in each box. -/
def stepF (tight : Bool) (l : List Int) (room : Int) (s : List Int × List Int) (i : Int) : List Int × List Int :=
  if aF tight s.2 (l.getD i.toNat 0) < 0 then (s.1.set i.toNat s.2.length, s.2 ++ [room - l.getD i.toNat 0])
  else (s.1.set i.toNat (aF tight s.2 (l.getD i.toNat 0)), s.2.set (aF tight s.2 (l.getD i.toNat 0)).toNat (s.2.getD (aF tight s.2 (l.getD i.toNat 0)).toNat 0 - l.getD i.toNat 0))
def runF (tight : Bool) (l : List Int) (room : Int) (p : List Int) (s : List Int × List Int) : List Int × List Int := p.foldl (stepF tight l room) s

theorem stepF_len (tight : Bool) (l : List Int) (room : Int) (s : List Int × List Int) (i : Int) : (stepF tight l room s i).1.length = s.1.length := by
  unfold stepF; split <;> simp
theorem runF_len (tight : Bool) (l : List Int) (room : Int) : ∀ (p : List Int) (s : List Int × List Int), (runF tight l room p s).1.length = s.1.length
  | [], s => rfl
  | i :: p, s => (runF_len tight l room p _).trans (stepF_len tight l room s i)
/-- What stood there before is of no matter, where all is put. -/
theorem runF_any (tight : Bool) (l : List Int) (room : Int) : ∀ (p : List Int) (o1 o2 left : List Int), o1.length = o2.length → (∀ k < o1.length, (k : Int) ∈ p ∨ o1.getD k 0 = o2.getD k 0) → (∀ i ∈ p, 0 ≤ i) →
    runF tight l room p (o1, left) = runF tight l room p (o2, left)
  | [], o1, o2, left, hl, h, _ => by
    have : o1 = o2 := List.ext_getElem hl fun k h1 h2 => by
      rcases h k h1 with h3 | h3
      · cases h3
      · simpa [List.getD_eq_getElem?_getD, h1, h2] using h3
    rw [this]
  | i :: p, o1, o2, left, hl, h, h0 => by
    have hi := h0 i (by simp)
    have step : ∀ v left', runF tight l room p (o1.set i.toNat v, left') = runF tight l room p (o2.set i.toNat v, left') := fun v left' => by
      refine runF_any tight l room p _ _ left' (by simpa using hl) (fun k hk => ?_) (fun j hj => h0 j (List.mem_cons_of_mem _ hj))
      rw [List.length_set] at hk
      rcases h k hk with h1 | h1
      · rcases List.mem_cons.1 h1 with h2 | h2
        · right
          have e : i.toNat = k := by omega
          simp [List.getD_eq_getElem?_getD, e, hk, (by omega : k < o2.length)]
        · exact .inl h2
      · right
        by_cases e : i.toNat = k
        · simp [List.getD_eq_getElem?_getD, e, hk, (by omega : k < o2.length)]
        · simpa [List.getD_eq_getElem?_getD, List.getElem?_set, e] using h1
    show runF tight l room p (stepF tight l room (o1, left) i) = runF tight l room p (stepF tight l room (o2, left) i)
    unfold stepF
    simp only
    split
    · exact step _ _
    · exact step _ _
/-- Nothing in a box is below nothing. -/
def Bd (room : Int) (left : List Int) : Prop := ∀ k < left.length, 0 ≤ left.getD k 0 ∧ left.getD k 0 ≤ room
theorem Bd.snoc {room : Int} {left : List Int} {v : Int} (h : Bd room left) (h1 : 0 ≤ v) (h2 : v ≤ room) : Bd room (left ++ [v]) := fun k hk => by
  rw [List.length_append, List.length_cons, List.length_nil] at hk
  by_cases e : k < left.length
  · have := h k e
    simpa [List.getD_eq_getElem?_getD, List.getElem?_append_left e] using this
  · have e' : k = left.length := by omega
    subst e'
    simp [List.getD_eq_getElem?_getD, h1, h2]
theorem Bd.set {room : Int} {left : List Int} {v : Int} {j : Nat} (h : Bd room left) (h1 : 0 ≤ v) (h2 : v ≤ room) : Bd room (left.set j v) := fun k hk => by
  rw [List.length_set] at hk
  have := h k hk
  rw [List.getD_eq_getElem?_getD, List.getElem?_set]
  split
  · rw [if_pos (by omega)]; exact ⟨h1, h2⟩
  · rwa [List.getD_eq_getElem?_getD] at this
theorem stepF_bd {tight : Bool} {l : List Int} {room : Int} {s : List Int × List Int} {i : Int} (h : Bd room s.2) (h1 : 0 ≤ l.getD i.toNat 0) (h2 : l.getD i.toNat 0 ≤ room) : Bd room (stepF tight l room s i).2 := by
  have hok := aF_ok tight s.2 (l.getD i.toNat 0)
  unfold stepF
  split
  · exact h.snoc (by omega) (by omega)
  · rename_i hn
    rcases hok with h3 | ⟨h3, h4, h5⟩
    · omega
    · have := h _ h4
      exact h.set (by omega) (by omega)
theorem stepF_n (tight : Bool) (l : List Int) (room : Int) (s : List Int × List Int) (i : Int) : (stepF tight l room s i).2.length ≤ s.2.length + 1 := by
  unfold stepF; split <;> simp
end Go.Pak

namespace Go.Ab
open Go Go.Proofs Stb Pak
set_option linter.unusedVariables false
set_option linter.unusedSimpArgs false
set_option maxRecDepth 100000
set_option maxHeartbeats 1000000

theorem take_drop0 (l : List Int) : List.take (ints l).length (List.drop 0 (ints l)) = ints l := by rw [List.drop_zero, List.take_length]

/-! the order of the things -/
def rngF (n : Nat) : List Int := (List.range n).map fun (i : Nat) => (i : Int)
theorem rngF_len (n : Nat) : (rngF n).length = n := by simp [rngF]
theorem rngF_mem {n : Nat} {i : Int} : i ∈ rngF n ↔ 0 ≤ i ∧ i.toNat < n := by
  simp only [rngF, List.mem_map, List.mem_range]
  constructor
  · rintro ⟨k, h, rfl⟩; omega
  · rintro ⟨h1, h2⟩; exact ⟨i.toNat, h2, by omega⟩
theorem order_E (l : List Int) (hl : l.length ≤ 1000) : EC Try.prog G60 [] [.r (ints l)] fun x rs vs => x = 0 ∧ rs = [ints (rngF l.length)] ∧ vs = [] := by
  refine E60 fun EV V => ?_
  rw [ints_length]
  have rep : List.replicate l.length [AV.int .i64 0] = ints (List.replicate l.length 0) := by simp [ints]
  rw [rep]
  have p9 : ∀ (d m : Nat), l.length - m < d → m ≤ l.length → EV 9 [ints (rngF m ++ List.replicate (l.length - m) 0)] [.i l.length, .i m] := by
    intro d
    induction d with
    | zero => intro m hd; omega
    | succ d ih =>
      intro m hd hm
      have lL : (rngF m ++ List.replicate (l.length - m) (0 : Int)).length = l.length := by rw [List.length_append, rngF_len, List.length_replicate]; omega
      refine V.p9 fun _ => ⟨fun hlt => ?_, fun hge => ?_⟩
      · rw [Int.toNat_natCast, ints_length, lL]
        refine ⟨by omega, by omega, ints_get (by omega), ?_⟩
        rw [ints_set, w1 m (by omega)]
        have e : (rngF m ++ List.replicate (l.length - m) (0 : Int)).set m m = rngF (m + 1) ++ List.replicate (l.length - (m + 1)) 0 := by
          have e1 : l.length - m = (l.length - (m + 1)) + 1 := by omega
          rw [e1, List.replicate_succ, set_mid _ _ _ _ (rngF_len m).symm]
          simp [rngF, List.range_succ]
        rw [e]
        exact ih (m + 1) (by omega) (by omega)
      · have e : m = l.length := by omega
        subst e
        exact ⟨rfl, by simp, rfl⟩
  exact ⟨by omega, by omega, p9 _ 0 (Nat.lt_succ_self _) (by omega)⟩

/-! the comparison -/
theorem isNaN_E (x : Int) : EC Try.prog G77 [] [.i x] fun e rs vs => e = 0 ∧ rs = [] ∧ vs = [.b false] := by
  refine E77 fun EV V => ?_
  simp
theorem compare_E (x y : Int) : EC Try.prog G63 [] [.i x, .i y] fun e rs vs => e = 0 ∧ rs = [] ∧ vs = [.i (if x < y then -1 else if x > y then 1 else 0)] := by
  refine E63 fun EV V => (isNaN_E x).mono ?_
  rintro _ _ _ ⟨rfl, rfl, rfl⟩
  refine ⟨rfl, _, rfl, rfl, (isNaN_E y).mono ?_⟩
  rintro _ _ _ ⟨rfl, rfl, rfl⟩
  refine ⟨rfl, _, rfl, rfl, fun h => (by cases h), fun _ => ⟨fun h => (by cases h), fun _ => ⟨fun h => ⟨rfl, rfl, ?_⟩, fun h => ⟨fun h' => ⟨rfl, rfl, ?_⟩, fun h' => ⟨rfl, rfl, ?_⟩⟩⟩⟩⟩
  · rw [if_pos h]
  · rw [if_neg (by omega), if_pos h']
  · rw [if_neg (by omega), if_neg (by omega)]
def ltF (l : List Int) (x y : Int) : Bool := decide (l.getD y.toNat 0 < l.getD x.toNat 0)
/-- The bigger one is ahead, of one size the one that came first. -/
def rkF (l : List Int) (x : Int) : Int := x - 100000 * l.getD x.toNat 0
def VdF (l : List Int) (x : Int) : Prop := 0 ≤ x ∧ x.toNat < l.length
theorem cmpF (l : List Int) : CmpOk (ints l) (ltF l) (VdF l) := by
  intro x y hx hy
  unfold VdF at hx hy
  refine E62 fun EV V => ⟨hy.1, ints_get hy.2, hx.1, ints_get hx.2, ?_⟩
  rw [ints_cI, ints_cI]
  refine (compare_E _ _).mono ?_
  rintro _ _ _ ⟨rfl, rfl, rfl⟩
  refine ⟨rfl, _, rfl, rfl, rfl, rfl, _, rfl, ?_⟩
  unfold ltF
  rw [decide_eq_true_iff]
  split
  · omega
  · split <;> omega
theorem rkF_lt {l : List Int} (hl : l.length ≤ 1000) {x y : Int} (hx : VdF l x) (hy : VdF l y) (h : ltF l x y = true) : rkF l x < rkF l y := by
  have := of_decide_eq_true h
  unfold VdF at hx hy
  unfold rkF
  omega
theorem sorted_E (l : List Int) (hl : l.length ≤ 1000) : EC Try.prog G61 [ints (rngF l.length)] [.r (ints l)] (SortQ (ints l) (rkF l) (rngF l.length)) := by
  refine SortStable_E (cmpF l) (fun a b ha hb h => rkF_lt hl ha hb h) (rngF l.length) (fun x hx => rngF_mem.1 hx) ?_ (by rw [rngF_len]; omega)
  unfold Td rngF
  rw [List.pairwise_map]
  refine List.Pairwise.imp_of_mem (fun {a b} ha hb hab => ?_) List.pairwise_lt_range
  rw [List.mem_range] at ha hb
  simp only [Tr, ltF, rkF, decide_eq_true_iff]
  constructor
  · constructor <;> intro h <;> omega
  · omega

/-! which box -/
theorem fits_E (r size : Int) : EC Try.prog G118 [] [.i r, .i size] fun e rs vs => e = 0 ∧ rs = [] ∧ vs = [.b (decide (r ≥ size)), .i size] := E118 fun EV V => ⟨rfl, rfl, rfl⟩
theorem indexFits_E (L : List Int) (size : Int) (hL : L.length ≤ 1000) : EC Try.prog G68b [ints L] [.i size] fun e rs vs => e = 0 ∧ rs = [ints L] ∧ vs = [.i (aF false L size), .i size] := by
  refine E68b fun _ EV V => ?_
  have p7 : ∀ (rs : List Int) (pre : List Int), L = pre ++ rs → chs false L size rs pre.length (-1) = aF false L size → EV 7 [ints L] [.i L.length, .i pre.length, .i size] := by
    intro rs
    induction rs with
    | nil =>
      intro pre hp hf
      have := congrArg List.length hp
      rw [List.append_nil] at this
      refine V.p7 fun _ => ⟨fun h => by omega, fun h => ⟨rfl, rfl, ?_⟩⟩
      rw [← hf]; rfl
    | cons r rs ih =>
      intro pre hp hf
      have hlen := congrArg List.length hp
      rw [List.length_append, List.length_cons] at hlen
      have hg : L.getD pre.length 0 = r := by rw [hp]; exact get_mid _ _ _ _ rfl
      refine V.p7 fun _ => ⟨fun h => ?_, fun h => by omega⟩
      rw [Int.toNat_natCast, ints_length]
      refine ⟨by omega, by omega, ints_get (by omega), ?_⟩
      rw [ints_cI, hg, w1 pre.length (by omega)]
      refine (fits_E r size).mono ?_
      rintro _ _ _ ⟨rfl, rfl, rfl⟩
      refine ⟨rfl, _, _, rfl, rfl, fun h1 => ⟨rfl, rfl, ?_⟩, fun h1 => ?_⟩
      · have h1 := of_decide_eq_true h1
        simp only [chs] at hf
        rw [if_pos ⟨h1, .inl (by omega)⟩, chs_first _ _ _ (by omega)] at hf
        rw [← hf]
      · have h1 := of_decide_eq_false h1
        simp only [chs] at hf
        rw [if_neg (fun h => h1 h.1)] at hf
        have := ih (pre ++ [r]) (by rw [hp]; simp) (by rw [List.length_append]; exact hf)
        rw [List.length_append] at this
        exact this
  rw [ints_length]
  exact p7 L [] rfl rfl
theorem choose1_E (L : List Int) (size : Int) (hL : L.length ≤ 1000) : EC Try.prog G117a [ints L] [.i size] fun e rs vs => e = 0 ∧ rs = [ints L] ∧ vs = [.i (aF false L size)] := by
  refine E117a fun _ EV V => (indexFits_E L size hL).mono ?_
  rintro _ _ _ ⟨rfl, rfl, rfl⟩
  exact ⟨rfl, _, _, _, rfl, rfl, rfl, rfl, rfl⟩
theorem choose2_E (L : List Int) (size : Int) (hL : L.length ≤ 1000) : EC Try.prog G119a [ints L] [.i size] fun e rs vs => e = 0 ∧ rs = [ints L] ∧ vs = [.i (aF true L size)] := by
  refine E119a fun _ EV V => ?_
  have p9 : ∀ (rs : List Int) (pre : List Int) (a : Int), L = pre ++ rs → (a = -1 ∨ 0 ≤ a ∧ a.toNat < L.length) → chs true L size rs pre.length a = aF true L size → EV 9 [ints L] [.i size, .i a, .i L.length, .i pre.length] := by
    intro rs
    induction rs with
    | nil =>
      intro pre a hp ha hf
      have := congrArg List.length hp
      rw [List.append_nil] at this
      refine V.p9 fun _ => ⟨fun h => by omega, fun h => ⟨rfl, rfl, ?_⟩⟩
      rw [← hf]; rfl
    | cons r rs ih =>
      intro pre a hp ha hf
      have hlen := congrArg List.length hp
      rw [List.length_append, List.length_cons] at hlen
      have hg : L.getD pre.length 0 = r := by rw [hp]; exact get_mid _ _ _ _ rfl
      simp only [chs] at hf
      have nxt : ∀ a', (a' = -1 ∨ 0 ≤ a' ∧ a'.toNat < L.length) → (if r ≥ size ∧ (a < 0 ∨ True ∧ r < L.getD a.toNat 0) then (pre.length : Int) else a) = a' → EV 9 [ints L] [.i size, .i a', .i L.length, .i ((pre.length + 1 : Nat) : Int)] := fun a' h1 h2 => by
        rw [h2] at hf
        have := ih (pre ++ [r]) a' (by rw [hp]; simp) h1 (by rw [List.length_append]; exact hf)
        rw [List.length_append] at this
        exact this
      refine V.p9 fun _ => ⟨fun h => ?_, fun h => by omega⟩
      rw [Int.toNat_natCast, ints_length]
      refine ⟨by omega, by omega, ints_get (by omega), ?_⟩
      rw [ints_cI, hg, w1 pre.length (by omega)]
      refine ⟨fun h1 => ⟨fun h2 => ?_, fun h2 => nxt _ (.inr ⟨by omega, by omega⟩) (by rw [if_pos ⟨h1, .inl (by omega)⟩])⟩, fun h1 => nxt _ ha (by rw [if_neg (fun h => by omega)])⟩
      obtain ⟨h3, h4⟩ : 0 ≤ a ∧ a.toNat < L.length := ha.resolve_left h2
      refine ⟨h3, by omega, ints_get h4, ?_⟩
      rw [ints_cI]
      exact ⟨fun h5 => nxt _ (.inr ⟨by omega, by omega⟩) (by rw [if_pos ⟨h1, .inr ⟨trivial, h5⟩⟩]), fun h5 => nxt _ ha (by rw [if_neg (fun h => by rcases h.2 with h6 | h6; (· omega); (· have := h6.2; omega))])⟩
  rw [ints_length]
  exact p9 L [] (-1) rfl (.inl rfl) rfl
end Go.Ab

namespace Go.Ab
open Go Go.Proofs Stb Pak
set_option linter.unusedVariables false
set_option linter.unusedSimpArgs false
set_option maxRecDepth 100000
set_option maxHeartbeats 1000000

def layF (tight : Bool) (l : List Int) (room : Int) (places : List Int) : List Int × List Int := if RightP l room then runF tight l room places (List.replicate l.length 0, []) else ([], [])
theorem repI (n : Nat) (v : Int) : List.replicate n [AV.int .i64 v] = ints (List.replicate n v) := by simp [ints]
theorem rapp_ints (L : List Int) (v : Int) : rappS (ints L) L.length [[AV.int .i64 v]] = ints (L ++ [v]) := by
  have := rappS_end (ints L) [[AV.int .i64 v]]
  rw [ints_length] at this
  rw [this, ints_append]

theorem Lay1_E (l places : List Int) (room : Int) (hl : l.length ≤ 1000) (hp : places.length ≤ 1000) (hin : ∀ i ∈ places, 0 ≤ i ∧ i.toNat < l.length) : EC Try.prog G59 [] [.r (ints l), .i room, .r (ints places)] fun x rs vs => x = 0 ∧ rs = [ints (layF false l room places).1] ∧ vs = [.i (layF false l room places).2.length] := by
  refine E59 fun EV V => (Right_E l room).mono ?_
  rintro _ _ _ ⟨rfl, rfl, rfl⟩
  refine ⟨rfl, _, rfl, rfl, fun h => ?_, fun h => ?_⟩
  · have h := of_decide_eq_false h
    unfold layF
    rw [if_neg h]
    exact ⟨rfl, rfl, rfl⟩
  have hr : RightP l room := of_decide_eq_true h
  have hbd : ∀ k < l.length, 1 ≤ l.getD k 0 ∧ l.getD k 0 ≤ room := (AllP_iff l room).1 hr.1
  have hroom := hr.2.2
  rw [ints_length, ints_length, repI]
  refine ⟨by omega, by omega, ?_⟩
  have p19 : ∀ (d m : Nat) (s : List Int × List Int), places.length - m < d → m ≤ places.length → s.1.length = l.length → Bd room s.2 → s.2.length ≤ m → runF false l room (places.drop m) s = runF false l room places (List.replicate l.length 0, []) →
      EV 19 [ints s.1, ints s.2] [.r (ints l), .i room, .r (ints places), .i places.length, .i m] := by
    intro d
    induction d with
    | zero => intro m s hd; omega
    | succ d ih =>
      intro m s hd hm h1 h2 h3 hf
      refine V.p19 fun _ _ => ⟨fun hlt => ?_, fun hge => ?_⟩
      · have hmL : m < places.length := by omega
        obtain ⟨i, hi⟩ : ∃ i, places.getD m 0 = i := ⟨_, rfl⟩
        have hmem : i ∈ places := by rw [← hi]; exact getD_mem' hmL
        obtain ⟨hi0, hiL⟩ := hin i hmem
        rw [Int.toNat_natCast]
        have gp := ints_get hmL
        refine ⟨by omega, gp, ?_⟩
        rw [ints_cI, hi]
        have gl := ints_get hiL
        refine ⟨hi0, gl, ?_⟩
        obtain ⟨z, hz⟩ : ∃ z, l.getD i.toNat 0 = z := ⟨_, rfl⟩
        have bz := hbd _ hiL
        rw [hz] at bz
        rw [ints_cI, hz] at gl ⊢
        have ok := aF_ok false s.2 z
        have bd' := stepF_bd (tight := false) (l := l) (i := i) h2 (by rw [hz]; omega) (by rw [hz]; omega)
        have len' := stepF_len false l room s i
        have nn' := stepF_n false l room s i
        have hstep : runF false l room (places.drop (m + 1)) (stepF false l room s i) = runF false l room places (List.replicate l.length 0, []) := by
          rw [List.drop_eq_getElem_cons hmL] at hf
          have e : places[m] = i := by rw [← hi]; simp [List.getD_eq_getElem?_getD, hmL]
          rw [e] at hf
          exact hf
        have nxt := ih (m + 1) _ (by omega) (by omega) (len'.trans h1) bd' (by omega) hstep
        have lR0 := ints_length s.1
        rw [w1 m (by omega)]
        refine (choose1_E s.2 z (by omega)).mono ?_
        rintro _ _ _ ⟨rfl, rfl, rfl⟩
        have g0 : (ints s.1)[i.toNat]? = some [.int .i64 (cIS (ints s.1) i.toNat 0)] := ints_get (by omega)
        refine ⟨rfl, _, _, rfl, rfl, fun h6 => ?_, fun h6 => ?_⟩
        · rw [ints_length, sW (x := ((s.2.length + 1 : Nat) : Int) - 1) (n := s.2.length) (by omega) (by omega), Int.toNat_natCast, rapp_ints]
          have lS : (s.2 ++ [room]).length = s.2.length + 1 := by simp
          have gr := ints_get (l := s.2 ++ [room]) (i := s.2.length) (by omega)
          refine ⟨rfl, Nat.le_refl _, by omega, by omega, hi0, gl, by omega, by omega, gr, by omega, g0, ?_⟩
          rw [ints_cI, get_mid _ _ _ _ rfl, sW (x := room - z) (n := (room - z).toNat) (by omega) (by omega), ints_set, ints_set, set_mid _ _ _ _ rfl]
          refine ⟨by simp, ?_⟩
          unfold stepF at nxt
          rw [hz, if_pos h6] at nxt
          rw [show (((room - z).toNat : Nat) : Int) = room - z from by omega]
          exact nxt
        · rcases ok with h7 | ⟨h7, h8, h9⟩
          · omega
          · have bq := h2 _ h8
            have ga := ints_get h8
            rw [ints_length]
            refine ⟨hi0, gl, h6, by omega, rfl, ga, by omega, g0, ?_⟩
            rw [ints_cI, sW (x := s.2.getD (aF false s.2 z).toNat 0 - z) (n := (s.2.getD (aF false s.2 z).toNat 0 - z).toNat) (by omega) (by omega), ints_set, ints_set]
            refine ⟨by simp, ?_⟩
            unfold stepF at nxt
            rw [hz, if_neg (by omega)] at nxt
            rw [show (((s.2.getD (aF false s.2 z).toNat 0 - z).toNat : Nat) : Int) = s.2.getD (aF false s.2 z).toNat 0 - z from by omega]
            exact nxt
      · have e : m = places.length := by omega
        subst e
        rw [List.drop_length] at hf
        have e2 : layF false l room places = s := by
          show (if RightP l room then _ else _) = _
          rw [if_pos hr]
          exact hf.symm
        rw [e2, ints_length]
        exact ⟨rfl, rfl, rfl⟩
  exact p19 _ 0 (List.replicate l.length 0, []) (Nat.lt_succ_self _) (by omega) (by simp) (fun k hk => by simp at hk) (Nat.le_refl _) rfl

theorem Lay2_E (l places : List Int) (room : Int) (hl : l.length ≤ 1000) (hp : places.length ≤ 1000) (hin : ∀ i ∈ places, 0 ≤ i ∧ i.toNat < l.length) : EC Try.prog G59a [] [.r (ints l), .i room, .r (ints places)] fun x rs vs => x = 0 ∧ rs = [ints (layF true l room places).1] ∧ vs = [.i (layF true l room places).2.length] := by
  refine E59a fun EV V => (Right_E l room).mono ?_
  rintro _ _ _ ⟨rfl, rfl, rfl⟩
  refine ⟨rfl, _, rfl, rfl, fun h => ?_, fun h => ?_⟩
  · have h := of_decide_eq_false h
    unfold layF
    rw [if_neg h]
    exact ⟨rfl, rfl, rfl⟩
  have hr : RightP l room := of_decide_eq_true h
  have hbd : ∀ k < l.length, 1 ≤ l.getD k 0 ∧ l.getD k 0 ≤ room := (AllP_iff l room).1 hr.1
  have hroom := hr.2.2
  rw [ints_length, ints_length, repI]
  refine ⟨by omega, by omega, ?_⟩
  have p19 : ∀ (d m : Nat) (s : List Int × List Int), places.length - m < d → m ≤ places.length → s.1.length = l.length → Bd room s.2 → s.2.length ≤ m → runF true l room (places.drop m) s = runF true l room places (List.replicate l.length 0, []) →
      EV 19 [ints s.1, ints s.2] [.r (ints l), .i room, .r (ints places), .i places.length, .i m] := by
    intro d
    induction d with
    | zero => intro m s hd; omega
    | succ d ih =>
      intro m s hd hm h1 h2 h3 hf
      refine V.p19 fun _ _ => ⟨fun hlt => ?_, fun hge => ?_⟩
      · have hmL : m < places.length := by omega
        obtain ⟨i, hi⟩ : ∃ i, places.getD m 0 = i := ⟨_, rfl⟩
        have hmem : i ∈ places := by rw [← hi]; exact getD_mem' hmL
        obtain ⟨hi0, hiL⟩ := hin i hmem
        rw [Int.toNat_natCast]
        have gp := ints_get hmL
        refine ⟨by omega, gp, ?_⟩
        rw [ints_cI, hi]
        have gl := ints_get hiL
        refine ⟨hi0, gl, ?_⟩
        obtain ⟨z, hz⟩ : ∃ z, l.getD i.toNat 0 = z := ⟨_, rfl⟩
        have bz := hbd _ hiL
        rw [hz] at bz
        rw [ints_cI, hz] at gl ⊢
        have ok := aF_ok true s.2 z
        have bd' := stepF_bd (tight := true) (l := l) (i := i) h2 (by rw [hz]; omega) (by rw [hz]; omega)
        have len' := stepF_len true l room s i
        have nn' := stepF_n true l room s i
        have hstep : runF true l room (places.drop (m + 1)) (stepF true l room s i) = runF true l room places (List.replicate l.length 0, []) := by
          rw [List.drop_eq_getElem_cons hmL] at hf
          have e : places[m] = i := by rw [← hi]; simp [List.getD_eq_getElem?_getD, hmL]
          rw [e] at hf
          exact hf
        have nxt := ih (m + 1) _ (by omega) (by omega) (len'.trans h1) bd' (by omega) hstep
        have lR0 := ints_length s.1
        rw [w1 m (by omega)]
        refine (choose2_E s.2 z (by omega)).mono ?_
        rintro _ _ _ ⟨rfl, rfl, rfl⟩
        have g0 : (ints s.1)[i.toNat]? = some [.int .i64 (cIS (ints s.1) i.toNat 0)] := ints_get (by omega)
        refine ⟨rfl, _, _, rfl, rfl, fun h6 => ?_, fun h6 => ?_⟩
        · rw [ints_length, sW (x := ((s.2.length + 1 : Nat) : Int) - 1) (n := s.2.length) (by omega) (by omega), Int.toNat_natCast, rapp_ints]
          have lS : (s.2 ++ [room]).length = s.2.length + 1 := by simp
          have gr := ints_get (l := s.2 ++ [room]) (i := s.2.length) (by omega)
          refine ⟨rfl, Nat.le_refl _, by omega, by omega, hi0, gl, by omega, by omega, gr, by omega, g0, ?_⟩
          rw [ints_cI, get_mid _ _ _ _ rfl, sW (x := room - z) (n := (room - z).toNat) (by omega) (by omega), ints_set, ints_set, set_mid _ _ _ _ rfl]
          refine ⟨by simp, ?_⟩
          unfold stepF at nxt
          rw [hz, if_pos h6] at nxt
          rw [show (((room - z).toNat : Nat) : Int) = room - z from by omega]
          exact nxt
        · rcases ok with h7 | ⟨h7, h8, h9⟩
          · omega
          · have bq := h2 _ h8
            have ga := ints_get h8
            rw [ints_length]
            refine ⟨hi0, gl, h6, by omega, rfl, ga, by omega, g0, ?_⟩
            rw [ints_cI, sW (x := s.2.getD (aF true s.2 z).toNat 0 - z) (n := (s.2.getD (aF true s.2 z).toNat 0 - z).toNat) (by omega) (by omega), ints_set, ints_set]
            refine ⟨by simp, ?_⟩
            unfold stepF at nxt
            rw [hz, if_neg (by omega)] at nxt
            rw [show (((s.2.getD (aF true s.2 z).toNat 0 - z).toNat : Nat) : Int) = s.2.getD (aF true s.2 z).toNat 0 - z from by omega]
            exact nxt
      · have e : m = places.length := by omega
        subst e
        rw [List.drop_length] at hf
        have e2 : layF true l room places = s := by
          show (if RightP l room then _ else _) = _
          rw [if_pos hr]
          exact hf.symm
        rw [e2, ints_length]
        exact ⟨rfl, rfl, rfl⟩
  exact p19 _ 0 (List.replicate l.length 0, []) (Nat.lt_succ_self _) (by omega) (by simp) (fun k hk => by simp at hk) (Nat.le_refl _) rfl

theorem rngF_in (l : List Int) : ∀ i ∈ rngF l.length, 0 ≤ i ∧ i.toNat < l.length := fun i hi => rngF_mem.1 hi
theorem First_E (l : List Int) (room : Int) (hl : l.length ≤ 1000) : EC Try.prog G35 [] [.r (ints l), .i room] fun x rs vs => x = 0 ∧ rs = [ints (layF false l room (rngF l.length)).1] ∧ vs = [.i (layF false l room (rngF l.length)).2.length] := by
  refine E35 fun EV V => (order_E l hl).mono ?_
  rintro _ _ _ ⟨rfl, rfl, rfl⟩
  refine ⟨rfl, _, rfl, rfl, ?_⟩
  rw [take_drop0]
  refine (Lay1_E l _ room hl (by rw [rngF_len]; exact hl) (rngF_in l)).mono ?_
  rintro _ _ _ ⟨rfl, rfl, rfl⟩
  exact ⟨rfl, _, _, rfl, rfl, rfl, rfl, rfl⟩
theorem Best_E (l : List Int) (room : Int) (hl : l.length ≤ 1000) : EC Try.prog G37 [] [.r (ints l), .i room] fun x rs vs => x = 0 ∧ rs = [ints (layF true l room (rngF l.length)).1] ∧ vs = [.i (layF true l room (rngF l.length)).2.length] := by
  refine E37 fun EV V => (order_E l hl).mono ?_
  rintro _ _ _ ⟨rfl, rfl, rfl⟩
  refine ⟨rfl, _, rfl, rfl, ?_⟩
  rw [take_drop0]
  refine (Lay2_E l _ room hl (by rw [rngF_len]; exact hl) (rngF_in l)).mono ?_
  rintro _ _ _ ⟨rfl, rfl, rfl⟩
  exact ⟨rfl, _, _, rfl, rfl, rfl, rfl, rfl⟩
/-- The things from the biggest one on. -/
theorem Falling_E (l : List Int) (room : Int) (hl : l.length ≤ 1000) : EC Try.prog G36 [] [.r (ints l), .i room] fun x rs vs => x = 0 ∧ ∃ C : List Int, C.Perm (rngF l.length) ∧ Sd (rkF l) C ∧ rs = [ints (layF false l room C).1] ∧ vs = [.i (layF false l room C).2.length] := by
  refine E36 fun EV V => (order_E l hl).mono ?_
  rintro _ _ _ ⟨rfl, rfl, rfl⟩
  refine ⟨rfl, _, rfl, rfl, (sorted_E l hl).mono ?_⟩
  rintro _ _ _ ⟨rfl, C, rfl, rfl, q1, q2⟩
  have hlC := q1.length_eq
  rw [ints_length, ← hlC, ← ints_length C]
  rw [rngF_len] at hlC
  refine ⟨rfl, _, _, rfl, rfl, rfl, ?_⟩
  rw [take_drop0]
  refine (Lay1_E l C room hl (by omega) (fun i hi => rngF_mem.1 (q1.mem_iff.1 hi))).mono ?_
  rintro _ _ _ ⟨rfl, rfl, rfl⟩
  exact ⟨rfl, _, _, rfl, rfl, rfl, C, q1, q2, rfl, rfl⟩
end Go.Ab
