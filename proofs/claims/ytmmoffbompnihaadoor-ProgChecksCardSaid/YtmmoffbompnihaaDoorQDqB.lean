import Derived.Test.YtmmoffbompnihaaDoorQDqA
namespace Go.Ab
open Go Go.Proofs
set_option linter.unusedVariables false
set_option linter.unusedSimpArgs false
set_option maxRecDepth 100000
set_option maxHeartbeats 1000000
abbrev NSt := Int × Int × List Int
def midN (s : NSt) (o : Op3) : Option NSt :=
 if o.k = 3 then some (s.1 + 1, s.2.1, s.2.2) else if o.k = 4 then some (s.1 - 1, s.2.1, s.2.2)
 else if o.k = 7 then some (s.1, s.2.1 + o.a, s.2.2) else if o.k = 8 then some (s.1, s.2.1 - o.a, s.2.2)
 else if o.k = 5 then (if o.a ∈ s.2.2 then none else some (s.1, s.2.1, s.2.2 ++ [o.a]))
 else if o.k = 6 then (if s.2.2.getLast? = some o.a then some (s.1, s.2.1, s.2.2.dropLast) else none)
 else some s
def finN (s : NSt) : Option NSt := if 0 ≤ s.1 ∧ 0 ≤ s.2.1 then some s else none
def stepN (s : NSt) (o : Op3) : Option NSt := (midN s o).bind finN
def runN : List Op3 → NSt → Option NSt
 | [], s => some s
 | o :: l, s => (stepN s o).bind (runN l)
theorem runN_append : ∀ (a b : List Op3) (s : NSt), runN (a ++ b) s = (runN a s).bind (runN b)
 | [], b, s => rfl
 | o :: a, b, s => by
  simp only [List.cons_append, runN]
  cases stepN s o with
  | none => rfl
  | some t => exact runN_append a b t
theorem runN_succ {P : List Op3} {m : Nat} (hm : m < P.length) {s t : NSt} (h : runN (P.take m) s = some t) : runN (P.take (m + 1)) s = stepN t (op3 P m) := by
 rw [List.take_succ_eq_append_getElem hm, runN_append, h, op3_lt hm]
 simp only [Option.bind_some, runN]
 cases stepN t P[m] <;> rfl
theorem runN_none {P : List Op3} {m : Nat} {s : NSt} (h : runN (P.take m) s = none) : runN P s = none := by
 rw [← List.take_append_drop m P, runN_append, h]; rfl
def okA (o : Op3) : Prop := o.k = 7 ∨ o.k = 8 → 1 ≤ o.a ∧ o.a ≤ 4096
theorem midN_b {s t : NSt} {o : Op3} (ho : okA o) (h : midN s o = some t) : t.1 ≤ s.1 + 1 ∧ s.1 - 1 ≤ t.1 ∧ t.2.1 ≤ s.2.1 + 4096 ∧ s.2.1 - 4096 ≤ t.2.1 ∧ t.2.2.length ≤ s.2.2.length + 1 := by
 unfold midN at h
 split at h
 ·injection h with h; subst h; simp; omega
 ·split at h
  ·injection h with h; subst h; simp; omega
  ·split at h
   ·rename_i hk; have := ho (.inl hk)
    injection h with h; subst h; simp; omega
   ·split at h
    ·rename_i hk; have := ho (.inr hk)
     injection h with h; subst h; simp; omega
    ·split at h
     ·split at h
      ·cases h
      ·injection h with h; subst h; simp; omega
     ·split at h
      ·split at h
       ·injection h with h; subst h; simp; omega
       ·cases h
      ·injection h with h; subst h; simp; omega
theorem stepN_some {s t : NSt} {o : Op3} (h : stepN s o = some t) : midN s o = some t ∧ 0 ≤ t.1 ∧ 0 ≤ t.2.1 := by
 unfold stepN at h
 cases hm : midN s o with
 | none => rw [hm] at h; cases h
 | some u =>
  rw [hm] at h
  simp only [Option.bind_some, finN] at h
  split at h
  ·rename_i hc
   injection h with h; subst h
   exact ⟨rfl, hc⟩
  ·cases h
theorem rapp_ints (W : List Int) (n : Nat) (a : Int) : rappS (ints W) n (List.take 1 (List.drop 0 [[AV.int .i64 a]])) = ints (W.take n ++ [a] ++ W.drop (n + 1)) := by
 show rappS (ints W) n [[AV.int .i64 a]] = _
 simp only [rappS, ints, List.map_append, List.map_take, List.map_drop, List.map_cons, List.map_nil, List.length_cons, List.length_nil]
theorem take_rapp {W : List Int} {n : Nat} (hn : n ≤ W.length) (a : Int) : (W.take n ++ [a] ++ W.drop (n + 1)).take (n + 1) = W.take n ++ [a] := by
 rw [List.take_append_of_le_length (by simp; omega), List.take_of_length_le (by simp; omega)]
theorem getLast_take {W : List Int} {n : Nat} (hn : n < W.length) : (W.take (n + 1)).getLast? = some W[n] := by
 rw [List.take_succ_eq_append_getElem hn, List.getLast?_concat]
theorem dropLast_take {W : List Int} {n : Nat} (hn : n < W.length) : (W.take (n + 1)).dropLast = W.take n := by
 rw [List.take_succ_eq_append_getElem hn, List.dropLast_concat]
theorem Index_E (W : List Int) (n : Nat) (hn : n ≤ W.length) (hW : W.length ≤ 100000) (v : Int) : EC Tryd.prog G122a [ints W] [.n n, .i v] fun x rs vs => x = 0 ∧ rs = [ints W] ∧ ∃ k, vs = [.i k] ∧ (0 ≤ k ↔ v ∈ W.take n) := by
 refine E122a fun _ EV V => ?_
 have loop : ∀ d m : Nat, m + d = n → v ∉ W.take m → EV 7 [ints W] [.n n, .i v, .i (n : Int), .i (m : Int)] := by
  intro d
  induction d with
  | zero =>
   intro m hm hv
   refine V.p7 fun _ => ⟨fun h => by omega, fun _ => ⟨rfl, rfl, _, rfl, ?_⟩⟩
   obtain rfl : m = n := by omega
   simp [hv]
  | succ d ih =>
   intro m hm hv
   have hlt : m < W.length := by omega
   have e1 : cIS (ints W) (Int.toNat (m : Int)) 0 = W[m] := by rw [ints_cI]; exact getD_get hlt
   refine V.p7 fun _ => ⟨fun h => ⟨by omega, by simp; omega, ints_get hlt, ?_⟩, fun h => by omega⟩
   rw [e1]
   refine ⟨fun h => ⟨rfl, rfl, _, rfl, ?_⟩, fun h => ?_⟩
   ·have : v ∈ W.take n := by
     rw [h]
     exact List.mem_take_iff_getElem.2 ⟨m, by omega, rfl⟩
    simp [this]
   ·rw [wrap64 (by omega) (by omega), show (m : Int) + 1 = ((m + 1 : Nat) : Int) by omega]
    refine ih (m + 1) (by omega) ?_
    rw [List.take_succ_eq_append_getElem hlt, List.mem_append, List.mem_singleton]
    rintro (h1 | h1)
    ·exact hv h1
    ·exact h h1
 exact loop n 0 (by omega) (by simp)
theorem Contains_E (W : List Int) (n : Nat) (hn : n ≤ W.length) (hW : W.length ≤ 100000) (v : Int) : EC Tryd.prog G99a [ints W] [.n n, .i v] fun x rs vs => x = 0 ∧ rs = [ints W] ∧ vs = [.b (decide (v ∈ W.take n))] := by
 refine E99a fun _ _ _ => (Index_E W n hn hW v).mono ?_
 rintro _ _ _ ⟨rfl, rfl, k, rfl, hk⟩
 refine ⟨rfl, _, _, rfl, rfl, rfl, rfl, ?_⟩
 have : decide (k ≥ (0 : Int)) = decide (v ∈ W.take n) := by
  by_cases h : v ∈ W.take n
  ·have := hk.2 h; simp [h]; omega
  ·have : ¬ 0 ≤ k := fun hx => h (hk.1 hx)
   simp [h]; omega
 rw [this]
theorem Step_E (W : List Int) (n : Nat) (hn : n ≤ W.length) (hW : W.length ≤ 1000) (o : Op3) (ho : okA o) (r d : Int) (hr : 0 ≤ r ∧ r ≤ 1000000) (hd : 0 ≤ d ∧ d ≤ 1000000) :
  EC Tryd.prog G78a [ints W] [.i o.k, .i o.a, .i o.b, .i r, .i d, .n n] fun x rs vs => x = 0 ∧ ∃ (W' : List Int) (b : Bool) (r' d' : Int) (n' : Nat), rs = [ints W'] ∧ vs = [.b b, .i r', .i d', .n n'] ∧ n' ≤ W'.length ∧ W'.length ≤ W.length + 1 ∧ stepN (r, d, W.take n) o = if b = true then some (r', d', W'.take n') else none := by
 refine E78a fun _ EV V => ?_
 have out : ∀ {W' : List Int} {b : Bool} {r' d' : Int} {n' : Nat}, n' ≤ W'.length → W'.length ≤ W.length + 1 → (stepN (r, d, W.take n) o = if b = true then some (r', d', W'.take n') else none) → (0 : Nat) = 0 ∧ ∃ (W'' : List Int) (b'' : Bool) (r'' d'' : Int) (n'' : Nat), [ints W'] = [ints W''] ∧ [Lf.b b, .i r', .i d', .n n'] = [.b b'', .i r'', .i d'', .n n''] ∧ n'' ≤ W''.length ∧ W''.length ≤ W.length + 1 ∧ stepN (r, d, W.take n) o = if b'' = true then some (r'', d'', W''.take n'') else none :=
  fun h1 h2 h3 => ⟨rfl, _, _, _, _, _, rfl, rfl, h1, h2, h3⟩
 have fin : ∀ {r' d' : Int} {l : List Int}, midN (r, d, W.take n) o = some (r', d', l) → (r' ≥ 0 → stepN (r, d, W.take n) o = if decide (d' ≥ 0) = true then some (r', d', l) else none) ∧ (r' < 0 → stepN (r, d, W.take n) o = none) := by
  intro r' d' l hm
  refine ⟨fun h => ?_, fun h => ?_⟩
  ·rw [stepN, hm]
   simp only [Option.bind_some, finN]
   by_cases h2 : 0 ≤ d'
   ·have h : 0 ≤ r' := h
    simp [h, h2]
   ·simp [h2]
  ·rw [stepN, hm]
   simp only [Option.bind_some, finN]
   rw [if_neg (by simp; omega)]
 refine ⟨fun hk => ?_, fun hk3 => ⟨fun hk => ?_, fun hk4 => ⟨fun hk => ?_, fun hk7 => ⟨fun hk => ?_, fun hk8 => ⟨fun hk => ?_, fun hk5 => ⟨fun hk => ?_, fun hk6 => ?_⟩⟩⟩⟩⟩⟩
 ·have hm : midN (r, d, W.take n) o = some (r + 1, d, W.take n) := by simp [midN, hk]
  rw [wrap64 (by omega) (by omega)]
  exact ⟨fun h => out hn (by omega) ((fin hm).1 h), fun h => out hn (by omega) ((fin hm).2 h)⟩
 ·have hm : midN (r, d, W.take n) o = some (r - 1, d, W.take n) := by simp [midN, hk]
  rw [wrap64 (by omega) (by omega)]
  exact ⟨fun h => out hn (by omega) ((fin hm).1 h), fun h => out hn (by omega) ((fin hm).2 h)⟩
 ·have hm : midN (r, d, W.take n) o = some (r, d + o.a, W.take n) := by simp [midN, hk]
  have := ho (.inl hk)
  rw [wrap64 (by omega) (by omega)]
  exact ⟨fun h => out hn (by omega) ((fin hm).1 h), fun h => out hn (by omega) ((fin hm).2 h)⟩
 ·have hm : midN (r, d, W.take n) o = some (r, d - o.a, W.take n) := by simp [midN, hk]
  have := ho (.inr hk)
  rw [wrap64 (by omega) (by omega)]
  exact ⟨fun h => out hn (by omega) ((fin hm).1 h), fun h => out hn (by omega) ((fin hm).2 h)⟩
 ·refine (Contains_E W n hn (by omega) o.a).mono ?_
  rintro _ _ _ ⟨rfl, rfl, rfl⟩
  refine ⟨rfl, _, _, rfl, rfl, fun h => ⟨rfl, out hn (by omega) ?_⟩, fun h => ⟨rfl, by simp; omega, ?_, ?_, ?_⟩⟩
  ·have h : o.a ∈ W.take n := by simpa using h
   simp [stepN, midN, hk, h]
  ·show n + 1 ≤ _; omega
  ·show (n + 1) * 8 ≤ _; omega
  ·have h : ¬ o.a ∈ W.take n := by simpa using h
   have hm : midN (r, d, W.take n) o = some (r, d, W.take n ++ [o.a]) := by simp [midN, hk, h]
   rw [rapp_ints]
   rw [← take_rapp hn o.a] at hm
   have hl : n + 1 ≤ (W.take n ++ [o.a] ++ W.drop (n + 1)).length := by simp; omega
   have hl2 : (W.take n ++ [o.a] ++ W.drop (n + 1)).length ≤ W.length + 1 := by simp; omega
   exact ⟨fun h => out hl hl2 ((fin hm).1 h), fun h => out hl hl2 ((fin hm).2 h)⟩
 ·have hw : IntKind.wrap .i64 ((n : Int) - 1) = (n : Int) - 1 := wrap64 (by omega) (by omega)
  rw [hw]
  refine ⟨fun h => out hn (by omega) ?_, fun h => ?_⟩
  ·obtain rfl : n = 0 := by omega
   simp [stepN, midN, hk]
  ·obtain ⟨p, rfl⟩ : ∃ p, n = p + 1 := ⟨n - 1, by omega⟩
   have ep : Int.toNat (((p + 1 : Nat) : Int) - 1) = p := by omega
   have hp : p < W.length := by omega
   have e1 : cIS (ints W) p 0 = W[p] := by rw [ints_cI]; exact getD_get hp
   rw [ep]
   refine ⟨by omega, by omega, ints_get hp, fun hne => out hn (by omega) ?_, fun heq => ⟨by omega, by omega, ?_⟩⟩
   ·rw [e1] at hne
    have : (W.take (p + 1)).getLast? ≠ some o.a := by rw [getLast_take hp]; simpa using hne
    simp [stepN, midN, hk, this]
   ·rw [e1] at heq
    have hm : midN (r, d, W.take (p + 1)) o = some (r, d, W.take p) := by
     have e2 : (W.take (p + 1)).getLast? = some o.a := by rw [getLast_take hp, heq]
     simp only [midN, hk, e2, dropLast_take hp]
     simp
    exact ⟨fun h => out (by omega) (by omega) ((fin hm).1 h), fun h => out (by omega) (by omega) ((fin hm).2 h)⟩
 ·have hm : midN (r, d, W.take n) o = some (r, d, W.take n) := by simp [midN, hk3, hk4, hk5, hk6, hk7, hk8]
  exact ⟨fun h => out hn (by omega) ((fin hm).1 h), fun h => out hn (by omega) ((fin hm).2 h)⟩
def s0 : NSt := (0, 0, [])
def goZ (nm ng nc nl : Int) : List Op3 → NSt → Int
 | [], s => if 0 < s.1 ∨ s.2.2 ≠ [] then 9 else 0
 | o :: l, s => if opZ nm ng nc nl o ≠ 0 then opZ nm ng nc nl o else match stepN s o with
  | none => 9
  | some t => goZ nm ng nc nl l t
def progZ (nm ng nc nl : Int) (P : List Op3) : Int := if P.length = 0 then 1 else if 64 < P.length then 4 else goZ nm ng nc nl P s0
theorem opZ_okA {nm ng nc nl : Int} {o : Op3} (h : opZ nm ng nc nl o = 0) : okA o := by
 intro hk
 unfold opZ at h
 split at h
 ·cases h
 ·split at h
  ·rename_i h1
   simp only [inZ, Bool.and_eq_true, decide_eq_true_eq] at h1
   have e1 : loZ o.k = 1 := by rcases hk with e | e <;> simp [loZ, e]
   have e2 : hiZ nm ng nc nl o.k = 4096 := by rcases hk with e | e <;> simp [hiZ, e]
   omega
  ·cases h
theorem drop_op {P : List Op3} {m : Nat} (hm : m < P.length) : P.drop m = op3 P m :: P.drop (m + 1) := by
 rw [List.drop_eq_getElem_cons hm, op3_lt hm]
theorem PCheck_E {nm ng nc nl : Int} (hr : Rm nm ng nc nl) (P : List Op3) : EC Tryd.prog G39 [] [.r (P.map encO), .i nm, .i ng, .i nc, .i nl] fun x rs vs => x = 0 ∧ rs = [] ∧ vs = [.i (progZ nm ng nc nl P)] := by
 refine E39 fun EV V => ?_
 rw [List.length_map]
 refine ⟨fun h => ⟨rfl, rfl, by rw [progZ, if_pos (by omega)]⟩, fun h0 => ⟨fun h => ⟨rfl, rfl, by rw [progZ, if_neg (by omega), if_pos (by omega)]⟩, fun h1 => ?_⟩⟩
 have hgo : progZ nm ng nc nl P = goZ nm ng nc nl P s0 := by rw [progZ, if_neg (by omega), if_neg (by omega)]
 rw [hgo] at V
 have loop : ∀ (k m : Nat) (r d : Int) (W : List Int) (n : Nat), m + k = P.length → n ≤ W.length → W.length ≤ m → (0 ≤ r ∧ r ≤ m) → (0 ≤ d ∧ d ≤ 4096 * m) → goZ nm ng nc nl (P.drop m) (r, d, W.take n) = goZ nm ng nc nl P s0 →
   EV 24 [ints W] [.r (P.map encO), .i (P.length : Int), .i (m : Int), .i nm, .i ng, .i nc, .i nl, .i r, .i d, .n n] := by
  intro k
  induction k with
  | zero =>
   intro m r d W n hm hn hW hr' hd hg
   rw [List.drop_of_length_le (by omega), goZ] at hg
   refine V.p24 fun _ => ⟨fun h => by omega, fun _ => ⟨fun h2 => ⟨fun h3 => ⟨rfl, rfl, ?_⟩, fun h3 => ⟨rfl, rfl, ?_⟩⟩, fun h2 => ⟨rfl, rfl, ?_⟩⟩⟩
   ·have h4 : W.take n ≠ [] := by
     intro h4
     have h5 : (W.take n).length = 0 := by rw [h4]; rfl
     rw [List.length_take] at h5
     omega
    rw [← hg, if_pos (.inr h4)]
   ·obtain rfl : n = 0 := by omega
    rw [← hg, if_neg (by simp; omega)]
   ·rw [← hg, if_pos (.inl h2)]
  | succ k ih =>
   intro m r d W n hm hn hW hr' hd hg
   have hlt : m < P.length := by omega
   rw [drop_op hlt, goZ] at hg
   refine V.p24 fun _ => ⟨fun _ => ⟨by omega, op3_get hlt, ?_⟩, fun h => by omega⟩
   rw [op30, op31, op32, Int.toNat_natCast]
   refine (Op_E hr (op3 P m)).mono ?_
   rintro _ _ _ ⟨rfl, rfl, rfl⟩
   refine ⟨rfl, _, rfl, rfl, fun h => ⟨rfl, rfl, by rw [if_pos h] at hg; rw [hg]⟩, fun h => ?_⟩
   rw [if_neg (by simp [h])] at hg
   have ho := opZ_okA h
   refine (Step_E W n hn (by omega) (op3 P m) ho r d (by omega) (by omega)).mono ?_
   rintro _ _ _ ⟨rfl, W', b, r', d', n', rfl, rfl, h1', h2', h3'⟩
   refine ⟨rfl, _, _, _, _, _, rfl, rfl, fun h => ⟨rfl, rfl, ?_⟩, fun h => ?_⟩
   ·rw [h3', h] at hg
    simp at hg
    rw [← hg]
   ·rw [h3', h] at hg
    simp only [if_true] at hg
    rw [h, if_pos rfl] at h3'
    obtain ⟨g1, g2, g3⟩ := stepN_some h3'
    have gb := midN_b ho g1
    simp only at g2 g3 gb
    rw [wrap64 (by omega) (by omega), show (m : Int) + 1 = ((m + 1 : Nat) : Int) by omega]
    exact ih (m + 1) r' d' W' n' (by omega) h1' (by omega) (by omega) (by omega) hg
 exact loop P.length 0 0 0 [] 0 (by omega) (by simp) (by simp) (by simp) (by simp) rfl
end Go.Ab
