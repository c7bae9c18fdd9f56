/- Packing: whether any packing is right is what boxes' sums tell. For every input. -/
import Derived.Test.YtdmpiondalhonaaPackA
namespace Go.Ab
open Go Go.Proofs
set_option linter.unusedVariables false
set_option linter.unusedSimpArgs false
set_option maxRecDepth 100000
set_option maxHeartbeats 1000000

/-- The sum of the first things that lie in a box. -/
def psum (l bs : List Int) (b : Int) : Nat → Int
  | 0 => 0
  | m + 1 => psum l bs b m + (if bs.getD m 0 = b then l.getD m 0 else 0)
def CheckP (l : List Int) (room : Int) (bs : List Int) : Prop := RightP l room ∧ bs.length = l.length ∧ ∀ i < bs.length, 0 ≤ bs.getD i 0 ∧ psum l bs (bs.getD i 0) bs.length ≤ room
instance (l : List Int) (room : Int) (bs : List Int) : Decidable (CheckP l room bs) := by unfold CheckP; infer_instance

theorem psum_bd {l bs : List Int} {b : Int} (h : ∀ k < l.length, 1 ≤ l.getD k 0 ∧ l.getD k 0 ≤ 1048576) : ∀ m, m ≤ l.length → 0 ≤ psum l bs b m ∧ psum l bs b m ≤ m * 1048576
  | 0, _ => ⟨Int.le_refl 0, by show (0 : Int) ≤ _; omega⟩
  | m + 1, hm => by
    have := psum_bd (bs := bs) (b := b) h m (by omega)
    have := h m (by omega)
    simp only [psum]
    split <;> omega
theorem psum_mono {l bs : List Int} {b : Int} (h : ∀ k < l.length, 1 ≤ l.getD k 0 ∧ l.getD k 0 ≤ 1048576) {m : Nat} : ∀ n, m ≤ n → n ≤ l.length → psum l bs b m ≤ psum l bs b n
  | 0, hm, _ => by obtain rfl : m = 0 := by omega
                   exact Int.le_refl _
  | n + 1, hm, hn => by
    rcases Nat.lt_or_ge m (n + 1) with h1 | h1
    · have := psum_mono (bs := bs) (b := b) h (m := m) n (by omega) (by omega)
      have := h n (by omega)
      simp only [psum]
      split <;> omega
    · obtain rfl : m = n + 1 := by omega
      exact Int.le_refl _
theorem psum_all {l bs : List Int} {room : Int} (h0 : 0 ≤ room) : ∀ m, (∀ k < m, psum l bs (bs.getD k 0) (k + 1) ≤ room) → ∀ b, psum l bs b m ≤ room
  | 0, _, b => h0
  | m + 1, h, b => by
    by_cases e : bs.getD m 0 = b
    · subst e; exact h m (by omega)
    · have := psum_all h0 m (fun k hk => h k (by omega)) b
      simp only [psum, if_neg e]
      omega

/-! the map -/
def encI (p : Int × Int) : List AV := [.int .i64 p.1, .int .i64 p.2]
def look : List (Int × Int) → Int → Int
  | [], _ => 0
  | (k, v) :: M, n => if n = k then v else look M n
def putM : List (Int × Int) → Int → Int → List (Int × Int)
  | [], n, v => [(n, v)]
  | (k, u) :: M, n, v => if n = k then (n, v) :: M else (k, u) :: putM M n v
theorem look_put (n v b : Int) : ∀ M, look (putM M n v) b = if b = n then v else look M b
  | [] => rfl
  | (k, u) :: M => by
    simp only [putM]
    by_cases h : n = k
    · subst h
      rw [if_pos rfl]
      simp only [look]
      split <;> rfl
    · rw [if_neg h]
      simp only [look, look_put n v b M]
      by_cases h1 : b = k
      · subst h1
        rw [if_pos rfl, if_neg (fun e => h e.symm)]
        simp
      · rw [if_neg h1, if_neg h1]
theorem mget_enc (n : Int) : ∀ M : List (Int × Int), mgetS .i64 n (.int .i64 0) (M.map encI) = some (.int .i64 (look M n))
  | [] => rfl
  | (k, v) :: M => by
    simp only [List.map_cons, encI, mgetS, if_true, look]
    by_cases h : n = k
    · simp only [if_pos h]
    · simp only [if_neg h]; exact mget_enc n M
theorem mIS_enc (n : Int) : ∀ M : List (Int × Int), mIS (M.map encI) .i64 n = look M n
  | [] => rfl
  | (k, v) :: M => by
    have ih := mIS_enc n M
    unfold mIS at ih ⊢
    simp only [List.map_cons, encI, mgetS, if_true, look]
    by_cases h : n = k
    · simp only [if_pos h]
    · simp only [if_neg h]; exact ih
theorem mset_enc (n v : Int) : ∀ M : List (Int × Int), msetS .i64 n (.int .i64 v) (M.map encI) = some ((putM M n v).map encI)
  | [] => rfl
  | (k, u) :: M => by
    simp only [List.map_cons, encI, msetS, if_true, putM]
    by_cases h : n = k
    · simp only [if_pos h]; rfl
    · simp only [if_neg h]
      have := mset_enc n v M
      unfold encI at this ⊢
      rw [this]
      rfl
theorem mSS_enc (n v : Int) (M : List (Int × Int)) : mSS (M.map encI) .i64 n (.int .i64 v) = (putM M n v).map encI := by
  unfold mSS; rw [mset_enc]; rfl

theorem Check_E (l : List Int) (room : Int) (bs : List Int) (hl : l.length ≤ 4096) (hb : bs.length ≤ 1000) : EC Try.prog G34 [] [.r (ints l), .i room, .r (ints bs)] fun x rs vs => x = 0 ∧ rs = [] ∧ vs = [.b (decide (CheckP l room bs))] := by
  have no : ¬ CheckP l room bs → ((0 : Nat) = 0 ∧ ([] : Rs) = [] ∧ [Lf.b false] = [Lf.b (decide (CheckP l room bs))]) := fun h => ⟨rfl, rfl, by rw [decide_eq_false h]⟩
  refine E34 fun EV V => (Right_E l room).mono ?_
  rintro _ _ _ ⟨rfl, rfl, rfl⟩
  rw [ints_length, ints_length]
  refine ⟨rfl, _, rfl, rfl, fun h1 => ⟨fun h2 => no fun hc => h2 (by have := hc.2.1; omega), fun h2 => ?_⟩, fun h1 => no fun hc => of_decide_eq_false h1 hc.1⟩
  have hr : RightP l room := of_decide_eq_true h1
  have hlen : bs.length = l.length := by omega
  have hbd : ∀ k < l.length, 1 ≤ l.getD k 0 ∧ l.getD k 0 ≤ 1048576 := fun k hk => by
    have := (AllP_iff l room).1 hr.1 k hk
    have := hr.2.2.2
    omega
  have h0 : 0 ≤ room := by have := hr.2.2.1; omega
  have p17 : ∀ (d m : Nat) (M : List (Int × Int)), bs.length - m < d → m ≤ bs.length → (∀ b, look M b = psum l bs b m) → (∀ k < m, 0 ≤ bs.getD k 0 ∧ psum l bs (bs.getD k 0) (k + 1) ≤ room) → EV 17 [M.map encI] [.r (ints l), .i room, .r (ints bs), .i bs.length, .i m] := by
    intro d
    induction d with
    | zero => intro m M hd; omega
    | succ d ih =>
      intro m M hd hm hM hg
      refine V.p17 fun _ => ⟨fun hlt => ?_, fun hge => ?_⟩
      · have hmL : m < bs.length := by omega
        have hmL' : m < l.length := by omega
        rw [Int.toNat_natCast]
        refine ⟨by omega, ints_get hmL, ints_get hmL', ?_⟩
        have b1 := psum_bd (bs := bs) (b := bs.getD m 0) hbd m (by omega)
        have b2 := hbd m hmL'
        have es : psum l bs (bs.getD m 0) (m + 1) = psum l bs (bs.getD m 0) m + l.getD m 0 := by simp only [psum, if_true]
        rw [ints_cI, ints_cI, w1 m (by omega), mIS_enc, hM, wrap64 (by omega) (by omega), mSS_enc, ← es, mset_enc, mget_enc, mget_enc, mIS_enc, hM]
        have ep : look (putM M (bs.getD m 0) (psum l bs (bs.getD m 0) (m + 1))) (bs.getD m 0) = psum l bs (bs.getD m 0) (m + 1) := by rw [look_put, if_pos rfl]
        rw [ep]
        have bad : psum l bs (bs.getD m 0) (m + 1) > room → ¬ CheckP l room bs := fun h hc => by
          have h3 := (hc.2.2 m hmL).2
          have h4 := psum_mono (bs := bs) (b := bs.getD m 0) hbd (m := m + 1) bs.length (by omega) (by omega)
          omega
        refine ⟨rfl, rfl, fun h3 => ⟨rfl, fun h4 => no (bad h4), fun h4 => ih (m + 1) _ (by omega) (by omega) (fun b => ?_) fun k hk => ?_⟩, fun h3 => no fun hc => ?_⟩
        · rw [look_put]
          by_cases e : b = bs.getD m 0
          · rw [if_pos e, e]
          · rw [if_neg e, hM]
            have e' : ¬ bs.getD m 0 = b := fun h => e h.symm
            simp only [psum, if_neg e']
            omega
        · rcases Nat.lt_succ_iff_lt_or_eq.1 hk with h' | rfl
          · exact hg k h'
          · exact ⟨h3, h4⟩
        · have := (hc.2.2 m hmL).1; omega
      · have e : m = bs.length := by omega
        subst e
        refine ⟨rfl, rfl, ?_⟩
        rw [decide_eq_true]
        exact ⟨hr, hlen, fun i hi => ⟨(hg i hi).1, psum_all h0 _ (fun k hk => (hg k hk).2) _⟩⟩
  exact p17 _ 0 [] (Nat.lt_succ_self _) (by omega) (fun b => rfl) (fun k hk => by omega)

end Go.Ab
