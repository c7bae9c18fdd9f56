/- Packing: the document's ways. For every input. -/
import Derived.Test.YtdmpiondalhonaaPkVT
import Derived.Test.YtdmpiondalhonaaPackC
import Derived.Test.YtdmpiondalhonaaPackI
namespace Go.Ab
open Go Go.Proofs Stb Pak
set_option linter.unusedVariables false
set_option linter.unusedSimpArgs false
set_option maxRecDepth 100000
set_option maxHeartbeats 1000000

/-! what is left in a box -/
theorem psum_none {l bx : List Int} {b : Int} : ∀ m, (∀ k < m, bx.getD k 0 ≠ b) → psum l bx b m = 0
  | 0, _ => rfl
  | m + 1, h => by simp only [psum]; rw [psum_none m (fun k hk => h k (by omega)), if_neg (h m (by omega))]; rfl
theorem getD_set (bx : List Int) (i k : Nat) (v : Int) (h : i < bx.length) : (bx.set i v).getD k 0 = if k = i then v else bx.getD k 0 := by
  rw [List.getD_eq_getElem?_getD, List.getElem?_set, List.getD_eq_getElem?_getD]
  by_cases e : i = k
  · subst e; simp [h]
  · rw [if_neg e, if_neg (fun h => e h.symm)]
theorem psum_set {l bx : List Int} {i : Nat} {v b : Int} (hi : i < bx.length) (h1 : bx.getD i 0 = -1) (hb : 0 ≤ b) : ∀ m, psum l (bx.set i v) b m = psum l bx b m + (if i < m ∧ b = v then l.getD i 0 else 0)
  | 0 => by simp [psum]
  | m + 1 => by
    simp only [psum]
    rw [psum_set hi h1 hb m, getD_set _ _ _ _ hi]
    by_cases e : m = i
    · subst e
      have hne : ¬ bx.getD m 0 = b := by rw [h1]; omega
      rw [if_pos (rfl : m = m), if_neg hne, if_neg (fun h : m < m ∧ b = v => by omega)]
      by_cases e2 : v = b
      · rw [if_pos e2, if_pos ⟨by omega, e2.symm⟩]
      · rw [if_neg e2, if_neg (fun h => e2 h.2.symm)]
    · rw [if_neg e]
      by_cases e3 : i < m ∧ b = v
      · rw [if_pos e3, if_pos (⟨by omega, e3.2⟩ : i < m + 1 ∧ b = v)]; omega
      · rw [if_neg e3, if_neg (fun h : i < m + 1 ∧ b = v => e3 ⟨by omega, h.2⟩)]; omega

theorem Left_E (l bx : List Int) (room b : Int) (hl : l.length ≤ 1000) (hb : bx.length = l.length) (hr : 0 ≤ room ∧ room ≤ 1048576) (hbd : ∀ k < l.length, 1 ≤ l.getD k 0 ∧ l.getD k 0 ≤ 1048576) :
    EC Try.prog G64a [ints bx] [.r (ints l), .i room, .i b] fun x rs vs => x = 0 ∧ rs = [ints bx] ∧ vs = [.i (room - psum l bx b l.length)] := by
  refine E64a fun _ EV V => ?_
  have p7 : ∀ (d m : Nat), bx.length - m < d → m ≤ bx.length → EV 7 [ints bx] [.r (ints l), .i (room - psum l bx b m), .i b, .i bx.length, .i m] := by
    intro d
    induction d with
    | zero => intro m hd; omega
    | succ d ih =>
      intro m hd hm
      refine V.p7 fun _ => ⟨fun hlt => ?_, fun hge => ?_⟩
      · have hmB : m < bx.length := by omega
        have hmL : m < l.length := by omega
        have b1 := psum_bd (bs := bx) (b := b) hbd m (by omega)
        have b2 := hbd m hmL
        have nxt := ih (m + 1) (by omega) (by omega)
        simp only [psum] at nxt
        rw [Int.toNat_natCast, ints_length]
        refine ⟨by omega, by omega, ints_get hmB, ?_⟩
        rw [ints_cI, w1 m (by omega)]
        refine ⟨fun h => ⟨by omega, ints_get hmL, ?_⟩, fun h => ?_⟩
        · rw [ints_cI, wrap64 (by omega) (by omega)]
          have e : room - (psum l bx b m + l.getD m 0) = room - psum l bx b m - l.getD m 0 := by omega
          rw [if_pos h, e] at nxt
          exact nxt
        · rw [if_neg h, Int.add_zero] at nxt
          exact nxt
      · have e : m = l.length := by omega
        subst e
        exact ⟨rfl, rfl, rfl⟩
  rw [ints_length]
  have := p7 _ 0 (Nat.lt_succ_self _) (by omega)
  simp only [psum, Int.sub_zero] at this
  exact this

theorem RPack_E (l places : List Int) (room : Int) (tight : Bool) (hl : l.length ≤ 1000) (hp : places.length ≤ 1000) (hin : ∀ i ∈ places, 0 ≤ i ∧ i.toNat < l.length) (hnd : places.Nodup) (hr : RightP l room) :
    EC Try.prog G39 [] [.r (ints l), .i room, .r (ints places), .b tight] fun x rs vs => x = 0 ∧ rs = [ints (runF tight l room places (List.replicate l.length (-1), [])).1] ∧ vs = [.i (runF tight l room places (List.replicate l.length (-1), [])).2.length] := by
  have hbd0 : ∀ k < l.length, 1 ≤ l.getD k 0 ∧ l.getD k 0 ≤ room := (AllP_iff l room).1 hr.1
  have hroom := hr.2.2
  have hbd : ∀ k < l.length, 1 ≤ l.getD k 0 ∧ l.getD k 0 ≤ 1048576 := fun k hk => by have := hbd0 k hk; omega
  refine E39 fun EV V => ?_
  rw [ints_length, repI]
  refine ⟨by omega, by omega, ?_⟩
  have p28 : ∀ (d m : Nat) (s : List Int × List Int), places.length - m < d → m ≤ places.length → s.1.length = l.length → Bd room s.2 → s.2.length ≤ m → (∀ b < s.2.length, s.2.getD b 0 = room - psum l s.1 b l.length) → (∀ k < l.length, s.1.getD k 0 < s.2.length) → (∀ i ∈ places.drop m, s.1.getD i.toNat 0 = -1) →
      runF tight l room (places.drop m) s = runF tight l room places (List.replicate l.length (-1), []) → EV 28 [ints s.1] [.r (ints l), .i room, .b tight, .i s.2.length, .r (ints places), .i places.length, .i m] := by
    intro d
    induction d with
    | zero => intro m s hd; omega
    | succ d ih =>
      intro m s hd hm h1 h2 h3 h4 h5 h6 hf
      refine V.p28 fun _ => ⟨fun hlt => ?_, fun hge => ?_⟩
      · have hmL : m < places.length := by omega
        obtain ⟨i, hi⟩ : ∃ i, places.getD m 0 = i := ⟨_, rfl⟩
        have hmem : i ∈ places := by rw [← hi]; exact getD_mem' hmL
        obtain ⟨hi0, hiL⟩ := hin i hmem
        rw [Int.toNat_natCast]
        refine ⟨by omega, ints_get hmL, ?_⟩
        rw [ints_cI, hi]
        have e : places[m] = i := by rw [← hi]; simp [List.getD_eq_getElem?_getD, hmL]
        have hdrop := List.drop_eq_getElem_cons hmL
        rw [e] at hdrop
        rw [hdrop] at h6 hf
        have hnd' : i ∉ places.drop (m + 1) := by
          have := hnd.sublist (List.drop_sublist m places)
          rw [hdrop] at this
          exact (List.nodup_cons.1 this).1
        have hun := h6 i (by simp)
        obtain ⟨z, hz⟩ : ∃ z, l.getD i.toNat 0 = z := ⟨_, rfl⟩
        have bz := hbd0 _ hiL
        rw [hz] at bz
        have gl := ints_get hiL
        rw [ints_cI, hz] at gl
        have g0 : (ints s.1)[i.toNat]? = some [.int .i64 (cIS (ints s.1) i.toNat 0)] := ints_get (by omega)
        have ok := aF_ok tight s.2 z
        have bd' := stepF_bd (tight := tight) (l := l) (i := i) h2 (by rw [hz]; omega) (by rw [hz]; omega)
        have len' := stepF_len tight l room s i
        have nn' := stepF_n tight l room s i
        have nxt := ih (m + 1) (stepF tight l room s i) (by omega) (by omega) (len'.trans h1) bd' (by omega)
        have other : ∀ j ∈ places.drop (m + 1), ∀ v, (s.1.set i.toNat v).getD j.toNat 0 = -1 := fun j hj v => by
          have hj2 := hin j (List.mem_of_mem_drop hj)
          rw [getD_set _ _ _ _ (by omega), if_neg (fun h => hnd' (by rw [show i = j from by omega]; exact hj))]
          exact h6 j (List.mem_cons_of_mem _ hj)
        unfold stepF at nxt
        rw [hz] at nxt
        have p45 : ∀ (rs pre : List Int) (a : Int), s.2 = pre ++ rs → (a = -1 ∨ 0 ≤ a ∧ a.toNat < s.2.length) → chs tight s.2 z rs pre.length a = aF tight s.2 z → EV 45 [ints s.1] [.r (ints l), .i room, .b tight, .i s.2.length, .i i, .i a, .i pre.length, .r (ints places), .i places.length, .i m] := by
          intro rs
          induction rs with
          | nil =>
            intro pre a hp ha hc
            have := congrArg List.length hp
            rw [List.append_nil] at this
            refine V.p45 fun _ => ⟨fun h => by omega, fun h => ?_⟩
            have hc : a = aF tight s.2 z := hc
            rw [ints_length, ints_set, ints_set, w1 m (by omega), w1 s.2.length (by omega)]
            refine ⟨fun h7 => ⟨hi0, by omega, g0, ?_⟩, fun h7 => ⟨hi0, by omega, g0, ?_⟩⟩
            · rw [if_pos (by omega)] at nxt
              have r1 := nxt (fun b hb => ?_) (fun k hk => ?_) (fun j hj => other j hj _) (by
                have := hf
                unfold runF at this ⊢
                rw [List.foldl_cons] at this
                unfold stepF at this
                rw [hz, if_pos (by omega)] at this
                exact this)
              · rw [List.length_append] at r1
                exact r1
              · rw [List.length_append, List.length_cons, List.length_nil] at hb
                rw [psum_set (by omega) hun (by omega)]
                by_cases eb : b = s.2.length
                · subst eb
                  rw [get_mid _ _ _ _ rfl, psum_none _ (fun k hk => by have := h5 k hk; omega), if_pos ⟨by omega, rfl⟩, hz]
                  omega
                · rw [if_neg (fun h => by omega)]
                  have hb' : b < s.2.length := by omega
                  have := h4 b hb'
                  rw [List.getD_eq_getElem?_getD, List.getElem?_append_left hb', ← List.getD_eq_getElem?_getD, this]
                  omega
              · rw [getD_set _ _ _ _ (by omega), List.length_append, List.length_cons, List.length_nil]
                have := h5 k hk
                split <;> omega
            · rw [if_neg (by omega)] at nxt
              rcases ok with h8 | ⟨h8, h9, h10⟩
              · omega
              have r1 := nxt (fun b hb => ?_) (fun k hk => ?_) (fun j hj => other j hj _) (by
                have := hf
                unfold runF at this ⊢
                rw [List.foldl_cons] at this
                unfold stepF at this
                rw [hz, if_neg (by omega)] at this
                exact this)
              · rw [List.length_set] at r1
                rw [hc]
                exact r1
              · rw [List.length_set] at hb
                rw [psum_set (by omega) hun (by omega), getD_set _ _ _ _ h9]
                by_cases eb : b = (aF tight s.2 z).toNat
                · have := h4 _ hb
                  subst eb
                  rw [if_pos rfl, if_pos ⟨by omega, by omega⟩, hz, this]
                  omega
                · rw [if_neg eb, if_neg (fun h => by omega)]
                  have := h4 b hb
                  rw [this]; omega
              · rw [getD_set _ _ _ _ (by omega), List.length_set]
                have := h5 k hk
                split <;> omega
          | cons r rs ihr =>
            intro pre a hp ha hc
            have hlen := congrArg List.length hp
            rw [List.length_append, List.length_cons] at hlen
            have hg : s.2.getD pre.length 0 = r := by rw [hp]; exact get_mid _ _ _ _ rfl
            simp only [chs] at hc
            have go : ∀ a', (a' = -1 ∨ 0 ≤ a' ∧ a'.toNat < s.2.length) → (if r ≥ z ∧ (a < 0 ∨ tight = true ∧ r < s.2.getD a.toNat 0) then (pre.length : Int) else a) = a' → EV 45 [ints s.1] [.r (ints l), .i room, .b tight, .i s.2.length, .i i, .i a', .i ((pre.length + 1 : Nat) : Int), .r (ints places), .i places.length, .i m] := fun a' e1 e2 => by
              rw [e2] at hc
              have := ihr (pre ++ [r]) a' (by rw [hp]; simp) e1 (by rw [List.length_append]; exact hc)
              rw [List.length_append] at this
              exact this
            refine V.p45 fun _ => ⟨fun h => ?_, fun h => by omega⟩
            refine (Left_E l s.1 room pre.length hl h1 ⟨by omega, by omega⟩ hbd).mono ?_
            rintro _ _ _ ⟨rfl, rfl, rfl⟩
            rw [← h4 pre.length (by omega), hg, w1 pre.length (by omega)]
            refine ⟨rfl, _, _, rfl, rfl, hi0, by rw [ints_cI, hz]; exact gl, ?_⟩
            rw [ints_cI, hz]
            refine ⟨fun h7 => ⟨fun h8 => ⟨fun h9 => ⟨rfl, ?_⟩, fun h9 => ⟨rfl, go a ha (by rw [if_neg (fun h => by rcases h.2 with h10 | h10; (· omega); (· rw [h9] at h10; cases h10.1))])⟩⟩, fun h8 => ⟨rfl, go _ (.inr ⟨by omega, by omega⟩) (by rw [if_pos ⟨h7, .inl h8⟩])⟩⟩, fun h7 => ⟨rfl, go a ha (by rw [if_neg (fun h => by omega)])⟩⟩
            have ha2 : 0 ≤ a ∧ a.toNat < s.2.length := by omega
            refine (Left_E l s.1 room a hl h1 ⟨by omega, by omega⟩ hbd).mono ?_
            rintro _ _ _ ⟨rfl, rfl, rfl⟩
            have h4a := h4 a.toNat ha2.2
            rw [show ((a.toNat : Nat) : Int) = a from by omega] at h4a
            rw [← h4a]
            exact ⟨rfl, _, _, rfl, rfl, fun h10 => ⟨rfl, go _ (.inr ⟨by omega, by omega⟩) (by rw [if_pos ⟨h7, .inr ⟨h9, h10⟩⟩])⟩, fun h10 => ⟨rfl, go a ha (by rw [if_neg (fun h => by rcases h.2 with h11 | h11; (· omega); (· have := h11.2; omega))])⟩⟩
        exact p45 s.2 [] (-1) rfl (.inl rfl) rfl
      · have e : m = places.length := by omega
        subst e
        rw [List.drop_length] at hf
        rw [← hf]
        exact ⟨rfl, rfl, rfl⟩
  have p9 : ∀ (d m : Nat), l.length - m < d → m ≤ l.length → EV 9 [ints (List.replicate m (-1) ++ List.replicate (l.length - m) 0)] [.r (ints l), .i room, .r (ints places), .b tight, .i l.length, .i m] := by
    intro d
    induction d with
    | zero => intro m hd; omega
    | succ d ih =>
      intro m hd hm
      have lL : (List.replicate m (-1) ++ List.replicate (l.length - m) (0 : Int)).length = l.length := by rw [List.length_append, List.length_replicate, List.length_replicate]; omega
      refine V.p9 fun _ => ⟨fun hlt => ?_, fun hge => ?_⟩
      · rw [Int.toNat_natCast, ints_length, lL]
        refine ⟨by omega, by omega, ints_get (by omega), ?_⟩
        rw [ints_set, w1 m (by omega)]
        have e : (List.replicate m (-1) ++ List.replicate (l.length - m) (0 : Int)).set m (-1) = List.replicate (m + 1) (-1) ++ List.replicate (l.length - (m + 1)) 0 := by
          have e1 : l.length - m = (l.length - (m + 1)) + 1 := by omega
          rw [e1, List.replicate_succ, set_mid _ _ _ _ (List.length_replicate).symm, List.replicate_succ']
          simp
        rw [e]
        exact ih (m + 1) (by omega) (by omega)
      · have e : m = l.length := by omega
        subst e
        rw [Nat.sub_self, List.replicate_zero, List.append_nil, ints_length]
        have neg : ∀ k < l.length, (List.replicate l.length (-1 : Int)).getD k 0 = -1 := fun k hk => by simp [List.getD_eq_getElem?_getD, hk]
        exact p28 _ 0 (List.replicate l.length (-1), []) (Nat.lt_succ_self _) (by omega) (by simp) (fun k hk => by simp at hk) (Nat.le_refl _) (fun b hb => by simp at hb) (fun k hk => by rw [neg k hk]; simp) (fun i hi => neg _ (hin i (List.mem_of_mem_drop hi)).2) rfl
  have := p9 _ 0 (Nat.lt_succ_self _) (by omega)
  simpa using this

theorem run_same (tight : Bool) (l : List Int) (room : Int) (p : List Int) (hr : RightP l room) (hp : p.Perm (rngF l.length)) : runF tight l room p (List.replicate l.length (-1), []) = layF tight l room p := by
  show _ = (if RightP l room then _ else _)
  rw [if_pos hr]
  exact runF_any tight l room p _ _ [] (by simp) (fun k hk => .inl (hp.mem_iff.2 (rngF_mem.2 ⟨by omega, by simpa using hk⟩))) (fun i hi => (rngF_mem.1 (hp.mem_iff.1 hi)).1)
theorem rngF_nodup (n : Nat) : (rngF n).Nodup := by
  unfold rngF
  exact List.Pairwise.map _ (fun a b h => by omega) List.nodup_range

end Go.Ab
