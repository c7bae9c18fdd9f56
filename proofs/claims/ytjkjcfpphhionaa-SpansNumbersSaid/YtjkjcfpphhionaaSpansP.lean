/- Spans of ticks, in plain words: a set of ticks has one normal form. -/
namespace Go.Ab.Spn
set_option linter.unusedVariables false
set_option linter.unusedSimpArgs false

structure Sp where
  f : Int
  t : Int

def mem (l : List Sp) (n : Int) : Prop := ∃ s ∈ l, s.f ≤ n ∧ n < s.t
def NF (l : List Sp) : Prop := l.Pairwise (fun a b => a.t < b.f) ∧ ∀ s ∈ l, s.f < s.t

theorem mem_nil (n : Int) : ¬ mem [] n := fun ⟨_, h, _⟩ => by cases h
theorem mem_cons {s : Sp} {l : List Sp} {n : Int} : mem (s :: l) n ↔ (s.f ≤ n ∧ n < s.t) ∨ mem l n := by
  constructor
  · rintro ⟨x, hx, h⟩
    rcases List.mem_cons.1 hx with rfl | hx
    · exact .inl h
    · exact .inr ⟨x, hx, h⟩
  · rintro (h | ⟨x, hx, h⟩)
    · exact ⟨s, by simp, h⟩
    · exact ⟨x, by simp [hx], h⟩
theorem mem_app {a b : List Sp} {n : Int} : mem (a ++ b) n ↔ mem a n ∨ mem b n := by
  constructor
  · rintro ⟨x, hx, h⟩
    rcases List.mem_append.1 hx with hx | hx
    · exact .inl ⟨x, hx, h⟩
    · exact .inr ⟨x, hx, h⟩
  · rintro (⟨x, hx, h⟩ | ⟨x, hx, h⟩)
    · exact ⟨x, List.mem_append_left _ hx, h⟩
    · exact ⟨x, List.mem_append_right _ hx, h⟩
theorem mem_one {s : Sp} {n : Int} : mem [s] n ↔ s.f ≤ n ∧ n < s.t := by
  rw [mem_cons]
  exact ⟨fun h => h.elim id fun h => (mem_nil n h).elim, .inl⟩
theorem mem_perm {a b : List Sp} (h : a.Perm b) {n : Int} : mem a n ↔ mem b n :=
  ⟨fun ⟨x, hx, k⟩ => ⟨x, h.mem_iff.1 hx, k⟩, fun ⟨x, hx, k⟩ => ⟨x, h.mem_iff.2 hx, k⟩⟩

theorem NF.nil : NF [] := ⟨List.Pairwise.nil, fun _ h => by cases h⟩
theorem nf_cons {s : Sp} {l : List Sp} : NF (s :: l) ↔ (∀ b ∈ l, s.t < b.f) ∧ s.f < s.t ∧ NF l := by
  constructor
  · rintro ⟨h1, h2⟩
    have h1 := List.pairwise_cons.1 h1
    exact ⟨h1.1, h2 s (by simp), h1.2, fun x hx => h2 x (by simp [hx])⟩
  · rintro ⟨h1, h2, h3, h4⟩
    refine ⟨List.pairwise_cons.2 ⟨h1, h3⟩, fun x hx => ?_⟩
    rcases List.mem_cons.1 hx with rfl | hx
    · exact h2
    · exact h4 x hx
theorem nf_snoc {s : Sp} {l : List Sp} : NF (l ++ [s]) ↔ NF l ∧ s.f < s.t ∧ ∀ b ∈ l, b.t < s.f := by
  constructor
  · rintro ⟨h1, h2⟩
    have h1 := List.pairwise_append.1 h1
    exact ⟨⟨h1.1, fun x hx => h2 x (by simp [hx])⟩, h2 s (by simp), fun b hb => h1.2.2 b hb s (by simp)⟩
  · rintro ⟨⟨h1, h2⟩, h3, h4⟩
    refine ⟨List.pairwise_append.2 ⟨h1, by simp, fun a ha b hb => ?_⟩, fun x hx => ?_⟩
    · obtain rfl := List.mem_singleton.1 hb
      exact h4 a ha
    · rcases List.mem_append.1 hx with hx | hx
      · exact h2 x hx
      · obtain rfl := List.mem_singleton.1 hx; exact h3
theorem mem_gt {l : List Sp} {c n : Int} (hc : ∀ b ∈ l, c < b.f) (hm : mem l n) : c < n := by
  obtain ⟨x, hx, h1, h2⟩ := hm
  have := hc x hx
  omega

/-- ONE NORMAL FORM. -/
theorem nf_ext : ∀ {a b : List Sp}, NF a → NF b → (∀ n, mem a n ↔ mem b n) → a = b
  | [], [], _, _, _ => rfl
  | [], y :: b, _, hb, h => ((mem_nil y.f) ((h y.f).2 (mem_cons.2 (.inl ⟨Int.le_refl _, (nf_cons.1 hb).2.1⟩)))).elim
  | x :: a, [], ha, _, h => ((mem_nil x.f) ((h x.f).1 (mem_cons.2 (.inl ⟨Int.le_refl _, (nf_cons.1 ha).2.1⟩)))).elim
  | x :: a, y :: b, ha, hb, h => by
    obtain ⟨a1, a2, a3⟩ := nf_cons.1 ha
    obtain ⟨b1, b2, b3⟩ := nf_cons.1 hb
    have lo : ∀ n, mem (x :: a) n → x.f ≤ n := fun n hn => by
      rcases mem_cons.1 hn with h | h
      · exact h.1
      · have := mem_gt a1 h; omega
    have lo2 : ∀ n, mem (y :: b) n → y.f ≤ n := fun n hn => by
      rcases mem_cons.1 hn with h | h
      · exact h.1
      · have := mem_gt b1 h; omega
    have ef : x.f = y.f := by
      have h1 := lo2 x.f ((h x.f).1 (mem_cons.2 (.inl ⟨Int.le_refl _, a2⟩)))
      have h2 := lo y.f ((h y.f).2 (mem_cons.2 (.inl ⟨Int.le_refl _, b2⟩)))
      omega
    have et : x.t = y.t := by
      rcases Int.lt_trichotomy x.t y.t with hl | he | hg
      · have := (h x.t).2 (mem_cons.2 (.inl ⟨by omega, hl⟩))
        rcases mem_cons.1 this with h | h
        · omega
        · have := mem_gt a1 h; omega
      · exact he
      · have := (h y.t).1 (mem_cons.2 (.inl ⟨by omega, hg⟩))
        rcases mem_cons.1 this with h | h
        · omega
        · have := mem_gt b1 h; omega
    have hab : a = b := nf_ext a3 b3 fun n => by
      constructor
      · intro hn
        have := mem_gt a1 hn
        rcases mem_cons.1 ((h n).1 (mem_cons.2 (.inr hn))) with h | h
        · omega
        · exact h
      · intro hn
        have := mem_gt b1 hn
        rcases mem_cons.1 ((h n).2 (mem_cons.2 (.inr hn))) with h | h
        · omega
        · exact h
    cases x; cases y
    simp only at ef et
    rw [ef, et, hab]

theorem nil_or_snoc {α : Type} (l : List α) : l = [] ∨ ∃ a t, l = a ++ [t] := by
  rcases List.eq_nil_or_concat l with h | ⟨a, t, h⟩
  · exact .inl h
  · exact .inr ⟨a, t, by rw [h, List.concat_eq_append]⟩
/-! ### join -/
def stepJ (out : List Sp) (s : Sp) : List Sp :=
  match out.getLast? with
  | some t => if s.f ≤ t.t then out.dropLast ++ [⟨t.f, max t.t s.t⟩] else out ++ [s]
  | none => [s]
theorem stepJ_nil (s : Sp) : stepJ [] s = [s] := rfl
theorem stepJ_snoc (l : List Sp) (t s : Sp) : stepJ (l ++ [t]) s = if s.f ≤ t.t then l ++ [⟨t.f, max t.t s.t⟩] else l ++ [t] ++ [s] := by simp [stepJ]
theorem join_inv : ∀ (L out : List Sp), NF out → (∀ s ∈ L, s.f < s.t) → L.Pairwise (fun a b => a.f ≤ b.f) → (∀ t, out.getLast? = some t → ∀ s ∈ L, t.f ≤ s.f) →
    NF (L.foldl stepJ out) ∧ ∀ n, mem (L.foldl stepJ out) n ↔ mem out n ∨ mem L n
  | [], out, h, _, _, _ => ⟨h, fun n => ⟨.inl, fun h => h.elim id fun h => (mem_nil n h).elim⟩⟩
  | s :: L, out, ho, hp, hs, hl => by
    have hs' := List.pairwise_cons.1 hs
    have hps := hp s (by simp)
    have hpL : ∀ x ∈ L, x.f < x.t := fun x hx => hp x (by simp [hx])
    rw [List.foldl_cons]
    have key : NF (stepJ out s) ∧ (∀ n, mem (stepJ out s) n ↔ mem out n ∨ (s.f ≤ n ∧ n < s.t)) ∧ (∀ t, (stepJ out s).getLast? = some t → t.f ≤ s.f) := by
      rcases nil_or_snoc out with rfl | ⟨l, t, rfl⟩
      · refine ⟨nf_cons.2 ⟨(fun _ h => by cases h), hps, NF.nil⟩, fun n => ?_, fun t ht => ?_⟩
        · rw [stepJ_nil, mem_one]; exact ⟨.inr, fun h => h.elim (fun h => (mem_nil n h).elim) id⟩
        · rw [stepJ_nil] at ht; simp at ht; rw [ht]; exact Int.le_refl _
      · have htf := hl t (by simp) s (by simp)
        have hn := nf_snoc.1 ho
        rw [stepJ_snoc]
        split
        · rename_i hle
          refine ⟨nf_snoc.2 ⟨hn.1, ?_, hn.2.2⟩, fun n => ?_, fun t' ht => ?_⟩
          · show t.f < max t.t s.t
            have := hn.2.1; omega
          · rw [mem_app, mem_app, mem_one, mem_one]
            simp only
            constructor
            · rintro (h | h)
              · exact .inl (.inl h)
              · by_cases hc : n < t.t
                · exact .inl (.inr ⟨h.1, hc⟩)
                · exact .inr ⟨by omega, by omega⟩
            · rintro ((h | h) | h)
              · exact .inl h
              · exact .inr ⟨h.1, by omega⟩
              · exact .inr ⟨by omega, by omega⟩
          · simp at ht; rw [← ht]; exact htf
        · rename_i hle
          refine ⟨nf_snoc.2 ⟨ho, hps, fun b hb => ?_⟩, fun n => ?_, fun t' ht => ?_⟩
          · rcases List.mem_append.1 hb with hb | hb
            · have := hn.2.2 b hb; have := hn.2.1; omega
            · obtain rfl := List.mem_singleton.1 hb; omega
          · rw [mem_app, mem_one]
          · simp at ht; rw [ht]; exact Int.le_refl _
    obtain ⟨k1, k2, k3⟩ := key
    obtain ⟨r1, r2⟩ := join_inv L (stepJ out s) k1 hpL hs'.2 fun t ht x hx => by have := k3 t ht; have := hs'.1 x hx; omega
    refine ⟨r1, fun n => ?_⟩
    rw [r2, k2, mem_cons]
    exact ⟨fun h => h.elim (fun h => h.elim .inl fun h => .inr (.inl h)) fun h => .inr (.inr h), fun h => h.elim (fun h => .inl (.inl h)) fun h => h.elim (fun h => .inl (.inr h)) .inr⟩
def joinF (L : List Sp) : List Sp := L.foldl stepJ []
theorem joinF_nf {L : List Sp} (hp : ∀ s ∈ L, s.f < s.t) (hs : L.Pairwise (fun a b => a.f ≤ b.f)) : NF (joinF L) ∧ ∀ n, mem (joinF L) n ↔ mem L n := by
  obtain ⟨h1, h2⟩ := join_inv L [] NF.nil hp hs (fun t ht => by simp at ht)
  exact ⟨h1, fun n => (h2 n).trans ⟨fun h => h.elim (fun h => (mem_nil n h).elim) id, .inr⟩⟩

/-! ### gaps -/
def gapsF : List Sp → Int → Int → List Sp
  | [], at', e => if e - at' > 0 then [⟨at', e⟩] else []
  | s :: J, at', e => (if min s.f e - at' > 0 then [⟨at', min s.f e⟩] else []) ++ gapsF J (max at' s.t) e
theorem gapsF_from : ∀ (J : List Sp) (a e : Int), ∀ p ∈ gapsF J a e, a ≤ p.f
  | [], a, e, p, hp => by
    simp only [gapsF] at hp
    split at hp
    · obtain rfl := List.mem_singleton.1 hp; exact Int.le_refl _
    · cases hp
  | s :: J, a, e, p, hp => by
    simp only [gapsF] at hp
    rcases List.mem_append.1 hp with hp | hp
    · split at hp
      · obtain rfl := List.mem_singleton.1 hp; exact Int.le_refl _
      · cases hp
    · have := gapsF_from J _ e p hp
      omega
theorem gapsF_nf : ∀ (J : List Sp) (a e : Int), NF J → NF (gapsF J a e) ∧ ∀ n, mem (gapsF J a e) n ↔ (a ≤ n ∧ n < e) ∧ ¬ mem J n
  | [], a, e, _ => by
    simp only [gapsF]
    split
    · refine ⟨nf_cons.2 ⟨(fun _ h => by cases h), by simp only; omega, NF.nil⟩, fun n => ?_⟩
      rw [mem_one]
      exact ⟨fun h => ⟨h, mem_nil n⟩, fun h => h.1⟩
    · refine ⟨NF.nil, fun n => ⟨fun h => (mem_nil n h).elim, fun h => by omega⟩⟩
  | s :: J, a, e, hJ => by
    obtain ⟨j1, j2, j3⟩ := nf_cons.1 hJ
    obtain ⟨i1, i2⟩ := gapsF_nf J (max a s.t) e j3
    have hfr := gapsF_from J (max a s.t) e
    simp only [gapsF]
    have hm : ∀ n, mem (s :: J) n ↔ (s.f ≤ n ∧ n < s.t) ∨ mem J n := fun n => mem_cons
    split
    · refine ⟨nf_cons.2 ⟨fun b hb => ?_, by simp only; omega, i1⟩, fun n => ?_⟩
      · have := hfr b hb
        simp only
        omega
      · rw [List.singleton_append, mem_cons, i2, hm]
        simp only
        constructor
        · rintro (h | h)
          · refine ⟨⟨h.1, by omega⟩, fun hc => ?_⟩
            rcases hc with hc | hc
            · omega
            · have := mem_gt j1 hc; omega
          · refine ⟨⟨by omega, h.1.2⟩, fun hc => ?_⟩
            rcases hc with hc | hc
            · omega
            · exact h.2 hc
        · rintro ⟨h1, h2⟩
          by_cases hc : n < s.f
          · exact .inl ⟨h1.1, by omega⟩
          · have : ¬ n < s.t := fun h => h2 (.inl ⟨by omega, h⟩)
            exact .inr ⟨⟨by omega, h1.2⟩, fun h => h2 (.inr h)⟩
    · refine ⟨i1, fun n => ?_⟩
      rw [List.nil_append, i2, hm]
      constructor
      · rintro ⟨h1, h2⟩
        refine ⟨⟨by omega, h1.2⟩, fun hc => ?_⟩
        rcases hc with hc | hc
        · omega
        · exact h2 hc
      · rintro ⟨h1, h2⟩
        have : ¬ (s.f ≤ n ∧ n < s.t) := fun h => h2 (.inl h)
        exact ⟨⟨by omega, h1.2⟩, fun h => h2 (.inr h)⟩

/-! ### meet -/
def meetF : List Sp → List Sp → List Sp
  | [], _ => []
  | _ :: _, [] => []
  | a :: x, b :: y => (if min a.t b.t - max a.f b.f > 0 then [⟨max a.f b.f, min a.t b.t⟩] else []) ++ (if a.t < b.t then meetF x (b :: y) else meetF (a :: x) y)
termination_by x y => x.length + y.length
theorem meetF_nil (x : List Sp) : meetF x [] = [] := by cases x <;> simp [meetF]
theorem meetF_from (c : Int) : ∀ (k : Nat) (x y : List Sp), x.length + y.length ≤ k → ((∀ s ∈ x, c < s.f) ∨ (∀ s ∈ y, c < s.f)) → ∀ p ∈ meetF x y, c < p.f := by
  intro k
  induction k with
  | zero =>
    intro x y hk _ p hp
    cases x with
    | nil => simp [meetF] at hp
    | cons a x => simp at hk
  | succ k ih =>
    intro x y hk h p hp
    cases x with
    | nil => simp [meetF] at hp
    | cons a x =>
      cases y with
      | nil => simp [meetF] at hp
      | cons b y =>
        rw [meetF] at hp
        simp only [List.length_cons] at hk
        rcases List.mem_append.1 hp with hp | hp
        · split at hp
          · obtain rfl := List.mem_singleton.1 hp
            simp only
            rcases h with h | h
            · have := h a (by simp); omega
            · have := h b (by simp); omega
          · cases hp
        · split at hp
          · refine ih x (b :: y) (by simp; omega) ?_ p hp
            rcases h with h | h
            · exact .inl fun s hs => h s (by simp [hs])
            · exact .inr h
          · refine ih (a :: x) y (by simp; omega) ?_ p hp
            rcases h with h | h
            · exact .inl h
            · exact .inr fun s hs => h s (by simp [hs])
theorem meetF_nf : ∀ (k : Nat) (x y : List Sp), x.length + y.length ≤ k → NF x → NF y → NF (meetF x y) ∧ ∀ n, mem (meetF x y) n ↔ mem x n ∧ mem y n := by
  intro k
  induction k with
  | zero =>
    intro x y hk _ _
    cases x with
    | nil => rw [meetF]; exact ⟨NF.nil, fun n => ⟨fun h => (mem_nil n h).elim, fun h => h.1⟩⟩
    | cons a x => simp at hk
  | succ k ih =>
    intro x y hk hx hy
    cases x with
    | nil => rw [meetF]; exact ⟨NF.nil, fun n => ⟨fun h => (mem_nil n h).elim, fun h => h.1⟩⟩
    | cons a x =>
      cases y with
      | nil => rw [meetF]; exact ⟨NF.nil, fun n => ⟨fun h => (mem_nil n h).elim, fun h => h.2⟩⟩
      | cons b y =>
        rw [meetF]
        simp only [List.length_cons] at hk
        obtain ⟨x1, x2, x3⟩ := nf_cons.1 hx
        obtain ⟨y1, y2, y3⟩ := nf_cons.1 hy
        -- the rest
        obtain ⟨R, hR⟩ : ∃ R, R = if a.t < b.t then meetF x (b :: y) else meetF (a :: x) y := ⟨_, rfl⟩
        have hrest : NF R ∧ (∀ p ∈ R, min a.t b.t < p.f) ∧ ∀ n, (mem R n ↔ (mem (a :: x) n ∧ mem (b :: y) n) ∧ min a.t b.t ≤ n) := by
          rw [hR]
          split
          · rename_i hlt
            obtain ⟨i1, i2⟩ := ih x (b :: y) (by simp; omega) x3 hy
            refine ⟨i1, fun p hp => ?_, fun n => ?_⟩
            · have := meetF_from a.t (x.length + (b :: y).length) x (b :: y) (Nat.le_refl _) (.inl x1) p hp
              omega
            · rw [i2, mem_cons (s := a)]
              constructor
              · rintro ⟨h1, h2⟩
                have := mem_gt x1 h1
                exact ⟨⟨.inr h1, h2⟩, by omega⟩
              · rintro ⟨⟨h1, h2⟩, h3⟩
                refine ⟨?_, h2⟩
                rcases h1 with h1 | h1
                · omega
                · exact h1
          · rename_i hlt
            obtain ⟨i1, i2⟩ := ih (a :: x) y (by simp; omega) hx y3
            refine ⟨i1, fun p hp => ?_, fun n => ?_⟩
            · have := meetF_from b.t ((a :: x).length + y.length) (a :: x) y (Nat.le_refl _) (.inr y1) p hp
              omega
            · rw [i2, mem_cons (s := b)]
              constructor
              · rintro ⟨h1, h2⟩
                have := mem_gt y1 h2
                exact ⟨⟨h1, .inr h2⟩, by omega⟩
              · rintro ⟨⟨h1, h2⟩, h3⟩
                refine ⟨h1, ?_⟩
                rcases h2 with h2 | h2
                · omega
                · exact h2
        rw [← hR]
        obtain ⟨r1, r2, r3⟩ := hrest
        have below : ∀ n, n < min a.t b.t → ((mem (a :: x) n ∧ mem (b :: y) n) ↔ (max a.f b.f ≤ n)) := fun n hn => by
          rw [mem_cons, mem_cons]
          constructor
          · rintro ⟨h1, h2⟩
            have e1 : a.f ≤ n := by rcases h1 with h | h; exact h.1; have := mem_gt x1 h; omega
            have e2 : b.f ≤ n := by rcases h2 with h | h; exact h.1; have := mem_gt y1 h; omega
            omega
          · intro h
            exact ⟨.inl ⟨by omega, by omega⟩, .inl ⟨by omega, by omega⟩⟩
        split
        · refine ⟨nf_cons.2 ⟨r2, by simp only; omega, r1⟩, fun n => ?_⟩
          rw [List.singleton_append, mem_cons, r3]
          simp only
          constructor
          · rintro (h | h)
            · exact (below n h.2).2 h.1
            · exact h.1
          · intro h
            by_cases hn : n < min a.t b.t
            · exact .inl ⟨(below n hn).1 h, hn⟩
            · exact .inr ⟨h, by omega⟩
        · rw [List.nil_append]
          refine ⟨r1, fun n => ?_⟩
          rw [r3]
          constructor
          · exact fun h => h.1
          · intro h
            refine ⟨h, ?_⟩
            rcases Int.lt_or_le n (min a.t b.t) with hn | hn
            · have := (below n hn).1 h; omega
            · exact hn

/-! ### from edge to edge -/
def addS (l : List Sp) (s : Sp) : List Sp :=
  match l.getLast? with
  | some t => if t.t = s.f then l.dropLast ++ [⟨t.f, s.t⟩] else l ++ [s]
  | none => [s]
theorem addS_snoc (l : List Sp) (t s : Sp) : addS (l ++ [t]) s = if t.t = s.f then l ++ [⟨t.f, s.t⟩] else l ++ [t] ++ [s] := by simp [addS]
def refG (p : Int → Bool) : List Int → List Sp → List Sp
  | a :: b :: e, out => refG p (b :: e) (if p a = true then addS out ⟨a, b⟩ else out)
  | _, out => out
def inr : List Int → Int → Prop
  | a :: b :: e, n => (a ≤ n ∧ n < b) ∨ inr (b :: e) n
  | _, _ => False
def seg (p : Int → Bool) : List Int → Prop
  | a :: b :: e => (∀ n, a ≤ n → n < b → p n = p a) ∧ seg p (b :: e)
  | _ => True
theorem refG_inv (p : Int → Bool) : ∀ (e : List Int) (out : List Sp), e.Pairwise (· < ·) → NF out → (∀ t, out.getLast? = some t → ∀ a ∈ e, t.t ≤ a) → seg p e → NF (refG p e out) ∧ ∀ n, mem (refG p e out) n ↔ mem out n ∨ (p n = true ∧ inr e n)
  | [], out, _, ho, _, _ => ⟨ho, fun n => ⟨.inl, fun h => h.elim id fun h => h.2.elim⟩⟩
  | [a], out, _, ho, _, _ => ⟨ho, fun n => ⟨.inl, fun h => h.elim id fun h => h.2.elim⟩⟩
  | a :: b :: e, out, hs, ho, hl, hg => by
    have hs' := List.pairwise_cons.1 hs
    have hab := hs'.1 b (by simp)
    have hb := List.pairwise_cons.1 hs'.2
    have key : NF (if p a = true then addS out ⟨a, b⟩ else out) ∧ (∀ n, mem (if p a = true then addS out ⟨a, b⟩ else out) n ↔ mem out n ∨ (p n = true ∧ a ≤ n ∧ n < b)) ∧ ∀ t, (if p a = true then addS out ⟨a, b⟩ else out).getLast? = some t → t.t ≤ b := by
      by_cases hp : p a = true
      · simp only [hp, if_true]
        rcases nil_or_snoc out with rfl | ⟨l, t, rfl⟩
        · refine ⟨nf_cons.2 ⟨(fun _ h => by cases h), hab, NF.nil⟩, fun n => ?_, fun t ht => ?_⟩
          · show mem [⟨a, b⟩] n ↔ _
            rw [mem_one]
            exact ⟨fun h => .inr ⟨by rw [hg.1 n h.1 h.2]; exact hp, h⟩, fun h => h.elim (fun h => (mem_nil n h).elim) fun h => h.2⟩
          · have : ([⟨a, b⟩] : List Sp).getLast? = some t := ht
            simp at this; rw [← this]; exact Int.le_refl _
        · have hta := hl t (by simp) a (by simp)
          have hn := nf_snoc.1 ho
          rw [addS_snoc]
          simp only
          split
          · rename_i he
            refine ⟨nf_snoc.2 ⟨hn.1, by simp only; have := hn.2.1; omega, hn.2.2⟩, fun n => ?_, fun t' ht => ?_⟩
            · rw [mem_app, mem_app, mem_one, mem_one]
              simp only
              constructor
              · rintro (h | h)
                · exact .inl (.inl h)
                · by_cases hc : n < t.t
                  · exact .inl (.inr ⟨h.1, hc⟩)
                  · exact .inr ⟨by rw [hg.1 n (by omega) h.2]; exact hp, by omega, h.2⟩
              · rintro ((h | h) | h)
                · exact .inl h
                · exact .inr ⟨h.1, by omega⟩
                · have := hn.2.1
                  exact .inr ⟨by omega, h.2.2⟩
            · simp at ht; rw [← ht]; exact Int.le_refl _
          · rename_i he
            refine ⟨nf_snoc.2 ⟨ho, hab, fun x hx => ?_⟩, fun n => ?_, fun t' ht => ?_⟩
            · simp only
              rcases List.mem_append.1 hx with hx | hx
              · have := hn.2.2 x hx; have := hn.2.1; omega
              · obtain rfl := List.mem_singleton.1 hx; omega
            · rw [mem_app (b := [⟨a, b⟩]), mem_one]
              exact ⟨fun h => h.imp id fun h => ⟨by rw [hg.1 n h.1 h.2]; exact hp, h⟩, fun h => h.imp id fun h => h.2⟩
            · simp at ht; rw [← ht]; exact Int.le_refl _
      · rw [if_neg hp]
        refine ⟨ho, fun n => ⟨.inl, fun h => h.elim id fun h => ?_⟩, fun t ht => ?_⟩
        · rw [hg.1 n h.2.1 h.2.2] at h
          exact absurd h.1 hp
        · have := hl t ht a (by simp); omega
    obtain ⟨k1, k2, k3⟩ := key
    rw [refG]
    obtain ⟨r1, r2⟩ := refG_inv p (b :: e) _ hs'.2 k1 (fun t ht x hx => by
      have := k3 t ht
      rcases List.mem_cons.1 hx with rfl | hx
      · exact this
      · have := hb.1 x hx; omega) hg.2
    refine ⟨r1, fun n => ?_⟩
    rw [r2, k2, inr]
    constructor
    · rintro ((h | h) | h)
      · exact .inl h
      · exact .inr ⟨h.1, .inl h.2⟩
      · exact .inr ⟨h.1, .inr h.2⟩
    · rintro (h | ⟨h1, h2 | h2⟩)
      · exact .inl (.inl h)
      · exact .inl (.inr ⟨h1, h2⟩)
      · exact .inr ⟨h1, h2⟩
theorem refG_nf (p : Int → Bool) {e : List Int} (hs : e.Pairwise (· < ·)) (hg : seg p e) : NF (refG p e []) ∧ ∀ n, mem (refG p e []) n ↔ (p n = true ∧ inr e n) := by
  obtain ⟨h1, h2⟩ := refG_inv p e [] hs NF.nil (fun t ht => by simp at ht) hg
  exact ⟨h1, fun n => (h2 n).trans ⟨fun h => h.elim (fun h => (mem_nil n h).elim) id, .inr⟩⟩
theorem inr_of : ∀ {e : List Int}, e.Pairwise (· < ·) → ∀ {a b n : Int}, a ∈ e → b ∈ e → a ≤ n → n < b → inr e n
  | [], _, _, _, _, ha, _, _, _ => by cases ha
  | [x], _, a, b, n, ha, hb, h1, h2 => by
    obtain rfl := List.mem_singleton.1 ha
    obtain rfl := List.mem_singleton.1 hb
    omega
  | x :: y :: e, hs, a, b, n, ha, hb, h1, h2 => by
    have hs' := List.pairwise_cons.1 hs
    by_cases hn : n < y
    · refine .inl ⟨?_, hn⟩
      rcases List.mem_cons.1 ha with rfl | ha
      · exact h1
      · have := hs'.1 a ha; omega
    · refine .inr (inr_of hs'.2 (a := y) (b := b) (by simp) ?_ (by omega) h2)
      rcases List.mem_cons.1 hb with rfl | hb
      · have := hs'.1 y (by simp); omega
      · exact hb
/-- Between two edges that follow each other lies no edge. -/
theorem seg_of (p : Int → Bool) : ∀ {e : List Int}, e.Pairwise (· < ·) → (∀ a n : Int, a ∈ e → a ≤ n → (∀ x ∈ e, x ≤ a ∨ n < x) → p n = p a) → seg p e
  | [], _, _ => trivial
  | [_], _, _ => trivial
  | x :: y :: e, hs, h => by
    have hs' := List.pairwise_cons.1 hs
    have hy := List.pairwise_cons.1 hs'.2
    refine ⟨fun n h1 h2 => h x n (by simp) h1 fun z hz => ?_, seg_of p hs'.2 fun a n ha h1 hx => h a n (by simp [ha]) h1 fun z hz => ?_⟩
    · rcases List.mem_cons.1 hz with rfl | hz
      · exact .inl (Int.le_refl _)
      · rcases List.mem_cons.1 hz with rfl | hz
        · exact .inr h2
        · have := hy.1 z hz; exact .inr (by omega)
    · rcases List.mem_cons.1 hz with rfl | hz
      · have := hs'.1 a ha; exact .inl (by omega)
      · exact hx z hz

/-- A number put among edges. -/
def insE : List Int → Int → List Int
  | [], n => [n]
  | a :: l, n => if a < n then a :: insE l n else if a = n then a :: l else n :: a :: l
theorem insE_mem : ∀ (l : List Int) (n x : Int), x ∈ insE l n ↔ x = n ∨ x ∈ l
  | [], n, x => by simp [insE]
  | a :: l, n, x => by
    rw [insE]
    split
    · rw [List.mem_cons, insE_mem l n x, List.mem_cons]
      exact ⟨fun h => h.elim (fun h => .inr (.inl h)) fun h => h.elim .inl fun h => .inr (.inr h), fun h => h.elim (fun h => .inr (.inl h)) fun h => h.elim .inl fun h => .inr (.inr h)⟩
    · split
      · rename_i h
        subst h
        exact ⟨.inr, fun h => h.elim (fun h => by rw [h]; simp) id⟩
      · rw [List.mem_cons]
theorem insE_sorted : ∀ {l : List Int} (n : Int), l.Pairwise (· < ·) → (insE l n).Pairwise (· < ·)
  | [], n, _ => by simp [insE]
  | a :: l, n, h => by
    have h' := List.pairwise_cons.1 h
    rw [insE]
    split
    · rename_i hlt
      refine List.pairwise_cons.2 ⟨fun x hx => ?_, insE_sorted n h'.2⟩
      rcases (insE_mem l n x).1 hx with rfl | hx
      · exact hlt
      · exact h'.1 x hx
    · split
      · exact h
      · refine List.pairwise_cons.2 ⟨fun x hx => ?_, h⟩
        rcases List.mem_cons.1 hx with rfl | hx
        · omega
        · have := h'.1 x hx; omega
def edgesF (L : List Sp) : List Int := L.foldl (fun e s => insE (insE e s.f) s.t) []
theorem edges_inv : ∀ (L : List Sp) (e : List Int), e.Pairwise (· < ·) → (L.foldl (fun e s => insE (insE e s.f) s.t) e).Pairwise (· < ·) ∧ ∀ x, x ∈ L.foldl (fun e s => insE (insE e s.f) s.t) e ↔ x ∈ e ∨ ∃ s ∈ L, x = s.f ∨ x = s.t
  | [], e, h => ⟨h, fun x => ⟨.inl, fun h => h.elim id fun ⟨_, h, _⟩ => by cases h⟩⟩
  | s :: L, e, h => by
    obtain ⟨h1, h2⟩ := edges_inv L _ (insE_sorted s.t (insE_sorted s.f h))
    refine ⟨h1, fun x => ?_⟩
    rw [List.foldl_cons, h2, insE_mem, insE_mem]
    constructor
    · rintro ((h | h | h) | ⟨y, hy, h⟩)
      · exact .inr ⟨s, by simp, .inr h⟩
      · exact .inr ⟨s, by simp, .inl h⟩
      · exact .inl h
      · exact .inr ⟨y, by simp [hy], h⟩
    · rintro (h | ⟨y, hy, h⟩)
      · exact .inl (.inr (.inr h))
      · rcases List.mem_cons.1 hy with rfl | hy
        · exact .inl (h.elim (fun h => .inr (.inl h)) .inl)
        · exact .inr ⟨y, hy, h⟩
theorem edgesF_sorted (L : List Sp) : (edgesF L).Pairwise (· < ·) := (edges_inv L [] List.Pairwise.nil).1
theorem edgesF_mem (L : List Sp) (x : Int) : x ∈ edgesF L ↔ ∃ s ∈ L, x = s.f ∨ x = s.t := ((edges_inv L [] List.Pairwise.nil).2 x).trans ⟨fun h => h.elim (fun h => by cases h) id, .inr⟩

/-- How many have a tick. -/
def depthF (L : List Sp) (n : Int) : Nat := L.countP fun s => decide (s.f ≤ n) && decide (n < s.t)
theorem depth_pos {L : List Sp} {n : Int} : 0 < depthF L n ↔ mem L n := by
  unfold depthF
  rw [List.countP_pos_iff]
  constructor
  · rintro ⟨s, hs, h⟩
    simp only [Bool.and_eq_true, decide_eq_true_eq] at h
    exact ⟨s, hs, h⟩
  · rintro ⟨s, hs, h⟩
    exact ⟨s, hs, by simp [h]⟩
theorem depth_const {L : List Sp} {e : List Int} (he : ∀ s ∈ L, s.f ∈ e ∧ s.t ∈ e) {a n : Int} (h1 : a ≤ n) (hx : ∀ x ∈ e, x ≤ a ∨ n < x) : depthF L n = depthF L a := by
  unfold depthF
  refine List.countP_congr fun s hs => ?_
  have k1 := hx s.f (he s hs).1
  have k2 := hx s.t (he s hs).2
  simp only [Bool.and_eq_true, decide_eq_true_eq]
  omega

def refJoin (L : List Sp) : List Sp := refG (fun n => decide (0 < depthF L n)) (edgesF L) []
def refGaps (L : List Sp) (o : Sp) : List Sp := refG (fun n => (decide (o.f ≤ n) && decide (n < o.t)) && decide (depthF L n = 0)) (edgesF (L ++ [o])) []
def refMeet (A B : List Sp) : List Sp := refG (fun n => decide (0 < depthF A n) && decide (0 < depthF B n)) (edgesF (A ++ B)) []

theorem refJoin_nf (L : List Sp) : NF (refJoin L) ∧ ∀ n, mem (refJoin L) n ↔ mem L n := by
  have hs := edgesF_sorted L
  have he : ∀ s ∈ L, s.f ∈ edgesF L ∧ s.t ∈ edgesF L := fun s h => ⟨(edgesF_mem L _).2 ⟨s, h, .inl rfl⟩, (edgesF_mem L _).2 ⟨s, h, .inr rfl⟩⟩
  obtain ⟨h1, h2⟩ := refG_nf (fun n => decide (0 < depthF L n)) hs (seg_of _ hs fun a n _ h1 hx => by simp only [depth_const he h1 hx])
  refine ⟨h1, fun n => (h2 n).trans ?_⟩
  simp only [decide_eq_true_eq, depth_pos]
  exact ⟨fun h => h.1, fun h => ⟨h, by obtain ⟨s, hs', k⟩ := h; exact inr_of hs (he s hs').1 (he s hs').2 k.1 k.2⟩⟩
theorem refGaps_nf (L : List Sp) (o : Sp) : NF (refGaps L o) ∧ ∀ n, mem (refGaps L o) n ↔ (o.f ≤ n ∧ n < o.t) ∧ ¬ mem L n := by
  have hs := edgesF_sorted (L ++ [o])
  have he : ∀ s ∈ L ++ [o], s.f ∈ edgesF (L ++ [o]) ∧ s.t ∈ edgesF (L ++ [o]) := fun s h => ⟨(edgesF_mem _ _).2 ⟨s, h, .inl rfl⟩, (edgesF_mem _ _).2 ⟨s, h, .inr rfl⟩⟩
  have heL : ∀ s ∈ L, s.f ∈ edgesF (L ++ [o]) ∧ s.t ∈ edgesF (L ++ [o]) := fun s h => he s (by simp [h])
  have heo := he o (by simp)
  obtain ⟨h1, h2⟩ := refG_nf (fun n => (decide (o.f ≤ n) && decide (n < o.t)) && decide (depthF L n = 0)) hs (seg_of _ hs fun a n _ h1 hx => by
    have k1 := hx o.f heo.1
    have k2 := hx o.t heo.2
    have e1 : decide (o.f ≤ n) = decide (o.f ≤ a) := by rw [Bool.eq_iff_iff]; simp only [decide_eq_true_eq]; omega
    have e2 : decide (n < o.t) = decide (a < o.t) := by rw [Bool.eq_iff_iff]; simp only [decide_eq_true_eq]; omega
    simp only [depth_const heL h1 hx, e1, e2])
  refine ⟨h1, fun n => (h2 n).trans ?_⟩
  simp only [Bool.and_eq_true, decide_eq_true_eq]
  have hz : depthF L n = 0 ↔ ¬ mem L n := by rw [← depth_pos]; omega
  rw [hz]
  exact ⟨fun h => h.1, fun h => ⟨h, inr_of hs heo.1 heo.2 h.1.1 h.1.2⟩⟩
theorem refMeet_nf (A B : List Sp) : NF (refMeet A B) ∧ ∀ n, mem (refMeet A B) n ↔ mem A n ∧ mem B n := by
  have hs := edgesF_sorted (A ++ B)
  have he : ∀ s ∈ A ++ B, s.f ∈ edgesF (A ++ B) ∧ s.t ∈ edgesF (A ++ B) := fun s h => ⟨(edgesF_mem _ _).2 ⟨s, h, .inl rfl⟩, (edgesF_mem _ _).2 ⟨s, h, .inr rfl⟩⟩
  have heA : ∀ s ∈ A, s.f ∈ edgesF (A ++ B) ∧ s.t ∈ edgesF (A ++ B) := fun s h => he s (by simp [h])
  have heB : ∀ s ∈ B, s.f ∈ edgesF (A ++ B) ∧ s.t ∈ edgesF (A ++ B) := fun s h => he s (by simp [h])
  obtain ⟨h1, h2⟩ := refG_nf (fun n => decide (0 < depthF A n) && decide (0 < depthF B n)) hs (seg_of _ hs fun a n _ h1 hx => by simp only [depth_const heA h1 hx, depth_const heB h1 hx])
  refine ⟨h1, fun n => (h2 n).trans ?_⟩
  simp only [Bool.and_eq_true, decide_eq_true_eq, depth_pos]
  exact ⟨fun h => h.1, fun h => ⟨h, by obtain ⟨s, hs', k⟩ := h.1; exact inr_of hs (heA s hs').1 (heA s hs').2 k.1 k.2⟩⟩
end Go.Ab.Spn
