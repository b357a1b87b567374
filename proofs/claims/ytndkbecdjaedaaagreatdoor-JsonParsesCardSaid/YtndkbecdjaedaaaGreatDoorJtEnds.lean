/- Plain: what stands behind a string's text, a number's. -/
import Derived.Test.YtndkbecdjaedaaaGreatDoorJtUnq
import Derived.Test.YtndkbecdjaedaaaGreatDoorJtRef2
namespace Go.Proofs.YtndkbecdjaedaaaGreatDoor

theorem gb_app {P : List UInt8} (A : List UInt8) {i : Nat} (h : i < P.length) : gb (P ++ A) i = gb P i := by
  simp [gb, List.getD_eq_getElem?_getD, List.getElem?_append_left h]
theorem hex4_app {P : List UInt8} (A : List UInt8) (h : 4 ≤ P.length) : hex4 (P ++ A) = hex4 P := by
  unfold hex4
  rw [if_neg (by rw [List.length_append]; omega), if_neg (by omega), gb_app A (by omega), gb_app A (by omega), gb_app A (by omega), gb_app A (by omega)]

/-- An answer that does not depend on what stands behind. -/
def Stable (f : List UInt8 → Nat × Nat) : Prop := ∀ P A B : List UInt8, (f (P ++ A)).2 ≠ 0 → (f (P ++ A)).2 ≤ P.length → f (P ++ B) = f (P ++ A)

theorem uesc_stable : Stable uesc := by
  intro P A B h0 hle
  cases hh : hex4 (P ++ A) with
  | none => exact absurd (by unfold uesc; rw [hh]) h0
  | some r =>
    have e : uesc (P ++ A) = if r < 55296 ∨ 57343 < r then (r, 4)
      else if 56319 < r ∨ gb (P ++ A) 4 ≠ 92 ∨ gb (P ++ A) 5 ≠ 117 then (0, 0)
      else match hex4 ((P ++ A).drop 6) with
        | none => (0, 0)
        | some m => if m < 56320 ∨ 57343 < m then (0, 0) else (65536 + (r - 55296) * 1024 + (m - 56320), 10) := by
      conv => lhs; unfold uesc
      rw [hh]
      rfl
    by_cases c1 : r < 55296 ∨ 57343 < r
    · rw [if_pos c1] at e
      rw [e] at hle ⊢
      have h4 : 4 ≤ P.length := hle
      unfold uesc
      rw [hex4_app B h4, ← hex4_app A h4, hh]
      simp only [if_pos c1]
    · rw [if_neg c1] at e
      by_cases c2 : 56319 < r ∨ gb (P ++ A) 4 ≠ 92 ∨ gb (P ++ A) 5 ≠ 117
      · rw [if_pos c2] at e; rw [e] at h0; exact absurd rfl h0
      rw [if_neg c2] at e
      cases h6 : hex4 ((P ++ A).drop 6) with
      | none => rw [h6] at e; rw [e] at h0; exact absurd rfl h0
      | some m =>
        rw [h6] at e
        simp only [] at e
        by_cases c3 : m < 56320 ∨ 57343 < m
        · rw [if_pos c3] at e; rw [e] at h0; exact absurd rfl h0
        rw [if_neg c3] at e
        rw [e] at hle ⊢
        have h10 : 10 ≤ P.length := hle
        have c2' := c2
        rw [gb_app A (by omega), gb_app A (by omega)] at c2'
        unfold uesc
        rw [hex4_app B (by omega), ← hex4_app A (by omega), hh]
        simp only [if_neg c1]
        rw [gb_app B (by omega), gb_app B (by omega), if_neg c2']
        rw [List.drop_append_of_le_length (by omega)] at h6 ⊢
        rw [hex4_app A (by rw [List.length_drop]; omega)] at h6
        rw [hex4_app B (by rw [List.length_drop]; omega), h6]
        simp only [if_neg c3]

theorem esc_stable : Stable esc := by
  intro P A B h0 hle
  by_cases hP : P = []
  · subst hP; simp only [List.length_nil, Nat.le_zero] at hle; exact absurd hle h0
  have hp : 0 < P.length := by
    cases P with
    | nil => exact absurd rfl hP
    | cons a b => simp
  have hne : ∀ X : List UInt8, ¬ (P ++ X = []) := fun X h => hP (List.append_eq_nil_iff.1 h).1
  have e : ∀ X, esc (P ++ X) = if short (gb P 0) ≠ 0 then (short (gb P 0), 1)
      else if gb P 0 ≠ 117 then (0, 0)
      else if (uesc (P.drop 1 ++ X)).2 = 0 then (0, 0) else ((uesc (P.drop 1 ++ X)).1, (uesc (P.drop 1 ++ X)).2 + 1) := by
    intro X
    unfold esc
    rw [if_neg (hne X), gb_app X hp, List.drop_append_of_le_length (by omega)]
  by_cases c1 : short (gb P 0) ≠ 0
  · rw [e, e, if_pos c1, if_pos c1]
  by_cases c2 : gb P 0 ≠ 117
  · rw [e, e, if_neg c1, if_neg c1, if_pos c2, if_pos c2]
  have eA := e A
  rw [if_neg c1, if_neg c2] at eA
  by_cases c3 : (uesc (P.drop 1 ++ A)).2 = 0
  · rw [if_pos c3] at eA; rw [eA] at h0; exact absurd rfl h0
  rw [if_neg c3] at eA
  rw [eA] at hle ⊢
  simp only [] at hle
  have := uesc_stable (P.drop 1) A B c3 (by rw [List.length_drop]; omega)
  rw [e B, if_neg c1, if_neg c2, this, if_neg c3]

theorem dec_stable {P A : List UInt8} (B : List UInt8) (hP : P ≠ []) (hk : okc (P ++ A) = true) (hle : (dec (P ++ A)).2 ≤ P.length) : dec (P ++ B) = dec (P ++ A) ∧ okc (P ++ B) = true := by
  have hne : P ++ A ≠ [] := fun h => hP (List.append_eq_nil_iff.1 h).1
  obtain ⟨hv, hw, e, ht⟩ := dec_ok hne hk
  obtain ⟨r, hr⟩ : ∃ r, (dec (P ++ A)).1 = r := ⟨_, rfl⟩
  rw [hr] at hv hw ht
  rw [List.take_append_of_le_length hle] at ht
  have hPe : P = enc r ++ P.drop (dec (P ++ A)).2 := by
    conv => lhs; rw [← List.take_append_drop (dec (P ++ A)).2 P]
    rw [ht]
  have hB : P ++ B = enc r ++ (P.drop (dec (P ++ A)).2 ++ B) := by
    conv => lhs; rw [hPe]
    rw [List.append_assoc]
  rw [hB, dec_enc hv, okc_enc hv]
  exact ⟨Prod.ext hr.symm hw.symm, rfl⟩

theorem plainc_stable : Stable plainc := by
  intro P A B h0 hle
  by_cases hP : P = []
  · subst hP; simp only [List.length_nil, Nat.le_zero] at hle; exact absurd hle h0
  by_cases c : okc (P ++ A) = false ∨ (dec (P ++ A)).1 < 32
  · exact absurd (by unfold plainc; rw [if_pos c]) h0
  have e : plainc (P ++ A) = dec (P ++ A) := by unfold plainc; rw [if_neg c]
  rw [e] at hle ⊢
  have hk : okc (P ++ A) = true := by
    cases h : okc (P ++ A) with
    | true => rfl
    | false => exact absurd (Or.inl h) c
  obtain ⟨h1, h2⟩ := dec_stable B hP hk hle
  unfold plainc
  rw [h1, if_neg]
  rintro (h | h)
  · rw [h2] at h; cases h
  · exact c (Or.inr h)

theorem uchar_stable : Stable uchar := by
  intro P A B h0 hle
  by_cases hP : P = []
  · subst hP; simp only [List.length_nil, Nat.le_zero] at hle; exact absurd hle h0
  have hp : 0 < P.length := by
    cases P with
    | nil => exact absurd rfl hP
    | cons a b => simp
  have e : ∀ X, uchar (P ++ X) = if gb P 0 = 92 then (if (esc (P.drop 1 ++ X)).2 = 0 then (0, 0) else ((esc (P.drop 1 ++ X)).1, (esc (P.drop 1 ++ X)).2 + 1)) else plainc (P ++ X) := by
    intro X
    unfold uchar
    rw [gb_app X hp, List.drop_append_of_le_length (by omega)]
  by_cases c1 : gb P 0 = 92
  · have eA := e A
    rw [if_pos c1] at eA
    by_cases c3 : (esc (P.drop 1 ++ A)).2 = 0
    · rw [if_pos c3] at eA; rw [eA] at h0; exact absurd rfl h0
    rw [if_neg c3] at eA
    rw [eA] at hle ⊢
    simp only [] at hle
    have := esc_stable (P.drop 1) A B c3 (by rw [List.length_drop]; omega)
    rw [e B, if_pos c1, this, if_neg c3]
  · rw [e A, if_neg c1] at h0 hle
    rw [e A, e B, if_neg c1, if_neg c1]
    exact plainc_stable P A B h0 hle

theorem uqin_bound : ∀ (f : Nat) (L x : List UInt8) (k : Nat), L.length ≤ f → uqin L = some (x, k) → 1 ≤ k ∧ k ≤ L.length
  | 0, L, x, k, hf, h => by
    have : L = [] := List.eq_nil_of_length_eq_zero (by omega)
    subst this; rw [uqin_nil] at h; cases h
  | f + 1, L, x, k, hf, h => by
    by_cases hL : L = []
    · subst hL; rw [uqin_nil] at h; cases h
    have hp : 1 ≤ L.length := by
      cases L with
      | nil => exact absurd rfl hL
      | cons a b => simp
    rw [uqin_step hL] at h
    by_cases h34 : gb L 0 = 34
    · rw [if_pos h34] at h; cases h; exact ⟨by omega, hp⟩
    rw [if_neg h34] at h
    by_cases hz : (uchar L).2 = 0
    · rw [if_pos hz] at h; cases h
    rw [if_neg hz] at h
    have hv := (uchar_vr hL hz).2
    cases hr : uqin (L.drop (uchar L).2) with
    | none => rw [hr] at h; cases h
    | some p =>
      obtain ⟨y, m⟩ := p
      rw [hr] at h
      simp only [Option.map_some, Option.some.injEq, Prod.mk.injEq] at h
      have := uqin_bound f _ y m (by rw [List.length_drop]; omega) hr
      rw [List.length_drop] at this
      omega

theorem uqin_stable : ∀ (f : Nat) (P A B x : List UInt8) (k : Nat), P.length ≤ f → uqin (P ++ A) = some (x, k) → k ≤ P.length → uqin (P ++ B) = some (x, k)
  | 0, P, A, B, x, k, hf, h, hk => by
    have := (uqin_bound _ _ x k (Nat.le_refl _) h).1
    omega
  | f + 1, P, A, B, x, k, hf, h, hk => by
    have hk1 := (uqin_bound _ _ x k (Nat.le_refl _) h).1
    have hp : 0 < P.length := by omega
    have hP : P ≠ [] := by intro h; rw [h] at hp; simp at hp
    have hne : ∀ X : List UInt8, P ++ X ≠ [] := fun X h => hP (List.append_eq_nil_iff.1 h).1
    rw [uqin_step (hne A), gb_app A hp] at h
    rw [uqin_step (hne B), gb_app B hp]
    by_cases h34 : gb P 0 = 34
    · rw [if_pos h34] at h ⊢; exact h
    rw [if_neg h34] at h ⊢
    by_cases hz : (uchar (P ++ A)).2 = 0
    · rw [if_pos hz] at h; cases h
    rw [if_neg hz] at h
    cases hr : uqin ((P ++ A).drop (uchar (P ++ A)).2) with
    | none => rw [hr] at h; cases h
    | some p =>
      obtain ⟨y, m⟩ := p
      rw [hr] at h
      simp only [Option.map_some, Option.some.injEq, Prod.mk.injEq] at h
      have hs := uchar_stable P A B hz (by omega)
      rw [List.drop_append_of_le_length (by omega)] at hr
      have := uqin_stable f (P.drop (uchar (P ++ A)).2) A B y m (by rw [List.length_drop]; omega) hr (by rw [List.length_drop]; omega)
      rw [hs, if_neg hz, List.drop_append_of_le_length (by omega), this]
      simp only [Option.map_some, Option.some.injEq, Prod.mk.injEq]
      exact h

theorem unq_bound {L x : List UInt8} {k : Nat} (h : unq L = some (x, k)) : 2 ≤ k ∧ k ≤ L.length := by
  unfold unq at h
  by_cases h34 : gb L 0 = 34
  · rw [if_pos h34] at h
    cases hr : uqin (L.drop 1) with
    | none => rw [hr] at h; cases h
    | some p =>
      obtain ⟨y, m⟩ := p
      rw [hr] at h
      simp only [Option.map_some, Option.some.injEq, Prod.mk.injEq] at h
      have := uqin_bound _ _ y m (Nat.le_refl _) hr
      rw [List.length_drop] at this
      omega
  · rw [if_neg h34] at h; cases h
theorem unq_stable {P A x : List UInt8} {k : Nat} (B : List UInt8) (h : unq (P ++ A) = some (x, k)) (hk : k ≤ P.length) : unq (P ++ B) = some (x, k) := by
  have hb := unq_bound h
  have hp : 0 < P.length := by omega
  unfold unq at h ⊢
  rw [gb_app A hp] at h
  rw [gb_app B hp]
  by_cases h34 : gb P 0 = 34
  · rw [if_pos h34] at h ⊢
    cases hr : uqin ((P ++ A).drop 1) with
    | none => rw [hr] at h; cases h
    | some p =>
      obtain ⟨y, m⟩ := p
      rw [hr] at h
      simp only [Option.map_some, Option.some.injEq, Prod.mk.injEq] at h
      rw [List.drop_append_of_le_length (by omega)] at hr ⊢
      rw [uqin_stable _ _ A B y m (Nat.le_refl _) hr (by rw [List.length_drop]; omega)]
      simp only [Option.map_some, Option.some.injEq, Prod.mk.injEq]
      exact h
  · rw [if_neg h34] at h; cases h

/-- Ends: strings. -/
theorem unqV_ends {L x : List UInt8} {k : Nat} (h : unqV L = (x, k, true)) (R : List UInt8) : (2 ≤ k ∧ k ≤ L.length) ∧ unqV (L.take k ++ R) = (x, k, true) := by
  unfold unqV at h
  cases hu : unq L with
  | none => rw [hu] at h; cases h
  | some p =>
    obtain ⟨y, m⟩ := p
    rw [hu] at h
    cases h
    have hb := unq_bound hu
    refine ⟨hb, ?_⟩
    rw [← List.take_append_drop k L] at hu
    have := unq_stable R hu (by rw [List.length_take]; omega)
    unfold unqV; rw [this]
theorem unqV_no {L x : List UInt8} {k : Nat} (h : unqV L = (x, k, false)) : x = [] ∧ k = 0 := by
  unfold unqV at h
  cases hu : unq L with
  | none => rw [hu] at h; cases h; exact ⟨rfl, rfl⟩
  | some p => obtain ⟨y, m⟩ := p; rw [hu] at h; cases h

/-! ### numbers -/
def dg (c : Nat) : Prop := 48 ≤ c ∧ c ≤ 57
theorem digs_at (l : List UInt8) : ∀ (n a : Nat), digs (l.drop a) = n → (∀ i, i < n → dg (gb l (a + i))) ∧ ¬ dg (gb l (a + n))
  | 0, a, h => by
    refine ⟨fun i hi => by omega, fun hd => ?_⟩
    have : digs (l.drop a) ≠ 0 := by
      have ha : a < l.length := by
        rcases Nat.lt_or_ge a l.length with h' | h'
        · exact h'
        · have := gb_out (l := l) h'
          rw [Nat.add_zero] at hd; unfold dg at hd; omega
      rw [digs_yes ha hd]; omega
    exact this h
  | n + 1, a, h => by
    have hd : dg (gb l a) := by
      by_cases hd : dg (gb l a)
      · exact hd
      · rw [digs_no hd] at h; omega
    have ha : a < l.length := by
      rcases Nat.lt_or_ge a l.length with h' | h'
      · exact h'
      · have := gb_out (l := l) h'
        unfold dg at hd; omega
    rw [digs_yes ha hd] at h
    obtain ⟨h1, h2⟩ := digs_at l n (a + 1) (by omega)
    refine ⟨fun i hi => ?_, ?_⟩
    · rcases Nat.eq_zero_or_pos i with h0 | h0
      · rw [h0]; exact hd
      · have := h1 (i - 1) (by omega)
        rw [show a + 1 + (i - 1) = a + i by omega] at this; exact this
    · rw [show a + (n + 1) = a + 1 + n by omega]; exact h2
theorem digs_only (l : List UInt8) (a n : Nat) (h : ∀ i, i < n → dg (gb l (a + i))) (hn : ¬ dg (gb l (a + n))) : digs (l.drop a) = n := by
  obtain ⟨h1, h2⟩ := digs_at l _ a rfl
  rcases Nat.lt_trichotomy (digs (l.drop a)) n with h' | h' | h'
  · exact absurd (h _ h') h2
  · exact h'
  · exact absurd (h1 _ h') hn
theorem digs_agree {L Y : List UInt8} {k a : Nat} (hag : ∀ i, i < k → gb Y i = gb L i) (hn : ¬ dg (gb Y k)) (h : a + digs (L.drop a) ≤ k) : digs (Y.drop a) = digs (L.drop a) := by
  obtain ⟨h1, h2⟩ := digs_at L _ a rfl
  refine digs_only Y a _ (fun i hi => ?_) ?_
  · rw [hag _ (by omega)]; exact h1 i hi
  · rcases Nat.lt_or_ge (a + digs (L.drop a)) k with h' | h'
    · rw [hag _ h']; exact h2
    · rw [show a + digs (L.drop a) = k by omega]; exact hn

theorem digs_room (l : List UInt8) (a : Nat) : digs (l.drop a) = 0 ∨ a + digs (l.drop a) ≤ l.length := by
  have := digs_le (l.drop a)
  rw [List.length_drop] at this
  omega
theorem numFrac_ways (l : List UInt8) (k : Nat) : numFrac l k = k ∨ (gb l k = 46 ∧ 0 < digs (l.drop (k + 1)) ∧ numFrac l k = k + 1 + digs (l.drop (k + 1))) := by
  unfold numFrac
  by_cases h : gb l k = 46 ∧ 0 < digs (l.drop (k + 1))
  · exact Or.inr ⟨h.1, h.2, by rw [if_pos h]⟩
  · exact Or.inl (by rw [if_neg h])
theorem numExp_ways (l : List UInt8) (k : Nat) : numExp l k = k ∨ ((gb l k = 101 ∨ gb l k = 69) ∧ ∃ m, (m = if gb l (k + 1) = 43 ∨ gb l (k + 1) = 45 then k + 2 else k + 1) ∧ 0 < digs (l.drop m) ∧ numExp l k = m + digs (l.drop m)) := by
  unfold numExp
  by_cases h : gb l k = 101 ∨ gb l k = 69
  · rw [if_pos h]
    obtain ⟨m, hm⟩ : ∃ m, m = (if gb l (k + 1) = 43 ∨ gb l (k + 1) = 45 then k + 2 else k + 1) := ⟨_, rfl⟩
    rw [← hm]
    by_cases h2 : 0 < digs (l.drop m)
    · exact Or.inr ⟨h, m, rfl, h2, by simp only [if_pos h2]⟩
    · exact Or.inl (by simp only [if_neg h2])
  · exact Or.inl (by rw [if_neg h])
theorem number_ways (l : List UInt8) : number l = 0 ∨ ∃ k0 k1, (k0 = if gb l 0 = 45 then 1 else 0) ∧ 0 < digs (l.drop k0) ∧ (k1 = k0 + if gb l k0 = 48 then 1 else digs (l.drop k0)) ∧ number l = numExp l (numFrac l k1) := by
  unfold number
  obtain ⟨k0, h0⟩ : ∃ k0, k0 = (if gb l 0 = 45 then 1 else 0) := ⟨_, rfl⟩
  rw [← h0]
  by_cases h : digs (l.drop k0) = 0
  · exact Or.inl (by simp only [if_pos h])
  · exact Or.inr ⟨k0, _, rfl, by omega, rfl, by simp only [if_neg h]⟩

theorem number_le (l : List UInt8) : number l ≤ l.length := by
  rcases number_ways l with h | ⟨k0, k1, h0, hd, h1, h⟩
  · omega
  have r0 := digs_room l k0
  have hk1 : k1 ≤ l.length := by split at h1 <;> omega
  rcases numFrac_ways l k1 with hf | ⟨_, hf1, hf⟩
  all_goals
    have r1 := digs_room l (k1 + 1)
    rw [hf] at h
    first
    | (rcases numExp_ways l k1 with he | ⟨_, m, hm, he1, he⟩
       all_goals (rw [he] at h; try have r2 := digs_room l m); omega)
    | (rcases numExp_ways l (k1 + 1 + digs (l.drop (k1 + 1))) with he | ⟨_, m, hm, he1, he⟩
       all_goals (rw [he] at h; try have r2 := digs_room l m); omega)

/-- Ends: numbers. -/
theorem number_agree {L Y : List UInt8} (hk : number L ≠ 0) (hag : ∀ i, i < number L → gb Y i = gb L i) (hn : ¬ dg (gb Y (number L))) (hp : gb Y (number L) ≠ 46) (he : gb Y (number L) ≠ 101) (hE : gb Y (number L) ≠ 69) : number Y = number L := by
  obtain ⟨k, hkk⟩ : ∃ k, number L = k := ⟨_, rfl⟩
  rw [hkk] at hk hag hn hp he hE ⊢
  rcases number_ways L with h | ⟨k0, k1, h0, hd, h1, h⟩
  · omega
  have hk1 : k0 < k1 := by split at h1 <;> omega
  -- the exponent
  have hF : k1 ≤ numFrac L k1 := by rcases numFrac_ways L k1 with hf | ⟨_, hf1, hf⟩ <;> omega
  obtain ⟨k2, h2⟩ : ∃ k2, numFrac L k1 = k2 := ⟨_, rfl⟩
  rw [h2] at h hF
  rw [hkk] at h
  have hEx : k2 ≤ k := by
    rcases numExp_ways L k2 with he | ⟨_, m, hm, he1, he⟩
    · omega
    · split at hm <;> omega
  have g0 : gb Y 0 = gb L 0 := hag 0 (by omega)
  have gk0 : gb Y k0 = gb L k0 := hag k0 (by omega)
  have hdY : 0 < digs (Y.drop k0) ∧ (if gb Y k0 = 48 then 1 else digs (Y.drop k0)) = (if gb L k0 = 48 then 1 else digs (L.drop k0)) := by
    rw [gk0]
    by_cases h48 : gb L k0 = 48
    · rw [if_pos h48, if_pos h48]
      refine ⟨?_, rfl⟩
      refine digs_head ?_
      rw [gb_drop, Nat.add_zero, gk0, h48]
    · rw [if_neg h48, if_neg h48]
      rw [if_neg h48] at h1
      have := digs_agree hag hn (a := k0) (by omega)
      omega
  have hfY : numFrac Y k1 = k2 := by
    rcases numFrac_ways L k1 with hf | ⟨hf0, hf1, hf⟩
    · have e2 : k2 = k1 := by omega
      have hne : ¬ (gb Y k1 = 46 ∧ 0 < digs (Y.drop (k1 + 1))) := by
        rintro ⟨h46, hdd⟩
        rcases Nat.lt_or_ge k1 k with hlt | hge
        · rcases numExp_ways L k2 with he' | ⟨hc, m, hm, he1, he'⟩
          · omega
          · rw [hag _ hlt] at h46
            rw [e2] at hc
            omega
        · have : k1 = k := by omega
          rw [this] at h46; exact hp h46
      unfold numFrac; rw [if_neg hne]; omega
    · have := digs_agree hag hn (a := k1 + 1) (by omega)
      unfold numFrac
      rw [hag k1 (by omega), this, if_pos ⟨hf0, hf1⟩]; omega
  have heY : numExp Y k2 = k := by
    rcases numExp_ways L k2 with he' | ⟨hc, m, hm, he1, he'⟩
    · have : k2 = k := by omega
      unfold numExp
      rw [this, if_neg (by omega)]
    · have hm1 : k2 + 1 ≤ m := by split at hm <;> omega
      have := digs_agree hag hn (a := m) (by omega)
      unfold numExp
      rw [hag k2 (by omega), if_pos hc, hag (k2 + 1) (by omega), ← hm]
      show (if 0 < digs (Y.drop m) then m + digs (Y.drop m) else k2) = k
      rw [this, if_pos he1]; omega
  unfold number
  rw [g0, ← h0]
  simp only [if_neg (show ¬ digs (Y.drop k0) = 0 by omega)]
  rw [hdY.2, ← h1, hfY, heY]

theorem number_nil : number [] = 0 := by decide
theorem number_take (L : List UInt8) : number (L.take (number L)) = number L := by
  by_cases h : number L = 0
  · rw [h, List.take_zero]; exact number_nil
  have hl := number_le L
  have h0 : gb (L.take (number L)) (number L) = 0 := gb_out (by rw [List.length_take]; omega)
  refine number_agree h (fun i hi => ?_) (by rw [h0]; unfold dg; omega) (by rw [h0]; omega) (by rw [h0]; omega) (by rw [h0]; omega)
  conv => rhs; rw [← List.take_append_drop (number L) L]
  rw [gb_app _ (by rw [List.length_take]; omega)]
theorem number_comma (L R : List UInt8) (h : number L ≠ 0) : number (L.take (number L) ++ 44 :: R) = number L := by
  have hl := number_le L
  have h0 : gb (L.take (number L) ++ 44 :: R) (number L) = 44 := by
    have hlen : (L.take (number L)).length = number L := by rw [List.length_take]; omega
    unfold gb
    rw [List.getD_eq_getElem?_getD, List.getElem?_append_right (by omega), hlen, Nat.sub_self]
    rfl
  refine number_agree h (fun i hi => ?_) (by rw [h0]; unfold dg; omega) (by rw [h0]; omega) (by rw [h0]; omega) (by rw [h0]; omega)
  rw [gb_app _ (by rw [List.length_take]; omega)]
  conv => rhs; rw [← List.take_append_drop (number L) L]
  rw [gb_app _ (by rw [List.length_take]; omega)]
end Go.Proofs.YtndkbecdjaedaaaGreatDoor
