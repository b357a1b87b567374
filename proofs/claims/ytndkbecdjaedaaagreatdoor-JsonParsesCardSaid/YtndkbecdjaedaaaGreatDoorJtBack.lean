/- Plain: what is quoted is read as it was; strings are quoted part by part. -/
import Derived.Test.YtndkbecdjaedaaaGreatDoorJtEnds
namespace Go.Proofs.YtndkbecdjaedaaaGreatDoor

/-! ### part by part -/
theorem qin_app : ∀ (f : Nat) (a b : List UInt8), a.length ≤ f → valids a = true → qin (a ++ b) = qin a ++ qin b
  | 0, a, b, hf, _ => by
    have : a = [] := List.eq_nil_of_length_eq_zero (by omega)
    subst this; rw [qin_nil]; rfl
  | f + 1, a, b, hf, h => by
    by_cases ha : a = []
    · subst ha; rw [qin_nil]; rfl
    rw [valids_step ha, Bool.and_eq_true] at h
    have hw := dec_width ha
    have hne : a ++ b ≠ [] := fun e => ha (List.append_eq_nil_iff.1 e).1
    obtain ⟨hd, _⟩ := dec_stable (P := a) (A := []) b ha (by rw [List.append_nil]; exact h.1) (by rw [List.append_nil]; exact hw.2.1)
    rw [List.append_nil] at hd
    rw [qin_step hne, qin_step ha, hd, List.drop_append_of_le_length hw.2.1, qin_app f _ b (by rw [List.length_drop]; omega) h.2, List.append_assoc]
theorem quote_parts (a b : List UInt8) (h : valids a = true) : quote (a ++ b) = (quote a).take ((quote a).length - 1) ++ (quote b).drop 1 := by
  unfold quote
  rw [qin_app _ a b (Nat.le_refl _) h]
  have e1 : (34 :: (qin a ++ [34])).length - 1 = (34 :: qin a).length := by simp
  rw [e1, show 34 :: (qin a ++ [34]) = (34 :: qin a) ++ [34] from rfl, List.take_left]
  simp

/-! ### back -/
theorem hexd_back : ∀ a : Nat, a < 16 → hexv (hexd a).toNat = some a := by decide
theorem enc_head {r : Nat} (hv : vr r) (h : 128 ≤ r) (X : List UInt8) : 128 ≤ gb (enc r ++ X) 0 := by
  rcases vr_cases hv with h1 | h1 | h1 | h1
  · omega
  · rw [enc_two h1.1 h1.2]; simp only [List.cons_append, gb_cons_zero]; rw [u8_ofNat_toNat _ (by omega)]; omega
  · rw [enc_three h1]; simp only [List.cons_append, gb_cons_zero]; rw [u8_ofNat_toNat _ (by omega)]; omega
  · rw [enc_four h1.1 h1.2]; simp only [List.cons_append, gb_cons_zero]; rw [u8_ofNat_toNat _ (by omega)]; omega
theorem enc_first {r : Nat} (h : r < 128) (X : List UInt8) : gb (enc r ++ X) 0 = r := by
  rw [enc_one h]; simp only [List.cons_append, gb_cons_zero]; rw [u8_ofNat_toNat _ (by omega)]
theorem enc_ne {r : Nat} : enc r ≠ [] := by
  intro h
  have := enc_length_pos r
  rw [h] at this; simp at this

theorem esc_short (c : UInt8) (X : List UInt8) (h : short c.toNat ≠ 0) : esc (c :: X) = (short c.toNat, 1) := by
  unfold esc
  rw [if_neg (by simp), gb_cons_zero, if_pos h]
theorem uchar_short (c : UInt8) (X : List UInt8) (h : short c.toNat ≠ 0) : uchar (92 :: c :: X) = (short c.toNat, 2) := by
  unfold uchar
  rw [gb_cons_zero, if_pos (show UInt8.toNat 92 = 92 from rfl)]
  show (if (esc (c :: X)).2 = 0 then (0, 0) else ((esc (c :: X)).1, (esc (c :: X)).2 + 1)) = _
  rw [esc_short c X h]; rfl
theorem hex4_low {a b : Nat} (ha : a < 16) (hb : b < 16) (X : List UInt8) : hex4 (48 :: 48 :: hexd a :: hexd b :: X) = some (a * 16 + b) := by
  unfold hex4
  rw [if_neg (by simp)]
  have e0 : hexv (gb (48 :: 48 :: hexd a :: hexd b :: X) 0) = some 0 := by rfl
  have e1 : hexv (gb (48 :: 48 :: hexd a :: hexd b :: X) 1) = some 0 := by rfl
  have e2 : hexv (gb (48 :: 48 :: hexd a :: hexd b :: X) 2) = some a := hexd_back a ha
  have e3 : hexv (gb (48 :: 48 :: hexd a :: hexd b :: X) 3) = some b := hexd_back b hb
  rw [e0, e1, e2, e3]
  simp
theorem uchar_low {r : Nat} (h : r < 32) (X : List UInt8) : uchar (92 :: 117 :: 48 :: 48 :: hexd (r / 16) :: hexd (r % 16) :: X) = (r, 6) := by
  have hh := hex4_low (a := r / 16) (b := r % 16) (by omega) (by omega) X
  rw [show r / 16 * 16 + r % 16 = r by omega] at hh
  have hu : uesc (48 :: 48 :: hexd (r / 16) :: hexd (r % 16) :: X) = (r, 4) := by
    unfold uesc; rw [hh]
    show (if r < 55296 ∨ 57343 < r then (r, 4) else _) = _
    rw [if_pos (by omega)]
  have he : esc (117 :: 48 :: 48 :: hexd (r / 16) :: hexd (r % 16) :: X) = (r, 5) := by
    unfold esc
    rw [if_neg (by simp), gb_cons_zero, if_neg (by decide), if_neg (by decide)]
    show (if (uesc (48 :: 48 :: hexd (r / 16) :: hexd (r % 16) :: X)).2 = 0 then (0, 0) else ((uesc (48 :: 48 :: hexd (r / 16) :: hexd (r % 16) :: X)).1, (uesc (48 :: 48 :: hexd (r / 16) :: hexd (r % 16) :: X)).2 + 1)) = _
    rw [hu]; rfl
  unfold uchar
  rw [gb_cons_zero, if_pos (show UInt8.toNat 92 = 92 from rfl)]
  show (if (esc (117 :: 48 :: 48 :: hexd (r / 16) :: hexd (r % 16) :: X)).2 = 0 then (0, 0) else ((esc (117 :: 48 :: 48 :: hexd (r / 16) :: hexd (r % 16) :: X)).1, (esc (117 :: 48 :: 48 :: hexd (r / 16) :: hexd (r % 16) :: X)).2 + 1)) = _
  rw [he]; rfl

theorem gb92 (l : List UInt8) : gb (92 :: l) 0 ≠ 34 := by rw [gb_cons_zero]; decide

/-- A character, quoted, is read. -/
theorem uchar_qrune {r : Nat} (hv : vr r) (X : List UInt8) : uchar (qrune r ++ X) = (r, (qrune r).length) ∧ gb (qrune r ++ X) 0 ≠ 34 := by
  unfold qrune
  by_cases h1 : r = 8
  · subst h1; exact ⟨uchar_short 98 X (by decide), gb92 _⟩
  rw [if_neg h1]
  by_cases h2 : r = 9
  · subst h2; exact ⟨uchar_short 116 X (by decide), gb92 _⟩
  rw [if_neg h2]
  by_cases h3 : r = 10
  · subst h3; exact ⟨uchar_short 110 X (by decide), gb92 _⟩
  rw [if_neg h3]
  by_cases h4 : r = 12
  · subst h4; exact ⟨uchar_short 102 X (by decide), gb92 _⟩
  rw [if_neg h4]
  by_cases h5 : r = 13
  · subst h5; exact ⟨uchar_short 114 X (by decide), gb92 _⟩
  rw [if_neg h5]
  by_cases h6 : r = 34
  · subst h6; exact ⟨uchar_short 34 X (by decide), gb92 _⟩
  rw [if_neg h6]
  by_cases h7 : r = 92
  · subst h7; exact ⟨uchar_short 92 X (by decide), gb92 _⟩
  rw [if_neg h7]
  by_cases h8 : r < 32
  · rw [if_pos h8]; exact ⟨uchar_low h8 X, gb92 _⟩
  rw [if_neg h8]
  have hg : gb (enc r ++ X) 0 ≠ 92 ∧ gb (enc r ++ X) 0 ≠ 34 := by
    by_cases h9 : r < 128
    · rw [enc_first h9]; exact ⟨h7, h6⟩
    · have := enc_head hv (by omega) X; omega
  refine ⟨?_, hg.2⟩
  unfold uchar
  rw [if_neg hg.1]
  unfold plainc
  rw [okc_enc hv, dec_enc hv, if_neg]
  rintro (h | h)
  · cases h
  · exact h8 h

/-- What is left of a string: each byte that belongs to no character made one. -/
def mendF : Nat → List UInt8 → List UInt8
  | 0, _ => []
  | f + 1, l => if l = [] then [] else enc (dec l).1 ++ mendF f (l.drop (dec l).2)
theorem vr_dec {l : List UInt8} (hl : l ≠ []) : vr (dec l).1 := by
  cases h : okc l with
  | true => exact (dec_ok hl h).1
  | false => rw [dec_bad h]; unfold vr; omega

theorem uqin_qin : ∀ (f : Nat) (l R : List UInt8), l.length ≤ f → uqin (qin l ++ 34 :: R) = some (mendF f l, (qin l).length + 1)
  | 0, l, R, hf => by
    have : l = [] := List.eq_nil_of_length_eq_zero (by omega)
    subst this
    rw [qin_nil, List.nil_append, uqin_step (by simp), if_pos (by rfl)]; rfl
  | f + 1, l, R, hf => by
    by_cases hl : l = []
    · subst hl
      rw [qin_nil, List.nil_append, uqin_step (by simp), if_pos (by rfl)]; rfl
    have hw := dec_width hl
    obtain ⟨hu, hg⟩ := uchar_qrune (vr_dec hl) (qin (l.drop (dec l).2) ++ 34 :: R)
    have hp := (qrune_length (dec l).1).1
    have hne : qrune (dec l).1 ++ (qin (l.drop (dec l).2) ++ 34 :: R) ≠ [] := by
      intro e
      have := (List.append_eq_nil_iff.1 e).1
      rw [this] at hp; simp at hp
    rw [qin_step hl, List.append_assoc, uqin_step hne, if_neg hg, hu, if_neg (by simp only []; omega)]
    simp only []
    rw [List.drop_left, uqin_qin f _ R (by rw [List.length_drop]; omega)]
    simp only [Option.map_some, mendF, if_neg hl, List.length_append, Nat.add_assoc]

theorem mend_valid : ∀ (f : Nat) (l : List UInt8), l.length ≤ f → valids l = true → mendF f l = l
  | 0, l, hf, _ => by
    have : l = [] := List.eq_nil_of_length_eq_zero (by omega)
    subst this; rfl
  | f + 1, l, hf, h => by
    by_cases hl : l = []
    · subst hl; simp [mendF]
    rw [valids_step hl, Bool.and_eq_true] at h
    have hw := dec_width hl
    simp only [mendF, if_neg hl]
    rw [mend_valid f _ (by rw [List.length_drop]; omega) h.2]
    exact (dec_ok hl h.1).2.2.1.symm

theorem valids_enc {r : Nat} (hv : vr r) (y : List UInt8) : valids (enc r ++ y) = valids y := by
  rw [valids_step (fun e => enc_ne (List.append_eq_nil_iff.1 e).1), okc_enc hv, dec_enc hv]
  simp
theorem uqin_valid : ∀ (f : Nat) (L x : List UInt8) (k : Nat), L.length ≤ f → uqin L = some (x, k) → valids x = true
  | 0, L, x, k, hf, h => by
    have : L = [] := List.eq_nil_of_length_eq_zero (by omega)
    subst this; rw [uqin_nil] at h; cases h
  | f + 1, L, x, k, hf, h => by
    by_cases hL : L = []
    · subst hL; rw [uqin_nil] at h; cases h
    rw [uqin_step hL] at h
    by_cases h34 : gb L 0 = 34
    · rw [if_pos h34] at h; cases h; rfl
    rw [if_neg h34] at h
    by_cases hz : (uchar L).2 = 0
    · rw [if_pos hz] at h; cases h
    rw [if_neg hz] at h
    cases hr : uqin (L.drop (uchar L).2) with
    | none => rw [hr] at h; cases h
    | some p =>
      obtain ⟨y, m⟩ := p
      rw [hr] at h
      simp only [Option.map_some, Option.some.injEq, Prod.mk.injEq] at h
      have := uqin_valid f _ y m (by rw [List.length_drop]; omega) hr
      rw [← h.1, valids_enc (uchar_vr hL hz).1]
      exact this

/-- THE STAGE's THEOREM, in lists. -/
theorem back (s R : List UInt8) : ∃ x, unqV (quote s ++ R) = (x, (quote s).length, true) ∧ (valids s = true → x = s) := by
  refine ⟨mendF s.length s, ?_, mend_valid _ s (Nat.le_refl _)⟩
  have hu : unq (quote s ++ R) = some (mendF s.length s, (quote s).length) := by
    have h := uqin_qin s.length s R (Nat.le_refl _)
    have e : quote s ++ R = 34 :: (qin s ++ 34 :: R) := by unfold quote; simp
    rw [e]
    unfold unq
    rw [gb_cons_zero, if_pos (show UInt8.toNat 34 = 34 from rfl)]
    show Option.map _ (uqin (qin s ++ 34 :: R)) = _
    rw [h]
    unfold quote
    simp
  unfold unqV; rw [hu]
theorem unqV_valid {L y : List UInt8} {k : Nat} (h : unqV L = (y, k, true)) : valids y = true := by
  unfold unqV at h
  cases hu : unq L with
  | none => rw [hu] at h; cases h
  | some p =>
    obtain ⟨x, m⟩ := p
    rw [hu] at h
    cases h
    unfold unq at hu
    by_cases h34 : gb L 0 = 34
    · rw [if_pos h34] at hu
      cases hr : uqin (L.drop 1) with
      | none => rw [hr] at hu; cases hu
      | some q =>
        obtain ⟨z, j⟩ := q
        rw [hr] at hu
        simp only [Option.map_some, Option.some.injEq, Prod.mk.injEq] at hu
        rw [← hu.1]
        exact uqin_valid _ _ z j (Nat.le_refl _) hr
    · rw [if_neg h34] at hu; cases hu
theorem back_again {y : List UInt8} (h : valids y = true) : unqV (quote y) = (y, (quote y).length, true) := by
  obtain ⟨x, hx, hv⟩ := back y []
  rw [List.append_nil] at hx
  rw [hx, hv h]
/-- What is read is no longer than what it was read from. -/
theorem uqin_short : ∀ (f : Nat) (L x : List UInt8) (k : Nat), L.length ≤ f → uqin L = some (x, k) → x.length ≤ 4 * k
  | 0, L, x, k, hf, h => by
    have : L = [] := List.eq_nil_of_length_eq_zero (by omega)
    subst this; rw [uqin_nil] at h; cases h
  | f + 1, L, x, k, hf, h => by
    by_cases hL : L = []
    · subst hL; rw [uqin_nil] at h; cases h
    rw [uqin_step hL] at h
    by_cases h34 : gb L 0 = 34
    · rw [if_pos h34] at h; cases h; simp
    rw [if_neg h34] at h
    by_cases hz : (uchar L).2 = 0
    · rw [if_pos hz] at h; cases h
    rw [if_neg hz] at h
    cases hr : uqin (L.drop (uchar L).2) with
    | none => rw [hr] at h; cases h
    | some p =>
      obtain ⟨y, m⟩ := p
      rw [hr] at h
      simp only [Option.map_some, Option.some.injEq, Prod.mk.injEq] at h
      have := uqin_short f _ y m (by rw [List.length_drop]; omega) hr
      have h4 := enc_length_le (uchar L).1
      rw [← h.1, ← h.2, List.length_append]
      omega
theorem unqV_short {L y : List UInt8} {k : Nat} (h : unqV L = (y, k, true)) : y.length ≤ 4 * L.length := by
  have hb := (unqV_ends h []).1
  unfold unqV at h
  cases hu : unq L with
  | none => rw [hu] at h; cases h
  | some p =>
    obtain ⟨x, m⟩ := p
    rw [hu] at h
    cases h
    unfold unq at hu
    by_cases h34 : gb L 0 = 34
    · rw [if_pos h34] at hu
      cases hr : uqin (L.drop 1) with
      | none => rw [hr] at hu; cases hu
      | some q =>
        obtain ⟨z, j⟩ := q
        rw [hr] at hu
        simp only [Option.map_some, Option.some.injEq, Prod.mk.injEq] at hu
        have := uqin_short _ _ z j (Nat.le_refl _) hr
        rw [← hu.1]
        omega
    · rw [if_neg h34] at hu; cases hu
end Go.Proofs.YtndkbecdjaedaaaGreatDoor
