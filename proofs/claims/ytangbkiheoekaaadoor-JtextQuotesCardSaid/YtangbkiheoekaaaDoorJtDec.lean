/- Plain Lean on lists of bytes: one character decoded and encoded. No program, no memory. -/
import Derived.Lib.RuneBytes
import Derived.Lib.DecodeN
namespace Go.Proofs.YtangbkiheoekaaaDoor
open Go.Lib

/-- The byte at a place (0 beyond the end), as a number. -/
def gb (l : List UInt8) (i : Nat) : Nat := (l.getD i 0).toNat
theorem gb_lt (l : List UInt8) (i : Nat) : gb l i < 256 := by unfold gb; exact UInt8.toNat_lt _
@[simp] theorem gb_cons_zero (c : UInt8) (l : List UInt8) : gb (c :: l) 0 = c.toNat := rfl
@[simp] theorem gb_cons_succ (c : UInt8) (l : List UInt8) (i : Nat) : gb (c :: l) (i + 1) = gb l i := by simp [gb]
theorem gb_drop (l : List UInt8) (k i : Nat) : gb (l.drop k) i = gb l (k + i) := by simp [gb, List.getD_eq_getElem?_getD, List.getElem?_drop]
theorem gb_nil (i : Nat) : gb [] i = 0 := by simp [gb]

/-- The character that bytes begin with, and how many bytes it has; (65533, 1): none. -/
def dec (l : List UInt8) : Nat × Nat := decodeN l.length (gb l 0) (gb l 1) (gb l 2) (gb l 3)
/-- Is there one? -/
def okc (l : List UInt8) : Bool := !((dec l).1 == 65533 && (dec l).2 == 1)

/-- A character that may be. -/
def vr (r : Nat) : Prop := r < 55296 ∨ (57344 ≤ r ∧ r ≤ 1114111)
instance (r : Nat) : Decidable (vr r) := by unfold vr; infer_instance

def enc (r : Nat) : List UInt8 := encodeRune (r : Int)

theorem u8_ofNat_toNat (n : Nat) (h : n < 256) : (UInt8.ofNat n).toNat = n := by
  rw [UInt8.toNat_ofNat']; exact Nat.mod_eq_of_lt h
theorem u8_eq (c : UInt8) (n : Nat) (h : c.toNat = n) : c = UInt8.ofNat n := by rw [← h]; simp

theorem enc_one {r : Nat} (h : r < 128) : enc r = [UInt8.ofNat r] := by
  unfold enc encodeRune; rw [encodeRuneZ_one (by omega) (by omega)]; simp
theorem enc_two {r : Nat} (h : 128 ≤ r) (h1 : r < 2048) : enc r = [UInt8.ofNat (192 + r / 64), UInt8.ofNat (128 + r % 64)] := by
  unfold enc encodeRune; rw [encodeRuneZ_two (by omega) (by omega)]
  simp only [List.map_cons, List.map_nil]
  congr 1
theorem enc_three {r : Nat} (h : (2048 ≤ r ∧ r < 55296) ∨ (57344 ≤ r ∧ r < 65536)) : enc r = [UInt8.ofNat (224 + r / 4096), UInt8.ofNat (128 + r / 64 % 64), UInt8.ofNat (128 + r % 64)] := by
  unfold enc encodeRune; rw [encodeRuneZ_three (by omega)]
  simp only [List.map_cons, List.map_nil]
  congr 1
theorem enc_four {r : Nat} (h : 65536 ≤ r) (h1 : r ≤ 1114111) : enc r = [UInt8.ofNat (240 + r / 262144), UInt8.ofNat (128 + r / 4096 % 64), UInt8.ofNat (128 + r / 64 % 64), UInt8.ofNat (128 + r % 64)] := by
  unfold enc encodeRune; rw [encodeRuneZ_four (by omega) (by omega)]
  simp only [List.map_cons, List.map_nil]
  congr 1
theorem enc_length_pos (r : Nat) : 1 ≤ (enc r).length := by
  unfold enc; rw [← runeCells_length]; exact (runeCells_le _).1
theorem enc_length_le (r : Nat) : (enc r).length ≤ 4 := by
  unfold enc; rw [← runeCells_length]; exact (runeCells_le _).2

theorem vr_cases {r : Nat} (h : vr r) : r < 128 ∨ (128 ≤ r ∧ r < 2048) ∨ ((2048 ≤ r ∧ r < 55296) ∨ (57344 ≤ r ∧ r < 65536)) ∨ (65536 ≤ r ∧ r ≤ 1114111) := by
  unfold vr at h; omega

set_option maxHeartbeats 4000000 in
theorem dec_enc {r : Nat} (h : vr r) (rest : List UInt8) : dec (enc r ++ rest) = (r, (enc r).length) := by
  rcases vr_cases h with h | h | h | h
  · rw [enc_one h]; simp only [dec, List.cons_append, List.nil_append, gb_cons_zero]
    rw [u8_ofNat_toNat _ (by omega)]; unfold decodeN; rw [if_pos h]; rfl
  · rw [enc_two h.1 h.2]; simp only [dec, List.cons_append, List.nil_append, gb_cons_zero, gb_cons_succ, List.length_cons, List.length_nil]
    rw [u8_ofNat_toNat _ (by omega), u8_ofNat_toNat _ (by omega)]; unfold decodeN
    rw [if_neg (by omega), if_pos (by omega), if_pos (by omega)]
    apply Prod.ext <;> simp only <;> omega
  · rw [enc_three h]; simp only [dec, List.cons_append, List.nil_append, gb_cons_zero, gb_cons_succ, List.length_cons, List.length_nil]
    rw [u8_ofNat_toNat _ (by omega), u8_ofNat_toNat _ (by omega), u8_ofNat_toNat _ (by omega)]; unfold decodeN
    rw [if_neg (by omega), if_neg (by omega), if_pos (by omega), if_pos (by omega)]
    apply Prod.ext <;> simp only <;> omega
  · rw [enc_four h.1 h.2]; simp only [dec, List.cons_append, List.nil_append, gb_cons_zero, gb_cons_succ, List.length_cons, List.length_nil]
    rw [u8_ofNat_toNat _ (by omega), u8_ofNat_toNat _ (by omega), u8_ofNat_toNat _ (by omega), u8_ofNat_toNat _ (by omega)]; unfold decodeN
    rw [if_neg (by omega), if_neg (by omega), if_neg (by omega), if_pos (by omega), if_pos (by omega)]
    apply Prod.ext <;> simp only <;> omega

/-- What the decoder says, case by case, in numbers. -/
theorem decodeN_cases (n b0 b1 b2 b3 : Nat) :
    decodeN n b0 b1 b2 b3 = (65533, 1)
    ∨ (b0 < 128 ∧ decodeN n b0 b1 b2 b3 = (b0, 1))
    ∨ (∃ r, 128 ≤ r ∧ r < 2048 ∧ 1 < n ∧ b0 = 192 + r / 64 ∧ (b1 / 64 = 2 ∧ b1 % 64 = r % 64) ∧ decodeN n b0 b1 b2 b3 = (r, 2))
    ∨ (∃ r, ((2048 ≤ r ∧ r < 55296) ∨ (57344 ≤ r ∧ r < 65536)) ∧ 2 < n ∧ b0 = 224 + r / 4096 ∧ (b1 / 64 = 2 ∧ b1 % 64 = r / 64 % 64) ∧ (b2 / 64 = 2 ∧ b2 % 64 = r % 64) ∧ decodeN n b0 b1 b2 b3 = (r, 3))
    ∨ (∃ r, (65536 ≤ r ∧ r ≤ 1114111) ∧ 3 < n ∧ b0 = 240 + r / 262144 ∧ (b1 / 64 = 2 ∧ b1 % 64 = r / 4096 % 64) ∧ (b2 / 64 = 2 ∧ b2 % 64 = r / 64 % 64) ∧ (b3 / 64 = 2 ∧ b3 % 64 = r % 64) ∧ decodeN n b0 b1 b2 b3 = (r, 4)) := by
  unfold decodeN
  by_cases h0 : b0 < 128
  · rw [if_pos h0]; exact Or.inr (Or.inl ⟨h0, rfl⟩)
  rw [if_neg h0]
  by_cases h1 : b0 / 32 = 6 ∧ (1 < n ∧ b1 / 64 = 2)
  · rw [if_pos h1]
    by_cases h2 : b0 % 32 * 64 + b1 % 64 ≥ 128
    · rw [if_pos h2]
      exact Or.inr (Or.inr (Or.inl ⟨_, h2, by omega, h1.2.1, by omega, ⟨h1.2.2, by omega⟩, rfl⟩))
    · rw [if_neg h2]; exact Or.inl rfl
  rw [if_neg h1]
  by_cases h2 : b0 / 16 = 14 ∧ (1 < n ∧ b1 / 64 = 2) ∧ (2 < n ∧ b2 / 64 = 2)
  · rw [if_pos h2]
    split
    · rename_i h3
      exact Or.inr (Or.inr (Or.inr (Or.inl ⟨_, by omega, h2.2.2.1, by omega, ⟨h2.2.1.2, by omega⟩, ⟨h2.2.2.2, by omega⟩, rfl⟩)))
    · exact Or.inl rfl
  rw [if_neg h2]
  by_cases h3 : b0 / 8 = 30 ∧ (1 < n ∧ b1 / 64 = 2) ∧ (2 < n ∧ b2 / 64 = 2) ∧ (3 < n ∧ b3 / 64 = 2)
  · rw [if_pos h3]
    split
    · rename_i h4
      exact Or.inr (Or.inr (Or.inr (Or.inr ⟨_, by omega, h3.2.2.2.1, by omega, ⟨h3.2.1.2, by omega⟩, ⟨h3.2.2.1.2, by omega⟩, ⟨h3.2.2.2.2, by omega⟩, rfl⟩)))
    · exact Or.inl rfl
  · rw [if_neg h3]; exact Or.inl rfl

/-- Bytes begin with a character, or with none. -/
theorem dec_cases (l : List UInt8) (hl : l ≠ []) :
    (∃ r rest, vr r ∧ l = enc r ++ rest ∧ dec l = (r, (enc r).length)) ∨ dec l = (65533, 1) := by
  obtain ⟨c0, l0, rfl⟩ : ∃ c l', l = c :: l' := by
    cases l with
    | nil => exact absurd rfl hl
    | cons c l' => exact ⟨c, l', rfl⟩
  have hc (c : UInt8) (k q : Nat) (h : c.toNat / 64 = 2) (h' : c.toNat % 64 = q) : c = UInt8.ofNat (128 + q) := u8_eq _ _ (by omega)
  rcases decodeN_cases (c0 :: l0).length (gb (c0 :: l0) 0) (gb (c0 :: l0) 1) (gb (c0 :: l0) 2) (gb (c0 :: l0) 3) with h | ⟨h0, h⟩ | ⟨r, h1, h2, hn, e0, e1, h⟩ | ⟨r, h1, hn, e0, e1, e2, h⟩ | ⟨r, h1, hn, e0, e1, e2, e3, h⟩
  · exact Or.inr h
  · refine Or.inl ⟨c0.toNat, l0, by unfold vr; simp at h0; omega, ?_, ?_⟩
    · rw [enc_one (by simpa using h0)]; simp
    · rw [enc_one (by simpa using h0)]; exact h
  · obtain ⟨c1, l1, rfl⟩ : ∃ c l', l0 = c :: l' := by
      cases l0 with
      | nil => simp at hn
      | cons c l' => exact ⟨c, l', rfl⟩
    simp only [gb_cons_zero, gb_cons_succ] at e0 e1
    refine Or.inl ⟨r, l1, by unfold vr; omega, ?_, ?_⟩
    · rw [enc_two h1 h2, hc c1 1 _ e1.1 e1.2, u8_eq c0 _ e0]; rfl
    · rw [enc_two h1 h2]; exact h
  · obtain ⟨c1, c2, l1, rfl⟩ : ∃ c c' l', l0 = c :: c' :: l' := by
      match l0, hn with
      | c :: c' :: l', _ => exact ⟨c, c', l', rfl⟩
    simp only [gb_cons_zero, gb_cons_succ] at e0 e1 e2
    refine Or.inl ⟨r, l1, by unfold vr; omega, ?_, ?_⟩
    · rw [enc_three h1, hc c1 1 _ e1.1 e1.2, hc c2 1 _ e2.1 e2.2, u8_eq c0 _ e0]; rfl
    · rw [enc_three h1]; exact h
  · obtain ⟨c1, c2, c3, l1, rfl⟩ : ∃ c c' c'' l', l0 = c :: c' :: c'' :: l' := by
      match l0, hn with
      | c :: c' :: c'' :: l', _ => exact ⟨c, c', c'', l', rfl⟩
    simp only [gb_cons_zero, gb_cons_succ] at e0 e1 e2 e3
    refine Or.inl ⟨r, l1, by unfold vr; omega, ?_, ?_⟩
    · rw [enc_four h1.1 h1.2, hc c1 1 _ e1.1 e1.2, hc c2 1 _ e2.1 e2.2, hc c3 1 _ e3.1 e3.2, u8_eq c0 _ e0]; rfl
    · rw [enc_four h1.1 h1.2]; exact h

theorem enc_fffd_length : (enc 65533).length = 3 := by rw [enc_three (by omega)]; rfl

theorem vr_width {r : Nat} (h : vr r) : (r = 65533 ∧ (enc r).length = 1) → False := by
  rintro ⟨rfl, h⟩; rw [enc_fffd_length] at h; omega

theorem okc_enc {r : Nat} (h : vr r) (rest : List UInt8) : okc (enc r ++ rest) = true := by
  unfold okc; rw [dec_enc h]
  have := vr_width h
  simp only [Bool.not_eq_true', Bool.and_eq_false_iff, beq_eq_false_iff_ne]
  by_cases h1 : r = 65533
  · exact Or.inr (fun h2 => this ⟨h1, h2⟩)
  · exact Or.inl h1

/-- A character is there: the bytes are its own, and the rest. -/
theorem dec_ok {l : List UInt8} (hl : l ≠ []) (h : okc l = true) :
    vr (dec l).1 ∧ (dec l).2 = (enc (dec l).1).length ∧ l = enc (dec l).1 ++ l.drop (dec l).2 ∧ l.take (dec l).2 = enc (dec l).1 := by
  rcases dec_cases l hl with ⟨r, rest, hv, e, hd⟩ | hd
  · rw [hd]
    refine ⟨hv, rfl, ?_, ?_⟩
    · conv => lhs; rw [e]
      rw [e]; simp
    · rw [e]; simp
  · unfold okc at h; rw [hd] at h; simp at h

theorem dec_bad {l : List UInt8} (h : okc l = false) : dec l = (65533, 1) := by
  unfold okc at h
  simp only [Bool.not_eq_false', Bool.and_eq_true, beq_iff_eq] at h
  exact Prod.ext h.1 h.2

theorem dec_width {l : List UInt8} (hl : l ≠ []) : 1 ≤ (dec l).2 ∧ (dec l).2 ≤ l.length ∧ (dec l).2 ≤ 4 := by
  have hp : 1 ≤ l.length := by
    cases l with
    | nil => exact absurd rfl hl
    | cons c l' => simp
  by_cases h : okc l = true
  · obtain ⟨hv, hw, hd, _⟩ := dec_ok hl h
    have e := congrArg List.length hd
    rw [List.length_append] at e
    have := enc_length_le (dec l).1
    have := enc_length_pos (dec l).1
    rw [← hw] at *
    omega
  · rw [dec_bad (by simpa using h)]; simp; omega

theorem dec_rune_le {l : List UInt8} (hl : l ≠ []) : (dec l).1 ≤ 1114111 := by
  by_cases h : okc l = true
  · obtain ⟨hv, _⟩ := dec_ok hl h
    unfold vr at hv; omega
  · rw [dec_bad (by simpa using h)]; decide

/-- The model's own decoder, at a place of a string. -/
theorem decode_list (s : ByteArray) (i : Nat) : Utf8.decode s i = dec (s.data.toList.drop i) := by
  rw [Lib.decode_at]
  unfold dec
  have hg (k : Nat) : (s.get! k).toNat = gb s.data.toList k := by
    unfold gb ByteArray.get!
    rw [List.getD_eq_getElem?_getD, ← Array.getElem?_toList.symm]
    simp [getElem!_def]
    cases h : s.data[k]? with
    | none => rfl
    | some v => rfl
  rw [hg, hg, hg, hg, gb_drop, gb_drop, gb_drop, gb_drop, List.length_drop]
  congr 1

end Go.Proofs.YtangbkiheoekaaaDoor
