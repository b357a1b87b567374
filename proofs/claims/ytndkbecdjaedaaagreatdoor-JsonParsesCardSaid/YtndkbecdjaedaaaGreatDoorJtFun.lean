/- Plain Lean on lists of bytes: one character decoded and encoded. No program, no memory. -/
import Derived.Lib.RuneBytes
import Derived.Lib.DecodeN
namespace Go.Proofs.YtndkbecdjaedaaaGreatDoor
open Go.Lib

/-- The byte at a place (0 beyond the end), as a number. -/
def gb (l : List UInt8) (i : Nat) : Nat := (l.getD i 0).toNat
theorem gb_lt (l : List UInt8) (i : Nat) : gb l i < 256 := by unfold gb; exact UInt8.toNat_lt _
@[simp] theorem gb_cons_zero (c : UInt8) (l : List UInt8) : gb (c :: l) 0 = c.toNat := rfl
@[simp] theorem gb_cons_succ (c : UInt8) (l : List UInt8) (i : Nat) : gb (c :: l) (i + 1) = gb l i := by simp [gb]
theorem gb_drop (l : List UInt8) (k i : Nat) : gb (l.drop k) i = gb l (k + i) := by simp [gb, List.getD_eq_getElem?_getD, List.getElem?_drop]
theorem gb_nil (i : Nat) : gb [] i = 0 := by simp [gb]

/-- The character that bytes begin with, and how many bytes it has; (65533, 1): none. -/
def dec (l : List UInt8) : Nat × Nat := decodeN l.length (gb l 0) (gb l 1) (gb l 2) (gb l 3)
/-- Is there one? -/
def okc (l : List UInt8) : Bool := !((dec l).1 == 65533 && (dec l).2 == 1)

/-- A character that may be. -/
def vr (r : Nat) : Prop := r < 55296 ∨ (57344 ≤ r ∧ r ≤ 1114111)
instance (r : Nat) : Decidable (vr r) := by unfold vr; infer_instance

def enc (r : Nat) : List UInt8 := encodeRune (r : Int)

theorem u8_ofNat_toNat (n : Nat) (h : n < 256) : (UInt8.ofNat n).toNat = n := by
  rw [UInt8.toNat_ofNat']; exact Nat.mod_eq_of_lt h
theorem u8_eq (c : UInt8) (n : Nat) (h : c.toNat = n) : c = UInt8.ofNat n := by rw [← h]; simp

theorem enc_one {r : Nat} (h : r < 128) : enc r = [UInt8.ofNat r] := by
  unfold enc encodeRune; rw [encodeRuneZ_one (by omega) (by omega)]; simp
theorem enc_two {r : Nat} (h : 128 ≤ r) (h1 : r < 2048) : enc r = [UInt8.ofNat (192 + r / 64), UInt8.ofNat (128 + r % 64)] := by
  unfold enc encodeRune; rw [encodeRuneZ_two (by omega) (by omega)]
  simp only [List.map_cons, List.map_nil]
  congr 1
theorem enc_three {r : Nat} (h : (2048 ≤ r ∧ r < 55296) ∨ (57344 ≤ r ∧ r < 65536)) : enc r = [UInt8.ofNat (224 + r / 4096), UInt8.ofNat (128 + r / 64 % 64), UInt8.ofNat (128 + r % 64)] := by
  unfold enc encodeRune; rw [encodeRuneZ_three (by omega)]
  simp only [List.map_cons, List.map_nil]
  congr 1
theorem enc_four {r : Nat} (h : 65536 ≤ r) (h1 : r ≤ 1114111) : enc r = [UInt8.ofNat (240 + r / 262144), UInt8.ofNat (128 + r / 4096 % 64), UInt8.ofNat (128 + r / 64 % 64), UInt8.ofNat (128 + r % 64)] := by
  unfold enc encodeRune; rw [encodeRuneZ_four (by omega) (by omega)]
  simp only [List.map_cons, List.map_nil]
  congr 1
theorem enc_length_pos (r : Nat) : 1 ≤ (enc r).length := by
  unfold enc; rw [← runeCells_length]; exact (runeCells_le _).1
theorem enc_length_le (r : Nat) : (enc r).length ≤ 4 := by
  unfold enc; rw [← runeCells_length]; exact (runeCells_le _).2

theorem vr_cases {r : Nat} (h : vr r) : r < 128 ∨ (128 ≤ r ∧ r < 2048) ∨ ((2048 ≤ r ∧ r < 55296) ∨ (57344 ≤ r ∧ r < 65536)) ∨ (65536 ≤ r ∧ r ≤ 1114111) := by
  unfold vr at h; omega

set_option maxHeartbeats 4000000 in
theorem dec_enc {r : Nat} (h : vr r) (rest : List UInt8) : dec (enc r ++ rest) = (r, (enc r).length) := by
  rcases vr_cases h with h | h | h | h
  · rw [enc_one h]; simp only [dec, List.cons_append, List.nil_append, gb_cons_zero]
    rw [u8_ofNat_toNat _ (by omega)]; unfold decodeN; rw [if_pos h]; rfl
  · rw [enc_two h.1 h.2]; simp only [dec, List.cons_append, List.nil_append, gb_cons_zero, gb_cons_succ, List.length_cons, List.length_nil]
    rw [u8_ofNat_toNat _ (by omega), u8_ofNat_toNat _ (by omega)]; unfold decodeN
    rw [if_neg (by omega), if_pos (by omega), if_pos (by omega)]
    apply Prod.ext <;> simp only <;> omega
  · rw [enc_three h]; simp only [dec, List.cons_append, List.nil_append, gb_cons_zero, gb_cons_succ, List.length_cons, List.length_nil]
    rw [u8_ofNat_toNat _ (by omega), u8_ofNat_toNat _ (by omega), u8_ofNat_toNat _ (by omega)]; unfold decodeN
    rw [if_neg (by omega), if_neg (by omega), if_pos (by omega), if_pos (by omega)]
    apply Prod.ext <;> simp only <;> omega
  · rw [enc_four h.1 h.2]; simp only [dec, List.cons_append, List.nil_append, gb_cons_zero, gb_cons_succ, List.length_cons, List.length_nil]
    rw [u8_ofNat_toNat _ (by omega), u8_ofNat_toNat _ (by omega), u8_ofNat_toNat _ (by omega), u8_ofNat_toNat _ (by omega)]; unfold decodeN
    rw [if_neg (by omega), if_neg (by omega), if_neg (by omega), if_pos (by omega), if_pos (by omega)]
    apply Prod.ext <;> simp only <;> omega

/-- What the decoder says, case by case, in numbers. -/
theorem decodeN_cases (n b0 b1 b2 b3 : Nat) :
    decodeN n b0 b1 b2 b3 = (65533, 1)
    ∨ (b0 < 128 ∧ decodeN n b0 b1 b2 b3 = (b0, 1))
    ∨ (∃ r, 128 ≤ r ∧ r < 2048 ∧ 1 < n ∧ b0 = 192 + r / 64 ∧ (b1 / 64 = 2 ∧ b1 % 64 = r % 64) ∧ decodeN n b0 b1 b2 b3 = (r, 2))
    ∨ (∃ r, ((2048 ≤ r ∧ r < 55296) ∨ (57344 ≤ r ∧ r < 65536)) ∧ 2 < n ∧ b0 = 224 + r / 4096 ∧ (b1 / 64 = 2 ∧ b1 % 64 = r / 64 % 64) ∧ (b2 / 64 = 2 ∧ b2 % 64 = r % 64) ∧ decodeN n b0 b1 b2 b3 = (r, 3))
    ∨ (∃ r, (65536 ≤ r ∧ r ≤ 1114111) ∧ 3 < n ∧ b0 = 240 + r / 262144 ∧ (b1 / 64 = 2 ∧ b1 % 64 = r / 4096 % 64) ∧ (b2 / 64 = 2 ∧ b2 % 64 = r / 64 % 64) ∧ (b3 / 64 = 2 ∧ b3 % 64 = r % 64) ∧ decodeN n b0 b1 b2 b3 = (r, 4)) := by
  unfold decodeN
  by_cases h0 : b0 < 128
  · rw [if_pos h0]; exact Or.inr (Or.inl ⟨h0, rfl⟩)
  rw [if_neg h0]
  by_cases h1 : b0 / 32 = 6 ∧ (1 < n ∧ b1 / 64 = 2)
  · rw [if_pos h1]
    by_cases h2 : b0 % 32 * 64 + b1 % 64 ≥ 128
    · rw [if_pos h2]
      exact Or.inr (Or.inr (Or.inl ⟨_, h2, by omega, h1.2.1, by omega, ⟨h1.2.2, by omega⟩, rfl⟩))
    · rw [if_neg h2]; exact Or.inl rfl
  rw [if_neg h1]
  by_cases h2 : b0 / 16 = 14 ∧ (1 < n ∧ b1 / 64 = 2) ∧ (2 < n ∧ b2 / 64 = 2)
  · rw [if_pos h2]
    split
    · rename_i h3
      exact Or.inr (Or.inr (Or.inr (Or.inl ⟨_, by omega, h2.2.2.1, by omega, ⟨h2.2.1.2, by omega⟩, ⟨h2.2.2.2, by omega⟩, rfl⟩)))
    · exact Or.inl rfl
  rw [if_neg h2]
  by_cases h3 : b0 / 8 = 30 ∧ (1 < n ∧ b1 / 64 = 2) ∧ (2 < n ∧ b2 / 64 = 2) ∧ (3 < n ∧ b3 / 64 = 2)
  · rw [if_pos h3]
    split
    · rename_i h4
      exact Or.inr (Or.inr (Or.inr (Or.inr ⟨_, by omega, h3.2.2.2.1, by omega, ⟨h3.2.1.2, by omega⟩, ⟨h3.2.2.1.2, by omega⟩, ⟨h3.2.2.2.2, by omega⟩, rfl⟩)))
    · exact Or.inl rfl
  · rw [if_neg h3]; exact Or.inl rfl

/-- Bytes begin with a character, or with none. -/
theorem dec_cases (l : List UInt8) (hl : l ≠ []) :
    (∃ r rest, vr r ∧ l = enc r ++ rest ∧ dec l = (r, (enc r).length)) ∨ dec l = (65533, 1) := by
  obtain ⟨c0, l0, rfl⟩ : ∃ c l', l = c :: l' := by
    cases l with
    | nil => exact absurd rfl hl
    | cons c l' => exact ⟨c, l', rfl⟩
  have hc (c : UInt8) (k q : Nat) (h : c.toNat / 64 = 2) (h' : c.toNat % 64 = q) : c = UInt8.ofNat (128 + q) := u8_eq _ _ (by omega)
  rcases decodeN_cases (c0 :: l0).length (gb (c0 :: l0) 0) (gb (c0 :: l0) 1) (gb (c0 :: l0) 2) (gb (c0 :: l0) 3) with h | ⟨h0, h⟩ | ⟨r, h1, h2, hn, e0, e1, h⟩ | ⟨r, h1, hn, e0, e1, e2, h⟩ | ⟨r, h1, hn, e0, e1, e2, e3, h⟩
  · exact Or.inr h
  · refine Or.inl ⟨c0.toNat, l0, by unfold vr; simp at h0; omega, ?_, ?_⟩
    · rw [enc_one (by simpa using h0)]; simp
    · rw [enc_one (by simpa using h0)]; exact h
  · obtain ⟨c1, l1, rfl⟩ : ∃ c l', l0 = c :: l' := by
      cases l0 with
      | nil => simp at hn
      | cons c l' => exact ⟨c, l', rfl⟩
    simp only [gb_cons_zero, gb_cons_succ] at e0 e1
    refine Or.inl ⟨r, l1, by unfold vr; omega, ?_, ?_⟩
    · rw [enc_two h1 h2, hc c1 1 _ e1.1 e1.2, u8_eq c0 _ e0]; rfl
    · rw [enc_two h1 h2]; exact h
  · obtain ⟨c1, c2, l1, rfl⟩ : ∃ c c' l', l0 = c :: c' :: l' := by
      match l0, hn with
      | c :: c' :: l', _ => exact ⟨c, c', l', rfl⟩
    simp only [gb_cons_zero, gb_cons_succ] at e0 e1 e2
    refine Or.inl ⟨r, l1, by unfold vr; omega, ?_, ?_⟩
    · rw [enc_three h1, hc c1 1 _ e1.1 e1.2, hc c2 1 _ e2.1 e2.2, u8_eq c0 _ e0]; rfl
    · rw [enc_three h1]; exact h
  · obtain ⟨c1, c2, c3, l1, rfl⟩ : ∃ c c' c'' l', l0 = c :: c' :: c'' :: l' := by
      match l0, hn with
      | c :: c' :: c'' :: l', _ => exact ⟨c, c', c'', l', rfl⟩
    simp only [gb_cons_zero, gb_cons_succ] at e0 e1 e2 e3
    refine Or.inl ⟨r, l1, by unfold vr; omega, ?_, ?_⟩
    · rw [enc_four h1.1 h1.2, hc c1 1 _ e1.1 e1.2, hc c2 1 _ e2.1 e2.2, hc c3 1 _ e3.1 e3.2, u8_eq c0 _ e0]; rfl
    · rw [enc_four h1.1 h1.2]; exact h

theorem enc_fffd_length : (enc 65533).length = 3 := by rw [enc_three (by omega)]; rfl

theorem vr_width {r : Nat} (h : vr r) : (r = 65533 ∧ (enc r).length = 1) → False := by
  rintro ⟨rfl, h⟩; rw [enc_fffd_length] at h; omega

theorem okc_enc {r : Nat} (h : vr r) (rest : List UInt8) : okc (enc r ++ rest) = true := by
  unfold okc; rw [dec_enc h]
  have := vr_width h
  simp only [Bool.not_eq_true', Bool.and_eq_false_iff, beq_eq_false_iff_ne]
  by_cases h1 : r = 65533
  · exact Or.inr (fun h2 => this ⟨h1, h2⟩)
  · exact Or.inl h1

/-- A character is there: the bytes are its own, and the rest. -/
theorem dec_ok {l : List UInt8} (hl : l ≠ []) (h : okc l = true) :
    vr (dec l).1 ∧ (dec l).2 = (enc (dec l).1).length ∧ l = enc (dec l).1 ++ l.drop (dec l).2 ∧ l.take (dec l).2 = enc (dec l).1 := by
  rcases dec_cases l hl with ⟨r, rest, hv, e, hd⟩ | hd
  · rw [hd]
    refine ⟨hv, rfl, ?_, ?_⟩
    · conv => lhs; rw [e]
      rw [e]; simp
    · rw [e]; simp
  · unfold okc at h; rw [hd] at h; simp at h

theorem dec_bad {l : List UInt8} (h : okc l = false) : dec l = (65533, 1) := by
  unfold okc at h
  simp only [Bool.not_eq_false', Bool.and_eq_true, beq_iff_eq] at h
  exact Prod.ext h.1 h.2

theorem dec_width {l : List UInt8} (hl : l ≠ []) : 1 ≤ (dec l).2 ∧ (dec l).2 ≤ l.length ∧ (dec l).2 ≤ 4 := by
  have hp : 1 ≤ l.length := by
    cases l with
    | nil => exact absurd rfl hl
    | cons c l' => simp
  by_cases h : okc l = true
  · obtain ⟨hv, hw, hd, _⟩ := dec_ok hl h
    have e := congrArg List.length hd
    rw [List.length_append] at e
    have := enc_length_le (dec l).1
    have := enc_length_pos (dec l).1
    rw [← hw] at *
    omega
  · rw [dec_bad (by simpa using h)]; simp; omega

theorem dec_rune_le {l : List UInt8} (hl : l ≠ []) : (dec l).1 ≤ 1114111 := by
  by_cases h : okc l = true
  · obtain ⟨hv, _⟩ := dec_ok hl h
    unfold vr at hv; omega
  · rw [dec_bad (by simpa using h)]; decide

/-- The model's own decoder, at a place of a string. -/
theorem decode_list (s : ByteArray) (i : Nat) : Utf8.decode s i = dec (s.data.toList.drop i) := by
  rw [Lib.decode_at]
  unfold dec
  have hg (k : Nat) : (s.get! k).toNat = gb s.data.toList k := by
    unfold gb ByteArray.get!
    rw [List.getD_eq_getElem?_getD, ← Array.getElem?_toList.symm]
    simp [getElem!_def]
    cases h : s.data[k]? with
    | none => rfl
    | some v => rfl
  rw [hg, hg, hg, hg, gb_drop, gb_drop, gb_drop, gb_drop, List.length_drop]
  congr 1

end Go.Proofs.YtndkbecdjaedaaaGreatDoor
/- Plain Lean on lists of bytes: what quoting, unquoting, numbers come to. No program, no memory. -/
namespace Go.Proofs.YtndkbecdjaedaaaGreatDoor
open Go.Lib

/-- A digit of base 16. -/
def hexd (n : Nat) : UInt8 := if n < 10 then UInt8.ofNat (48 + n) else UInt8.ofNat (87 + n)

/-- How a character is quoted. -/
def qrune (r : Nat) : List UInt8 :=
  if r = 8 then [92, 98] else if r = 9 then [92, 116] else if r = 10 then [92, 110] else if r = 12 then [92, 102] else if r = 13 then [92, 114]
  else if r = 34 then [92, 34] else if r = 92 then [92, 92]
  else if r < 32 then [92, 117, 48, 48, hexd (r / 16), hexd (r % 16)]
  else enc r

def qF : Nat → List UInt8 → List UInt8
  | 0, _ => []
  | f + 1, l => if l = [] then [] else qrune (dec l).1 ++ qF f (l.drop (dec l).2)
/-- A string's inner text. -/
def qin (l : List UInt8) : List UInt8 := qF l.length l
def quote (l : List UInt8) : List UInt8 := 34 :: (qin l ++ [34])

theorem qF_nil (f : Nat) : qF f [] = [] := by cases f <;> simp [qF]
theorem qF_fuel : ∀ (f g : Nat) (l : List UInt8), l.length ≤ f → l.length ≤ g → qF f l = qF g l
  | 0, g, l, hf, _ => by
    have : l = [] := List.eq_nil_of_length_eq_zero (by omega)
    subst this; rw [qF_nil, qF_nil]
  | f + 1, 0, l, _, hg => by
    have : l = [] := List.eq_nil_of_length_eq_zero (by omega)
    subst this; rw [qF_nil, qF_nil]
  | f + 1, g + 1, l, hf, hg => by
    by_cases h : l = []
    · subst h; rw [qF_nil, qF_nil]
    · have hw := dec_width h
      simp only [qF, if_neg h]
      rw [qF_fuel f g _ (by rw [List.length_drop]; omega) (by rw [List.length_drop]; omega)]
theorem qin_nil : qin [] = [] := rfl
theorem qin_step {l : List UInt8} (h : l ≠ []) : qin l = qrune (dec l).1 ++ qin (l.drop (dec l).2) := by
  have hw := dec_width h
  unfold qin
  obtain ⟨n, hn⟩ : ∃ n, l.length = n + 1 := ⟨l.length - 1, by omega⟩
  rw [hn]
  simp only [qF, if_neg h]
  rw [qF_fuel n (l.drop (dec l).2).length _ (by rw [List.length_drop]; omega) (Nat.le_refl _)]

theorem qrune_length (r : Nat) : 1 ≤ (qrune r).length ∧ (qrune r).length ≤ 6 := by
  unfold qrune
  repeat' split
  all_goals first | (simp; done) | (have := enc_length_pos r; have := enc_length_le r; omega)
theorem qF_length : ∀ (f : Nat) (l : List UInt8), (qF f l).length ≤ 6 * l.length
  | 0, l => by simp [qF]
  | f + 1, l => by
    by_cases h : l = []
    · subst h; simp [qF]
    · have hw := dec_width h
      have hr := qrune_length (dec l).1
      have := qF_length f (l.drop (dec l).2)
      rw [List.length_drop] at this
      simp only [qF, if_neg h, List.length_append]
      omega
theorem quote_length (l : List UInt8) : (quote l).length ≤ 6 * l.length + 2 := by
  have := qF_length l.length l
  unfold quote qin; simp; omega

/-- The number of a digit of base 16. -/
def hexv (c : Nat) : Option Nat :=
  if 48 ≤ c ∧ c ≤ 57 then some (c - 48) else if 97 ≤ c ∧ c ≤ 102 then some (c - 87) else if 65 ≤ c ∧ c ≤ 70 then some (c - 55) else none
/-- The number of four. -/
def hex4 (l : List UInt8) : Option Nat :=
  if l.length < 4 then none else
  match hexv (gb l 0), hexv (gb l 1), hexv (gb l 2), hexv (gb l 3) with
  | some a, some b, some c, some d => some (((a * 16 + b) * 16 + c) * 16 + d)
  | _, _, _, _ => none
/-- What stands behind backslash u: the character, and how many bytes; (0, 0): none. -/
def uesc (l : List UInt8) : Nat × Nat :=
  match hex4 l with
  | none => (0, 0)
  | some r =>
    if r < 55296 ∨ 57343 < r then (r, 4)
    else if 56319 < r ∨ gb l 4 ≠ 92 ∨ gb l 5 ≠ 117 then (0, 0)
    else match hex4 (l.drop 6) with
      | none => (0, 0)
      | some m => if m < 56320 ∨ 57343 < m then (0, 0) else (65536 + (r - 55296) * 1024 + (m - 56320), 10)
/-- The meaning of a short escape; 0: none. -/
def short (c : Nat) : Nat :=
  if c = 98 then 8 else if c = 116 then 9 else if c = 110 then 10 else if c = 102 then 12 else if c = 114 then 13 else if c = 34 then 34 else if c = 92 then 92 else if c = 47 then 47 else 0
/-- What stands behind a backslash. -/
def esc (l : List UInt8) : Nat × Nat :=
  if l = [] then (0, 0)
  else if short (gb l 0) ≠ 0 then (short (gb l 0), 1)
  else if gb l 0 ≠ 117 then (0, 0)
  else if (uesc (l.drop 1)).2 = 0 then (0, 0) else ((uesc (l.drop 1)).1, (uesc (l.drop 1)).2 + 1)
/-- A character that may stand in a string's text. -/
def plainc (l : List UInt8) : Nat × Nat := if okc l = false ∨ (dec l).1 < 32 then (0, 0) else dec l
/-- A character of a string's text, and how many bytes it has there; 0: none. -/
def uchar (l : List UInt8) : Nat × Nat :=
  if gb l 0 = 92 then (if (esc (l.drop 1)).2 = 0 then (0, 0) else ((esc (l.drop 1)).1, (esc (l.drop 1)).2 + 1)) else plainc l

/-- From a place in a string's text on: its meaning, and how many bytes up to behind its end. -/
def uqF : Nat → List UInt8 → Option (List UInt8 × Nat)
  | 0, _ => none
  | f + 1, l => if l = [] then none else if gb l 0 = 34 then some ([], 1) else
    if (uchar l).2 = 0 then none else
    match uqF f (l.drop (uchar l).2) with
    | none => none
    | some (x, n) => some (enc (uchar l).1 ++ x, (uchar l).2 + n)
def uqin (l : List UInt8) : Option (List UInt8 × Nat) := uqF l.length l
def unq (l : List UInt8) : Option (List UInt8 × Nat) :=
  if gb l 0 = 34 then (uqin (l.drop 1)).map fun p => (p.1, p.2 + 1) else none

/-- Does a string of these bytes hold characters alone? -/
def validF : Nat → List UInt8 → Bool
  | 0, l => l.isEmpty
  | f + 1, l => if l = [] then true else okc l && validF f (l.drop (dec l).2)
def valids (l : List UInt8) : Bool := validF l.length l

theorem validF_nil (f : Nat) : validF f [] = true := by cases f <;> simp [validF]
theorem validF_fuel : ∀ (f g : Nat) (l : List UInt8), l.length ≤ f → l.length ≤ g → validF f l = validF g l
  | 0, g, l, hf, _ => by
    have : l = [] := List.eq_nil_of_length_eq_zero (by omega)
    subst this; rw [validF_nil, validF_nil]
  | f + 1, 0, l, _, hg => by
    have : l = [] := List.eq_nil_of_length_eq_zero (by omega)
    subst this; rw [validF_nil, validF_nil]
  | f + 1, g + 1, l, hf, hg => by
    by_cases h : l = []
    · subst h; rw [validF_nil, validF_nil]
    · have hw := dec_width h
      simp only [validF, if_neg h]
      rw [validF_fuel f g _ (by rw [List.length_drop]; omega) (by rw [List.length_drop]; omega)]
theorem valids_step {l : List UInt8} (h : l ≠ []) : valids l = (okc l && valids (l.drop (dec l).2)) := by
  have hw := dec_width h
  unfold valids
  obtain ⟨n, hn⟩ : ∃ n, l.length = n + 1 := ⟨l.length - 1, by omega⟩
  rw [hn]
  simp only [validF, if_neg h]
  rw [validF_fuel n (l.drop (dec l).2).length _ (by rw [List.length_drop]; omega) (Nat.le_refl _)]

theorem hex4_drop {l : List UInt8} {n : Nat} (h : hex4 l = some n) : 4 ≤ l.length ∧ n < 65536 := by
  unfold hex4 at h
  split at h
  · cases h
  · rename_i hl
    have hv : ∀ c x, hexv c = some x → x < 16 := by
      intro c x hx; unfold hexv at hx
      split at hx
      · cases hx; omega
      · split at hx
        · cases hx; omega
        · split at hx
          · cases hx; omega
          · cases hx
    split at h
    · rename_i a b c d ha hb hc hd
      cases h
      have := hv _ _ ha; have := hv _ _ hb; have := hv _ _ hc; have := hv _ _ hd
      omega
    · cases h

theorem uesc_vr {l : List UInt8} (h : (uesc l).2 ≠ 0) : vr (uesc l).1 ∧ (uesc l).2 ≤ l.length ∧ (uesc l).2 ≤ 10 := by
  unfold uesc at *
  split at h
  · simp at h
  · rename_i r hr
    obtain ⟨h1, h2⟩ := hex4_drop hr
    by_cases c1 : r < 55296 ∨ 57343 < r
    · simp only [if_pos c1] at *; refine ⟨?_, h1, by omega⟩; unfold vr; omega
    · simp only [if_neg c1] at *
      by_cases c2 : 56319 < r ∨ gb l 4 ≠ 92 ∨ gb l 5 ≠ 117
      · rw [if_pos c2] at h; simp at h
      · simp only [if_neg c2] at *
        split at h
        · simp at h
        · rename_i m hm
          obtain ⟨h3, h4⟩ := hex4_drop hm
          rw [List.length_drop] at h3
          by_cases c3 : m < 56320 ∨ 57343 < m
          · rw [if_pos c3] at h; simp at h
          · simp only [if_neg c3]; refine ⟨?_, by omega, by omega⟩; unfold vr; omega

theorem short_vr (c : Nat) : short c < 128 := by unfold short; repeat' split <;> try omega

theorem esc_vr {l : List UInt8} (h : (esc l).2 ≠ 0) : vr (esc l).1 ∧ (esc l).2 ≤ l.length ∧ (esc l).2 ≤ 11 := by
  unfold esc at *
  by_cases c0 : l = []
  · rw [if_pos c0] at h; simp at h
  have hp : 1 ≤ l.length := by
    cases l with
    | nil => exact absurd rfl c0
    | cons c l' => simp
  simp only [if_neg c0] at *
  by_cases c1 : short (gb l 0) ≠ 0
  · simp only [if_pos c1]; refine ⟨?_, hp, by omega⟩; have := short_vr (gb l 0); unfold vr; omega
  simp only [if_neg c1] at *
  by_cases c2 : gb l 0 ≠ 117
  · rw [if_pos c2] at h; simp at h
  simp only [if_neg c2] at *
  by_cases c3 : (uesc (l.drop 1)).2 = 0
  · rw [if_pos c3] at h; simp at h
  simp only [if_neg c3]
  have := uesc_vr c3
  rw [List.length_drop] at this
  exact ⟨this.1, by omega, by omega⟩

theorem uchar_vr {l : List UInt8} (hl : l ≠ []) (h : (uchar l).2 ≠ 0) : vr (uchar l).1 ∧ (uchar l).2 ≤ l.length := by
  have hp : 1 ≤ l.length := by
    cases l with
    | nil => exact absurd rfl hl
    | cons c l' => simp
  unfold uchar at *
  by_cases c0 : gb l 0 = 92
  · simp only [if_pos c0] at *
    by_cases c1 : (esc (l.drop 1)).2 = 0
    · rw [if_pos c1] at h; simp at h
    · simp only [if_neg c1]
      have := esc_vr c1
      rw [List.length_drop] at this
      exact ⟨this.1, by omega⟩
  · simp only [if_neg c0] at *
    unfold plainc at *
    by_cases c1 : okc l = false ∨ (dec l).1 < 32
    · rw [if_pos c1] at h; simp at h
    · simp only [if_neg c1]
      refine ⟨(dec_ok hl ?_).1, (dec_width hl).2.1⟩
      cases hk : okc l with
      | true => rfl
      | false => exact absurd (Or.inl hk) c1

theorem uqF_nil (f : Nat) : uqF f [] = none := by cases f <;> simp [uqF]
theorem uqF_fuel : ∀ (f g : Nat) (l : List UInt8), l.length ≤ f → l.length ≤ g → uqF f l = uqF g l
  | 0, g, l, hf, _ => by
    have : l = [] := List.eq_nil_of_length_eq_zero (by omega)
    subst this; rw [uqF_nil, uqF_nil]
  | f + 1, 0, l, _, hg => by
    have : l = [] := List.eq_nil_of_length_eq_zero (by omega)
    subst this; rw [uqF_nil, uqF_nil]
  | f + 1, g + 1, l, hf, hg => by
    by_cases h : l = []
    · subst h; rw [uqF_nil, uqF_nil]
    · simp only [uqF, if_neg h]
      by_cases hz : (uchar l).2 = 0
      · simp only [if_pos hz]
      · simp only [if_neg hz]
        rw [uqF_fuel f g _ (by rw [List.length_drop]; omega) (by rw [List.length_drop]; omega)]
theorem uqin_nil : uqin [] = none := rfl
theorem uqin_step {l : List UInt8} (h : l ≠ []) : uqin l = if gb l 0 = 34 then some ([], 1) else if (uchar l).2 = 0 then none else
    (uqin (l.drop (uchar l).2)).map fun p => (enc (uchar l).1 ++ p.1, (uchar l).2 + p.2) := by
  have hp : 1 ≤ l.length := by
    cases l with
    | nil => exact absurd rfl h
    | cons c l' => simp
  unfold uqin
  obtain ⟨n, hn⟩ : ∃ n, l.length = n + 1 := ⟨l.length - 1, by omega⟩
  rw [hn]
  simp only [uqF, if_neg h]
  by_cases h34 : gb l 0 = 34
  · simp only [if_pos h34]
  simp only [if_neg h34]
  by_cases hz : (uchar l).2 = 0
  · simp only [if_pos hz]
  simp only [if_neg hz]
  rw [uqF_fuel n (l.drop (uchar l).2).length _ (by rw [List.length_drop]; omega) (Nat.le_refl _)]
  cases uqF (l.drop (uchar l).2).length (l.drop (uchar l).2) with
  | none => rfl
  | some p => rfl

/-! ### numbers -/
def isd (c : UInt8) : Bool := 48 ≤ c.toNat && c.toNat ≤ 57
/-- How many digits there are ahead. -/
def digs (l : List UInt8) : Nat := (l.takeWhile isd).length
def numFrac (l : List UInt8) (k : Nat) : Nat :=
  if gb l k = 46 ∧ 0 < digs (l.drop (k + 1)) then k + 1 + digs (l.drop (k + 1)) else k
def numExp (l : List UInt8) (k : Nat) : Nat :=
  if gb l k = 101 ∨ gb l k = 69 then
    let m := if gb l (k + 1) = 43 ∨ gb l (k + 1) = 45 then k + 2 else k + 1
    if 0 < digs (l.drop m) then m + digs (l.drop m) else k
  else k
/-- How many bytes a number ahead has. -/
def number (l : List UInt8) : Nat :=
  let k := if gb l 0 = 45 then 1 else 0
  if digs (l.drop k) = 0 then 0
  else numExp l (numFrac l (k + if gb l k = 48 then 1 else digs (l.drop k)))

theorem digs_le (l : List UInt8) : digs l ≤ l.length := by
  unfold digs; exact List.Sublist.length_le (List.takeWhile_sublist _)

end Go.Proofs.YtndkbecdjaedaaaGreatDoor
