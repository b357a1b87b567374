/- jtext.unicode, jtext.escape, jtext.plain: what they come to. -/
import Derived.Test.YtndkbecdjaedaaaGreatDoorJtHex
import Derived.WalkSmall
import Derived.Lib.ItoaNum
import Derived.Lib.ParseIntB
namespace Go.Proofs.YtndkbecdjaedaaaGreatDoor
open Go.RowKit

/-- The tables by which characters are read, where they must lie. -/
abbrev U8 (w : World) : Prop := Lib.Utf8Tabs 2 3 w

theorem gb_extract (s : ByteArray) (a i : Nat) : gb (s.extract a s.size).data.toList i = gb s.data.toList (a + i) := by
  rw [Lib.extract_to_end, gb_drop]

theorem hasPrefix_bu (l : List UInt8) : Lib.hasPrefix l [92, 117] = decide (gb l 0 = 92 ∧ gb l 1 = 117) := by
  match l with
  | [] => rfl
  | [a] =>
    simp [Lib.hasPrefix, List.isPrefixOf, gb]
  | a :: b :: r =>
    simp only [Lib.hasPrefix, List.isPrefixOf, gb_cons_zero, gb_cons_succ, Bool.and_true]
    rw [Bool.eq_iff_iff]
    simp only [Bool.and_eq_true, beq_iff_eq, decide_eq_true_eq]
    constructor
    · rintro ⟨rfl, rfl⟩; exact ⟨rfl, rfl⟩
    · rintro ⟨h1, h2⟩; exact ⟨(u8_eq a 92 h1).symm, (u8_eq b 117 h2).symm⟩

set_option maxHeartbeats 4000000 in
set_option maxRecDepth 2000000 in
theorem uni_calls (s : ByteArray) (w : World) :
    Calls Tryz.prog 201 #[.string s] w fun e w' => e = .returned (.tuple #[.int .i32 (uesc s.data.toList).1, .int .i64 (uesc s.data.toList).2]) ∧ Below w.heap.size w w' := by
  cases hx : hex4 s.data.toList with
  | none =>
    have hu : uesc s.data.toList = (0, 0) := by unfold uesc; rw [hx]
    have HX := Lib.hid hx
    have HU := Lib.hid hu
    clear hx hu
    go_enter Tryz.func201, Tryz.ntmps201
    go_wp2_with fail
    refine (hex_calls s _).mono ?_
    rintro e w1 ⟨rfl, hb⟩
    rw [HX.out]
    go_wp2_with fail
    go_ret2
    rw [HU.out]
    exact ⟨rfl, hb⟩
  | some r =>
    obtain ⟨hl4, hr⟩ := hex4_drop hx
    have hs4 : 4 ≤ s.size := by simpa using hl4
    have HX := Lib.hid hx
    by_cases c1 : r < 55296 ∨ 57343 < r
    · have hu : uesc s.data.toList = (r, 4) := by unfold uesc; rw [hx]; simp only [if_pos c1]
      have HU := Lib.hid hu
      clear hx hu
      rcases c1 with c1 | c1
      all_goals
        first
        | have c1' : (r : Int) < 55296 := by omega
        | (have c1' : ¬ (r : Int) < 55296 := by omega
           have c2' : (57343 : Int) < (r : Int) := by omega)
        go_enter Tryz.func201, Tryz.ntmps201
        go_wp2_with fail
        refine (hex_calls s _).mono ?_
        rintro e w1 ⟨rfl, hb⟩
        rw [HX.out]
        go_wp2_with fail
        go_ret2
        rw [HU.out]
        exact ⟨rfl, hb⟩
    · have c1' : ¬ (r : Int) < 55296 := by omega
      have c2' : ¬ (57343 : Int) < (r : Int) := by omega
      obtain ⟨X, hX⟩ : ∃ X, Lib.trimPrefix (s.extract 4 s.size).data.toList [92, 117] = X := ⟨_, rfl⟩
      obtain ⟨p, hp⟩ : ∃ p, Lib.hasPrefix (s.extract 4 s.size).data.toList [92, 117] = p := ⟨_, rfl⟩
      have hpd : p = decide (gb s.data.toList 4 = 92 ∧ gb s.data.toList 5 = 117) := by
        rw [← hp, hasPrefix_bu, Lib.extract_to_end, gb_drop, gb_drop]
      have hXp : p = true → X = s.data.toList.drop 6 := by
        intro h
        rw [← hX, Lib.trimPrefix, hp, h, Lib.extract_to_end, if_pos rfl, List.drop_drop]; rfl
      have HP := Lib.hid hp
      have HQ := Lib.hid hX
      clear hp hX
      -- what it comes to, by the ways of the text
      have ways : (56319 < r ∧ uesc s.data.toList = (0, 0)) ∨ (r ≤ 56319 ∧ p = false ∧ uesc s.data.toList = (0, 0)) ∨ (r ≤ 56319 ∧ p = true ∧ hex4 X = none ∧ uesc s.data.toList = (0, 0))
          ∨ (∃ m, r ≤ 56319 ∧ p = true ∧ hex4 X = some m ∧ m < 65536 ∧ m < 56320 ∧ uesc s.data.toList = (0, 0)) ∨ (∃ m, r ≤ 56319 ∧ p = true ∧ hex4 X = some m ∧ m < 65536 ∧ 57343 < m ∧ uesc s.data.toList = (0, 0))
          ∨ (∃ m, r ≤ 56319 ∧ p = true ∧ hex4 X = some m ∧ 56320 ≤ m ∧ m ≤ 57343 ∧ uesc s.data.toList = (65536 + (r - 55296) * 1024 + (m - 56320), 10)) := by
        unfold uesc
        rw [hx]
        simp only [if_neg c1]
        by_cases k1 : 56319 < r
        · exact Or.inl ⟨k1, by rw [if_pos (Or.inl k1)]⟩
        by_cases k2 : gb s.data.toList 4 = 92 ∧ gb s.data.toList 5 = 117
        · have hp1 : p = true := by rw [hpd]; exact decide_eq_true k2
          rw [if_neg (by omega), ← hXp hp1]
          cases hm : hex4 X with
          | none => exact Or.inr (Or.inr (Or.inl ⟨by omega, hp1, rfl, rfl⟩))
          | some m =>
            have hm6 := (hex4_drop hm).2
            simp only []
            by_cases k3 : m < 56320
            · exact Or.inr (Or.inr (Or.inr (Or.inl ⟨m, by omega, hp1, rfl, hm6, k3, by rw [if_pos (Or.inl k3)]⟩)))
            by_cases k4 : 57343 < m
            · exact Or.inr (Or.inr (Or.inr (Or.inr (Or.inl ⟨m, by omega, hp1, rfl, hm6, k4, by rw [if_pos (Or.inr k4)]⟩))))
            · exact Or.inr (Or.inr (Or.inr (Or.inr (Or.inr ⟨m, by omega, hp1, rfl, by omega, by omega, by rw [if_neg (by omega)]⟩))))
        · have hp1 : p = false := by rw [hpd]; exact decide_eq_false k2
          exact Or.inr (Or.inl ⟨by omega, hp1, by rw [if_pos (by omega)]⟩)
      clear hx c1 hpd hXp
      rcases ways with ⟨k1, hu⟩ | ⟨k1, rfl, hu⟩ | ⟨k1, rfl, hm, hu⟩ | ⟨m, k1, rfl, hm, k6, k3, hu⟩ | ⟨m, k1, rfl, hm, k6, k4, hu⟩ | ⟨m, k1, rfl, hm, k3, k4, hu⟩
      · have k1' : (56319 : Int) < (r : Int) := by omega
        obtain ⟨lo, hlo⟩ : ∃ lo : Nat, (hex4 X).getD 0 = lo := ⟨_, rfl⟩
        obtain ⟨fi, hfi⟩ : ∃ fi : Bool, (hex4 X).isSome = fi := ⟨_, rfl⟩
        have HL := Lib.hid hlo
        have HF := Lib.hid hfi
        clear hlo hfi
        have HU := Lib.hid hu
        clear hu
        go_enter Tryz.func201, Tryz.ntmps201
        go_wp2_with fail
        refine (hex_calls s _).mono ?_
        rintro e w1 ⟨rfl, hb⟩
        rw [HX.out]
        go_wp2_with fail
        refine (Tryz.strings_CutPrefix _ _ _).mono ?_
        rintro e w2 ⟨rfl, rfl⟩
        rw [HP.out, HQ.out]
        go_wp2_with fail
        refine (hex_calls ⟨X.toArray⟩ _).mono ?_
        rintro e w3 ⟨rfl, hb3⟩
        rw [show (hex4 (⟨X.toArray⟩ : ByteArray).data.toList).getD 0 = lo from HL.out, show (hex4 (⟨X.toArray⟩ : ByteArray).data.toList).isSome = fi from HF.out]
        go_wp2_with fail
        go_ret2
        rw [HU.out]
        exact ⟨rfl, hb.trans (hb3.mono hb.size)⟩
      · have k1' : ¬ (56319 : Int) < (r : Int) := by omega
        obtain ⟨lo, hlo⟩ : ∃ lo : Nat, (hex4 X).getD 0 = lo := ⟨_, rfl⟩
        obtain ⟨fi, hfi⟩ : ∃ fi : Bool, (hex4 X).isSome = fi := ⟨_, rfl⟩
        have HL := Lib.hid hlo
        have HF := Lib.hid hfi
        clear hlo hfi
        have HU := Lib.hid hu
        clear hu
        go_enter Tryz.func201, Tryz.ntmps201
        go_wp2_with fail
        refine (hex_calls s _).mono ?_
        rintro e w1 ⟨rfl, hb⟩
        rw [HX.out]
        go_wp2_with fail
        refine (Tryz.strings_CutPrefix _ _ _).mono ?_
        rintro e w2 ⟨rfl, rfl⟩
        rw [HP.out, HQ.out]
        go_wp2_with fail
        refine (hex_calls ⟨X.toArray⟩ _).mono ?_
        rintro e w3 ⟨rfl, hb3⟩
        rw [show (hex4 (⟨X.toArray⟩ : ByteArray).data.toList).getD 0 = lo from HL.out, show (hex4 (⟨X.toArray⟩ : ByteArray).data.toList).isSome = fi from HF.out]
        go_wp2_with fail
        go_ret2
        rw [HU.out]
        exact ⟨rfl, hb.trans (hb3.mono hb.size)⟩
      · have k1' : ¬ (56319 : Int) < (r : Int) := by omega
        have HL : Hid ((hex4 X).getD 0 = 0) := Lib.hid (by rw [hm]; rfl)
        have HF : Hid ((hex4 X).isSome = false) := Lib.hid (by rw [hm]; rfl)
        clear hm
        have HU := Lib.hid hu
        clear hu
        go_enter Tryz.func201, Tryz.ntmps201
        go_wp2_with fail
        refine (hex_calls s _).mono ?_
        rintro e w1 ⟨rfl, hb⟩
        rw [HX.out]
        go_wp2_with fail
        refine (Tryz.strings_CutPrefix _ _ _).mono ?_
        rintro e w2 ⟨rfl, rfl⟩
        rw [HP.out, HQ.out]
        go_wp2_with fail
        refine (hex_calls ⟨X.toArray⟩ _).mono ?_
        rintro e w3 ⟨rfl, hb3⟩
        rw [show (hex4 (⟨X.toArray⟩ : ByteArray).data.toList).getD 0 = 0 from HL.out, show (hex4 (⟨X.toArray⟩ : ByteArray).data.toList).isSome = false from HF.out]
        go_wp2_with fail
        go_ret2
        rw [HU.out]
        exact ⟨rfl, hb.trans (hb3.mono hb.size)⟩
      · have k1' : ¬ (56319 : Int) < (r : Int) := by omega
        have HL : Hid ((hex4 X).getD 0 = m) := Lib.hid (by rw [hm]; rfl)
        have HF : Hid ((hex4 X).isSome = true) := Lib.hid (by rw [hm]; rfl)
        clear hm
        have k3' : (m : Int) < 56320 := by omega
        have HU := Lib.hid hu
        clear hu
        go_enter Tryz.func201, Tryz.ntmps201
        go_wp2_with fail
        refine (hex_calls s _).mono ?_
        rintro e w1 ⟨rfl, hb⟩
        rw [HX.out]
        go_wp2_with fail
        refine (Tryz.strings_CutPrefix _ _ _).mono ?_
        rintro e w2 ⟨rfl, rfl⟩
        rw [HP.out, HQ.out]
        go_wp2_with fail
        refine (hex_calls ⟨X.toArray⟩ _).mono ?_
        rintro e w3 ⟨rfl, hb3⟩
        rw [show (hex4 (⟨X.toArray⟩ : ByteArray).data.toList).getD 0 = m from HL.out, show (hex4 (⟨X.toArray⟩ : ByteArray).data.toList).isSome = true from HF.out]
        go_wp2_with fail
        go_ret2
        rw [HU.out]
        exact ⟨rfl, hb.trans (hb3.mono hb.size)⟩
      · have k1' : ¬ (56319 : Int) < (r : Int) := by omega
        have HL : Hid ((hex4 X).getD 0 = m) := Lib.hid (by rw [hm]; rfl)
        have HF : Hid ((hex4 X).isSome = true) := Lib.hid (by rw [hm]; rfl)
        clear hm
        have k3' : ¬ (m : Int) < 56320 := by omega
        have k4' : (57343 : Int) < (m : Int) := by omega
        have HU := Lib.hid hu
        clear hu
        go_enter Tryz.func201, Tryz.ntmps201
        go_wp2_with fail
        refine (hex_calls s _).mono ?_
        rintro e w1 ⟨rfl, hb⟩
        rw [HX.out]
        go_wp2_with fail
        refine (Tryz.strings_CutPrefix _ _ _).mono ?_
        rintro e w2 ⟨rfl, rfl⟩
        rw [HP.out, HQ.out]
        go_wp2_with fail
        refine (hex_calls ⟨X.toArray⟩ _).mono ?_
        rintro e w3 ⟨rfl, hb3⟩
        rw [show (hex4 (⟨X.toArray⟩ : ByteArray).data.toList).getD 0 = m from HL.out, show (hex4 (⟨X.toArray⟩ : ByteArray).data.toList).isSome = true from HF.out]
        go_wp2_with fail
        go_ret2
        rw [HU.out]
        exact ⟨rfl, hb.trans (hb3.mono hb.size)⟩
      · have k1' : ¬ (56319 : Int) < (r : Int) := by omega
        have HL : Hid ((hex4 X).getD 0 = m) := Lib.hid (by rw [hm]; rfl)
        have HF : Hid ((hex4 X).isSome = true) := Lib.hid (by rw [hm]; rfl)
        clear hm
        have k3' : ¬ (m : Int) < 56320 := by omega
        have k4' : ¬ (57343 : Int) < (m : Int) := by omega
        have HU1 : Hid (((uesc s.data.toList).1 : Int) = 65536 + ((r : Int) - 55296) * 1024 + (m : Int) - 56320) := Lib.hid (by rw [hu]; simp only []; omega)
        have HU2 : Hid (((uesc s.data.toList).2 : Int) = 10) := Lib.hid (by rw [hu]; rfl)
        clear hu
        go_enter Tryz.func201, Tryz.ntmps201
        go_wp2_with fail
        refine (hex_calls s _).mono ?_
        rintro e w1 ⟨rfl, hb⟩
        rw [HX.out]
        go_wp2_with fail
        refine (Tryz.strings_CutPrefix _ _ _).mono ?_
        rintro e w2 ⟨rfl, rfl⟩
        rw [HP.out, HQ.out]
        go_wp2_with fail
        refine (hex_calls ⟨X.toArray⟩ _).mono ?_
        rintro e w3 ⟨rfl, hb3⟩
        rw [show (hex4 (⟨X.toArray⟩ : ByteArray).data.toList).getD 0 = m from HL.out, show (hex4 (⟨X.toArray⟩ : ByteArray).data.toList).isSome = true from HF.out]
        go_wp2_with fail
        go_ret2
        rw [HU1.out, HU2.out]
        exact ⟨rfl, hb.trans (hb3.mono hb.size)⟩

end Go.Proofs.YtndkbecdjaedaaaGreatDoor
/- jtext.escape, jtext.plain: what they come to. -/
namespace Go.Proofs.YtndkbecdjaedaaaGreatDoor
open Go.RowKit

def shortsL : List UInt8 := [98, 116, 110, 102, 114, 34, 92, 47]
theorem shorts_facts : ∀ c : Nat, c < 256 → (short c = 0 ∧ Lib.indexByte shortsL (UInt8.ofNat c) = -1) ∨
    (short c ≠ 0 ∧ 0 ≤ Lib.indexByte shortsL (UInt8.ofNat c) ∧ Lib.indexByte shortsL (UInt8.ofNat c) < 8 ∧ ([8, 9, 10, 12, 13, 34, 92, 47] : List UInt8)[(Lib.indexByte shortsL (UInt8.ofNat c)).toNat]? = some (UInt8.ofNat (short c))) := by decide +kernel

theorem byte0 (s : ByteArray) (h : 0 < s.size) : gb s.data.toList 0 = (s[0]'h).toNat := by
  unfold gb
  rw [List.getD_eq_getElem?_getD, List.getElem?_eq_getElem (by simpa using h)]; rfl
theorem byteAt (s : ByteArray) (k : Nat) (h : k < s.size) : gb s.data.toList k = (s[k]'h).toNat := by
  unfold gb
  rw [List.getD_eq_getElem?_getD, List.getElem?_eq_getElem (by simpa using h)]; rfl
theorem ne_nil_of_size {s : ByteArray} (h : 0 < s.size) : s.data.toList ≠ [] := by
  intro e
  rw [Lib.size_eq, e] at h
  simp at h
theorem nil_of_size {s : ByteArray} (h : s.size = 0) : s.data.toList = [] := List.eq_nil_of_length_eq_zero (by simpa using h)

theorem means_index (K : Int) (v : Nat) (h0 : 0 ≤ K) (h8 : K < 8) (hv : v < 128) (h : ([8, 9, 10, 12, 13, 34, 92, 47] : List UInt8)[K.toNat]? = some (UInt8.ofNat v)) :
    ∀ w, (Instr.index 9 (.string ⟨#[8, 9, 10, 12, 13, 34, 92, 47]⟩) (.int .i64 K)).run Tryz.prog w = .ok (.int .u8 (v : Int)) w := by
  intro w
  have hs : (⟨#[8, 9, 10, 12, 13, 34, 92, 47]⟩ : ByteArray).size = 8 := rfl
  have hr := run_index_string (P := Tryz.prog) w 9 ⟨#[8, 9, 10, 12, 13, 34, 92, 47]⟩ .i64 K Tryz.underlying9
  rw [dif_pos ⟨h0, by rw [hs]; omega⟩] at hr
  rw [hr]
  have hg : ((⟨#[8, 9, 10, 12, 13, 34, 92, 47]⟩ : ByteArray)[K.toNat]'(by rw [hs]; omega)) = UInt8.ofNat v := by
    have := List.getElem?_eq_some_iff.1 h
    obtain ⟨_, h2⟩ := this
    exact h2
  rw [hg, u8_ofNat_toNat _ (by omega)]

set_option maxHeartbeats 4000000 in
set_option maxRecDepth 1000000 in
theorem esc_calls (s : ByteArray) (w : World) :
    Calls Tryz.prog 178 #[.string s] w fun e w' => e = .returned (.tuple #[.int .i32 (esc s.data.toList).1, .int .i64 (esc s.data.toList).2]) ∧ Below w.heap.size w w' := by
  by_cases h0 : s.size = 0
  · have hemp : s.toList.isEmpty = true := by
      rw [Lib.toList_data, nil_of_size h0]; rfl
    have hu : esc s.data.toList = (0, 0) := by rw [nil_of_size h0]; rfl
    have HU := Lib.hid hu
    clear hu h0
    go_enter Tryz.func178, Tryz.ntmps178
    go_wp2_with fail
    go_ret2
    rw [HU.out]
    exact ⟨rfl, Below.refl _ _⟩
  have hp : 0 < s.size := by omega
  have hpz : (0 : Int) < (s.size : Int) := by omega
  have hemp : s.toList.isEmpty = false := by
    rw [Lib.toList_data]
    have := ne_nil_of_size hp
    cases h : s.data.toList with
    | nil => exact absurd h this
    | cons _ _ => rfl
  obtain ⟨c, hc⟩ : ∃ c : UInt8, s[0]'hp = c := ⟨_, rfl⟩
  have hgc : gb s.data.toList 0 = c.toNat := by rw [byte0 s hp, hc]
  have hidx : ∀ w, (Instr.index 9 (.string s) (.int .i64 0)).run Tryz.prog w = .ok (.int .u8 c.toNat) w := by
    intro w
    have hr := run_index_string (P := Tryz.prog) w 9 s .i64 0 Tryz.underlying9
    rw [dif_pos ⟨by omega, by omega⟩] at hr
    rw [hr]
    simp only [Int.toNat_zero, hc]
  have hcof : UInt8.ofNat c.toNat = c := by simp
  have hne := ne_nil_of_size hp
  rcases shorts_facts c.toNat c.toNat_lt with ⟨hz, hi⟩ | ⟨hz, hi0, hi8, hm⟩
  · rw [hcof] at hi
    have HI := Lib.hid hi
    by_cases hu117 : c.toNat = 117
    · have hb : ((c.toNat : Int) != 117) = false := by simp; omega
      obtain ⟨u, hu⟩ : ∃ u, uesc (s.data.toList.drop 1) = u := ⟨_, rfl⟩
      have hE : esc s.data.toList = if u.2 = 0 then (0, 0) else (u.1, u.2 + 1) := by
        unfold esc
        rw [if_neg hne, hgc, if_neg (by omega), if_neg (by omega), hu]
      have hu10 : u.2 ≤ 10 := by
        by_cases h : u.2 = 0
        · omega
        · rw [← hu] at h ⊢; exact (uesc_vr h).2.2
      have HU := Lib.hid (show uesc (s.extract 1 s.size).data.toList = u by rw [Lib.extract_to_end]; exact hu)
      clear hu hi hz hu117 hgc hcof hne
      by_cases h2 : u.2 = 0
      · have hb2 : ((u.2 : Int) == 0) = true := by simp; omega
        rw [if_pos h2] at hE
        have HE := Lib.hid hE
        clear hE h2 hc
        go_enter Tryz.func178, Tryz.ntmps178
        go_wp2_with fail
        refine (indexByte_u8 ⟨#[98, 116, 110, 102, 114, 34, 92, 47]⟩ c _).mono ?_
        rintro e w1 ⟨rfl, rfl⟩
        rw [show Lib.indexByte (⟨#[98, 116, 110, 102, 114, 34, 92, 47]⟩ : ByteArray).data.toList c = -1 from HI.out]
        go_wp2_with fail
        refine (uni_calls _ _).mono ?_
        rintro e w2 ⟨rfl, hb2⟩
        rw [HU.out]
        go_wp2_with fail
        go_ret2
        rw [HE.out]
        exact ⟨rfl, hb2⟩
      · have hb2 : ((u.2 : Int) == 0) = false := by simp; omega
        rw [if_neg h2] at hE
        have HE1 : Hid (((esc s.data.toList).1 : Int) = (u.1 : Int)) := Lib.hid (by rw [hE])
        have HE2 : Hid (((esc s.data.toList).2 : Int) = (u.2 : Int) + 1) := Lib.hid (by rw [hE]; simp only []; omega)
        clear hE h2 hc
        go_enter Tryz.func178, Tryz.ntmps178
        go_wp2_with fail
        refine (indexByte_u8 ⟨#[98, 116, 110, 102, 114, 34, 92, 47]⟩ c _).mono ?_
        rintro e w1 ⟨rfl, rfl⟩
        rw [show Lib.indexByte (⟨#[98, 116, 110, 102, 114, 34, 92, 47]⟩ : ByteArray).data.toList c = -1 from HI.out]
        go_wp2_with fail
        refine (uni_calls _ _).mono ?_
        rintro e w2 ⟨rfl, hb2⟩
        rw [HU.out]
        go_wp2_with fail
        go_ret2
        rw [HE1.out, HE2.out]
        exact ⟨rfl, hb2⟩
    · have hb : ((c.toNat : Int) != 117) = true := by simp; omega
      have hE : esc s.data.toList = (0, 0) := by
        unfold esc
        rw [if_neg hne, hgc, if_neg (by omega), if_pos (by omega)]
      have HE := Lib.hid hE
      clear hE hi hz hu117 hgc hcof hne hc
      go_enter Tryz.func178, Tryz.ntmps178
      go_wp2_with fail
      refine (indexByte_u8 ⟨#[98, 116, 110, 102, 114, 34, 92, 47]⟩ c _).mono ?_
      rintro e w1 ⟨rfl, rfl⟩
      rw [show Lib.indexByte (⟨#[98, 116, 110, 102, 114, 34, 92, 47]⟩ : ByteArray).data.toList c = -1 from HI.out]
      go_wp2_with fail
      go_ret2
      rw [HE.out]
      exact ⟨rfl, Below.refl _ _⟩
  · rw [hcof] at hi0 hi8 hm
    obtain ⟨K, hK⟩ : ∃ K, Lib.indexByte shortsL c = K := ⟨_, rfl⟩
    rw [hK] at hi0 hi8 hm
    have hmx := means_index K (short c.toNat) hi0 hi8 (short_vr _) hm
    have hE : esc s.data.toList = (short c.toNat, 1) := by
      unfold esc
      rw [if_neg hne, hgc, if_pos hz]
    have hs128 := short_vr c.toNat
    obtain ⟨v, hv⟩ : ∃ v, short c.toNat = v := ⟨_, rfl⟩
    rw [hv] at hmx hE hs128
    have HI := Lib.hid hK
    have HE := Lib.hid hE
    clear hE hm hz hv hgc hcof hne hc hK
    go_enter Tryz.func178, Tryz.ntmps178
    go_wp2_with fail
    refine (indexByte_u8 ⟨#[98, 116, 110, 102, 114, 34, 92, 47]⟩ c _).mono ?_
    rintro e w1 ⟨rfl, rfl⟩
    rw [show Lib.indexByte (⟨#[98, 116, 110, 102, 114, 34, 92, 47]⟩ : ByteArray).data.toList c = K from HI.out]
    go_wp2_with fail
    go_ret2
    rw [HE.out]
    exact ⟨rfl, Below.refl _ _⟩

set_option maxHeartbeats 4000000 in
set_option maxRecDepth 1000000 in
theorem plain_calls (s : ByteArray) (w : World) (hp : 0 < s.size) (hT : U8 w) :
    Calls Tryz.prog 179 #[.string s] w fun e w' => e = .returned (.tuple #[.int .i32 (plainc s.data.toList).1, .int .i64 (plainc s.data.toList).2]) ∧ Below w.heap.size w w' := by
  have hd : Lib.decodeGo s = dec s.data.toList := by
    rw [Lib.decodeGo, if_neg (by omega), decode_list]; rfl
  obtain ⟨r, hr⟩ : ∃ r, (dec s.data.toList).1 = r := ⟨_, rfl⟩
  obtain ⟨n, hn⟩ : ∃ n, (dec s.data.toList).2 = n := ⟨_, rfl⟩
  have ways : (r = 65533 ∧ n = 1 ∧ plainc s.data.toList = (0, 0)) ∨ (r = 65533 ∧ n ≠ 1 ∧ plainc s.data.toList = (r, n)) ∨ (r ≠ 65533 ∧ r < 32 ∧ plainc s.data.toList = (0, 0)) ∨ (r ≠ 65533 ∧ 32 ≤ r ∧ plainc s.data.toList = (r, n)) := by
    have hpr : dec s.data.toList = (r, n) := Prod.ext hr hn
    unfold plainc okc
    rw [hpr]
    by_cases h1 : r = 65533
    · by_cases h2 : n = 1
      · exact Or.inl ⟨h1, h2, by simp [h1, h2]⟩
      · exact Or.inr (Or.inl ⟨h1, h2, by simp [h1, h2]⟩)
    · by_cases h2 : r < 32
      · exact Or.inr (Or.inr (Or.inl ⟨h1, h2, by simp [h1, h2]⟩))
      · exact Or.inr (Or.inr (Or.inr ⟨h1, by omega, by simp [h1, h2]⟩))
  have H1 := Lib.hid (show (Lib.decodeGo s).1 = r by rw [hd]; exact hr)
  have H2 := Lib.hid (show (Lib.decodeGo s).2 = n by rw [hd]; exact hn)
  clear hr hn hd
  rcases ways with ⟨a1, a2, hP⟩ | ⟨a1, a2, hP⟩ | ⟨a1, a2, hP⟩ | ⟨a1, a2, hP⟩
  · have b1 : ((r : Int) == 65533) = true := by simp; omega
    have b2 : ((n : Int) == 1) = true := by simp; omega
    have HP := Lib.hid hP
    clear hP a1 a2
    go_enter Tryz.func179, Tryz.ntmps179
    go_wp2_with fail
    refine (Tryz.utf8_DecodeRuneInString s _ hT).mono ?_
    rintro e w1 ⟨rfl, hb⟩
    rw [H1.out, H2.out]
    go_wp2_with fail
    go_ret2
    rw [HP.out]
    exact ⟨rfl, hb⟩
  · have b1 : ((r : Int) == 65533) = true := by simp; omega
    have b2 : ((n : Int) == 1) = false := by simp; omega
    have b3 : ¬ (r : Int) < 32 := by omega
    have HP := Lib.hid hP
    clear hP a1 a2
    go_enter Tryz.func179, Tryz.ntmps179
    go_wp2_with fail
    refine (Tryz.utf8_DecodeRuneInString s _ hT).mono ?_
    rintro e w1 ⟨rfl, hb⟩
    rw [H1.out, H2.out]
    go_wp2_with fail
    go_ret2
    rw [HP.out]
    exact ⟨rfl, hb⟩
  · have b1 : ((r : Int) == 65533) = false := by simp; omega
    have b3 : (r : Int) < 32 := by omega
    have HP := Lib.hid hP
    clear hP a1 a2
    go_enter Tryz.func179, Tryz.ntmps179
    go_wp2_with fail
    refine (Tryz.utf8_DecodeRuneInString s _ hT).mono ?_
    rintro e w1 ⟨rfl, hb⟩
    rw [H1.out, H2.out]
    go_wp2_with fail
    go_ret2
    rw [HP.out]
    exact ⟨rfl, hb⟩
  · have b1 : ((r : Int) == 65533) = false := by simp; omega
    have b3 : ¬ (r : Int) < 32 := by omega
    have HP := Lib.hid hP
    clear hP a1 a2
    go_enter Tryz.func179, Tryz.ntmps179
    go_wp2_with fail
    refine (Tryz.utf8_DecodeRuneInString s _ hT).mono ?_
    rintro e w1 ⟨rfl, hb⟩
    rw [H1.out, H2.out]
    go_wp2_with fail
    go_ret2
    rw [HP.out]
    exact ⟨rfl, hb⟩

end Go.Proofs.YtndkbecdjaedaaaGreatDoor
/- What the package-level variables of Go's library must hold; and that it stays. -/
namespace Go.Proofs.YtndkbecdjaedaaaGreatDoor
open Go.RowKit

theorem cell_lt {w : World} {b o : Nat} {v : Value} (h : w.cell? ⟨b, o, none⟩ = some v) : b < w.heap.size := by
  rcases Nat.lt_or_ge b w.heap.size with h' | h'
  · exact h'
  · unfold World.cell? at h
    simp [Array.getElem?_eq_none h'] at h

theorem u8_below {w w' : World} (h : U8 w) (hb : Below w.heap.size w w') : U8 w' :=
  ⟨fun c hc => (hb.cell (p := ⟨_, c, none⟩) (cell_lt (h.1 c hc))).trans (h.1 c hc),
   fun i hi => ⟨(hb.cell (p := ⟨_, 2 * i, none⟩) (cell_lt (h.2 i hi).1)).trans (h.2 i hi).1, (hb.cell (p := ⟨_, 2 * i + 1, none⟩) (cell_lt (h.2 i hi).2)).trans (h.2 i hi).2⟩⟩

theorem var_below {w w' : World} {n : String} {cs : Array Value} (h : w.var? Tryz.prog n = some cs) (hb : Below w.heap.size w w') : w'.var? Tryz.prog n = some cs := by
  unfold World.var? at h ⊢
  cases hg : Tryz.prog.globalNamed n with
  | none => rw [hg] at h; simp at h
  | some g =>
    rw [hg] at h
    simp only [Option.bind_some] at h ⊢
    have hlt : g < w.heap.size := by
      rcases Nat.lt_or_ge g w.heap.size with h' | h'
      · exact h'
      · rw [Array.getElem?_eq_none h'] at h; simp at h
    rw [hb.block g hlt]; exact h

/-- The variables that the road reads. -/
structure Env (w : World) : Prop where
  u8 : U8 w
  pow : Lib.TabIs Tryz.prog w "internal/strconv.uint64pow10" .u64 Lib.pow10Tab
  errS : ∃ tp p, w.var? Tryz.prog "strconv.ErrSyntax" = some #[.iface tp p]
  errR : ∃ tp p, w.var? Tryz.prog "strconv.ErrRange" = some #[.iface tp p]

theorem Env.below {w w' : World} (h : Env w) (hb : Below w.heap.size w w') : Env w' where
  u8 := u8_below h.u8 hb
  pow := var_below h.pow hb
  errS := let ⟨tp, p, hv⟩ := h.errS; ⟨tp, p, var_below hv hb⟩
  errR := let ⟨tp, p, hv⟩ := h.errR; ⟨tp, p, var_below hv hb⟩

end Go.Proofs.YtndkbecdjaedaaaGreatDoor
/- jtext.Unquote, for every string. -/
namespace Go.Proofs.YtndkbecdjaedaaaGreatDoor
open Go.RowKit

theorem hasPrefix_one (l : List UInt8) (c : UInt8) (h : c.toNat ≠ 0) : Lib.hasPrefix l [c] = decide (gb l 0 = c.toNat) := by
  match l with
  | [] =>
    have : ¬ gb [] 0 = c.toNat := by rw [gb_nil]; omega
    rw [decide_eq_false this]; rfl
  | a :: r =>
    by_cases e : a = c
    · subst e
      rw [decide_eq_true (gb_cons_zero _ _)]
      simp [Lib.hasPrefix, List.isPrefixOf]
    · have h2 : ¬ gb (a :: r) 0 = c.toNat := fun h1 => e (UInt8.toNat_inj.1 h1)
      rw [decide_eq_false h2]
      have h3 : (c == a) = false := by simp; exact fun h4 => e h4.symm
      simp [Lib.hasPrefix, List.isPrefixOf, h3]

/-- What Unquote hands back. -/
def unqV (l : List UInt8) : List UInt8 × Nat × Bool :=
  match unq l with
  | some (x, n) => (x, n, true)
  | none => ([], 0, false)

/-- The loop's relation, in lists. -/
def UnqRel (L : List UInt8) (k : Nat) (acc : List UInt8) : Prop :=
  unq L = (uqin (L.drop k)).map fun p => (acc ++ p.1, k + p.2)

theorem unqRel_start {L : List UInt8} (h : gb L 0 = 34) : UnqRel L 1 [] := by
  unfold UnqRel unq
  rw [if_pos h]
  congr 1
  funext p
  simp; omega

theorem unqRel_end {L : List UInt8} {k : Nat} {acc : List UInt8} (h : UnqRel L k acc) (hk : k < L.length) (h34 : gb L k = 34) : unqV L = (acc, k + 1, true) := by
  unfold UnqRel at h
  rw [uqin_step (drop_ne L k hk), gb_drop, Nat.add_zero, if_pos h34] at h
  unfold unqV; rw [h]; simp
theorem unqRel_bad {L : List UInt8} {k : Nat} {acc : List UInt8} (h : UnqRel L k acc) (hk : k < L.length) (h34 : gb L k ≠ 34) (hz : (uchar (L.drop k)).2 = 0) : unqV L = ([], 0, false) := by
  unfold UnqRel at h
  rw [uqin_step (drop_ne L k hk), gb_drop, Nat.add_zero, if_neg h34, if_pos hz] at h
  unfold unqV; rw [h]; rfl
theorem unqRel_out {L : List UInt8} {k : Nat} {acc : List UInt8} (h : UnqRel L k acc) (hk : L.length ≤ k) : unqV L = ([], 0, false) := by
  unfold UnqRel at h
  rw [List.drop_of_length_le hk, uqin_nil] at h
  unfold unqV; rw [h]; rfl
theorem unqRel_step {L : List UInt8} {k : Nat} {acc : List UInt8} (h : UnqRel L k acc) (hk : k < L.length) (h34 : gb L k ≠ 34) (r n : Nat) (hu : uchar (L.drop k) = (r, n)) (hn : n ≠ 0) : UnqRel L (k + n) (acc ++ enc r) := by
  unfold UnqRel at h ⊢
  rw [uqin_step (drop_ne L k hk), gb_drop, Nat.add_zero, if_neg h34, hu, if_neg hn, List.drop_drop] at h
  rw [h, Option.map_map]
  congr 1
  funext p
  simp [Function.comp]; omega
theorem unq_no {L : List UInt8} (h : gb L 0 ≠ 34) : unqV L = ([], 0, false) := by
  unfold unqV unq; rw [if_neg h]

set_option maxHeartbeats 8000000 in
set_option maxRecDepth 1000000 in
theorem unq_calls (s : ByteArray) (w : World) (hs : s.size ≤ 1099511627776) (hT : U8 w) :
    Calls Tryz.prog 150 #[.string s] w fun e w' => e = .returned (.tuple #[.string ⟨(unqV s.data.toList).1.toArray⟩, .int .i64 (unqV s.data.toList).2.1, .bool (unqV s.data.toList).2.2]) ∧ Below w.heap.size w w' := by
  have hL : s.data.toList.length = s.size := by simp
  have hpf : Lib.hasPrefix s.data.toList [34] = decide (gb s.data.toList 0 = 34) := hasPrefix_one _ 34 (by decide)
  by_cases hq : gb s.data.toList 0 = 34
  · rw [decide_eq_true hq] at hpf
    have HP := Lib.hid hpf
    have hR0 := Lib.hid (unqRel_start hq)
    have hs1 : 1 ≤ s.size := by
      rcases Nat.eq_zero_or_pos s.size with h | h
      · rw [nil_of_size h, gb_nil] at hq; omega
      · exact h
    clear hpf hq
    go_enter Tryz.func150, Tryz.ntmps150
    go_wp2_with fail
    refine (Tryz.strings_HasPrefix _ _ _).mono ?_
    rintro e w0 ⟨rfl, rfl⟩
    rw [show Lib.hasPrefix s.data.toList (⟨#[34]⟩ : ByteArray).data.toList = true from HP.out]
    go_wp2_with fail
    go_loopw [6] (fun vk wr => ∃ (k : Nat) (acc : List UInt8), vk = .int .i64 k ∧ 1 ≤ k ∧ k ≤ s.size ∧ Bld w0.heap.size w0.heap.size acc wr ∧ Below w0.heap.size w0 wr ∧ acc.length ≤ 4 * k ∧ Hid (UnqRel s.data.toList k acc)) (fun vk _ => s.size - (intOf vk).toNat)
    case atStart => exact ⟨1, [], rfl, by omega, hs1, bld_new w0, (Below.refl _ _).alloc (Nat.le_refl _) _, by simp, hR0⟩
    case round =>
      obtain ⟨k, acc, rfl, hk1, hks, hI, hbw, hal, hR⟩ := hrel
      have hTr := u8_below hT hbw
      have hszr := hbw.size
      by_cases hk : k < s.size
      · obtain ⟨c, hc⟩ : ∃ c : UInt8, s[k]'hk = c := ⟨_, rfl⟩
        have hgc : gb s.data.toList k = c.toNat := by rw [byteAt s k hk, hc]
        have hidx : ∀ w, (Instr.index 9 (.string s) (.int .i64 (k : Int))).run Tryz.prog w = .ok (.int .u8 c.toNat) w := by
          intro w
          have hr := run_index_string (P := Tryz.prog) w 9 s .i64 (k : Int) Tryz.underlying9
          rw [dif_pos ⟨by omega, by omega⟩] at hr
          rw [hr]
          simp only [Int.toNat_natCast, hc]
        clear hc
        by_cases c34 : c.toNat = 34
        · have hb34 : ((c.toNat : Int) == 34) = true := by simp; omega
          have HU := Lib.hid (unqRel_end hR.out (by omega) (hgc.trans c34))
          clear c34 hgc
          go_wp2_with fail
          refine (bldString _ _ _ _ hI hszr).mono ?_
          rintro e w1 ⟨rfl, _, hb1, _⟩
          go_wp2_with fail
          go_ret3
          rw [HU.out]
          exact ⟨by go_num, hbw.trans hb1⟩
        · have hb34 : ((c.toNat : Int) == 34) = false := by simp; omega
          have h34 : gb s.data.toList k ≠ 34 := by rw [hgc]; exact c34
          have hdl : (s.data.toList.drop k) ≠ [] := drop_ne _ _ (by omega)
          by_cases c92 : c.toNat = 92
          · have hb92 : ((c.toNat : Int) == 92) = true := by simp; omega
            obtain ⟨u, hu⟩ : ∃ u, esc (s.data.toList.drop (k + 1)) = u := ⟨_, rfl⟩
            have hch : uchar (s.data.toList.drop k) = if u.2 = 0 then (0, 0) else (u.1, u.2 + 1) := by
              unfold uchar
              rw [gb_drop, Nat.add_zero, if_pos (hgc.trans c92), List.drop_drop, hu]
            have hu11 : u.2 ≠ 0 → u.1 ≤ 1114111 ∧ k + 1 + u.2 ≤ s.size := by
              intro h
              rw [← hu] at h ⊢
              have := esc_vr h
              rw [List.length_drop] at this
              have hv := this.1
              unfold vr at hv
              omega
            have HU := Lib.hid (show esc (s.extract (k + 1) s.size).data.toList = u by rw [Lib.extract_to_end]; exact hu)
            have HH := Lib.hid hch
            have HG := Lib.hid h34
            clear hu hch h34 c34 c92 hgc hdl
            by_cases h2 : u.2 = 0
            · have hb2 : ((u.2 : Int) == 0) = true := by simp; omega
              have HB := Lib.hid (unqRel_bad hR.out (by omega) HG.out (by rw [HH.out, if_pos h2]))
              clear h2
              go_wp2_with fail
              refine (esc_calls _ _).mono ?_
              rintro e w1 ⟨rfl, hb1⟩
              rw [HU.out]
              go_wp2_with fail
              go_ret3
              rw [HB.out]
              exact ⟨rfl, hbw.trans (hb1.mono hszr)⟩
            · have hb2 : ((u.2 : Int) == 0) = false := by simp; omega
              have HB := Lib.hid (unqRel_step hR.out (by omega) HG.out u.1 (u.2 + 1) (by rw [HH.out, if_neg h2]) (by omega))
              obtain ⟨hr11, hn11⟩ := hu11 h2
              clear h2
              go_wp2_with fail
              refine (esc_calls _ _).mono ?_
              rintro e w1 ⟨rfl, hb1⟩
              rw [HU.out]
              have hI1 := bld_below hI hb1
              have hz1 := hb1.size
              go_wp2_with fail
              refine (writeRune _ _ acc u.1 hr11 _ hI1 (by omega) (by omega)).mono ?_
              rintro e w2 ⟨n, rfl, hI2, hb2', _⟩
              go_wp2_with fail
              go_roundw
              case rel =>
                have := enc_length_le u.1
                refine ⟨k + (u.2 + 1), acc ++ enc u.1, by go_num, by omega, by omega, hI2, (hbw.trans (hb1.mono hszr)).trans hb2', by simp; omega, HB.out⟩
              case measure => simp [intOf]; omega
          · have hb92 : ((c.toNat : Int) == 92) = false := by simp; omega
            obtain ⟨u, hu⟩ : ∃ u, plainc (s.data.toList.drop k) = u := ⟨_, rfl⟩
            have hch : uchar (s.data.toList.drop k) = u := by
              unfold uchar
              rw [gb_drop, Nat.add_zero, if_neg (by omega), hu]
            have hu11 : u.2 ≠ 0 → u.1 ≤ 1114111 ∧ k + u.2 ≤ s.size := by
              intro h
              have h1 := uchar_vr hdl (by rw [hch]; exact h)
              rw [hch, List.length_drop] at h1
              have hv := h1.1
              unfold vr at hv
              omega
            have HU := Lib.hid (show plainc (s.extract k s.size).data.toList = u by rw [Lib.extract_to_end]; exact hu)
            have hszx : 0 < (s.extract k s.size).size := by simp; omega
            have HZ := Lib.hid hszx
            have HH := Lib.hid hch
            have HG := Lib.hid h34
            clear hu hch h34 c34 c92 hgc hdl hszx
            by_cases h2 : u.2 = 0
            · have hb2 : ((u.2 : Int) == 0) = true := by simp; omega
              have HB := Lib.hid (unqRel_bad hR.out (by omega) HG.out (by rw [HH.out, h2]))
              clear h2
              go_wp2_with fail
              refine (plain_calls _ _ HZ.out hTr).mono ?_
              rintro e w1 ⟨rfl, hb1⟩
              rw [HU.out]
              go_wp2_with fail
              go_ret3
              rw [HB.out]
              exact ⟨rfl, hbw.trans (hb1.mono hszr)⟩
            · have hb2 : ((u.2 : Int) == 0) = false := by simp; omega
              have HB := Lib.hid (unqRel_step hR.out (by omega) HG.out u.1 u.2 (by rw [HH.out]) h2)
              obtain ⟨hr11, hn11⟩ := hu11 h2
              have hu1 : 1 ≤ u.2 := by omega
              clear h2
              go_wp2_with fail
              refine (plain_calls _ _ HZ.out hTr).mono ?_
              rintro e w1 ⟨rfl, hb1⟩
              rw [HU.out]
              have hI1 := bld_below hI hb1
              have hz1 := hb1.size
              go_wp2_with fail
              refine (writeRune _ _ acc u.1 hr11 _ hI1 (by omega) (by omega)).mono ?_
              rintro e w2 ⟨n, rfl, hI2, hb2', _⟩
              go_wp2_with fail
              go_roundw
              case rel =>
                have := enc_length_le u.1
                refine ⟨k + u.2, acc ++ enc u.1, by go_num, by omega, by omega, hI2, (hbw.trans (hb1.mono hszr)).trans hb2', by simp; omega, HB.out⟩
              case measure => simp [intOf]; omega
      · have HU := Lib.hid (unqRel_out hR.out (by omega))
        go_wp2_with fail
        go_ret3
        rw [HU.out]
        exact ⟨rfl, hbw⟩
  · rw [decide_eq_false hq] at hpf
    have HP := Lib.hid hpf
    have HU := Lib.hid (unq_no hq)
    clear hpf hq
    go_enter Tryz.func150, Tryz.ntmps150
    go_wp2_with fail
    refine (Tryz.strings_HasPrefix _ _ _).mono ?_
    rintro e w0 ⟨rfl, rfl⟩
    rw [show Lib.hasPrefix s.data.toList (⟨#[34]⟩ : ByteArray).data.toList = false from HP.out]
    go_wp2_with fail
    go_ret3
    rw [HU.out]
    exact ⟨rfl, Below.refl _ _⟩
end Go.Proofs.YtndkbecdjaedaaaGreatDoor
/- jtext.Int, for every string. -/
namespace Go.Proofs.YtndkbecdjaedaaaGreatDoor
open Go.RowKit

/-- The whole number of a text. -/
def intOf? (l : List UInt8) : Option Int :=
  match Lib.parseIntB 64 l with
  | .ok v => if Lib.itoa v = l then some v else none
  | _ => none

theorem below_grow (w : World) (q : Nat) (os : Array Obj) : Below w.heap.size w (Sort.grow (w.drewN q) os) :=
  ⟨rfl, rfl, rfl, by simp [Sort.grow], fun i hi => by
    show ((w.drewN q).heap ++ os)[i]? = _
    rw [Array.getElem?_append_left (by show i < w.heap.size; omega)]
    rfl⟩

theorem parseIntB_range {l : List UInt8} {v : Int} (h : Lib.parseIntB 64 l = .ok v) : -9223372036854775808 ≤ v ∧ v ≤ 9223372036854775807 := by
  unfold Lib.parseIntB at h
  cases l with
  | nil => cases h
  | cons c r =>
    simp only [] at h
    split at h
    · cases h
    · cases h
    · rename_i u hu
      split at h
      · cases h
      · split at h
        · cases h
        · rename_i h1 h2
          cases h
          split <;> omega

theorem below_bytes (w : World) (t : ByteArray) : Below w.heap.size w (Lib.bytesWorld w 5 t) := by
  unfold Lib.bytesWorld
  exact Lib.below_freeze (((Below.refl _ w).drew).alloc (Nat.le_refl _) _) (Nat.le_refl _) 1

set_option maxHeartbeats 4000000 in
set_option maxRecDepth 1000000 in
theorem int_calls (s : ByteArray) (w : World) (hs : s.size ≤ 1099511627776) (hE : Env w) :
    Calls Tryz.prog 166 #[.string s] w fun e w' => e = .returned (.tuple #[.int .i64 ((intOf? s.data.toList).getD 0), .bool (intOf? s.data.toList).isSome]) ∧ Below w.heap.size w w' := by
  match hp : Lib.parseIntB 64 s.data.toList with
  | .ok v =>
    have hr := parseIntB_range hp
    obtain ⟨hr0, hr1⟩ := hr
    obtain ⟨T, hT⟩ : ∃ T, Lib.itoa v = T := ⟨_, rfl⟩
    have HT := Lib.hid hT
    have hr64 : Hid (Lib.parseIntB 64 s.data.toList = .ok v) := Lib.hid hp
    by_cases he : T = s.data.toList
    · have hi : intOf? s.data.toList = some v := by unfold intOf?; rw [hp]; simp only [hT, if_pos he]
      have hb : (T == s.toList) = true := by rw [Lib.toList_data]; simp [he]
      have HI := Lib.hid hi
      clear hT he hi
      go_enter Tryz.func166, Tryz.ntmps166
      go_wp2_with fail
      refine (Tryz.strconv_ParseInt_10_at64_ok s (by omega) v hp _).mono ?_
      rintro e w1 ⟨rfl, hw⟩
      have hb1 : Below w.heap.size w w1 := by
        rcases hw with rfl | ⟨t, rfl⟩
        · exact Below.refl _ _
        · exact below_bytes w t
      clear hw
      go_wp2_with fail
      refine (Tryz.strconv_FormatInt_10 v hr0 hr1 _ (hE.below hb1).pow).mono ?_
      rintro e w2 ⟨rfl, k, os, hw2⟩
      have hb2 : Below w1.heap.size w1 w2 := by rw [hw2]; exact below_grow _ _ _
      clear hw2
      rw [HT.out]
      go_wp2_with fail
      go_ret2
      rw [HI.out]
      exact ⟨rfl, hb1.trans (hb2.mono hb1.size)⟩
    · have hi : intOf? s.data.toList = none := by unfold intOf?; rw [hp]; simp only [hT, if_neg he]
      have hb : (T == s.toList) = false := by rw [Lib.toList_data]; simp [he]
      have HI := Lib.hid hi
      clear hT he hi
      go_enter Tryz.func166, Tryz.ntmps166
      go_wp2_with fail
      refine (Tryz.strconv_ParseInt_10_at64_ok s (by omega) v hp _).mono ?_
      rintro e w1 ⟨rfl, hw⟩
      have hb1 : Below w.heap.size w w1 := by
        rcases hw with rfl | ⟨t, rfl⟩
        · exact Below.refl _ _
        · exact below_bytes w t
      clear hw
      go_wp2_with fail
      refine (Tryz.strconv_FormatInt_10 v hr0 hr1 _ (hE.below hb1).pow).mono ?_
      rintro e w2 ⟨rfl, k, os, hw2⟩
      have hb2 : Below w1.heap.size w1 w2 := by rw [hw2]; exact below_grow _ _ _
      clear hw2
      rw [HT.out]
      go_wp2_with fail
      go_ret2
      rw [HI.out]
      exact ⟨rfl, hb1.trans (hb2.mono hb1.size)⟩
  | .syntax =>
    have hi : intOf? s.data.toList = none := by unfold intOf?; rw [hp]
    have HI := Lib.hid hi
    clear hi
    obtain ⟨tp, p, hv⟩ := hE.errS
    go_enter Tryz.func166, Tryz.ntmps166
    go_wp2_with fail
    refine (Tryz.strconv_ParseInt_10_at64_syntax_var s (by omega) hp tp p _ hv).mono ?_
    rintro e w1 ⟨N, rfl, _, _, hb1⟩
    go_wp2_with fail
    go_ret2
    rw [HI.out]
    exact ⟨rfl, hb1⟩
  | .range =>
    have hi : intOf? s.data.toList = none := by unfold intOf?; rw [hp]
    have HI := Lib.hid hi
    clear hi
    obtain ⟨tp, p, hv⟩ := hE.errR
    go_enter Tryz.func166, Tryz.ntmps166
    go_wp2_with fail
    refine (Tryz.strconv_ParseInt_10_at64_range_var s (by omega) hp tp p _ hv).mono ?_
    rintro e w1 ⟨N, rfl, _, _, hb1⟩
    go_wp2_with fail
    go_ret2
    rw [HI.out]
    exact ⟨rfl, hb1⟩
end Go.Proofs.YtndkbecdjaedaaaGreatDoor
