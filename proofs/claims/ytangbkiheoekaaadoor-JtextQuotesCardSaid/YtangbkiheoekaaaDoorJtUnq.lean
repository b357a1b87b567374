/- jtext.unicode, jtext.escape, jtext.plain: what they come to. -/
import Derived.Test.YtangbkiheoekaaaDoorJtHex3
namespace Go.Proofs.YtangbkiheoekaaaDoor
open Go.RowKit

/-- The tables by which characters are read, where they must lie. -/
abbrev U8 (w : World) : Prop := Lib.Utf8Tabs 0 1 w

theorem gb_extract (s : ByteArray) (a i : Nat) : gb (s.extract a s.size).data.toList i = gb s.data.toList (a + i) := by
  rw [Lib.extract_to_end, gb_drop]

theorem hasPrefix_bu (l : List UInt8) : Lib.hasPrefix l [92, 117] = decide (gb l 0 = 92 ∧ gb l 1 = 117) := by
  match l with
  | [] => rfl
  | [a] =>
    simp [Lib.hasPrefix, List.isPrefixOf, gb]
  | a :: b :: r =>
    simp only [Lib.hasPrefix, List.isPrefixOf, gb_cons_zero, gb_cons_succ, Bool.and_true]
    rw [Bool.eq_iff_iff]
    simp only [Bool.and_eq_true, beq_iff_eq, decide_eq_true_eq]
    constructor
    · rintro ⟨rfl, rfl⟩; exact ⟨rfl, rfl⟩
    · rintro ⟨h1, h2⟩; exact ⟨(u8_eq a 92 h1).symm, (u8_eq b 117 h2).symm⟩

set_option maxHeartbeats 4000000 in
set_option maxRecDepth 2000000 in
theorem uni_calls (s : ByteArray) (w : World) :
    Calls Tryd.prog 40 #[.string s] w fun e w' => e = .returned (.tuple #[.int .i32 (uesc s.data.toList).1, .int .i64 (uesc s.data.toList).2]) ∧ Below w.heap.size w w' := by
  cases hx : hex4 s.data.toList with
  | none =>
    have hu : uesc s.data.toList = (0, 0) := by unfold uesc; rw [hx]
    have HX := Lib.hid hx
    have HU := Lib.hid hu
    clear hx hu
    go_enter Tryd.func40, Tryd.ntmps40
    go_wp2_with fail
    refine (hex_calls s _).mono ?_
    rintro e w1 ⟨rfl, hb⟩
    rw [HX.out]
    go_wp2_with fail
    go_ret2
    rw [HU.out]
    exact ⟨rfl, hb⟩
  | some r =>
    obtain ⟨hl4, hr⟩ := hex4_drop hx
    have hs4 : 4 ≤ s.size := by simpa using hl4
    have HX := Lib.hid hx
    by_cases c1 : r < 55296 ∨ 57343 < r
    · have hu : uesc s.data.toList = (r, 4) := by unfold uesc; rw [hx]; simp only [if_pos c1]
      have HU := Lib.hid hu
      clear hx hu
      rcases c1 with c1 | c1
      all_goals
        first
        | have c1' : (r : Int) < 55296 := by omega
        | (have c1' : ¬ (r : Int) < 55296 := by omega
           have c2' : (57343 : Int) < (r : Int) := by omega)
        go_enter Tryd.func40, Tryd.ntmps40
        go_wp2_with fail
        refine (hex_calls s _).mono ?_
        rintro e w1 ⟨rfl, hb⟩
        rw [HX.out]
        go_wp2_with fail
        go_ret2
        rw [HU.out]
        exact ⟨rfl, hb⟩
    · have c1' : ¬ (r : Int) < 55296 := by omega
      have c2' : ¬ (57343 : Int) < (r : Int) := by omega
      obtain ⟨X, hX⟩ : ∃ X, Lib.trimPrefix (s.extract 4 s.size).data.toList [92, 117] = X := ⟨_, rfl⟩
      obtain ⟨p, hp⟩ : ∃ p, Lib.hasPrefix (s.extract 4 s.size).data.toList [92, 117] = p := ⟨_, rfl⟩
      have hpd : p = decide (gb s.data.toList 4 = 92 ∧ gb s.data.toList 5 = 117) := by
        rw [← hp, hasPrefix_bu, Lib.extract_to_end, gb_drop, gb_drop]
      have hXp : p = true → X = s.data.toList.drop 6 := by
        intro h
        rw [← hX, Lib.trimPrefix, hp, h, Lib.extract_to_end, if_pos rfl, List.drop_drop]; rfl
      have HP := Lib.hid hp
      have HQ := Lib.hid hX
      clear hp hX
      -- what it comes to, by the ways of the text
      have ways : (56319 < r ∧ uesc s.data.toList = (0, 0)) ∨ (r ≤ 56319 ∧ p = false ∧ uesc s.data.toList = (0, 0)) ∨ (r ≤ 56319 ∧ p = true ∧ hex4 X = none ∧ uesc s.data.toList = (0, 0))
          ∨ (∃ m, r ≤ 56319 ∧ p = true ∧ hex4 X = some m ∧ m < 65536 ∧ m < 56320 ∧ uesc s.data.toList = (0, 0)) ∨ (∃ m, r ≤ 56319 ∧ p = true ∧ hex4 X = some m ∧ m < 65536 ∧ 57343 < m ∧ uesc s.data.toList = (0, 0))
          ∨ (∃ m, r ≤ 56319 ∧ p = true ∧ hex4 X = some m ∧ 56320 ≤ m ∧ m ≤ 57343 ∧ uesc s.data.toList = (65536 + (r - 55296) * 1024 + (m - 56320), 10)) := by
        unfold uesc
        rw [hx]
        simp only [if_neg c1]
        by_cases k1 : 56319 < r
        · exact Or.inl ⟨k1, by rw [if_pos (Or.inl k1)]⟩
        by_cases k2 : gb s.data.toList 4 = 92 ∧ gb s.data.toList 5 = 117
        · have hp1 : p = true := by rw [hpd]; exact decide_eq_true k2
          rw [if_neg (by omega), ← hXp hp1]
          cases hm : hex4 X with
          | none => exact Or.inr (Or.inr (Or.inl ⟨by omega, hp1, rfl, rfl⟩))
          | some m =>
            have hm6 := (hex4_drop hm).2
            simp only []
            by_cases k3 : m < 56320
            · exact Or.inr (Or.inr (Or.inr (Or.inl ⟨m, by omega, hp1, rfl, hm6, k3, by rw [if_pos (Or.inl k3)]⟩)))
            by_cases k4 : 57343 < m
            · exact Or.inr (Or.inr (Or.inr (Or.inr (Or.inl ⟨m, by omega, hp1, rfl, hm6, k4, by rw [if_pos (Or.inr k4)]⟩))))
            · exact Or.inr (Or.inr (Or.inr (Or.inr (Or.inr ⟨m, by omega, hp1, rfl, by omega, by omega, by rw [if_neg (by omega)]⟩))))
        · have hp1 : p = false := by rw [hpd]; exact decide_eq_false k2
          exact Or.inr (Or.inl ⟨by omega, hp1, by rw [if_pos (by omega)]⟩)
      clear hx c1 hpd hXp
      rcases ways with ⟨k1, hu⟩ | ⟨k1, rfl, hu⟩ | ⟨k1, rfl, hm, hu⟩ | ⟨m, k1, rfl, hm, k6, k3, hu⟩ | ⟨m, k1, rfl, hm, k6, k4, hu⟩ | ⟨m, k1, rfl, hm, k3, k4, hu⟩
      · have k1' : (56319 : Int) < (r : Int) := by omega
        obtain ⟨lo, hlo⟩ : ∃ lo : Nat, (hex4 X).getD 0 = lo := ⟨_, rfl⟩
        obtain ⟨fi, hfi⟩ : ∃ fi : Bool, (hex4 X).isSome = fi := ⟨_, rfl⟩
        have HL := Lib.hid hlo
        have HF := Lib.hid hfi
        clear hlo hfi
        have HU := Lib.hid hu
        clear hu
        go_enter Tryd.func40, Tryd.ntmps40
        go_wp2_with fail
        refine (hex_calls s _).mono ?_
        rintro e w1 ⟨rfl, hb⟩
        rw [HX.out]
        go_wp2_with fail
        refine (Tryd.strings_CutPrefix _ _ _).mono ?_
        rintro e w2 ⟨rfl, rfl⟩
        rw [HP.out, HQ.out]
        go_wp2_with fail
        refine (hex_calls ⟨X.toArray⟩ _).mono ?_
        rintro e w3 ⟨rfl, hb3⟩
        rw [show (hex4 (⟨X.toArray⟩ : ByteArray).data.toList).getD 0 = lo from HL.out, show (hex4 (⟨X.toArray⟩ : ByteArray).data.toList).isSome = fi from HF.out]
        go_wp2_with fail
        go_ret2
        rw [HU.out]
        exact ⟨rfl, hb.trans (hb3.mono hb.size)⟩
      · have k1' : ¬ (56319 : Int) < (r : Int) := by omega
        obtain ⟨lo, hlo⟩ : ∃ lo : Nat, (hex4 X).getD 0 = lo := ⟨_, rfl⟩
        obtain ⟨fi, hfi⟩ : ∃ fi : Bool, (hex4 X).isSome = fi := ⟨_, rfl⟩
        have HL := Lib.hid hlo
        have HF := Lib.hid hfi
        clear hlo hfi
        have HU := Lib.hid hu
        clear hu
        go_enter Tryd.func40, Tryd.ntmps40
        go_wp2_with fail
        refine (hex_calls s _).mono ?_
        rintro e w1 ⟨rfl, hb⟩
        rw [HX.out]
        go_wp2_with fail
        refine (Tryd.strings_CutPrefix _ _ _).mono ?_
        rintro e w2 ⟨rfl, rfl⟩
        rw [HP.out, HQ.out]
        go_wp2_with fail
        refine (hex_calls ⟨X.toArray⟩ _).mono ?_
        rintro e w3 ⟨rfl, hb3⟩
        rw [show (hex4 (⟨X.toArray⟩ : ByteArray).data.toList).getD 0 = lo from HL.out, show (hex4 (⟨X.toArray⟩ : ByteArray).data.toList).isSome = fi from HF.out]
        go_wp2_with fail
        go_ret2
        rw [HU.out]
        exact ⟨rfl, hb.trans (hb3.mono hb.size)⟩
      · have k1' : ¬ (56319 : Int) < (r : Int) := by omega
        have HL : Hid ((hex4 X).getD 0 = 0) := Lib.hid (by rw [hm]; rfl)
        have HF : Hid ((hex4 X).isSome = false) := Lib.hid (by rw [hm]; rfl)
        clear hm
        have HU := Lib.hid hu
        clear hu
        go_enter Tryd.func40, Tryd.ntmps40
        go_wp2_with fail
        refine (hex_calls s _).mono ?_
        rintro e w1 ⟨rfl, hb⟩
        rw [HX.out]
        go_wp2_with fail
        refine (Tryd.strings_CutPrefix _ _ _).mono ?_
        rintro e w2 ⟨rfl, rfl⟩
        rw [HP.out, HQ.out]
        go_wp2_with fail
        refine (hex_calls ⟨X.toArray⟩ _).mono ?_
        rintro e w3 ⟨rfl, hb3⟩
        rw [show (hex4 (⟨X.toArray⟩ : ByteArray).data.toList).getD 0 = 0 from HL.out, show (hex4 (⟨X.toArray⟩ : ByteArray).data.toList).isSome = false from HF.out]
        go_wp2_with fail
        go_ret2
        rw [HU.out]
        exact ⟨rfl, hb.trans (hb3.mono hb.size)⟩
      · have k1' : ¬ (56319 : Int) < (r : Int) := by omega
        have HL : Hid ((hex4 X).getD 0 = m) := Lib.hid (by rw [hm]; rfl)
        have HF : Hid ((hex4 X).isSome = true) := Lib.hid (by rw [hm]; rfl)
        clear hm
        have k3' : (m : Int) < 56320 := by omega
        have HU := Lib.hid hu
        clear hu
        go_enter Tryd.func40, Tryd.ntmps40
        go_wp2_with fail
        refine (hex_calls s _).mono ?_
        rintro e w1 ⟨rfl, hb⟩
        rw [HX.out]
        go_wp2_with fail
        refine (Tryd.strings_CutPrefix _ _ _).mono ?_
        rintro e w2 ⟨rfl, rfl⟩
        rw [HP.out, HQ.out]
        go_wp2_with fail
        refine (hex_calls ⟨X.toArray⟩ _).mono ?_
        rintro e w3 ⟨rfl, hb3⟩
        rw [show (hex4 (⟨X.toArray⟩ : ByteArray).data.toList).getD 0 = m from HL.out, show (hex4 (⟨X.toArray⟩ : ByteArray).data.toList).isSome = true from HF.out]
        go_wp2_with fail
        go_ret2
        rw [HU.out]
        exact ⟨rfl, hb.trans (hb3.mono hb.size)⟩
      · have k1' : ¬ (56319 : Int) < (r : Int) := by omega
        have HL : Hid ((hex4 X).getD 0 = m) := Lib.hid (by rw [hm]; rfl)
        have HF : Hid ((hex4 X).isSome = true) := Lib.hid (by rw [hm]; rfl)
        clear hm
        have k3' : ¬ (m : Int) < 56320 := by omega
        have k4' : (57343 : Int) < (m : Int) := by omega
        have HU := Lib.hid hu
        clear hu
        go_enter Tryd.func40, Tryd.ntmps40
        go_wp2_with fail
        refine (hex_calls s _).mono ?_
        rintro e w1 ⟨rfl, hb⟩
        rw [HX.out]
        go_wp2_with fail
        refine (Tryd.strings_CutPrefix _ _ _).mono ?_
        rintro e w2 ⟨rfl, rfl⟩
        rw [HP.out, HQ.out]
        go_wp2_with fail
        refine (hex_calls ⟨X.toArray⟩ _).mono ?_
        rintro e w3 ⟨rfl, hb3⟩
        rw [show (hex4 (⟨X.toArray⟩ : ByteArray).data.toList).getD 0 = m from HL.out, show (hex4 (⟨X.toArray⟩ : ByteArray).data.toList).isSome = true from HF.out]
        go_wp2_with fail
        go_ret2
        rw [HU.out]
        exact ⟨rfl, hb.trans (hb3.mono hb.size)⟩
      · have k1' : ¬ (56319 : Int) < (r : Int) := by omega
        have HL : Hid ((hex4 X).getD 0 = m) := Lib.hid (by rw [hm]; rfl)
        have HF : Hid ((hex4 X).isSome = true) := Lib.hid (by rw [hm]; rfl)
        clear hm
        have k3' : ¬ (m : Int) < 56320 := by omega
        have k4' : ¬ (57343 : Int) < (m : Int) := by omega
        have HU1 : Hid (((uesc s.data.toList).1 : Int) = 65536 + ((r : Int) - 55296) * 1024 + (m : Int) - 56320) := Lib.hid (by rw [hu]; simp only []; omega)
        have HU2 : Hid (((uesc s.data.toList).2 : Int) = 10) := Lib.hid (by rw [hu]; rfl)
        clear hu
        go_enter Tryd.func40, Tryd.ntmps40
        go_wp2_with fail
        refine (hex_calls s _).mono ?_
        rintro e w1 ⟨rfl, hb⟩
        rw [HX.out]
        go_wp2_with fail
        refine (Tryd.strings_CutPrefix _ _ _).mono ?_
        rintro e w2 ⟨rfl, rfl⟩
        rw [HP.out, HQ.out]
        go_wp2_with fail
        refine (hex_calls ⟨X.toArray⟩ _).mono ?_
        rintro e w3 ⟨rfl, hb3⟩
        rw [show (hex4 (⟨X.toArray⟩ : ByteArray).data.toList).getD 0 = m from HL.out, show (hex4 (⟨X.toArray⟩ : ByteArray).data.toList).isSome = true from HF.out]
        go_wp2_with fail
        go_ret2
        rw [HU1.out, HU2.out]
        exact ⟨rfl, hb.trans (hb3.mono hb.size)⟩

end Go.Proofs.YtangbkiheoekaaaDoor
