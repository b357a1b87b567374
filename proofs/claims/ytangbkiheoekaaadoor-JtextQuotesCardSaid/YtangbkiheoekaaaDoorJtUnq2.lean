/- jtext.escape, jtext.plain: what they come to. -/
import Derived.Test.YtangbkiheoekaaaDoorJtUnq
namespace Go.Proofs.YtangbkiheoekaaaDoor
open Go.RowKit

def shortsL : List UInt8 := [98, 116, 110, 102, 114, 34, 92, 47]
theorem shorts_facts : ∀ c : Nat, c < 256 → (short c = 0 ∧ Lib.indexByte shortsL (UInt8.ofNat c) = -1) ∨
    (short c ≠ 0 ∧ 0 ≤ Lib.indexByte shortsL (UInt8.ofNat c) ∧ Lib.indexByte shortsL (UInt8.ofNat c) < 8 ∧ ([8, 9, 10, 12, 13, 34, 92, 47] : List UInt8)[(Lib.indexByte shortsL (UInt8.ofNat c)).toNat]? = some (UInt8.ofNat (short c))) := by decide +kernel

theorem byte0 (s : ByteArray) (h : 0 < s.size) : gb s.data.toList 0 = (s[0]'h).toNat := by
  unfold gb
  rw [List.getD_eq_getElem?_getD, List.getElem?_eq_getElem (by simpa using h)]; rfl
theorem byteAt (s : ByteArray) (k : Nat) (h : k < s.size) : gb s.data.toList k = (s[k]'h).toNat := by
  unfold gb
  rw [List.getD_eq_getElem?_getD, List.getElem?_eq_getElem (by simpa using h)]; rfl
theorem ne_nil_of_size {s : ByteArray} (h : 0 < s.size) : s.data.toList ≠ [] := by
  intro e
  rw [Lib.size_eq, e] at h
  simp at h
theorem nil_of_size {s : ByteArray} (h : s.size = 0) : s.data.toList = [] := List.eq_nil_of_length_eq_zero (by simpa using h)

theorem means_index (K : Int) (v : Nat) (h0 : 0 ≤ K) (h8 : K < 8) (hv : v < 128) (h : ([8, 9, 10, 12, 13, 34, 92, 47] : List UInt8)[K.toNat]? = some (UInt8.ofNat v)) :
    ∀ w, (Instr.index 9 (.string ⟨#[8, 9, 10, 12, 13, 34, 92, 47]⟩) (.int .i64 K)).run Tryd.prog w = .ok (.int .u8 (v : Int)) w := by
  intro w
  have hs : (⟨#[8, 9, 10, 12, 13, 34, 92, 47]⟩ : ByteArray).size = 8 := rfl
  have hr := run_index_string (P := Tryd.prog) w 9 ⟨#[8, 9, 10, 12, 13, 34, 92, 47]⟩ .i64 K Tryd.underlying9
  rw [dif_pos ⟨h0, by rw [hs]; omega⟩] at hr
  rw [hr]
  have hg : ((⟨#[8, 9, 10, 12, 13, 34, 92, 47]⟩ : ByteArray)[K.toNat]'(by rw [hs]; omega)) = UInt8.ofNat v := by
    have := List.getElem?_eq_some_iff.1 h
    obtain ⟨_, h2⟩ := this
    exact h2
  rw [hg, u8_ofNat_toNat _ (by omega)]

set_option maxHeartbeats 4000000 in
set_option maxRecDepth 1000000 in
theorem esc_calls (s : ByteArray) (w : World) :
    Calls Tryd.prog 22 #[.string s] w fun e w' => e = .returned (.tuple #[.int .i32 (esc s.data.toList).1, .int .i64 (esc s.data.toList).2]) ∧ Below w.heap.size w w' := by
  by_cases h0 : s.size = 0
  · have hemp : s.toList.isEmpty = true := by
      rw [Lib.toList_data, nil_of_size h0]; rfl
    have hu : esc s.data.toList = (0, 0) := by rw [nil_of_size h0]; rfl
    have HU := Lib.hid hu
    clear hu h0
    go_enter Tryd.func22, Tryd.ntmps22
    go_wp2_with fail
    go_ret2
    rw [HU.out]
    exact ⟨rfl, Below.refl _ _⟩
  have hp : 0 < s.size := by omega
  have hpz : (0 : Int) < (s.size : Int) := by omega
  have hemp : s.toList.isEmpty = false := by
    rw [Lib.toList_data]
    have := ne_nil_of_size hp
    cases h : s.data.toList with
    | nil => exact absurd h this
    | cons _ _ => rfl
  obtain ⟨c, hc⟩ : ∃ c : UInt8, s[0]'hp = c := ⟨_, rfl⟩
  have hgc : gb s.data.toList 0 = c.toNat := by rw [byte0 s hp, hc]
  have hidx : ∀ w, (Instr.index 9 (.string s) (.int .i64 0)).run Tryd.prog w = .ok (.int .u8 c.toNat) w := by
    intro w
    have hr := run_index_string (P := Tryd.prog) w 9 s .i64 0 Tryd.underlying9
    rw [dif_pos ⟨by omega, by omega⟩] at hr
    rw [hr]
    simp only [Int.toNat_zero, hc]
  have hcof : UInt8.ofNat c.toNat = c := by simp
  have hne := ne_nil_of_size hp
  rcases shorts_facts c.toNat c.toNat_lt with ⟨hz, hi⟩ | ⟨hz, hi0, hi8, hm⟩
  · rw [hcof] at hi
    have HI := Lib.hid hi
    by_cases hu117 : c.toNat = 117
    · have hb : ((c.toNat : Int) != 117) = false := by simp; omega
      obtain ⟨u, hu⟩ : ∃ u, uesc (s.data.toList.drop 1) = u := ⟨_, rfl⟩
      have hE : esc s.data.toList = if u.2 = 0 then (0, 0) else (u.1, u.2 + 1) := by
        unfold esc
        rw [if_neg hne, hgc, if_neg (by omega), if_neg (by omega), hu]
      have hu10 : u.2 ≤ 10 := by
        by_cases h : u.2 = 0
        · omega
        · rw [← hu] at h ⊢; exact (uesc_vr h).2.2
      have HU := Lib.hid (show uesc (s.extract 1 s.size).data.toList = u by rw [Lib.extract_to_end]; exact hu)
      clear hu hi hz hu117 hgc hcof hne
      by_cases h2 : u.2 = 0
      · have hb2 : ((u.2 : Int) == 0) = true := by simp; omega
        rw [if_pos h2] at hE
        have HE := Lib.hid hE
        clear hE h2 hc
        go_enter Tryd.func22, Tryd.ntmps22
        go_wp2_with fail
        refine (indexByte_u8 ⟨#[98, 116, 110, 102, 114, 34, 92, 47]⟩ c _).mono ?_
        rintro e w1 ⟨rfl, rfl⟩
        rw [show Lib.indexByte (⟨#[98, 116, 110, 102, 114, 34, 92, 47]⟩ : ByteArray).data.toList c = -1 from HI.out]
        go_wp2_with fail
        refine (uni_calls _ _).mono ?_
        rintro e w2 ⟨rfl, hb2⟩
        rw [HU.out]
        go_wp2_with fail
        go_ret2
        rw [HE.out]
        exact ⟨rfl, hb2⟩
      · have hb2 : ((u.2 : Int) == 0) = false := by simp; omega
        rw [if_neg h2] at hE
        have HE1 : Hid (((esc s.data.toList).1 : Int) = (u.1 : Int)) := Lib.hid (by rw [hE])
        have HE2 : Hid (((esc s.data.toList).2 : Int) = (u.2 : Int) + 1) := Lib.hid (by rw [hE]; simp only []; omega)
        clear hE h2 hc
        go_enter Tryd.func22, Tryd.ntmps22
        go_wp2_with fail
        refine (indexByte_u8 ⟨#[98, 116, 110, 102, 114, 34, 92, 47]⟩ c _).mono ?_
        rintro e w1 ⟨rfl, rfl⟩
        rw [show Lib.indexByte (⟨#[98, 116, 110, 102, 114, 34, 92, 47]⟩ : ByteArray).data.toList c = -1 from HI.out]
        go_wp2_with fail
        refine (uni_calls _ _).mono ?_
        rintro e w2 ⟨rfl, hb2⟩
        rw [HU.out]
        go_wp2_with fail
        go_ret2
        rw [HE1.out, HE2.out]
        exact ⟨rfl, hb2⟩
    · have hb : ((c.toNat : Int) != 117) = true := by simp; omega
      have hE : esc s.data.toList = (0, 0) := by
        unfold esc
        rw [if_neg hne, hgc, if_neg (by omega), if_pos (by omega)]
      have HE := Lib.hid hE
      clear hE hi hz hu117 hgc hcof hne hc
      go_enter Tryd.func22, Tryd.ntmps22
      go_wp2_with fail
      refine (indexByte_u8 ⟨#[98, 116, 110, 102, 114, 34, 92, 47]⟩ c _).mono ?_
      rintro e w1 ⟨rfl, rfl⟩
      rw [show Lib.indexByte (⟨#[98, 116, 110, 102, 114, 34, 92, 47]⟩ : ByteArray).data.toList c = -1 from HI.out]
      go_wp2_with fail
      go_ret2
      rw [HE.out]
      exact ⟨rfl, Below.refl _ _⟩
  · rw [hcof] at hi0 hi8 hm
    obtain ⟨K, hK⟩ : ∃ K, Lib.indexByte shortsL c = K := ⟨_, rfl⟩
    rw [hK] at hi0 hi8 hm
    have hmx := means_index K (short c.toNat) hi0 hi8 (short_vr _) hm
    have hE : esc s.data.toList = (short c.toNat, 1) := by
      unfold esc
      rw [if_neg hne, hgc, if_pos hz]
    have hs128 := short_vr c.toNat
    obtain ⟨v, hv⟩ : ∃ v, short c.toNat = v := ⟨_, rfl⟩
    rw [hv] at hmx hE hs128
    have HI := Lib.hid hK
    have HE := Lib.hid hE
    clear hE hm hz hv hgc hcof hne hc hK
    go_enter Tryd.func22, Tryd.ntmps22
    go_wp2_with fail
    refine (indexByte_u8 ⟨#[98, 116, 110, 102, 114, 34, 92, 47]⟩ c _).mono ?_
    rintro e w1 ⟨rfl, rfl⟩
    rw [show Lib.indexByte (⟨#[98, 116, 110, 102, 114, 34, 92, 47]⟩ : ByteArray).data.toList c = K from HI.out]
    go_wp2_with fail
    go_ret2
    rw [HE.out]
    exact ⟨rfl, Below.refl _ _⟩

set_option maxHeartbeats 4000000 in
set_option maxRecDepth 1000000 in
theorem plain_calls (s : ByteArray) (w : World) (hp : 0 < s.size) (hT : U8 w) :
    Calls Tryd.prog 23 #[.string s] w fun e w' => e = .returned (.tuple #[.int .i32 (plainc s.data.toList).1, .int .i64 (plainc s.data.toList).2]) ∧ Below w.heap.size w w' := by
  have hd : Lib.decodeGo s = dec s.data.toList := by
    rw [Lib.decodeGo, if_neg (by omega), decode_list]; rfl
  obtain ⟨r, hr⟩ : ∃ r, (dec s.data.toList).1 = r := ⟨_, rfl⟩
  obtain ⟨n, hn⟩ : ∃ n, (dec s.data.toList).2 = n := ⟨_, rfl⟩
  have ways : (r = 65533 ∧ n = 1 ∧ plainc s.data.toList = (0, 0)) ∨ (r = 65533 ∧ n ≠ 1 ∧ plainc s.data.toList = (r, n)) ∨ (r ≠ 65533 ∧ r < 32 ∧ plainc s.data.toList = (0, 0)) ∨ (r ≠ 65533 ∧ 32 ≤ r ∧ plainc s.data.toList = (r, n)) := by
    have hpr : dec s.data.toList = (r, n) := Prod.ext hr hn
    unfold plainc okc
    rw [hpr]
    by_cases h1 : r = 65533
    · by_cases h2 : n = 1
      · exact Or.inl ⟨h1, h2, by simp [h1, h2]⟩
      · exact Or.inr (Or.inl ⟨h1, h2, by simp [h1, h2]⟩)
    · by_cases h2 : r < 32
      · exact Or.inr (Or.inr (Or.inl ⟨h1, h2, by simp [h1, h2]⟩))
      · exact Or.inr (Or.inr (Or.inr ⟨h1, by omega, by simp [h1, h2]⟩))
  have H1 := Lib.hid (show (Lib.decodeGo s).1 = r by rw [hd]; exact hr)
  have H2 := Lib.hid (show (Lib.decodeGo s).2 = n by rw [hd]; exact hn)
  clear hr hn hd
  rcases ways with ⟨a1, a2, hP⟩ | ⟨a1, a2, hP⟩ | ⟨a1, a2, hP⟩ | ⟨a1, a2, hP⟩
  · have b1 : ((r : Int) == 65533) = true := by simp; omega
    have b2 : ((n : Int) == 1) = true := by simp; omega
    have HP := Lib.hid hP
    clear hP a1 a2
    go_enter Tryd.func23, Tryd.ntmps23
    go_wp2_with fail
    refine (Tryd.utf8_DecodeRuneInString s _ hT).mono ?_
    rintro e w1 ⟨rfl, hb⟩
    rw [H1.out, H2.out]
    go_wp2_with fail
    go_ret2
    rw [HP.out]
    exact ⟨rfl, hb⟩
  · have b1 : ((r : Int) == 65533) = true := by simp; omega
    have b2 : ((n : Int) == 1) = false := by simp; omega
    have b3 : ¬ (r : Int) < 32 := by omega
    have HP := Lib.hid hP
    clear hP a1 a2
    go_enter Tryd.func23, Tryd.ntmps23
    go_wp2_with fail
    refine (Tryd.utf8_DecodeRuneInString s _ hT).mono ?_
    rintro e w1 ⟨rfl, hb⟩
    rw [H1.out, H2.out]
    go_wp2_with fail
    go_ret2
    rw [HP.out]
    exact ⟨rfl, hb⟩
  · have b1 : ((r : Int) == 65533) = false := by simp; omega
    have b3 : (r : Int) < 32 := by omega
    have HP := Lib.hid hP
    clear hP a1 a2
    go_enter Tryd.func23, Tryd.ntmps23
    go_wp2_with fail
    refine (Tryd.utf8_DecodeRuneInString s _ hT).mono ?_
    rintro e w1 ⟨rfl, hb⟩
    rw [H1.out, H2.out]
    go_wp2_with fail
    go_ret2
    rw [HP.out]
    exact ⟨rfl, hb⟩
  · have b1 : ((r : Int) == 65533) = false := by simp; omega
    have b3 : ¬ (r : Int) < 32 := by omega
    have HP := Lib.hid hP
    clear hP a1 a2
    go_enter Tryd.func23, Tryd.ntmps23
    go_wp2_with fail
    refine (Tryd.utf8_DecodeRuneInString s _ hT).mono ?_
    rintro e w1 ⟨rfl, hb⟩
    rw [H1.out, H2.out]
    go_wp2_with fail
    go_ret2
    rw [HP.out]
    exact ⟨rfl, hb⟩

end Go.Proofs.YtangbkiheoekaaaDoor
