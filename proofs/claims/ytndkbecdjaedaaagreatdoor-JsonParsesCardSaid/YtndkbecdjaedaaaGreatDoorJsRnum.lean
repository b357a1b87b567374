/- The reference's Number, once more: it leaves the world as it was, but for draws. -/
import Derived.Test.YtndkbecdjaedaaaGreatDoorJtRef2
namespace Go.Proofs.YtndkbecdjaedaaaGreatDoor
open Go.RowKit

/-- The same world but for draws. (Its laws bear the names of Below's.) -/
def QW (_ : Nat) (w w' : World) : Prop := ∃ q, w' = w.drewN q
theorem QW.refl (B : Nat) (w : World) : QW B w w := ⟨0, rfl⟩
theorem QW.trans {B : Nat} {a b c : World} (h : QW B a b) (k : QW B b c) : QW B a c := by
  obtain ⟨q, rfl⟩ := h
  obtain ⟨r, rfl⟩ := k
  exact ⟨q + r, by simp⟩
theorem QW.mono {B B' : Nat} {w w' : World} (h : QW B w w') (_ : B' ≤ B) : QW B' w w' := h
theorem QW.size {B : Nat} {w w' : World} (h : QW B w w') : w.heap.size ≤ w'.heap.size := by
  obtain ⟨q, rfl⟩ := h
  exact Nat.le_refl _

set_option maxHeartbeats 8000000 in
set_option maxRecDepth 1000000 in
theorem qdigits_calls (s : ByteArray) (at' : Nat) (w : World) (hs : s.size ≤ 1099511627776) (ha : at' ≤ 2199023255552) :
    Calls Tryz.prog 157 #[.string s, .int .i64 at'] w fun e w' => e = .returned (.int .i64 (digs (s.data.toList.drop at'))) ∧ QW w.heap.size w w' := by
  have hlsz : s.data.toList.length = s.size := by simp
  have HX := Lib.hid (byte_run s)
  obtain ⟨L, hL⟩ : ∃ L, s.data.toList = L := ⟨_, rfl⟩
  rw [hL] at hlsz HX ⊢
  have HL := Lib.hid hlsz
  clear hL hlsz
  go_enter Tryz.func157, Tryz.ntmps157
  go_wp2_with fail
  go_loop [5] (fun v => ∃ k : Nat, v = .int .i64 k ∧ at' ≤ k ∧ k ≤ 2199023255552 ∧ Hid (digs (L.drop at') = k - at' + digs (L.drop k))) (fun v => s.size - (intOf v).toNat)
  case atStart => exact ⟨at', rfl, Nat.le_refl _, ha, Lib.hid (by omega)⟩
  case round =>
    obtain ⟨k, rfl, hak, hkb, HD⟩ := hrel
    by_cases hk : k < s.size
    · have hrunk := HX.out k hk
      obtain ⟨b, hb⟩ : ∃ b, gb L k = b := ⟨_, rfl⟩
      rw [hb] at hrunk
      have HB := Lib.hid hb
      clear hb
      by_cases hdg : 48 ≤ b ∧ b ≤ 57
      · have g1 : (48 : Int) ≤ (b : Int) := by omega
        have g2 : (b : Int) ≤ 57 := by omega
        have HD' : Hid (digs (L.drop at') = k + 1 - at' + digs (L.drop (k + 1))) := Lib.hid (by
          have := digs_yes (l := L) (k := k) (by rw [HL.out]; exact hk) (by rw [HB.out]; exact hdg)
          rw [HD.out, this]; omega)
        clear hdg
        go_wp2_with fail
        go_round
        case rel => exact ⟨k + 1, by go_num, by omega, by omega, HD'⟩
        case measure => simp [intOf]; omega
      · have HR : Hid ((digs (L.drop at') : Int) = (k : Int) - (at' : Int)) := Lib.hid (by
          have := digs_no (l := L) (k := k) (by rw [HB.out]; exact hdg)
          rw [HD.out, this]; omega)
        have hways : ¬ (48 : Int) ≤ (b : Int) ∨ ((48 : Int) ≤ (b : Int) ∧ ¬ (b : Int) ≤ 57) := by omega
        clear hdg
        rcases hways with g1 | ⟨g1, g2⟩
        all_goals
          go_wp2_with fail
          go_ret
          rw [HR.out]
          exact ⟨rfl, QW.refl _ _⟩
    · have hkI : ¬ (k : Int) < (s.size : Int) := by omega
      have HR : Hid ((digs (L.drop at') : Int) = (k : Int) - (at' : Int)) := Lib.hid (by
        have h0 : digs (L.drop k) = 0 := by rw [List.drop_of_length_le (by rw [HL.out]; omega)]; rfl
        rw [HD.out, h0]; omega)
      go_wp2_with fail
      go_ret
      rw [HR.out]
      exact ⟨rfl, QW.refl _ _⟩
set_option maxHeartbeats 16000000 in
set_option maxRecDepth 1000000 in
theorem qnumber_zero (s : ByteArray) (w : World) (hs : s.size ≤ 1099511627776) (hd0 : digs (s.data.toList.drop (if gb s.data.toList 0 = 45 then 1 else 0)) = 0) :
    Calls Tryz.prog 118 #[.string s] w fun e w' => e = .returned (.int .i64 (number s.data.toList)) ∧ QW w.heap.size w w' := by
  have hN : number s.data.toList = 0 := by unfold number; simp only [if_pos hd0]
  have HN := Lib.hid hN
  clear hN
  by_cases h0 : s.size = 0
  · have hem : s.toList.isEmpty = true := by rw [Lib.toList_data, nil_of_size h0]; rfl
    have HD : Hid (digs (s.data.toList.drop 0) = 0) := Lib.hid (by rw [nil_of_size h0]; rfl)
    clear hd0 h0
    go_enter Tryz.func118, Tryz.ntmps118
    go_wp2_with fail
    refine (qdigits_calls s 0 _ hs (by omega)).mono ?_
    rintro e w1 ⟨rfl, hb⟩
    rw [HD.out]
    go_wp2_with fail
    go_ret
    rw [HN.out]
    exact ⟨rfl, hb⟩
  · have hp : 0 < s.size := by omega
    have hem := full hp
    have hrun := head_run s hp
    obtain ⟨c, hc⟩ : ∃ c, gb s.data.toList 0 = c := ⟨_, rfl⟩
    rw [hc] at hrun hd0
    clear hc h0
    by_cases h45 : c = 45
    · have hb45 : ((c : Int) == 45) = true := by simp; omega
      rw [if_pos h45] at hd0
      have HD := Lib.hid hd0
      clear hd0 h45
      go_enter Tryz.func118, Tryz.ntmps118
      go_wp2_with fail
      refine (qdigits_calls s 1 _ hs (by omega)).mono ?_
      rintro e w1 ⟨rfl, hb⟩
      rw [HD.out]
      go_wp2_with fail
      go_ret
      rw [HN.out]
      exact ⟨rfl, hb⟩
    · have hb45 : ((c : Int) == 45) = false := by simp; omega
      rw [if_neg h45] at hd0
      have HD := Lib.hid hd0
      clear hd0 h45
      go_enter Tryz.func118, Tryz.ntmps118
      go_wp2_with fail
      refine (qdigits_calls s 0 _ hs (by omega)).mono ?_
      rintro e w1 ⟨rfl, hb⟩
      rw [HD.out]
      go_wp2_with fail
      go_ret
      rw [HN.out]
      exact ⟨rfl, hb⟩

set_option maxHeartbeats 16000000 in
set_option maxRecDepth 1000000 in
theorem qnumber_pos (s : ByteArray) (w : World) (hs : s.size ≤ 1099511627776) (hd0 : digs (s.data.toList.drop (if gb s.data.toList 0 = 45 then 1 else 0)) ≠ 0) :
    Calls Tryz.prog 118 #[.string s] w fun e w' => e = .returned (.int .i64 (number s.data.toList)) ∧ QW w.heap.size w w' := by
  have hL : s.data.toList.length = s.size := by simp
  have HX := Lib.hid (byte_run s)
  have HDG : Hid (∀ (k : Nat) (w : World), k ≤ 2199023255552 → Calls Tryz.prog 157 #[.string s, .int .i64 k] w fun e w' => e = .returned (.int .i64 (digs (s.data.toList.drop k))) ∧ QW w.heap.size w w') := Lib.hid fun k w hk => qdigits_calls s k w hs hk
  have hp : 0 < s.size := by
    rcases Nat.eq_zero_or_pos s.size with h | h
    · rw [nil_of_size h] at hd0; simp at hd0; exact absurd rfl hd0
    · exact h
  have hem := full hp
  have hrun := head_run s hp
  obtain ⟨L, hLd⟩ : ∃ L, s.data.toList = L := ⟨_, rfl⟩
  rw [hLd] at hd0 hL hrun HX HDG ⊢
  obtain ⟨c, hc⟩ : ∃ c, gb L 0 = c := ⟨_, rfl⟩
  rw [hc] at hrun
  obtain ⟨j, hj⟩ : ∃ j, (if gb L 0 = 45 then 1 else 0) = j := ⟨_, rfl⟩
  rw [hj] at hd0
  have hj1 : j ≤ 1 := by rw [← hj]; split <;> omega
  obtain ⟨d, hd⟩ : ∃ d, digs (L.drop j) = d := ⟨_, rfl⟩
  have hdl : d + j ≤ s.size := by
    have := digs_le (L.drop j)
    rw [List.length_drop, hd] at this
    rw [hd] at hd0
    omega
  have hdp : 1 ≤ d := by omega
  obtain ⟨k1, hk1⟩ : ∃ k1, (j + if gb L j = 48 then 1 else digs (L.drop j)) = k1 := ⟨_, rfl⟩
  have hN : number L = numExp L (numFrac L k1) := by
    unfold number
    simp only [hj, if_neg hd0, hk1]
  have hk1s : k1 ≤ s.size := by rw [← hk1]; split <;> omega
  have HN := Lib.hid hN
  have HL := Lib.hid hL
  have HD := Lib.hid hd
  have HJ := Lib.hid hj
  have HC := Lib.hid hc
  have HK := Lib.hid hk1
  have hdb : ((d : Int) == 0) = false := by simp; omega
  clear hN hL hd hj hc hk1 hd0 hLd
  go_enter Tryz.func118, Tryz.ntmps118
  go_upto_if 12 with fail
  go_cut [3] (fun v3 wx => v3 = .int .i64 j ∧ QW w.heap.size w wx)
  case first =>
    by_cases h45 : c = 45
    · have hb45 : ((c : Int) == 45) = true := by simp; omega
      have hj' : j = 1 := by rw [← HJ.out, HC.out, if_pos h45]
      subst hj'
      go_wp2_with fail
      go_meet
      exact ⟨rfl, QW.refl _ _⟩
    · have hb45 : ((c : Int) == 45) = false := by simp; omega
      have hj' : j = 0 := by rw [← HJ.out, HC.out, if_neg h45]
      subst hj'
      go_wp2_with fail
      go_meet
      exact ⟨rfl, QW.refl _ _⟩
  case rest =>
    obtain ⟨rfl, hb0⟩ := hcut
    have hrunj := HX.out j (by omega)
    obtain ⟨cj, hcj⟩ : ∃ cj, gb L j = cj := ⟨_, rfl⟩
    rw [hcj] at hrunj
    have HCJ := Lib.hid hcj
    clear hcj
    go_wp2_with fail
    refine (HDG.out j _ (by omega)).mono ?_
    rintro e w1 ⟨rfl, hb⟩
    rw [HD.out]
    go_upto_if 21 with fail
    go_cut [4] (fun v4 wx => (∃ n : Nat, v4 = .int .i64 n ∧ n ≤ d ∧ Hid (k1 = j + n)) ∧ QW w.heap.size w wx)
    case first =>
      have hb' := hb0.trans (hb.mono hb0.size)
      by_cases h48 : cj = 48
      · have hb48 : ((cj : Int) == 48) = true := by simp; omega
        have hk' : k1 = j + 1 := by rw [← HK.out, HCJ.out, if_pos h48]
        have HK' := Lib.hid hk'
        clear h48 hk'
        go_wp2_with fail
        go_meet
        exact ⟨⟨1, rfl, hdp, HK'⟩, hb'⟩
      · have hb48 : ((cj : Int) == 48) = false := by simp; omega
        have hk' : k1 = j + d := by rw [← HK.out, HCJ.out, if_neg h48, HD.out]
        have HK' := Lib.hid hk'
        clear h48 hk'
        go_wp2_with fail
        go_meet
        exact ⟨⟨d, rfl, Nat.le_refl _, HK'⟩, hb'⟩
    case rest =>
      obtain ⟨⟨n, rfl, hnd, HKN⟩, hb1⟩ := hcut
      go_upto_region 9 with fail
      iterate 17 (first | go_values | go_skip | go_guarded | go_step | go_upon)
      have HKI := Lib.hid (show (j : Int) + (n : Int) = (k1 : Int) by have := HKN.out; omega)
      rw [HKI.out]
      go_cut [3] (fun v3 wx => (∃ k2 : Nat, v3 = .int .i64 k2 ∧ k2 ≤ s.size ∧ Hid (numFrac L k1 = k2)) ∧ QW w.heap.size w wx)
      case first =>
        have HF0 : numFrac L k1 = if gb L k1 = 46 ∧ 0 < digs (L.drop (k1 + 1)) then k1 + 1 + digs (L.drop (k1 + 1)) else k1 := rfl
        by_cases hk : k1 < s.size
        · have hkI : (k1 : Int) < (s.size : Int) := by omega
          have hrunk := HX.out k1 hk
          obtain ⟨ck, hck⟩ : ∃ ck, gb L k1 = ck := ⟨_, rfl⟩
          rw [hck] at hrunk HF0
          clear hck
          by_cases h46 : ck = 46
          · have hb46 : ((ck : Int) == 46) = true := by simp; omega
            obtain ⟨d2, hd2⟩ : ∃ d2, digs (L.drop (k1 + 1)) = d2 := ⟨_, rfl⟩
            have hd2s : d2 + (k1 + 1) ≤ s.size := by
              have := digs_le (L.drop (k1 + 1))
              rw [List.length_drop, hd2] at this
              have := HL.out
              omega
            rw [hd2] at HF0
            have HD2 := Lib.hid hd2
            have HK1 := Lib.hid (show (k1 : Int) + 1 = ((k1 + 1 : Nat) : Int) by omega)
            clear hd2
            by_cases h0 : 0 < d2
            · have h0I : (0 : Int) < (d2 : Int) := by omega
              rw [if_pos ⟨h46, h0⟩] at HF0
              have HF := Lib.hid HF0
              clear HF0 h46
              go_wp2_with fail
              rw [HK1.out]
              refine (HDG.out (k1 + 1) _ (by omega)).mono ?_
              rintro e w2 ⟨rfl, hb2⟩
              rw [HD2.out]
              go_wp2_with fail
              rw [HK1.out]
              refine (HDG.out (k1 + 1) _ (by omega)).mono ?_
              rintro e w3 ⟨rfl, hb3⟩
              rw [HD2.out]
              go_wp2_with fail
              go_meet
              exact ⟨⟨k1 + 1 + d2, by go_num, by omega, HF⟩, (hb1.trans (hb2.mono hb1.size)).trans (hb3.mono (Nat.le_trans hb1.size hb2.size))⟩
            · have h0I : ¬ (0 : Int) < (d2 : Int) := by omega
              rw [if_neg (fun h => h0 h.2)] at HF0
              have HF := Lib.hid HF0
              clear HF0 h46
              go_wp2_with fail
              rw [HK1.out]
              refine (HDG.out (k1 + 1) _ (by omega)).mono ?_
              rintro e w2 ⟨rfl, hb2⟩
              rw [HD2.out]
              go_wp2_with fail
              go_meet
              exact ⟨⟨k1, rfl, hk1s, HF⟩, hb1.trans (hb2.mono hb1.size)⟩
          · have hb46 : ((ck : Int) == 46) = false := by simp; omega
            rw [if_neg (fun h => h46 h.1)] at HF0
            have HF := Lib.hid HF0
            clear HF0 h46
            go_wp2_with fail
            go_meet
            exact ⟨⟨k1, rfl, hk1s, HF⟩, hb1⟩
        · have hkI : ¬ (k1 : Int) < (s.size : Int) := by omega
          rw [if_neg (fun h => by rw [gb_out (by rw [HL.out]; omega)] at h; omega)] at HF0
          have HF := Lib.hid HF0
          clear HF0
          go_wp2_with fail
          go_meet
          exact ⟨⟨k1, rfl, hk1s, HF⟩, hb1⟩
      case rest =>
        obtain ⟨⟨k2, rfl, hk2, HF⟩, hb2⟩ := hcut
        have HN2 := Lib.hid (show number L = numExp L k2 by rw [HN.out, HF.out])
        have HE0 : numExp L k2 = if gb L k2 = 101 ∨ gb L k2 = 69 then (if 0 < digs (L.drop (if gb L (k2 + 1) = 43 ∨ gb L (k2 + 1) = 45 then k2 + 2 else k2 + 1)) then (if gb L (k2 + 1) = 43 ∨ gb L (k2 + 1) = 45 then k2 + 2 else k2 + 1) + digs (L.drop (if gb L (k2 + 1) = 43 ∨ gb L (k2 + 1) = 45 then k2 + 2 else k2 + 1)) else k2) else k2 := rfl
        by_cases hk : k2 < s.size
        · have hkI : (k2 : Int) < (s.size : Int) := by omega
          have hrunk := HX.out k2 hk
          obtain ⟨ck, hck⟩ : ∃ ck, gb L k2 = ck := ⟨_, rfl⟩
          rw [hck] at hrunk HE0
          clear hck
          by_cases he : ck = 101 ∨ ck = 69
          · rw [if_pos he] at HE0
            obtain ⟨m, hm⟩ : ∃ m, (if gb L (k2 + 1) = 43 ∨ gb L (k2 + 1) = 45 then k2 + 2 else k2 + 1) = m := ⟨_, rfl⟩
            rw [hm] at HE0
            obtain ⟨d3, hd3⟩ : ∃ d3, digs (L.drop m) = d3 := ⟨_, rfl⟩
            rw [hd3] at HE0
            have hmb : m ≤ k2 + 2 := by rw [← hm]; split <;> omega
            have hd3s : d3 ≤ s.size := by
              have := digs_le (L.drop m)
              rw [List.length_drop, hd3] at this
              have := HL.out
              omega
            have HD3 := Lib.hid hd3
            have HM := Lib.hid hm
            have HE1 := Lib.hid HE0
            have hways : ((ck : Int) == 101) = true ∨ (((ck : Int) == 101) = false ∧ ((ck : Int) == 69) = true) := by
              by_cases h : ck = 101
              · exact Or.inl (by simp; omega)
              · exact Or.inr ⟨by simp; omega, by simp; omega⟩
            clear hd3 hm HE0 he
            rcases hways with hb101 | ⟨hb101, hb69⟩
            all_goals
              go_upto_region 13 with fail
              iterate 14 (first | go_values | go_skip | go_guarded | go_step | go_upon)
              go_cut [5] (fun v5 wx => v5 = .int .i64 m ∧ QW w.heap.size w wx)
              case first =>
                by_cases hq : k2 + 1 < s.size
                · have hqI : (k2 : Int) + 1 < (s.size : Int) := by omega
                  have hrunq := HX.out (k2 + 1) hq
                  obtain ⟨cq, hcq⟩ : ∃ cq, gb L (k2 + 1) = cq := ⟨_, rfl⟩
                  rw [hcq, show ((k2 + 1 : Nat) : Int) = (k2 : Int) + 1 by omega] at hrunq
                  have hmm : m = if cq = 43 ∨ cq = 45 then k2 + 2 else k2 + 1 := by rw [← HM.out, hcq]
                  clear hcq
                  have hways : (((cq : Int) == 43) = true ∧ m = k2 + 2) ∨ (((cq : Int) == 43) = false ∧ ((cq : Int) == 45) = true ∧ m = k2 + 2) ∨ (((cq : Int) == 43) = false ∧ ((cq : Int) == 45) = false ∧ m = k2 + 1) := by
                    by_cases h : cq = 43
                    · exact Or.inl ⟨by simp; omega, by rw [hmm, if_pos (Or.inl h)]⟩
                    · by_cases h' : cq = 45
                      · exact Or.inr (Or.inl ⟨by simp; omega, by simp; omega, by rw [hmm, if_pos (Or.inr h')]⟩)
                      · exact Or.inr (Or.inr ⟨by simp; omega, by simp; omega, by rw [hmm, if_neg (by omega)]⟩)
                  clear hmm
                  rcases hways with ⟨hb43, hm⟩ | ⟨hb43, hb45, hm⟩ | ⟨hb43, hb45, hm⟩
                  all_goals
                    have HMM := Lib.hid hm
                    clear hm
                    go_wp2_with fail
                    go_meet
                    refine ⟨?_, hb2⟩
                    have := HMM.out
                    exact congrArg (Value.int .i64) (by omega)
                · have hqI : ¬ (k2 : Int) + 1 < (s.size : Int) := by omega
                  have HMM : Hid (m = k2 + 1) := Lib.hid (by rw [← HM.out, if_neg (by rw [gb_out (by rw [HL.out]; omega)]; omega)])
                  go_wp2_with fail
                  go_meet
                  refine ⟨?_, hb2⟩
                  have := HMM.out
                  exact congrArg (Value.int .i64) (by omega)
              case rest =>
                obtain ⟨rfl, hb3⟩ := hcut
                by_cases h3 : 0 < d3
                · have h3I : (0 : Int) < (d3 : Int) := by omega
                  have HE := Lib.hid (HE1.out.trans (if_pos h3))
                  go_wp2_with fail
                  refine (HDG.out m _ (by omega)).mono ?_
                  rintro e w4 ⟨rfl, hb4⟩
                  rw [HD3.out]
                  go_wp2_with fail
                  refine (HDG.out m _ (by omega)).mono ?_
                  rintro e w5 ⟨rfl, hb5⟩
                  rw [HD3.out]
                  go_wp2_with fail
                  go_ret
                  rw [HN2.out, HE.out]
                  exact ⟨by go_num, (hb3.trans (hb4.mono hb3.size)).trans (hb5.mono (Nat.le_trans hb3.size hb4.size))⟩
                · have h3I : ¬ (0 : Int) < (d3 : Int) := by omega
                  have HE := Lib.hid (HE1.out.trans (if_neg h3))
                  go_wp2_with fail
                  refine (HDG.out m _ (by omega)).mono ?_
                  rintro e w4 ⟨rfl, hb4⟩
                  rw [HD3.out]
                  go_wp2_with fail
                  go_ret
                  rw [HN2.out, HE.out]
                  exact ⟨rfl, hb3.trans (hb4.mono hb3.size)⟩
          · rw [if_neg he] at HE0
            have hb101 : ((ck : Int) == 101) = false := by simp; omega
            have hb69 : ((ck : Int) == 69) = false := by simp; omega
            have HE := Lib.hid HE0
            clear HE0 he
            go_wp2_with fail
            go_ret
            rw [HN2.out, HE.out]
            exact ⟨rfl, hb2⟩
        · have hkI : ¬ (k2 : Int) < (s.size : Int) := by omega
          rw [if_neg (by rw [gb_out (by rw [HL.out]; omega)]; omega)] at HE0
          have HE := Lib.hid HE0
          clear HE0
          go_wp2_with fail
          go_ret
          rw [HN2.out, HE.out]
          exact ⟨rfl, hb2⟩

theorem qnumber_calls (s : ByteArray) (w : World) (hs : s.size ≤ 1099511627776) :
    Calls Tryz.prog 118 #[.string s] w fun e w' => e = .returned (.int .i64 (number s.data.toList)) ∧ QW w.heap.size w w' := by
  by_cases h : digs (s.data.toList.drop (if gb s.data.toList 0 = 45 then 1 else 0)) = 0
  · exact qnumber_zero s w hs h
  · exact qnumber_pos s w hs h
end Go.Proofs.YtndkbecdjaedaaaGreatDoor
