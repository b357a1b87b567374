/- The reference's Unquote. -/
import Derived.Test.YtndkbecdjaedaaaGreatDoorJtRef9
import Derived.Test.YtndkbecdjaedaaaGreatDoorJtUnq
namespace Go.Proofs.YtndkbecdjaedaaaGreatDoor
open Go.RowKit

theorem read_list (l : List UInt8) : ∃ Q : ByteArray, (⟨l.toArray⟩ : ByteArray) = Q ∧ Q.data.toList = l ∧ Q.size = l.length :=
  ⟨_, rfl, rfl, by simp [ByteArray.size]⟩

theorem plainc_of {l : List UInt8} (hl : l ≠ []) (u : Nat × Nat) (hu : charV l = u) : plainc l = if u.2 = 0 ∨ u.1 < 32 then (0, 0) else u := by
  have h1 := (charV_size hl).1
  rw [hu] at h1
  unfold plainc
  cases hk : okc l with
  | false =>
    rw [if_pos (Or.inl rfl), if_pos (Or.inl (h1.2 hk))]
  | true =>
    have hd : dec l = u := by rw [← charV_ok hk, hu]
    have hz : u.2 ≠ 0 := fun h => by have := h1.1 h; rw [hk] at this; cases this
    rw [hd]
    by_cases h32 : u.1 < 32
    · rw [if_pos (Or.inr h32), if_pos (Or.inr h32)]
    · rw [if_neg (by rintro (h | h); cases h; exact h32 h), if_neg (by rintro (h | h); exact hz h; exact h32 h)]

set_option maxHeartbeats 16000000 in
set_option maxRecDepth 1000000 in
theorem runq_calls (s : ByteArray) (w : World) (hs : s.size ≤ 1099511627776) :
    Calls Tryz.prog 155 #[.string s] w fun e w' => e = .returned (.tuple #[.string ⟨(unqV s.data.toList).1.toArray⟩, .int .i64 (unqV s.data.toList).2.1, .bool (unqV s.data.toList).2.2]) ∧ Below w.heap.size w w' := by
  by_cases h0 : s.size = 0
  · have hem : s.toList.isEmpty = true := by rw [Lib.toList_data, nil_of_size h0]; rfl
    have HR : Hid (unqV s.data.toList = ([], 0, false)) := Lib.hid (unq_no (by rw [nil_of_size h0, gb_nil]; omega))
    clear h0
    go_enter Tryz.func155, Tryz.ntmps155
    go_wp2_with fail
    go_ret3
    rw [HR.out]
    exact ⟨rfl, Below.refl _ _⟩
  have hp : 0 < s.size := by omega
  have hem := full hp
  have hrun := head_run s hp
  obtain ⟨c0, hc0⟩ : ∃ c, gb s.data.toList 0 = c := ⟨_, rfl⟩
  rw [hc0] at hrun
  have HBR := Lib.hid (byte_run s)
  by_cases hq : c0 = 34
  · have hb0 : ((c0 : Int) != 34) = false := by simp; omega
    have hR0 := Lib.hid (unqRel_start (hc0.trans hq))
    have hs1 : 1 ≤ s.size := hp
    have hlen : s.data.toList.length = s.size := by simp
    have HL := Lib.hid hlen
    clear hq hc0 h0 hlen
    go_enter Tryz.func155, Tryz.ntmps155
    go_wp2_with fail
    go_loopw [5, 6] (fun vo vk wr => ∃ (A : ByteArray) (k : Nat) , vo = .string A ∧ vk = .int .i64 k ∧ 1 ≤ k ∧ k ≤ s.size ∧ A.size ≤ 4 * k ∧ Hid (UnqRel s.data.toList k A.data.toList) ∧ Below w.heap.size w wr) (fun _ vk _ => s.size - (intOf vk).toNat)
    case atStart => exact ⟨⟨#[]⟩, 1, rfl, rfl, by omega, hs1, by show 0 ≤ _; omega, hR0, Below.refl _ _⟩
    case round =>
      obtain ⟨A, k, rfl, rfl, hk1, hks, hAs, hR, hbw⟩ := hrel
      by_cases hk : k < s.size
      · have hkI : (k : Int) < (s.size : Int) := by omega
        have hidx := HBR.out k hk
        obtain ⟨c, hc⟩ : ∃ c, gb s.data.toList k = c := ⟨_, rfl⟩
        rw [hc] at hidx
        have hkl : k < s.data.toList.length := by rw [HL.out]; exact hk
        by_cases c34 : c = 34
        · have hb34 : ((c : Int) == 34) = true := by simp; omega
          have HU := Lib.hid (unqRel_end hR.out hkl (hc.trans c34))
          clear c34 hc hkl
          go_wp2_with fail
          go_ret3
          rw [HU.out]
          exact ⟨by go_num, hbw⟩
        · have hb34 : ((c : Int) == 34) = false := by simp; omega
          have h34 : gb s.data.toList k ≠ 34 := by rw [hc]; exact c34
          have hdl : (s.data.toList.drop k) ≠ [] := drop_ne _ _ hkl
          by_cases c92 : c = 92
          · have hb92 : ((c : Int) == 92) = true := by simp; omega
            obtain ⟨u, hu⟩ : ∃ u, esc (s.data.toList.drop (k + 1)) = u := ⟨_, rfl⟩
            have hch : uchar (s.data.toList.drop k) = if u.2 = 0 then (0, 0) else (u.1, u.2 + 1) := by
              unfold uchar
              rw [gb_drop, Nat.add_zero, if_pos (hc.trans c92), List.drop_drop, hu]
            have hu11 : u.2 ≠ 0 → k + 1 + u.2 ≤ s.size := by
              intro h
              rw [← hu] at h ⊢
              have := esc_vr h
              rw [List.length_drop, HL.out] at this
              omega
            have hrv : rescV (s.extract (k + 1) s.size).data.toList = if u.2 = 0 then ([], 0) else (enc u.1, u.2) := by
              rw [Lib.extract_to_end]; unfold rescV; rw [hu]
            by_cases h2 : u.2 = 0
            · rw [if_pos h2] at hrv hch
              have HV := Lib.hid hrv
              have HB := Lib.hid (unqRel_bad hR.out hkl h34 (by rw [hch]))
              clear h2 hrv hch hu hu11 hdl h34 c34 c92 hc hkl
              go_wp2_with fail
              refine (resc_calls _ _).mono ?_
              rintro e w1 ⟨rfl, hb1⟩
              rw [HV.out]
              go_wp2_with fail
              go_ret3
              rw [HB.out]
              exact ⟨rfl, hbw.trans (hb1.mono hbw.size)⟩
            · rw [if_neg h2] at hrv hch
              obtain ⟨X, hX, hXl, hXs⟩ := read_list (enc u.1)
              have hel := enc_length_le u.1
              obtain ⟨U, hU, hUs, hUrun⟩ := concat_run A X (by omega) (by omega)
              have HX := Lib.hid hX
              have HV := Lib.hid hrv
              have HB : Hid (UnqRel s.data.toList (k + (u.2 + 1)) U.data.toList) := Lib.hid (by
                have := unqRel_step hR.out hkl h34 u.1 (u.2 + 1) hch (by omega)
                rw [hU, hXl]; exact this)
              have hb2 : ((u.2 : Int) == 0) = false := by simp; omega
              have hn11 := hu11 h2
              have hUs' : U.size ≤ 4 * (k + (u.2 + 1)) := by omega
              clear h2 hrv hch hu hu11 hdl h34 c34 c92 hc hkl hX hXl hXs hU hUs hel
              go_wp2_with fail
              refine (resc_calls _ _).mono ?_
              rintro e w1 ⟨rfl, hb1⟩
              rw [HV.out]
              show _
              simp only []
              rw [HX.out]
              go_wp2_with fail
              go_roundw
              case rel => exact ⟨U, k + (u.2 + 1), rfl, by go_num, by omega, by omega, hUs', HB, hbw.trans (hb1.mono hbw.size)⟩
              case measure => simp [intOf]; omega
          · have hb92 : ((c : Int) == 92) = false := by simp; omega
            obtain ⟨u, hu⟩ : ∃ u, charV (s.data.toList.drop k) = u := ⟨_, rfl⟩
            have hch : uchar (s.data.toList.drop k) = if u.2 = 0 ∨ u.1 < 32 then (0, 0) else u := by
              unfold uchar
              rw [gb_drop, Nat.add_zero, if_neg (by omega)]
              exact plainc_of hdl u hu
            have hcs := charV_size hdl
            rw [hu, List.length_drop, HL.out] at hcs
            have HU : Hid (charV (s.extract k s.size).data.toList = u) := Lib.hid (by rw [Lib.extract_to_end]; exact hu)
            have hszx : 0 < (s.extract k s.size).size := by simp; omega
            have HZ := Lib.hid hszx
            by_cases h2 : u.2 = 0 ∨ u.1 < 32
            · rw [if_pos h2] at hch
              have HB := Lib.hid (unqRel_bad hR.out hkl h34 (by rw [hch]))
              have hw2 : ((u.2 : Int) == 0) = true ∨ (((u.2 : Int) == 0) = false ∧ (u.1 : Int) < 32) := by
                by_cases hz : u.2 = 0
                · exact Or.inl (by simp; omega)
                · exact Or.inr ⟨by simp; omega, by omega⟩
              clear h2 hch hu hdl h34 c34 c92 hc hkl hcs hszx
              rcases hw2 with k1 | ⟨k1, k2⟩
              all_goals
                go_wp2_with fail
                refine (char_calls _ HZ.out _).mono ?_
                rintro e w1 ⟨rfl, hb1⟩
                rw [HU.out]
                go_wp2_with fail
                go_ret3
                rw [HB.out]
                exact ⟨rfl, hbw.trans (hb1.mono hbw.size)⟩
            · rw [if_neg h2] at hch
              have hz : u.2 ≠ 0 := fun h => h2 (Or.inl h)
              have hge : ¬ u.1 < 32 := fun h => h2 (Or.inr h)
              have hzb : ((u.2 : Int) == 0) = false := by simp; omega
              have hgeI : ¬ (u.1 : Int) < 32 := by omega
              have hok : okc (s.data.toList.drop k) = true := by
                cases h : okc (s.data.toList.drop k) with
                | true => rfl
                | false => exact absurd (hcs.1.2 h) hz
              have hdu : dec (s.data.toList.drop k) = u := by rw [← charV_ok hok, hu]
              obtain ⟨_, hwe, _, hte⟩ := dec_ok hdl hok
              rw [hdu] at hwe hte
              have hku : k + u.2 ≤ s.size := by have := hcs.2; omega
              obtain ⟨X, hX⟩ : ∃ X, s.extract k (k + u.2) = X := ⟨_, rfl⟩
              have hXl : X.data.toList = enc u.1 := by
                rw [← hX, Lib.extract_data]
                rw [← hte]
                simp
              have hXs : X.size = u.2 := by rw [← hX]; simp; omega
              have hel := enc_length_le u.1
              have hsl : ∀ w, (Instr.slice 9 (.string s) (some (.int .i64 (k : Int))) (some (.int .i64 ((k : Int) + (u.2 : Int)))) none).run Tryz.prog w = .ok (.string X) w := by
                intro w
                have := run_slice_string (P := Tryz.prog) w 9 s .i64 .i64 (k : Int) ((k : Int) + (u.2 : Int)) Tryz.underlying9 (by omega) (by omega) (by omega)
                rw [this, ← hX]
                congr 3
              obtain ⟨U, hU, hUs, hUrun⟩ := concat_run A X (by omega) (by omega)
              have HB : Hid (UnqRel s.data.toList (k + u.2) U.data.toList) := Lib.hid (by
                have := unqRel_step hR.out hkl h34 u.1 u.2 (by rw [hch]) hz
                rw [hU, hXl]; exact this)
              have hUs' : U.size ≤ 4 * (k + u.2) := by omega
              have hu1 : 1 ≤ u.2 := by omega
              clear h2 hch hu hdl h34 c34 c92 hc hkl hcs hszx hz hge hok hdu hwe hte hX hXl hXs hel hU hUs
              go_wp2_with fail
              refine (char_calls _ HZ.out _).mono ?_
              rintro e w1 ⟨rfl, hb1⟩
              rw [HU.out]
              go_wp2_with fail
              go_roundw
              case rel => exact ⟨U, k + u.2, rfl, by go_num, by omega, by omega, hUs', HB, hbw.trans (hb1.mono hbw.size)⟩
              case measure => simp [intOf]; omega
      · have hkI : ¬ (k : Int) < (s.size : Int) := by omega
        have HU := Lib.hid (unqRel_out hR.out (by rw [HL.out]; omega))
        go_wp2_with fail
        go_ret3
        rw [HU.out]
        exact ⟨rfl, hbw⟩
  · have hb0 : ((c0 : Int) != 34) = true := by simp; omega
    have HU := Lib.hid (unq_no (show gb s.data.toList 0 ≠ 34 by rw [hc0]; exact hq))
    clear hq hc0
    go_enter Tryz.func155, Tryz.ntmps155
    go_wp2_with fail
    go_ret3
    rw [HU.out]
    exact ⟨rfl, Below.refl _ _⟩
end Go.Proofs.YtndkbecdjaedaaaGreatDoor
