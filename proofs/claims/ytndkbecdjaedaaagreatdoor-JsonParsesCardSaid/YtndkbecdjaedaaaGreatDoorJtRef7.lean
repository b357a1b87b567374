/- The reference's Quote, hex. -/
import Derived.Test.YtndkbecdjaedaaaGreatDoorJtRef6
namespace Go.Proofs.YtndkbecdjaedaaaGreatDoor
open Go.RowKit

theorem fffd_vr : vr 65533 := by unfold vr; omega
theorem qrune_enc {r : Nat} (h : 128 ≤ r) : qrune r = enc r := by
  unfold qrune
  rw [if_neg (by omega), if_neg (by omega), if_neg (by omega), if_neg (by omega), if_neg (by omega), if_neg (by omega), if_neg (by omega), if_neg (by omega)]

theorem concat_run (a b : ByteArray) (ha : a.size ≤ 8796093022208) (hb : b.size ≤ 8796093022208) : ∃ U : ByteArray, U.data.toList = a.data.toList ++ b.data.toList ∧ U.size = a.size + b.size ∧
    ∀ w, (Op.stringOp .add a b).run Tryz.prog w = .ok (.string U) w :=
  ⟨a ++ b, by simp [ByteArray.data_append], by simp [ByteArray.size_append], fun w => run_string_add_sum w a b (by omega)⟩

set_option maxHeartbeats 16000000 in
set_option maxRecDepth 1000000 in
theorem rquote_calls (s : ByteArray) (w : World) (hs : s.size ≤ 1099511627776) :
    Calls Tryz.prog 119 #[.string s] w fun e w' => e = .returned (.string ⟨(quote s.data.toList).toArray⟩) ∧ Below w.heap.size w w' := by
  obtain ⟨L, hL⟩ : ∃ L, s.data.toList = L := ⟨_, rfl⟩
  have H0 : Hid (Tail L 0 s) := Lib.hid ⟨by rw [hL]; rfl, by omega⟩
  have HL := Lib.hid (show L.length = s.size by rw [← hL]; simp)
  rw [hL]
  clear hL
  go_enter Tryz.func119, Tryz.ntmps119
  go_wp2_with fail
  go_loopw [0, 3] (fun v vo wr => ∃ (R A : ByteArray) (k : Nat), v = .string R ∧ vo = .string A ∧ Hid (Tail L k R) ∧ Hid (A.data.toList ++ qin (L.drop k) = 34 :: qin L) ∧ A.size ≤ 6 * k + 1 ∧ k ≤ s.size ∧ Below w.heap.size w wr) (fun v _ _ => strLen v)
  case atStart => exact ⟨s, ⟨#[34]⟩, 0, rfl, rfl, H0, Lib.hid rfl, by show 1 ≤ _; omega, by omega, Below.refl _ _⟩
  case round =>
    obtain ⟨R, A, k, rfl, rfl, HT, HA, hAs, hks, hbw⟩ := hrel
    by_cases hR0 : R.size = 0
    · have hem := HT.out.empty hR0
      obtain ⟨U, hU, hUs, hrun⟩ := concat_run A ⟨#[34]⟩ (by omega) (by show 1 ≤ _; omega)
      have HR : Hid (U = ⟨(quote L).toArray⟩) := Lib.hid (by
        have h1 := HA.out
        rw [← HT.out.1, nil_of_size hR0, qin_nil, List.append_nil] at h1
        have h2 : U.data.toList = quote L := by rw [hU, h1]; rfl
        rw [← h2])
      clear hR0 hU hUs
      go_wp2_with fail
      go_ret
      rw [HR.out]
      exact ⟨rfl, hbw⟩
    · have hRp : 0 < R.size := by omega
      have hem := full hRp
      have hne := ne_nil_of_size hRp
      have hsz := HT.out.size
      have hkL := HL.out
      have hwd := dec_width hne
      have hRl : R.data.toList.length = R.size := by simp
      obtain ⟨u, hu⟩ : ∃ u, charV R.data.toList = u := ⟨_, rfl⟩
      have hcs := charV_size hne
      rw [hu] at hcs
      have hst : A.data.toList ++ (qrune (dec R.data.toList).1 ++ qin (R.data.toList.drop (dec R.data.toList).2)) = 34 :: qin L := by
        rw [← qin_step hne, HT.out.1]; exact HA.out
      by_cases hz : u.2 = 0
      · have hzb : ((u.2 : Int) == 0) = true := by simp; omega
        have hbad := dec_bad (hcs.1.1 hz)
        rw [hbad, qrune_enc (by omega), HT.out.1, List.drop_drop] at hst
        have hel := enc_length_le 65533
        obtain ⟨U, hU, hUs, hrun⟩ := concat_run A ⟨(enc 65533).toArray⟩ (by omega) (by show (enc 65533).length ≤ _; omega)
        have HA' : Hid (U.data.toList ++ qin (L.drop (k + 1)) = 34 :: qin L) := Lib.hid (by rw [hU, ← hst]; simp)
        have HT' := Lib.hid (HT.out.cut 1 (by omega))
        have HU := Lib.hid hu
        have hUs' : U.size ≤ 6 * (k + 1) + 1 := by
          have : (⟨(enc 65533).toArray⟩ : ByteArray).size = (enc 65533).length := rfl
          omega
        have hR1 : 1 ≤ R.size := hRp
        clear hR0 hu hcs hst hne hz hbad hU hUs hwd hRl hkL hsz
        go_wp2_with fail
        refine (char_calls R hRp _).mono ?_
        rintro e w1 ⟨rfl, hb⟩
        rw [HU.out]
        go_wp2_with fail
        refine (refBytes_calls 65533 fffd_vr _).mono ?_
        rintro e w2 ⟨rfl, hb2⟩
        go_wp2_with fail
        go_roundw
        case rel =>
          have h1 := HT'.out.2
          have h2 := HL.out
          exact ⟨_, U, k + 1, rfl, rfl, HT', HA', hUs', by omega, (hbw.trans (hb.mono hbw.size)).trans (hb2.mono (Nat.le_trans hbw.size hb.size))⟩
        case measure => simp [strLen]; omega
      · have hzb : ((u.2 : Int) == 0) = false := by simp; omega
        have hok : okc R.data.toList = true := by
          cases h : okc R.data.toList with
          | true => rfl
          | false => exact absurd (hcs.1.2 h) hz
        have hdu : dec R.data.toList = u := by rw [← charV_ok hok, hu]
        obtain ⟨hvr, hwe, hde, hte⟩ := dec_ok hne hok
        rw [hdu] at hst hwd hvr hwe hde hte
        rw [HT.out.1, List.drop_drop] at hst
        have hup : 1 ≤ u.2 := by omega
        have HT' := Lib.hid (HT.out.cut u.2 (by omega))
        have HU := Lib.hid hu
        have huR : u.2 ≤ R.size := by omega
        by_cases h128 : u.1 < 128
        · have h128I : (u.1 : Int) < 128 := by omega
          have hql := qrune_length u.1
          obtain ⟨U, hU, hUs, hrun⟩ := concat_run A ⟨(qrune u.1).toArray⟩ (by omega) (by show (qrune u.1).length ≤ _; omega)
          have HA' : Hid (U.data.toList ++ qin (L.drop (k + u.2)) = 34 :: qin L) := Lib.hid (by rw [hU, ← hst]; simp)
          have hUs' : U.size ≤ 6 * (k + u.2) + 1 := by
            have : (⟨(qrune u.1).toArray⟩ : ByteArray).size = (qrune u.1).length := rfl
            omega
          clear hR0 hu hcs hst hne hz hok hdu hU hUs hwd hRl hkL hsz hwe hde hte
          go_wp2_with fail
          refine (char_calls R hRp _).mono ?_
          rintro e w1 ⟨rfl, hb⟩
          rw [HU.out]
          go_wp2_with fail
          refine (one_calls u.1 h128 _).mono ?_
          rintro e w2 ⟨rfl, hb2⟩
          go_wp2_with fail
          go_roundw
          case rel =>
            have h1 := HT'.out.2
            have h2 := HL.out
            exact ⟨_, U, k + u.2, rfl, rfl, HT', HA', hUs', by omega, (hbw.trans (hb.mono hbw.size)).trans (hb2.mono (Nat.le_trans hbw.size hb.size))⟩
          case measure => simp [strLen]; omega
        · have h128I : ¬ (u.1 : Int) < 128 := by omega
          have hex : (R.extract 0 u.2).data.toList = enc u.1 := by rw [Lib.extract_data]; simpa using hte
          have hexs : (R.extract 0 u.2).size = u.2 := by simp; omega
          obtain ⟨U, hU, hUs, hrun⟩ := concat_run A (R.extract 0 u.2) (by omega) (by omega)
          have HA' : Hid (U.data.toList ++ qin (L.drop (k + u.2)) = 34 :: qin L) := Lib.hid (by
            rw [hU, hex, ← hst, qrune_enc (by omega)]; simp)
          have hUs' : U.size ≤ 6 * (k + u.2) + 1 := by omega
          clear hR0 hu hcs hst hne hz hok hdu hU hUs hwd hRl hkL hsz hwe hde hte hex hexs
          go_wp2_with fail
          refine (char_calls R hRp _).mono ?_
          rintro e w1 ⟨rfl, hb⟩
          rw [HU.out]
          go_wp2_with fail
          go_roundw
          case rel =>
            have h1 := HT'.out.2
            have h2 := HL.out
            exact ⟨_, U, k + u.2, rfl, rfl, HT', HA', hUs', by omega, hbw.trans (hb.mono hbw.size)⟩
          case measure => simp [strLen]; omega
end Go.Proofs.YtndkbecdjaedaaaGreatDoor
