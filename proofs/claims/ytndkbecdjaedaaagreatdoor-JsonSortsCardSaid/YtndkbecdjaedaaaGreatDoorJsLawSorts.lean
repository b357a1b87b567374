/- The law JsonSorts: what is sorted is right, and so, done again; its objects' names rise. -/
import Derived.Test.YtndkbecdjaedaaaGreatDoorJsSm
import Derived.Test.YtndkbecdjaedaaaGreatDoorJsSize
import Derived.Test.YtndkbecdjaedaaaGreatDoorJsVs
import Derived.Test.YtndkbecdjaedaaaGreatDoorJsPlain2
import Derived.BigQuiet
import Derived.Laws.Cover1
import Derived.Deep.QuietTactic
namespace Go.Proofs.YtndkbecdjaedaaaGreatDoor
open Go.RowKit

theorem less_eq : ∀ (x y : List UInt8), Op.bytesLess x y = decide (x < y)
  | [], [] => by simp [Op.bytesLess]
  | [], _ :: _ => by simp [Op.bytesLess]
  | _ :: _, [] => by simp [Op.bytesLess]
  | a :: x, b :: y => by
    simp only [Op.bytesLess, less_eq x y]
    rw [Bool.eq_iff_iff]
    simp only [Bool.or_eq_true, Bool.and_eq_true, decide_eq_true_eq, beq_iff_eq]
    rw [List.cons_lt_cons_iff]
theorem less_run {a b : List UInt8} (h : a < b) : Op.bytesLess (⟨a.toArray⟩ : ByteArray).toList (⟨b.toArray⟩ : ByteArray).toList = true := by
  rw [ByteArray.toList_eq, ByteArray.toList_eq, less_eq]
  simpa using h

set_option maxHeartbeats 16000000 in
set_option maxRecDepth 1000000 in
theorem jsorts_calls (va : Value) (l : List V) (w : World) (ha : Vs w va l) (hca : Capd va) (hE : Env w) (hW : Words w) (hs : Short l) (hcn : ∀ x ∈ l, x.count ≤ 9223372036854775807) (hl : l.length ≤ 4611686018427387904) :
    Calls Tryz.prog 11 #[va] w fun e w' => e = .returned (.bool true) ∧ Below w.heap.size w w' := by
  obtain ⟨aa, ca, hva⟩ := ha.len
  have HA := Lib.hid ha
  have HCA := Lib.hid hca
  have HE := Lib.hid hE
  have HW := Lib.hid hW
  have HS := Lib.hid hs
  have HCN := Lib.hid hcn
  clear ha hca hE hW hs hcn
  subst hva
  obtain ⟨FW, hfw⟩ : ∃ FW, fewV l = FW := ⟨_, rfl⟩
  have HFW := Lib.hid hfw
  clear hfw
  cases FW with
  | false =>
    go_enter Tryz.func11, Tryz.ntmps11
    go_wp2_with fail
    refine (sml_calls _ HE.out HW.out).mono ?_
    rintro e1 w1 ⟨rfl, hb1⟩
    have HB1 := Lib.hid hb1
    clear hb1
    go_wp2_with fail
    refine (few_calls _ l _ (HA.out.kept HB1.out) HS.out hl).mono ?_
    rintro e2 w2 ⟨rfl, hb2⟩
    rw [HFW.out]
    have HB2 := Lib.hid (HB1.out.trans (hb2.mono HB1.out.size))
    clear hb2
    go_wp2_with fail
    go_ret
    exact ⟨rfl, HB2.out⟩
  | true =>
    obtain ⟨hfits, hl80, hwe⟩ := fits_few HFW.out HCN.out
    have HFT := Lib.hid hfits
    clear hfits hwe
    obtain ⟨JR, hJR⟩ : ∃ JR, jright l = JR := ⟨_, rfl⟩
    have HJR := Lib.hid hJR
    clear hJR
    go_enter Tryz.func11, Tryz.ntmps11
    go_wp2_with fail
    refine (sml_calls _ HE.out HW.out).mono ?_
    rintro e1 w1 ⟨rfl, hb1⟩
    have HB1 := Lib.hid hb1
    clear hb1
    go_wp2_with fail
    refine (few_calls _ l _ (HA.out.kept HB1.out) HS.out hl).mono ?_
    rintro e2 w2 ⟨rfl, hb2⟩
    rw [HFW.out]
    have HB2 := Lib.hid (HB1.out.trans (hb2.mono HB1.out.size))
    clear hb2
    cases JR with
    | false =>
      go_wp2_with fail
      refine (sort_calls _ l _ (HA.out.kept HB2.out) HCA.out (HE.out.below HB2.out).u8 HFT.out (by omega)).mono ?_
      rintro e3 w3 ⟨hP, hb3⟩
      have HB3 := Lib.hid (HB2.out.trans (hb3.mono HB2.out.size))
      clear hb3
      have he3 : e3 = .returned (.slice none 0 0) := by
        rcases hP with ⟨_, h⟩ | ⟨h, _⟩
        · exact h
        · rw [HJR.out] at h; cases h
      subst he3
      clear hP
      go_wp2_with fail
      refine (right_calls _ l _ (HA.out.kept HB3.out) (HE.out.below HB3.out).u8 HFT.out (by omega)).mono ?_
      rintro e4 w4 ⟨rfl, hb4⟩
      rw [HJR.out]
      have HB4 := Lib.hid (HB3.out.trans (hb4.mono HB3.out.size))
      clear hb4
      go_wp2_with fail
      go_ret
      exact ⟨rfl, HB4.out⟩
    | true =>
      obtain ⟨hsr, hsl, hss, hsu⟩ := sort_law HJR.out
      obtain ⟨s, hsd⟩ : ∃ s, jsort l = s := ⟨_, rfl⟩
      rw [hsd] at hsr hsl hss hsu
      have hfs := fits_sort HFT.out
      rw [hsd] at hfs
      have HSD := Lib.hid hsd
      have HSR := Lib.hid hsr
      have HSL := Lib.hid hsl
      have HSS := Lib.hid hss
      have HSU := Lib.hid hsu
      have HFS := Lib.hid hfs
      have hs80 : s.length ≤ 80 := by omega
      clear hsd hsr hss hsu hfs hsl
      go_wp2_with fail
      refine (sort_ok HJR.out HSD.out ⟨HA.out.kept HB2.out, HCA.out⟩ (HE.out.below HB2.out).u8 HFT.out (by omega)).mono ?_
      rintro e3 w3 ⟨⟨vo, rfl, hsne, hown⟩, hb3⟩
      have hsp : 0 < s.length := List.length_pos_iff.2 hsne
      obtain ⟨gs, cs, rfl, _, _⟩ := hown.form hsp
      have HV3 := Lib.hid (rv_of_own hown)
      have HCS : Hid (Capd (.slice (some ⟨gs, 0, none⟩) s.length cs)) := Lib.hid HV3.out.2
      have HVS : Hid (Vs w3 (.slice (some ⟨gs, 0, none⟩) s.length cs) s) := Lib.hid HV3.out.1
      have HB3 := Lib.hid (HB2.out.trans (hb3.mono HB2.out.size))
      clear hb3 hown hsne HV3
      go_wp2_with fail
      refine (right_calls _ l _ (HA.out.kept HB3.out) (HE.out.below HB3.out).u8 HFT.out (by omega)).mono ?_
      rintro e4 w4 ⟨rfl, hb4⟩
      rw [HJR.out]
      have HV4 := Lib.hid (HVS.out.kept hb4)
      have HB4 := Lib.hid (HB3.out.trans (hb4.mono HB3.out.size))
      clear hb4 HVS
      go_wp2_with fail
      go_loopw [6] (fun vi wr => ∃ i : Nat, vi = .int .i64 (i : Int) ∧ i ≤ s.length ∧ Hid (Vs wr (.slice (some ⟨gs, 0, none⟩) s.length cs) s) ∧ Hid (Below w.heap.size w wr)) (fun vi _ => s.length - (intOf vi).toNat)
      case atStart => exact ⟨0, rfl, Nat.zero_le _, HV4, HB4⟩
      case round =>
        obtain ⟨i, rfl, hi, HV, HB⟩ := hrel
        by_cases hil : i < s.length
        · rcases HV.out with ⟨rfl, _⟩ | ⟨bs, os, cp, hvs, hlt, hcells⟩
          · simp at hil
          simp only [Value.slice.injEq, Option.some.injEq, Addr.mk.injEq] at hvs
          obtain ⟨⟨rfl, rfl, _⟩, _, rfl⟩ := hvs
          obtain ⟨p0, p1, p2, p3⟩ := load4 (hcells i hil)
          simp only [Nat.zero_add] at p0 p3
          obtain ⟨pl, hpl0, hpl⟩ := up_places HSU.out hil
          obtain ⟨kd, hkd⟩ : ∃ kd, s[i].kind = kd := ⟨_, rfl⟩
          obtain ⟨cn, hcnt⟩ : ∃ cn, s[i].count = cn := ⟨_, rfl⟩
          rw [hkd] at p0 hpl
          rw [hcnt] at p3 hpl
          have HPL := Lib.hid hpl
          have HCN2 : Hid (s[i].count = cn) := Lib.hid hcnt
          have hix0 : (0 : Int) ≤ (i : Int) := by omega
          have hix1 : (i : Int) < (s.length : Int) := by omega
          clear hpl hcells hkd hcnt p1 p2
          by_cases hk6 : kd = 6
          · subst hk6
            go_wp2_with fail
            go_loopw [7, 8] (fun vk vn wx => ∃ n : Nat, vn = .int .i64 ((n : Int) + 1) ∧ vk = .int .i64 (pl n : Int) ∧ n ≤ s.length ∧ n + 1 ≤ pl n ∧ Hid (Vs wx (.slice (some ⟨gs, 0, none⟩) s.length cs) s) ∧ Hid (Below w.heap.size w wx)) (fun _ vn _ => (cn - intOf vn).toNat)
            case atStart => exact ⟨0, rfl, by rw [hpl0]; go_num, Nat.zero_le _, by rw [hpl0]; omega, HV, HB⟩
            case round =>
              obtain ⟨n, rfl, rfl, hn, hnp, HVx, HBx⟩ := hrel
              rcases HVx.out with ⟨rfl, _⟩ | ⟨bs, os, cp, hvs, hltx, hcellsx⟩
              · simp at hil
              simp only [Value.slice.injEq, Option.some.injEq, Addr.mk.injEq] at hvs
              obtain ⟨⟨rfl, rfl, _⟩, _, rfl⟩ := hvs
              obtain ⟨_, _, _, q3⟩ := load4 (hcellsx i hil)
              rw [show s[i].count = cn from HCN2.out] at q3
              simp only [Nat.zero_add] at q3
              obtain ⟨k0, hk0⟩ : ∃ k0, pl n = k0 := ⟨_, rfl⟩
              rw [hk0]
              rw [hk0] at hnp
              have hnn : (0 : Int) ≤ (n : Int) := by omega
              by_cases hnc : (n : Int) + 1 < cn
              · obtain ⟨hje, hlt01, hlt1, hkeys⟩ := HPL.out n hnc
                obtain ⟨k1, hk1⟩ : ∃ k1, pl (n + 1) = k1 := ⟨_, rfl⟩
                have HK1 := Lib.hid hk1
                simp only [hk0, hk1] at hje hlt01 hlt1 hkeys
                have hlt0 : k0 < s.length := by omega
                have hkey := hkeys (by trivial) hlt0 hlt1
                have hless := less_run hkey
                have hless2 : Op.bytesLess s[k0].key s[k1].key = true := by rw [less_eq]; exact decide_eq_true hkey
                obtain ⟨_, a1, _, _⟩ := load4 (hcellsx k0 hlt0)
                obtain ⟨_, b1, _, _⟩ := load4 (hcellsx k1 hlt1)
                obtain ⟨ka, hka⟩ : ∃ ka, s[k0].key = ka := ⟨_, rfl⟩
                obtain ⟨kb, hkb⟩ : ∃ kb, s[k1].key = kb := ⟨_, rfl⟩
                simp only [Nat.zero_add] at a1 b1
                rw [hka] at a1 hless hless2
                rw [hkb] at b1 hless hless2
                have HJE := Lib.hid hje
                have hi0 : (0 : Int) ≤ (k0 : Int) := by omega
                have hi1 : (k0 : Int) < (s.length : Int) := by omega
                have hi2 : (0 : Int) ≤ (k1 : Int) := by omega
                have hi3 : (k1 : Int) < (s.length : Int) := by omega
                have hi4 : decide ((k1 : Int) ≤ (k0 : Int)) = false := decide_eq_false (by omega)
                have hi5 : decide ((s.length : Int) ≤ (k1 : Int)) = false := decide_eq_false (by omega)
                clear hk0 hk1 hka hkb hkey hkeys hje hcellsx hltx
                go_wp2_with fail
                refine (end_calls _ s (k0 : Int) _ HVx.out (by omega) (by omega) (by omega)).mono ?_
                rintro e5 w5 ⟨rfl, rfl⟩
                rw [HJE.out]
                go_wp2_with fail
                go_quiet (fail)
                have HVq : Hid (Vs (w5.drewN nq) (.slice (some ⟨gs, 0, none⟩) s.length cs) s) := HVx
                have HBq := Lib.hid (below_drewN HBx.out nq)
                clear q3 a1 b1 hless hless2
                generalize w5.drewN nq = wq at *
                go_wp2_with fail
                go_roundw
                case rel => exact ⟨n + 1, by go_num, by rw [HK1.out], by omega, by rw [HK1.out]; omega, HVq, HBq⟩
                case measure => simp [intOf]; omega
              · clear hcellsx hltx
                go_wp2_with fail
                go_roundw
                case rel => exact ⟨i + 1, by go_num, by omega, HVx, HBx⟩
                case measure => simp [intOf]; omega
          · have hne : (kd != 6) = true := by simp [hk6]
            go_wp2_with fail
            go_roundw
            case rel => exact ⟨i + 1, by go_num, by omega, HV, HB⟩
            case measure => simp [intOf]; omega
        · have hie : i = s.length := by omega
          subst hie
          go_wp2_with fail
          refine (right_calls _ s _ HV.out (HE.out.below HB.out).u8 HFS.out (by omega)).mono ?_
          rintro e5 w5 ⟨rfl, hb5⟩
          rw [HSR.out]
          have HV5 := Lib.hid (HV.out.kept hb5)
          have HB5 := Lib.hid (HB.out.trans (hb5.mono HB.out.size))
          have hsl2 : ((s.length : Int) == (l.length : Int)) = true := by have := HSL.out; simp; omega
          clear hb5
          go_wp2_with fail
          refine (sort_ok HSR.out HSS.out ⟨HV5.out, HCS.out⟩ (HE.out.below HB5.out).u8 HFS.out (by omega)).mono ?_
          rintro e6 w6 ⟨⟨vz, rfl, _, hown⟩, hb6⟩
          have HZ6 := Lib.hid (vs_of_own hown)
          have HV6 := Lib.hid (HV5.out.kept hb6)
          have HB6 := Lib.hid (HB5.out.trans (hb6.mono HB5.out.size))
          clear hown hb6
          obtain ⟨az, cz, rfl⟩ := HZ6.out.len
          go_wp2_with fail
          refine (same_calls _ _ s s _ HZ6.out HV6.out (by omega)).mono ?_
          rintro e7 w7 ⟨rfl, hb7⟩
          rw [sameV_refl]
          have HB7 := Lib.hid (HB6.out.trans (hb7.mono HB6.out.size))
          clear hb7
          go_wp2_with fail
          go_ret
          exact ⟨rfl, HB7.out⟩
end Go.Proofs.YtndkbecdjaedaaaGreatDoor
