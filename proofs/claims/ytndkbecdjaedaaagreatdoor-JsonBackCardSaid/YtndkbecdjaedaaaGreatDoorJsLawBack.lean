/- The law JsonBack: what is printed is parsed as it was, what is parsed is right. -/
import Derived.Test.YtndkbecdjaedaaaGreatDoorJsSm
import Derived.Test.YtndkbecdjaedaaaGreatDoorJsSize
import Derived.Test.YtndkbecdjaedaaaGreatDoorJsVs
namespace Go.Proofs.YtndkbecdjaedaaaGreatDoor
open Go.RowKit

theorem jparse_err {b : List UInt8} {c : Int} (h : jparse b = .error c) : c ≠ 0 := by
  unfold jparse at h
  cases hp : pval (2 * b.length + 2) b 0 [] 0 with
  | error e => rw [hp] at h; cases h; exact pval_err _ _ _ _ _ _ hp
  | ok p =>
    obtain ⟨vs, r⟩ := p
    rw [hp] at h
    simp only [] at h
    split at h
    · cases h
    · cases h; decide

theorem parse_okB {v : Value} {l : List UInt8} {r : List V} {w : World} (hj : jparse l = .ok r) (h : Bt w v l) (hE : Env w) (hW : Words w) (hl : l.length ≤ 1099511627775) :
    Calls Tryz.prog 28 #[v] w fun e w' => (∃ vo, e = .returned (.tuple #[vo, .int .i64 0]) ∧ w'.ownsRow w.heap.size 56 4 vo r.length (vcells r)) ∧ Below w.heap.size w w' := by
  have := parse_any v l w h hE hW hl
  rw [hj] at this
  exact this
theorem parse_noB {v : Value} {l : List UInt8} {c : Int} {w : World} (hj : jparse l = .error c) (h : Bt w v l) (hE : Env w) (hW : Words w) (hl : l.length ≤ 1099511627775) :
    Calls Tryz.prog 28 #[v] w fun e w' => e = .returned (.tuple #[.slice none 0 0, .int .i64 c]) ∧ Below w.heap.size w w' := by
  have := parse_any v l w h hE hW hl
  rw [hj] at this
  exact this
set_option maxHeartbeats 16000000 in
set_option maxRecDepth 1000000 in
theorem jback_calls (va vb : Value) (l : List V) (b : List UInt8) (w : World) (ha : Vs w va l) (hca : Capd va) (hb : Bt w vb b) (hE : Env w) (hW : Words w) (hs : Short l) (hcn : ∀ x ∈ l, x.count ≤ 9223372036854775807) (hl : l.length ≤ 4611686018427387904) :
    Calls Tryz.prog 10 #[va, vb] w fun e w' => e = .returned (.bool true) ∧ Below w.heap.size w w' := by
  obtain ⟨aa, ca, hva⟩ := ha.len
  obtain ⟨ab, cb, hvb⟩ := hb.len
  have HA := Lib.hid ha
  have HCA := Lib.hid hca
  have HBB := Lib.hid hb
  have HE := Lib.hid hE
  have HW := Lib.hid hW
  have HS := Lib.hid hs
  have HCN := Lib.hid hcn
  clear ha hca hb hE hW hs hcn
  subst hva hvb
  obtain ⟨FW, hfw⟩ : ∃ FW, fewV l = FW := ⟨_, rfl⟩
  have HFW := Lib.hid hfw
  clear hfw
  cases FW with
  | false =>
    go_enter Tryz.func10, Tryz.ntmps10
    go_wp2_with fail
    refine (sml_calls _ HE.out HW.out).mono ?_
    rintro e1 w1 ⟨rfl, hb1⟩
    have HB1 := Lib.hid hb1
    clear hb1
    go_wp2_with fail
    refine (few_calls _ l _ (HA.out.kept HB1.out) HS.out hl).mono ?_
    rintro e2 w2 ⟨rfl, hb2⟩
    rw [HFW.out]
    have HB2 := Lib.hid (HB1.out.trans (hb2.mono HB1.out.size))
    clear hb2
    go_wp2_with fail
    go_ret
    exact ⟨rfl, HB2.out⟩
  | true =>
    obtain ⟨hfits, hl80, hwe⟩ := fits_few HFW.out HCN.out
    have HFT := Lib.hid hfits
    have hpr : (jright l = true → (jprint l).length ≤ 20000) := fun h => by have := print_size h; omega
    have HPR := Lib.hid hpr
    clear hfits hpr hwe
    by_cases hbl : 2000 < b.length
    · have hbl' : (2000 : Int) < (b.length : Int) := by omega
      go_enter Tryz.func10, Tryz.ntmps10
      go_wp2_with fail
      refine (sml_calls _ HE.out HW.out).mono ?_
      rintro e1 w1 ⟨rfl, hb1⟩
      have HB1 := Lib.hid hb1
      clear hb1
      go_wp2_with fail
      refine (few_calls _ l _ (HA.out.kept HB1.out) HS.out hl).mono ?_
      rintro e2 w2 ⟨rfl, hb2⟩
      rw [HFW.out]
      have HB2 := Lib.hid (HB1.out.trans (hb2.mono HB1.out.size))
      clear hb2
      go_wp2_with fail
      go_ret
      exact ⟨rfl, HB2.out⟩
    · have hbl' : ¬ (2000 : Int) < (b.length : Int) := by omega
      go_enter Tryz.func10, Tryz.ntmps10
      go_wp2_with fail
      refine (sml_calls _ HE.out HW.out).mono ?_
      rintro e1 w1 ⟨rfl, hb1⟩
      have HB1 := Lib.hid hb1
      clear hb1
      go_wp2_with fail
      refine (few_calls _ l _ (HA.out.kept HB1.out) HS.out hl).mono ?_
      rintro e2 w2 ⟨rfl, hb2⟩
      rw [HFW.out]
      have HB2 := Lib.hid (HB1.out.trans (hb2.mono HB1.out.size))
      clear hb2
      go_wp2_with fail
      refine (print_calls _ l _ (HA.out.kept HB2.out) HCA.out (HE.out.below HB2.out) (HE.out.below HB2.out).u8 (words_below HW.out HB2.out) HFT.out (by omega) (fun h => by have := HPR.out h; omega)).mono ?_
      rintro e3 w3 ⟨hP, hb3⟩
      have HB3 := Lib.hid (HB2.out.trans (hb3.mono HB2.out.size))
      clear hb3
      obtain ⟨JR, hJR⟩ : ∃ JR, jright l = JR := ⟨_, rfl⟩
      rw [hJR] at hP
      have HJR := Lib.hid hJR
      have hP2 : ∃ vp, e3 = .returned (.tuple #[vp, .bool JR]) ∧ (JR = true → Bs w3 vp (jprint l)) := by
        rcases hP with ⟨rfl, rfl⟩ | ⟨rfl, vp, rfl, hbs, _⟩
        · exact ⟨_, rfl, fun h => by cases h⟩
        · exact ⟨_, rfl, fun _ => hbs⟩
      obtain ⟨vp, rfl, hbs⟩ := hP2
      have HBS := Lib.hid hbs
      clear hP hJR hbs
      go_upto_if 33 with fail
      go_cut [] (fun wx => Hid (Below w.heap.size w wx))
      case first =>
        cases JR with
        | false =>
          go_wp2_with fail
          go_meet
          exact HB3
        | true =>
          have hpp := parse_print HJR.out
          have HPP := Lib.hid hpp
          have hjl : (jprint l).length ≤ 1099511627775 := by have := HPR.out HJR.out; omega
          have HJL := Lib.hid hjl
          clear hpp hjl
          go_wp2_with fail
          refine (parse_ok HPP.out (HBS.out (by trivial)) (HE.out.below HB3.out) (words_below HW.out HB3.out) HJL.out).mono ?_
          rintro e4 w4 ⟨⟨vo, rfl, hown⟩, hb4⟩
          have HV4 := Lib.hid (vs_of_own hown)
          have HB4 := Lib.hid (HB3.out.trans (hb4.mono HB3.out.size))
          clear hown hb4
          obtain ⟨ao, co, rfl⟩ := HV4.out.len
          go_wp2_with fail
          refine (same_calls _ _ l l _ HV4.out (HA.out.kept HB4.out) (by omega)).mono ?_
          rintro e5 w5 ⟨rfl, hb5⟩
          rw [sameV_refl]
          have HB5 := Lib.hid (HB4.out.trans (hb5.mono HB4.out.size))
          clear hb5
          go_wp2_with fail
          go_meet
          exact HB5
      case rest =>
        have HBC := hcut
        clear HB3 HBS
        cases hj : jparse b with
        | error c =>
          have HJ := Lib.hid hj
          have hc0 := jparse_err hj
          clear hj
          go_wp2_with fail
          refine (parse_noB HJ.out (HBB.out.kept HBC.out) (HE.out.below HBC.out) (words_below HW.out HBC.out) (by omega)).mono ?_
          rintro e4 w4 ⟨rfl, hb4⟩
          have HB4 := Lib.hid (HBC.out.trans (hb4.mono HBC.out.size))
          clear hb4
          go_wp2_with fail
          refine (right_calls _ l _ (HA.out.kept HB4.out) (HE.out.below HB4.out).u8 HFT.out (by omega)).mono ?_
          rintro e5 w5 ⟨rfl, hb5⟩
          rw [HJR.out]
          have HB5 := Lib.hid (HB4.out.trans (hb5.mono HB4.out.size))
          clear hb5
          go_wp2_with fail
          go_ret
          exact ⟨by simp, HB5.out⟩
        | ok y =>
          have HJ := Lib.hid hj
          obtain ⟨hfy, hy5, hyw, hyp⟩ := fits_parse hj (by omega)
          have HFY := Lib.hid hfy
          have HRY := Lib.hid (parse_right hj)
          have HPY := Lib.hid (parse_print (parse_right hj))
          have HEY := Lib.hid (end_right (parse_right hj))
          have HYP := Lib.hid hyp
          clear hj hfy hyw hyp
          go_wp2_with fail
          refine (parse_okB HJ.out (HBB.out.kept HBC.out) (HE.out.below HBC.out) (words_below HW.out HBC.out) (by omega)).mono ?_
          rintro e4 w4 ⟨⟨vy, rfl, hown⟩, hb4⟩
          have HV4 := Lib.hid (rv_of_own hown)
          have HB4 := Lib.hid (HBC.out.trans (hb4.mono HBC.out.size))
          clear hown hb4
          obtain ⟨ay, cy, rfl⟩ := HV4.out.1.len
          go_wp2_with fail
          refine (print_ok HRY.out rfl HV4.out (HE.out.below HB4.out) (words_below HW.out HB4.out) HFY.out (by omega) (by have := HYP.out; omega)).mono ?_
          rintro e5 w5 ⟨⟨vq, rfl, hbs5, _⟩, hb5⟩
          have HQ5 := Lib.hid hbs5
          have HV5 := Lib.hid (HV4.out.1.kept hb5)
          have HB5 := Lib.hid (HB4.out.trans (hb5.mono HB4.out.size))
          clear hbs5 hb5
          go_wp2_with fail
          refine (parse_ok HPY.out HQ5.out (HE.out.below HB5.out) (words_below HW.out HB5.out) (by have := HYP.out; omega)).mono ?_
          rintro e6 w6 ⟨⟨vz, rfl, hown⟩, hb6⟩
          have HZ6 := Lib.hid (vs_of_own hown)
          have HV6 := Lib.hid (HV5.out.kept hb6)
          have HB6 := Lib.hid (HB5.out.trans (hb6.mono HB5.out.size))
          clear hown hb6
          obtain ⟨az, cz, rfl⟩ := HZ6.out.len
          go_wp2_with fail
          refine (right_calls _ y _ HV6.out (HE.out.below HB6.out).u8 HFY.out (by omega)).mono ?_
          rintro e7 w7 ⟨rfl, hb7⟩
          rw [HRY.out]
          have HZ7 := Lib.hid (HZ6.out.kept hb7)
          have HV7 := Lib.hid (HV6.out.kept hb7)
          have HB7 := Lib.hid (HB6.out.trans (hb7.mono HB6.out.size))
          clear hb7
          go_wp2_with fail
          refine (same_calls _ _ y y _ HV7.out HZ7.out (by omega)).mono ?_
          rintro e8 w8 ⟨rfl, hb8⟩
          rw [sameV_refl]
          have HV8 := Lib.hid (HV7.out.kept hb8)
          have HB8 := Lib.hid (HB7.out.trans (hb8.mono HB7.out.size))
          clear hb8
          go_wp2_with fail
          refine (end_calls _ y 0 _ HV8.out (by omega) (by omega) (by omega)).mono ?_
          rintro e9 w9 ⟨rfl, rfl⟩
          rw [HEY.out]
          go_wp2_with fail
          go_ret
          exact ⟨by simp, HB8.out⟩
end Go.Proofs.YtndkbecdjaedaaaGreatDoor
