/- The law JsonTells: which rows are right, how they are printed, where they end, how they are sorted: as the reference says. -/
import Derived.Test.YtndkbecdjaedaaaGreatDoorJsSm
import Derived.Test.YtndkbecdjaedaaaGreatDoorJsSize
import Derived.Test.YtndkbecdjaedaaaGreatDoorJsVs
import Derived.Test.YtndkbecdjaedaaaGreatDoorJsRprint
import Derived.Test.YtndkbecdjaedaaaGreatDoorJsRsort
namespace Go.Proofs.YtndkbecdjaedaaaGreatDoor
open Go.RowKit

/-- What a printed row's bytes are, right or not. -/
def prT (l : List V) : List UInt8 := if jright l = true then jprint l else []

set_option maxHeartbeats 16000000 in
set_option maxRecDepth 1000000 in
theorem jtells_calls (va : Value) (l : List V) (z : Int) (h0 : -9223372036854775808 ≤ z) (h1 : z ≤ 9223372036854775807) (w : World) (ha : Vs w va l) (hca : Capd va) (hE : Env w) (hW : Words w) (hs : Short l) (hcn : ∀ x ∈ l, x.count ≤ 9223372036854775807) (hl : l.length ≤ 4611686018427387904) :
    Calls Tryz.prog 9 #[va, .int .i64 z] w fun e w' => e = .returned (.bool true) ∧ Below w.heap.size w w' := by
  obtain ⟨aa, ca, hva⟩ := ha.len
  have HA := Lib.hid ha
  have HCA := Lib.hid hca
  have HE := Lib.hid hE
  have HW := Lib.hid hW
  have HS := Lib.hid hs
  have HCN := Lib.hid hcn
  clear ha hca hE hW hs hcn
  subst hva
  obtain ⟨FW, hfw⟩ : ∃ FW, fewV l = FW := ⟨_, rfl⟩
  have HFW := Lib.hid hfw
  clear hfw
  cases FW with
  | false =>
    go_enter Tryz.func9, Tryz.ntmps9
    go_wp2_with fail
    refine (sml_calls _ HE.out HW.out).mono ?_
    rintro e1 w1 ⟨rfl, hb1⟩
    have HB1 := Lib.hid hb1
    clear hb1
    go_wp2_with fail
    refine (few_calls _ l _ (HA.out.kept HB1.out) HS.out hl).mono ?_
    rintro e2 w2 ⟨rfl, hb2⟩
    rw [HFW.out]
    have HB2 := Lib.hid (HB1.out.trans (hb2.mono HB1.out.size))
    clear hb2
    go_wp2_with fail
    go_ret
    exact ⟨rfl, HB2.out⟩
  | true =>
    obtain ⟨hfits, hl80, hwe⟩ := fits_few HFW.out HCN.out
    have HFT := Lib.hid hfits
    have hpr : (jright l = true → (jprint l).length ≤ 20000) := fun h => by have := print_size h; omega
    have hco : cost l ≤ 1000000000 := by rw [cost_eq]; omega
    have HPR := Lib.hid hpr
    have HCO := Lib.hid hco
    obtain ⟨JR, hJR⟩ : ∃ JR, jright l = JR := ⟨_, rfl⟩
    have HJR := Lib.hid hJR
    obtain ⟨JE, hJE⟩ : ∃ JE, jend l z = JE := ⟨_, rfl⟩
    have HJE := Lib.hid hJE
    clear hfits hpr hwe hco hJR hJE
    go_enter Tryz.func9, Tryz.ntmps9
    go_wp2_with fail
    refine (sml_calls _ HE.out HW.out).mono ?_
    rintro e1 w1 ⟨rfl, hb1⟩
    have HB1 := Lib.hid hb1
    clear hb1
    go_wp2_with fail
    refine (few_calls _ l _ (HA.out.kept HB1.out) HS.out hl).mono ?_
    rintro e2 w2 ⟨rfl, hb2⟩
    rw [HFW.out]
    have HB2 := Lib.hid (HB1.out.trans (hb2.mono HB1.out.size))
    clear hb2
    go_wp2_with fail
    refine (print_calls _ l _ (HA.out.kept HB2.out) HCA.out (HE.out.below HB2.out) (HE.out.below HB2.out).u8 (words_below HW.out HB2.out) HFT.out (by omega) (fun h => by have := HPR.out h; omega)).mono ?_
    rintro e3 w3 ⟨hP, hb3⟩
    have HB3 := Lib.hid (HB2.out.trans (hb3.mono HB2.out.size))
    clear hb3
    have hP2 : ∃ vp, e3 = .returned (.tuple #[vp, .bool JR]) ∧ Bs w3 vp (prT l) := by
      unfold prT
      rcases hP with ⟨h, rfl⟩ | ⟨h, vp, rfl, hbs, _⟩
      · rw [← HJR.out, h]
        exact ⟨_, rfl, by rw [if_neg (by decide)]; exact .inl ⟨rfl, _, rfl⟩⟩
      · rw [← HJR.out, h]
        exact ⟨_, rfl, by rw [if_pos rfl]; exact hbs⟩
    obtain ⟨vp, rfl, hbs3⟩ := hP2
    have HX3 := Lib.hid hbs3
    clear hP hbs3
    go_wp2_with fail
    refine (rPrint_calls _ l _ (HA.out.kept HB3.out) HFT.out (by omega) (fun _ => HCO.out)).mono ?_
    rintro e4 w4 ⟨⟨vq, rfl, hQ⟩, hb4⟩
    have hQ2 : Bs w4 vq (prT l) := by
      unfold prT
      rcases hQ with ⟨h, rfl⟩ | ⟨h, hbs⟩
      · rw [if_neg (by rw [h]; decide)]; exact .inl ⟨rfl, _, rfl⟩
      · rw [if_pos h]; exact hbs
    rw [HJR.out]
    have HX4 := Lib.hid (HX3.out.kept hb4)
    have HY4 := Lib.hid hQ2
    have HB4 := Lib.hid (HB3.out.trans (hb4.mono HB3.out.size))
    clear hb4 hQ hQ2 HX3
    obtain ⟨T, hT⟩ : ∃ T, prT l = T := ⟨_, rfl⟩
    rw [hT] at HX4 HY4
    clear hT
    go_wp2_with fail
    refine (right_calls _ l _ (HA.out.kept HB4.out) (HE.out.below HB4.out).u8 HFT.out (by omega)).mono ?_
    rintro e5 w5 ⟨rfl, hb5⟩
    rw [HJR.out]
    have HX5 := Lib.hid (HX4.out.kept hb5)
    have HY5 := Lib.hid (HY4.out.kept hb5)
    have HB5 := Lib.hid (HB4.out.trans (hb5.mono HB4.out.size))
    clear hb5
    go_wp2_with fail
    refine (rRight_calls _ l _ (HA.out.kept HB5.out) HFT.out (by omega)).mono ?_
    rintro e6 w6 ⟨rfl, hb6⟩
    rw [HJR.out]
    have HX6 := Lib.hid (HX5.out.kept hb6)
    have HY6 := Lib.hid (HY5.out.kept hb6)
    have HB6 := Lib.hid (HB5.out.trans (hb6.mono HB5.out.size))
    obtain ⟨ax, cx, rfl⟩ := HX6.out.len
    obtain ⟨ay, cy, rfl⟩ := HY6.out.len
    have tx := HX6.out.text
    have ty := HY6.out.text
    clear hb6
    go_wp2_with fail
    refine (end_calls _ l z _ (HA.out.kept HB6.out) h0 h1 (by omega)).mono ?_
    rintro e7 w7 ⟨rfl, rfl⟩
    rw [HJE.out]
    go_wp2_with fail
    refine (rend_calls _ l z _ (HA.out.kept HB6.out) h0 h1 (by omega)).mono ?_
    rintro e8 w8 ⟨rfl, rfl⟩
    rw [HJE.out]
    go_wp2_with fail
    refine (sort_calls _ l _ (HA.out.kept HB6.out) HCA.out (HE.out.below HB6.out).u8 HFT.out (by omega)).mono ?_
    rintro e9 w9 ⟨hP, hb9⟩
    have HB9 := Lib.hid (HB6.out.trans (hb9.mono HB6.out.size))
    clear hb9 tx ty
    obtain ⟨SS, hSS⟩ : ∃ SS, (if jright l = true then jsort l else []) = SS := ⟨_, rfl⟩
    have hs9 : ∃ vs, e9 = .returned vs ∧ Vs w9 vs SS ∧ SS.length ≤ 80 := by
      rw [← hSS]
      rcases hP with ⟨h, rfl⟩ | ⟨h, _, vo, rfl, hown⟩
      · rw [if_neg (by rw [h]; decide)]; exact ⟨_, rfl, .inl ⟨rfl, _, _, rfl⟩, by simp⟩
      · rw [if_pos h]
        refine ⟨_, rfl, vs_of_own hown, ?_⟩
        rw [(sort_law h).2.1]; exact hl80
    obtain ⟨vs, rfl, hvs, hss80⟩ := hs9
    have HV9 := Lib.hid hvs
    have HSS := Lib.hid hSS
    clear hP hvs hSS
    go_wp2_with fail
    refine (rSort_calls _ l _ (HA.out.kept HB9.out) HFT.out (by omega)).mono ?_
    rintro e10 w10 ⟨hP, hb10⟩
    have HB10 := Lib.hid (HB9.out.trans (hb10.mono HB9.out.size))
    have HV10 := Lib.hid (HV9.out.kept hb10)
    have hs10 : ∃ vt, e10 = .returned vt ∧ Vs w10 vt SS := by
      rw [← HSS.out]
      rcases hP with ⟨h, rfl⟩ | ⟨h, vo, rfl, hown⟩
      · rw [if_neg (by rw [h]; decide)]; exact ⟨_, rfl, .inl ⟨rfl, _, _, rfl⟩⟩
      · rw [if_pos h]
        exact ⟨_, rfl, vs_of_own hown⟩
    obtain ⟨vt, rfl, hvt⟩ := hs10
    have HT10 := Lib.hid hvt
    clear hb10 hP hvt
    go_wp2_with fail
    refine (same_calls _ _ SS SS _ HV10.out HT10.out (by omega)).mono ?_
    rintro e11 w11 ⟨rfl, hb11⟩
    rw [sameV_refl]
    have HB11 := Lib.hid (HB10.out.trans (hb11.mono HB10.out.size))
    clear hb11
    go_wp2_with fail
    go_ret
    exact ⟨by simp, HB11.out⟩
end Go.Proofs.YtndkbecdjaedaaaGreatDoor
