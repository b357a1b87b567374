/- The reference's own: is a value right by itself? (Printed by genrown.py.) -/
import Derived.Test.YtndkbecdjaedaaaGreatDoorJsOwn
import Derived.Test.YtndkbecdjaedaaaGreatDoorJsRnum
import Derived.BigQuiet
import Derived.Deep.QuietTactic
namespace Go.Proofs.YtndkbecdjaedaaaGreatDoor
open Go.RowKit

theorem rown_emp (t : UInt8) (l : List UInt8) : ((⟨(t :: l).toArray⟩ : ByteArray).toList.isEmpty) = false := by rw [Lib.toList_data]; rfl
theorem rown_nil : ((⟨([] : List UInt8).toArray⟩ : ByteArray).toList.isEmpty) = true := by rw [Lib.toList_data]; rfl

set_option maxHeartbeats 16000000 in
set_option maxRecDepth 1000000 in
theorem rown_calls (x : V) (m : Bool) (w : World) (ht : x.text.length ≤ 1099511627776) :
    Calls Tryz.prog 122 #[.agg #[.int .i64 x.kind, .string ⟨x.key.toArray⟩, .string ⟨x.text.toArray⟩, .int .i64 x.count], .bool m] w fun e w' => e = .returned (.bool (ownV x m)) ∧ Below w.heap.size w w' := by
  obtain ⟨kd, key, text, count⟩ := x
  simp only [] at ht ⊢
  obtain ⟨R, hR⟩ : ∃ R, ownV ⟨kd, key, text, count⟩ m = R := ⟨_, rfl⟩
  rw [hR]
  have hts : (⟨text.toArray⟩ : ByteArray).size ≤ 1099511627776 := by simpa [ByteArray.size] using ht
  unfold ownV at hR
  simp only [] at hR
  have k2 : Below w.heap.size w (w.alloc (.cells #[.int .i64 kd, .string ⟨key.toArray⟩, .string ⟨text.toArray⟩, .int .i64 count] 56)) := (Below.refl _ _).alloc (Nat.le_refl _) _
  have K2 := Lib.hid k2
  have HTS := Lib.hid hts
  clear k2 hts
  obtain ⟨KV, hkv⟩ : ∃ KV, valids key = KV := ⟨_, rfl⟩
  have HKV : Hid (valids (⟨key.toArray⟩ : ByteArray).data.toList = KV) := Lib.hid hkv
  rw [hkv] at hR
  clear hkv
  go_enter Tryz.func122, Tryz.ntmps122
  go_wp2_with fail
  refine (valid_calls ⟨key.toArray⟩ _).mono ?_
  rintro e1 w1 ⟨rfl, hb1⟩
  rw [HKV.out]
  have K3 := Lib.hid (K2.out.trans (hb1.mono K2.out.size))
  have hlt : w.heap.size < (w.alloc (.cells #[.int .i64 kd, .string ⟨key.toArray⟩, .string ⟨text.toArray⟩, .int .i64 count] 56)).heap.size := by simp
  have b0 : w1.cell? ⟨w.heap.size, 0, none⟩ = some (.int .i64 kd) := (hb1.cell (p := ⟨w.heap.size, 0, none⟩) hlt).trans (by rw [cell_of_row _ _ _ _ _ _ (heap_alloc_new w _)]; rfl)
  have b1 : w1.cell? ⟨w.heap.size, 1, none⟩ = some (.string ⟨key.toArray⟩) := (hb1.cell (p := ⟨w.heap.size, 1, none⟩) hlt).trans (by rw [cell_of_row _ _ _ _ _ _ (heap_alloc_new w _)]; rfl)
  have b2 : w1.cell? ⟨w.heap.size, 2, none⟩ = some (.string ⟨text.toArray⟩) := (hb1.cell (p := ⟨w.heap.size, 2, none⟩) hlt).trans (by rw [cell_of_row _ _ _ _ _ _ (heap_alloc_new w _)]; rfl)
  have b3 : w1.cell? ⟨w.heap.size, 3, none⟩ = some (.int .i64 count) := (hb1.cell (p := ⟨w.heap.size, 3, none⟩) hlt).trans (by rw [cell_of_row _ _ _ _ _ _ (heap_alloc_new w _)]; rfl)
  have hlt1 : w.heap.size < w1.heap.size := Nat.lt_of_lt_of_le hlt hb1.size
  have HLT := Lib.hid hlt1
  clear hb1 hlt hlt1
  cases KV with
  | false =>
    have HR : Hid (R = false) := Lib.hid (by rw [← hR]; simp)
    clear hR
    cases m with
    | true =>
      go_wp2_with fail
      go_ret
      exact ⟨by rw [HR.out]; rfl, K3.out⟩
    | false =>
      cases key with
      | nil =>
        have hemp := rown_nil
        go_wp2_with fail
        go_ret
        exact ⟨by rw [HR.out]; rfl, K3.out⟩
      | cons tc tt =>
        have hemp := rown_emp tc tt
        go_wp2_with fail
        go_ret
        exact ⟨by rw [HR.out]; rfl, K3.out⟩
  | true =>
    by_cases hbad : m = false ∧ key ≠ []
    · obtain ⟨rfl, hne⟩ := hbad
      cases key with
      | nil => exact absurd rfl hne
      | cons tc tt =>
        have HR : Hid (R = false) := Lib.hid (by rw [← hR]; simp)
        have hemp := rown_emp tc tt
        clear hR hne
        go_wp2_with fail
        go_ret
        exact ⟨by rw [HR.out]; rfl, K3.out⟩
    · have hor : (m || key.isEmpty) = true := by
        cases m with
        | true => rfl
        | false =>
          cases key with
          | nil => rfl
          | cons tc tt => exact absurd ⟨rfl, by simp⟩ hbad
      rw [hor, Bool.and_true, Bool.true_and] at hR
      have hmE : m = true ∨ (m = false ∧ key = []) := by
        cases m with
        | true => exact .inl rfl
        | false => exact .inr ⟨rfl, by simpa using hor⟩
      clear hbad hor
      rcases hmE with rfl | ⟨rfl, rfl⟩
      all_goals
        by_cases hk0 : kd < 0 ∨ 6 < kd
        · have HR : Hid (R = false) := Lib.hid (by rw [← hR, if_neg (by omega), if_neg (by omega), if_neg (by omega), if_neg (by omega)])
          have z0 : (kd == 0) = false := by simp; omega
          have z1 : (kd == 1) = false := by simp; omega
          have z2 : (kd == 2) = false := by simp; omega
          have z3 : (kd == 3) = false := by simp; omega
          have z4 : (kd == 4) = false := by simp; omega
          have z5 : (kd == 5) = false := by simp; omega
          have z6 : (kd == 6) = false := by simp; omega
          clear hR hk0
          go_wp2_with fail
          go_ret
          exact ⟨by rw [HR.out]; rfl, K3.out⟩
        have hways : kd = 0 ∨ kd = 1 ∨ kd = 2 ∨ kd = 3 ∨ kd = 4 ∨ kd = 5 ∨ kd = 6 := by omega
        clear hk0
        rcases hways with rfl | rfl | rfl | rfl | rfl | rfl | rfl
        · rw [if_pos (by omega)] at hR
          cases text with
          | cons tc tt =>
            have hemp2 := rown_emp tc tt
            have HR : Hid (R = false) := Lib.hid (by rw [← hR]; simp)
            clear hR
            go_wp2_with fail
            go_ret
            exact ⟨by rw [HR.out]; rfl, K3.out⟩
          | nil =>
            have hemp2 := rown_nil
            by_cases hc : count = 0
            · subst hc
              have HR : Hid (R = true) := Lib.hid (by rw [← hR]; rfl)
              clear hR
              go_wp2_with fail
              go_ret
              exact ⟨by rw [HR.out]; rfl, K3.out⟩
            · have hc2 : (count == 0) = false := by simp; exact hc
              have HR : Hid (R = false) := Lib.hid (by rw [← hR, hc2]; simp)
              clear hR hc
              go_wp2_with fail
              go_ret
              exact ⟨by rw [HR.out]; rfl, K3.out⟩
        · rw [if_pos (by omega)] at hR
          cases text with
          | cons tc tt =>
            have hemp2 := rown_emp tc tt
            have HR : Hid (R = false) := Lib.hid (by rw [← hR]; simp)
            clear hR
            go_wp2_with fail
            go_ret
            exact ⟨by rw [HR.out]; rfl, K3.out⟩
          | nil =>
            have hemp2 := rown_nil
            by_cases hc : count = 0
            · subst hc
              have HR : Hid (R = true) := Lib.hid (by rw [← hR]; rfl)
              clear hR
              go_wp2_with fail
              go_ret
              exact ⟨by rw [HR.out]; rfl, K3.out⟩
            · have hc2 : (count == 0) = false := by simp; exact hc
              have HR : Hid (R = false) := Lib.hid (by rw [← hR, hc2]; simp)
              clear hR hc
              go_wp2_with fail
              go_ret
              exact ⟨by rw [HR.out]; rfl, K3.out⟩
        · rw [if_pos (by omega)] at hR
          cases text with
          | cons tc tt =>
            have hemp2 := rown_emp tc tt
            have HR : Hid (R = false) := Lib.hid (by rw [← hR]; simp)
            clear hR
            go_wp2_with fail
            go_ret
            exact ⟨by rw [HR.out]; rfl, K3.out⟩
          | nil =>
            have hemp2 := rown_nil
            by_cases hc : count = 0
            · subst hc
              have HR : Hid (R = true) := Lib.hid (by rw [← hR]; rfl)
              clear hR
              go_wp2_with fail
              go_ret
              exact ⟨by rw [HR.out]; rfl, K3.out⟩
            · have hc2 : (count == 0) = false := by simp; exact hc
              have HR : Hid (R = false) := Lib.hid (by rw [← hR, hc2]; simp)
              clear hR hc
              go_wp2_with fail
              go_ret
              exact ⟨by rw [HR.out]; rfl, K3.out⟩
        · rw [if_neg (by omega), if_pos rfl] at hR
          cases text with
          | nil =>
            have hemp2 := rown_nil
            have HR : Hid (R = false) := Lib.hid (by rw [← hR]; rfl)
            clear hR
            go_wp2_with fail
            go_quiet (fail)
            go_wp2_with fail
            go_ret
            exact ⟨by rw [HR.out]; rfl, below_drewN K3.out nq⟩
          | cons tc tt =>
            have hemp2 := rown_emp tc tt
            obtain ⟨nn, hnn⟩ : ∃ nn, number (tc :: tt) = nn := ⟨_, rfl⟩
            have HNN : Hid (number (⟨(tc :: tt).toArray⟩ : ByteArray).data.toList = nn) := Lib.hid hnn
            rw [hnn] at hR
            clear hnn
            by_cases hnl : nn = tt.length + 1
            · have hnl2 : ((nn : Int) == (tt.length : Int) + 1) = true := by simp; omega
              by_cases hc : count = 0
              · subst hc
                have HR : Hid (R = true) := Lib.hid (by rw [← hR, hnl]; simp)
                clear hR hnl
                go_wp2_with fail
                go_quiet (first | (go_at_call 118; exact Calls.quiet_of ((qnumber_calls ⟨(tc :: tt).toArray⟩ _ HTS.out).mono (fun e w' h => ⟨h.1.trans (by rw [HNN.out]), h.2⟩))))
                go_wp2_with fail
                go_ret
                exact ⟨by rw [HR.out]; rfl, below_drewN K3.out nq⟩
              · have hc2 : (count == 0) = false := by simp; exact hc
                have HR : Hid (R = false) := Lib.hid (by rw [← hR, hc2]; simp)
                clear hR hnl hc
                go_wp2_with fail
                go_quiet (first | (go_at_call 118; exact Calls.quiet_of ((qnumber_calls ⟨(tc :: tt).toArray⟩ _ HTS.out).mono (fun e w' h => ⟨h.1.trans (by rw [HNN.out]), h.2⟩))))
                go_wp2_with fail
                go_ret
                exact ⟨by rw [HR.out]; rfl, below_drewN K3.out nq⟩
            · have hnl2 : ((nn : Int) == (tt.length : Int) + 1) = false := by simp; omega
              have HR : Hid (R = false) := Lib.hid (by rw [← hR]; simp; intro h; omega)
              clear hR hnl
              go_wp2_with fail
              go_quiet (first | (go_at_call 118; exact Calls.quiet_of ((qnumber_calls ⟨(tc :: tt).toArray⟩ _ HTS.out).mono (fun e w' h => ⟨h.1.trans (by rw [HNN.out]), h.2⟩))))
              go_wp2_with fail
              go_ret
              exact ⟨by rw [HR.out]; rfl, below_drewN K3.out nq⟩
        · rw [if_neg (by omega), if_neg (by omega), if_pos rfl] at hR
          obtain ⟨TV, htv⟩ : ∃ TV, valids text = TV := ⟨_, rfl⟩
          have HTV : Hid (valids (⟨text.toArray⟩ : ByteArray).data.toList = TV) := Lib.hid htv
          rw [htv] at hR
          clear htv
          by_cases hc : count = 0
          · subst hc
            have HR : Hid (R = TV) := Lib.hid (by rw [← hR]; simp)
            clear hR
            go_wp2_with fail
            refine (valid_calls ⟨text.toArray⟩ _).mono ?_
            rintro e2 w2 ⟨rfl, hb2⟩
            rw [HTV.out]
            have d3 : w2.cell? ⟨w.heap.size, 3, none⟩ = some (.int .i64 0) := (hb2.cell (p := ⟨w.heap.size, 3, none⟩) HLT.out).trans b3
            have K4 := Lib.hid (K3.out.trans (hb2.mono K3.out.size))
            clear hb2
            cases TV with
            | false =>
              go_wp2_with fail
              go_ret
              exact ⟨by rw [HR.out]; rfl, K4.out⟩
            | true =>
              go_wp2_with fail
              go_ret
              exact ⟨by rw [HR.out]; rfl, K4.out⟩
          · have hc2 : (count == 0) = false := by simp; exact hc
            have HR : Hid (R = false) := Lib.hid (by rw [← hR, hc2]; simp)
            clear hR hc
            go_wp2_with fail
            refine (valid_calls ⟨text.toArray⟩ _).mono ?_
            rintro e2 w2 ⟨rfl, hb2⟩
            rw [HTV.out]
            have d3 : w2.cell? ⟨w.heap.size, 3, none⟩ = some (.int .i64 count) := (hb2.cell (p := ⟨w.heap.size, 3, none⟩) HLT.out).trans b3
            have K4 := Lib.hid (K3.out.trans (hb2.mono K3.out.size))
            clear hb2
            cases TV with
            | false =>
              go_wp2_with fail
              go_ret
              exact ⟨by rw [HR.out]; rfl, K4.out⟩
            | true =>
              go_wp2_with fail
              go_ret
              exact ⟨by rw [HR.out]; rfl, K4.out⟩
        · rw [if_neg (by omega), if_neg (by omega), if_neg (by omega), if_pos (by omega)] at hR
          cases text with
          | cons tc tt =>
            have hemp2 := rown_emp tc tt
            have HR : Hid (R = false) := Lib.hid (by rw [← hR]; simp)
            clear hR
            go_wp2_with fail
            go_ret
            exact ⟨by rw [HR.out]; rfl, K3.out⟩
          | nil =>
            have hemp2 := rown_nil
            by_cases hc : 0 ≤ count
            · have HR : Hid (R = true) := Lib.hid (by rw [← hR]; simp; exact hc)
              clear hR
              go_wp2_with fail
              go_ret
              exact ⟨by rw [HR.out]; rfl, K3.out⟩
            · have HR : Hid (R = false) := Lib.hid (by rw [← hR]; simp; omega)
              clear hR
              go_wp2_with fail
              go_ret
              exact ⟨by rw [HR.out]; (first | rfl | simp [hc]), K3.out⟩
        · rw [if_neg (by omega), if_neg (by omega), if_neg (by omega), if_pos (by omega)] at hR
          cases text with
          | cons tc tt =>
            have hemp2 := rown_emp tc tt
            have HR : Hid (R = false) := Lib.hid (by rw [← hR]; simp)
            clear hR
            go_wp2_with fail
            go_ret
            exact ⟨by rw [HR.out]; rfl, K3.out⟩
          | nil =>
            have hemp2 := rown_nil
            by_cases hc : 0 ≤ count
            · have HR : Hid (R = true) := Lib.hid (by rw [← hR]; simp; exact hc)
              clear hR
              go_wp2_with fail
              go_ret
              exact ⟨by rw [HR.out]; rfl, K3.out⟩
            · have HR : Hid (R = false) := Lib.hid (by rw [← hR]; simp; omega)
              clear hR
              go_wp2_with fail
              go_ret
              exact ⟨by rw [HR.out]; (first | rfl | simp [hc]), K3.out⟩
end Go.Proofs.YtndkbecdjaedaaaGreatDoor
