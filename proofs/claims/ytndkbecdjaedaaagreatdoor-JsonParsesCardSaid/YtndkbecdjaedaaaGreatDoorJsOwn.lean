/- json.own: is a value right by itself, but for what it has? -/
import Derived.Test.YtndkbecdjaedaaaGreatDoorShelf2
import Derived.Test.YtndkbecdjaedaaaGreatDoorJsVs
import Derived.Test.YtndkbecdjaedaaaGreatDoorJsPlain
import Derived.Deep.RegionHeld3
namespace Go.Proofs.YtndkbecdjaedaaaGreatDoor
open Go.RowKit

theorem validGo_eq : ∀ (f : Nat) (l : List UInt8), l.length ≤ f → Lib.validGoD f l = validF f l
  | 0, l, h => by
    have : l = [] := List.eq_nil_of_length_eq_zero (by omega)
    subst this
    rfl
  | f + 1, l, h => by
    unfold Lib.validGoD validF
    by_cases hl : l = []
    · rw [if_pos hl, if_pos hl]
    rw [if_neg hl, if_neg hl]
    have hd : Lib.decodeL l = dec l := by
      unfold Lib.decodeL
      rw [decode_list]
      rfl
    rw [hd]
    have hw := dec_width hl
    cases ho : okc l with
    | false =>
      rw [dec_bad ho]
      simp
    | true =>
      have hn : ¬ ((dec l).1 = 65533 ∧ (dec l).2 = 1) := by
        intro h
        unfold okc at ho
        rw [h.1, h.2] at ho
        exact absurd ho (by decide)
      rw [if_neg hn, Bool.true_and, validGo_eq f _ (by rw [List.length_drop]; omega)]
theorem valid_eq (l : List UInt8) : Lib.validD l = valids l := validGo_eq l.length l (Nat.le_refl _)

theorem utf8valid_calls (s : ByteArray) (w : World) (hs : s.size ≤ 1099511627776) (hT : U8 w) :
    Calls Tryz.prog 66 #[.string s] w fun e w' => e = .returned (.bool (valids s.data.toList)) ∧ Below w.heap.size w w' := by
  rw [← valid_eq]
  exact Tryz.utf8_ValidString s w (by omega) hT

/-- What own says. -/
def pown (x : V) : Bool :=
  if x.kind < 0 ∨ 6 < x.kind ∨ x.count < 0 ∨ (0 < x.count ∧ x.kind ≠ 5 ∧ x.kind ≠ 6) then false
  else if x.kind = 3 then !x.text.isEmpty && number x.text == x.text.length
  else valids x.text && (x.text.isEmpty || x.kind == 4)
theorem own_pown (x : V) (m : Bool) : ownV x m = ((m || x.key.isEmpty) && valids x.key && pown x) := by
  obtain ⟨kd, key, text, count⟩ := x
  unfold ownV pown
  simp only []
  congr 1
  by_cases h1 : kd = 0 ∨ kd = 1 ∨ kd = 2
  · rw [if_pos h1]
    by_cases hc : count = 0
    · rw [if_neg (by omega), if_neg (by omega)]
      have h4 : (kd == 4) = false := by simp; omega
      rw [h4, hc]
      cases text with
      | nil => rfl
      | cons a b => simp
    · rw [if_pos (by omega)]
      have : (count == 0) = false := by simpa using hc
      rw [this]; simp
  rw [if_neg h1]
  by_cases h3 : kd = 3
  · rw [if_pos h3]
    by_cases hc : count = 0
    · rw [if_neg (by omega), if_pos h3, hc]; simp
    · rw [if_pos (by omega)]
      have : (count == 0) = false := by simpa using hc
      rw [this]; simp
  rw [if_neg h3]
  by_cases h4 : kd = 4
  · rw [if_pos h4]
    by_cases hc : count = 0
    · rw [if_neg (by omega), if_neg h3, h4, hc]; simp
    · rw [if_pos (by omega)]
      have : (count == 0) = false := by simpa using hc
      rw [this]; simp
  rw [if_neg h4]
  by_cases h5 : kd = 5 ∨ kd = 6
  · rw [if_pos h5]
    by_cases hc : 0 ≤ count
    · rw [if_neg (by omega), if_neg h3, decide_eq_true hc]
      have h4' : (kd == 4) = false := by simpa using h4
      rw [h4']
      cases text with
      | nil => rfl
      | cons a b => simp
    · rw [if_pos (by omega), decide_eq_false hc]; simp
  · rw [if_neg h5, if_pos (by omega)]

theorem int_nat_beq (n m : Nat) : ((n : Int) == (m : Int) + 1) = (n == m + 1) := by
  rw [Bool.eq_iff_iff]
  simp
  omega

set_option maxHeartbeats 8000000 in
set_option maxRecDepth 1000000 in
theorem own_calls (x : V) (w : World) (ht : x.text.length ≤ 1099511627776) (hT : U8 w) :
    Calls Tryz.prog 65 #[.agg #[.int .i64 x.kind, .string ⟨x.key.toArray⟩, .string ⟨x.text.toArray⟩, .int .i64 x.count]] w fun e w' => e = .returned (.bool (pown x)) ∧ Below w.heap.size w w' := by
  obtain ⟨kd, key, text, count⟩ := x
  simp only [] at ht ⊢
  obtain ⟨R, hR⟩ : ∃ R, pown ⟨kd, key, text, count⟩ = R := ⟨_, rfl⟩
  rw [hR]
  have hts : (⟨text.toArray⟩ : ByteArray).size ≤ 1099511627776 := by simpa [ByteArray.size] using ht
  unfold pown at hR
  simp only [] at hR
  have hT2 : U8 (w.alloc (.cells #[.int .i64 kd, .string ⟨key.toArray⟩, .string ⟨text.toArray⟩, .int .i64 count] 56)) := u8_below hT ((Below.refl _ _).alloc (Nat.le_refl _) _)
  have k2 : Below w.heap.size w (w.alloc (.cells #[.int .i64 kd, .string ⟨key.toArray⟩, .string ⟨text.toArray⟩, .int .i64 count] 56)) := (Below.refl _ _).alloc (Nat.le_refl _) _
  have HT2 := Lib.hid hT2
  have K2 := Lib.hid k2
  have HTS := Lib.hid hts
  clear hT hT2 k2 hts
  by_cases hk0 : kd < 0
  · have HR : Hid (R = false) := Lib.hid (by rw [← hR, if_pos (.inl hk0)])
    clear hR
    go_enter Tryz.func65, Tryz.ntmps65
    go_wp2_with fail
    go_ret
    exact ⟨by rw [HR.out]; rfl, K2.out⟩
  by_cases hk6 : 6 < kd
  · have HR : Hid (R = false) := Lib.hid (by rw [← hR, if_pos (.inr (.inl hk6))])
    clear hR
    go_enter Tryz.func65, Tryz.ntmps65
    go_wp2_with fail
    go_ret
    exact ⟨by rw [HR.out]; rfl, K2.out⟩
  have hways : kd = 0 ∨ kd = 1 ∨ kd = 2 ∨ kd = 3 ∨ kd = 4 ∨ kd = 5 ∨ kd = 6 := by omega
  clear hk0 hk6
  rcases hways with rfl | rfl | rfl | rfl | rfl | rfl | rfl
  · by_cases hc0 : count < 0
    · have HR : Hid (R = false) := Lib.hid (by rw [← hR, if_pos (.inr (.inr (.inl hc0)))])
      clear hR
      go_enter Tryz.func65, Tryz.ntmps65
      go_wp2_with fail
      go_ret
      exact ⟨by rw [HR.out]; rfl, K2.out⟩
    by_cases hc1 : 0 < count
    · have HR : Hid (R = false) := Lib.hid (by rw [← hR, if_pos (.inr (.inr (.inr ⟨hc1, by omega, by omega⟩)))])
      clear hR
      go_enter Tryz.func65, Tryz.ntmps65
      go_wp2_with fail
      go_ret
      exact ⟨by rw [HR.out]; rfl, K2.out⟩
    rw [if_neg (by omega), if_neg (by omega)] at hR
    have HR := Lib.hid hR
    clear hR
    go_enter Tryz.func65, Tryz.ntmps65
    go_wp2_with fail
    refine (utf8valid_calls ⟨text.toArray⟩ _ HTS.out HT2.out).mono ?_
    rintro e2 w2 ⟨rfl, hb2⟩
    have K3 := Lib.hid (K2.out.trans (hb2.mono K2.out.size))
    have b0 : w2.cell? ⟨w.heap.size, 0, none⟩ = some (.int .i64 0) := (hb2.cell (p := ⟨w.heap.size, 0, none⟩) (by simp)).trans (by rw [cell_of_row _ _ _ _ _ _ (heap_alloc_new w _)]; rfl)
    have b2 : w2.cell? ⟨w.heap.size, 2, none⟩ = some (.string ⟨text.toArray⟩) := (hb2.cell (p := ⟨w.heap.size, 2, none⟩) (by simp)).trans (by rw [cell_of_row _ _ _ _ _ _ (heap_alloc_new w _)]; rfl)
    clear hb2
    cases hv : valids text with
    | false =>
      have HV : Hid (valids (⟨text.toArray⟩ : ByteArray).data.toList = false) := Lib.hid hv
      (try rw [HV.out])
      have HR2 : Hid (R = false) := Lib.hid (by rw [← HR.out, hv]; rfl)
      clear hv HR
      go_wp2_with fail
      go_ret
      exact ⟨by rw [HR2.out]; rfl, K3.out⟩
    | true =>
      have HV : Hid (valids (⟨text.toArray⟩ : ByteArray).data.toList = true) := Lib.hid hv
      (try rw [HV.out])
      cases text with
      | nil =>
        have hemp : ((⟨([] : List UInt8).toArray⟩ : ByteArray).toList.isEmpty) = true := by rw [Lib.toList_data]; rfl
        have HR2 : Hid (R = true) := Lib.hid (by rw [← HR.out, hv]; rfl)
        clear hv HR
        go_wp2_with fail
        go_ret
        exact ⟨by rw [HR2.out]; rfl, K3.out⟩
      | cons tc tt =>
        have hemp : ((⟨(tc :: tt).toArray⟩ : ByteArray).toList.isEmpty) = false := by rw [Lib.toList_data]; rfl
        have HR2 : Hid (R = false) := Lib.hid (by rw [← HR.out, hv]; rfl)
        clear hv HR
        go_wp2_with fail
        go_ret
        exact ⟨by rw [HR2.out]; rfl, K3.out⟩
  · by_cases hc0 : count < 0
    · have HR : Hid (R = false) := Lib.hid (by rw [← hR, if_pos (.inr (.inr (.inl hc0)))])
      clear hR
      go_enter Tryz.func65, Tryz.ntmps65
      go_wp2_with fail
      go_ret
      exact ⟨by rw [HR.out]; rfl, K2.out⟩
    by_cases hc1 : 0 < count
    · have HR : Hid (R = false) := Lib.hid (by rw [← hR, if_pos (.inr (.inr (.inr ⟨hc1, by omega, by omega⟩)))])
      clear hR
      go_enter Tryz.func65, Tryz.ntmps65
      go_wp2_with fail
      go_ret
      exact ⟨by rw [HR.out]; rfl, K2.out⟩
    rw [if_neg (by omega), if_neg (by omega)] at hR
    have HR := Lib.hid hR
    clear hR
    go_enter Tryz.func65, Tryz.ntmps65
    go_wp2_with fail
    refine (utf8valid_calls ⟨text.toArray⟩ _ HTS.out HT2.out).mono ?_
    rintro e2 w2 ⟨rfl, hb2⟩
    have K3 := Lib.hid (K2.out.trans (hb2.mono K2.out.size))
    have b0 : w2.cell? ⟨w.heap.size, 0, none⟩ = some (.int .i64 1) := (hb2.cell (p := ⟨w.heap.size, 0, none⟩) (by simp)).trans (by rw [cell_of_row _ _ _ _ _ _ (heap_alloc_new w _)]; rfl)
    have b2 : w2.cell? ⟨w.heap.size, 2, none⟩ = some (.string ⟨text.toArray⟩) := (hb2.cell (p := ⟨w.heap.size, 2, none⟩) (by simp)).trans (by rw [cell_of_row _ _ _ _ _ _ (heap_alloc_new w _)]; rfl)
    clear hb2
    cases hv : valids text with
    | false =>
      have HV : Hid (valids (⟨text.toArray⟩ : ByteArray).data.toList = false) := Lib.hid hv
      (try rw [HV.out])
      have HR2 : Hid (R = false) := Lib.hid (by rw [← HR.out, hv]; rfl)
      clear hv HR
      go_wp2_with fail
      go_ret
      exact ⟨by rw [HR2.out]; rfl, K3.out⟩
    | true =>
      have HV : Hid (valids (⟨text.toArray⟩ : ByteArray).data.toList = true) := Lib.hid hv
      (try rw [HV.out])
      cases text with
      | nil =>
        have hemp : ((⟨([] : List UInt8).toArray⟩ : ByteArray).toList.isEmpty) = true := by rw [Lib.toList_data]; rfl
        have HR2 : Hid (R = true) := Lib.hid (by rw [← HR.out, hv]; rfl)
        clear hv HR
        go_wp2_with fail
        go_ret
        exact ⟨by rw [HR2.out]; rfl, K3.out⟩
      | cons tc tt =>
        have hemp : ((⟨(tc :: tt).toArray⟩ : ByteArray).toList.isEmpty) = false := by rw [Lib.toList_data]; rfl
        have HR2 : Hid (R = false) := Lib.hid (by rw [← HR.out, hv]; rfl)
        clear hv HR
        go_wp2_with fail
        go_ret
        exact ⟨by rw [HR2.out]; rfl, K3.out⟩
  · by_cases hc0 : count < 0
    · have HR : Hid (R = false) := Lib.hid (by rw [← hR, if_pos (.inr (.inr (.inl hc0)))])
      clear hR
      go_enter Tryz.func65, Tryz.ntmps65
      go_wp2_with fail
      go_ret
      exact ⟨by rw [HR.out]; rfl, K2.out⟩
    by_cases hc1 : 0 < count
    · have HR : Hid (R = false) := Lib.hid (by rw [← hR, if_pos (.inr (.inr (.inr ⟨hc1, by omega, by omega⟩)))])
      clear hR
      go_enter Tryz.func65, Tryz.ntmps65
      go_wp2_with fail
      go_ret
      exact ⟨by rw [HR.out]; rfl, K2.out⟩
    rw [if_neg (by omega), if_neg (by omega)] at hR
    have HR := Lib.hid hR
    clear hR
    go_enter Tryz.func65, Tryz.ntmps65
    go_wp2_with fail
    refine (utf8valid_calls ⟨text.toArray⟩ _ HTS.out HT2.out).mono ?_
    rintro e2 w2 ⟨rfl, hb2⟩
    have K3 := Lib.hid (K2.out.trans (hb2.mono K2.out.size))
    have b0 : w2.cell? ⟨w.heap.size, 0, none⟩ = some (.int .i64 2) := (hb2.cell (p := ⟨w.heap.size, 0, none⟩) (by simp)).trans (by rw [cell_of_row _ _ _ _ _ _ (heap_alloc_new w _)]; rfl)
    have b2 : w2.cell? ⟨w.heap.size, 2, none⟩ = some (.string ⟨text.toArray⟩) := (hb2.cell (p := ⟨w.heap.size, 2, none⟩) (by simp)).trans (by rw [cell_of_row _ _ _ _ _ _ (heap_alloc_new w _)]; rfl)
    clear hb2
    cases hv : valids text with
    | false =>
      have HV : Hid (valids (⟨text.toArray⟩ : ByteArray).data.toList = false) := Lib.hid hv
      (try rw [HV.out])
      have HR2 : Hid (R = false) := Lib.hid (by rw [← HR.out, hv]; rfl)
      clear hv HR
      go_wp2_with fail
      go_ret
      exact ⟨by rw [HR2.out]; rfl, K3.out⟩
    | true =>
      have HV : Hid (valids (⟨text.toArray⟩ : ByteArray).data.toList = true) := Lib.hid hv
      (try rw [HV.out])
      cases text with
      | nil =>
        have hemp : ((⟨([] : List UInt8).toArray⟩ : ByteArray).toList.isEmpty) = true := by rw [Lib.toList_data]; rfl
        have HR2 : Hid (R = true) := Lib.hid (by rw [← HR.out, hv]; rfl)
        clear hv HR
        go_wp2_with fail
        go_ret
        exact ⟨by rw [HR2.out]; rfl, K3.out⟩
      | cons tc tt =>
        have hemp : ((⟨(tc :: tt).toArray⟩ : ByteArray).toList.isEmpty) = false := by rw [Lib.toList_data]; rfl
        have HR2 : Hid (R = false) := Lib.hid (by rw [← HR.out, hv]; rfl)
        clear hv HR
        go_wp2_with fail
        go_ret
        exact ⟨by rw [HR2.out]; rfl, K3.out⟩
  · by_cases hc0 : count < 0
    · have HR : Hid (R = false) := Lib.hid (by rw [← hR, if_pos (.inr (.inr (.inl hc0)))])
      clear hR
      go_enter Tryz.func65, Tryz.ntmps65
      go_wp2_with fail
      go_ret
      exact ⟨by rw [HR.out]; rfl, K2.out⟩
    by_cases hc1 : 0 < count
    · have HR : Hid (R = false) := Lib.hid (by rw [← hR, if_pos (.inr (.inr (.inr ⟨hc1, by omega, by omega⟩)))])
      clear hR
      go_enter Tryz.func65, Tryz.ntmps65
      go_wp2_with fail
      go_ret
      exact ⟨by rw [HR.out]; rfl, K2.out⟩
    rw [if_neg (by omega), if_pos rfl] at hR
    cases text with
    | nil =>
      have HR : Hid (R = false) := Lib.hid (by rw [← hR]; rfl)
      have hemp : ((⟨([] : List UInt8).toArray⟩ : ByteArray).toList.isEmpty) = true := by rw [Lib.toList_data]; rfl
      clear hR
      go_enter Tryz.func65, Tryz.ntmps65
      go_wp2_with fail
      go_quiet (fail)
      go_wp2_with fail
      go_ret
      exact ⟨by rw [HR.out]; rfl, below_drewN K2.out nq⟩
    | cons tc tt =>
      have hemp : ((⟨(tc :: tt).toArray⟩ : ByteArray).toList.isEmpty) = false := by rw [Lib.toList_data]; rfl
      have HR : Hid (R = (number (tc :: tt) == (tc :: tt).length)) := Lib.hid (by rw [← hR]; rfl)
      obtain ⟨nn, hnn⟩ : ∃ nn, number (tc :: tt) = nn := ⟨_, rfl⟩
      rw [hnn] at HR
      have HNN := Lib.hid hnn
      clear hR hnn
      go_enter Tryz.func65, Tryz.ntmps65
      go_wp2_with fail
      have bx : ((w.alloc (.cells #[.int .i64 3, .string ⟨key.toArray⟩, .string ⟨(tc :: tt).toArray⟩, .int .i64 count] 56))).cell? ⟨w.heap.size, 2, none⟩ = some (.string ⟨(tc :: tt).toArray⟩) := by rw [cell_of_row _ _ _ _ _ _ (heap_alloc_new w _)]; rfl
      go_region_held3 (fun w' => w'.cell? ⟨w.heap.size, 2, none⟩ = some (.string ⟨(tc :: tt).toArray⟩)) (go_keep) (first | (go_at_call 108; refine (number_calls ⟨(tc :: tt).toArray⟩ _ HTS.out).mono ?_; rintro e w6 ⟨rfl, hb6⟩; have bx6 : w6.cell? ⟨w.heap.size, 2, none⟩ = some (.string ⟨(tc :: tt).toArray⟩) := (hb6.cell (p := ⟨w.heap.size, 2, none⟩) (by simp [World.drew])).trans bx; rw [show number (⟨(tc :: tt).toArray⟩ : ByteArray).data.toList = nn from HNN.out]))
      go_wp2_with fail
      go_ret
      refine ⟨?_, (K2.out.drew).trans (hb6.mono (by simp [World.drew]))⟩
      show Ending.returned (Value.bool ((nn : Int) == (tt.length : Int) + 1)) = _
      rw [HR.out, show (tc :: tt).length = tt.length + 1 from rfl, int_nat_beq]
  · by_cases hc0 : count < 0
    · have HR : Hid (R = false) := Lib.hid (by rw [← hR, if_pos (.inr (.inr (.inl hc0)))])
      clear hR
      go_enter Tryz.func65, Tryz.ntmps65
      go_wp2_with fail
      go_ret
      exact ⟨by rw [HR.out]; rfl, K2.out⟩
    by_cases hc1 : 0 < count
    · have HR : Hid (R = false) := Lib.hid (by rw [← hR, if_pos (.inr (.inr (.inr ⟨hc1, by omega, by omega⟩)))])
      clear hR
      go_enter Tryz.func65, Tryz.ntmps65
      go_wp2_with fail
      go_ret
      exact ⟨by rw [HR.out]; rfl, K2.out⟩
    rw [if_neg (by omega), if_neg (by omega)] at hR
    have HR := Lib.hid hR
    clear hR
    go_enter Tryz.func65, Tryz.ntmps65
    go_wp2_with fail
    refine (utf8valid_calls ⟨text.toArray⟩ _ HTS.out HT2.out).mono ?_
    rintro e2 w2 ⟨rfl, hb2⟩
    have K3 := Lib.hid (K2.out.trans (hb2.mono K2.out.size))
    have b0 : w2.cell? ⟨w.heap.size, 0, none⟩ = some (.int .i64 4) := (hb2.cell (p := ⟨w.heap.size, 0, none⟩) (by simp)).trans (by rw [cell_of_row _ _ _ _ _ _ (heap_alloc_new w _)]; rfl)
    have b2 : w2.cell? ⟨w.heap.size, 2, none⟩ = some (.string ⟨text.toArray⟩) := (hb2.cell (p := ⟨w.heap.size, 2, none⟩) (by simp)).trans (by rw [cell_of_row _ _ _ _ _ _ (heap_alloc_new w _)]; rfl)
    clear hb2
    cases hv : valids text with
    | false =>
      have HV : Hid (valids (⟨text.toArray⟩ : ByteArray).data.toList = false) := Lib.hid hv
      (try rw [HV.out])
      have HR2 : Hid (R = false) := Lib.hid (by rw [← HR.out, hv]; rfl)
      clear hv HR
      go_wp2_with fail
      go_ret
      exact ⟨by rw [HR2.out]; rfl, K3.out⟩
    | true =>
      have HV : Hid (valids (⟨text.toArray⟩ : ByteArray).data.toList = true) := Lib.hid hv
      (try rw [HV.out])
      cases text with
      | nil =>
        have hemp : ((⟨([] : List UInt8).toArray⟩ : ByteArray).toList.isEmpty) = true := by rw [Lib.toList_data]; rfl
        have HR2 : Hid (R = true) := Lib.hid (by rw [← HR.out, hv]; rfl)
        clear hv HR
        go_wp2_with fail
        go_ret
        exact ⟨by rw [HR2.out]; rfl, K3.out⟩
      | cons tc tt =>
        have hemp : ((⟨(tc :: tt).toArray⟩ : ByteArray).toList.isEmpty) = false := by rw [Lib.toList_data]; rfl
        have HR2 : Hid (R = true) := Lib.hid (by rw [← HR.out, hv]; rfl)
        clear hv HR
        go_wp2_with fail
        go_ret
        exact ⟨by rw [HR2.out]; rfl, K3.out⟩
  · by_cases hc0 : count < 0
    · have HR : Hid (R = false) := Lib.hid (by rw [← hR, if_pos (.inr (.inr (.inl hc0)))])
      clear hR
      go_enter Tryz.func65, Tryz.ntmps65
      go_wp2_with fail
      go_ret
      exact ⟨by rw [HR.out]; rfl, K2.out⟩
    by_cases hc1 : 0 < count
    · skip
      rw [if_neg (by omega), if_neg (by omega)] at hR
      have HR := Lib.hid hR
      clear hR
      go_enter Tryz.func65, Tryz.ntmps65
      go_wp2_with fail
      refine (utf8valid_calls ⟨text.toArray⟩ _ HTS.out HT2.out).mono ?_
      rintro e2 w2 ⟨rfl, hb2⟩
      have K3 := Lib.hid (K2.out.trans (hb2.mono K2.out.size))
      have b0 : w2.cell? ⟨w.heap.size, 0, none⟩ = some (.int .i64 5) := (hb2.cell (p := ⟨w.heap.size, 0, none⟩) (by simp)).trans (by rw [cell_of_row _ _ _ _ _ _ (heap_alloc_new w _)]; rfl)
      have b2 : w2.cell? ⟨w.heap.size, 2, none⟩ = some (.string ⟨text.toArray⟩) := (hb2.cell (p := ⟨w.heap.size, 2, none⟩) (by simp)).trans (by rw [cell_of_row _ _ _ _ _ _ (heap_alloc_new w _)]; rfl)
      clear hb2
      cases hv : valids text with
      | false =>
        have HV : Hid (valids (⟨text.toArray⟩ : ByteArray).data.toList = false) := Lib.hid hv
        (try rw [HV.out])
        have HR2 : Hid (R = false) := Lib.hid (by rw [← HR.out, hv]; rfl)
        clear hv HR
        go_wp2_with fail
        go_ret
        exact ⟨by rw [HR2.out]; rfl, K3.out⟩
      | true =>
        have HV : Hid (valids (⟨text.toArray⟩ : ByteArray).data.toList = true) := Lib.hid hv
        (try rw [HV.out])
        cases text with
        | nil =>
          have hemp : ((⟨([] : List UInt8).toArray⟩ : ByteArray).toList.isEmpty) = true := by rw [Lib.toList_data]; rfl
          have HR2 : Hid (R = true) := Lib.hid (by rw [← HR.out, hv]; rfl)
          clear hv HR
          go_wp2_with fail
          go_ret
          exact ⟨by rw [HR2.out]; rfl, K3.out⟩
        | cons tc tt =>
          have hemp : ((⟨(tc :: tt).toArray⟩ : ByteArray).toList.isEmpty) = false := by rw [Lib.toList_data]; rfl
          have HR2 : Hid (R = false) := Lib.hid (by rw [← HR.out, hv]; rfl)
          clear hv HR
          go_wp2_with fail
          go_ret
          exact ⟨by rw [HR2.out]; rfl, K3.out⟩
    rw [if_neg (by omega), if_neg (by omega)] at hR
    have HR := Lib.hid hR
    clear hR
    go_enter Tryz.func65, Tryz.ntmps65
    go_wp2_with fail
    refine (utf8valid_calls ⟨text.toArray⟩ _ HTS.out HT2.out).mono ?_
    rintro e2 w2 ⟨rfl, hb2⟩
    have K3 := Lib.hid (K2.out.trans (hb2.mono K2.out.size))
    have b0 : w2.cell? ⟨w.heap.size, 0, none⟩ = some (.int .i64 5) := (hb2.cell (p := ⟨w.heap.size, 0, none⟩) (by simp)).trans (by rw [cell_of_row _ _ _ _ _ _ (heap_alloc_new w _)]; rfl)
    have b2 : w2.cell? ⟨w.heap.size, 2, none⟩ = some (.string ⟨text.toArray⟩) := (hb2.cell (p := ⟨w.heap.size, 2, none⟩) (by simp)).trans (by rw [cell_of_row _ _ _ _ _ _ (heap_alloc_new w _)]; rfl)
    clear hb2
    cases hv : valids text with
    | false =>
      have HV : Hid (valids (⟨text.toArray⟩ : ByteArray).data.toList = false) := Lib.hid hv
      (try rw [HV.out])
      have HR2 : Hid (R = false) := Lib.hid (by rw [← HR.out, hv]; rfl)
      clear hv HR
      go_wp2_with fail
      go_ret
      exact ⟨by rw [HR2.out]; rfl, K3.out⟩
    | true =>
      have HV : Hid (valids (⟨text.toArray⟩ : ByteArray).data.toList = true) := Lib.hid hv
      (try rw [HV.out])
      cases text with
      | nil =>
        have hemp : ((⟨([] : List UInt8).toArray⟩ : ByteArray).toList.isEmpty) = true := by rw [Lib.toList_data]; rfl
        have HR2 : Hid (R = true) := Lib.hid (by rw [← HR.out, hv]; rfl)
        clear hv HR
        go_wp2_with fail
        go_ret
        exact ⟨by rw [HR2.out]; rfl, K3.out⟩
      | cons tc tt =>
        have hemp : ((⟨(tc :: tt).toArray⟩ : ByteArray).toList.isEmpty) = false := by rw [Lib.toList_data]; rfl
        have HR2 : Hid (R = false) := Lib.hid (by rw [← HR.out, hv]; rfl)
        clear hv HR
        go_wp2_with fail
        go_ret
        exact ⟨by rw [HR2.out]; rfl, K3.out⟩
  · by_cases hc0 : count < 0
    · have HR : Hid (R = false) := Lib.hid (by rw [← hR, if_pos (.inr (.inr (.inl hc0)))])
      clear hR
      go_enter Tryz.func65, Tryz.ntmps65
      go_wp2_with fail
      go_ret
      exact ⟨by rw [HR.out]; rfl, K2.out⟩
    by_cases hc1 : 0 < count
    · skip
      rw [if_neg (by omega), if_neg (by omega)] at hR
      have HR := Lib.hid hR
      clear hR
      go_enter Tryz.func65, Tryz.ntmps65
      go_wp2_with fail
      refine (utf8valid_calls ⟨text.toArray⟩ _ HTS.out HT2.out).mono ?_
      rintro e2 w2 ⟨rfl, hb2⟩
      have K3 := Lib.hid (K2.out.trans (hb2.mono K2.out.size))
      have b0 : w2.cell? ⟨w.heap.size, 0, none⟩ = some (.int .i64 6) := (hb2.cell (p := ⟨w.heap.size, 0, none⟩) (by simp)).trans (by rw [cell_of_row _ _ _ _ _ _ (heap_alloc_new w _)]; rfl)
      have b2 : w2.cell? ⟨w.heap.size, 2, none⟩ = some (.string ⟨text.toArray⟩) := (hb2.cell (p := ⟨w.heap.size, 2, none⟩) (by simp)).trans (by rw [cell_of_row _ _ _ _ _ _ (heap_alloc_new w _)]; rfl)
      clear hb2
      cases hv : valids text with
      | false =>
        have HV : Hid (valids (⟨text.toArray⟩ : ByteArray).data.toList = false) := Lib.hid hv
        (try rw [HV.out])
        have HR2 : Hid (R = false) := Lib.hid (by rw [← HR.out, hv]; rfl)
        clear hv HR
        go_wp2_with fail
        go_ret
        exact ⟨by rw [HR2.out]; rfl, K3.out⟩
      | true =>
        have HV : Hid (valids (⟨text.toArray⟩ : ByteArray).data.toList = true) := Lib.hid hv
        (try rw [HV.out])
        cases text with
        | nil =>
          have hemp : ((⟨([] : List UInt8).toArray⟩ : ByteArray).toList.isEmpty) = true := by rw [Lib.toList_data]; rfl
          have HR2 : Hid (R = true) := Lib.hid (by rw [← HR.out, hv]; rfl)
          clear hv HR
          go_wp2_with fail
          go_ret
          exact ⟨by rw [HR2.out]; rfl, K3.out⟩
        | cons tc tt =>
          have hemp : ((⟨(tc :: tt).toArray⟩ : ByteArray).toList.isEmpty) = false := by rw [Lib.toList_data]; rfl
          have HR2 : Hid (R = false) := Lib.hid (by rw [← HR.out, hv]; rfl)
          clear hv HR
          go_wp2_with fail
          go_ret
          exact ⟨by rw [HR2.out]; rfl, K3.out⟩
    rw [if_neg (by omega), if_neg (by omega)] at hR
    have HR := Lib.hid hR
    clear hR
    go_enter Tryz.func65, Tryz.ntmps65
    go_wp2_with fail
    refine (utf8valid_calls ⟨text.toArray⟩ _ HTS.out HT2.out).mono ?_
    rintro e2 w2 ⟨rfl, hb2⟩
    have K3 := Lib.hid (K2.out.trans (hb2.mono K2.out.size))
    have b0 : w2.cell? ⟨w.heap.size, 0, none⟩ = some (.int .i64 6) := (hb2.cell (p := ⟨w.heap.size, 0, none⟩) (by simp)).trans (by rw [cell_of_row _ _ _ _ _ _ (heap_alloc_new w _)]; rfl)
    have b2 : w2.cell? ⟨w.heap.size, 2, none⟩ = some (.string ⟨text.toArray⟩) := (hb2.cell (p := ⟨w.heap.size, 2, none⟩) (by simp)).trans (by rw [cell_of_row _ _ _ _ _ _ (heap_alloc_new w _)]; rfl)
    clear hb2
    cases hv : valids text with
    | false =>
      have HV : Hid (valids (⟨text.toArray⟩ : ByteArray).data.toList = false) := Lib.hid hv
      (try rw [HV.out])
      have HR2 : Hid (R = false) := Lib.hid (by rw [← HR.out, hv]; rfl)
      clear hv HR
      go_wp2_with fail
      go_ret
      exact ⟨by rw [HR2.out]; rfl, K3.out⟩
    | true =>
      have HV : Hid (valids (⟨text.toArray⟩ : ByteArray).data.toList = true) := Lib.hid hv
      (try rw [HV.out])
      cases text with
      | nil =>
        have hemp : ((⟨([] : List UInt8).toArray⟩ : ByteArray).toList.isEmpty) = true := by rw [Lib.toList_data]; rfl
        have HR2 : Hid (R = true) := Lib.hid (by rw [← HR.out, hv]; rfl)
        clear hv HR
        go_wp2_with fail
        go_ret
        exact ⟨by rw [HR2.out]; rfl, K3.out⟩
      | cons tc tt =>
        have hemp : ((⟨(tc :: tt).toArray⟩ : ByteArray).toList.isEmpty) = false := by rw [Lib.toList_data]; rfl
        have HR2 : Hid (R = false) := Lib.hid (by rw [← HR.out, hv]; rfl)
        clear hv HR
        go_wp2_with fail
        go_ret
        exact ⟨by rw [HR2.out]; rfl, K3.out⟩
end Go.Proofs.YtndkbecdjaedaaaGreatDoor
