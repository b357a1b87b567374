/- JtextInts answers true. -/
import Derived.Test.YtangbkiheoekaaaDoorJtSmall
import Derived.Test.YtangbkiheoekaaaDoorJtIntEq
namespace Go.Proofs.YtangbkiheoekaaaDoor
open Go.RowKit

theorem itoa_len {n : Int} (h0 : -9223372036854775808 ≤ n) (h1 : n ≤ 9223372036854775807) : (Lib.itoa n).length ≤ 22 := by
  unfold Lib.itoa
  split
  · have := dec_len n.natAbs (by omega)
    simp; omega
  · have := dec_len n.toNat (by omega)
    omega

set_option maxHeartbeats 16000000 in
set_option maxRecDepth 1000000 in
theorem ints_calls (n : Int) (s : ByteArray) (h0 : -9223372036854775808 ≤ n) (h1 : n ≤ 9223372036854775807) (w : World) (hE : Env w) :
    Calls Tryd.prog 6 #[.int .i64 n, .string s] w fun e w' => e = .returned (.bool true) ∧ Below w.heap.size w w' := by
  go_enter Tryd.func6, Tryd.ntmps6
  go_wp2_with fail
  refine (small_calls _ hE).mono ?_
  rintro e w1 ⟨rfl, hb1⟩
  by_cases g1 : (500 : Int) < (s.size : Int)
  · go_wp2_with fail
    go_ret
    exact ⟨rfl, hb1⟩
  obtain ⟨T, hT⟩ : ∃ T : ByteArray, T = ⟨(Lib.itoa n).toArray⟩ := ⟨_, rfl⟩
  have hTl : T.data.toList = Lib.itoa n := by rw [hT]
  have hTs : T.size ≤ 22 := by
    have := itoa_len h0 h1
    rw [← hTl] at this; simpa using this
  have HT := Lib.hid hT
  have HTV : Hid (intOf? T.data.toList = some n) := Lib.hid (by rw [hTl]; exact int_itoa h0 h1)
  have HTN : Hid (number T.data.toList = T.size) := Lib.hid (by
    have := int_number (l := T.data.toList) (v := n) (by rw [hTl]; exact int_itoa h0 h1)
    rw [this]; simp)
  have hnn : (n == n) = true := by simp
  have htt : ((T.size : Int) == (T.size : Int)) = true := by simp
  clear hT hTl
  go_wp2_with fail
  refine (text_calls n h0 h1 _).mono ?_
  rintro e w2 ⟨rfl, hb2⟩
  rw [← HT.out]
  have hb2 := hb1.trans (hb2.mono hb1.size)
  go_wp2_with fail
  refine (int_calls T _ (by omega) (hE.below hb2)).mono ?_
  rintro e w3 ⟨rfl, hb3⟩
  rw [HTV.out]
  have hb3 := hb2.trans (hb3.mono hb2.size)
  cases hI : intOf? s.data.toList with
  | none =>
    have HI := Lib.hid hI
    clear hI
    go_wp2_with fail
    refine (int_calls s _ (by omega) (hE.below hb3)).mono ?_
    rintro e w4 ⟨rfl, hb4⟩
    rw [HI.out]
    have hb4 := hb3.trans (hb4.mono hb3.size)
    go_wp2_with fail
    refine (number_calls T _ (by omega)).mono ?_
    rintro e w5 ⟨rfl, hb5⟩
    rw [HTN.out]
    have hb5 := hb4.trans (hb5.mono hb4.size)
    go_wp2_with fail
    go_ret
    exact ⟨rfl, hb5⟩
  | some y =>
    obtain ⟨hy, y0, y1⟩ := int_text hI
    have HI := Lib.hid hI
    have HY : Hid ((⟨(Lib.itoa y).toArray⟩ : ByteArray) = s) := Lib.hid (by rw [hy])
    have HYN : Hid (number s.data.toList = s.size) := Lib.hid (by rw [int_number hI]; simp)
    have hss : ((s.size : Int) == (s.size : Int)) = true := by simp
    clear hI hy
    go_wp2_with fail
    refine (int_calls s _ (by omega) (hE.below hb3)).mono ?_
    rintro e w4 ⟨rfl, hb4⟩
    rw [HI.out]
    have hb4 := hb3.trans (hb4.mono hb3.size)
    go_wp2_with fail
    refine (number_calls T _ (by omega)).mono ?_
    rintro e w5 ⟨rfl, hb5⟩
    rw [HTN.out]
    have hb5 := hb4.trans (hb5.mono hb4.size)
    go_wp2_with fail
    refine (text_calls y y0 y1 _).mono ?_
    rintro e w6 ⟨rfl, hb6⟩
    rw [HY.out]
    have hb6 := hb5.trans (hb6.mono hb5.size)
    go_wp2_with fail
    refine (number_calls s _ (by omega)).mono ?_
    rintro e w7 ⟨rfl, hb7⟩
    rw [HYN.out]
    have hb7 := hb6.trans (hb7.mono hb6.size)
    go_wp2_with fail
    go_ret
    exact ⟨rfl, hb7⟩
end Go.Proofs.YtangbkiheoekaaaDoor
