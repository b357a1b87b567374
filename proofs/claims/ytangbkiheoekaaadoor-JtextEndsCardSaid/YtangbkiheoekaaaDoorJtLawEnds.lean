/- JtextEnds answers true. -/
import Derived.Test.YtangbkiheoekaaaDoorJtSmall
import Derived.Test.YtangbkiheoekaaaDoorJtEnds
import Derived.Test.YtangbkiheoekaaaDoorJtRef7
namespace Go.Proofs.YtangbkiheoekaaaDoor
open Go.RowKit

theorem slice_to (s : ByteArray) (b : Nat) (hb : b ≤ s.size) : ∃ R : ByteArray, R.data.toList = s.data.toList.take b ∧ R.size = b ∧
    ∀ w, (Instr.slice 9 (.string s) none (some (.int .i64 (b : Int))) none).run Tryd.prog w = .ok (.string R) w :=
  ⟨s.extract 0 b, by simp, by simp; omega, fun w => by
    have := run_slice_string_h (P := Tryd.prog) w 9 s Tryd.underlying9 .i64 (b : Int) (by omega) (by omega)
    simpa using this⟩

theorem eq_run (a b : List UInt8) : (a == b) = decide (a = b) := by
  by_cases h : a = b
  · rw [decide_eq_true h, h]; simp
  · rw [decide_eq_false h]; simp [h]

theorem size_list (l : List UInt8) : (⟨l.toArray⟩ : ByteArray).size = l.length := by simp [ByteArray.size]

set_option maxHeartbeats 16000000 in
set_option maxRecDepth 1000000 in
theorem ends_calls (s rest : ByteArray) (w : World) (hE : Env w) :
    Calls Tryd.prog 8 #[.string s, .string rest] w fun e w' => e = .returned (.bool true) ∧ Below w.heap.size w w' := by
  go_enter Tryd.func8, Tryd.ntmps8
  go_wp2_with fail
  refine (small_calls _ hE).mono ?_
  rintro e w1 ⟨rfl, hb1⟩
  have hways : (1000 : Int) < (s.size : Int) ∨ (¬ (1000 : Int) < (s.size : Int) ∧ (500 : Int) < (rest.size : Int)) ∨ (¬ (1000 : Int) < (s.size : Int) ∧ ¬ (500 : Int) < (rest.size : Int)) := by omega
  rcases hways with g1 | ⟨g1, g2⟩ | ⟨g1, g2⟩
  · go_wp2_with fail
    go_ret
    exact ⟨rfl, hb1⟩
  · go_wp2_with fail
    go_ret
    exact ⟨rfl, hb1⟩
  have hL : s.data.toList.length = s.size := by simp
  -- numbers
  have hnle := number_le s.data.toList
  have hnt := number_take s.data.toList
  have hnc := number_comma s.data.toList rest.data.toList
  obtain ⟨k, hk⟩ : ∃ k, number s.data.toList = k := ⟨_, rfl⟩
  rw [hk] at hnle hnt hnc
  rw [hL] at hnle
  obtain ⟨K, hK, hKs, hKrun⟩ := slice_to s k hnle
  obtain ⟨K1, hK1, hK1s, hK1run⟩ := concat_run K ⟨#[44]⟩ (by omega) (by show 1 ≤ _; omega)
  obtain ⟨K2, hK2, hK2s, hK2run⟩ := concat_run K1 rest (by rw [hK1s]; show K.size + 1 ≤ _; omega) (by omega)
  have hK2s' : K2.size ≤ 1501 := by rw [hK2s, hK1s]; show K.size + 1 + rest.size ≤ _; omega
  have HK := Lib.hid hk
  have HKT : Hid (number K.data.toList = k) := Lib.hid (by rw [hK]; exact hnt)
  have HKC : Hid (k ≠ 0 → number K2.data.toList = k) := Lib.hid (by
    intro h
    rw [hK2, hK1, hK]
    have := hnc h
    simpa using this)
  have hkl : ¬ (k : Int) < 0 := by omega
  have hku : ¬ (s.size : Int) < (k : Int) := by omega
  have hkk : ((k : Int) == (k : Int)) = true := by simp
  have hKs' : K.size ≤ 1000 := by omega
  clear hk hK hK1 hK2 hK2s hK1s hnt hnc hKs hnle
  -- strings
  obtain ⟨x, hx⟩ : ∃ x, unqV s.data.toList = x := ⟨_, rfl⟩
  obtain ⟨x, n, ok⟩ := x
  have HX := Lib.hid hx
  cases ok with
  | true =>
    obtain ⟨⟨hn2, hnl⟩, hst⟩ := unqV_ends hx rest.data.toList
    rw [hL] at hnl
    obtain ⟨N, hN, hNs, hNrun⟩ := slice_to s n hnl
    obtain ⟨N1, hN1, hN1s, hN1run⟩ := concat_run N rest (by omega) (by omega)
    have HS : Hid (unqV N1.data.toList = (x, n, true)) := Lib.hid (by rw [hN1, hN]; exact hst)
    have hN1s' : N1.size ≤ 1500 := by omega
    have hnlo : ¬ (n : Int) < 2 := by omega
    have hnhi : ¬ (s.size : Int) < (n : Int) := by omega
    have hnn : ((n : Int) != (n : Int)) = false := by simp
    clear hst hN hN1 hN1s hNs hn2 hnl hx
    go_wp2_with fail
    refine (unq_calls s _ (by omega) (hE.below hb1).u8).mono ?_
    rintro e w2 ⟨rfl, hb2⟩
    rw [HX.out]
    have hb2 := hb1.trans (hb2.mono hb1.size)
    go_wp2_with fail
    refine (unq_calls N1 _ (by omega) (hE.below hb2).u8).mono ?_
    rintro e w3 ⟨rfl, hb3⟩
    rw [HS.out]
    have hb3 := hb2.trans (hb3.mono hb2.size)
    go_wp2_with fail
    refine (number_calls s _ (by omega)).mono ?_
    rintro e w4 ⟨rfl, hb4⟩
    rw [HK.out]
    have hb4 := hb3.trans (hb4.mono hb3.size)
    go_wp2_with fail
    refine (number_calls K _ (by omega)).mono ?_
    rintro e w5 ⟨rfl, hb5⟩
    rw [HKT.out]
    have hb5 := hb4.trans (hb5.mono hb4.size)
    by_cases hk0 : k = 0
    · have hkb : ((k : Int) == 0) = true := by simp; omega
      go_wp2_with fail
      go_ret
      exact ⟨rfl, hb5⟩
    · have hkb : ((k : Int) == 0) = false := by simp; omega
      go_wp2_with fail
      refine (number_calls K2 _ (by omega)).mono ?_
      rintro e w6 ⟨rfl, hb6⟩
      rw [HKC.out hk0]
      have hb6 := hb5.trans (hb6.mono hb5.size)
      go_wp2_with fail
      go_ret
      exact ⟨rfl, hb6⟩
  | false =>
    obtain ⟨rfl, rfl⟩ := unqV_no hx
    clear hx
    go_wp2_with fail
    refine (unq_calls s _ (by omega) (hE.below hb1).u8).mono ?_
    rintro e w2 ⟨rfl, hb2⟩
    rw [HX.out]
    have hb2 := hb1.trans (hb2.mono hb1.size)
    go_wp2_with fail
    refine (number_calls s _ (by omega)).mono ?_
    rintro e w3 ⟨rfl, hb3⟩
    rw [HK.out]
    have hb3 := hb2.trans (hb3.mono hb2.size)
    go_wp2_with fail
    refine (number_calls K _ (by omega)).mono ?_
    rintro e w4 ⟨rfl, hb4⟩
    rw [HKT.out]
    have hb4 := hb3.trans (hb4.mono hb3.size)
    by_cases hk0 : k = 0
    · have hkb : ((k : Int) == 0) = true := by simp; omega
      go_wp2_with fail
      go_ret
      exact ⟨rfl, hb4⟩
    · have hkb : ((k : Int) == 0) = false := by simp; omega
      go_wp2_with fail
      refine (number_calls K2 _ (by omega)).mono ?_
      rintro e w5 ⟨rfl, hb5⟩
      rw [HKC.out hk0]
      have hb5 := hb4.trans (hb5.mono hb4.size)
      go_wp2_with fail
      go_ret
      exact ⟨rfl, hb5⟩
end Go.Proofs.YtangbkiheoekaaaDoor
