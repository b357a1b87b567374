/- JtextParts answers true. -/
import Derived.Test.YtangbkiheoekaaaDoorJtSmall
import Derived.Test.YtangbkiheoekaaaDoorJtBack
import Derived.Test.YtangbkiheoekaaaDoorJtRef7
import Derived.Deep.RegionHeld3
namespace Go.Proofs.YtangbkiheoekaaaDoor
open Go.RowKit

theorem slice_upto (s : ByteArray) (b : Nat) (hb : b ≤ s.size) : ∃ R : ByteArray, R.data.toList = s.data.toList.take b ∧ R.size = b ∧
    ∀ w, (Instr.slice 9 (.string s) none (some (.int .i64 (b : Int))) none).run Tryd.prog w = .ok (.string R) w :=
  ⟨s.extract 0 b, by simp, by simp; omega, fun w => by
    have := run_slice_string_h (P := Tryd.prog) w 9 s Tryd.underlying9 .i64 (b : Int) (by omega) (by omega)
    simpa using this⟩

theorem quote_made (l : List UInt8) : ∃ Q : ByteArray, (⟨(quote l).toArray⟩ : ByteArray) = Q ∧ Q.data.toList = quote l ∧ Q.size = (quote l).length ∧ 2 ≤ Q.size ∧ Q.size ≤ 6 * l.length + 2 :=
  ⟨_, rfl, rfl, by simp [ByteArray.size], by simp [ByteArray.size, quote], by have := quote_length l; simpa [ByteArray.size] using this⟩

set_option maxHeartbeats 16000000 in
set_option maxRecDepth 1000000 in
theorem parts_calls (a b : ByteArray) (w : World) (hE : Env w) :
    Calls Tryd.prog 7 #[.string a, .string b] w fun e w' => e = .returned (.bool true) ∧ Below w.heap.size w w' := by
  go_enter Tryd.func7, Tryd.ntmps7
  go_wp2_with fail
  refine (small_calls _ hE).mono ?_
  rintro e w1 ⟨rfl, hb1⟩
  have hways : (1000 : Int) < (a.size : Int) ∨ (¬ (1000 : Int) < (a.size : Int) ∧ (1000 : Int) < (b.size : Int)) ∨ (¬ (1000 : Int) < (a.size : Int) ∧ ¬ (1000 : Int) < (b.size : Int)) := by omega
  rcases hways with g1 | ⟨g1, g2⟩ | ⟨g1, g2⟩
  · go_wp2_with fail
    go_ret
    exact ⟨rfl, hb1⟩
  · go_wp2_with fail
    go_ret
    exact ⟨rfl, hb1⟩
  cases hva : valids a.data.toList with
  | false =>
    have HA := Lib.hid hva
    clear hva
    go_wp2_with fail
    refine (valid_calls a _).mono ?_
    rintro e w2 ⟨rfl, hb2⟩
    rw [HA.out]
    have hb2 := hb1.trans (hb2.mono hb1.size)
    go_wp2_with fail
    go_ret
    exact ⟨rfl, hb2⟩
  | true =>
    have HA := Lib.hid hva
    clear hva
    go_wp2_with fail
    refine (valid_calls a _).mono ?_
    rintro e w2 ⟨rfl, hb2⟩
    rw [HA.out]
    have hb2 := hb1.trans (hb2.mono hb1.size)
    cases hvb : valids b.data.toList with
    | false =>
      have HB := Lib.hid hvb
      clear hvb
      go_wp2_with fail
      refine (valid_calls b _).mono ?_
      rintro e w3 ⟨rfl, hb3⟩
      rw [HB.out]
      have hb3 := hb2.trans (hb3.mono hb2.size)
      go_wp2_with fail
      go_ret
      exact ⟨rfl, hb3⟩
    | true =>
      have HB := Lib.hid hvb
      clear hvb
      go_wp2_with fail
      refine (valid_calls b _).mono ?_
      rintro e w3 ⟨rfl, hb3⟩
      rw [HB.out]
      have hb3 := hb2.trans (hb3.mono hb2.size)
      obtain ⟨X, hX, hXl, hXs, hX2, hXu⟩ := quote_made a.data.toList
      obtain ⟨Y, hY, hYl, hYs, hY2, hYu⟩ := quote_made b.data.toList
      obtain ⟨AB, hAB, hABs, hABrun⟩ := concat_run a b (by omega) (by omega)
      obtain ⟨P, hP, hPs, hPrun⟩ := slice_upto X (X.size - 1) (by omega)
      obtain ⟨S, hS, hSs, hSrun⟩ := slice_from Y 1 (by omega)
      rw [show ((X.size - 1 : Nat) : Int) = (X.size : Int) - 1 by omega] at hPrun
      have hSrun : ∀ w, (Instr.slice 9 (.string Y) (some (.int .i64 1)) none none).run Tryd.prog w = .ok (.string S) w := hSrun
      have la : a.data.toList.length = a.size := by simp
      have lb : b.data.toList.length = b.size := by simp
      rw [la] at hXu
      rw [lb] at hYu
      have hwr : IntKind.i64.wrap ((X.size : Int) - 1) = (X.size : Int) - 1 := IntWalk.i64_in _ (by omega)
      obtain ⟨U, hU, hUs, hUrun⟩ := concat_run P S (by omega) (by omega)
      have HU : Hid ((⟨(quote AB.data.toList).toArray⟩ : ByteArray) = U) := Lib.hid (by
        have h := quote_parts a.data.toList b.data.toList HA.out
        have h2 : U.data.toList = quote AB.data.toList := by
          rw [hU, hP, hS, hXl, hYl, hAB, h, hXs]
        rw [← h2])
      have HX := Lib.hid hX
      have HY := Lib.hid hY
      have hx2 : ¬ (X.size : Int) < 2 := by omega
      have hy2 : ¬ (Y.size : Int) < 2 := by omega
      have hABz : AB.size ≤ 2000 := by omega
      clear hX hXl hXs hY hYl hYs hAB hABs hP hPs hS hSs hU hUs la lb
      go_wp2_with fail
      refine (quote_calls a _ (by omega)).mono ?_
      rintro e w4 ⟨rfl, hb4⟩
      rw [HX.out]
      have hb4 := hb3.trans (hb4.mono hb3.size)
      go_wp2_with fail
      refine (quote_calls b _ (by omega)).mono ?_
      rintro e w5 ⟨rfl, hb5⟩
      rw [HY.out]
      have hb5 := hb4.trans (hb5.mono hb4.size)
      go_wp2_with fail
      go_region_held3 (fun w' => True) (trivial) (first | (go_at_call 12; refine (quote_calls AB _ (by omega)).mono ?_; rintro e w6 ⟨rfl, hb6⟩; rw [HU.out]))
      all_goals
        go_wp2_with fail
        go_ret
        exact ⟨rfl, (hb5.drew).trans (hb6.mono hb5.drew.size)⟩
end Go.Proofs.YtangbkiheoekaaaDoor
