/- JtextQuotes answers true. -/
import Derived.Test.YtangbkiheoekaaaDoorJtSmall
import Derived.Test.YtangbkiheoekaaaDoorJtRefU
import Derived.Test.YtangbkiheoekaaaDoorJtRef7
namespace Go.Proofs.YtangbkiheoekaaaDoor
open Go.RowKit

theorem unq_named (s : ByteArray) : ∃ (A : ByteArray) (n : Nat) (b : Bool), unqV s.data.toList = (A.data.toList, n, b) :=
  ⟨⟨(unqV s.data.toList).1.toArray⟩, (unqV s.data.toList).2.1, (unqV s.data.toList).2.2, rfl⟩

set_option maxHeartbeats 16000000 in
set_option maxRecDepth 1000000 in
theorem quotes_calls (s t : ByteArray) (w : World) (hE : Env w) :
    Calls Tryd.prog 3 #[.string s, .string t] w fun e w' => e = .returned (.bool true) ∧ Below w.heap.size w w' := by
  go_enter Tryd.func3, Tryd.ntmps3
  go_wp2_with fail
  refine (small_calls _ hE).mono ?_
  rintro e w1 ⟨rfl, hb1⟩
  have hways : (2000 : Int) < (s.size : Int) ∨ (¬ (2000 : Int) < (s.size : Int) ∧ (2000 : Int) < (t.size : Int)) ∨ (¬ (2000 : Int) < (s.size : Int) ∧ ¬ (2000 : Int) < (t.size : Int)) := by omega
  rcases hways with g1 | ⟨g1, g2⟩ | ⟨g1, g2⟩
  · go_wp2_with fail
    go_ret
    exact ⟨rfl, hb1⟩
  · go_wp2_with fail
    go_ret
    exact ⟨rfl, hb1⟩
  obtain ⟨T, hT, hTs, hTrun⟩ := concat_run ⟨#[34]⟩ t (by show 1 ≤ _; omega) (by omega)
  have hTz : T.size ≤ 2001 := by
    have : (⟨#[34]⟩ : ByteArray).size = 1 := rfl
    omega
  obtain ⟨A, n, b, hA⟩ := unq_named t
  obtain ⟨B, m, c, hB⟩ := unq_named T
  have HA := Lib.hid hA
  have HB := Lib.hid hB
  obtain ⟨Q, hQ⟩ : ∃ Q : ByteArray, (⟨(quote s.data.toList).toArray⟩ : ByteArray) = Q := ⟨_, rfl⟩
  have HQ := Lib.hid hQ
  have hnn : ((n : Int) == (n : Int)) = true := by simp
  have hmm : ((m : Int) == (m : Int)) = true := by simp
  clear hA hB hQ hT hTs
  go_wp2_with fail
  refine (unq_calls t _ (by omega) (hE.below hb1).u8).mono ?_
  rintro e w2 ⟨rfl, hb2⟩
  rw [HA.out]
  have hb2 := hb1.trans (hb2.mono hb1.size)
  go_wp2_with fail
  refine (runq_calls t _ (by omega)).mono ?_
  rintro e w3 ⟨rfl, hb3⟩
  rw [HA.out]
  have hb3 := hb2.trans (hb3.mono hb2.size)
  go_wp2_with fail
  refine (unq_calls T _ (by omega) (hE.below hb3).u8).mono ?_
  rintro e w4 ⟨rfl, hb4⟩
  rw [HB.out]
  have hb4 := hb3.trans (hb4.mono hb3.size)
  go_wp2_with fail
  refine (runq_calls T _ (by omega)).mono ?_
  rintro e w5 ⟨rfl, hb5⟩
  rw [HB.out]
  have hb5 := hb4.trans (hb5.mono hb4.size)
  go_wp2_with fail
  refine (quote_calls s _ (by omega)).mono ?_
  rintro e w6 ⟨rfl, hb6⟩
  rw [HQ.out]
  have hb6 := hb5.trans (hb6.mono hb5.size)
  go_wp2_with fail
  refine (rquote_calls s _ (by omega)).mono ?_
  rintro e w7 ⟨rfl, hb7⟩
  rw [HQ.out]
  have hb7 := hb6.trans (hb7.mono hb6.size)
  cases b
  all_goals
    cases c
    all_goals
      go_wp2_with fail
      go_ret
      exact ⟨rfl, hb7⟩
end Go.Proofs.YtangbkiheoekaaaDoor
