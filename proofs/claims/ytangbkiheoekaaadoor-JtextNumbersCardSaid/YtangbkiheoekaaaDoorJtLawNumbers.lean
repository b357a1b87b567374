/- JtextNumbers answers true. -/
import Derived.Test.YtangbkiheoekaaaDoorJtSmall
import Derived.Test.YtangbkiheoekaaaDoorJtIntEq
namespace Go.Proofs.YtangbkiheoekaaaDoor
open Go.RowKit

set_option maxHeartbeats 16000000 in
set_option maxRecDepth 1000000 in
theorem numbers_calls (s : ByteArray) (w : World) (hE : Env w) :
    Calls Tryd.prog 4 #[.string s] w fun e w' => e = .returned (.bool true) ∧ Below w.heap.size w w' := by
  go_enter Tryd.func4, Tryd.ntmps4
  go_wp2_with fail
  refine (small_calls _ hE).mono ?_
  rintro e w1 ⟨rfl, hb1⟩
  by_cases g1 : (2000 : Int) < (s.size : Int)
  · go_wp2_with fail
    go_ret
    exact ⟨rfl, hb1⟩
  obtain ⟨k, hk⟩ : ∃ k, number s.data.toList = k := ⟨_, rfl⟩
  have HK := Lib.hid hk
  obtain ⟨v, hv⟩ : ∃ v, (intOf? s.data.toList).getD 0 = v := ⟨_, rfl⟩
  have HV := Lib.hid hv
  obtain ⟨b, hbb⟩ : ∃ b, (intOf? s.data.toList).isSome = b := ⟨_, rfl⟩
  have HB := Lib.hid hbb
  have hkk : ((k : Int) == (k : Int)) = true := by simp
  have hvv : (v == v) = true := by simp
  clear hk hv hbb
  go_wp2_with fail
  refine (int_calls s _ (by omega) (hE.below hb1)).mono ?_
  rintro e w2 ⟨rfl, hb2⟩
  rw [HV.out, HB.out]
  have hb2 := hb1.trans (hb2.mono hb1.size)
  go_wp2_with fail
  refine (rint_calls s _ (by omega)).mono ?_
  rintro e w3 ⟨rfl, hb3⟩
  rw [rint_eq, HV.out, HB.out]
  have hb3 := hb2.trans (hb3.mono hb2.size)
  go_wp2_with fail
  refine (number_calls s _ (by omega)).mono ?_
  rintro e w4 ⟨rfl, hb4⟩
  rw [HK.out]
  have hb4 := hb3.trans (hb4.mono hb3.size)
  go_wp2_with fail
  refine (rnumber_calls s _ (by omega)).mono ?_
  rintro e w5 ⟨rfl, hb5⟩
  rw [HK.out]
  have hb5 := hb4.trans (hb5.mono hb4.size)
  cases b
  all_goals
    go_wp2_with fail
    go_ret
    exact ⟨rfl, hb5⟩
end Go.Proofs.YtangbkiheoekaaaDoor
