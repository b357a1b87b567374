/- small: the small case comes out right. -/
import Derived.Test.YtangbkiheoekaaaDoorJtInt
import Derived.Test.YtangbkiheoekaaaDoorJtNum
import Derived.Test.YtangbkiheoekaaaDoorJtRef4
namespace Go.Proofs.YtangbkiheoekaaaDoor
open Go.RowKit

theorem q_at (a b : ByteArray) (h : quote a.data.toList = b.data.toList) (hs : a.size ≤ 1099511627776) (w : World) :
    Calls Tryd.prog 12 #[.string a] w fun e w' => e = .returned (.string b) ∧ Below w.heap.size w w' := by
  have := quote_calls a w hs
  rw [h] at this
  exact this
theorem u_at (a b : ByteArray) (n : Nat) (ok : Bool) (h : unqV a.data.toList = (b.data.toList, n, ok)) (hs : a.size ≤ 1099511627776) (w : World) (hE : Env w) :
    Calls Tryd.prog 10 #[.string a] w fun e w' => e = .returned (.tuple #[.string b, .int .i64 n, .bool ok]) ∧ Below w.heap.size w w' := by
  have := unq_calls a w hs hE.u8
  rw [h] at this
  exact this
theorem i_at (a : ByteArray) (v : Int) (ok : Bool) (h : (intOf? a.data.toList).getD 0 = v ∧ (intOf? a.data.toList).isSome = ok) (hs : a.size ≤ 1099511627776) (w : World) (hE : Env w) :
    Calls Tryd.prog 14 #[.string a] w fun e w' => e = .returned (.tuple #[.int .i64 v, .bool ok]) ∧ Below w.heap.size w w' := by
  have := int_calls a w hs hE
  rw [h.1, h.2] at this
  exact this
theorem n_at (a : ByteArray) (k : Nat) (h : number a.data.toList = k) (hs : a.size ≤ 1099511627776) (w : World) :
    Calls Tryd.prog 16 #[.string a] w fun e w' => e = .returned (.int .i64 k) ∧ Below w.heap.size w w' := by
  have := number_calls a w hs
  rw [h] at this
  exact this

theorem c1 : quote [97, 34, 92, 10, 1, 255, 195, 164, 47] = [34, 97, 92, 34, 92, 92, 92, 110, 92, 117, 48, 48, 48, 49, 239, 191, 189, 195, 164, 47, 34] := by decide +kernel
theorem c2 : unqV [34, 97, 92, 34, 92, 92, 92, 110, 92, 117, 48, 48, 48, 49, 239, 191, 189, 195, 164, 47, 34, 114, 101, 115, 116] = ([97, 34, 92, 10, 1, 239, 191, 189, 195, 164, 47], 21, true) := by decide +kernel
theorem c3 : unqV [34, 92, 117, 48, 48, 52, 49, 92, 117, 100, 56, 51, 100, 92, 117, 100, 101, 48, 48, 92, 47, 34] = ([65, 240, 159, 152, 128, 47], 22, true) := by decide +kernel
theorem c4 : unqV [34, 92, 117, 100, 56, 51, 100, 34] = ([], 0, false) := by decide +kernel
theorem c5 : unqV [34, 97, 10, 98, 34] = ([], 0, false) := by decide +kernel
theorem c6 : (intOf? [45, 49, 50]).getD 0 = -12 ∧ (intOf? [45, 49, 50]).isSome = true := by decide +kernel
theorem c7 : (intOf? [49, 46, 48]).getD 0 = 0 ∧ (intOf? [49, 46, 48]).isSome = false := by decide +kernel
theorem c8 : number [45, 49, 46, 53, 101, 43, 51, 120] = 7 := by decide +kernel
theorem c9 : number [48, 49] = 1 := by decide +kernel
theorem c10 : number [45] = 0 := by decide +kernel
theorem c11 : number [49, 46] = 1 := by decide +kernel

set_option maxHeartbeats 16000000 in
set_option maxRecDepth 1000000 in
theorem small_calls (w : World) (hE : Env w) :
    Calls Tryd.prog 9 #[] w fun e w' => e = .returned (.bool true) ∧ Below w.heap.size w w' := by
  go_enter Tryd.func9, Tryd.ntmps9
  go_wp2_with fail
  refine (q_at ⟨#[97, 34, 92, 10, 1, 255, 195, 164, 47]⟩ ⟨#[34, 97, 92, 34, 92, 92, 92, 110, 92, 117, 48, 48, 48, 49, 239, 191, 189, 195, 164, 47, 34]⟩ c1 (by decide) _).mono ?_
  rintro e w1 ⟨rfl, hb1⟩
  go_wp2_with fail
  refine (u_at ⟨#[34, 97, 92, 34, 92, 92, 92, 110, 92, 117, 48, 48, 48, 49, 239, 191, 189, 195, 164, 47, 34, 114, 101, 115, 116]⟩ ⟨#[97, 34, 92, 10, 1, 239, 191, 189, 195, 164, 47]⟩ 21 true c2 (by decide) _ (hE.below hb1)).mono ?_
  rintro e w2 ⟨rfl, hb2⟩
  have hb2 := hb1.trans (hb2.mono hb1.size)
  go_wp2_with fail
  refine (u_at ⟨#[34, 92, 117, 48, 48, 52, 49, 92, 117, 100, 56, 51, 100, 92, 117, 100, 101, 48, 48, 92, 47, 34]⟩ ⟨#[65, 240, 159, 152, 128, 47]⟩ 22 true c3 (by decide) _ (hE.below hb2)).mono ?_
  rintro e w3 ⟨rfl, hb3⟩
  have hb3 := hb2.trans (hb3.mono hb2.size)
  go_wp2_with fail
  refine (u_at ⟨#[34, 92, 117, 100, 56, 51, 100, 34]⟩ ⟨#[]⟩ 0 false c4 (by decide) _ (hE.below hb3)).mono ?_
  rintro e w4 ⟨rfl, hb4⟩
  have hb4 := hb3.trans (hb4.mono hb3.size)
  go_wp2_with fail
  refine (u_at ⟨#[34, 97, 10, 98, 34]⟩ ⟨#[]⟩ 0 false c5 (by decide) _ (hE.below hb4)).mono ?_
  rintro e w5 ⟨rfl, hb5⟩
  have hb5 := hb4.trans (hb5.mono hb4.size)
  go_wp2_with fail
  refine (i_at ⟨#[45, 49, 50]⟩ (-12) true c6 (by decide) _ (hE.below hb5)).mono ?_
  rintro e w6 ⟨rfl, hb6⟩
  have hb6 := hb5.trans (hb6.mono hb5.size)
  go_wp2_with fail
  refine (i_at ⟨#[49, 46, 48]⟩ 0 false c7 (by decide) _ (hE.below hb6)).mono ?_
  rintro e w7 ⟨rfl, hb7⟩
  have hb7 := hb6.trans (hb7.mono hb6.size)
  go_wp2_with fail
  refine (n_at ⟨#[45, 49, 46, 53, 101, 43, 51, 120]⟩ 7 c8 (by decide) _).mono ?_
  rintro e w8 ⟨rfl, hb8⟩
  have hb8 := hb7.trans (hb8.mono hb7.size)
  go_wp2_with fail
  refine (n_at ⟨#[48, 49]⟩ 1 c9 (by decide) _).mono ?_
  rintro e w9 ⟨rfl, hb9⟩
  have hb9 := hb8.trans (hb9.mono hb8.size)
  go_wp2_with fail
  refine (n_at ⟨#[45]⟩ 0 c10 (by decide) _).mono ?_
  rintro e w10 ⟨rfl, hb10⟩
  have hb10 := hb9.trans (hb10.mono hb9.size)
  go_wp2_with fail
  refine (n_at ⟨#[49, 46]⟩ 1 c11 (by decide) _).mono ?_
  rintro e w11 ⟨rfl, hb11⟩
  have hb11 := hb10.trans (hb11.mono hb10.size)
  go_wp2_with fail
  go_ret
  exact ⟨rfl, hb11⟩
end Go.Proofs.YtangbkiheoekaaaDoor
