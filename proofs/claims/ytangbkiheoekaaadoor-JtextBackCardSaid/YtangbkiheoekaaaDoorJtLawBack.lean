/- JtextBack answers true. -/
import Derived.Test.YtangbkiheoekaaaDoorJtLawParts
namespace Go.Proofs.YtangbkiheoekaaaDoor
open Go.RowKit

theorem read_made (l : List UInt8) : ∃ Q : ByteArray, (⟨l.toArray⟩ : ByteArray) = Q ∧ Q.data.toList = l ∧ Q.size = l.length :=
  ⟨_, rfl, rfl, by simp [ByteArray.size]⟩

set_option maxHeartbeats 16000000 in
set_option maxRecDepth 1000000 in
theorem back_calls (s rest t : ByteArray) (w : World) (hE : Env w) :
    Calls Tryd.prog 5 #[.string s, .string rest, .string t] w fun e w' => e = .returned (.bool true) ∧ Below w.heap.size w w' := by
  go_enter Tryd.func5, Tryd.ntmps5
  go_wp2_with fail
  refine (small_calls _ hE).mono ?_
  rintro e w1 ⟨rfl, hb1⟩
  have hways : (1500 : Int) < (s.size : Int) ∨ (¬ (1500 : Int) < (s.size : Int) ∧ (500 : Int) < (rest.size : Int)) ∨ (¬ (1500 : Int) < (s.size : Int) ∧ ¬ (500 : Int) < (rest.size : Int) ∧ (1500 : Int) < (t.size : Int)) ∨ (¬ (1500 : Int) < (s.size : Int) ∧ ¬ (500 : Int) < (rest.size : Int) ∧ ¬ (1500 : Int) < (t.size : Int)) := by omega
  rcases hways with g1 | ⟨g1, g2⟩ | ⟨g1, g2, g3⟩ | ⟨g1, g2, g3⟩
  · go_wp2_with fail
    go_ret
    exact ⟨rfl, hb1⟩
  · go_wp2_with fail
    go_ret
    exact ⟨rfl, hb1⟩
  · go_wp2_with fail
    go_ret
    exact ⟨rfl, hb1⟩
  have ls : s.data.toList.length = s.size := by simp
  have lt : t.data.toList.length = t.size := by simp
  obtain ⟨Q, hQ, hQl, hQs, hQ2, hQu⟩ := quote_made s.data.toList
  obtain ⟨QR, hQR, hQRs, hQRrun⟩ := concat_run Q rest (by omega) (by omega)
  obtain ⟨x, hx, hxv⟩ := back s.data.toList rest.data.toList
  obtain ⟨X, hX, hXl, hXs⟩ := read_made x
  have HQ := Lib.hid hQ
  have HQR : Hid (unqV QR.data.toList = (X.data.toList, Q.size, true)) := Lib.hid (by rw [hQR, hQl, hx, hXl, hQs])
  have HXV : Hid (valids s.data.toList = true → X = s) := Lib.hid (fun h => by
    have := hxv h
    rw [← hXl] at this
    exact ByteArray.ext (Array.toList_inj.1 this))
  have hqq : ((Q.size : Int) != (Q.size : Int)) = false := by simp
  have hQRz : QR.size ≤ 10000 := by omega
  clear hQ hQl hQs hQR hQRs hx hxv hX hXl hXs
  go_wp2_with fail
  refine (quote_calls s _ (by omega)).mono ?_
  rintro e w2 ⟨rfl, hb2⟩
  rw [HQ.out]
  have hb2 := hb1.trans (hb2.mono hb1.size)
  go_wp2_with fail
  refine (unq_calls QR _ (by omega) (hE.below hb2).u8).mono ?_
  rintro e w3 ⟨rfl, hb3⟩
  rw [HQR.out]
  have hb3 := hb2.trans (hb3.mono hb2.size)
  have hgo : ∀ w4, Below w.heap.size w w4 → True := fun _ _ => trivial
  cases hvs : valids s.data.toList with
  | _ =>
    first
    | (have hXe : X = s := HXV.out hvs
       subst hXe)
    | skip
    have HVS := Lib.hid hvs
    clear hvs
    go_wp2_with fail
    refine (valid_calls _ _).mono ?_
    rintro e w4 ⟨rfl, hb4⟩
    rw [HVS.out]
    have hb4 := hb3.trans (hb4.mono hb3.size)
    obtain ⟨y, hy⟩ : ∃ y, unqV t.data.toList = y := ⟨_, rfl⟩
    obtain ⟨y, k, is⟩ := y
    cases is with
    | false =>
      obtain ⟨rfl, rfl⟩ := unqV_no hy
      have HY := Lib.hid hy
      clear hy
      go_wp2_with fail
      refine (unq_calls t _ (by omega) (hE.below hb4).u8).mono ?_
      rintro e w5 ⟨rfl, hb5⟩
      rw [HY.out]
      have hb5 := hb4.trans (hb5.mono hb4.size)
      go_wp2_with fail
      go_ret
      exact ⟨rfl, hb5⟩
    | true =>
      have hyv := unqV_valid hy
      have hyl := unqV_short hy
      have hag := back_again hyv
      obtain ⟨Y, hY, hYl, hYs⟩ := read_made y
      obtain ⟨Z, hZ, hZl, hZs, hZ2, hZu⟩ := quote_made Y.data.toList
      have HY : Hid (unqV t.data.toList = (Y.data.toList, k, true)) := Lib.hid (by rw [hYl]; exact hy)
      have HZ := Lib.hid hZ
      have HYV : Hid (valids Y.data.toList = true) := Lib.hid (by rw [hYl]; exact hyv)
      have HAG : Hid (unqV Z.data.toList = (Y.data.toList, Z.size, true)) := Lib.hid (by rw [hZl, hYl, hag, hZs, hYl])
      have hYz : Y.size ≤ 6000 := by omega
      have hZz : Z.size ≤ 40000 := by rw [hYl] at hZu; omega
      have hzz : ((Z.size : Int) == (Z.size : Int)) = true := by simp
      clear hyv hyl hag hY hYl hYs hZ hZl hZs hy
      go_wp2_with fail
      refine (unq_calls t _ (by omega) (hE.below hb4).u8).mono ?_
      rintro e w5 ⟨rfl, hb5⟩
      rw [HY.out]
      have hb5 := hb4.trans (hb5.mono hb4.size)
      go_wp2_with fail
      refine (quote_calls Y _ (by omega)).mono ?_
      rintro e w6 ⟨rfl, hb6⟩
      rw [HZ.out]
      have hb6 := hb5.trans (hb6.mono hb5.size)
      go_wp2_with fail
      refine (unq_calls Z _ (by omega) (hE.below hb6).u8).mono ?_
      rintro e w7 ⟨rfl, hb7⟩
      rw [HAG.out]
      have hb7 := hb6.trans (hb7.mono hb6.size)
      go_wp2_with fail
      refine (quote_calls Y _ (by omega)).mono ?_
      rintro e w8 ⟨rfl, hb8⟩
      rw [HZ.out]
      have hb8 := hb7.trans (hb8.mono hb7.size)
      go_wp2_with fail
      refine (valid_calls Y _).mono ?_
      rintro e w9 ⟨rfl, hb9⟩
      rw [HYV.out]
      have hb9 := hb8.trans (hb9.mono hb8.size)
      go_wp2_with fail
      go_ret
      exact ⟨rfl, hb9⟩
end Go.Proofs.YtangbkiheoekaaaDoor
