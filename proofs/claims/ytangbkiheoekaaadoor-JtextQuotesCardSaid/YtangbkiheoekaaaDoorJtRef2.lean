/- The reference's Valid, digits, Text. -/
import Derived.Test.YtangbkiheoekaaaDoorJtChar2
namespace Go.Proofs.YtangbkiheoekaaaDoor
open Go.RowKit

def strLen : Value → Nat
  | .string s => s.size
  | _ => 0

set_option maxHeartbeats 8000000 in
set_option maxRecDepth 1000000 in
theorem valid_calls (s : ByteArray) (w : World) :
    Calls Tryd.prog 18 #[.string s] w fun e w' => e = .returned (.bool (valids s.data.toList)) ∧ Below w.heap.size w w' := by
  obtain ⟨L, hL⟩ : ∃ L, s.data.toList = L := ⟨_, rfl⟩
  have H0 : Hid (Tail L 0 s) := Lib.hid ⟨by rw [hL]; rfl, by omega⟩
  rw [hL]
  clear hL
  go_enter Tryd.func18, Tryd.ntmps18
  go_wp2_with fail
  go_loopw [0] (fun v wr => ∃ (R : ByteArray) (k : Nat), v = .string R ∧ Hid (Tail L k R) ∧ Hid (valids L = valids (L.drop k)) ∧ Below w.heap.size w wr) (fun v _ => strLen v)
  case atStart => exact ⟨s, 0, rfl, H0, Lib.hid rfl, Below.refl _ _⟩
  case round =>
    obtain ⟨R, k, rfl, HT, HV, hbw⟩ := hrel
    by_cases hR0 : R.size = 0
    · have hem := HT.out.empty hR0
      have HR : Hid (valids L = true) := Lib.hid (by rw [HV.out, ← HT.out.1, nil_of_size hR0]; rfl)
      clear hR0
      go_wp2_with fail
      go_ret
      rw [HR.out]
      exact ⟨rfl, hbw⟩
    · have hRp : 0 < R.size := by omega
      have hem := full hRp
      have hne := ne_nil_of_size hRp
      obtain ⟨u, hu⟩ : ∃ u, charV R.data.toList = u := ⟨_, rfl⟩
      have hcs := charV_size hne
      rw [hu] at hcs
      have hst : valids L = (okc R.data.toList && valids (R.data.toList.drop (dec R.data.toList).2)) := by rw [HV.out, ← HT.out.1, valids_step hne]
      have hul : u.2 ≤ R.size := by have := hcs.2; rw [Lib.size_eq]; exact this
      by_cases hz : u.2 = 0
      · have hzb : ((u.2 : Int) == 0) = true := by simp; omega
        have HR : Hid (valids L = false) := Lib.hid (by rw [hst, hcs.1.1 hz]; rfl)
        have HU := Lib.hid hu
        clear hR0 hu hcs hst hne hz
        go_wp2_with fail
        refine (char_calls R hRp _).mono ?_
        rintro e w1 ⟨rfl, hb⟩
        rw [HU.out]
        go_wp2_with fail
        go_ret
        rw [HR.out]
        exact ⟨rfl, hbw.trans (hb.mono hbw.size)⟩
      · have hzb : ((u.2 : Int) == 0) = false := by simp; omega
        have hok : okc R.data.toList = true := by
          cases h : okc R.data.toList with
          | true => rfl
          | false => exact absurd (hcs.1.2 h) hz
        have hdu : dec R.data.toList = u := by rw [← charV_ok hok, hu]
        have HV' : Hid (valids L = valids (L.drop (k + u.2))) := Lib.hid (by
          rw [hst, hok, hdu, HT.out.1, List.drop_drop]; rfl)
        have HT' := Lib.hid (HT.out.cut u.2 (by have := HT.out.size; omega))
        have HU := Lib.hid hu
        have hup : 1 ≤ u.2 := by omega
        clear hR0 hu hcs hst hne hz hok hdu
        go_wp2_with fail
        refine (char_calls R hRp _).mono ?_
        rintro e w1 ⟨rfl, hb⟩
        rw [HU.out]
        go_wp2_with fail
        go_roundw
        case rel => exact ⟨_, k + u.2, rfl, HT', HV', hbw.trans (hb.mono hbw.size)⟩
        case measure => simp [strLen]; omega

end Go.Proofs.YtangbkiheoekaaaDoor
