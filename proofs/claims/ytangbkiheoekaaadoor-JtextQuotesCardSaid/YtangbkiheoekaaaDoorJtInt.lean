/- jtext.Int, for every string. -/
import Derived.Test.YtangbkiheoekaaaDoorJtUnq3
import Derived.Lib.ItoaNum
import Derived.Lib.ParseIntB
namespace Go.Proofs.YtangbkiheoekaaaDoor
open Go.RowKit

/-- The whole number of a text. -/
def intOf? (l : List UInt8) : Option Int :=
  match Lib.parseIntB 64 l with
  | .ok v => if Lib.itoa v = l then some v else none
  | _ => none

theorem below_grow (w : World) (q : Nat) (os : Array Obj) : Below w.heap.size w (Sort.grow (w.drewN q) os) :=
  ⟨rfl, rfl, rfl, by simp [Sort.grow], fun i hi => by
    show ((w.drewN q).heap ++ os)[i]? = _
    rw [Array.getElem?_append_left (by show i < w.heap.size; omega)]
    rfl⟩

theorem parseIntB_range {l : List UInt8} {v : Int} (h : Lib.parseIntB 64 l = .ok v) : -9223372036854775808 ≤ v ∧ v ≤ 9223372036854775807 := by
  unfold Lib.parseIntB at h
  cases l with
  | nil => cases h
  | cons c r =>
    simp only [] at h
    split at h
    · cases h
    · cases h
    · rename_i u hu
      split at h
      · cases h
      · split at h
        · cases h
        · rename_i h1 h2
          cases h
          split <;> omega

theorem below_bytes (w : World) (t : ByteArray) : Below w.heap.size w (Lib.bytesWorld w 5 t) := by
  unfold Lib.bytesWorld
  exact Lib.below_freeze (((Below.refl _ w).drew).alloc (Nat.le_refl _) _) (Nat.le_refl _) 1

set_option maxHeartbeats 4000000 in
set_option maxRecDepth 1000000 in
theorem int_calls (s : ByteArray) (w : World) (hs : s.size ≤ 1099511627776) (hE : Env w) :
    Calls Tryd.prog 14 #[.string s] w fun e w' => e = .returned (.tuple #[.int .i64 ((intOf? s.data.toList).getD 0), .bool (intOf? s.data.toList).isSome]) ∧ Below w.heap.size w w' := by
  match hp : Lib.parseIntB 64 s.data.toList with
  | .ok v =>
    have hr := parseIntB_range hp
    obtain ⟨hr0, hr1⟩ := hr
    obtain ⟨T, hT⟩ : ∃ T, Lib.itoa v = T := ⟨_, rfl⟩
    have HT := Lib.hid hT
    have hr64 : Hid (Lib.parseIntB 64 s.data.toList = .ok v) := Lib.hid hp
    by_cases he : T = s.data.toList
    · have hi : intOf? s.data.toList = some v := by unfold intOf?; rw [hp]; simp only [hT, if_pos he]
      have hb : (T == s.toList) = true := by rw [Lib.toList_data]; simp [he]
      have HI := Lib.hid hi
      clear hT he hi
      go_enter Tryd.func14, Tryd.ntmps14
      go_wp2_with fail
      refine (Tryd.strconv_ParseInt_10_at64_ok s (by omega) v hp _).mono ?_
      rintro e w1 ⟨rfl, hw⟩
      have hb1 : Below w.heap.size w w1 := by
        rcases hw with rfl | ⟨t, rfl⟩
        · exact Below.refl _ _
        · exact below_bytes w t
      clear hw
      go_wp2_with fail
      refine (Tryd.strconv_FormatInt_10 v hr0 hr1 _ (hE.below hb1).pow).mono ?_
      rintro e w2 ⟨rfl, k, os, hw2⟩
      have hb2 : Below w1.heap.size w1 w2 := by rw [hw2]; exact below_grow _ _ _
      clear hw2
      rw [HT.out]
      go_wp2_with fail
      go_ret2
      rw [HI.out]
      exact ⟨rfl, hb1.trans (hb2.mono hb1.size)⟩
    · have hi : intOf? s.data.toList = none := by unfold intOf?; rw [hp]; simp only [hT, if_neg he]
      have hb : (T == s.toList) = false := by rw [Lib.toList_data]; simp [he]
      have HI := Lib.hid hi
      clear hT he hi
      go_enter Tryd.func14, Tryd.ntmps14
      go_wp2_with fail
      refine (Tryd.strconv_ParseInt_10_at64_ok s (by omega) v hp _).mono ?_
      rintro e w1 ⟨rfl, hw⟩
      have hb1 : Below w.heap.size w w1 := by
        rcases hw with rfl | ⟨t, rfl⟩
        · exact Below.refl _ _
        · exact below_bytes w t
      clear hw
      go_wp2_with fail
      refine (Tryd.strconv_FormatInt_10 v hr0 hr1 _ (hE.below hb1).pow).mono ?_
      rintro e w2 ⟨rfl, k, os, hw2⟩
      have hb2 : Below w1.heap.size w1 w2 := by rw [hw2]; exact below_grow _ _ _
      clear hw2
      rw [HT.out]
      go_wp2_with fail
      go_ret2
      rw [HI.out]
      exact ⟨rfl, hb1.trans (hb2.mono hb1.size)⟩
  | .syntax =>
    have hi : intOf? s.data.toList = none := by unfold intOf?; rw [hp]
    have HI := Lib.hid hi
    clear hi
    obtain ⟨tp, p, hv⟩ := hE.errS
    go_enter Tryd.func14, Tryd.ntmps14
    go_wp2_with fail
    refine (Tryd.strconv_ParseInt_10_at64_syntax_var s (by omega) hp tp p _ hv).mono ?_
    rintro e w1 ⟨N, rfl, _, _, hb1⟩
    go_wp2_with fail
    go_ret2
    rw [HI.out]
    exact ⟨rfl, hb1⟩
  | .range =>
    have hi : intOf? s.data.toList = none := by unfold intOf?; rw [hp]
    have HI := Lib.hid hi
    clear hi
    obtain ⟨tp, p, hv⟩ := hE.errR
    go_enter Tryd.func14, Tryd.ntmps14
    go_wp2_with fail
    refine (Tryd.strconv_ParseInt_10_at64_range_var s (by omega) hp tp p _ hv).mono ?_
    rintro e w1 ⟨N, rfl, _, _, hb1⟩
    go_wp2_with fail
    go_ret2
    rw [HI.out]
    exact ⟨rfl, hb1⟩
end Go.Proofs.YtangbkiheoekaaaDoor
