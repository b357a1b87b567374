/- The reference's char. -/
import Derived.Test.YtangbkiheoekaaaDoorJtRef
import Derived.Test.YtangbkiheoekaaaDoorJtNum
namespace Go.Proofs.YtangbkiheoekaaaDoor
open Go.RowKit

/-- The character that bytes begin with; (0, 0): none. -/
def charV (l : List UInt8) : Nat × Nat := if okc l = true then dec l else (0, 0)

/-- Is the k-th byte one that goes on? -/
def goesOn (l : List UInt8) (k : Nat) : Prop := k < l.length ∧ 128 ≤ gb l k ∧ gb l k ≤ 191

theorem charV_of {l : List UInt8} {r n : Nat} (h : dec l = (r, n)) (hn : n ≠ 1) : charV l = (r, n) := by
  unfold charV okc; rw [h, if_pos]; simp; omega
theorem charV_bad {l : List UInt8} (h : dec l = (65533, 1)) : charV l = (0, 0) := by
  unfold charV okc; rw [h]; rfl
theorem charV_one {l : List UInt8} (h : gb l 0 < 128) : charV l = (gb l 0, 1) := by
  have hd : dec l = (gb l 0, 1) := by unfold dec Lib.decodeN; rw [if_pos h]
  unfold charV okc; rw [hd, if_pos]; simp; omega
theorem charV_none {l : List UInt8} (h : (128 ≤ gb l 0 ∧ gb l 0 < 192) ∨ 248 ≤ gb l 0) : charV l = (0, 0) := by
  have := gb_lt l 0
  apply charV_bad
  unfold dec Lib.decodeN
  rw [if_neg (by omega), if_neg (by omega), if_neg (by omega), if_neg (by omega)]

theorem charV_two {l : List UInt8} (h : 192 ≤ gb l 0 ∧ gb l 0 < 224) (hg : goesOn l 1) (v : Nat) (hv : v + 128 = (gb l 0 - 192) * 64 + gb l 1) :
    charV l = if v < 128 then (0, 0) else (v, 2) := by
  obtain ⟨g1, g2, g3⟩ := hg
  by_cases c : v < 128
  · rw [if_pos c]; apply charV_bad
    unfold dec Lib.decodeN; rw [if_neg (by omega), if_pos (by omega), if_neg (by omega)]
  · rw [if_neg c]; refine charV_of ?_ (by omega)
    unfold dec Lib.decodeN; rw [if_neg (by omega), if_pos (by omega), if_pos (by omega)]
    exact Prod.ext (by simp only []; omega) rfl
theorem charV_two_no {l : List UInt8} (h : 192 ≤ gb l 0 ∧ gb l 0 < 224) (hg : ¬ goesOn l 1) : charV l = (0, 0) := by
  apply charV_bad
  unfold goesOn at hg
  unfold dec Lib.decodeN; rw [if_neg (by omega), if_neg (by omega), if_neg (by omega), if_neg (by omega)]
theorem charV_three {l : List UInt8} (h : 224 ≤ gb l 0 ∧ gb l 0 < 240) (hg : goesOn l 1) (hg2 : goesOn l 2) (v : Nat) (hv : v + 128 + 8192 = (gb l 0 - 224) * 4096 + gb l 1 * 64 + gb l 2) :
    charV l = if v < 2048 ∨ (55296 ≤ v ∧ v < 57344) then (0, 0) else (v, 3) := by
  obtain ⟨g1, g2, g3⟩ := hg
  obtain ⟨g4, g5, g6⟩ := hg2
  by_cases c : v < 2048 ∨ (55296 ≤ v ∧ v < 57344)
  · rw [if_pos c]; apply charV_bad
    unfold dec Lib.decodeN; rw [if_neg (by omega), if_neg (by omega), if_pos (by omega), if_neg (by omega)]
  · rw [if_neg c]; refine charV_of ?_ (by omega)
    unfold dec Lib.decodeN; rw [if_neg (by omega), if_neg (by omega), if_pos (by omega), if_pos (by omega)]
    exact Prod.ext (by simp only []; omega) rfl
theorem charV_three_no {l : List UInt8} (h : 224 ≤ gb l 0 ∧ gb l 0 < 240) (hg : ¬ goesOn l 1 ∨ ¬ goesOn l 2) : charV l = (0, 0) := by
  apply charV_bad
  unfold goesOn at hg
  unfold dec Lib.decodeN; rw [if_neg (by omega), if_neg (by omega), if_neg (by omega), if_neg (by omega)]
theorem charV_four {l : List UInt8} (h : 240 ≤ gb l 0 ∧ gb l 0 < 248) (hg : goesOn l 1) (hg2 : goesOn l 2) (hg3 : goesOn l 3) (v : Nat) (hv : v + 128 + 8192 + 524288 = (gb l 0 - 240) * 262144 + gb l 1 * 4096 + gb l 2 * 64 + gb l 3) :
    charV l = if v < 65536 ∨ 1114111 < v then (0, 0) else (v, 4) := by
  obtain ⟨g1, g2, g3⟩ := hg
  obtain ⟨g4, g5, g6⟩ := hg2
  obtain ⟨g7, g8, g9⟩ := hg3
  by_cases c : v < 65536 ∨ 1114111 < v
  · rw [if_pos c]; apply charV_bad
    unfold dec Lib.decodeN; rw [if_neg (by omega), if_neg (by omega), if_neg (by omega), if_pos (by omega), if_neg (by omega)]
  · rw [if_neg c]; refine charV_of ?_ (by omega)
    unfold dec Lib.decodeN; rw [if_neg (by omega), if_neg (by omega), if_neg (by omega), if_pos (by omega), if_pos (by omega)]
    exact Prod.ext (by simp only []; omega) rfl
theorem charV_four_no {l : List UInt8} (h : 240 ≤ gb l 0 ∧ gb l 0 < 248) (hg : ¬ goesOn l 1 ∨ ¬ goesOn l 2 ∨ ¬ goesOn l 3) : charV l = (0, 0) := by
  apply charV_bad
  unfold goesOn at hg
  unfold dec Lib.decodeN; rw [if_neg (by omega), if_neg (by omega), if_neg (by omega), if_neg (by omega)]

theorem byte_run (s : ByteArray) (k : Nat) (hk : k < s.size) : ∀ w, (Instr.index 9 (.string s) (.int .i64 (k : Int))).run Tryd.prog w = .ok (.int .u8 (gb s.data.toList k)) w := by
  intro w
  have hr := run_index_string (P := Tryd.prog) w 9 s .i64 (k : Int) Tryd.underlying9
  rw [dif_pos ⟨by omega, by omega⟩] at hr
  rw [hr, byteAt s k hk]
  simp only [Int.toNat_natCast]

set_option maxHeartbeats 8000000 in
set_option maxRecDepth 1000000 in
theorem char_small (s : ByteArray) (hp : 0 < s.size) (hb : gb s.data.toList 0 < 192 ∨ 248 ≤ gb s.data.toList 0) (w : World) :
    Calls Tryd.prog 26 #[.string s] w fun e w' => e = .returned (.tuple #[.int .i64 (charV s.data.toList).1, .int .i64 (charV s.data.toList).2]) ∧ Below w.heap.size w w' := by
  have hrun := head_run s hp
  have hlt := gb_lt s.data.toList 0
  obtain ⟨c, hc⟩ : ∃ c, gb s.data.toList 0 = c := ⟨_, rfl⟩
  rw [hc] at hrun hb hlt
  by_cases h1 : c < 128
  · have h1' : (c : Int) < 128 := by omega
    have HC := Lib.hid (hc ▸ charV_one (hc ▸ h1))
    clear hc h1 hb
    go_enter Tryd.func26, Tryd.ntmps26
    go_wp2_with fail
    go_ret2
    rw [HC.out]
    exact ⟨rfl, Below.refl _ _⟩
  · have h1' : ¬ (c : Int) < 128 := by omega
    have HC := Lib.hid (charV_none (l := s.data.toList) (by omega))
    clear hc h1
    have hways : ((128 : Int) ≤ (c : Int) ∧ (c : Int) < 192) ∨ (248 : Int) ≤ (c : Int) := by omega
    clear hb
    rcases hways with ⟨h2, h3⟩ | h2
    all_goals
      go_enter Tryd.func26, Tryd.ntmps26
      go_wp2_with fail
      go_ret2
      rw [HC.out]
      exact ⟨rfl, Below.refl _ _⟩
end Go.Proofs.YtangbkiheoekaaaDoor
