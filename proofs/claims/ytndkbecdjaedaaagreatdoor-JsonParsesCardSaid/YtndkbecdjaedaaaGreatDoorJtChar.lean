/- The reference's char. -/
import Derived.Test.YtndkbecdjaedaaaGreatDoorJtRef
import Derived.Test.YtndkbecdjaedaaaGreatDoorJtNum
namespace Go.Proofs.YtndkbecdjaedaaaGreatDoor
open Go.RowKit

/-- The character that bytes begin with; (0, 0): none. -/
def charV (l : List UInt8) : Nat × Nat := if okc l = true then dec l else (0, 0)

/-- Is the k-th byte one that goes on? -/
def goesOn (l : List UInt8) (k : Nat) : Prop := k < l.length ∧ 128 ≤ gb l k ∧ gb l k ≤ 191

theorem charV_of {l : List UInt8} {r n : Nat} (h : dec l = (r, n)) (hn : n ≠ 1) : charV l = (r, n) := by
  unfold charV okc; rw [h, if_pos]; simp; omega
theorem charV_bad {l : List UInt8} (h : dec l = (65533, 1)) : charV l = (0, 0) := by
  unfold charV okc; rw [h]; rfl
theorem charV_one {l : List UInt8} (h : gb l 0 < 128) : charV l = (gb l 0, 1) := by
  have hd : dec l = (gb l 0, 1) := by unfold dec Lib.decodeN; rw [if_pos h]
  unfold charV okc; rw [hd, if_pos]; simp; omega
theorem charV_none {l : List UInt8} (h : (128 ≤ gb l 0 ∧ gb l 0 < 192) ∨ 248 ≤ gb l 0) : charV l = (0, 0) := by
  have := gb_lt l 0
  apply charV_bad
  unfold dec Lib.decodeN
  rw [if_neg (by omega), if_neg (by omega), if_neg (by omega), if_neg (by omega)]

theorem charV_two {l : List UInt8} (h : 192 ≤ gb l 0 ∧ gb l 0 < 224) (hg : goesOn l 1) (v : Nat) (hv : v + 128 = (gb l 0 - 192) * 64 + gb l 1) :
    charV l = if v < 128 then (0, 0) else (v, 2) := by
  obtain ⟨g1, g2, g3⟩ := hg
  by_cases c : v < 128
  · rw [if_pos c]; apply charV_bad
    unfold dec Lib.decodeN; rw [if_neg (by omega), if_pos (by omega), if_neg (by omega)]
  · rw [if_neg c]; refine charV_of ?_ (by omega)
    unfold dec Lib.decodeN; rw [if_neg (by omega), if_pos (by omega), if_pos (by omega)]
    exact Prod.ext (by simp only []; omega) rfl
theorem charV_two_no {l : List UInt8} (h : 192 ≤ gb l 0 ∧ gb l 0 < 224) (hg : ¬ goesOn l 1) : charV l = (0, 0) := by
  apply charV_bad
  unfold goesOn at hg
  unfold dec Lib.decodeN; rw [if_neg (by omega), if_neg (by omega), if_neg (by omega), if_neg (by omega)]
theorem charV_three {l : List UInt8} (h : 224 ≤ gb l 0 ∧ gb l 0 < 240) (hg : goesOn l 1) (hg2 : goesOn l 2) (v : Nat) (hv : v + 128 + 8192 = (gb l 0 - 224) * 4096 + gb l 1 * 64 + gb l 2) :
    charV l = if v < 2048 ∨ (55296 ≤ v ∧ v < 57344) then (0, 0) else (v, 3) := by
  obtain ⟨g1, g2, g3⟩ := hg
  obtain ⟨g4, g5, g6⟩ := hg2
  by_cases c : v < 2048 ∨ (55296 ≤ v ∧ v < 57344)
  · rw [if_pos c]; apply charV_bad
    unfold dec Lib.decodeN; rw [if_neg (by omega), if_neg (by omega), if_pos (by omega), if_neg (by omega)]
  · rw [if_neg c]; refine charV_of ?_ (by omega)
    unfold dec Lib.decodeN; rw [if_neg (by omega), if_neg (by omega), if_pos (by omega), if_pos (by omega)]
    exact Prod.ext (by simp only []; omega) rfl
theorem charV_three_no {l : List UInt8} (h : 224 ≤ gb l 0 ∧ gb l 0 < 240) (hg : ¬ goesOn l 1 ∨ ¬ goesOn l 2) : charV l = (0, 0) := by
  apply charV_bad
  unfold goesOn at hg
  unfold dec Lib.decodeN; rw [if_neg (by omega), if_neg (by omega), if_neg (by omega), if_neg (by omega)]
theorem charV_four {l : List UInt8} (h : 240 ≤ gb l 0 ∧ gb l 0 < 248) (hg : goesOn l 1) (hg2 : goesOn l 2) (hg3 : goesOn l 3) (v : Nat) (hv : v + 128 + 8192 + 524288 = (gb l 0 - 240) * 262144 + gb l 1 * 4096 + gb l 2 * 64 + gb l 3) :
    charV l = if v < 65536 ∨ 1114111 < v then (0, 0) else (v, 4) := by
  obtain ⟨g1, g2, g3⟩ := hg
  obtain ⟨g4, g5, g6⟩ := hg2
  obtain ⟨g7, g8, g9⟩ := hg3
  by_cases c : v < 65536 ∨ 1114111 < v
  · rw [if_pos c]; apply charV_bad
    unfold dec Lib.decodeN; rw [if_neg (by omega), if_neg (by omega), if_neg (by omega), if_pos (by omega), if_neg (by omega)]
  · rw [if_neg c]; refine charV_of ?_ (by omega)
    unfold dec Lib.decodeN; rw [if_neg (by omega), if_neg (by omega), if_neg (by omega), if_pos (by omega), if_pos (by omega)]
    exact Prod.ext (by simp only []; omega) rfl
theorem charV_four_no {l : List UInt8} (h : 240 ≤ gb l 0 ∧ gb l 0 < 248) (hg : ¬ goesOn l 1 ∨ ¬ goesOn l 2 ∨ ¬ goesOn l 3) : charV l = (0, 0) := by
  apply charV_bad
  unfold goesOn at hg
  unfold dec Lib.decodeN; rw [if_neg (by omega), if_neg (by omega), if_neg (by omega), if_neg (by omega)]

theorem byte_run (s : ByteArray) (k : Nat) (hk : k < s.size) : ∀ w, (Instr.index 9 (.string s) (.int .i64 (k : Int))).run Tryz.prog w = .ok (.int .u8 (gb s.data.toList k)) w := by
  intro w
  have hr := run_index_string (P := Tryz.prog) w 9 s .i64 (k : Int) Tryz.underlying9
  rw [dif_pos ⟨by omega, by omega⟩] at hr
  rw [hr, byteAt s k hk]
  simp only [Int.toNat_natCast]

set_option maxHeartbeats 8000000 in
set_option maxRecDepth 1000000 in
theorem char_small (s : ByteArray) (hp : 0 < s.size) (hb : gb s.data.toList 0 < 192 ∨ 248 ≤ gb s.data.toList 0) (w : World) :
    Calls Tryz.prog 158 #[.string s] w fun e w' => e = .returned (.tuple #[.int .i64 (charV s.data.toList).1, .int .i64 (charV s.data.toList).2]) ∧ Below w.heap.size w w' := by
  have hrun := head_run s hp
  have hlt := gb_lt s.data.toList 0
  obtain ⟨c, hc⟩ : ∃ c, gb s.data.toList 0 = c := ⟨_, rfl⟩
  rw [hc] at hrun hb hlt
  by_cases h1 : c < 128
  · have h1' : (c : Int) < 128 := by omega
    have HC := Lib.hid (hc ▸ charV_one (hc ▸ h1))
    clear hc h1 hb
    go_enter Tryz.func158, Tryz.ntmps158
    go_wp2_with fail
    go_ret2
    rw [HC.out]
    exact ⟨rfl, Below.refl _ _⟩
  · have h1' : ¬ (c : Int) < 128 := by omega
    have HC := Lib.hid (charV_none (l := s.data.toList) (by omega))
    clear hc h1
    have hways : ((128 : Int) ≤ (c : Int) ∧ (c : Int) < 192) ∨ (248 : Int) ≤ (c : Int) := by omega
    clear hb
    rcases hways with ⟨h2, h3⟩ | h2
    all_goals
      go_enter Tryz.func158, Tryz.ntmps158
      go_wp2_with fail
      go_ret2
      rw [HC.out]
      exact ⟨rfl, Below.refl _ _⟩
end Go.Proofs.YtndkbecdjaedaaaGreatDoor
/- The reference's char at two to four bytes; Valid. -/
namespace Go.Proofs.YtndkbecdjaedaaaGreatDoor
open Go.RowKit

def cnv (l : List UInt8) (base : Int) : Nat → Int
  | 0 => (gb l 0 : Int) - base
  | j + 1 => cnv l base j * 64 + (gb l (j + 1) : Int) - 128

theorem gon_step {l : List UInt8} {k : Nat} (h : ∀ i, 1 ≤ i → i < k → goesOn l i) (hk : goesOn l k) : ∀ i, 1 ≤ i → i < k + 1 → goesOn l i := by
  intro i h1 h2
  rcases Nat.lt_or_ge i k with h3 | h3
  · exact h i h1 h3
  · have : i = k := by omega
    subst this; exact hk


set_option maxHeartbeats 16000000 in
set_option maxRecDepth 1000000 in
theorem char_2 (s : ByteArray) (hp : 0 < s.size) (hb0 : 192 ≤ gb s.data.toList 0) (hb1 : gb s.data.toList 0 < 224) (w : World) :
    Calls Tryz.prog 158 #[.string s] w fun e w' => e = .returned (.tuple #[.int .i64 (charV s.data.toList).1, .int .i64 (charV s.data.toList).2]) ∧ Below w.heap.size w w' := by
  have hrun := head_run s hp
  have hlsz : s.data.toList.length = s.size := by simp
  have hxr : ∀ k, k < s.size → ∀ w, (Instr.index 9 (.string s) (.int .i64 (k : Int))).run Tryz.prog w = .ok (.int .u8 (gb s.data.toList k)) w := byte_run s
  have HX := Lib.hid hxr
  have iz : ∀ w, (Instr.index 201 (.agg #[.int .i64 0, .int .i64 0, .int .i64 128, .int .i64 2048, .int .i64 65536]) (.int .i64 2)).run Tryz.prog w = .ok (.int .i64 128) w := fun _ => by kernel_rfl
  obtain ⟨l, hl⟩ : ∃ l, s.data.toList = l := ⟨_, rfl⟩
  rw [hl] at hb0 hb1 hlsz hrun HX ⊢
  clear hl hxr
  obtain ⟨c, hc⟩ : ∃ c, gb l 0 = c := ⟨_, rfl⟩
  rw [hc] at hrun
  have c0 : (192 : Int) ≤ (c : Int) := by omega
  have c1 : (c : Int) < 224 := by omega
  have HC := Lib.hid hc
  have hr0 : Hid ((c : Int) - 192 = cnv l 192 0) := Lib.hid (by rw [← hc]; rfl)
  have HL := Lib.hid hlsz
  clear hc hlsz hb0 hb1
  go_enter Tryz.func158, Tryz.ntmps158
  go_wp2_with fail
  go_quiet (fail)
  have hbq : Below w.heap.size w (w.drewN nq) := bdrewN (Below.refl _ _) nq
  generalize w.drewN nq = w1 at hbq ⊢
  go_wp2_with fail
  go_loop [5, 6] (fun vn vk => ∃ (k : Nat) (a : Int), vn = .int .i64 a ∧ vk = .int .i64 k ∧ 1 ≤ k ∧ k ≤ 2 ∧ 0 ≤ a ∧ a ≤ 8388607 ∧ Hid (a < 32 * ((64 ^ (k - 1) : Nat) : Int)) ∧ Hid (a = cnv l 192 (k - 1)) ∧ Hid (∀ i, 1 ≤ i → i < k → goesOn l i)) (fun _ vk => 2 - (intOf vk).toNat)
  case atStart => exact ⟨1, (c : Int) - 192, rfl, rfl, by omega, by omega, by omega, by omega, Lib.hid (by simp; omega), hr0, Lib.hid (by intro i h1 h2; omega)⟩
  case round =>
    obtain ⟨k, a, rfl, rfl, hk1, hkz, ha0, haB, HB, HA, HG⟩ := hrel
    by_cases hk : k < 2
    · have hkI : (k : Int) < 2 := by omega
      by_cases hks : k < s.size
      · have hksI : ¬ (s.size : Int) ≤ (k : Int) := by omega
        have hrunk := HX.out k hks
        obtain ⟨b, hb⟩ : ∃ b, gb l k = b := ⟨_, rfl⟩
        have hb256 : b < 256 := by rw [← hb]; exact gb_lt l k
        rw [hb] at hrunk
        have HBb := Lib.hid hb
        clear hb
        by_cases hgo : 128 ≤ b ∧ b ≤ 191
        · have g1 : ¬ (b : Int) < 128 := by omega
          have g2 : ¬ (191 : Int) < (b : Int) := by omega
          have hgk : goesOn l k := ⟨by rw [HL.out]; exact hks, by rw [HBb.out]; exact hgo.1, by rw [HBb.out]; exact hgo.2⟩
          have hpow : (64 ^ (k - 1) : Nat) ≤ 64 ^ (2 - 2) := Nat.pow_le_pow_right (by omega) (by omega)
          have hps : (64 ^ (k + 1 - 1) : Nat) = 64 ^ (k - 1) * 64 := by rw [show k + 1 - 1 = k - 1 + 1 by omega]; exact Nat.pow_succ 64 (k - 1)
          have hps' : (64 ^ (2 - 2) : Nat) = 1 := by decide
          have hBo := HB.out
          have hnB : a * 64 + (b : Int) - 128 ≤ 8388607 := by omega
          have HB' : Hid (a * 64 + (b : Int) - 128 < 32 * ((64 ^ (k + 1 - 1) : Nat) : Int)) := Lib.hid (by rw [hps]; omega)
          have HA' : Hid (a * 64 + (b : Int) - 128 = cnv l 192 (k + 1 - 1)) := Lib.hid (by
            rw [show k + 1 - 1 = (k - 1) + 1 by omega]
            show _ = cnv l 192 (k - 1) * 64 + (gb l (k - 1 + 1) : Int) - 128
            rw [← HA.out, show k - 1 + 1 = k by omega, HBb.out])
          have HG' := Lib.hid (gon_step HG.out hgk)
          clear hpow hps hps' hBo hgo hgk
          go_wp2_with fail
          go_round
          case rel => exact ⟨k + 1, a * 64 + (b : Int) - 128, by go_num, by go_num, by omega, by omega, by omega, hnB, HB', HA', HG'⟩
          case measure => simp [intOf]; omega
        · have hng : ¬ goesOn l k := by
            unfold goesOn; rw [HBb.out]; omega
          have hno : ¬ goesOn l 1 := by
            have hks3 : k = 1 := by omega
            subst hks3
            exact hng
          have HCV : Hid (charV l = (0, 0)) := Lib.hid (charV_two_no ⟨by rw [HC.out]; omega, by rw [HC.out]; omega⟩ hno)
          have hways : (b : Int) < 128 ∨ (¬ (b : Int) < 128 ∧ (191 : Int) < (b : Int)) := by omega
          clear hgo hng hno
          rcases hways with g1 | ⟨g1, g2⟩
          all_goals
            go_wp2_with fail
            go_ret2
            rw [HCV.out]
            exact ⟨rfl, hbq⟩
      · have hksI : (s.size : Int) ≤ (k : Int) := by omega
        have hng : ¬ goesOn l k := by
          unfold goesOn; rw [HL.out]; omega
        have hno : ¬ goesOn l 1 := by
          have hks3 : k = 1 := by omega
          subst hks3
          exact hng
        have HCV : Hid (charV l = (0, 0)) := Lib.hid (charV_two_no ⟨by rw [HC.out]; omega, by rw [HC.out]; omega⟩ hno)
        clear hng hno
        go_wp2_with fail
        go_ret2
        rw [HCV.out]
        exact ⟨rfl, hbq⟩
    · have hkI : ¬ (k : Int) < 2 := by omega
      have hkk : k = 2 := by omega
      have hgo : ∀ i, 1 ≤ i → i < 2 → goesOn l i := fun i h1 h2 => HG.out i h1 (by omega)
      have hcn : a = cnv l 192 (2 - 1) := by rw [HA.out, hkk]
      have hC := HC.out
      have q1 := (hgo 1 (by omega) (by omega)).2.1
      have hcv := charV_two (l := l) ⟨by omega, by omega⟩ (hgo 1 (by omega) (by omega)) a.toNat (by simp only [cnv, Nat.reduceSub, Nat.zero_add] at hcn; omega)
      clear hkk hcn hgo hC q1
      have hways : charV l = (0, 0) ∧ (a < 128) ∨ charV l = (a.toNat, 2) ∧ ¬ a < 128 := by
        rw [hcv]
        split
        · exact Or.inl ⟨rfl, by omega⟩
        · exact Or.inr ⟨rfl, by omega⟩
      clear hcv
      rcases hways with ⟨hcv, hw⟩ | ⟨hcv, hw⟩
      · have HCV := Lib.hid hcv
        clear hcv
        skip
        all_goals
          go_wp2_with fail
          go_ret2
          rw [HCV.out]
          exact ⟨rfl, hbq⟩
      · have HCV1 : Hid (((charV l).1 : Int) = a) := Lib.hid (by rw [hcv]; simp only []; omega)
        have HCV2 : Hid (((charV l).2 : Int) = 2) := Lib.hid (by rw [hcv]; rfl)
        clear hcv
        have h2 : ¬ 1114111 < a := by
          have := HB.out
          have hpw : (64 ^ (k - 1) : Nat) = 64 := by rw [show k - 1 = 1 by omega]
          rw [hpw] at this; omega
        have h3 : a < 55296 := by
          have := HB.out
          have hpw : (64 ^ (k - 1) : Nat) = 64 := by rw [show k - 1 = 1 by omega]
          rw [hpw] at this; omega
        go_wp2_with fail
        go_ret2
        rw [HCV1.out, HCV2.out]
        exact ⟨rfl, hbq⟩

set_option maxHeartbeats 16000000 in
set_option maxRecDepth 1000000 in
theorem char_3 (s : ByteArray) (hp : 0 < s.size) (hb0 : 224 ≤ gb s.data.toList 0) (hb1 : gb s.data.toList 0 < 240) (w : World) :
    Calls Tryz.prog 158 #[.string s] w fun e w' => e = .returned (.tuple #[.int .i64 (charV s.data.toList).1, .int .i64 (charV s.data.toList).2]) ∧ Below w.heap.size w w' := by
  have hrun := head_run s hp
  have hlsz : s.data.toList.length = s.size := by simp
  have hxr : ∀ k, k < s.size → ∀ w, (Instr.index 9 (.string s) (.int .i64 (k : Int))).run Tryz.prog w = .ok (.int .u8 (gb s.data.toList k)) w := byte_run s
  have HX := Lib.hid hxr
  have iz : ∀ w, (Instr.index 201 (.agg #[.int .i64 0, .int .i64 0, .int .i64 128, .int .i64 2048, .int .i64 65536]) (.int .i64 3)).run Tryz.prog w = .ok (.int .i64 2048) w := fun _ => by kernel_rfl
  obtain ⟨l, hl⟩ : ∃ l, s.data.toList = l := ⟨_, rfl⟩
  rw [hl] at hb0 hb1 hlsz hrun HX ⊢
  clear hl hxr
  obtain ⟨c, hc⟩ : ∃ c, gb l 0 = c := ⟨_, rfl⟩
  rw [hc] at hrun
  have c0 : (224 : Int) ≤ (c : Int) := by omega
  have c1 : (c : Int) < 240 := by omega
  have HC := Lib.hid hc
  have hr0 : Hid ((c : Int) - 224 = cnv l 224 0) := Lib.hid (by rw [← hc]; rfl)
  have HL := Lib.hid hlsz
  clear hc hlsz hb0 hb1
  go_enter Tryz.func158, Tryz.ntmps158
  go_wp2_with fail
  go_quiet (fail)
  have hbq : Below w.heap.size w (w.drewN nq) := bdrewN (Below.refl _ _) nq
  generalize w.drewN nq = w1 at hbq ⊢
  go_wp2_with fail
  go_loop [5, 6] (fun vn vk => ∃ (k : Nat) (a : Int), vn = .int .i64 a ∧ vk = .int .i64 k ∧ 1 ≤ k ∧ k ≤ 3 ∧ 0 ≤ a ∧ a ≤ 8388607 ∧ Hid (a < 32 * ((64 ^ (k - 1) : Nat) : Int)) ∧ Hid (a = cnv l 224 (k - 1)) ∧ Hid (∀ i, 1 ≤ i → i < k → goesOn l i)) (fun _ vk => 3 - (intOf vk).toNat)
  case atStart => exact ⟨1, (c : Int) - 224, rfl, rfl, by omega, by omega, by omega, by omega, Lib.hid (by simp; omega), hr0, Lib.hid (by intro i h1 h2; omega)⟩
  case round =>
    obtain ⟨k, a, rfl, rfl, hk1, hkz, ha0, haB, HB, HA, HG⟩ := hrel
    by_cases hk : k < 3
    · have hkI : (k : Int) < 3 := by omega
      by_cases hks : k < s.size
      · have hksI : ¬ (s.size : Int) ≤ (k : Int) := by omega
        have hrunk := HX.out k hks
        obtain ⟨b, hb⟩ : ∃ b, gb l k = b := ⟨_, rfl⟩
        have hb256 : b < 256 := by rw [← hb]; exact gb_lt l k
        rw [hb] at hrunk
        have HBb := Lib.hid hb
        clear hb
        by_cases hgo : 128 ≤ b ∧ b ≤ 191
        · have g1 : ¬ (b : Int) < 128 := by omega
          have g2 : ¬ (191 : Int) < (b : Int) := by omega
          have hgk : goesOn l k := ⟨by rw [HL.out]; exact hks, by rw [HBb.out]; exact hgo.1, by rw [HBb.out]; exact hgo.2⟩
          have hpow : (64 ^ (k - 1) : Nat) ≤ 64 ^ (3 - 2) := Nat.pow_le_pow_right (by omega) (by omega)
          have hps : (64 ^ (k + 1 - 1) : Nat) = 64 ^ (k - 1) * 64 := by rw [show k + 1 - 1 = k - 1 + 1 by omega]; exact Nat.pow_succ 64 (k - 1)
          have hps' : (64 ^ (3 - 2) : Nat) = 64 := by decide
          have hBo := HB.out
          have hnB : a * 64 + (b : Int) - 128 ≤ 8388607 := by omega
          have HB' : Hid (a * 64 + (b : Int) - 128 < 32 * ((64 ^ (k + 1 - 1) : Nat) : Int)) := Lib.hid (by rw [hps]; omega)
          have HA' : Hid (a * 64 + (b : Int) - 128 = cnv l 224 (k + 1 - 1)) := Lib.hid (by
            rw [show k + 1 - 1 = (k - 1) + 1 by omega]
            show _ = cnv l 224 (k - 1) * 64 + (gb l (k - 1 + 1) : Int) - 128
            rw [← HA.out, show k - 1 + 1 = k by omega, HBb.out])
          have HG' := Lib.hid (gon_step HG.out hgk)
          clear hpow hps hps' hBo hgo hgk
          go_wp2_with fail
          go_round
          case rel => exact ⟨k + 1, a * 64 + (b : Int) - 128, by go_num, by go_num, by omega, by omega, by omega, hnB, HB', HA', HG'⟩
          case measure => simp [intOf]; omega
        · have hng : ¬ goesOn l k := by
            unfold goesOn; rw [HBb.out]; omega
          have hno : ¬ goesOn l 1 ∨ ¬ goesOn l 2 := by
            have hks3 : k = 1 ∨ k = 2 := by omega
            rcases hks3 with rfl | rfl
            · exact Or.inl hng
            · exact Or.inr hng
          have HCV : Hid (charV l = (0, 0)) := Lib.hid (charV_three_no ⟨by rw [HC.out]; omega, by rw [HC.out]; omega⟩ hno)
          have hways : (b : Int) < 128 ∨ (¬ (b : Int) < 128 ∧ (191 : Int) < (b : Int)) := by omega
          clear hgo hng hno
          rcases hways with g1 | ⟨g1, g2⟩
          all_goals
            go_wp2_with fail
            go_ret2
            rw [HCV.out]
            exact ⟨rfl, hbq⟩
      · have hksI : (s.size : Int) ≤ (k : Int) := by omega
        have hng : ¬ goesOn l k := by
          unfold goesOn; rw [HL.out]; omega
        have hno : ¬ goesOn l 1 ∨ ¬ goesOn l 2 := by
          have hks3 : k = 1 ∨ k = 2 := by omega
          rcases hks3 with rfl | rfl
          · exact Or.inl hng
          · exact Or.inr hng
        have HCV : Hid (charV l = (0, 0)) := Lib.hid (charV_three_no ⟨by rw [HC.out]; omega, by rw [HC.out]; omega⟩ hno)
        clear hng hno
        go_wp2_with fail
        go_ret2
        rw [HCV.out]
        exact ⟨rfl, hbq⟩
    · have hkI : ¬ (k : Int) < 3 := by omega
      have hkk : k = 3 := by omega
      have hgo : ∀ i, 1 ≤ i → i < 3 → goesOn l i := fun i h1 h2 => HG.out i h1 (by omega)
      have hcn : a = cnv l 224 (3 - 1) := by rw [HA.out, hkk]
      have hC := HC.out
      have q1 := (hgo 1 (by omega) (by omega)).2.1
      have q2 := (hgo 2 (by omega) (by omega)).2.1
      have hcv := charV_three (l := l) ⟨by omega, by omega⟩ (hgo 1 (by omega) (by omega)) (hgo 2 (by omega) (by omega)) a.toNat (by simp only [cnv, Nat.reduceSub, Nat.reduceAdd, Nat.zero_add] at hcn; omega)
      clear hkk hcn hgo hC q1 q2
      have hways : charV l = (0, 0) ∧ (a < 2048 ∨ (¬ a < 2048 ∧ 55296 ≤ a ∧ a < 57344)) ∨ charV l = (a.toNat, 3) ∧ ¬ a < 2048 ∧ ¬ (55296 ≤ a ∧ a < 57344) := by
        rw [hcv]
        split
        · exact Or.inl ⟨rfl, by omega⟩
        · exact Or.inr ⟨rfl, by omega⟩
      clear hcv
      rcases hways with ⟨hcv, hw⟩ | ⟨hcv, hw⟩
      · have HCV := Lib.hid hcv
        clear hcv
        rcases hw with h1 | ⟨h1, h2, h3⟩
        all_goals
          go_wp2_with fail
          go_ret2
          rw [HCV.out]
          exact ⟨rfl, hbq⟩
      · have HCV1 : Hid (((charV l).1 : Int) = a) := Lib.hid (by rw [hcv]; simp only []; omega)
        have HCV2 : Hid (((charV l).2 : Int) = 3) := Lib.hid (by rw [hcv]; rfl)
        clear hcv
        have hways2 : a < 55296 ∨ (¬ a < 55296 ∧ ¬ a < 57344) := by omega
        obtain ⟨h1, _⟩ := hw
        have hle : ¬ 1114111 < a := by
          have := HB.out
          have hpw : (64 ^ (k - 1) : Nat) = 4096 := by rw [show k - 1 = 2 by omega]
          rw [hpw] at this; omega
        rcases hways2 with h2 | ⟨h2, h3⟩
        all_goals
          go_wp2_with fail
          go_ret2
          rw [HCV1.out, HCV2.out]
          exact ⟨rfl, hbq⟩

set_option maxHeartbeats 16000000 in
set_option maxRecDepth 1000000 in
theorem char_4 (s : ByteArray) (hp : 0 < s.size) (hb0 : 240 ≤ gb s.data.toList 0) (hb1 : gb s.data.toList 0 < 248) (w : World) :
    Calls Tryz.prog 158 #[.string s] w fun e w' => e = .returned (.tuple #[.int .i64 (charV s.data.toList).1, .int .i64 (charV s.data.toList).2]) ∧ Below w.heap.size w w' := by
  have hrun := head_run s hp
  have hlsz : s.data.toList.length = s.size := by simp
  have hxr : ∀ k, k < s.size → ∀ w, (Instr.index 9 (.string s) (.int .i64 (k : Int))).run Tryz.prog w = .ok (.int .u8 (gb s.data.toList k)) w := byte_run s
  have HX := Lib.hid hxr
  have iz : ∀ w, (Instr.index 201 (.agg #[.int .i64 0, .int .i64 0, .int .i64 128, .int .i64 2048, .int .i64 65536]) (.int .i64 4)).run Tryz.prog w = .ok (.int .i64 65536) w := fun _ => by kernel_rfl
  obtain ⟨l, hl⟩ : ∃ l, s.data.toList = l := ⟨_, rfl⟩
  rw [hl] at hb0 hb1 hlsz hrun HX ⊢
  clear hl hxr
  obtain ⟨c, hc⟩ : ∃ c, gb l 0 = c := ⟨_, rfl⟩
  rw [hc] at hrun
  have c0 : (240 : Int) ≤ (c : Int) := by omega
  have c1 : (c : Int) < 248 := by omega
  have HC := Lib.hid hc
  have hr0 : Hid ((c : Int) - 240 = cnv l 240 0) := Lib.hid (by rw [← hc]; rfl)
  have HL := Lib.hid hlsz
  clear hc hlsz hb0 hb1
  go_enter Tryz.func158, Tryz.ntmps158
  go_wp2_with fail
  go_quiet (fail)
  have hbq : Below w.heap.size w (w.drewN nq) := bdrewN (Below.refl _ _) nq
  generalize w.drewN nq = w1 at hbq ⊢
  go_wp2_with fail
  go_loop [5, 6] (fun vn vk => ∃ (k : Nat) (a : Int), vn = .int .i64 a ∧ vk = .int .i64 k ∧ 1 ≤ k ∧ k ≤ 4 ∧ 0 ≤ a ∧ a ≤ 8388607 ∧ Hid (a < 32 * ((64 ^ (k - 1) : Nat) : Int)) ∧ Hid (a = cnv l 240 (k - 1)) ∧ Hid (∀ i, 1 ≤ i → i < k → goesOn l i)) (fun _ vk => 4 - (intOf vk).toNat)
  case atStart => exact ⟨1, (c : Int) - 240, rfl, rfl, by omega, by omega, by omega, by omega, Lib.hid (by simp; omega), hr0, Lib.hid (by intro i h1 h2; omega)⟩
  case round =>
    obtain ⟨k, a, rfl, rfl, hk1, hkz, ha0, haB, HB, HA, HG⟩ := hrel
    by_cases hk : k < 4
    · have hkI : (k : Int) < 4 := by omega
      by_cases hks : k < s.size
      · have hksI : ¬ (s.size : Int) ≤ (k : Int) := by omega
        have hrunk := HX.out k hks
        obtain ⟨b, hb⟩ : ∃ b, gb l k = b := ⟨_, rfl⟩
        have hb256 : b < 256 := by rw [← hb]; exact gb_lt l k
        rw [hb] at hrunk
        have HBb := Lib.hid hb
        clear hb
        by_cases hgo : 128 ≤ b ∧ b ≤ 191
        · have g1 : ¬ (b : Int) < 128 := by omega
          have g2 : ¬ (191 : Int) < (b : Int) := by omega
          have hgk : goesOn l k := ⟨by rw [HL.out]; exact hks, by rw [HBb.out]; exact hgo.1, by rw [HBb.out]; exact hgo.2⟩
          have hpow : (64 ^ (k - 1) : Nat) ≤ 64 ^ (4 - 2) := Nat.pow_le_pow_right (by omega) (by omega)
          have hps : (64 ^ (k + 1 - 1) : Nat) = 64 ^ (k - 1) * 64 := by rw [show k + 1 - 1 = k - 1 + 1 by omega]; exact Nat.pow_succ 64 (k - 1)
          have hps' : (64 ^ (4 - 2) : Nat) = 4096 := by decide
          have hBo := HB.out
          have hnB : a * 64 + (b : Int) - 128 ≤ 8388607 := by omega
          have HB' : Hid (a * 64 + (b : Int) - 128 < 32 * ((64 ^ (k + 1 - 1) : Nat) : Int)) := Lib.hid (by rw [hps]; omega)
          have HA' : Hid (a * 64 + (b : Int) - 128 = cnv l 240 (k + 1 - 1)) := Lib.hid (by
            rw [show k + 1 - 1 = (k - 1) + 1 by omega]
            show _ = cnv l 240 (k - 1) * 64 + (gb l (k - 1 + 1) : Int) - 128
            rw [← HA.out, show k - 1 + 1 = k by omega, HBb.out])
          have HG' := Lib.hid (gon_step HG.out hgk)
          clear hpow hps hps' hBo hgo hgk
          go_wp2_with fail
          go_round
          case rel => exact ⟨k + 1, a * 64 + (b : Int) - 128, by go_num, by go_num, by omega, by omega, by omega, hnB, HB', HA', HG'⟩
          case measure => simp [intOf]; omega
        · have hng : ¬ goesOn l k := by
            unfold goesOn; rw [HBb.out]; omega
          have hno : ¬ goesOn l 1 ∨ ¬ goesOn l 2 ∨ ¬ goesOn l 3 := by
            have hks3 : k = 1 ∨ k = 2 ∨ k = 3 := by omega
            rcases hks3 with rfl | rfl | rfl
            · exact Or.inl hng
            · exact Or.inr (Or.inl hng)
            · exact Or.inr (Or.inr hng)
          have HCV : Hid (charV l = (0, 0)) := Lib.hid (charV_four_no ⟨by rw [HC.out]; omega, by rw [HC.out]; omega⟩ hno)
          have hways : (b : Int) < 128 ∨ (¬ (b : Int) < 128 ∧ (191 : Int) < (b : Int)) := by omega
          clear hgo hng hno
          rcases hways with g1 | ⟨g1, g2⟩
          all_goals
            go_wp2_with fail
            go_ret2
            rw [HCV.out]
            exact ⟨rfl, hbq⟩
      · have hksI : (s.size : Int) ≤ (k : Int) := by omega
        have hng : ¬ goesOn l k := by
          unfold goesOn; rw [HL.out]; omega
        have hno : ¬ goesOn l 1 ∨ ¬ goesOn l 2 ∨ ¬ goesOn l 3 := by
          have hks3 : k = 1 ∨ k = 2 ∨ k = 3 := by omega
          rcases hks3 with rfl | rfl | rfl
          · exact Or.inl hng
          · exact Or.inr (Or.inl hng)
          · exact Or.inr (Or.inr hng)
        have HCV : Hid (charV l = (0, 0)) := Lib.hid (charV_four_no ⟨by rw [HC.out]; omega, by rw [HC.out]; omega⟩ hno)
        clear hng hno
        go_wp2_with fail
        go_ret2
        rw [HCV.out]
        exact ⟨rfl, hbq⟩
    · have hkI : ¬ (k : Int) < 4 := by omega
      have hkk : k = 4 := by omega
      have hgo : ∀ i, 1 ≤ i → i < 4 → goesOn l i := fun i h1 h2 => HG.out i h1 (by omega)
      have hcn : a = cnv l 240 (4 - 1) := by rw [HA.out, hkk]
      have hC := HC.out
      have q1 := (hgo 1 (by omega) (by omega)).2.1
      have q2 := (hgo 2 (by omega) (by omega)).2.1
      have q3 := (hgo 3 (by omega) (by omega)).2.1
      have hcv := charV_four (l := l) ⟨by omega, by omega⟩ (hgo 1 (by omega) (by omega)) (hgo 2 (by omega) (by omega)) (hgo 3 (by omega) (by omega)) a.toNat (by simp only [cnv, Nat.reduceSub, Nat.reduceAdd, Nat.zero_add] at hcn; omega)
      clear hkk hcn hgo hC q1 q2 q3
      have hways : charV l = (0, 0) ∧ (a < 65536 ∨ (¬ a < 65536 ∧ 1114111 < a)) ∨ charV l = (a.toNat, 4) ∧ ¬ a < 65536 ∧ ¬ 1114111 < a := by
        rw [hcv]
        split
        · exact Or.inl ⟨rfl, by omega⟩
        · exact Or.inr ⟨rfl, by omega⟩
      clear hcv
      rcases hways with ⟨hcv, hw⟩ | ⟨hcv, hw⟩
      · have HCV := Lib.hid hcv
        clear hcv
        rcases hw with h1 | ⟨h1, h2⟩
        all_goals
          go_wp2_with fail
          go_ret2
          rw [HCV.out]
          exact ⟨rfl, hbq⟩
      · have HCV1 : Hid (((charV l).1 : Int) = a) := Lib.hid (by rw [hcv]; simp only []; omega)
        have HCV2 : Hid (((charV l).2 : Int) = 4) := Lib.hid (by rw [hcv]; rfl)
        clear hcv
        obtain ⟨h1, h2⟩ := hw
        have h3 : ¬ a < 57344 := by omega
        have h4 : ¬ a < 55296 := by omega
        go_wp2_with fail
        go_ret2
        rw [HCV1.out, HCV2.out]
        exact ⟨rfl, hbq⟩

/-- The reference's char at bytes. -/
theorem char_calls (s : ByteArray) (hp : 0 < s.size) (w : World) :
    Calls Tryz.prog 158 #[.string s] w fun e w' => e = .returned (.tuple #[.int .i64 (charV s.data.toList).1, .int .i64 (charV s.data.toList).2]) ∧ Below w.heap.size w w' := by
  have := gb_lt s.data.toList 0
  by_cases h1 : gb s.data.toList 0 < 192
  · exact char_small s hp (Or.inl h1) w
  by_cases h2 : gb s.data.toList 0 < 224
  · exact char_2 s hp (by omega) h2 w
  by_cases h3 : gb s.data.toList 0 < 240
  · exact char_3 s hp (by omega) h3 w
  by_cases h4 : gb s.data.toList 0 < 248
  · exact char_4 s hp (by omega) h4 w
  · exact char_small s hp (Or.inr (by omega)) w

theorem charV_ok {l : List UInt8} (h : okc l = true) : charV l = dec l := by unfold charV; rw [if_pos h]
theorem charV_no {l : List UInt8} (h : okc l = false) : charV l = (0, 0) := by unfold charV; rw [h]; rfl
theorem charV_size {l : List UInt8} (hl : l ≠ []) : ((charV l).2 = 0 ↔ okc l = false) ∧ (charV l).2 ≤ l.length := by
  cases h : okc l with
  | true =>
    rw [charV_ok h]
    have := dec_width hl
    exact ⟨⟨fun h0 => by omega, fun h0 => by cases h0⟩, this.2.1⟩
  | false =>
    rw [charV_no h]
    exact ⟨⟨fun _ => rfl, fun _ => rfl⟩, Nat.zero_le _⟩

end Go.Proofs.YtndkbecdjaedaaaGreatDoor
