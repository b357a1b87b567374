/- The reference's char at two to four bytes; Valid. -/
import Derived.Test.YtangbkiheoekaaaDoorJtChar
namespace Go.Proofs.YtangbkiheoekaaaDoor
open Go.RowKit

def cnv (l : List UInt8) (base : Int) : Nat → Int
  | 0 => (gb l 0 : Int) - base
  | j + 1 => cnv l base j * 64 + (gb l (j + 1) : Int) - 128

theorem gon_step {l : List UInt8} {k : Nat} (h : ∀ i, 1 ≤ i → i < k → goesOn l i) (hk : goesOn l k) : ∀ i, 1 ≤ i → i < k + 1 → goesOn l i := by
  intro i h1 h2
  rcases Nat.lt_or_ge i k with h3 | h3
  · exact h i h1 h3
  · have : i = k := by omega
    subst this; exact hk


set_option maxHeartbeats 16000000 in
set_option maxRecDepth 1000000 in
theorem char_2 (s : ByteArray) (hp : 0 < s.size) (hb0 : 192 ≤ gb s.data.toList 0) (hb1 : gb s.data.toList 0 < 224) (w : World) :
    Calls Tryd.prog 26 #[.string s] w fun e w' => e = .returned (.tuple #[.int .i64 (charV s.data.toList).1, .int .i64 (charV s.data.toList).2]) ∧ Below w.heap.size w w' := by
  have hrun := head_run s hp
  have hlsz : s.data.toList.length = s.size := by simp
  have hxr : ∀ k, k < s.size → ∀ w, (Instr.index 9 (.string s) (.int .i64 (k : Int))).run Tryd.prog w = .ok (.int .u8 (gb s.data.toList k)) w := byte_run s
  have HX := Lib.hid hxr
  have iz : ∀ w, (Instr.index 64 (.agg #[.int .i64 0, .int .i64 0, .int .i64 128, .int .i64 2048, .int .i64 65536]) (.int .i64 2)).run Tryd.prog w = .ok (.int .i64 128) w := fun _ => by kernel_rfl
  obtain ⟨l, hl⟩ : ∃ l, s.data.toList = l := ⟨_, rfl⟩
  rw [hl] at hb0 hb1 hlsz hrun HX ⊢
  clear hl hxr
  obtain ⟨c, hc⟩ : ∃ c, gb l 0 = c := ⟨_, rfl⟩
  rw [hc] at hrun
  have c0 : (192 : Int) ≤ (c : Int) := by omega
  have c1 : (c : Int) < 224 := by omega
  have HC := Lib.hid hc
  have hr0 : Hid ((c : Int) - 192 = cnv l 192 0) := Lib.hid (by rw [← hc]; rfl)
  have HL := Lib.hid hlsz
  clear hc hlsz hb0 hb1
  go_enter Tryd.func26, Tryd.ntmps26
  go_wp2_with fail
  go_quiet (fail)
  have hbq : Below w.heap.size w (w.drewN nq) := bdrewN (Below.refl _ _) nq
  generalize w.drewN nq = w1 at hbq ⊢
  go_wp2_with fail
  go_loop [5, 6] (fun vn vk => ∃ (k : Nat) (a : Int), vn = .int .i64 a ∧ vk = .int .i64 k ∧ 1 ≤ k ∧ k ≤ 2 ∧ 0 ≤ a ∧ a ≤ 8388607 ∧ Hid (a < 32 * ((64 ^ (k - 1) : Nat) : Int)) ∧ Hid (a = cnv l 192 (k - 1)) ∧ Hid (∀ i, 1 ≤ i → i < k → goesOn l i)) (fun _ vk => 2 - (intOf vk).toNat)
  case atStart => exact ⟨1, (c : Int) - 192, rfl, rfl, by omega, by omega, by omega, by omega, Lib.hid (by simp; omega), hr0, Lib.hid (by intro i h1 h2; omega)⟩
  case round =>
    obtain ⟨k, a, rfl, rfl, hk1, hkz, ha0, haB, HB, HA, HG⟩ := hrel
    by_cases hk : k < 2
    · have hkI : (k : Int) < 2 := by omega
      by_cases hks : k < s.size
      · have hksI : ¬ (s.size : Int) ≤ (k : Int) := by omega
        have hrunk := HX.out k hks
        obtain ⟨b, hb⟩ : ∃ b, gb l k = b := ⟨_, rfl⟩
        have hb256 : b < 256 := by rw [← hb]; exact gb_lt l k
        rw [hb] at hrunk
        have HBb := Lib.hid hb
        clear hb
        by_cases hgo : 128 ≤ b ∧ b ≤ 191
        · have g1 : ¬ (b : Int) < 128 := by omega
          have g2 : ¬ (191 : Int) < (b : Int) := by omega
          have hgk : goesOn l k := ⟨by rw [HL.out]; exact hks, by rw [HBb.out]; exact hgo.1, by rw [HBb.out]; exact hgo.2⟩
          have hpow : (64 ^ (k - 1) : Nat) ≤ 64 ^ (2 - 2) := Nat.pow_le_pow_right (by omega) (by omega)
          have hps : (64 ^ (k + 1 - 1) : Nat) = 64 ^ (k - 1) * 64 := by rw [show k + 1 - 1 = k - 1 + 1 by omega]; exact Nat.pow_succ 64 (k - 1)
          have hps' : (64 ^ (2 - 2) : Nat) = 1 := by decide
          have hBo := HB.out
          have hnB : a * 64 + (b : Int) - 128 ≤ 8388607 := by omega
          have HB' : Hid (a * 64 + (b : Int) - 128 < 32 * ((64 ^ (k + 1 - 1) : Nat) : Int)) := Lib.hid (by rw [hps]; omega)
          have HA' : Hid (a * 64 + (b : Int) - 128 = cnv l 192 (k + 1 - 1)) := Lib.hid (by
            rw [show k + 1 - 1 = (k - 1) + 1 by omega]
            show _ = cnv l 192 (k - 1) * 64 + (gb l (k - 1 + 1) : Int) - 128
            rw [← HA.out, show k - 1 + 1 = k by omega, HBb.out])
          have HG' := Lib.hid (gon_step HG.out hgk)
          clear hpow hps hps' hBo hgo hgk
          go_wp2_with fail
          go_round
          case rel => exact ⟨k + 1, a * 64 + (b : Int) - 128, by go_num, by go_num, by omega, by omega, by omega, hnB, HB', HA', HG'⟩
          case measure => simp [intOf]; omega
        · have hng : ¬ goesOn l k := by
            unfold goesOn; rw [HBb.out]; omega
          have hno : ¬ goesOn l 1 := by
            have hks3 : k = 1 := by omega
            subst hks3
            exact hng
          have HCV : Hid (charV l = (0, 0)) := Lib.hid (charV_two_no ⟨by rw [HC.out]; omega, by rw [HC.out]; omega⟩ hno)
          have hways : (b : Int) < 128 ∨ (¬ (b : Int) < 128 ∧ (191 : Int) < (b : Int)) := by omega
          clear hgo hng hno
          rcases hways with g1 | ⟨g1, g2⟩
          all_goals
            go_wp2_with fail
            go_ret2
            rw [HCV.out]
            exact ⟨rfl, hbq⟩
      · have hksI : (s.size : Int) ≤ (k : Int) := by omega
        have hng : ¬ goesOn l k := by
          unfold goesOn; rw [HL.out]; omega
        have hno : ¬ goesOn l 1 := by
          have hks3 : k = 1 := by omega
          subst hks3
          exact hng
        have HCV : Hid (charV l = (0, 0)) := Lib.hid (charV_two_no ⟨by rw [HC.out]; omega, by rw [HC.out]; omega⟩ hno)
        clear hng hno
        go_wp2_with fail
        go_ret2
        rw [HCV.out]
        exact ⟨rfl, hbq⟩
    · have hkI : ¬ (k : Int) < 2 := by omega
      have hkk : k = 2 := by omega
      have hgo : ∀ i, 1 ≤ i → i < 2 → goesOn l i := fun i h1 h2 => HG.out i h1 (by omega)
      have hcn : a = cnv l 192 (2 - 1) := by rw [HA.out, hkk]
      have hC := HC.out
      have q1 := (hgo 1 (by omega) (by omega)).2.1
      have hcv := charV_two (l := l) ⟨by omega, by omega⟩ (hgo 1 (by omega) (by omega)) a.toNat (by simp only [cnv, Nat.reduceSub, Nat.zero_add] at hcn; omega)
      clear hkk hcn hgo hC q1
      have hways : charV l = (0, 0) ∧ (a < 128) ∨ charV l = (a.toNat, 2) ∧ ¬ a < 128 := by
        rw [hcv]
        split
        · exact Or.inl ⟨rfl, by omega⟩
        · exact Or.inr ⟨rfl, by omega⟩
      clear hcv
      rcases hways with ⟨hcv, hw⟩ | ⟨hcv, hw⟩
      · have HCV := Lib.hid hcv
        clear hcv
        skip
        all_goals
          go_wp2_with fail
          go_ret2
          rw [HCV.out]
          exact ⟨rfl, hbq⟩
      · have HCV1 : Hid (((charV l).1 : Int) = a) := Lib.hid (by rw [hcv]; simp only []; omega)
        have HCV2 : Hid (((charV l).2 : Int) = 2) := Lib.hid (by rw [hcv]; rfl)
        clear hcv
        have h2 : ¬ 1114111 < a := by
          have := HB.out
          have hpw : (64 ^ (k - 1) : Nat) = 64 := by rw [show k - 1 = 1 by omega]
          rw [hpw] at this; omega
        have h3 : a < 55296 := by
          have := HB.out
          have hpw : (64 ^ (k - 1) : Nat) = 64 := by rw [show k - 1 = 1 by omega]
          rw [hpw] at this; omega
        go_wp2_with fail
        go_ret2
        rw [HCV1.out, HCV2.out]
        exact ⟨rfl, hbq⟩

set_option maxHeartbeats 16000000 in
set_option maxRecDepth 1000000 in
theorem char_3 (s : ByteArray) (hp : 0 < s.size) (hb0 : 224 ≤ gb s.data.toList 0) (hb1 : gb s.data.toList 0 < 240) (w : World) :
    Calls Tryd.prog 26 #[.string s] w fun e w' => e = .returned (.tuple #[.int .i64 (charV s.data.toList).1, .int .i64 (charV s.data.toList).2]) ∧ Below w.heap.size w w' := by
  have hrun := head_run s hp
  have hlsz : s.data.toList.length = s.size := by simp
  have hxr : ∀ k, k < s.size → ∀ w, (Instr.index 9 (.string s) (.int .i64 (k : Int))).run Tryd.prog w = .ok (.int .u8 (gb s.data.toList k)) w := byte_run s
  have HX := Lib.hid hxr
  have iz : ∀ w, (Instr.index 64 (.agg #[.int .i64 0, .int .i64 0, .int .i64 128, .int .i64 2048, .int .i64 65536]) (.int .i64 3)).run Tryd.prog w = .ok (.int .i64 2048) w := fun _ => by kernel_rfl
  obtain ⟨l, hl⟩ : ∃ l, s.data.toList = l := ⟨_, rfl⟩
  rw [hl] at hb0 hb1 hlsz hrun HX ⊢
  clear hl hxr
  obtain ⟨c, hc⟩ : ∃ c, gb l 0 = c := ⟨_, rfl⟩
  rw [hc] at hrun
  have c0 : (224 : Int) ≤ (c : Int) := by omega
  have c1 : (c : Int) < 240 := by omega
  have HC := Lib.hid hc
  have hr0 : Hid ((c : Int) - 224 = cnv l 224 0) := Lib.hid (by rw [← hc]; rfl)
  have HL := Lib.hid hlsz
  clear hc hlsz hb0 hb1
  go_enter Tryd.func26, Tryd.ntmps26
  go_wp2_with fail
  go_quiet (fail)
  have hbq : Below w.heap.size w (w.drewN nq) := bdrewN (Below.refl _ _) nq
  generalize w.drewN nq = w1 at hbq ⊢
  go_wp2_with fail
  go_loop [5, 6] (fun vn vk => ∃ (k : Nat) (a : Int), vn = .int .i64 a ∧ vk = .int .i64 k ∧ 1 ≤ k ∧ k ≤ 3 ∧ 0 ≤ a ∧ a ≤ 8388607 ∧ Hid (a < 32 * ((64 ^ (k - 1) : Nat) : Int)) ∧ Hid (a = cnv l 224 (k - 1)) ∧ Hid (∀ i, 1 ≤ i → i < k → goesOn l i)) (fun _ vk => 3 - (intOf vk).toNat)
  case atStart => exact ⟨1, (c : Int) - 224, rfl, rfl, by omega, by omega, by omega, by omega, Lib.hid (by simp; omega), hr0, Lib.hid (by intro i h1 h2; omega)⟩
  case round =>
    obtain ⟨k, a, rfl, rfl, hk1, hkz, ha0, haB, HB, HA, HG⟩ := hrel
    by_cases hk : k < 3
    · have hkI : (k : Int) < 3 := by omega
      by_cases hks : k < s.size
      · have hksI : ¬ (s.size : Int) ≤ (k : Int) := by omega
        have hrunk := HX.out k hks
        obtain ⟨b, hb⟩ : ∃ b, gb l k = b := ⟨_, rfl⟩
        have hb256 : b < 256 := by rw [← hb]; exact gb_lt l k
        rw [hb] at hrunk
        have HBb := Lib.hid hb
        clear hb
        by_cases hgo : 128 ≤ b ∧ b ≤ 191
        · have g1 : ¬ (b : Int) < 128 := by omega
          have g2 : ¬ (191 : Int) < (b : Int) := by omega
          have hgk : goesOn l k := ⟨by rw [HL.out]; exact hks, by rw [HBb.out]; exact hgo.1, by rw [HBb.out]; exact hgo.2⟩
          have hpow : (64 ^ (k - 1) : Nat) ≤ 64 ^ (3 - 2) := Nat.pow_le_pow_right (by omega) (by omega)
          have hps : (64 ^ (k + 1 - 1) : Nat) = 64 ^ (k - 1) * 64 := by rw [show k + 1 - 1 = k - 1 + 1 by omega]; exact Nat.pow_succ 64 (k - 1)
          have hps' : (64 ^ (3 - 2) : Nat) = 64 := by decide
          have hBo := HB.out
          have hnB : a * 64 + (b : Int) - 128 ≤ 8388607 := by omega
          have HB' : Hid (a * 64 + (b : Int) - 128 < 32 * ((64 ^ (k + 1 - 1) : Nat) : Int)) := Lib.hid (by rw [hps]; omega)
          have HA' : Hid (a * 64 + (b : Int) - 128 = cnv l 224 (k + 1 - 1)) := Lib.hid (by
            rw [show k + 1 - 1 = (k - 1) + 1 by omega]
            show _ = cnv l 224 (k - 1) * 64 + (gb l (k - 1 + 1) : Int) - 128
            rw [← HA.out, show k - 1 + 1 = k by omega, HBb.out])
          have HG' := Lib.hid (gon_step HG.out hgk)
          clear hpow hps hps' hBo hgo hgk
          go_wp2_with fail
          go_round
          case rel => exact ⟨k + 1, a * 64 + (b : Int) - 128, by go_num, by go_num, by omega, by omega, by omega, hnB, HB', HA', HG'⟩
          case measure => simp [intOf]; omega
        · have hng : ¬ goesOn l k := by
            unfold goesOn; rw [HBb.out]; omega
          have hno : ¬ goesOn l 1 ∨ ¬ goesOn l 2 := by
            have hks3 : k = 1 ∨ k = 2 := by omega
            rcases hks3 with rfl | rfl
            · exact Or.inl hng
            · exact Or.inr hng
          have HCV : Hid (charV l = (0, 0)) := Lib.hid (charV_three_no ⟨by rw [HC.out]; omega, by rw [HC.out]; omega⟩ hno)
          have hways : (b : Int) < 128 ∨ (¬ (b : Int) < 128 ∧ (191 : Int) < (b : Int)) := by omega
          clear hgo hng hno
          rcases hways with g1 | ⟨g1, g2⟩
          all_goals
            go_wp2_with fail
            go_ret2
            rw [HCV.out]
            exact ⟨rfl, hbq⟩
      · have hksI : (s.size : Int) ≤ (k : Int) := by omega
        have hng : ¬ goesOn l k := by
          unfold goesOn; rw [HL.out]; omega
        have hno : ¬ goesOn l 1 ∨ ¬ goesOn l 2 := by
          have hks3 : k = 1 ∨ k = 2 := by omega
          rcases hks3 with rfl | rfl
          · exact Or.inl hng
          · exact Or.inr hng
        have HCV : Hid (charV l = (0, 0)) := Lib.hid (charV_three_no ⟨by rw [HC.out]; omega, by rw [HC.out]; omega⟩ hno)
        clear hng hno
        go_wp2_with fail
        go_ret2
        rw [HCV.out]
        exact ⟨rfl, hbq⟩
    · have hkI : ¬ (k : Int) < 3 := by omega
      have hkk : k = 3 := by omega
      have hgo : ∀ i, 1 ≤ i → i < 3 → goesOn l i := fun i h1 h2 => HG.out i h1 (by omega)
      have hcn : a = cnv l 224 (3 - 1) := by rw [HA.out, hkk]
      have hC := HC.out
      have q1 := (hgo 1 (by omega) (by omega)).2.1
      have q2 := (hgo 2 (by omega) (by omega)).2.1
      have hcv := charV_three (l := l) ⟨by omega, by omega⟩ (hgo 1 (by omega) (by omega)) (hgo 2 (by omega) (by omega)) a.toNat (by simp only [cnv, Nat.reduceSub, Nat.reduceAdd, Nat.zero_add] at hcn; omega)
      clear hkk hcn hgo hC q1 q2
      have hways : charV l = (0, 0) ∧ (a < 2048 ∨ (¬ a < 2048 ∧ 55296 ≤ a ∧ a < 57344)) ∨ charV l = (a.toNat, 3) ∧ ¬ a < 2048 ∧ ¬ (55296 ≤ a ∧ a < 57344) := by
        rw [hcv]
        split
        · exact Or.inl ⟨rfl, by omega⟩
        · exact Or.inr ⟨rfl, by omega⟩
      clear hcv
      rcases hways with ⟨hcv, hw⟩ | ⟨hcv, hw⟩
      · have HCV := Lib.hid hcv
        clear hcv
        rcases hw with h1 | ⟨h1, h2, h3⟩
        all_goals
          go_wp2_with fail
          go_ret2
          rw [HCV.out]
          exact ⟨rfl, hbq⟩
      · have HCV1 : Hid (((charV l).1 : Int) = a) := Lib.hid (by rw [hcv]; simp only []; omega)
        have HCV2 : Hid (((charV l).2 : Int) = 3) := Lib.hid (by rw [hcv]; rfl)
        clear hcv
        have hways2 : a < 55296 ∨ (¬ a < 55296 ∧ ¬ a < 57344) := by omega
        obtain ⟨h1, _⟩ := hw
        have hle : ¬ 1114111 < a := by
          have := HB.out
          have hpw : (64 ^ (k - 1) : Nat) = 4096 := by rw [show k - 1 = 2 by omega]
          rw [hpw] at this; omega
        rcases hways2 with h2 | ⟨h2, h3⟩
        all_goals
          go_wp2_with fail
          go_ret2
          rw [HCV1.out, HCV2.out]
          exact ⟨rfl, hbq⟩

set_option maxHeartbeats 16000000 in
set_option maxRecDepth 1000000 in
theorem char_4 (s : ByteArray) (hp : 0 < s.size) (hb0 : 240 ≤ gb s.data.toList 0) (hb1 : gb s.data.toList 0 < 248) (w : World) :
    Calls Tryd.prog 26 #[.string s] w fun e w' => e = .returned (.tuple #[.int .i64 (charV s.data.toList).1, .int .i64 (charV s.data.toList).2]) ∧ Below w.heap.size w w' := by
  have hrun := head_run s hp
  have hlsz : s.data.toList.length = s.size := by simp
  have hxr : ∀ k, k < s.size → ∀ w, (Instr.index 9 (.string s) (.int .i64 (k : Int))).run Tryd.prog w = .ok (.int .u8 (gb s.data.toList k)) w := byte_run s
  have HX := Lib.hid hxr
  have iz : ∀ w, (Instr.index 64 (.agg #[.int .i64 0, .int .i64 0, .int .i64 128, .int .i64 2048, .int .i64 65536]) (.int .i64 4)).run Tryd.prog w = .ok (.int .i64 65536) w := fun _ => by kernel_rfl
  obtain ⟨l, hl⟩ : ∃ l, s.data.toList = l := ⟨_, rfl⟩
  rw [hl] at hb0 hb1 hlsz hrun HX ⊢
  clear hl hxr
  obtain ⟨c, hc⟩ : ∃ c, gb l 0 = c := ⟨_, rfl⟩
  rw [hc] at hrun
  have c0 : (240 : Int) ≤ (c : Int) := by omega
  have c1 : (c : Int) < 248 := by omega
  have HC := Lib.hid hc
  have hr0 : Hid ((c : Int) - 240 = cnv l 240 0) := Lib.hid (by rw [← hc]; rfl)
  have HL := Lib.hid hlsz
  clear hc hlsz hb0 hb1
  go_enter Tryd.func26, Tryd.ntmps26
  go_wp2_with fail
  go_quiet (fail)
  have hbq : Below w.heap.size w (w.drewN nq) := bdrewN (Below.refl _ _) nq
  generalize w.drewN nq = w1 at hbq ⊢
  go_wp2_with fail
  go_loop [5, 6] (fun vn vk => ∃ (k : Nat) (a : Int), vn = .int .i64 a ∧ vk = .int .i64 k ∧ 1 ≤ k ∧ k ≤ 4 ∧ 0 ≤ a ∧ a ≤ 8388607 ∧ Hid (a < 32 * ((64 ^ (k - 1) : Nat) : Int)) ∧ Hid (a = cnv l 240 (k - 1)) ∧ Hid (∀ i, 1 ≤ i → i < k → goesOn l i)) (fun _ vk => 4 - (intOf vk).toNat)
  case atStart => exact ⟨1, (c : Int) - 240, rfl, rfl, by omega, by omega, by omega, by omega, Lib.hid (by simp; omega), hr0, Lib.hid (by intro i h1 h2; omega)⟩
  case round =>
    obtain ⟨k, a, rfl, rfl, hk1, hkz, ha0, haB, HB, HA, HG⟩ := hrel
    by_cases hk : k < 4
    · have hkI : (k : Int) < 4 := by omega
      by_cases hks : k < s.size
      · have hksI : ¬ (s.size : Int) ≤ (k : Int) := by omega
        have hrunk := HX.out k hks
        obtain ⟨b, hb⟩ : ∃ b, gb l k = b := ⟨_, rfl⟩
        have hb256 : b < 256 := by rw [← hb]; exact gb_lt l k
        rw [hb] at hrunk
        have HBb := Lib.hid hb
        clear hb
        by_cases hgo : 128 ≤ b ∧ b ≤ 191
        · have g1 : ¬ (b : Int) < 128 := by omega
          have g2 : ¬ (191 : Int) < (b : Int) := by omega
          have hgk : goesOn l k := ⟨by rw [HL.out]; exact hks, by rw [HBb.out]; exact hgo.1, by rw [HBb.out]; exact hgo.2⟩
          have hpow : (64 ^ (k - 1) : Nat) ≤ 64 ^ (4 - 2) := Nat.pow_le_pow_right (by omega) (by omega)
          have hps : (64 ^ (k + 1 - 1) : Nat) = 64 ^ (k - 1) * 64 := by rw [show k + 1 - 1 = k - 1 + 1 by omega]; exact Nat.pow_succ 64 (k - 1)
          have hps' : (64 ^ (4 - 2) : Nat) = 4096 := by decide
          have hBo := HB.out
          have hnB : a * 64 + (b : Int) - 128 ≤ 8388607 := by omega
          have HB' : Hid (a * 64 + (b : Int) - 128 < 32 * ((64 ^ (k + 1 - 1) : Nat) : Int)) := Lib.hid (by rw [hps]; omega)
          have HA' : Hid (a * 64 + (b : Int) - 128 = cnv l 240 (k + 1 - 1)) := Lib.hid (by
            rw [show k + 1 - 1 = (k - 1) + 1 by omega]
            show _ = cnv l 240 (k - 1) * 64 + (gb l (k - 1 + 1) : Int) - 128
            rw [← HA.out, show k - 1 + 1 = k by omega, HBb.out])
          have HG' := Lib.hid (gon_step HG.out hgk)
          clear hpow hps hps' hBo hgo hgk
          go_wp2_with fail
          go_round
          case rel => exact ⟨k + 1, a * 64 + (b : Int) - 128, by go_num, by go_num, by omega, by omega, by omega, hnB, HB', HA', HG'⟩
          case measure => simp [intOf]; omega
        · have hng : ¬ goesOn l k := by
            unfold goesOn; rw [HBb.out]; omega
          have hno : ¬ goesOn l 1 ∨ ¬ goesOn l 2 ∨ ¬ goesOn l 3 := by
            have hks3 : k = 1 ∨ k = 2 ∨ k = 3 := by omega
            rcases hks3 with rfl | rfl | rfl
            · exact Or.inl hng
            · exact Or.inr (Or.inl hng)
            · exact Or.inr (Or.inr hng)
          have HCV : Hid (charV l = (0, 0)) := Lib.hid (charV_four_no ⟨by rw [HC.out]; omega, by rw [HC.out]; omega⟩ hno)
          have hways : (b : Int) < 128 ∨ (¬ (b : Int) < 128 ∧ (191 : Int) < (b : Int)) := by omega
          clear hgo hng hno
          rcases hways with g1 | ⟨g1, g2⟩
          all_goals
            go_wp2_with fail
            go_ret2
            rw [HCV.out]
            exact ⟨rfl, hbq⟩
      · have hksI : (s.size : Int) ≤ (k : Int) := by omega
        have hng : ¬ goesOn l k := by
          unfold goesOn; rw [HL.out]; omega
        have hno : ¬ goesOn l 1 ∨ ¬ goesOn l 2 ∨ ¬ goesOn l 3 := by
          have hks3 : k = 1 ∨ k = 2 ∨ k = 3 := by omega
          rcases hks3 with rfl | rfl | rfl
          · exact Or.inl hng
          · exact Or.inr (Or.inl hng)
          · exact Or.inr (Or.inr hng)
        have HCV : Hid (charV l = (0, 0)) := Lib.hid (charV_four_no ⟨by rw [HC.out]; omega, by rw [HC.out]; omega⟩ hno)
        clear hng hno
        go_wp2_with fail
        go_ret2
        rw [HCV.out]
        exact ⟨rfl, hbq⟩
    · have hkI : ¬ (k : Int) < 4 := by omega
      have hkk : k = 4 := by omega
      have hgo : ∀ i, 1 ≤ i → i < 4 → goesOn l i := fun i h1 h2 => HG.out i h1 (by omega)
      have hcn : a = cnv l 240 (4 - 1) := by rw [HA.out, hkk]
      have hC := HC.out
      have q1 := (hgo 1 (by omega) (by omega)).2.1
      have q2 := (hgo 2 (by omega) (by omega)).2.1
      have q3 := (hgo 3 (by omega) (by omega)).2.1
      have hcv := charV_four (l := l) ⟨by omega, by omega⟩ (hgo 1 (by omega) (by omega)) (hgo 2 (by omega) (by omega)) (hgo 3 (by omega) (by omega)) a.toNat (by simp only [cnv, Nat.reduceSub, Nat.reduceAdd, Nat.zero_add] at hcn; omega)
      clear hkk hcn hgo hC q1 q2 q3
      have hways : charV l = (0, 0) ∧ (a < 65536 ∨ (¬ a < 65536 ∧ 1114111 < a)) ∨ charV l = (a.toNat, 4) ∧ ¬ a < 65536 ∧ ¬ 1114111 < a := by
        rw [hcv]
        split
        · exact Or.inl ⟨rfl, by omega⟩
        · exact Or.inr ⟨rfl, by omega⟩
      clear hcv
      rcases hways with ⟨hcv, hw⟩ | ⟨hcv, hw⟩
      · have HCV := Lib.hid hcv
        clear hcv
        rcases hw with h1 | ⟨h1, h2⟩
        all_goals
          go_wp2_with fail
          go_ret2
          rw [HCV.out]
          exact ⟨rfl, hbq⟩
      · have HCV1 : Hid (((charV l).1 : Int) = a) := Lib.hid (by rw [hcv]; simp only []; omega)
        have HCV2 : Hid (((charV l).2 : Int) = 4) := Lib.hid (by rw [hcv]; rfl)
        clear hcv
        obtain ⟨h1, h2⟩ := hw
        have h3 : ¬ a < 57344 := by omega
        have h4 : ¬ a < 55296 := by omega
        go_wp2_with fail
        go_ret2
        rw [HCV1.out, HCV2.out]
        exact ⟨rfl, hbq⟩

/-- The reference's char at bytes. -/
theorem char_calls (s : ByteArray) (hp : 0 < s.size) (w : World) :
    Calls Tryd.prog 26 #[.string s] w fun e w' => e = .returned (.tuple #[.int .i64 (charV s.data.toList).1, .int .i64 (charV s.data.toList).2]) ∧ Below w.heap.size w w' := by
  have := gb_lt s.data.toList 0
  by_cases h1 : gb s.data.toList 0 < 192
  · exact char_small s hp (Or.inl h1) w
  by_cases h2 : gb s.data.toList 0 < 224
  · exact char_2 s hp (by omega) h2 w
  by_cases h3 : gb s.data.toList 0 < 240
  · exact char_3 s hp (by omega) h3 w
  by_cases h4 : gb s.data.toList 0 < 248
  · exact char_4 s hp (by omega) h4 w
  · exact char_small s hp (Or.inr (by omega)) w

theorem charV_ok {l : List UInt8} (h : okc l = true) : charV l = dec l := by unfold charV; rw [if_pos h]
theorem charV_no {l : List UInt8} (h : okc l = false) : charV l = (0, 0) := by unfold charV; rw [h]; rfl
theorem charV_size {l : List UInt8} (hl : l ≠ []) : ((charV l).2 = 0 ↔ okc l = false) ∧ (charV l).2 ≤ l.length := by
  cases h : okc l with
  | true =>
    rw [charV_ok h]
    have := dec_width hl
    exact ⟨⟨fun h0 => by omega, fun h0 => by cases h0⟩, this.2.1⟩
  | false =>
    rw [charV_no h]
    exact ⟨⟨fun _ => rfl, fun _ => rfl⟩, Nat.zero_le _⟩

end Go.Proofs.YtangbkiheoekaaaDoor
