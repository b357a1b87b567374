/- The reference's hex, escape. -/
import Derived.Test.YtndkbecdjaedaaaGreatDoorJtRef7
namespace Go.Proofs.YtndkbecdjaedaaaGreatDoor
open Go.RowKit

def hexN : Nat → Nat → List UInt8 → Nat → Option Nat
  | 0, acc, _, _ => some acc
  | m + 1, acc, l, i => match hexv (gb l i) with
    | some d => hexN m (acc * 16 + d) l (i + 1)
    | none => none
theorem hexN_four {l : List UInt8} (h : 4 ≤ l.length) : hex4 l = hexN 4 0 l 0 := by
  unfold hex4
  rw [if_neg (by omega)]
  simp only [hexN]
  cases hexv (gb l 0) with
  | none => rfl
  | some a =>
    cases hexv (gb l 1) with
    | none => rfl
    | some b =>
      cases hexv (gb l 2) with
      | none => rfl
      | some c =>
        cases hexv (gb l 3) with
        | none => rfl
        | some d => simp

def rhexV (l : List UInt8) : Int := match hex4 l with
  | some n => n
  | none => -1

theorem hexv_none {c : Nat} (h : hexv c = none) : (c < 48 ∨ (57 < c ∧ c < 65) ∨ (70 < c ∧ c < 97) ∨ 102 < c) := by
  unfold hexv at h
  by_cases h1 : 48 ≤ c ∧ c ≤ 57
  · rw [if_pos h1] at h; cases h
  by_cases h2 : 97 ≤ c ∧ c ≤ 102
  · rw [if_neg h1, if_pos h2] at h; cases h
  by_cases h3 : 65 ≤ c ∧ c ≤ 70
  · rw [if_neg h1, if_neg h2, if_pos h3] at h; cases h
  omega

set_option maxHeartbeats 16000000 in
set_option maxRecDepth 1000000 in
theorem rhex_calls (s : ByteArray) (w : World) :
    Calls Tryz.prog 205 #[.string s] w fun e w' => e = .returned (.int .i64 (rhexV s.data.toList)) ∧ Below w.heap.size w w' := by
  by_cases h4 : s.size < 4
  · have h4I : (s.size : Int) < 4 := by omega
    have HR : Hid (rhexV s.data.toList = -1) := Lib.hid (by unfold rhexV hex4; rw [if_pos (by rw [← Lib.size_eq]; exact h4)])
    go_enter Tryz.func205, Tryz.ntmps205
    go_wp2_with fail
    go_ret
    rw [HR.out]
    exact ⟨rfl, Below.refl _ _⟩
  · have h4I : ¬ (s.size : Int) < 4 := by omega
    have hx := hexN_four (l := s.data.toList) (by rw [← Lib.size_eq]; omega)
    have HX := Lib.hid (byte_run s)
    obtain ⟨L, hL⟩ : ∃ L, s.data.toList = L := ⟨_, rfl⟩
    rw [hL] at hx HX ⊢
    have H0 := Lib.hid hx
    clear hL hx
    go_enter Tryz.func205, Tryz.ntmps205
    go_wp2_with fail
    go_loop [3, 4] (fun vn vi => ∃ (i a : Nat), vn = .int .i64 a ∧ vi = .int .i64 i ∧ i ≤ 4 ∧ a ≤ 1048576 ∧ Hid (a < 16 ^ i) ∧ Hid (hex4 L = hexN (4 - i) a L i)) (fun _ vi => 4 - (intOf vi).toNat)
    case atStart => exact ⟨0, 0, rfl, rfl, by omega, by omega, Lib.hid (by simp), H0⟩
    case round =>
      obtain ⟨i, a, rfl, rfl, hi4, hab, HB, HH⟩ := hrel
      by_cases hi : i < 4
      · have hiI : (i : Int) < 4 := by omega
        have hruni := HX.out i (by omega)
        obtain ⟨c, hc⟩ : ∃ c, gb L i = c := ⟨_, rfl⟩
        rw [hc] at hruni
        have hstep := HH.out
        rw [show 4 - i = (4 - (i + 1)) + 1 by omega] at hstep
        simp only [hexN] at hstep
        rw [hc] at hstep
        cases hv : hexv c with
        | none =>
          rw [hv] at hstep
          have HR : Hid (rhexV L = -1) := Lib.hid (by unfold rhexV; rw [hstep])
          have hn := hexv_none hv
          clear hstep hv hc
          have hways : (c : Int) < 48 ∨ (¬ (c : Int) < 48 ∧ ¬ (c : Int) ≤ 57 ∧ (c : Int) < 65) ∨ (¬ (c : Int) < 65 ∧ ¬ (c : Int) ≤ 70 ∧ (c : Int) < 97) ∨ (¬ (c : Int) < 97 ∧ ¬ (c : Int) ≤ 102) := by omega
          clear hn
          rcases hways with g1 | ⟨g1, g2, g3⟩ | ⟨g1, g2, g3⟩ | ⟨g1, g2⟩
          all_goals
            go_wp2_with fail
            go_ret
            rw [HR.out]
            exact ⟨rfl, Below.refl _ _⟩
        | some d =>
          rw [hv] at hstep
          simp only [] at hstep
          have hcs := hexv_cases hv
          have hp : 16 ^ (i + 1) = 16 ^ i * 16 := Nat.pow_succ 16 i
          have hp4 : 16 ^ (i + 1) ≤ 16 ^ 4 := Nat.pow_le_pow_right (by omega) (by omega)
          have hp5 : 16 ^ 4 = 65536 := by decide
          have hB := HB.out
          have hd15 : d ≤ 15 := by omega
          have HB' : Hid (a * 16 + d < 16 ^ (i + 1)) := Lib.hid (by omega)
          have hab' : a * 16 + d ≤ 1048576 := by omega
          have HS := Lib.hid hstep
          clear hstep hv hc hp hp4 hp5 hB
          rcases hcs with ⟨d0, d1, hd⟩ | ⟨d0, d1, hd⟩ | ⟨d0, d1, hd⟩
          · have g0 : (48 : Int) ≤ (c : Int) := by omega
            have g1 : (c : Int) ≤ 57 := by omega
            have HD := Lib.hid (show (d : Int) = (c : Int) - 48 by omega)
            clear hd
            go_wp2_with fail
            go_round
            case rel => exact ⟨i + 1, a * 16 + d, by have := HD.out; exact congrArg (Value.int .i64) (by omega), by go_num, by omega, hab', HB', HS⟩
            case measure => simp [intOf]; omega
          · have g0 : ¬ (c : Int) ≤ 57 := by omega
            have g1 : (97 : Int) ≤ (c : Int) := by omega
            have g2 : (c : Int) ≤ 102 := by omega
            have HD := Lib.hid (show (d : Int) = (c : Int) - 97 + 10 by omega)
            clear hd
            go_wp2_with fail
            go_round
            case rel => exact ⟨i + 1, a * 16 + d, by have := HD.out; exact congrArg (Value.int .i64) (by omega), by go_num, by omega, hab', HB', HS⟩
            case measure => simp [intOf]; omega
          · have g0 : ¬ (c : Int) ≤ 57 := by omega
            have g1 : ¬ (97 : Int) ≤ (c : Int) := by omega
            have g2 : (65 : Int) ≤ (c : Int) := by omega
            have g3 : (c : Int) ≤ 70 := by omega
            have HD := Lib.hid (show (d : Int) = (c : Int) - 65 + 10 by omega)
            clear hd
            go_wp2_with fail
            go_round
            case rel => exact ⟨i + 1, a * 16 + d, by have := HD.out; exact congrArg (Value.int .i64) (by omega), by go_num, by omega, hab', HB', HS⟩
            case measure => simp [intOf]; omega
      · have hiI : ¬ (i : Int) < 4 := by omega
        have HR : Hid (rhexV L = (a : Int)) := Lib.hid (by
          have h1 : i = 4 := by omega
          have h2 := HH.out
          rw [h1] at h2
          unfold rhexV; rw [h2]; rfl)
        go_wp2_with fail
        go_ret
        rw [HR.out]
        exact ⟨rfl, Below.refl _ _⟩

def eight : List Nat := [8, 9, 10, 12, 13, 34, 47, 92]
def eightS : List UInt8 := [98, 116, 110, 102, 114, 34, 47, 92]
theorem eight_hit : ∀ i : Nat, i < 8 → short (eightS.getD i 0).toNat = eight.getD i 0 ∧ eight.getD i 0 ≠ 0 ∧ eight.getD i 0 < 128 := by decide
theorem eight_miss {c : Nat} (h : ∀ i, i < 8 → (eightS.getD i 0).toNat ≠ c) : short c = 0 := by
  have h0 := h 0 (by omega); have h1 := h 1 (by omega); have h2 := h 2 (by omega); have h3 := h 3 (by omega); have h4 := h 4 (by omega); have h5 := h 5 (by omega); have h6 := h 6 (by omega); have h7 := h 7 (by omega)
  simp [eightS] at h0 h1 h2 h3 h4 h5 h6 h7
  unfold short
  rw [if_neg (by omega), if_neg (by omega), if_neg (by omega), if_neg (by omega), if_neg (by omega), if_neg (by omega), if_neg (by omega), if_neg (by omega)]

theorem eight_cell (W : World) (i : Nat) (h : i < 8) : (W.alloc (.cells #[.int .i64 8, .int .i64 9, .int .i64 10, .int .i64 12, .int .i64 13, .int .i64 34, .int .i64 47, .int .i64 92] 218)).cell? ⟨W.heap.size, i, none⟩ = some (.int .i64 (eight.getD i 0 : Nat)) := by
  have : i = 0 ∨ i = 1 ∨ i = 2 ∨ i = 3 ∨ i = 4 ∨ i = 5 ∨ i = 6 ∨ i = 7 := by omega
  rcases this with rfl | rfl | rfl | rfl | rfl | rfl | rfl | rfl <;> simp [World.cell?, World.alloc, -World.alloc_eq, eight]

def signB : ByteArray := ⟨#[98, 116, 110, 102, 114, 34, 47, 92]⟩
theorem sign8_run (i : Nat) (h : i < 8) : ∀ w, (Instr.index 9 (.string signB) (.int .i64 (i : Int))).run Tryz.prog w = .ok (.int .u8 (eightS.getD i 0).toNat) w := by
  intro w
  have hr := byte_run signB i (by exact h) w
  have : i = 0 ∨ i = 1 ∨ i = 2 ∨ i = 3 ∨ i = 4 ∨ i = 5 ∨ i = 6 ∨ i = 7 := by omega
  rcases this with rfl | rfl | rfl | rfl | rfl | rfl | rfl | rfl <;> exact hr

theorem rhexV_some {l : List UInt8} {n : Nat} (h : hex4 l = some n) : rhexV l = n := by unfold rhexV; rw [h]
theorem rhexV_none {l : List UInt8} (h : hex4 l = none) : rhexV l = -1 := by unfold rhexV; rw [h]

/-- What escape hands back. -/
def rescV (l : List UInt8) : List UInt8 × Nat := if (esc l).2 = 0 then ([], 0) else (enc (esc l).1, (esc l).2)

/-- The ways of an escape that is no short one. -/
theorem resc_ways {L : List UInt8} (hne : L ≠ []) (hs : short (gb L 0) = 0) :
    (gb L 0 ≠ 117 ∧ rescV L = ([], 0)) ∨ (gb L 0 = 117 ∧ hex4 (L.drop 1) = none ∧ rescV L = ([], 0)) ∨
    (∃ n, gb L 0 = 117 ∧ hex4 (L.drop 1) = some n ∧ ((n < 55296 ∨ 57343 < n) ∧ n < 65536 ∧ rescV L = (enc n, 5) ∨
      (55296 ≤ n ∧ n ≤ 57343) ∧ ((56319 < n ∨ L.length < 11 ∨ gb L 5 ≠ 92 ∨ gb L 6 ≠ 117) ∧ rescV L = ([], 0) ∨
        (n ≤ 56319 ∧ 11 ≤ L.length ∧ gb L 5 = 92 ∧ gb L 6 = 117) ∧ (hex4 (L.drop 7) = none ∧ rescV L = ([], 0) ∨
          ∃ m, hex4 (L.drop 7) = some m ∧ ((m < 56320 ∨ 57343 < m) ∧ rescV L = ([], 0) ∨ (56320 ≤ m ∧ m ≤ 57343) ∧ rescV L = (enc (65536 + (n - 55296) * 1024 + (m - 56320)), 11)))))) := by
  have hE : rescV L = if gb L 0 ≠ 117 then ([], 0) else if (uesc (L.drop 1)).2 = 0 then ([], 0) else (enc (uesc (L.drop 1)).1, (uesc (L.drop 1)).2 + 1) := by
    unfold rescV esc
    rw [if_neg hne, if_neg (show ¬ (short (gb L 0) ≠ 0) from fun h => h hs)]
    by_cases h : gb L 0 ≠ 117
    · rw [if_pos h, if_pos h]; rfl
    · rw [if_neg h, if_neg h]
      by_cases h2 : (uesc (L.drop 1)).2 = 0
      · rw [if_pos h2, if_pos h2]; rfl
      · rw [if_neg h2, if_neg h2]
        simp only []
        rw [if_neg (by omega)]
  by_cases c0 : gb L 0 ≠ 117
  · exact Or.inl ⟨c0, by rw [hE, if_pos c0]⟩
  have c0' : gb L 0 = 117 := by omega
  rw [if_neg c0] at hE
  cases h1 : hex4 (L.drop 1) with
  | none => exact Or.inr (Or.inl ⟨c0', rfl, by rw [hE]; unfold uesc; rw [h1]; rfl⟩)
  | some n =>
    refine Or.inr (Or.inr ⟨n, c0', rfl, ?_⟩)
    have hn := (hex4_drop h1).2
    have hU : uesc (L.drop 1) = if n < 55296 ∨ 57343 < n then (n, 4)
        else if 56319 < n ∨ gb L 5 ≠ 92 ∨ gb L 6 ≠ 117 then (0, 0)
        else match hex4 (L.drop 7) with
          | none => (0, 0)
          | some m => if m < 56320 ∨ 57343 < m then (0, 0) else (65536 + (n - 55296) * 1024 + (m - 56320), 10) := by
      unfold uesc; rw [h1]
      simp only [gb_drop, List.drop_drop, Nat.reduceAdd]
      rfl
    by_cases k1 : n < 55296 ∨ 57343 < n
    · rw [if_pos k1] at hU
      exact Or.inl ⟨k1, hn, by rw [hE, hU]; rfl⟩
    rw [if_neg k1] at hU
    refine Or.inr ⟨by omega, ?_⟩
    by_cases k2 : 56319 < n ∨ gb L 5 ≠ 92 ∨ gb L 6 ≠ 117
    · rw [if_pos k2] at hU
      exact Or.inl ⟨by omega, by rw [hE, hU]; rfl⟩
    rw [if_neg k2] at hU
    by_cases k3 : L.length < 11
    · have h7 : hex4 (L.drop 7) = none := by unfold hex4; rw [if_pos (by rw [List.length_drop]; omega)]
      rw [h7] at hU
      exact Or.inl ⟨by omega, by rw [hE, hU]; rfl⟩
    refine Or.inr ⟨by omega, ?_⟩
    cases h7 : hex4 (L.drop 7) with
    | none => rw [h7] at hU; exact Or.inl ⟨rfl, by rw [hE, hU]; rfl⟩
    | some m =>
      rw [h7] at hU
      simp only [] at hU
      refine Or.inr ⟨m, rfl, ?_⟩
      by_cases k4 : m < 56320 ∨ 57343 < m
      · rw [if_pos k4] at hU; exact Or.inl ⟨k4, by rw [hE, hU]; rfl⟩
      · rw [if_neg k4] at hU; exact Or.inr ⟨by omega, by rw [hE, hU]; rfl⟩


end Go.Proofs.YtndkbecdjaedaaaGreatDoor
