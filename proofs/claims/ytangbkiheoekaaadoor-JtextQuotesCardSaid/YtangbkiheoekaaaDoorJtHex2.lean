/- strconv.ParseUint at four digits of base 16, and jtext.hex. -/
import Derived.Test.YtangbkiheoekaaaDoorJtHex
import Derived.Lib.ConvBytes
namespace Go.Proofs.YtangbkiheoekaaaDoor
open Go.RowKit

theorem hexv_index : ∀ r : Nat, r < 128 → decide (0 ≤ Lib.indexByte hexS.data.toList (r : Int).toNat.toUInt8) = (hexv r).isSome := by decide +kernel

set_option maxHeartbeats 2000000 in
set_option maxRecDepth 100000 in
theorem containsRune_hex (r : Nat) (h1 : r ≤ 1114111) (w : World) :
    Calls Tryd.prog 72 #[.string hexS, .int .i32 r] w fun e w' => e = .returned (.bool (hexv r).isSome) ∧ Below w.heap.size w w' := by
  by_cases h0 : r < 128
  · refine (Tryd.strings_ContainsRune_ascii hexS r w (by omega) (by omega)).mono ?_
    rintro e w' ⟨rfl, rfl⟩
    exact ⟨by rw [hexv_index r h0], Below.refl _ _⟩
  · have hx : (hexv r).isSome = false := by
      unfold hexv
      rw [if_neg (by omega), if_neg (by omega), if_neg (by omega)]; rfl
    have HX := Lib.hid hx
    clear hx
    go_enter Tryd.func72, Tryd.ntmps72
    go_wp2_with fail
    refine (indexRune_high r (by omega) h1 _).mono ?_
    rintro e w1 ⟨rfl, hb⟩
    go_wp2_with fail
    go_ret
    rw [HX.out]
    exact ⟨rfl, hb⟩

set_option maxHeartbeats 2000000 in
set_option maxRecDepth 100000 in
theorem hexFn (r : Nat) (h1 : r ≤ 1114111) (w : World) :
    Calls Tryd.prog 71 #[.int .i32 r] w fun e w' => e = .returned (.bool (hexv r).isNone) ∧ Below w.heap.size w w' := by
  go_enter Tryd.func71, Tryd.ntmps71
  go_wp2_with fail
  refine (containsRune_hex r h1 _).mono ?_
  rintro e w1 ⟨rfl, hb⟩
  go_wp2_with fail
  go_ret
  exact ⟨rfl, hb⟩

theorem hexFn_enters : ∀ args w, (callFunc 71 args).run Tryd.prog w = .ok (.enter 71 args) w := fun args w => by kernel_rfl


def hexfold : Nat → List UInt8 → Option Nat
  | acc, [] => some acc
  | acc, c :: r => match hexv c.toNat with
    | some d => hexfold (acc * 16 + d) r
    | none => none

theorem or32_low : ∀ c : Nat, c < 103 → 97 ≤ c → bits BinOp.or IntKind.u8 (c : Int) 32 = (c : Int) := by decide
theorem or32_up : ∀ c : Nat, c < 71 → 65 ≤ c → bits BinOp.or IntKind.u8 (c : Int) 32 = (c : Int) + 32 := by decide

theorem hexv_cases {c d : Nat} (h : hexv c = some d) : (48 ≤ c ∧ c ≤ 57 ∧ d = c - 48) ∨ (97 ≤ c ∧ c ≤ 102 ∧ d = c - 87) ∨ (65 ≤ c ∧ c ≤ 70 ∧ d = c - 55) := by
  unfold hexv at h
  split at h
  · cases h; omega
  · split at h
    · cases h; omega
    · split at h
      · cases h; omega
      · cases h

set_option maxHeartbeats 32000000 in
set_option maxRecDepth 100000 in
theorem parseUint_inner (t : ByteArray) (N : Nat) (h4 : t.size = 4) (hN : hexfold 0 t.data.toList = some N) (w : World) :
    Calls Tryd.prog 56 #[.string t, .int .i64 16, .int .i64 32] w fun e w' => e = .returned (.tuple #[.int .u64 N, .nilIface]) ∧ Below w.heap.size w w' := by
  have hemp : t.toList.isEmpty = false := by
    rw [← decide_eq_emptyBytes]
    exact decide_eq_false (fun h => by rw [h] at h4; cases h4)
  have hcv := Lib.run_convert_string_bytes (P := Tryd.prog) w 9 35 5 t (u := .string) Tryd.underlying9 Tryd.underlying35 Tryd.underlying5
  have hB : ∀ j, j < t.size → (Lib.bytesWorld w 5 t).cell? ⟨w.heap.size, j, none⟩ = some (.int .u8 (t.data.toList.getD j 0).toNat) := fun j hj => Lib.bytesWorld_cell w 5 t j hj
  have hW : Below w.heap.size w (Lib.bytesWorld w 5 t) := by
    unfold Lib.bytesWorld
    exact Lib.below_freeze (((Below.refl _ w).drew).alloc (Nat.le_refl _) _) (Nat.le_refl _) 1
  obtain ⟨W1, hW1⟩ : ∃ W1, W1 = Lib.bytesWorld w 5 t := ⟨_, rfl⟩
  rw [← hW1] at hcv hB hW
  clear hW1
  obtain ⟨bs, hL⟩ : ∃ bs, bs = t.data.toList := ⟨_, rfl⟩
  have hLn : bs.length = t.size := by rw [hL, Lib.size_eq]
  rw [← hL] at hB hN
  clear hL
  have HN := Lib.hid hN
  clear hN
  go_enter Tryd.func56, Tryd.ntmps56
  go_wp2_with fail
  go_loop [12, 13, 101] (fun vu vn vi => ∃ (k acc : Nat) (a : Int), vu = .bool false ∧ vn = .int .u64 a ∧ vi = .int .i64 k ∧ k ≤ t.size ∧ Hid (a = (acc : Int) ∧ acc < 16 ^ k ∧ hexfold acc (bs.drop k) = some N))
    (fun _ _ vi => t.size - (intOf vi).toNat)
  case atStart => exact ⟨0, 0, 0, rfl, rfl, rfl, by omega, rfl, by simp, HN.out⟩
  case round =>
    obtain ⟨k, acc, a, rfl, rfl, rfl, hk, hh⟩ := hrel
    obtain ⟨ha, hacc, hdec⟩ := hh.out
    clear hh
    have hacc4 : acc < 65536 := Nat.lt_of_lt_of_le hacc (by
      rw [show 65536 = 16 ^ 4 by rfl]; exact Nat.pow_le_pow_right (by omega) (by omega))
    have a0 : 0 ≤ a := by omega
    have a1 : a < 65536 := by omega
    by_cases hkn : k < t.size
    · have hc := hB k hkn
      have hdrop : bs.drop k = bs[k]'(by omega) :: bs.drop (k + 1) := List.drop_eq_getElem_cons (by omega)
      have hget : bs.getD k 0 = bs[k]'(by omega) := by simp [List.getD, List.getElem?_eq_getElem (show k < bs.length by omega)]
      rw [hdrop] at hdec
      rw [hget] at hc
      generalize bs[k]'(by omega) = c at hc hdec
      have hc256 : c.toNat < 256 := c.toNat_lt
      clear hB hdrop hget
      unfold hexfold at hdec
      cases hx : hexv c.toNat with
      | none => rw [hx] at hdec; cases hdec
      | some d =>
        rw [hx] at hdec
        simp only [] at hdec
        have hcs := hexv_cases hx
        have hp : 16 ^ (k + 1) = 16 ^ k * 16 := Nat.pow_succ 16 k
        have hacc' : acc * 16 + d < 16 ^ (k + 1) := by omega
        clear hx hp hacc hacc4
        rcases hcs with ⟨d0, d1, hd⟩ | ⟨d0, d1, hd⟩ | ⟨d0, d1, hd⟩
        · have HH : Hid (a * 16 + ((c.toNat : Int) - 48) = ((acc * 16 + d : Nat) : Int) ∧ acc * 16 + d < 16 ^ (k + 1) ∧ hexfold (acc * 16 + d) (bs.drop (k + 1)) = some N) := Lib.hid ⟨by omega, hacc', hdec⟩
          clear hacc' hdec ha hd
          go_wp2_with fail
          go_round
          case rel => exact ⟨k + 1, acc * 16 + d, a * 16 + ((c.toNat : Int) - 48), rfl, by go_num, by go_num, by omega, HH⟩
          case measure => simp [intOf]; omega
        · have HH : Hid (a * 16 + ((c.toNat : Int) - 97 + 10) = ((acc * 16 + d : Nat) : Int) ∧ acc * 16 + d < 16 ^ (k + 1) ∧ hexfold (acc * 16 + d) (bs.drop (k + 1)) = some N) := Lib.hid ⟨by omega, hacc', hdec⟩
          have hlo := or32_low c.toNat (by omega) (by omega)
          clear hacc' hdec ha hd
          go_wp2_with (go_at_call 74; refine (Tryd.internal_strconv_lower _ _).mono ?_; rintro e w' ⟨rfl, rfl⟩)
          go_round
          case rel => exact ⟨k + 1, acc * 16 + d, a * 16 + ((c.toNat : Int) - 97 + 10), rfl, by go_num, by go_num, by omega, HH⟩
          case measure => simp [intOf]; omega
        · have HH : Hid (a * 16 + ((c.toNat : Int) + 32 - 97 + 10) = ((acc * 16 + d : Nat) : Int) ∧ acc * 16 + d < 16 ^ (k + 1) ∧ hexfold (acc * 16 + d) (bs.drop (k + 1)) = some N) := Lib.hid ⟨by omega, hacc', hdec⟩
          have hlo := or32_up c.toNat (by omega) (by omega)
          clear hacc' hdec ha hd
          go_wp2_with (go_at_call 74; refine (Tryd.internal_strconv_lower _ _).mono ?_; rintro e w' ⟨rfl, rfl⟩)
          go_round
          case rel => exact ⟨k + 1, acc * 16 + d, a * 16 + ((c.toNat : Int) + 32 - 97 + 10), rfl, by go_num, by go_num, by omega, HH⟩
          case measure => simp [intOf]; omega
    · have hdrop : bs.drop k = [] := List.drop_eq_nil_of_le (by omega)
      rw [hdrop] at hdec
      have hacN : (acc : Int) = N := by have := Option.some.inj (show some acc = some N from hdec); omega
      have HA := Lib.hid (ha.trans hacN)
      clear hacN ha hdec hacc hdrop
      go_wp2_with fail
      go_ret2
      rw [HA.out]
      exact ⟨rfl, hW⟩
end Go.Proofs.YtangbkiheoekaaaDoor
