/- jtext.hex and what it calls: a character of the digits of base 16, strconv.ParseUint at base 16. -/
import Derived.Test.YtndkbecdjaedaaaGreatDoorJtQuote
import Derived.Deep.QuietTactic
import Derived.BigQuiet
import Derived.WalkSmall
import Derived.Lib.ConvBytes
import Derived.Laws.RangeAny
import Derived.WideLaws
namespace Go.Proofs.YtndkbecdjaedaaaGreatDoor
open Go.RowKit

def hexS : ByteArray := ⟨#[48, 49, 50, 51, 52, 53, 54, 55, 56, 57, 97, 98, 99, 100, 101, 102, 65, 66, 67, 68, 69, 70]⟩
theorem hexS_size : hexS.size = 22 := rfl
theorem hexS_ascii : ∀ i : Nat, i < 22 → (hexS.data.toList.getD i 0).toNat < 128 := by decide
theorem hexS_decode : ∀ i : Nat, i < 22 → Utf8.decode hexS i = ((hexS.data.toList.getD i 0).toNat, 1) := by decide

theorem indexByte_none (l : List UInt8) (c : UInt8) (h : ∀ x ∈ l, x ≠ c) : Lib.indexByte l c = -1 := by
  induction l with
  | nil => rfl
  | cons x r ih =>
    have h1 : x ≠ c := h x (by simp)
    have h2 := ih fun y hy => h y (by simp [hy])
    simp [Lib.indexByte, h1, h2]

theorem bdrewN {B : Nat} {a w : World} (h : Below B a w) (n : Nat) : Below B a (w.drewN n) := h.trans ⟨rfl, rfl, rfl, Nat.le_refl _, fun _ _ => rfl⟩
section
variable {Q : Exit → Act → World → Prop} {n : Act → World → Prop} {a : Act} {w : World} {id : Nat}
theorem ret_inBlock : Exit.inBlock id Q .ret a w = Q .ret a w := rfl
theorem ret_then : Exit.then n Q .ret a w = Q .ret a w := rfl
end
theorem slice_from (s : ByteArray) (a : Nat) (ha : a ≤ s.size) : ∃ R : ByteArray, R.data.toList = s.data.toList.drop a ∧ R.size = s.size - a ∧
    ∀ w, (Instr.slice 9 (.string s) (some (.int .i64 (a : Int))) none none).run Tryz.prog w = .ok (.string R) w :=
  ⟨s.extract a s.size, Lib.extract_to_end s a, by simp, fun w => by
    have := run_slice_string_l (P := Tryz.prog) w 9 s Tryz.underlying9 .i64 (a : Int) (by omega) (by omega)
    simpa using this⟩
theorem indexByte_u8 (s : ByteArray) (c : UInt8) (w : World) : Calls Tryz.prog 147 #[.string s, .int .u8 c.toNat] w fun e w' => e = .returned (.int .i64 (Lib.indexByte s.data.toList c)) ∧ w' = w := by
  have := Tryz.strings_IndexByte s (c.toNat : Int) w
  simpa using this

set_option maxHeartbeats 2000000 in
set_option maxRecDepth 2000000 in
/-- A character beyond ASCII is none of them. -/
theorem indexRune_high (r : Nat) (h0 : 128 ≤ r) (h1 : r ≤ 1114111) (w : World) :
    Calls Tryz.prog 181 #[.string hexS, .int .i32 r] w fun e w' => e = .returned (.int .i64 (-1)) ∧ Below w.heap.size w w' := by
  have hsz : hexS.size = 22 := rfl
  have hn1 : ¬ (r : Int) < 128 := by omega
  by_cases hf : r = 65533
  · have hb1 : ((r : Int) == 65533) = true := by simp; omega
    clear hf
    go_enter Tryz.func181, Tryz.ntmps181
    go_wp2_with fail
    go_loopw [] (fun wr => ∃ pos : Nat, pos ≤ 22 ∧ wr.heap[w.heap.size]? = some (.stringIter hexS pos) ∧ Below w.heap.size w wr) (fun wr => 22 - wr.iterPos w.heap.size)
    case atStart => exact ⟨0, by omega, World.iter_heap w hexS 0, (Below.refl _ w).alloc (Nat.le_refl _) _⟩
    case round =>
      obtain ⟨pos, hp22, hit, hbw⟩ := hrel
      by_cases hp : pos < 22
      · have hd := hexS_decode pos hp
        have hnx : ∀ ty, (Instr.next (.pointer (some ⟨w.heap.size, 0, none⟩)) true ty).run Tryz.prog wr = _ := fun ty => Lib.run_next_any_at wr w.heap.size hexS pos ty hit (by rw [hsz]; exact hp)
        have hit2 := Lib.iterAt_heap wr w.heap.size hexS pos (pos + (Utf8.decode hexS pos).2) hit
        have hbw2 := Lib.below_iterAt hbw (k := w.heap.size) (by omega) hexS (pos + (Utf8.decode hexS pos).2)
        rw [hd] at hnx hit2 hbw2
        obtain ⟨m, hm⟩ : ∃ m, (hexS.data.toList.getD pos 0).toNat = m := ⟨_, rfl⟩
        simp only [hm] at hnx hit2 hbw2
        have hm128 : m < 128 := by rw [← hm]; exact hexS_ascii pos hp
        have hb : ((m : Int) == 65533) = false := by simp; omega
        clear hm hd
        go_wp2_with fail
        go_roundw
        case rel => exact ⟨pos + 1, by omega, hit2, hbw2⟩
        case measure =>
          rw [iter_pos hit2, iter_pos hit]
          omega
      · have hnx : ∀ ty, (Instr.next (.pointer (some ⟨w.heap.size, 0, none⟩)) true ty).run Tryz.prog wr = _ := fun ty => Lib.run_next_end_at wr w.heap.size hexS pos ty hit (by rw [hsz]; omega)
        go_wp2_with fail
        go_ret
        exact ⟨rfl, hbw⟩
  have hb1 : ((r : Int) == 65533) = false := by simp; omega
  by_cases hv : Lib.validRune (r : Int) = true
  · obtain ⟨T, hT⟩ : ∃ T, Utf8.encode (r : Int) = T := ⟨_, rfl⟩
    have hconv : ∀ w, (convert 21 9 (.int .i32 (r : Int))).run Tryz.prog w = .ok (.string T) w := fun w => by
      rw [run_convert_int_string (P := Tryz.prog) w 21 9 .i32 _ (by rw [Tryz.underlying21]; rfl) Tryz.underlying9, hT]
    obtain ⟨g1, g2, g3⟩ := encode_facts (r : Int) (by simp [Lib.validRune] at hv; simp [Utf8.valid]; omega) (by omega)
    rw [hT] at g1 g2 g3
    obtain ⟨z, hz⟩ : ∃ z : UInt8, T[T.size - 1]'(by omega) = z := ⟨_, rfl⟩
    have hz128 : 128 ≤ z.toNat := by rw [← hz]; exact g3 (by omega)
    have HV := Lib.hid hv
    clear hT hv g3
    have hx : ∀ k : Nat, k < 22 → ∀ w, (Instr.index 9 (.string hexS) (.int .i64 (k : Int))).run Tryz.prog w = .ok (.int .u8 (hexS.data.toList.getD k 0).toNat) w := by
      intro k hk w
      have hr := run_index_string (P := Tryz.prog) w 9 hexS .i64 (k : Int) Tryz.underlying9
      rw [dif_pos ⟨by omega, by rw [hsz]; omega⟩] at hr
      rw [hr]
      simp only [Int.toNat_natCast]
      rw [List.getD_eq_getElem?_getD, List.getElem?_eq_getElem (by exact hk)]
      rfl
    have hz1 : ∀ w, (Instr.index 9 (.string T) (.int .i64 ((T.size : Int) - 1))).run Tryz.prog w = .ok (.int .u8 z.toNat) w := by
      intro w
      have hr := run_index_string (P := Tryz.prog) w 9 T .i64 ((T.size : Int) - 1) Tryz.underlying9
      rw [dif_pos ⟨by omega, by omega⟩] at hr
      rw [hr, ← hz]
      simp only [show ((T.size : Int) - 1).toNat = T.size - 1 by omega]
    have hnone : Lib.indexByte (hexS.data.toList.drop (T.size)) z = -1 := by
      refine indexByte_none _ _ fun x hxm e => ?_
      have h3 : ∀ y ∈ hexS.data.toList, y.toNat < 128 := by decide
      have := h3 x (List.mem_of_mem_drop hxm)
      rw [e] at this; omega
    obtain ⟨q, hq⟩ : ∃ q, hexS.data.toList.getD (T.size - 1) 0 = q := ⟨_, rfl⟩
    have hq128 : q.toNat < 128 := by rw [← hq]; exact hexS_ascii _ (by omega)
    have hx1 : ∀ w, (Instr.index 9 (.string hexS) (.int .i64 ((T.size : Int) - 1))).run Tryz.prog w = .ok (.int .u8 q.toNat) w := by
      intro w; rw [← hq, show ((T.size : Int) - 1) = ((T.size - 1 : Nat) : Int) by omega]; exact hx _ (by omega) w
    have hne : ((q.toNat : Int) != (z.toNat : Int)) = true := by simp; omega
    have HN := Lib.hid hnone
    clear hz hq hx hnone
    go_enter Tryz.func181, Tryz.ntmps181
    go_wp2_with fail
    refine (Tryz.utf8_ValidRune _ _).mono ?_
    rintro e w1 ⟨rfl, rfl⟩
    rw [HV.out]
    go_wp2_with fail
    go_step3
    go_wp2_with fail
    refine wp_loop_rounds 1 ?_
    rw [rounds_succ]
    go_wp2_with fail
    go_step3
    go_wp2_with fail
    go_quiet (fail)
    go_wp2_with fail
    obtain ⟨R, hR, hRs, hsl⟩ := slice_from hexS T.size (by omega)
    have hw1 : IntKind.i64.wrap (T.size : Int) = (T.size : Int) := IntWalk.i64_in _ (by omega)
    have hres : Lib.indexByte R.data.toList z = -1 := by rw [hR]; exact HN.out
    have HR := Lib.hid hres
    clear hR hres
    have hb2 : Below w1.heap.size w1 (w1.drewN nq) := bdrewN (Below.refl _ _) nq
    generalize w1.drewN nq = w2 at hb2 ⊢
    go_quiet ((go_at_call 147; exact Calls.quiet_of_same (indexByte_u8 R z _)))
    have hb3 : Below w1.heap.size w1 (w2.drewN nq) := bdrewN hb2 nq
    generalize w2.drewN nq = w3 at hb3 ⊢
    rw [HR.out]
    go_wp2_with fail
    repeat (first | rw [ret_inBlock] | rw [ret_then] | rw [Exit.noGoto_ret])
    go_ret
    exact ⟨rfl, hb3⟩
  · rw [Bool.not_eq_true] at hv
    have HV := Lib.hid hv
    clear hv
    go_enter Tryz.func181, Tryz.ntmps181
    go_wp2_with fail
    refine (Tryz.utf8_ValidRune _ _).mono ?_
    rintro e w1 ⟨rfl, rfl⟩
    rw [HV.out]
    go_wp2_with fail
    go_ret
    exact ⟨rfl, Below.refl _ _⟩

end Go.Proofs.YtndkbecdjaedaaaGreatDoor
/- strconv.ParseUint at four digits of base 16, and jtext.hex. -/
namespace Go.Proofs.YtndkbecdjaedaaaGreatDoor
open Go.RowKit

theorem hexv_index : ∀ r : Nat, r < 128 → decide (0 ≤ Lib.indexByte hexS.data.toList (r : Int).toNat.toUInt8) = (hexv r).isSome := by decide +kernel

set_option maxHeartbeats 2000000 in
set_option maxRecDepth 100000 in
theorem containsRune_hex (r : Nat) (h1 : r ≤ 1114111) (w : World) :
    Calls Tryz.prog 154 #[.string hexS, .int .i32 r] w fun e w' => e = .returned (.bool (hexv r).isSome) ∧ Below w.heap.size w w' := by
  by_cases h0 : r < 128
  · refine (Tryz.strings_ContainsRune_ascii hexS r w (by omega) (by omega)).mono ?_
    rintro e w' ⟨rfl, rfl⟩
    exact ⟨by rw [hexv_index r h0], Below.refl _ _⟩
  · have hx : (hexv r).isSome = false := by
      unfold hexv
      rw [if_neg (by omega), if_neg (by omega), if_neg (by omega)]; rfl
    have HX := Lib.hid hx
    clear hx
    go_enter Tryz.func154, Tryz.ntmps154
    go_wp2_with fail
    refine (indexRune_high r (by omega) h1 _).mono ?_
    rintro e w1 ⟨rfl, hb⟩
    go_wp2_with fail
    go_ret
    rw [HX.out]
    exact ⟨rfl, hb⟩

set_option maxHeartbeats 2000000 in
set_option maxRecDepth 100000 in
theorem hexFn (r : Nat) (h1 : r ≤ 1114111) (w : World) :
    Calls Tryz.prog 223 #[.int .i32 r] w fun e w' => e = .returned (.bool (hexv r).isNone) ∧ Below w.heap.size w w' := by
  go_enter Tryz.func223, Tryz.ntmps223
  go_wp2_with fail
  refine (containsRune_hex r h1 _).mono ?_
  rintro e w1 ⟨rfl, hb⟩
  go_wp2_with fail
  go_ret
  exact ⟨rfl, hb⟩

theorem hexFn_enters : ∀ args w, (callFunc 223 args).run Tryz.prog w = .ok (.enter 223 args) w := fun args w => by kernel_rfl


def hexfold : Nat → List UInt8 → Option Nat
  | acc, [] => some acc
  | acc, c :: r => match hexv c.toNat with
    | some d => hexfold (acc * 16 + d) r
    | none => none

theorem or32_low : ∀ c : Nat, c < 103 → 97 ≤ c → bits BinOp.or IntKind.u8 (c : Int) 32 = (c : Int) := by decide
theorem or32_up : ∀ c : Nat, c < 71 → 65 ≤ c → bits BinOp.or IntKind.u8 (c : Int) 32 = (c : Int) + 32 := by decide

theorem hexv_cases {c d : Nat} (h : hexv c = some d) : (48 ≤ c ∧ c ≤ 57 ∧ d = c - 48) ∨ (97 ≤ c ∧ c ≤ 102 ∧ d = c - 87) ∨ (65 ≤ c ∧ c ≤ 70 ∧ d = c - 55) := by
  unfold hexv at h
  split at h
  · cases h; omega
  · split at h
    · cases h; omega
    · split at h
      · cases h; omega
      · cases h

set_option maxHeartbeats 32000000 in
set_option maxRecDepth 100000 in
theorem parseUint_inner (t : ByteArray) (N : Nat) (h4 : t.size = 4) (hN : hexfold 0 t.data.toList = some N) (w : World) :
    Calls Tryz.prog 217 #[.string t, .int .i64 16, .int .i64 32] w fun e w' => e = .returned (.tuple #[.int .u64 N, .nilIface]) ∧ Below w.heap.size w w' := by
  have hemp : t.toList.isEmpty = false := by
    rw [← decide_eq_emptyBytes]
    exact decide_eq_false (fun h => by rw [h] at h4; cases h4)
  have hcv := Lib.run_convert_string_bytes (P := Tryz.prog) w 9 22 5 t (u := .string) Tryz.underlying9 Tryz.underlying22 Tryz.underlying5
  have hB : ∀ j, j < t.size → (Lib.bytesWorld w 5 t).cell? ⟨w.heap.size, j, none⟩ = some (.int .u8 (t.data.toList.getD j 0).toNat) := fun j hj => Lib.bytesWorld_cell w 5 t j hj
  have hW : Below w.heap.size w (Lib.bytesWorld w 5 t) := by
    unfold Lib.bytesWorld
    exact Lib.below_freeze (((Below.refl _ w).drew).alloc (Nat.le_refl _) _) (Nat.le_refl _) 1
  obtain ⟨W1, hW1⟩ : ∃ W1, W1 = Lib.bytesWorld w 5 t := ⟨_, rfl⟩
  rw [← hW1] at hcv hB hW
  clear hW1
  obtain ⟨bs, hL⟩ : ∃ bs, bs = t.data.toList := ⟨_, rfl⟩
  have hLn : bs.length = t.size := by rw [hL, Lib.size_eq]
  rw [← hL] at hB hN
  clear hL
  have HN := Lib.hid hN
  clear hN
  go_enter Tryz.func217, Tryz.ntmps217
  go_wp2_with fail
  go_loop [12, 13, 101] (fun vu vn vi => ∃ (k acc : Nat) (a : Int), vu = .bool false ∧ vn = .int .u64 a ∧ vi = .int .i64 k ∧ k ≤ t.size ∧ Hid (a = (acc : Int) ∧ acc < 16 ^ k ∧ hexfold acc (bs.drop k) = some N))
    (fun _ _ vi => t.size - (intOf vi).toNat)
  case atStart => exact ⟨0, 0, 0, rfl, rfl, rfl, by omega, rfl, by simp, HN.out⟩
  case round =>
    obtain ⟨k, acc, a, rfl, rfl, rfl, hk, hh⟩ := hrel
    obtain ⟨ha, hacc, hdec⟩ := hh.out
    clear hh
    have hacc4 : acc < 65536 := Nat.lt_of_lt_of_le hacc (by
      rw [show 65536 = 16 ^ 4 by rfl]; exact Nat.pow_le_pow_right (by omega) (by omega))
    have a0 : 0 ≤ a := by omega
    have a1 : a < 65536 := by omega
    by_cases hkn : k < t.size
    · have hc := hB k hkn
      have hdrop : bs.drop k = bs[k]'(by omega) :: bs.drop (k + 1) := List.drop_eq_getElem_cons (by omega)
      have hget : bs.getD k 0 = bs[k]'(by omega) := by simp [List.getD, List.getElem?_eq_getElem (show k < bs.length by omega)]
      rw [hdrop] at hdec
      rw [hget] at hc
      generalize bs[k]'(by omega) = c at hc hdec
      have hc256 : c.toNat < 256 := c.toNat_lt
      clear hB hdrop hget
      unfold hexfold at hdec
      cases hx : hexv c.toNat with
      | none => rw [hx] at hdec; cases hdec
      | some d =>
        rw [hx] at hdec
        simp only [] at hdec
        have hcs := hexv_cases hx
        have hp : 16 ^ (k + 1) = 16 ^ k * 16 := Nat.pow_succ 16 k
        have hacc' : acc * 16 + d < 16 ^ (k + 1) := by omega
        clear hx hp hacc hacc4
        rcases hcs with ⟨d0, d1, hd⟩ | ⟨d0, d1, hd⟩ | ⟨d0, d1, hd⟩
        · have HH : Hid (a * 16 + ((c.toNat : Int) - 48) = ((acc * 16 + d : Nat) : Int) ∧ acc * 16 + d < 16 ^ (k + 1) ∧ hexfold (acc * 16 + d) (bs.drop (k + 1)) = some N) := Lib.hid ⟨by omega, hacc', hdec⟩
          clear hacc' hdec ha hd
          go_wp2_with fail
          go_round
          case rel => exact ⟨k + 1, acc * 16 + d, a * 16 + ((c.toNat : Int) - 48), rfl, by go_num, by go_num, by omega, HH⟩
          case measure => simp [intOf]; omega
        · have HH : Hid (a * 16 + ((c.toNat : Int) - 97 + 10) = ((acc * 16 + d : Nat) : Int) ∧ acc * 16 + d < 16 ^ (k + 1) ∧ hexfold (acc * 16 + d) (bs.drop (k + 1)) = some N) := Lib.hid ⟨by omega, hacc', hdec⟩
          have hlo := or32_low c.toNat (by omega) (by omega)
          clear hacc' hdec ha hd
          go_wp2_with (go_at_call 225; refine (Tryz.internal_strconv_lower _ _).mono ?_; rintro e w' ⟨rfl, rfl⟩)
          go_round
          case rel => exact ⟨k + 1, acc * 16 + d, a * 16 + ((c.toNat : Int) - 97 + 10), rfl, by go_num, by go_num, by omega, HH⟩
          case measure => simp [intOf]; omega
        · have HH : Hid (a * 16 + ((c.toNat : Int) + 32 - 97 + 10) = ((acc * 16 + d : Nat) : Int) ∧ acc * 16 + d < 16 ^ (k + 1) ∧ hexfold (acc * 16 + d) (bs.drop (k + 1)) = some N) := Lib.hid ⟨by omega, hacc', hdec⟩
          have hlo := or32_up c.toNat (by omega) (by omega)
          clear hacc' hdec ha hd
          go_wp2_with (go_at_call 225; refine (Tryz.internal_strconv_lower _ _).mono ?_; rintro e w' ⟨rfl, rfl⟩)
          go_round
          case rel => exact ⟨k + 1, acc * 16 + d, a * 16 + ((c.toNat : Int) + 32 - 97 + 10), rfl, by go_num, by go_num, by omega, HH⟩
          case measure => simp [intOf]; omega
    · have hdrop : bs.drop k = [] := List.drop_eq_nil_of_le (by omega)
      rw [hdrop] at hdec
      have hacN : (acc : Int) = N := by have := Option.some.inj (show some acc = some N from hdec); omega
      have HA := Lib.hid (ha.trans hacN)
      clear hacN ha hdec hacc hdrop
      go_wp2_with fail
      go_ret2
      rw [HA.out]
      exact ⟨rfl, hW⟩
end Go.Proofs.YtndkbecdjaedaaaGreatDoor
/- jtext.hex, for every string. -/
namespace Go.Proofs.YtndkbecdjaedaaaGreatDoor
open Go.RowKit

theorem hexv_high {c : Nat} (h : 128 ≤ c) : hexv c = none := by
  unfold hexv
  rw [if_neg (by omega), if_neg (by omega), if_neg (by omega)]

theorem idx_hex (s : ByteArray) : ∀ (f pos : Nat), s.size - pos ≤ f →
    (0 ≤ Lib.idxFuncFrom (fun x => (hexv x).isNone) true s f pos ↔ ∃ i, pos ≤ i ∧ i < s.size ∧ hexv (gb s.data.toList i) = none) := by
  intro f
  induction f with
  | zero =>
    intro pos hf
    simp only [Lib.idxFuncFrom]
    constructor
    · intro h; omega
    · rintro ⟨i, h1, h2, _⟩; omega
  | succ f ih =>
    intro pos hf
    by_cases hp : pos < s.size
    · have hg : gb s.data.toList pos = (s[pos]'hp).toNat := by
        unfold gb
        rw [List.getD_eq_getElem?_getD, List.getElem?_eq_getElem (by simpa using hp)]; rfl
      simp only [Lib.idxFuncFrom, if_pos hp]
      by_cases ha : (s[pos]'hp).toNat < 128
      · rw [decode_ascii s pos hp ha]
        simp only []
        by_cases hx : (hexv (s[pos]'hp).toNat).isNone = true
        · rw [if_pos hx]
          exact ⟨fun _ => ⟨pos, Nat.le_refl _, hp, by rw [hg]; simpa using hx⟩, fun _ => by omega⟩
        · rw [if_neg hx, ih (pos + 1) (by omega)]
          constructor
          · rintro ⟨i, h1, h2, h3⟩; exact ⟨i, by omega, h2, h3⟩
          · rintro ⟨i, h1, h2, h3⟩
            refine ⟨i, ?_, h2, h3⟩
            rcases Nat.lt_or_ge pos i with h | h
            · omega
            · have : i = pos := by omega
              subst this
              rw [hg] at h3
              rw [h3] at hx
              exact absurd rfl hx
      · have hh := (decode_high s pos hp (by omega)).1
        rw [if_pos (by rw [hexv_high hh]; rfl)]
        exact ⟨fun _ => ⟨pos, Nat.le_refl _, hp, by rw [hg]; exact hexv_high (by omega)⟩, fun _ => by omega⟩
    · simp only [Lib.idxFuncFrom, if_neg hp]
      constructor
      · intro h; omega
      · rintro ⟨i, h1, h2, _⟩; omega

/-- Is one of four bytes no digit? -/
theorem idx_four (s : ByteArray) (h4 : s.size = 4) : decide (0 ≤ Lib.idxFunc (fun x => (hexv x).isNone) true s) = (hex4 s.data.toList).isNone := by
  have hl : s.data.toList.length = 4 := by simpa using h4
  have h := idx_hex s s.size 0 (by omega)
  rw [h4] at h
  unfold Lib.idxFunc
  rw [Bool.eq_iff_iff, decide_eq_true_iff, h4, h]
  unfold hex4
  rw [if_neg (by omega)]
  constructor
  · rintro ⟨i, _, h2, h3⟩
    have : i = 0 ∨ i = 1 ∨ i = 2 ∨ i = 3 := by omega
    split
    · rename_i a b c d e0 e1 e2 e3
      rcases this with rfl | rfl | rfl | rfl <;> simp_all
    · rfl
  · intro hn
    cases e0 : hexv (gb s.data.toList 0) with
    | none => exact ⟨0, by omega, by omega, e0⟩
    | some a =>
      cases e1 : hexv (gb s.data.toList 1) with
      | none => exact ⟨1, by omega, by omega, e1⟩
      | some b =>
        cases e2 : hexv (gb s.data.toList 2) with
        | none => exact ⟨2, by omega, by omega, e2⟩
        | some c =>
          cases e3 : hexv (gb s.data.toList 3) with
          | none => exact ⟨3, by omega, by omega, e3⟩
          | some d => rw [e0, e1, e2, e3] at hn; simp at hn

theorem hexfold_four (l : List UInt8) (N : Nat) (hl : l.length = 4) (h : hex4 l = some N) : hexfold 0 l = some N := by
  match l, hl with
  | [a, b, c, d], _ =>
    unfold hex4 at h
    simp only [List.length_cons, List.length_nil, gb_cons_zero, gb_cons_succ] at h
    rw [if_neg (by omega)] at h
    split at h
    · rename_i x y z t e0 e1 e2 e3
      cases h
      simp [hexfold, e0, e1, e2, e3]
    · cases h

theorem hex4_take (l : List UInt8) (h : 4 ≤ l.length) : hex4 (l.take 4) = hex4 l := by
  match l, h with
  | a :: b :: c :: d :: r, _ => simp [hex4]; intro h; omega

set_option maxHeartbeats 2000000 in
set_option maxRecDepth 100000 in
theorem parseUint_calls (t : ByteArray) (N : Nat) (h4 : t.size = 4) (hN : hexfold 0 t.data.toList = some N) (w : World) :
    Calls Tryz.prog 224 #[.string t, .int .i64 16, .int .i64 32] w fun e w' => e = .returned (.tuple #[.int .u64 N, .nilIface]) ∧ Below w.heap.size w w' := by
  go_enter Tryz.func224, Tryz.ntmps224
  go_wp2_with fail
  refine (parseUint_inner t N h4 hN _).mono ?_
  rintro e w1 ⟨rfl, hb⟩
  go_wp2_with fail
  go_ret2
  exact ⟨rfl, hb⟩

set_option maxHeartbeats 2000000 in
set_option maxRecDepth 100000 in
theorem hex_calls (s : ByteArray) (w : World) :
    Calls Tryz.prog 215 #[.string s] w fun e w' => e = .returned (.tuple #[.int .i32 ((hex4 s.data.toList).getD 0 : Nat), .bool (hex4 s.data.toList).isSome]) ∧ Below w.heap.size w w' := by
  by_cases h4 : s.size < 4
  · have h4' : (s.size : Int) < 4 := by omega
    have hx : hex4 s.data.toList = none := by unfold hex4; rw [if_pos (by simpa using h4)]
    have HX := Lib.hid hx
    clear hx
    go_enter Tryz.func215, Tryz.ntmps215
    go_wp2_with fail
    go_ret2
    rw [HX.out]
    exact ⟨rfl, Below.refl _ _⟩
  · have h4' : ¬ (s.size : Int) < 4 := by omega
    have hR : (s.extract 0 4).data.toList = s.data.toList.take 4 := by rw [Lib.extract_data]; simp
    have hRs : (s.extract 0 4).size = 4 := by simp; omega
    have hxx : hex4 (s.extract 0 4).data.toList = hex4 s.data.toList := by rw [hR, hex4_take _ (by simp; omega)]
    have hpr : PredGrows Tryz.prog 223 #[] (fun x => (hexv x).isNone) w := fun W x hx _ => hexFn x hx W
    have hid4 := idx_four (s.extract 0 4) hRs
    rw [hxx] at hid4
    have HI := Lib.hid hid4
    have HF := Lib.hid hxx
    have HS := Lib.hid hRs
    clear hR hRs hxx hid4
    cases hx : hex4 s.data.toList with
    | none =>
      rw [hx] at HI HF
      clear hx
      go_enter Tryz.func215, Tryz.ntmps215
      go_wp2_with fail
      refine (Tryz.strings_ContainsFunc_grows _ _ (enters_of Tryz.func223 (by kernel_rfl) rfl) _ _ _ hpr).mono ?_
      rintro e w1 ⟨rfl, hb⟩
      rw [HI.out]
      go_wp2_with fail
      go_ret2
      exact ⟨rfl, hb⟩
    | some N =>
      have hN := (hex4_drop hx).2
      rw [hx] at HI HF
      clear hx
      go_enter Tryz.func215, Tryz.ntmps215
      go_wp2_with fail
      refine (Tryz.strings_ContainsFunc_grows _ _ (enters_of Tryz.func223 (by kernel_rfl) rfl) _ _ _ hpr).mono ?_
      rintro e w1 ⟨rfl, hb⟩
      rw [HI.out]
      go_wp2_with fail
      refine (parseUint_calls _ N HS.out (hexfold_four _ N (by simpa using HS.out) HF.out) _).mono ?_
      rintro e w2 ⟨rfl, hb2⟩
      go_wp2_with fail
      go_quiet (fail)
      go_wp2_with fail
      go_ret2
      exact ⟨rfl, bdrewN (hb.trans (hb2.mono hb.size)) _⟩

end Go.Proofs.YtndkbecdjaedaaaGreatDoor
