/- jtext.hex, for every string. -/
import Derived.Test.YtangbkiheoekaaaDoorJtHex2
import Derived.Laws.RangeAny
import Derived.WideLaws
namespace Go.Proofs.YtangbkiheoekaaaDoor
open Go.RowKit

theorem hexv_high {c : Nat} (h : 128 ≤ c) : hexv c = none := by
  unfold hexv
  rw [if_neg (by omega), if_neg (by omega), if_neg (by omega)]

theorem idx_hex (s : ByteArray) : ∀ (f pos : Nat), s.size - pos ≤ f →
    (0 ≤ Lib.idxFuncFrom (fun x => (hexv x).isNone) true s f pos ↔ ∃ i, pos ≤ i ∧ i < s.size ∧ hexv (gb s.data.toList i) = none) := by
  intro f
  induction f with
  | zero =>
    intro pos hf
    simp only [Lib.idxFuncFrom]
    constructor
    · intro h; omega
    · rintro ⟨i, h1, h2, _⟩; omega
  | succ f ih =>
    intro pos hf
    by_cases hp : pos < s.size
    · have hg : gb s.data.toList pos = (s[pos]'hp).toNat := by
        unfold gb
        rw [List.getD_eq_getElem?_getD, List.getElem?_eq_getElem (by simpa using hp)]; rfl
      simp only [Lib.idxFuncFrom, if_pos hp]
      by_cases ha : (s[pos]'hp).toNat < 128
      · rw [decode_ascii s pos hp ha]
        simp only []
        by_cases hx : (hexv (s[pos]'hp).toNat).isNone = true
        · rw [if_pos hx]
          exact ⟨fun _ => ⟨pos, Nat.le_refl _, hp, by rw [hg]; simpa using hx⟩, fun _ => by omega⟩
        · rw [if_neg hx, ih (pos + 1) (by omega)]
          constructor
          · rintro ⟨i, h1, h2, h3⟩; exact ⟨i, by omega, h2, h3⟩
          · rintro ⟨i, h1, h2, h3⟩
            refine ⟨i, ?_, h2, h3⟩
            rcases Nat.lt_or_ge pos i with h | h
            · omega
            · have : i = pos := by omega
              subst this
              rw [hg] at h3
              rw [h3] at hx
              exact absurd rfl hx
      · have hh := (decode_high s pos hp (by omega)).1
        rw [if_pos (by rw [hexv_high hh]; rfl)]
        exact ⟨fun _ => ⟨pos, Nat.le_refl _, hp, by rw [hg]; exact hexv_high (by omega)⟩, fun _ => by omega⟩
    · simp only [Lib.idxFuncFrom, if_neg hp]
      constructor
      · intro h; omega
      · rintro ⟨i, h1, h2, _⟩; omega

/-- Is one of four bytes no digit? -/
theorem idx_four (s : ByteArray) (h4 : s.size = 4) : decide (0 ≤ Lib.idxFunc (fun x => (hexv x).isNone) true s) = (hex4 s.data.toList).isNone := by
  have hl : s.data.toList.length = 4 := by simpa using h4
  have h := idx_hex s s.size 0 (by omega)
  rw [h4] at h
  unfold Lib.idxFunc
  rw [Bool.eq_iff_iff, decide_eq_true_iff, h4, h]
  unfold hex4
  rw [if_neg (by omega)]
  constructor
  · rintro ⟨i, _, h2, h3⟩
    have : i = 0 ∨ i = 1 ∨ i = 2 ∨ i = 3 := by omega
    split
    · rename_i a b c d e0 e1 e2 e3
      rcases this with rfl | rfl | rfl | rfl <;> simp_all
    · rfl
  · intro hn
    cases e0 : hexv (gb s.data.toList 0) with
    | none => exact ⟨0, by omega, by omega, e0⟩
    | some a =>
      cases e1 : hexv (gb s.data.toList 1) with
      | none => exact ⟨1, by omega, by omega, e1⟩
      | some b =>
        cases e2 : hexv (gb s.data.toList 2) with
        | none => exact ⟨2, by omega, by omega, e2⟩
        | some c =>
          cases e3 : hexv (gb s.data.toList 3) with
          | none => exact ⟨3, by omega, by omega, e3⟩
          | some d => rw [e0, e1, e2, e3] at hn; simp at hn

theorem hexfold_four (l : List UInt8) (N : Nat) (hl : l.length = 4) (h : hex4 l = some N) : hexfold 0 l = some N := by
  match l, hl with
  | [a, b, c, d], _ =>
    unfold hex4 at h
    simp only [List.length_cons, List.length_nil, gb_cons_zero, gb_cons_succ] at h
    rw [if_neg (by omega)] at h
    split at h
    · rename_i x y z t e0 e1 e2 e3
      cases h
      simp [hexfold, e0, e1, e2, e3]
    · cases h

theorem hex4_take (l : List UInt8) (h : 4 ≤ l.length) : hex4 (l.take 4) = hex4 l := by
  match l, h with
  | a :: b :: c :: d :: r, _ => simp [hex4]; intro h; omega

set_option maxHeartbeats 2000000 in
set_option maxRecDepth 100000 in
theorem parseUint_calls (t : ByteArray) (N : Nat) (h4 : t.size = 4) (hN : hexfold 0 t.data.toList = some N) (w : World) :
    Calls Tryd.prog 73 #[.string t, .int .i64 16, .int .i64 32] w fun e w' => e = .returned (.tuple #[.int .u64 N, .nilIface]) ∧ Below w.heap.size w w' := by
  go_enter Tryd.func73, Tryd.ntmps73
  go_wp2_with fail
  refine (parseUint_inner t N h4 hN _).mono ?_
  rintro e w1 ⟨rfl, hb⟩
  go_wp2_with fail
  go_ret2
  exact ⟨rfl, hb⟩

set_option maxHeartbeats 2000000 in
set_option maxRecDepth 100000 in
theorem hex_calls (s : ByteArray) (w : World) :
    Calls Tryd.prog 52 #[.string s] w fun e w' => e = .returned (.tuple #[.int .i32 ((hex4 s.data.toList).getD 0 : Nat), .bool (hex4 s.data.toList).isSome]) ∧ Below w.heap.size w w' := by
  by_cases h4 : s.size < 4
  · have h4' : (s.size : Int) < 4 := by omega
    have hx : hex4 s.data.toList = none := by unfold hex4; rw [if_pos (by simpa using h4)]
    have HX := Lib.hid hx
    clear hx
    go_enter Tryd.func52, Tryd.ntmps52
    go_wp2_with fail
    go_ret2
    rw [HX.out]
    exact ⟨rfl, Below.refl _ _⟩
  · have h4' : ¬ (s.size : Int) < 4 := by omega
    have hR : (s.extract 0 4).data.toList = s.data.toList.take 4 := by rw [Lib.extract_data]; simp
    have hRs : (s.extract 0 4).size = 4 := by simp; omega
    have hxx : hex4 (s.extract 0 4).data.toList = hex4 s.data.toList := by rw [hR, hex4_take _ (by simp; omega)]
    have hpr : PredGrows Tryd.prog 71 #[] (fun x => (hexv x).isNone) w := fun W x hx _ => hexFn x hx W
    have hid4 := idx_four (s.extract 0 4) hRs
    rw [hxx] at hid4
    have HI := Lib.hid hid4
    have HF := Lib.hid hxx
    have HS := Lib.hid hRs
    clear hR hRs hxx hid4
    cases hx : hex4 s.data.toList with
    | none =>
      rw [hx] at HI HF
      clear hx
      go_enter Tryd.func52, Tryd.ntmps52
      go_wp2_with fail
      refine (Tryd.strings_ContainsFunc_grows _ _ (enters_of Tryd.func71 (by kernel_rfl) rfl) _ _ _ hpr).mono ?_
      rintro e w1 ⟨rfl, hb⟩
      rw [HI.out]
      go_wp2_with fail
      go_ret2
      exact ⟨rfl, hb⟩
    | some N =>
      have hN := (hex4_drop hx).2
      rw [hx] at HI HF
      clear hx
      go_enter Tryd.func52, Tryd.ntmps52
      go_wp2_with fail
      refine (Tryd.strings_ContainsFunc_grows _ _ (enters_of Tryd.func71 (by kernel_rfl) rfl) _ _ _ hpr).mono ?_
      rintro e w1 ⟨rfl, hb⟩
      rw [HI.out]
      go_wp2_with fail
      refine (parseUint_calls _ N HS.out (hexfold_four _ N (by simpa using HS.out) HF.out) _).mono ?_
      rintro e w2 ⟨rfl, hb2⟩
      go_wp2_with fail
      go_quiet (fail)
      go_wp2_with fail
      go_ret2
      exact ⟨rfl, bdrewN (hb.trans (hb2.mono hb.size)) _⟩

end Go.Proofs.YtangbkiheoekaaaDoor
