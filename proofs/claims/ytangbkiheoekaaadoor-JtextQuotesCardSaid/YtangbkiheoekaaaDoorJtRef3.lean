/- The reference's digits, Text. -/
import Derived.Test.YtangbkiheoekaaaDoorJtRef2
import Derived.Lib.ItoaLen
import Derived.Lib.ItoaMem
namespace Go.Proofs.YtangbkiheoekaaaDoor
open Go.RowKit

theorem digs_yes {l : List UInt8} {k : Nat} (hk : k < l.length) (h : 48 ≤ gb l k ∧ gb l k ≤ 57) : digs (l.drop k) = digs (l.drop (k + 1)) + 1 := by
  have hd : l.drop k = l[k] :: l.drop (k + 1) := List.drop_eq_getElem_cons hk
  have hg : gb l k = l[k].toNat := by unfold gb; rw [List.getD_eq_getElem?_getD, List.getElem?_eq_getElem hk]; rfl
  have hi : isd l[k] = true := by unfold isd; rw [hg] at h; simp [h.1, h.2]
  rw [hd]; unfold digs; rw [List.takeWhile_cons, hi]; simp
theorem digs_no {l : List UInt8} {k : Nat} (h : ¬ (48 ≤ gb l k ∧ gb l k ≤ 57)) : digs (l.drop k) = 0 := by
  by_cases hk : k < l.length
  · have hd : l.drop k = l[k] :: l.drop (k + 1) := List.drop_eq_getElem_cons hk
    have hg : gb l k = l[k].toNat := by unfold gb; rw [List.getD_eq_getElem?_getD, List.getElem?_eq_getElem hk]; rfl
    have hi : isd l[k] = false := by
      unfold isd; rw [hg] at h
      simp only [Bool.and_eq_false_iff, decide_eq_false_iff_not]
      omega
    rw [hd]; unfold digs; rw [List.takeWhile_cons, hi]; rfl
  · rw [List.drop_of_length_le (by omega)]; rfl

set_option maxHeartbeats 8000000 in
set_option maxRecDepth 1000000 in
theorem rdigits_calls (s : ByteArray) (at' : Nat) (w : World) (hs : s.size ≤ 1099511627776) (ha : at' ≤ 2199023255552) :
    Calls Tryd.prog 37 #[.string s, .int .i64 at'] w fun e w' => e = .returned (.int .i64 (digs (s.data.toList.drop at'))) ∧ Below w.heap.size w w' := by
  have hlsz : s.data.toList.length = s.size := by simp
  have HX := Lib.hid (byte_run s)
  obtain ⟨L, hL⟩ : ∃ L, s.data.toList = L := ⟨_, rfl⟩
  rw [hL] at hlsz HX ⊢
  have HL := Lib.hid hlsz
  clear hL hlsz
  go_enter Tryd.func37, Tryd.ntmps37
  go_wp2_with fail
  go_loop [5] (fun v => ∃ k : Nat, v = .int .i64 k ∧ at' ≤ k ∧ k ≤ 2199023255552 ∧ Hid (digs (L.drop at') = k - at' + digs (L.drop k))) (fun v => s.size - (intOf v).toNat)
  case atStart => exact ⟨at', rfl, Nat.le_refl _, ha, Lib.hid (by omega)⟩
  case round =>
    obtain ⟨k, rfl, hak, hkb, HD⟩ := hrel
    by_cases hk : k < s.size
    · have hrunk := HX.out k hk
      obtain ⟨b, hb⟩ : ∃ b, gb L k = b := ⟨_, rfl⟩
      rw [hb] at hrunk
      have HB := Lib.hid hb
      clear hb
      by_cases hdg : 48 ≤ b ∧ b ≤ 57
      · have g1 : (48 : Int) ≤ (b : Int) := by omega
        have g2 : (b : Int) ≤ 57 := by omega
        have HD' : Hid (digs (L.drop at') = k + 1 - at' + digs (L.drop (k + 1))) := Lib.hid (by
          have := digs_yes (l := L) (k := k) (by rw [HL.out]; exact hk) (by rw [HB.out]; exact hdg)
          rw [HD.out, this]; omega)
        clear hdg
        go_wp2_with fail
        go_round
        case rel => exact ⟨k + 1, by go_num, by omega, by omega, HD'⟩
        case measure => simp [intOf]; omega
      · have HR : Hid ((digs (L.drop at') : Int) = (k : Int) - (at' : Int)) := Lib.hid (by
          have := digs_no (l := L) (k := k) (by rw [HB.out]; exact hdg)
          rw [HD.out, this]; omega)
        have hways : ¬ (48 : Int) ≤ (b : Int) ∨ ((48 : Int) ≤ (b : Int) ∧ ¬ (b : Int) ≤ 57) := by omega
        clear hdg
        rcases hways with g1 | ⟨g1, g2⟩
        all_goals
          go_wp2_with fail
          go_ret
          rw [HR.out]
          exact ⟨rfl, Below.refl _ _⟩
    · have hkI : ¬ (k : Int) < (s.size : Int) := by omega
      have HR : Hid ((digs (L.drop at') : Int) = (k : Int) - (at' : Int)) := Lib.hid (by
        have h0 : digs (L.drop k) = 0 := by rw [List.drop_of_length_le (by rw [HL.out]; omega)]; rfl
        rw [HD.out, h0]; omega)
      go_wp2_with fail
      go_ret
      rw [HR.out]
      exact ⟨rfl, Below.refl _ _⟩

theorem dec_small {n : Nat} (h : n < 10) : Lib.decDigits n = [UInt8.ofNat (48 + n)] := Lib.decDigits_one h
theorem dec_step {n : Nat} (h : ¬ n < 10) : Lib.decDigits n = Lib.decDigits (n / 10) ++ Lib.decDigits (n % 10) := by
  conv => lhs; rw [Lib.decDigits, dif_neg h]
  rw [dec_small (n := n % 10) (by omega)]

theorem tens_cut : ∀ n : Nat, n < 10 → (tens.extract n (n + 1)).data.toList = Lib.decDigits n := by
  intro n h
  rw [dec_small h]
  have : n = 0 ∨ n = 1 ∨ n = 2 ∨ n = 3 ∨ n = 4 ∨ n = 5 ∨ n = 6 ∨ n = 7 ∨ n = 8 ∨ n = 9 := by omega
  rcases this with rfl | rfl | rfl | rfl | rfl | rfl | rfl | rfl | rfl | rfl <;> rfl

theorem dec_len (n : Nat) (h : n ≤ 9223372036854775808) : (Lib.decDigits n).length ≤ 21 := by
  by_cases h1 : n ≤ 9223372036854775807
  · have := Lib.itoa_length_le (n : Int) (by omega) (by omega)
    rwa [Lib.itoa_nonneg] at this
  · have := Lib.itoa_length_le (-(n : Int)) (by omega) (by omega)
    rw [Lib.itoa_neg n (by omega), List.length_cons] at this
    omega

theorem add_lists (a b : List UInt8) (ha : a.length ≤ 8388608) (hb : b.length ≤ 8388608) : ∀ w, (Op.stringOp .add ⟨a.toArray⟩ ⟨b.toArray⟩).run Tryd.prog w = .ok (.string ⟨(a ++ b).toArray⟩) w :=
  fun w => run_string_add_lists w a b (by omega) (by omega)

set_option maxHeartbeats 8000000 in
set_option maxRecDepth 1000000 in
theorem text_nat : ∀ (m n : Nat), n ≤ m → n ≤ 9223372036854775807 → ∀ (w : World),
    Calls Tryd.prog 19 #[.int .i64 n] w fun e w' => e = .returned (.string ⟨(Lib.decDigits n).toArray⟩) ∧ Below w.heap.size w w' := by
  intro m
  induction m with
  | zero =>
    intro n hm hn w
    have hnn : ¬ (n : Int) < 0 := by omega
    have h10' : (n : Int) < 10 := by omega
    have HT := Lib.hid (tens_cut n (by omega))
    go_enter Tryd.func19, Tryd.ntmps19
    go_wp2_with fail
    go_ret
    refine ⟨?_, Below.refl _ _⟩
    rw [← HT.out]
    rfl
  | succ m ih =>
    intro n hm hn w
    have hnn : ¬ (n : Int) < 0 := by omega
    by_cases h10 : n < 10
    · have h10' : (n : Int) < 10 := by omega
      have HT := Lib.hid (tens_cut n h10)
      go_enter Tryd.func19, Tryd.ntmps19
      go_wp2_with fail
      go_ret
      refine ⟨?_, Below.refl _ _⟩
      rw [← HT.out]
      rfl
    · have h10' : ¬ (n : Int) < 10 := by omega
      have HI := Lib.hid ih
      have HS := Lib.hid (dec_step h10)
      have hl1 := dec_len (n / 10) (by omega)
      have hl2 := dec_len (n % 10) (by omega)
      have hadd := add_lists (Lib.decDigits (n / 10)) (Lib.decDigits (n % 10)) (by omega) (by omega)
      have e1 := Lib.hid (show ((n : Int) / 10) = ((n / 10 : Nat) : Int) by omega)
      have e2 := Lib.hid (show ((n : Int) % 10) = ((n % 10 : Nat) : Int) by omega)
      clear ih
      go_enter Tryd.func19, Tryd.ntmps19
      go_wp2_with fail
      rw [e1.out]
      refine (HI.out (n / 10) (by omega) (by omega) _).mono ?_
      rintro e w1 ⟨rfl, hb1⟩
      go_wp2_with fail
      rw [e2.out]
      refine (HI.out (n % 10) (by omega) (by omega) _).mono ?_
      rintro e w2 ⟨rfl, hb2⟩
      go_wp2_with fail
      go_ret
      rw [HS.out]
      exact ⟨rfl, hb1.trans (hb2.mono hb1.size)⟩

set_option maxHeartbeats 8000000 in
set_option maxRecDepth 1000000 in
theorem text_neg : ∀ (m n : Nat), n ≤ m → 1 ≤ n → n ≤ 9223372036854775808 → ∀ (w : World),
    Calls Tryd.prog 19 #[.int .i64 (-(n : Int))] w fun e w' => e = .returned (.string ⟨(45 :: Lib.decDigits n).toArray⟩) ∧ Below w.heap.size w w' := by
  intro m
  induction m with
  | zero => intro n hm h1; omega
  | succ m ih =>
    intro n hm h1 hn w
    obtain ⟨x, hx⟩ : ∃ x : Int, -(n : Int) = x := ⟨_, rfl⟩
    rw [hx]
    have hneg : x < 0 := by omega
    have hlo : -9223372036854775808 ≤ x := by omega
    by_cases h10 : n < 10
    · have h10' : (-10 : Int) < x := by omega
      have e1 := Lib.hid (show -x = ((n : Nat) : Int) by omega)
      have hadd := add_lists [45] (Lib.decDigits n) (by simp) (by have := dec_len n (by omega); omega)
      have hle : -x ≤ 9 := by omega
      have hle2 : 0 ≤ -x := by omega
      clear hx ih
      go_enter Tryd.func19, Tryd.ntmps19
      go_wp2_with fail
      rw [e1.out]
      refine (text_nat n n (Nat.le_refl _) (by omega) _).mono ?_
      rintro e w1 ⟨rfl, hb1⟩
      go_wp2_with fail
      go_ret
      exact ⟨rfl, hb1⟩
    · have h10' : ¬ (-10 : Int) < x := by omega
      have HI := Lib.hid ih
      have HS := Lib.hid (dec_step h10)
      have hl1 := dec_len (n / 10) (by omega)
      have hl2 := dec_len (n % 10) (by omega)
      have hadd := add_lists (45 :: Lib.decDigits (n / 10)) (Lib.decDigits (n % 10)) (by simp; omega) (by omega)
      have q1 : x.tdiv 10 = -((n / 10 : Nat) : Int) := by
        rw [← hx, Int.neg_tdiv, Int.tdiv_eq_ediv_of_nonneg (by omega)]; omega
      have q2 : x.tmod 10 = -((n % 10 : Nat) : Int) := by
        rw [← hx, Int.neg_tmod, Int.tmod_eq_emod_of_nonneg (by omega)]; omega
      have e1 := Lib.hid q1
      have e2 := Lib.hid (show -(x.tmod 10) = ((n % 10 : Nat) : Int) by omega)
      have m1 : -9 ≤ x.tmod 10 := by omega
      have m2 : x.tmod 10 ≤ 0 := by omega
      clear ih hx q1 q2
      go_enter Tryd.func19, Tryd.ntmps19
      go_wp2_with fail
      rw [e1.out]
      refine (HI.out (n / 10) (by omega) (by omega) (by omega) _).mono ?_
      rintro e w1 ⟨rfl, hb1⟩
      go_wp2_with fail
      rw [e2.out]
      refine (text_nat (n % 10) (n % 10) (Nat.le_refl _) (by omega) _).mono ?_
      rintro e w2 ⟨rfl, hb2⟩
      go_wp2_with fail
      go_ret
      rw [HS.out]
      exact ⟨rfl, hb1.trans (hb2.mono hb1.size)⟩

theorem text_calls (n : Int) (h0 : -9223372036854775808 ≤ n) (h1 : n ≤ 9223372036854775807) (w : World) :
    Calls Tryd.prog 19 #[.int .i64 n] w fun e w' => e = .returned (.string ⟨(Lib.itoa n).toArray⟩) ∧ Below w.heap.size w w' := by
  by_cases hn : 0 ≤ n
  · obtain ⟨k, rfl⟩ := Int.eq_ofNat_of_zero_le hn
    have := text_nat k k (Nat.le_refl _) (by omega) w
    rwa [Lib.itoa_nonneg]
  · obtain ⟨k, hk⟩ := Int.eq_ofNat_of_zero_le (a := -n) (by omega)
    have he : n = -(k : Int) := by omega
    rw [he, Lib.itoa_neg k (by omega)]
    exact text_neg k k (Nat.le_refl _) (by omega) (by omega) w
end Go.Proofs.YtangbkiheoekaaaDoor
