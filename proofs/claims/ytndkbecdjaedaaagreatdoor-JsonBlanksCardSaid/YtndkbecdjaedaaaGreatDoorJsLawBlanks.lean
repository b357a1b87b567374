/- The law JsonBlanks: blanks between do not matter. -/
import Derived.Test.YtndkbecdjaedaaaGreatDoorJsSm
import Derived.Test.YtndkbecdjaedaaaGreatDoorJsSize
import Derived.Test.YtndkbecdjaedaaaGreatDoorJsVs
import Derived.Test.YtndkbecdjaedaaaGreatDoorJsPlain2
namespace Go.Proofs.YtndkbecdjaedaaaGreatDoor
open Go.RowKit

theorem cat_run (a b : List UInt8) (ha : a.length ≤ 8796093022208) (hb : b.length ≤ 8796093022208) : ∀ w, (Op.stringOp .add (⟨a.toArray⟩ : ByteArray) ⟨b.toArray⟩).run Tryz.prog w = .ok (.string ⟨(a ++ b).toArray⟩) w := by
  intro w
  have h := run_string_add_sum (P := Tryz.prog) w (⟨a.toArray⟩ : ByteArray) ⟨b.toArray⟩ (by rw [data_size, data_size]; omega)
  rw [h]
  congr 2
/-- What Print hands back, in one form. -/
theorem print_any {v : Value} {l : List V} {w : World} (h : Vs w v l ∧ Capd v) (hE : Env w) (hW : Words w) (hf : Fits l) (hl : l.length ≤ 1000000000) (hj : jright l = true → (jprint l).length ≤ 140737488355328) :
    Calls Tryz.prog 24 #[v] w fun e w' => (∃ vp, e = .returned (.tuple #[vp, .bool (jright l)]) ∧ (jright l = true → Bs w' vp (jprint l))) ∧ Below w.heap.size w w' := by
  refine (print_calls v l w h.1 h.2 hE hE.u8 hW hf hl hj).mono ?_
  rintro e w' ⟨hP, hb⟩
  refine ⟨?_, hb⟩
  rcases hP with ⟨h, he⟩ | ⟨h, vp, he, hbs, _⟩
  · exact ⟨_, by rw [he, h], fun h2 => by rw [h] at h2; cases h2⟩
  · exact ⟨vp, by rw [he, h], fun _ => hbs⟩
def codeR : Except Int (List V) → Int
  | .error c => c
  | .ok _ => 0
def rowR : Except Int (List V) → List V
  | .error _ => []
  | .ok y => y
theorem parse_both {w w' : World} {R : Except Int (List V)} {e : Ending} (h : ParseR w R e w') : ∃ vp, e = .returned (.tuple #[vp, .int .i64 (codeR R)]) ∧ Vs w' vp (rowR R) := by
  cases R with
  | error c => exact ⟨_, h, .inl ⟨rfl, _, _, rfl⟩⟩
  | ok y =>
    obtain ⟨v, he, hown⟩ := h
    exact ⟨v, he, vs_of_own hown⟩
theorem row_short {b : List UInt8} {R : Except Int (List V)} (h : jparse b = R) : (rowR R).length ≤ 5000 := by
  cases R with
  | error c => exact Nat.zero_le _
  | ok y => exact (parse_size h).1
def repB (i : Nat) : List UInt8 := (List.replicate i [32, 9, 10, 13]).flatten
theorem repB_succ (i : Nat) : repB (i + 1) = repB i ++ [32, 9, 10, 13] := by unfold repB; rw [List.replicate_succ', List.flatten_append]; simp
theorem repB_len (i : Nat) : (repB i).length = 4 * i := by
  induction i with
  | zero => rfl
  | succ i ih => rw [repB_succ, List.length_append, ih]; simp; omega
theorem repB_blank (i : Nat) : allB (repB i) := by
  induction i with
  | zero => intro c hc; cases hc
  | succ i ih =>
    rw [repB_succ]
    intro c hc
    rcases List.mem_append.1 hc with hc | hc
    · exact ih c hc
    · simp only [List.mem_cons, List.not_mem_nil, or_false] at hc
      rcases hc with rfl | rfl | rfl | rfl <;> decide

set_option maxHeartbeats 16000000 in
set_option maxRecDepth 1000000 in
theorem blanks_out (va vb : Value) (a b : List V) (n : Int) (w : World) (ha : Vs w va a) (hb : Vs w vb b) (hE : Env w) (hW : Words w) (hsa : Short a) (hsb : Short b) (hla : a.length ≤ 4611686018427387904) (hlb : b.length ≤ 4611686018427387904)
    (hout : ¬ (fewV a = true ∧ fewV b = true ∧ 0 ≤ n ∧ n ≤ 20)) :
    Calls Tryz.prog 12 #[va, vb, .int .i64 n] w fun e w' => e = .returned (.bool true) ∧ Below w.heap.size w w' := by
  obtain ⟨aa, ca, hva⟩ := ha.len
  obtain ⟨ab, cb, hvb⟩ := hb.len
  have HA := Lib.hid ha
  have HB := Lib.hid hb
  have HE := Lib.hid hE
  have HW := Lib.hid hW
  have HSA := Lib.hid hsa
  have HSB := Lib.hid hsb
  obtain ⟨FA, hfa⟩ : ∃ FA, fewV a = FA := ⟨_, rfl⟩
  obtain ⟨FB, hfb⟩ : ∃ FB, fewV b = FB := ⟨_, rfl⟩
  have HFA := Lib.hid hfa
  have HFB := Lib.hid hfb
  rw [hfa, hfb] at hout
  have ways : FA = false ∨ (FA = true ∧ FB = false) ∨ (FA = true ∧ FB = true ∧ n < 0) ∨ (FA = true ∧ FB = true ∧ ¬ n < 0 ∧ 20 < n) := by
    cases FA with
    | false => exact .inl rfl
    | true =>
      cases FB with
      | false => exact .inr (.inl ⟨rfl, rfl⟩)
      | true =>
        by_cases h : n < 0
        · exact .inr (.inr (.inl ⟨rfl, rfl, h⟩))
        · refine .inr (.inr (.inr ⟨rfl, rfl, h, ?_⟩))
          rcases Int.lt_or_le 20 n with h2 | h2
          · exact h2
          · exact absurd ⟨rfl, rfl, by omega, h2⟩ hout
  clear ha hb hE hW hsa hsb hfa hfb hout
  subst hva hvb
  rcases ways with rfl | ⟨rfl, rfl⟩ | ⟨rfl, rfl, hn⟩ | ⟨rfl, rfl, hn, hn2⟩
  all_goals
    go_enter Tryz.func12, Tryz.ntmps12
    go_wp2_with fail
    refine (sml_calls _ HE.out HW.out).mono ?_
    rintro e1 w1 ⟨rfl, hb1⟩
    have HB1 := Lib.hid hb1
    clear hb1
    go_wp2_with fail
    refine (few_calls _ a _ (HA.out.kept HB1.out) HSA.out hla).mono ?_
    rintro e2 w2 ⟨rfl, hb2⟩
    rw [HFA.out]
    have HB2 := Lib.hid (HB1.out.trans (hb2.mono HB1.out.size))
    clear hb2
    go_wp2_with fail
    refine (few_calls _ b _ (HB.out.kept HB2.out) HSB.out hlb).mono ?_
    rintro e3 w3 ⟨rfl, hb3⟩
    rw [HFB.out]
    have HB3 := Lib.hid (HB2.out.trans (hb3.mono HB2.out.size))
    clear hb3
    go_wp2_with fail
    go_ret
    exact ⟨rfl, HB3.out⟩

set_option maxHeartbeats 16000000 in
set_option maxRecDepth 1000000 in
theorem blanks_in (va vb : Value) (a b : List V) (n : Nat) (w : World) (ha : Vs w va a) (hb : Vs w vb b) (hca : Capd va) (hcb : Capd vb) (hE : Env w) (hW : Words w) (hsa : Short a) (hsb : Short b)
    (hna : ∀ x ∈ a, x.count ≤ 9223372036854775807) (hnb : ∀ x ∈ b, x.count ≤ 9223372036854775807) (hfa : fewV a = true) (hfb : fewV b = true) (hn : n ≤ 20) :
    Calls Tryz.prog 12 #[va, vb, .int .i64 (n : Int)] w fun e w' => e = .returned (.bool true) ∧ Below w.heap.size w w' := by
  obtain ⟨aa, ca, hva⟩ := ha.len
  obtain ⟨ab, cb, hvb⟩ := hb.len
  have HA := Lib.hid ha
  have HB := Lib.hid hb
  have HCA := Lib.hid hca
  have HCB := Lib.hid hcb
  have HE := Lib.hid hE
  have HW := Lib.hid hW
  have HSA := Lib.hid hsa
  have HSB := Lib.hid hsb
  have HFA := Lib.hid hfa
  have HFB := Lib.hid hfb
  obtain ⟨hft, hla, hwa⟩ := fits_few hfa hna
  obtain ⟨hft2, hlb, hwb⟩ := fits_few hfb hnb
  have HTA := Lib.hid hft
  have HTB := Lib.hid hft2
  have hpa : jright a = true → (jprint a).length ≤ 20000 := fun h => by have := print_size h; omega
  have hpb : jright b = true → (jprint b).length ≤ 20000 := fun h => by have := print_size h; omega
  have HPA := Lib.hid hpa
  have HPB := Lib.hid hpb
  obtain ⟨JA, hJA⟩ : ∃ JA, jright a = JA := ⟨_, rfl⟩
  obtain ⟨JB, hJB⟩ : ∃ JB, jright b = JB := ⟨_, rfl⟩
  have HJA := Lib.hid hJA
  have HJB := Lib.hid hJB
  have n0 : ¬ (n : Int) < 0 := by omega
  have n1 : ¬ (20 : Int) < (n : Int) := by omega
  clear ha hb hE hW hsa hsb hfa hfb hft hft2 hwa hwb hpa hpb hJA hJB hna hnb hca hcb
  subst hva hvb
  go_enter Tryz.func12, Tryz.ntmps12
  go_wp2_with fail
  refine (sml_calls _ HE.out HW.out).mono ?_
  rintro e1 w1 ⟨rfl, hb1⟩
  have HB1 := Lib.hid hb1
  clear hb1
  go_wp2_with fail
  refine (few_calls _ a _ (HA.out.kept HB1.out) HSA.out (by omega)).mono ?_
  rintro e2 w2 ⟨rfl, hb2⟩
  rw [HFA.out]
  have HB2 := Lib.hid (HB1.out.trans (hb2.mono HB1.out.size))
  clear hb2
  go_wp2_with fail
  refine (few_calls _ b _ (HB.out.kept HB2.out) HSB.out (by omega)).mono ?_
  rintro e3 w3 ⟨rfl, hb3⟩
  rw [HFB.out]
  have HB3 := Lib.hid (HB2.out.trans (hb3.mono HB2.out.size))
  clear hb3
  go_wp2_with fail
  refine (print_any ⟨HA.out.kept HB3.out, HCA.out⟩ (HE.out.below HB3.out) (words_below HW.out HB3.out) HTA.out (by omega) (fun h => by have := HPA.out h; omega)).mono ?_
  rintro e4 w4 ⟨⟨vx, rfl, hx⟩, hb4⟩
  rw [HJA.out]
  have HX4 := Lib.hid hx
  have HB4 := Lib.hid (HB3.out.trans (hb4.mono HB3.out.size))
  clear hb4 hx
  go_wp2_with fail
  refine (print_any ⟨HB.out.kept HB4.out, HCB.out⟩ (HE.out.below HB4.out) (words_below HW.out HB4.out) HTB.out (by omega) (fun h => by have := HPB.out h; omega)).mono ?_
  rintro e5 w5 ⟨⟨vy, rfl, hy⟩, hb5⟩
  rw [HJB.out]
  have HX5 : Hid (jright a = true → Bs w5 vx (jprint a)) := Lib.hid (fun h => (HX4.out h).kept hb5)
  have HY5 := Lib.hid hy
  have HB5 := Lib.hid (HB4.out.trans (hb5.mono HB4.out.size))
  clear hb5 hy HX4
  cases JA with
  | false =>
    go_wp2_with fail
    go_ret
    exact ⟨rfl, HB5.out⟩
  | true =>
    cases JB with
    | false =>
      go_wp2_with fail
      go_ret
      exact ⟨rfl, HB5.out⟩
    | true =>
      have hX := HX5.out HJA.out
      have hY := HY5.out HJB.out
      have hxl := HPA.out HJA.out
      have hyl := HPB.out HJB.out
      obtain ⟨R, hR⟩ := blanks_law HJA.out HJB.out hla hlb
      have hR0 := hR [] (fun c hc => by cases hc)
      have hRn := hR (repB n) (repB_blank n)
      obtain ⟨X, hXe⟩ : ∃ X, jprint a = X := ⟨_, rfl⟩
      obtain ⟨Y, hYe⟩ : ∃ Y, jprint b = Y := ⟨_, rfl⟩
      unfold twoT at hR0 hRn
      rw [hXe, hYe] at hR0 hRn
      rw [hXe] at hX hxl
      rw [hYe] at hY hyl
      have HR0 := Lib.hid hR0
      have HRN := Lib.hid hRn
      have HX := Lib.hid hX
      have HY := Lib.hid hY
      obtain ⟨ax, cx, hvx⟩ := hX.len
      obtain ⟨ay, cy, hvy⟩ := hY.len
      clear hX hY hR hR0 hRn hXe hYe HX5 HY5
      subst hvx hvy
      have hrl := repB_len n
      obtain ⟨S, hS⟩ : ∃ S, repB n = S := ⟨_, rfl⟩
      rw [hS] at hrl HRN
      have HSN := Lib.hid hS
      have s1 := cat_run [91] X (by decide) (by omega)
      obtain ⟨T1, hT1⟩ : ∃ T1, [91] ++ X = T1 := ⟨_, rfl⟩
      have l1 : T1.length = X.length + 1 := by rw [← hT1]; simp
      have s2 := cat_run T1 [44] (by omega) (by decide)
      obtain ⟨T2, hT2⟩ : ∃ T2, T1 ++ [44] = T2 := ⟨_, rfl⟩
      have l2 : T2.length = X.length + 2 := by rw [← hT2, List.length_append, l1]; simp
      have s3 := cat_run T2 Y (by omega) (by omega)
      obtain ⟨T3, hT3⟩ : ∃ T3, T2 ++ Y = T3 := ⟨_, rfl⟩
      have l3 : T3.length = X.length + 2 + Y.length := by rw [← hT3, List.length_append, l2]
      have s4 := cat_run T3 [93] (by omega) (by decide)
      obtain ⟨T4, hT4⟩ : ∃ T4, T3 ++ [93] = T4 := ⟨_, rfl⟩
      have l4 : T4.length = X.length + 3 + Y.length := by rw [← hT4, List.length_append, l3]; simp; omega
      have hp : jparse T4 = R := by rw [← hT4, ← hT3, ← hT2, ← hT1, ← HR0.out]; simp
      have r1 := cat_run S [91] (by omega) (by decide)
      obtain ⟨A1, hA1⟩ : ∃ A1, S ++ [91] = A1 := ⟨_, rfl⟩
      have m1 : A1.length = S.length + 1 := by rw [← hA1]; simp
      have r2 := cat_run A1 S (by omega) (by omega)
      obtain ⟨A2, hA2⟩ : ∃ A2, A1 ++ S = A2 := ⟨_, rfl⟩
      have m2 : A2.length = 2 * S.length + 1 := by rw [← hA2, List.length_append, m1]; omega
      have r3 := cat_run A2 X (by omega) (by omega)
      obtain ⟨A3, hA3⟩ : ∃ A3, A2 ++ X = A3 := ⟨_, rfl⟩
      have m3 : A3.length = 2 * S.length + 1 + X.length := by rw [← hA3, List.length_append, m2]
      have r4 := cat_run A3 S (by omega) (by omega)
      obtain ⟨A4, hA4⟩ : ∃ A4, A3 ++ S = A4 := ⟨_, rfl⟩
      have m4 : A4.length = 3 * S.length + 1 + X.length := by rw [← hA4, List.length_append, m3]; omega
      have r5 := cat_run A4 [44] (by omega) (by decide)
      obtain ⟨A5, hA5⟩ : ∃ A5, A4 ++ [44] = A5 := ⟨_, rfl⟩
      have m5 : A5.length = 3 * S.length + 2 + X.length := by rw [← hA5, List.length_append, m4]; simp; omega
      have r6 := cat_run A5 S (by omega) (by omega)
      obtain ⟨A6, hA6⟩ : ∃ A6, A5 ++ S = A6 := ⟨_, rfl⟩
      have m6 : A6.length = 4 * S.length + 2 + X.length := by rw [← hA6, List.length_append, m5]; omega
      have r7 := cat_run A6 Y (by omega) (by omega)
      obtain ⟨A7, hA7⟩ : ∃ A7, A6 ++ Y = A7 := ⟨_, rfl⟩
      have m7 : A7.length = 4 * S.length + 2 + X.length + Y.length := by rw [← hA7, List.length_append, m6]
      have r8 := cat_run A7 S (by omega) (by omega)
      obtain ⟨A8, hA8⟩ : ∃ A8, A7 ++ S = A8 := ⟨_, rfl⟩
      have m8 : A8.length = 5 * S.length + 2 + X.length + Y.length := by rw [← hA8, List.length_append, m7]; omega
      have r9 := cat_run A8 [93] (by omega) (by decide)
      obtain ⟨A9, hA9⟩ : ∃ A9, A8 ++ [93] = A9 := ⟨_, rfl⟩
      have m9 : A9.length = 5 * S.length + 3 + X.length + Y.length := by rw [← hA9, List.length_append, m8]; simp; omega
      have r10 := cat_run A9 S (by omega) (by omega)
      obtain ⟨A10, hA10⟩ : ∃ A10, A9 ++ S = A10 := ⟨_, rfl⟩
      have m10 : A10.length = 6 * S.length + 3 + X.length + Y.length := by rw [← hA10, List.length_append, m9]; omega
      have hq : jparse A10 = R := by rw [← hA10, ← hA9, ← hA8, ← hA7, ← hA6, ← hA5, ← hA4, ← hA3, ← hA2, ← hA1, ← HRN.out]; simp
      rw [hT1] at s1
      rw [hT2] at s2
      rw [hT3] at s3
      rw [hT4] at s4
      rw [hA1] at r1
      rw [hA2] at r2
      rw [hA3] at r3
      rw [hA4] at r4
      rw [hA5] at r5
      rw [hA6] at r6
      rw [hA7] at r7
      rw [hA8] at r8
      rw [hA9] at r9
      rw [hA10] at r10
      have HP := Lib.hid hp
      have HQ := Lib.hid hq
      have hT4l : T4.length ≤ 1099511627775 := by omega
      have hA10l : A10.length ≤ 1099511627775 := by omega
      clear hT1 hT2 hT3 hT4 hA1 hA2 hA3 hA4 hA5 hA6 hA7 hA8 hA9 hA10 l1 l2 l3 l4 m1 m2 m3 m4 m5 m6 m7 m8 m9 m10 hp hq hS HR0 HRN hrl
      go_wp2_with fail
      go_loopw [14, 15] (fun vs vi wr => ∃ i : Nat, vi = .int .i64 (i : Int) ∧ vs = .string ⟨(repB i).toArray⟩ ∧ i ≤ n ∧ wr = w5) (fun _ vi _ => n - (intOf vi).toNat)
      case atStart => exact ⟨0, rfl, rfl, Nat.zero_le _, rfl⟩
      case round =>
        obtain ⟨i, rfl, rfl, hi, rfl⟩ := hrel
        by_cases hil : i < n
        · have hrun := cat_run (repB i) [32, 9, 10, 13] (by rw [repB_len]; omega) (by decide)
          rw [← repB_succ] at hrun
          obtain ⟨Q, hQ⟩ : ∃ Q, repB i = Q := ⟨_, rfl⟩
          rw [hQ] at hrun ⊢
          clear hQ
          go_wp2_with fail
          go_roundw
          case rel => exact ⟨i + 1, by go_num, rfl, by omega, by trivial⟩
          case measure => simp [intOf]; omega
        · have hie : i = n := by omega
          subst hie
          rw [show repB i = S from HSN.out]
          have tx := HX.out.text
          have ty := HY.out.text
          have hcv := fun w => run_bytes_of_string (P := Tryz.prog) w 9 22 5 ⟨T4.toArray⟩ Tryz.underlying9 Tryz.underlying22 Tryz.underlying5
          have hrs := row_short HP.out
          obtain ⟨C, hC⟩ : ∃ C, codeR R = C := ⟨_, rfl⟩
          obtain ⟨L, hL⟩ : ∃ L, rowR R = L := ⟨_, rfl⟩
          rw [hL] at hrs
          have HC := Lib.hid hC
          have HLL := Lib.hid hL
          clear hC hL
          go_wp2_with fail
          refine (parse_calls _ T4 _ (bs_conv _ T4 _ _ _) (HE.out.below (HB5.out.drew.alloc HB5.out.size _)) (words_below HW.out (HB5.out.drew.alloc HB5.out.size _)) hT4l).mono ?_
          rintro e6 w6 ⟨hP6, hb6⟩
          rw [HP.out] at hP6
          obtain ⟨vp, rfl, hvp⟩ := parse_both hP6
          rw [HLL.out] at hvp
          rw [HC.out]
          have HB6 := Lib.hid ((HB5.out.drew.alloc HB5.out.size _).trans (hb6.mono (HB5.out.drew.alloc HB5.out.size _).size))
          have HX6 := Lib.hid (HX.out.kept (((Below.refl _ _).drew.alloc (Nat.le_refl _) _).trans (hb6.mono (by simp))))
          have HY6 := Lib.hid (HY.out.kept (((Below.refl _ _).drew.alloc (Nat.le_refl _) _).trans (hb6.mono (by simp))))
          have HV6 := Lib.hid hvp
          have tx := HX6.out.text
          have ty := HY6.out.text
          have hcv := fun w => run_bytes_of_string (P := Tryz.prog) w 9 22 5 ⟨A10.toArray⟩ Tryz.underlying9 Tryz.underlying22 Tryz.underlying5
          clear hP6 hb6 hvp s1 s2 s3 s4
          obtain ⟨ap, cp, rfl⟩ := HV6.out.len
          go_wp2_with fail
          refine (parse_calls _ A10 _ (bs_conv _ A10 _ _ _) (HE.out.below (HB6.out.drew.alloc HB6.out.size _)) (words_below HW.out (HB6.out.drew.alloc HB6.out.size _)) hA10l).mono ?_
          rintro e7 w7 ⟨hP7, hb7⟩
          rw [HQ.out] at hP7
          obtain ⟨vq, rfl, hvq⟩ := parse_both hP7
          rw [HLL.out] at hvq
          rw [HC.out]
          have HB7 := Lib.hid ((HB6.out.drew.alloc HB6.out.size _).trans (hb7.mono (HB6.out.drew.alloc HB6.out.size _).size))
          have HV7 := Lib.hid (HV6.out.kept (((Below.refl _ _).drew.alloc (Nat.le_refl _) _).trans (hb7.mono (by simp))))
          have HU7 := Lib.hid hvq
          clear hP7 hb7 hvq tx ty r1 r2 r3 r4 r5 r6 r7 r8 r9 r10 hcv
          obtain ⟨aq, cq, rfl⟩ := HU7.out.len
          go_wp2_with fail
          refine (same_calls _ _ L L _ HV7.out HU7.out (by omega)).mono ?_
          rintro e8 w8 ⟨rfl, hb8⟩
          rw [sameV_refl]
          have HB8 := Lib.hid (HB7.out.trans (hb8.mono HB7.out.size))
          clear hb8
          go_wp2_with fail
          go_ret
          exact ⟨by simp, HB8.out⟩

theorem jblanks_calls (va vb : Value) (a b : List V) (n : Int) (w : World) (ha : Vs w va a) (hb : Vs w vb b) (hca : Capd va) (hcb : Capd vb) (hE : Env w) (hW : Words w) (hsa : Short a) (hsb : Short b)
    (hna : ∀ x ∈ a, x.count ≤ 9223372036854775807) (hnb : ∀ x ∈ b, x.count ≤ 9223372036854775807) (hla : a.length ≤ 4611686018427387904) (hlb : b.length ≤ 4611686018427387904) :
    Calls Tryz.prog 12 #[va, vb, .int .i64 n] w fun e w' => e = .returned (.bool true) ∧ Below w.heap.size w w' := by
  by_cases h : fewV a = true ∧ fewV b = true ∧ 0 ≤ n ∧ n ≤ 20
  · obtain ⟨h1, h2, h3, h4⟩ := h
    obtain ⟨m, rfl⟩ : ∃ m : Nat, n = (m : Int) := ⟨n.toNat, by omega⟩
    exact blanks_in va vb a b m w ha hb hca hcb hE hW hsa hsb hna hnb h1 h2 (by omega)
  · exact blanks_out va vb a b n w ha hb hE hW hsa hsb hla hlb h
end Go.Proofs.YtndkbecdjaedaaaGreatDoor
