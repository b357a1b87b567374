/- The reference's escape. -/
import Derived.Test.YtndkbecdjaedaaaGreatDoorJtRef8
namespace Go.Proofs.YtndkbecdjaedaaaGreatDoor
open Go.RowKit

set_option maxHeartbeats 16000000 in
set_option maxRecDepth 1000000 in
theorem resc_calls (s : ByteArray) (w : World) :
    Calls Tryz.prog 182 #[.string s] w fun e w' => e = .returned (.tuple #[.string ⟨(rescV s.data.toList).1.toArray⟩, .int .i64 (rescV s.data.toList).2]) ∧ Below w.heap.size w w' := by
  by_cases h0 : s.size = 0
  · have hem : s.toList.isEmpty = true := by rw [Lib.toList_data, nil_of_size h0]; rfl
    have HR : Hid (rescV s.data.toList = ([], 0)) := Lib.hid (by rw [nil_of_size h0]; rfl)
    clear h0
    go_enter Tryz.func182, Tryz.ntmps182
    go_wp2_with fail
    go_ret2
    rw [HR.out]
    exact ⟨rfl, Below.refl _ _⟩
  have hp : 0 < s.size := by omega
  have hem := full hp
  have hrun := head_run s hp
  have hne := ne_nil_of_size hp
  have hcv := conv_cells w [92] [.int .u8 92] 1 rfl rfl
  have hadd : ∀ w, (Op.stringOp .add ⟨#[98, 116, 110, 102, 114, 34, 47]⟩ ⟨#[92]⟩).run Tryz.prog w = .ok (.string signB) w := fun w => run_string_add_sum w ⟨#[98, 116, 110, 102, 114, 34, 47]⟩ ⟨#[92]⟩ (by show 7 + 1 ≤ _; omega)
  obtain ⟨c, hc⟩ : ∃ c, gb s.data.toList 0 = c := ⟨_, rfl⟩
  rw [hc] at hrun
  have HC := Lib.hid hc
  have HNE := Lib.hid hne
  clear hc hne h0
  go_enter Tryz.func182, Tryz.ntmps182
  go_wp2_with fail
  go_loopw [6] (fun v wr => ∃ i : Nat, v = .int .i64 i ∧ i ≤ 8 ∧ Hid (∀ k, k < i → (eightS.getD k 0).toNat ≠ c) ∧ Hid (∀ k, k < 8 → wr.cell? ⟨w.heap.size + 1, k, none⟩ = some (.int .i64 (eight.getD k 0 : Nat))) ∧ Below w.heap.size w wr) (fun v _ => 8 - (intOf v).toNat)
  case atStart =>
    refine ⟨0, rfl, by omega, Lib.hid (fun k h => by omega), Lib.hid fun k hk => ?_, ((Below.refl _ w).alloc (Nat.le_refl _) _).alloc (by simp) _⟩
    have := eight_cell (w.alloc (.cells #[.int .u8 92] 5)) k hk
    simpa using this
  case round =>
    obtain ⟨i, rfl, hi8, HM, HCELL, hbw⟩ := hrel
    by_cases hi : i < 8
    · have hiI : (i : Int) < 8 := by omega
      have hsg := sign8_run i hi
      have hcell := HCELL.out i hi
      obtain ⟨e1, e2, e3⟩ := eight_hit i hi
      obtain ⟨v, hv⟩ : ∃ v, eight.getD i 0 = v := ⟨_, rfl⟩
      obtain ⟨sg, hsgv⟩ : ∃ sg, (eightS.getD i 0).toNat = sg := ⟨_, rfl⟩
      rw [hv] at hcell e1 e2 e3
      rw [hsgv] at hsg e1
      by_cases hvn : c = sg
      · have hb : ((c : Int) == (sg : Int)) = true := by rw [hvn]; simp
        have HQ : Hid (rescV s.data.toList = (enc v, 1)) := Lib.hid (by
          have hE : esc s.data.toList = (v, 1) := by
            unfold esc
            rw [if_neg HNE.out, HC.out, hvn, if_pos (by rw [e1]; exact e2), e1]
          unfold rescV; rw [hE]; rfl)
        clear hvn hv hsgv e1 e2
        go_wp2_with fail
        go_quiet (fail)
        have hbq := bdrewN hbw nq
        go_wp2_with fail
        refine (refBytes_calls v (by unfold vr; omega) _).mono ?_
        rintro e w1 ⟨rfl, hb1⟩
        go_wp2_with fail
        go_ret2
        rw [HQ.out]
        exact ⟨rfl, hbq.trans (hb1.mono hbq.size)⟩
      · have hb : ((c : Int) == (sg : Int)) = false := by simp; omega
        have HM' : Hid (∀ k, k < i + 1 → (eightS.getD k 0).toNat ≠ c) := Lib.hid (by
          intro k hk
          rcases Nat.lt_or_ge k i with h | h
          · exact HM.out k h
          · have : k = i := by omega
            rw [this, hsgv]; exact fun h => hvn h.symm)
        clear hvn hv hsgv e1 e2 e3
        go_wp2_with fail
        go_quiet (fail)
        have hbq := bdrewN hbw nq
        have HCELL' : Hid (∀ k, k < 8 → (wr.drewN nq).cell? ⟨w.heap.size + 1, k, none⟩ = some (.int .i64 (eight.getD k 0 : Nat))) := Lib.hid fun k hk => HCELL.out k hk
        go_wp2_with fail
        go_roundw
        case rel => exact ⟨i + 1, by go_num, by omega, HM', HCELL', hbq⟩
        case measure => simp [intOf]; omega
    · have hiI : ¬ (i : Int) < 8 := by omega
      have hshort := eight_miss (c := c) (fun k hk => HM.out k (by omega))
      have hways := resc_ways HNE.out (by rw [HC.out]; exact hshort)
      rw [HC.out] at hways
      have hL : s.data.toList.length = s.size := by simp
      rw [hL] at hways
      have hx1 : rhexV (s.extract 1 s.size).data.toList = rhexV (s.data.toList.drop 1) := by rw [Lib.extract_to_end]
      have hx7 : rhexV (s.extract 7 s.size).data.toList = rhexV (s.data.toList.drop 7) := by rw [Lib.extract_to_end]
      have HB := Lib.hid (byte_run s)
      clear hshort hL
      have H1 := Lib.hid hx1
      have H7 := Lib.hid hx7
      have HW := Lib.hid hways
      clear hx1 hx7 hways
      go_wp2_with fail
      refine (rhex_calls _ _).mono ?_
      rintro e w1 ⟨rfl, hb1⟩
      have hx1 := H1.out
      have hx7 := H7.out
      have hways := HW.out
      clear H1 H7 HW
      rcases hways with ⟨k0, hq⟩ | ⟨k0, h1, hq⟩ | ⟨n, k0, h1, ⟨k1, hn16, hq⟩ | ⟨k1, ⟨k2, hq⟩ | ⟨k2, ⟨h7, hq⟩ | ⟨m, h7, ⟨k3, hq⟩ | ⟨k3, hq⟩⟩⟩⟩⟩
      · have hb : ((c : Int) != 117) = true := by simp; omega
        obtain ⟨x, hx⟩ : ∃ x, rhexV (s.extract 1 s.size).data.toList = x := ⟨_, rfl⟩
        have HX1 := Lib.hid hx
        have HQ := Lib.hid hq
        clear hq k0 hx hx1 hx7
        rw [HX1.out]
        go_wp2_with fail
        go_ret2
        rw [HQ.out]
        exact ⟨rfl, hbw.trans (hb1.mono hbw.size)⟩
      · have hb : ((c : Int) != 117) = false := by simp; omega
        have HX1 := Lib.hid (hx1.trans (rhexV_none h1))
        have HQ := Lib.hid hq
        clear hq k0 h1 hx1 hx7
        rw [HX1.out]
        go_wp2_with fail
        go_ret2
        rw [HQ.out]
        exact ⟨rfl, hbw.trans (hb1.mono hbw.size)⟩
      · have hb : ((c : Int) != 117) = false := by simp; omega
        have HX1 := Lib.hid (hx1.trans (rhexV_some h1))
        have HQ := Lib.hid hq
        have hw2 : (n : Int) < 55296 ∨ (¬ (n : Int) < 55296 ∧ (57343 : Int) < (n : Int)) := by omega
        have hvr : vr n := by unfold vr; omega
        clear hq k0 h1 hx1 hx7 k1
        rcases hw2 with g1 | ⟨g1, g2⟩
        all_goals
          rw [HX1.out]
          go_wp2_with fail
          refine (refBytes_calls n hvr _).mono ?_
          rintro e w2 ⟨rfl, hb2⟩
          go_wp2_with fail
          go_ret2
          rw [HQ.out]
          exact ⟨rfl, (hbw.trans (hb1.mono hbw.size)).trans (hb2.mono (Nat.le_trans hbw.size hb1.size))⟩
      · have hb : ((c : Int) != 117) = false := by simp; omega
        have HX1 := Lib.hid (hx1.trans (rhexV_some h1))
        have HQ := Lib.hid hq
        have g1 : ¬ (n : Int) < 55296 := by omega
        have g2 : ¬ (57343 : Int) < (n : Int) := by omega
        have hw3 : (56319 : Int) < (n : Int) ∨ (¬ (56319 : Int) < (n : Int) ∧ (s.size : Int) < 11) ∨ (¬ (56319 : Int) < (n : Int) ∧ ¬ (s.size : Int) < 11 ∧ gb s.data.toList 5 ≠ 92) ∨ (¬ (56319 : Int) < (n : Int) ∧ ¬ (s.size : Int) < 11 ∧ gb s.data.toList 5 = 92 ∧ gb s.data.toList 6 ≠ 117) := by omega
        clear hq k0 h1 hx1 hx7 k1 k2
        rcases hw3 with g3 | ⟨g3, g4⟩ | ⟨g3, g4, g5⟩ | ⟨g3, g4, g5, g6⟩
        · rw [HX1.out]
          go_wp2_with fail
          go_ret2
          rw [HQ.out]
          exact ⟨rfl, hbw.trans (hb1.mono hbw.size)⟩
        · rw [HX1.out]
          go_wp2_with fail
          go_ret2
          rw [HQ.out]
          exact ⟨rfl, hbw.trans (hb1.mono hbw.size)⟩
        · have hr5 : ∀ w, (Instr.index 9 (.string s) (.int .i64 5)).run Tryz.prog w = .ok (.int .u8 (gb s.data.toList 5 : Nat)) w := HB.out 5 (by omega)
          obtain ⟨c5, hc5⟩ : ∃ c5, gb s.data.toList 5 = c5 := ⟨_, rfl⟩
          rw [hc5] at hr5 g5
          have hb5 : ((c5 : Int) != 92) = true := by simp; omega
          clear hc5 g5
          rw [HX1.out]
          go_wp2_with fail
          go_ret2
          rw [HQ.out]
          exact ⟨rfl, hbw.trans (hb1.mono hbw.size)⟩
        · have hr5 : ∀ w, (Instr.index 9 (.string s) (.int .i64 5)).run Tryz.prog w = .ok (.int .u8 (gb s.data.toList 5 : Nat)) w := HB.out 5 (by omega)
          have hr6 : ∀ w, (Instr.index 9 (.string s) (.int .i64 6)).run Tryz.prog w = .ok (.int .u8 (gb s.data.toList 6 : Nat)) w := HB.out 6 (by omega)
          obtain ⟨c6, hc6⟩ : ∃ c6, gb s.data.toList 6 = c6 := ⟨_, rfl⟩
          rw [g5] at hr5
          have hr5 : ∀ w, (Instr.index 9 (.string s) (.int .i64 5)).run Tryz.prog w = .ok (.int .u8 92) w := hr5
          rw [hc6] at hr6 g6
          have hb6 : ((c6 : Int) != 117) = true := by simp; omega
          clear hc6 g5 g6
          rw [HX1.out]
          go_wp2_with fail
          go_ret2
          rw [HQ.out]
          exact ⟨rfl, hbw.trans (hb1.mono hbw.size)⟩
      · have hb : ((c : Int) != 117) = false := by simp; omega
        have HX1 := Lib.hid (hx1.trans (rhexV_some h1))
        have HX7 := Lib.hid (hx7.trans (rhexV_none h7))
        have HQ := Lib.hid hq
        have g1 : ¬ (n : Int) < 55296 := by omega
        have g2 : ¬ (57343 : Int) < (n : Int) := by omega
        have g3 : ¬ (56319 : Int) < (n : Int) := by omega
        have g4 : ¬ (s.size : Int) < 11 := by omega
        have hr5 : ∀ w, (Instr.index 9 (.string s) (.int .i64 5)).run Tryz.prog w = .ok (.int .u8 (gb s.data.toList 5 : Nat)) w := HB.out 5 (by omega)
        have hr6 : ∀ w, (Instr.index 9 (.string s) (.int .i64 6)).run Tryz.prog w = .ok (.int .u8 (gb s.data.toList 6 : Nat)) w := HB.out 6 (by omega)
        rw [k2.2.2.1] at hr5
        rw [k2.2.2.2] at hr6
        have hr5 : ∀ w, (Instr.index 9 (.string s) (.int .i64 5)).run Tryz.prog w = .ok (.int .u8 92) w := hr5
        have hr6 : ∀ w, (Instr.index 9 (.string s) (.int .i64 6)).run Tryz.prog w = .ok (.int .u8 117) w := hr6
        clear hq k0 hx1 hx7 k2
        clear h1 h7 k1
        rw [HX1.out]
        go_wp2_with fail
        refine (rhex_calls _ _).mono ?_
        rintro e w2 ⟨rfl, hb2⟩
        rw [HX7.out]
        go_wp2_with fail
        go_ret2
        rw [HQ.out]
        exact ⟨rfl, (hbw.trans (hb1.mono hbw.size)).trans (hb2.mono (Nat.le_trans hbw.size hb1.size))⟩
      · have hb : ((c : Int) != 117) = false := by simp; omega
        have HX1 := Lib.hid (hx1.trans (rhexV_some h1))
        have HX7 := Lib.hid (hx7.trans (rhexV_some h7))
        have HQ := Lib.hid hq
        have g1 : ¬ (n : Int) < 55296 := by omega
        have g2 : ¬ (57343 : Int) < (n : Int) := by omega
        have g3 : ¬ (56319 : Int) < (n : Int) := by omega
        have g4 : ¬ (s.size : Int) < 11 := by omega
        have hr5 : ∀ w, (Instr.index 9 (.string s) (.int .i64 5)).run Tryz.prog w = .ok (.int .u8 (gb s.data.toList 5 : Nat)) w := HB.out 5 (by omega)
        have hr6 : ∀ w, (Instr.index 9 (.string s) (.int .i64 6)).run Tryz.prog w = .ok (.int .u8 (gb s.data.toList 6 : Nat)) w := HB.out 6 (by omega)
        rw [k2.2.2.1] at hr5
        rw [k2.2.2.2] at hr6
        have hr5 : ∀ w, (Instr.index 9 (.string s) (.int .i64 5)).run Tryz.prog w = .ok (.int .u8 92) w := hr5
        have hr6 : ∀ w, (Instr.index 9 (.string s) (.int .i64 6)).run Tryz.prog w = .ok (.int .u8 117) w := hr6
        clear hq k0 hx1 hx7 k2
        have hw4 : (m : Int) < 56320 ∨ (¬ (m : Int) < 56320 ∧ (57343 : Int) < (m : Int)) := by omega
        clear k3 h1 h7 k1
        rcases hw4 with g7 | ⟨g7, g8⟩
        all_goals
          rw [HX1.out]
          go_wp2_with fail
          refine (rhex_calls _ _).mono ?_
          rintro e w2 ⟨rfl, hb2⟩
          rw [HX7.out]
          go_wp2_with fail
          go_ret2
          rw [HQ.out]
          exact ⟨rfl, (hbw.trans (hb1.mono hbw.size)).trans (hb2.mono (Nat.le_trans hbw.size hb1.size))⟩
      · have hb : ((c : Int) != 117) = false := by simp; omega
        have HX1 := Lib.hid (hx1.trans (rhexV_some h1))
        have HX7 := Lib.hid (hx7.trans (rhexV_some h7))
        have HQ := Lib.hid hq
        have g1 : ¬ (n : Int) < 55296 := by omega
        have g2 : ¬ (57343 : Int) < (n : Int) := by omega
        have g3 : ¬ (56319 : Int) < (n : Int) := by omega
        have g4 : ¬ (s.size : Int) < 11 := by omega
        have hr5 : ∀ w, (Instr.index 9 (.string s) (.int .i64 5)).run Tryz.prog w = .ok (.int .u8 (gb s.data.toList 5 : Nat)) w := HB.out 5 (by omega)
        have hr6 : ∀ w, (Instr.index 9 (.string s) (.int .i64 6)).run Tryz.prog w = .ok (.int .u8 (gb s.data.toList 6 : Nat)) w := HB.out 6 (by omega)
        rw [k2.2.2.1] at hr5
        rw [k2.2.2.2] at hr6
        have hr5 : ∀ w, (Instr.index 9 (.string s) (.int .i64 5)).run Tryz.prog w = .ok (.int .u8 92) w := hr5
        have hr6 : ∀ w, (Instr.index 9 (.string s) (.int .i64 6)).run Tryz.prog w = .ok (.int .u8 117) w := hr6
        clear hq k0 hx1 hx7 k2
        have g7 : ¬ (m : Int) < 56320 := by omega
        have g8 : ¬ (57343 : Int) < (m : Int) := by omega
        have HV := Lib.hid (show 65536 + ((n : Int) - 55296) * 1024 + (m : Int) - 56320 = ((65536 + (n - 55296) * 1024 + (m - 56320) : Nat) : Int) by omega)
        have hvr : vr (65536 + (n - 55296) * 1024 + (m - 56320)) := by unfold vr; omega
        clear h1 h7
        rw [HX1.out]
        go_wp2_with fail
        refine (rhex_calls _ _).mono ?_
        rintro e w2 ⟨rfl, hb2⟩
        rw [HX7.out]
        go_wp2_with fail
        rw [HV.out]
        refine (refBytes_calls _ hvr _).mono ?_
        rintro e w3 ⟨rfl, hb3⟩
        go_wp2_with fail
        go_ret2
        rw [HQ.out]
        exact ⟨rfl, ((hbw.trans (hb1.mono hbw.size)).trans (hb2.mono (Nat.le_trans hbw.size hb1.size))).trans (hb3.mono (Nat.le_trans (Nat.le_trans hbw.size hb1.size) hb2.size))⟩
end Go.Proofs.YtndkbecdjaedaaaGreatDoor
