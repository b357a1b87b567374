/- The reference's End. -/
import Derived.Test.YtndkbecdjaedaaaGreatDoorJsVs
namespace Go.Proofs.YtndkbecdjaedaaaGreatDoor
open Go.RowKit

set_option maxHeartbeats 4000000 in
set_option maxRecDepth 1000000 in
theorem rend_calls (v : Value) (l : List V) (at' : Int) (w : World) (h : Vs w v l) (h0 : -9223372036854775808 ≤ at') (h1 : at' ≤ 9223372036854775807) (hl : l.length ≤ 1000000) :
    Calls Tryz.prog 36 #[v, .int .i64 at'] w fun e w' => e = .returned (.int .i64 (jend l at')) ∧ w' = w := by
  obtain ⟨a, cap, hv⟩ := h.len
  by_cases hout : at' < 0 ∨ (l.length : Int) ≤ at'
  · have hj : jend l at' = -1 := by unfold jend; rw [if_pos hout]
    have HJ := Lib.hid hj
    subst hv
    clear h hj
    by_cases hn : at' < 0
    · clear hout
      go_enter Tryz.func36, Tryz.ntmps36
      go_wp2_with fail
      go_ret
      exact ⟨by rw [HJ.out]; rfl, rfl⟩
    · have hge : (l.length : Int) ≤ at' := by omega
      clear hout
      go_enter Tryz.func36, Tryz.ntmps36
      go_wp2_with fail
      go_ret
      exact ⟨by rw [HJ.out]; rfl, rfl⟩
  · obtain ⟨k, rfl⟩ : ∃ k : Nat, at' = k := ⟨at'.toNat, by omega⟩
    have hk : k < l.length := by omega
    have hj : jend l (k : Int) = endGo l.length (l.drop k) 1 k := by unfold jend; rw [if_neg hout, Int.toNat_natCast]
    rw [hj]
    rcases h with ⟨rfl, _⟩ | ⟨b, off, cap', hv', hb, hc⟩
    · simp at hk
    subst hv'
    clear hv a cap hj
    obtain ⟨R, hR⟩ : ∃ R, endGo l.length (l.drop k) 1 k = R := ⟨_, rfl⟩
    rw [hR]
    have HC := Lib.hid hc
    have HR := Lib.hid hR
    have g0 : ¬ (k : Int) < 0 := by omega
    have g1 : ¬ (l.length : Int) ≤ (k : Int) := by omega
    clear hc hR hout h0 h1
    go_enter Tryz.func36, Tryz.ntmps36
    go_wp2_with fail
    go_loopw [5, 1] (fun vw va wr => ∃ (i : Nat) (want : Int), va = .int .i64 (i : Int) ∧ vw = .int .i64 want ∧ i ≤ l.length ∧ 0 ≤ want ∧ want ≤ 1 + (i : Int) * 1000000 ∧ wr = w ∧ Hid (endGo l.length (l.drop i) want i = R)) (fun _ va _ => l.length - (intOf va).toNat)
    case atStart => exact ⟨k, 1, rfl, rfl, by omega, by omega, by omega, rfl, HR⟩
    case round =>
      obtain ⟨i, want, rfl, rfl, hi, hw0, hw1, rfl, HRR⟩ := hrel
      by_cases hw : 0 < want
      · by_cases hil : i < l.length
        · have he := endGo_at (N := l.length) hil want i
          have hce := (vcell_at (HC.out i hil 3 (by omega))).2.2.2 rfl
          obtain ⟨c, hcc⟩ : ∃ c, l[i].count = c := ⟨_, rfl⟩
          rw [hcc] at he hce
          rw [if_neg (by omega)] at he
          have hne : ¬ (l.length : Int) ≤ (i : Int) := by omega
          have hix0 : (0 : Int) ≤ (i : Int) := by omega
          have hix1 : (i : Int) < (l.length : Int) := by omega
          by_cases hc0 : c < 0
          · rw [if_pos (.inl hc0)] at he
            have hr : R = -1 := by rw [← HRR.out, he]
            have HR2 := Lib.hid hr
            clear he hcc hr
            go_wp2_with fail
            go_ret
            exact ⟨by rw [HR2.out]; rfl, rfl⟩
          · by_cases hcN : (l.length : Int) < c
            · rw [if_pos (.inr hcN)] at he
              have hr : R = -1 := by rw [← HRR.out, he]
              have HR2 := Lib.hid hr
              clear he hcc hr
              go_wp2_with fail
              go_ret
              exact ⟨by rw [HR2.out]; rfl, rfl⟩
            · rw [if_neg (by omega)] at he
              have hr : endGo l.length (l.drop (i + 1)) (want - 1 + c) (i + 1) = R := by rw [← HRR.out, he]
              have HR2 := Lib.hid hr
              clear he hcc hr
              have hcb : c ≤ 1000000 := by omega
              have hmul : ((i + 1 : Nat) : Int) * 1000000 = (i : Int) * 1000000 + 1000000 := by omega
              go_wp2_with fail
              go_roundw
              case rel => exact ⟨i + 1, want - 1 + c, by go_num, by go_num, by omega, by omega, by omega, by trivial, HR2⟩
              case measure => simp [intOf]; omega
        · have hie : i = l.length := by omega
          have hr : R = -1 := by
            rw [← HRR.out, List.drop_eq_nil_of_le (by omega), endGo_nil, if_neg (by omega)]
          have HR2 := Lib.hid hr
          have heq : (l.length : Int) ≤ (i : Int) := by omega
          clear hr hie
          go_wp2_with fail
          go_ret
          exact ⟨by rw [HR2.out]; rfl, rfl⟩
      · have hr : R = (i : Int) := by
          rw [← HRR.out]
          by_cases hil : i < l.length
          · rw [endGo_at hil, if_pos (by omega)]
          · rw [List.drop_eq_nil_of_le (by omega), endGo_nil, if_pos (by omega)]
        have HR2 := Lib.hid hr
        clear hr
        go_wp2_with fail
        go_ret
        exact ⟨by rw [HR2.out]; rfl, rfl⟩
end Go.Proofs.YtndkbecdjaedaaaGreatDoor
