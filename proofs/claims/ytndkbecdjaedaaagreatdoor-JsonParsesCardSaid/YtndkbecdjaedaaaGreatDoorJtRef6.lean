/- The reference's one, hex, escape. -/
import Derived.Test.YtndkbecdjaedaaaGreatDoorJtRef5
namespace Go.Proofs.YtndkbecdjaedaaaGreatDoor
open Go.RowKit

def six : List Nat := [8, 9, 10, 12, 13, 34]
def sixS : List UInt8 := [98, 116, 110, 102, 114, 34]
theorem conv_cells_drew (w : World) (l : List UInt8) (cs : List Value) (n : Nat) (hcs : cs = Lib.byteCells l) (hn : n = l.length) :
    (convert 22 9 (.slice (some ⟨w.heap.size, 0, none⟩) n n)).run Tryz.prog (w.alloc (.cells cs.toArray 5)).drew = .ok (.string ⟨l.toArray⟩) (w.alloc (.cells cs.toArray 5)).drew := by
  subst hcs; subst hn
  refine run_convert_bytes_back (P := Tryz.prog) _ 22 9 5 ⟨w.heap.size, 0, none⟩ l.length l Tryz.underlying22 Tryz.underlying5 Tryz.underlying9 ?_
  intro j hj
  have ha : (⟨w.heap.size, 0, none⟩ : Addr).add j = ⟨w.heap.size, j, none⟩ := by
    unfold Addr.add
    by_cases h0 : j = 0
    · subst h0; rfl
    · simp [h0]
  have : (w.alloc (.cells (Lib.byteCells l).toArray 5)).drew.cell? ((⟨w.heap.size, 0, none⟩ : Addr).add j) = (Lib.byteCells l)[j]? := by
    rw [ha]
    show (w.alloc (.cells (Lib.byteCells l).toArray 5)).cell? ⟨w.heap.size, j, none⟩ = _
    simp [World.cell?, World.alloc, -World.alloc_eq]
  rw [this]
  simp [Lib.byteCells, List.getElem?_map, List.getElem?_eq_getElem hj]

theorem six_hit : ∀ i : Nat, i < 6 → qrune (six.getD i 0) = [92, sixS.getD i 0] := by decide
theorem six_lt : ∀ i : Nat, i < 6 → six.getD i 0 < 128 := by decide
theorem six_miss {n : Nat} (h : ∀ i, i < 6 → six.getD i 0 ≠ n) : qrune n = if n = 92 then [92, 92] else if n < 32 then [92, 117, 48, 48, hexd (n / 16), hexd (n % 16)] else enc n := by
  have h0 := h 0 (by omega); have h1 := h 1 (by omega); have h2 := h 2 (by omega); have h3 := h 3 (by omega); have h4 := h 4 (by omega); have h5 := h 5 (by omega)
  simp [six] at h0 h1 h2 h3 h4 h5
  unfold qrune
  rw [if_neg (by omega), if_neg (by omega), if_neg (by omega), if_neg (by omega), if_neg (by omega), if_neg (by omega)]

theorem six_cell (w : World) (i : Nat) (h : i < 6) : (w.alloc (.cells #[.int .i64 8, .int .i64 9, .int .i64 10, .int .i64 12, .int .i64 13, .int .i64 34] 202)).cell? ⟨w.heap.size, i, none⟩ = some (.int .i64 (six.getD i 0 : Nat)) := by
  have : i = 0 ∨ i = 1 ∨ i = 2 ∨ i = 3 ∨ i = 4 ∨ i = 5 := by omega
  rcases this with rfl | rfl | rfl | rfl | rfl | rfl <;> simp [World.cell?, World.alloc, -World.alloc_eq, six]

theorem sign_run (i : Nat) (h : i < 6) : ∀ w, (Instr.index 9 (.string ⟨#[98, 116, 110, 102, 114, 34]⟩) (.int .i64 (i : Int))).run Tryz.prog w = .ok (.int .u8 (sixS.getD i 0).toNat) w := by
  intro w
  have hr := byte_run ⟨#[98, 116, 110, 102, 114, 34]⟩ i (by exact h) w
  have : i = 0 ∨ i = 1 ∨ i = 2 ∨ i = 3 ∨ i = 4 ∨ i = 5 := by omega
  rcases this with rfl | rfl | rfl | rfl | rfl | rfl <;> exact hr

theorem hex_slice (x : Nat) (h : x < 16) : ∃ T : ByteArray, T.data.toList = [hexd x] ∧ T.size ≤ 1 ∧
    ∀ w, (Instr.slice 9 (.string ⟨#[48, 49, 50, 51, 52, 53, 54, 55, 56, 57, 97, 98, 99, 100, 101, 102]⟩) (some (.int .i64 (x : Int))) (some (.int .i64 ((x : Int) + 1))) none).run Tryz.prog w = .ok (.string T) w := by
  refine ⟨hexB.extract x (x + 1), ?_, ?_, fun w => ?_⟩
  · have h0 : ∀ x : Nat, x < 16 → (hexB.extract x (x + 1)).data.toList = [hexd x] := by decide
    exact h0 x h
  · simp [ByteArray.size_extract]; omega
  · have hs : hexB.size = 16 := rfl
    have hr := run_slice_string_if (P := Tryz.prog) w 9 hexB .i64 .i64 (x : Int) ((x : Int) + 1) Tryz.underlying9
    rw [if_pos ⟨by omega, by rw [hs]; omega⟩, if_pos ⟨by omega, by omega⟩] at hr
    have e : ((x : Int) + 1).toNat = x + 1 := by omega
    rw [e, Int.toNat_natCast] at hr
    exact hr

set_option maxHeartbeats 16000000 in
set_option maxRecDepth 1000000 in
theorem one_calls (n : Nat) (hn : n < 128) (w : World) :
    Calls Tryz.prog 160 #[.int .i64 n] w fun e w' => e = .returned (.string ⟨(qrune n).toArray⟩) ∧ Below w.heap.size w w' := by
  go_enter Tryz.func160, Tryz.ntmps160
  go_wp2_with fail
  go_loop [5] (fun v => ∃ i : Nat, v = .int .i64 i ∧ i ≤ 6 ∧ Hid (∀ k, k < i → six.getD k 0 ≠ n)) (fun v => 6 - (intOf v).toNat)
  case atStart => exact ⟨0, rfl, by omega, Lib.hid (fun k h => by omega)⟩
  case round =>
    obtain ⟨i, rfl, hi6, HM⟩ := hrel
    by_cases hi : i < 6
    · have hiI : (i : Int) < 6 := by omega
      have hcell := six_cell w i hi
      have hsg := sign_run i hi
      obtain ⟨v, hv⟩ : ∃ v, six.getD i 0 = v := ⟨_, rfl⟩
      obtain ⟨sg, hsgv⟩ : ∃ sg : UInt8, sixS.getD i 0 = sg := ⟨_, rfl⟩
      rw [hv] at hcell
      rw [hsgv] at hsg
      by_cases hvn : v = n
      · have hb : ((v : Int) == (n : Int)) = true := by rw [hvn]; simp
        have HQ := Lib.hid (show qrune n = [92, sg] by rw [← hvn, ← hv, six_hit i hi, hsgv])
        have hcv := conv_cells (w.alloc (.cells #[.int .i64 8, .int .i64 9, .int .i64 10, .int .i64 12, .int .i64 13, .int .i64 34] 202)) [92, sg] [.int .u8 92, .int .u8 sg.toNat] 2 rfl rfl
        simp only [World.size_alloc] at hcv
        clear hvn hv hsgv
        go_wp2_with fail
        go_ret
        rw [HQ.out]
        exact ⟨rfl, ((Below.refl _ w).alloc (Nat.le_refl _) _).alloc (by simp) _⟩
      · have hb : ((v : Int) == (n : Int)) = false := by simp; omega
        have HM' : Hid (∀ k, k < i + 1 → six.getD k 0 ≠ n) := Lib.hid (by
          intro k hk
          rcases Nat.lt_or_ge k i with h | h
          · exact HM.out k h
          · have : k = i := by omega
            rw [this, hv]; exact hvn)
        clear hvn hv hsgv
        go_wp2_with fail
        go_round
        case rel => exact ⟨i + 1, by go_num, by omega, HM'⟩
        case measure => simp [intOf]; omega
    · have hiI : ¬ (i : Int) < 6 := by omega
      have hq := six_miss (n := n) (fun k hk => HM.out k (by omega))
      have hconv (l : List UInt8) (cs : List Value) (m : Nat) (hcs : cs = Lib.byteCells l) (hm : m = l.length) := conv_cells (w.alloc (.cells #[.int .i64 8, .int .i64 9, .int .i64 10, .int .i64 12, .int .i64 13, .int .i64 34] 202)) l cs m hcs hm
      simp only [World.size_alloc] at hconv
      by_cases h92 : n = 92
      · have hb : ((n : Int) == 92) = true := by simp; omega
        have HQ := Lib.hid (hq.trans (if_pos h92))
        have hcv := hconv [92, 92] [.int .u8 92, .int .u8 92] 2 rfl rfl
        clear hq h92 hconv
        go_wp2_with fail
        go_ret
        rw [HQ.out]
        exact ⟨rfl, ((Below.refl _ w).alloc (Nat.le_refl _) _).alloc (by simp) _⟩
      have hb : ((n : Int) == 92) = false := by simp; omega
      rw [if_neg h92] at hq
      by_cases h32 : n < 32
      · have h32I : (n : Int) < 32 := by omega
        have HQ := Lib.hid (hq.trans (if_pos h32))
        have hcv := conv_cells_drew (w.alloc (.cells #[.int .i64 8, .int .i64 9, .int .i64 10, .int .i64 12, .int .i64 13, .int .i64 34] 202)) [92] [.int .u8 92] 1 rfl rfl
        simp only [World.size_alloc] at hcv
        obtain ⟨T1, ht1, hts1, hs1⟩ := hex_slice (n / 16) (by omega)
        obtain ⟨T2, ht2, hts2, hs2⟩ := hex_slice (n % 16) (by omega)
        rw [show ((n / 16 : Nat) : Int) = (n : Int) / 16 by omega] at hs1
        rw [show ((n % 16 : Nat) : Int) = (n : Int) % 16 by omega] at hs2
        obtain ⟨U0, hu0, hv0⟩ := add_run ⟨#[92]⟩ ⟨#[117, 48, 48]⟩ (by show 1 + 3 ≤ _; omega)
        have hu0s : U0.size ≤ 4 := by have := congrArg List.length hu0; simp at this; omega
        obtain ⟨U1, hu1, hv1⟩ := add_run U0 T1 (by omega)
        have hu1s : U1.size ≤ 5 := by have := congrArg List.length hu1; simp at this; omega
        obtain ⟨U2, hu2, hv2⟩ := add_run U1 T2 (by omega)
        have HU := Lib.hid (show U2.data.toList = [92, 117, 48, 48, hexd (n / 16), hexd (n % 16)] by rw [hu2, hu1, hu0, ht1, ht2]; rfl)
        clear hq h92 hconv hu0 hu1 hu2 ht1 ht2
        go_wp2_with fail
        go_region
        go_wp2_with fail
        go_ret
        have hu : U2 = ⟨(qrune n).toArray⟩ := by
          rw [HQ.out, ← HU.out]
        rw [hu]
        exact ⟨rfl, (((Below.refl _ w).alloc (Nat.le_refl _) _).alloc (by simp) _).drew⟩
      · have h32I : ¬ (n : Int) < 32 := by omega
        have HQ := Lib.hid (hq.trans (if_neg h32))
        clear hq h92 hconv
        go_wp2_with fail
        refine (refBytes_calls n (by unfold vr; omega) _).mono ?_
        rintro e w1 ⟨rfl, hb1⟩
        go_wp2_with fail
        go_ret
        rw [HQ.out]
        exact ⟨rfl, ((Below.refl _ w).alloc (Nat.le_refl _) _).trans (hb1.mono (by simp))⟩
end Go.Proofs.YtndkbecdjaedaaaGreatDoor
