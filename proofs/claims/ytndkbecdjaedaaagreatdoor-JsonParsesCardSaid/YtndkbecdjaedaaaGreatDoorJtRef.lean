/- The reference's Bytes. -/
import Derived.Test.YtndkbecdjaedaaaGreatDoorJtUnq
namespace Go.Proofs.YtndkbecdjaedaaaGreatDoor
open Go.RowKit

/-- The string of bytes that have just been laid. -/
theorem conv_new (w : World) (l : List UInt8) :
    (convert 22 9 (.slice (some ⟨w.heap.size, 0, none⟩) l.length l.length)).run Tryz.prog (w.alloc (.cells (Lib.byteCells l).toArray 5)) = .ok (.string ⟨l.toArray⟩) (w.alloc (.cells (Lib.byteCells l).toArray 5)) := by
  refine run_convert_bytes_back (P := Tryz.prog) _ 22 9 5 ⟨w.heap.size, 0, none⟩ l.length l Tryz.underlying22 Tryz.underlying5 Tryz.underlying9 ?_
  intro j hj
  have : (w.alloc (.cells (Lib.byteCells l).toArray 5)).cell? ((⟨w.heap.size, 0, none⟩ : Addr).add j) = (Lib.byteCells l)[j]? := by
    have ha : (⟨w.heap.size, 0, none⟩ : Addr).add j = ⟨w.heap.size, j, none⟩ := by
      unfold Addr.add
      by_cases h0 : j = 0
      · subst h0; rfl
      · simp [h0]
    rw [ha]
    simp [World.cell?, World.alloc, -World.alloc_eq]
  rw [this]
  simp [Lib.byteCells, List.getElem?_map, List.getElem?_eq_getElem hj]

theorem conv_cells (w : World) (l : List UInt8) (cs : List Value) (n : Nat) (hcs : cs = Lib.byteCells l) (hn : n = l.length) :
    (convert 22 9 (.slice (some ⟨w.heap.size, 0, none⟩) n n)).run Tryz.prog (w.alloc (.cells cs.toArray 5)) = .ok (.string ⟨l.toArray⟩) (w.alloc (.cells cs.toArray 5)) := by
  subst hcs; subst hn; exact conv_new w l

theorem cellU8 (n : Nat) (h : n < 256) : Value.int .u8 (n : Int) = Value.int .u8 ((UInt8.ofNat n).toNat : Int) := by rw [u8_ofNat_toNat n h]

set_option maxHeartbeats 4000000 in
set_option maxRecDepth 1000000 in
theorem refBytes_calls (r : Nat) (hv : vr r) (w : World) :
    Calls Tryz.prog 159 #[.int .i64 r] w fun e w' => e = .returned (.string ⟨(enc r).toArray⟩) ∧ Below w.heap.size w w' := by
  rcases vr_cases hv with h | h | h | h
  · have h1 : (r : Int) < 128 := by omega
    have hcv := conv_cells w (enc r) [.int .u8 (r : Int)] 1 (by rw [enc_one h]; simp [Lib.byteCells]; omega) (by rw [enc_one h]; rfl)
    go_enter Tryz.func159, Tryz.ntmps159
    go_wp2_with fail
    go_ret
    exact ⟨rfl, (Below.refl _ w).alloc (Nat.le_refl _) _⟩
  · have h1 : ¬ (r : Int) < 128 := by omega
    have h2 : (r : Int) < 2048 := by omega
    have hcv := conv_cells w (enc r) [.int .u8 (192 + (r : Int) / 64), .int .u8 (128 + (r : Int) % 64)] 2 (by rw [enc_two h.1 h.2]; simp [Lib.byteCells]; omega) (by rw [enc_two h.1 h.2]; rfl)
    go_enter Tryz.func159, Tryz.ntmps159
    go_wp2_with fail
    go_ret
    exact ⟨rfl, (Below.refl _ w).alloc (Nat.le_refl _) _⟩
  · have h1 : ¬ (r : Int) < 128 := by omega
    have h2 : ¬ (r : Int) < 2048 := by omega
    have h3 : (r : Int) < 65536 := by omega
    have hcv := conv_cells w (enc r) [.int .u8 (224 + (r : Int) / 4096), .int .u8 (128 + (r : Int) / 64 % 64), .int .u8 (128 + (r : Int) % 64)] 3 (by rw [enc_three h]; simp [Lib.byteCells]; omega) (by rw [enc_three h]; rfl)
    go_enter Tryz.func159, Tryz.ntmps159
    go_wp2_with fail
    go_ret
    exact ⟨rfl, (Below.refl _ w).alloc (Nat.le_refl _) _⟩
  · have h1 : ¬ (r : Int) < 128 := by omega
    have h2 : ¬ (r : Int) < 2048 := by omega
    have h3 : ¬ (r : Int) < 65536 := by omega
    have h4 : (r : Int) ≤ 1114111 := by omega
    have hcv := conv_cells w (enc r) [.int .u8 (240 + (r : Int) / 262144), .int .u8 (128 + (r : Int) / 4096 % 64), .int .u8 (128 + (r : Int) / 64 % 64), .int .u8 (128 + (r : Int) % 64)] 4 (by rw [enc_four h.1 h.2]; simp [Lib.byteCells]; omega) (by rw [enc_four h.1 h.2]; rfl)
    go_enter Tryz.func159, Tryz.ntmps159
    go_wp2_with fail
    go_ret
    exact ⟨rfl, (Below.refl _ w).alloc (Nat.le_refl _) _⟩
end Go.Proofs.YtndkbecdjaedaaaGreatDoor
