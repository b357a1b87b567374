/- jtext.hex and what it calls: a character of the digits of base 16, strconv.ParseUint at base 16. -/
import Derived.Test.YtangbkiheoekaaaDoorJtQuote
import Derived.Deep.QuietTactic
import Derived.BigQuiet
import Derived.WalkSmall
namespace Go.Proofs.YtangbkiheoekaaaDoor
open Go.RowKit

def hexS : ByteArray := ⟨#[48, 49, 50, 51, 52, 53, 54, 55, 56, 57, 97, 98, 99, 100, 101, 102, 65, 66, 67, 68, 69, 70]⟩
theorem hexS_size : hexS.size = 22 := rfl
theorem hexS_ascii : ∀ i : Nat, i < 22 → (hexS.data.toList.getD i 0).toNat < 128 := by decide
theorem hexS_decode : ∀ i : Nat, i < 22 → Utf8.decode hexS i = ((hexS.data.toList.getD i 0).toNat, 1) := by decide

theorem indexByte_none (l : List UInt8) (c : UInt8) (h : ∀ x ∈ l, x ≠ c) : Lib.indexByte l c = -1 := by
  induction l with
  | nil => rfl
  | cons x r ih =>
    have h1 : x ≠ c := h x (by simp)
    have h2 := ih fun y hy => h y (by simp [hy])
    simp [Lib.indexByte, h1, h2]

theorem bdrewN {B : Nat} {a w : World} (h : Below B a w) (n : Nat) : Below B a (w.drewN n) := h.trans ⟨rfl, rfl, rfl, Nat.le_refl _, fun _ _ => rfl⟩
section
variable {Q : Exit → Act → World → Prop} {n : Act → World → Prop} {a : Act} {w : World} {id : Nat}
theorem ret_inBlock : Exit.inBlock id Q .ret a w = Q .ret a w := rfl
theorem ret_then : Exit.then n Q .ret a w = Q .ret a w := rfl
end
theorem slice_from (s : ByteArray) (a : Nat) (ha : a ≤ s.size) : ∃ R : ByteArray, R.data.toList = s.data.toList.drop a ∧ R.size = s.size - a ∧
    ∀ w, (Instr.slice 9 (.string s) (some (.int .i64 (a : Int))) none none).run Tryd.prog w = .ok (.string R) w :=
  ⟨s.extract a s.size, Lib.extract_to_end s a, by simp, fun w => by
    have := run_slice_string_l (P := Tryd.prog) w 9 s Tryd.underlying9 .i64 (a : Int) (by omega) (by omega)
    simpa using this⟩
theorem indexByte_u8 (s : ByteArray) (c : UInt8) (w : World) : Calls Tryd.prog 39 #[.string s, .int .u8 c.toNat] w fun e w' => e = .returned (.int .i64 (Lib.indexByte s.data.toList c)) ∧ w' = w := by
  have := Tryd.strings_IndexByte s (c.toNat : Int) w
  simpa using this

set_option maxHeartbeats 2000000 in
set_option maxRecDepth 2000000 in
/-- A character beyond ASCII is none of them. -/
theorem indexRune_high (r : Nat) (h0 : 128 ≤ r) (h1 : r ≤ 1114111) (w : World) :
    Calls Tryd.prog 86 #[.string hexS, .int .i32 r] w fun e w' => e = .returned (.int .i64 (-1)) ∧ Below w.heap.size w w' := by
  have hsz : hexS.size = 22 := rfl
  have hn1 : ¬ (r : Int) < 128 := by omega
  by_cases hf : r = 65533
  · have hb1 : ((r : Int) == 65533) = true := by simp; omega
    clear hf
    go_enter Tryd.func86, Tryd.ntmps86
    go_wp2_with fail
    go_loopw [] (fun wr => ∃ pos : Nat, pos ≤ 22 ∧ wr.heap[w.heap.size]? = some (.stringIter hexS pos) ∧ Below w.heap.size w wr) (fun wr => 22 - wr.iterPos w.heap.size)
    case atStart => exact ⟨0, by omega, World.iter_heap w hexS 0, (Below.refl _ w).alloc (Nat.le_refl _) _⟩
    case round =>
      obtain ⟨pos, hp22, hit, hbw⟩ := hrel
      by_cases hp : pos < 22
      · have hd := hexS_decode pos hp
        have hnx : ∀ ty, (Instr.next (.pointer (some ⟨w.heap.size, 0, none⟩)) true ty).run Tryd.prog wr = _ := fun ty => Lib.run_next_any_at wr w.heap.size hexS pos ty hit (by rw [hsz]; exact hp)
        have hit2 := Lib.iterAt_heap wr w.heap.size hexS pos (pos + (Utf8.decode hexS pos).2) hit
        have hbw2 := Lib.below_iterAt hbw (k := w.heap.size) (by omega) hexS (pos + (Utf8.decode hexS pos).2)
        rw [hd] at hnx hit2 hbw2
        obtain ⟨m, hm⟩ : ∃ m, (hexS.data.toList.getD pos 0).toNat = m := ⟨_, rfl⟩
        simp only [hm] at hnx hit2 hbw2
        have hm128 : m < 128 := by rw [← hm]; exact hexS_ascii pos hp
        have hb : ((m : Int) == 65533) = false := by simp; omega
        clear hm hd
        go_wp2_with fail
        go_roundw
        case rel => exact ⟨pos + 1, by omega, hit2, hbw2⟩
        case measure =>
          rw [iter_pos hit2, iter_pos hit]
          omega
      · have hnx : ∀ ty, (Instr.next (.pointer (some ⟨w.heap.size, 0, none⟩)) true ty).run Tryd.prog wr = _ := fun ty => Lib.run_next_end_at wr w.heap.size hexS pos ty hit (by rw [hsz]; omega)
        go_wp2_with fail
        go_ret
        exact ⟨rfl, hbw⟩
  have hb1 : ((r : Int) == 65533) = false := by simp; omega
  by_cases hv : Lib.validRune (r : Int) = true
  · obtain ⟨T, hT⟩ : ∃ T, Utf8.encode (r : Int) = T := ⟨_, rfl⟩
    have hconv : ∀ w, (convert 21 9 (.int .i32 (r : Int))).run Tryd.prog w = .ok (.string T) w := fun w => by
      rw [run_convert_int_string (P := Tryd.prog) w 21 9 .i32 _ (by rw [Tryd.underlying21]; rfl) Tryd.underlying9, hT]
    obtain ⟨g1, g2, g3⟩ := encode_facts (r : Int) (by simp [Lib.validRune] at hv; simp [Utf8.valid]; omega) (by omega)
    rw [hT] at g1 g2 g3
    obtain ⟨z, hz⟩ : ∃ z : UInt8, T[T.size - 1]'(by omega) = z := ⟨_, rfl⟩
    have hz128 : 128 ≤ z.toNat := by rw [← hz]; exact g3 (by omega)
    have HV := Lib.hid hv
    clear hT hv g3
    have hx : ∀ k : Nat, k < 22 → ∀ w, (Instr.index 9 (.string hexS) (.int .i64 (k : Int))).run Tryd.prog w = .ok (.int .u8 (hexS.data.toList.getD k 0).toNat) w := by
      intro k hk w
      have hr := run_index_string (P := Tryd.prog) w 9 hexS .i64 (k : Int) Tryd.underlying9
      rw [dif_pos ⟨by omega, by rw [hsz]; omega⟩] at hr
      rw [hr]
      simp only [Int.toNat_natCast]
      rw [List.getD_eq_getElem?_getD, List.getElem?_eq_getElem (by exact hk)]
      rfl
    have hz1 : ∀ w, (Instr.index 9 (.string T) (.int .i64 ((T.size : Int) - 1))).run Tryd.prog w = .ok (.int .u8 z.toNat) w := by
      intro w
      have hr := run_index_string (P := Tryd.prog) w 9 T .i64 ((T.size : Int) - 1) Tryd.underlying9
      rw [dif_pos ⟨by omega, by omega⟩] at hr
      rw [hr, ← hz]
      simp only [show ((T.size : Int) - 1).toNat = T.size - 1 by omega]
    have hnone : Lib.indexByte (hexS.data.toList.drop (T.size)) z = -1 := by
      refine indexByte_none _ _ fun x hxm e => ?_
      have h3 : ∀ y ∈ hexS.data.toList, y.toNat < 128 := by decide
      have := h3 x (List.mem_of_mem_drop hxm)
      rw [e] at this; omega
    obtain ⟨q, hq⟩ : ∃ q, hexS.data.toList.getD (T.size - 1) 0 = q := ⟨_, rfl⟩
    have hq128 : q.toNat < 128 := by rw [← hq]; exact hexS_ascii _ (by omega)
    have hx1 : ∀ w, (Instr.index 9 (.string hexS) (.int .i64 ((T.size : Int) - 1))).run Tryd.prog w = .ok (.int .u8 q.toNat) w := by
      intro w; rw [← hq, show ((T.size : Int) - 1) = ((T.size - 1 : Nat) : Int) by omega]; exact hx _ (by omega) w
    have hne : ((q.toNat : Int) != (z.toNat : Int)) = true := by simp; omega
    have HN := Lib.hid hnone
    clear hz hq hx hnone
    go_enter Tryd.func86, Tryd.ntmps86
    go_wp2_with fail
    refine (Tryd.utf8_ValidRune _ _).mono ?_
    rintro e w1 ⟨rfl, rfl⟩
    rw [HV.out]
    go_wp2_with fail
    go_step3
    go_wp2_with fail
    refine wp_loop_rounds 1 ?_
    rw [rounds_succ]
    go_wp2_with fail
    go_step3
    go_wp2_with fail
    go_quiet (fail)
    go_wp2_with fail
    obtain ⟨R, hR, hRs, hsl⟩ := slice_from hexS T.size (by omega)
    have hw1 : IntKind.i64.wrap (T.size : Int) = (T.size : Int) := IntWalk.i64_in _ (by omega)
    have hres : Lib.indexByte R.data.toList z = -1 := by rw [hR]; exact HN.out
    have HR := Lib.hid hres
    clear hR hres
    have hb2 : Below w1.heap.size w1 (w1.drewN nq) := bdrewN (Below.refl _ _) nq
    generalize w1.drewN nq = w2 at hb2 ⊢
    go_quiet ((go_at_call 39; exact Calls.quiet_of_same (indexByte_u8 R z _)))
    have hb3 : Below w1.heap.size w1 (w2.drewN nq) := bdrewN hb2 nq
    generalize w2.drewN nq = w3 at hb3 ⊢
    rw [HR.out]
    go_wp2_with fail
    repeat (first | rw [ret_inBlock] | rw [ret_then] | rw [Exit.noGoto_ret])
    go_ret
    exact ⟨rfl, hb3⟩
  · rw [Bool.not_eq_true] at hv
    have HV := Lib.hid hv
    clear hv
    go_enter Tryd.func86, Tryd.ntmps86
    go_wp2_with fail
    refine (Tryd.utf8_ValidRune _ _).mono ?_
    rintro e w1 ⟨rfl, rfl⟩
    rw [HV.out]
    go_wp2_with fail
    go_ret
    exact ⟨rfl, Below.refl _ _⟩

end Go.Proofs.YtangbkiheoekaaaDoor
