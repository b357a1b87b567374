/- The reference's reader: its memory; skip, fail, sign, text, put. -/
import Derived.Test.YtndkbecdjaedaaaGreatDoorJsRd
import Derived.Test.YtndkbecdjaedaaaGreatDoorJtRefU
import Derived.BigQuiet
import Derived.Deep.QuietTactic
import Derived.StillTailTactics
namespace Go.Proofs.YtndkbecdjaedaaaGreatDoor
open Go.RowKit

/-- The reader at a block: all the text, where one is, the row so far and where it lies, the error. -/
structure Rq (b : Nat) (T : List UInt8) (k : Nat) (vs : List V) (v : Value) (e : Int) (w : World) : Prop where
  blk : w.heap[b]? = some (.cells #[.string ⟨T.toArray⟩, .int .i64 (k : Int), v, .int .i64 e] 89 (0, 0))
  own : w.ownsRow (b + 1) 56 4 v vs.length (vcells vs)

section
variable {b k k' : Nat} {T : List UInt8} {vs vs' : List V} {v v' : Value} {e e' : Int} {w w' : World} {S : List Nat}
theorem Rq.lt (h : Rq b T k vs v e w) : b < w.heap.size := lt_of_block h.blk
theorem Rq.ne (h : Rq b T k vs v e w) : ∀ q, v.ownBlock = some q → b < q ∧ q < w.heap.size := fun q hq => by
  have := h.own.lt q hq
  omega
theorem Rq.c0 (h : Rq b T k vs v e w) : w.cell? ⟨b, 0, none⟩ = some (.string ⟨T.toArray⟩) := by rw [cell_of_row w b 0 _ _ _ h.blk]; rfl
theorem Rq.c1 (h : Rq b T k vs v e w) : w.cell? ⟨b, 1, none⟩ = some (.int .i64 (k : Int)) := by rw [cell_of_row w b 1 _ _ _ h.blk]; rfl
theorem Rq.c2 (h : Rq b T k vs v e w) : w.cell? ⟨b, 2, none⟩ = some v := by rw [cell_of_row w b 2 _ _ _ h.blk]; rfl
theorem Rq.c3 (h : Rq b T k vs v e w) : w.cell? ⟨b, 3, none⟩ = some (.int .i64 e) := by rw [cell_of_row w b 3 _ _ _ h.blk]; rfl
theorem Rq.free (h : Rq b T k vs v e w) (j : Nat) : w.frozen? ⟨b, j, none⟩ = false := frozen_of_row w b j _ _ h.blk
theorem Rq.kept (h : Rq b T k vs v e w) (hk : Kp S w w') (hb : b ∉ S) (hv : ∀ q, v.ownBlock = some q → q ∉ S) : Rq b T k vs v e w' :=
  ⟨by rw [hk.block b h.lt hb]; exact h.blk, own_kept h.own hk hv⟩
theorem Rq.fresh (h : Rq b T k vs v e w) (hk : Below w.heap.size w w') : Rq b T k vs v e w' := h.kept (Kp.of_below (S := []) hk) (by simp) (fun _ _ => by simp)
theorem Rq.drew (h : Rq b T k vs v e w) : Rq b T k vs v e w.drew := ⟨h.blk, h.own.drew⟩
theorem Rq.drewN (h : Rq b T k vs v e w) (q : Nat) : Rq b T k vs v e (w.drewN q) := ⟨h.blk, h.own⟩
theorem Rq.putAt (h : Rq b T k vs v e w) (k' : Nat) {z : Int} (hz : z = (k' : Int)) : Rq b T k' vs v e (w.setCell ⟨b, 1, none⟩ (.int .i64 z)) := by
  subst hz
  exact ⟨heap_setCell_same w b 1 _ _ _ h.blk, ownsRow_setCell_other h.own (fun hk => by have := (h.ne b hk).1; omega) _⟩
theorem Rq.putRow (h : Rq b T k vs v e w) (ho : w.ownsRow (b + 1) 56 4 v' vs'.length (vcells vs')) : Rq b T k vs' v' e (w.setCell ⟨b, 2, none⟩ v') :=
  ⟨heap_setCell_same w b 2 _ _ _ h.blk, ownsRow_setCell_other ho (fun hk => by have := (ho.lt b hk).1; omega) _⟩
theorem Rq.putE (h : Rq b T k vs v e w) (e' : Int) : Rq b T k vs v e' (w.setCell ⟨b, 3, none⟩ (.int .i64 e')) :=
  ⟨heap_setCell_same w b 3 _ _ _ h.blk, ownsRow_setCell_other h.own (fun hk => by have := (h.ne b hk).1; omega) _⟩
theorem Kp.drewN (h : Kp S w w') (q : Nat) : Kp S w (w'.drewN q) := ⟨h.os, h.tape, h.output, h.size, h.block⟩
theorem Kp.put (h : Kp [b] w w') (j : Nat) (u : Value) : Kp [b] w (w'.setCell ⟨b, j, none⟩ u) := h.setCell (p := ⟨b, j, none⟩) (.inl (by simp)) u
end

/-- Where one is, behind blanks. -/
def skipAt (T : List UInt8) (k : Nat) : Nat := T.length - (skip (T.drop k)).length
theorem drop_skip (T : List UInt8) (k : Nat) : T.drop (skipAt T k) = skip (T.drop k) ∧ k ≤ T.length → k ≤ skipAt T k ∧ skipAt T k ≤ T.length := by
  intro ⟨_, hk⟩
  have := skip_len (T.drop k)
  rw [List.length_drop] at this
  unfold skipAt
  omega
theorem skip_suffix (l : List UInt8) : l.drop (l.length - (skip l).length) = skip l := by
  induction l with
  | nil => rfl
  | cons c t ih =>
    unfold skip at ih ⊢
    rw [List.dropWhile_cons]
    have hl := skip_len t
    unfold skip at hl
    split
    · rw [List.length_cons, show t.length + 1 - (List.dropWhile blank t).length = (t.length - (List.dropWhile blank t).length) + 1 by omega, List.drop_succ_cons]
      exact ih
    · simp
theorem skipAt_drop (T : List UInt8) (k : Nat) (hk : k ≤ T.length) : T.drop (skipAt T k) = skip (T.drop k) ∧ k ≤ skipAt T k ∧ skipAt T k ≤ T.length := by
  have hl := skip_len (T.drop k)
  have hs := skip_suffix (T.drop k)
  rw [List.length_drop] at hl hs
  rw [List.drop_drop] at hs
  refine ⟨?_, by unfold skipAt; omega, by unfold skipAt; omega⟩
  rw [← hs]
  congr 1
  unfold skipAt
  omega
theorem skipAt_end (T : List UInt8) (k : Nat) (hk : k ≤ T.length) (h : skip (T.drop k) = T.drop k) : skipAt T k = k := by
  unfold skipAt
  rw [h, List.length_drop]
  omega
theorem skipAt_next (T : List UInt8) (k : Nat) (hk : k < T.length) (h : blank T[k] = true) : skipAt T k = skipAt T (k + 1) := by
  unfold skipAt
  rw [List.drop_eq_getElem_cons hk]
  congr 2
  unfold skip
  rw [List.dropWhile_cons, if_pos h]
theorem idx_run (T : List UInt8) (j : Nat) (hj : j < T.length) : ∀ w, (Instr.index 9 (.string ⟨T.toArray⟩) (.int .i64 (j : Int))).run Tryz.prog w = .ok (.int .u8 ((T[j].toNat : Nat) : Int)) w := by
  intro w
  have hs : (⟨T.toArray⟩ : ByteArray).size = T.length := by simp [ByteArray.size]
  have hr := run_index_string (P := Tryz.prog) w 9 ⟨T.toArray⟩ .i64 (j : Int) Tryz.underlying9
  rw [hr, dif_pos ⟨by omega, by rw [hs]; omega⟩]
  rfl
theorem u8_int {c d : UInt8} (h : ((c.toNat : Nat) : Int) = ((d.toNat : Nat) : Int)) : c = d := UInt8.toNat_inj.1 (by omega)
/-- The number in the reader's second cell. -/
def atOf (b : Nat) (w : World) : Nat := match w.cell? ⟨b, 1, none⟩ with
  | some (.int _ z) => z.toNat
  | _ => 0
theorem Rq.at {b k : Nat} {T : List UInt8} {vs : List V} {v : Value} {e : Int} {w : World} (h : Rq b T k vs v e w) : atOf b w = k := by
  unfold atOf
  rw [h.c1]
  simp

def SkRel (b : Nat) (T : List UInt8) (k : Nat) (vs : List V) (v : Value) (e : Int) (w wr : World) : Prop := ∃ j, j ≤ T.length ∧ skipAt T j = skipAt T k ∧ Rq b T j vs v e wr ∧ Kp [b] w wr

set_option maxHeartbeats 8000000 in
set_option maxRecDepth 1000000 in
theorem qskip_calls (b : Nat) (T : List UInt8) (k : Nat) (vs : List V) (v : Value) (e : Int) (w : World) (h : Rq b T k vs v e w) (hk : k ≤ T.length) (hT : T.length ≤ 1099511627776) :
    Calls Tryz.prog 63 #[.pointer (some ⟨b, 0, none⟩)] w fun x w' => x = .returned (.tuple #[]) ∧ Rq b T (skipAt T k) vs v e w' ∧ Kp [b] w w' := by
  have H0 : SkRel b T k vs v e w w := ⟨k, hk, rfl, h, Kp.refl _ _⟩
  have HZ := Lib.hid H0
  have hTs : (⟨T.toArray⟩ : ByteArray).size = T.length := by simp [ByteArray.size]
  clear h H0
  go_enter Tryz.func63, Tryz.ntmps63
  go_wp2_with fail
  go_loopw [] (fun wr => SkRel b T k vs v e w wr) (fun wr => T.length - atOf b wr)
  case atStart => exact HZ.out
  case round =>
    obtain ⟨j, hj, hjs, hR, hK⟩ := hrel
    have c0 := hR.c0
    have c1 := hR.c1
    have f1 := hR.free 1
    have HR := Lib.hid hR
    have HK := Lib.hid hK
    have hat := hR.at
    clear hR hK
    by_cases hjl : j < T.length
    · have hi0 : (0 : Int) ≤ (j : Int) := by omega
      have hi1 : (j : Int) < (T.length : Int) := by omega
      have hix := idx_run T j hjl
      have hnx := skipAt_next T j hjl
      have hen : blank T[j] = false → skipAt T j = j := fun hb => by
        refine skipAt_end T j (by omega) ?_
        rw [List.drop_eq_getElem_cons hjl]
        exact skip_stay hb _
      obtain ⟨c, hc⟩ : ∃ c, T[j] = c := ⟨_, rfl⟩
      rw [hc] at hix hnx hen
      clear hc
      by_cases hb : blank c = true
      · have hs1 : skipAt T (j + 1) = skipAt T k := by rw [← hnx hb]; exact hjs
        have HS := Lib.hid hs1
        have hcs : c = 32 ∨ c = 9 ∨ c = 10 ∨ c = 13 := by
          unfold blank at hb
          simpa [or_assoc] using hb
        clear hnx hen hb hs1 hjs
        rcases hcs with rfl | rfl | rfl | rfl
        all_goals
          go_wp2_with fail
          go_quiet (fail)
          have HRq := Lib.hid (HR.out.drewN nq)
          have HKq := Lib.hid (HK.out.drewN nq)
          have c1q := HRq.out.c1
          have f1q := HRq.out.free 1
          clear c0 c1 f1 hix HR HK
          generalize wr.drewN nq = wq at *
          go_wp2_with fail
          go_roundw
          case rel => exact ⟨j + 1, by omega, HS.out, HRq.out.putAt (j + 1) (by go_num), HKq.out.put 1 _⟩
          case measure =>
            rw [hat, (HRq.out.putAt (j + 1) (by go_num)).at]
            omega
      · have hb' : blank c = false := by simpa using hb
        have hfin : j = skipAt T k := by rw [← hjs, hen hb']
        have HF := Lib.hid hfin
        have hne : ¬ (c = 32 ∨ c = 9 ∨ c = 10 ∨ c = 13) := fun h => hb (by rcases h with rfl | rfl | rfl | rfl <;> rfl)
        have n1 : (((c.toNat : Nat) : Int) == 32) = false := by simp; intro h; exact hne (.inl (u8_int h))
        have n2 : (((c.toNat : Nat) : Int) == 9) = false := by simp; intro h; exact hne (.inr (.inl (u8_int h)))
        have n3 : (((c.toNat : Nat) : Int) == 10) = false := by simp; intro h; exact hne (.inr (.inr (.inl (u8_int h))))
        have n4 : (((c.toNat : Nat) : Int) == 13) = false := by simp; intro h; exact hne (.inr (.inr (.inr (u8_int h))))
        clear hnx hen hb hb' hne hfin hjs
        go_wp2_with fail
        go_quiet (fail)
        have HRq := Lib.hid (HR.out.drewN nq)
        have HKq := Lib.hid (HK.out.drewN nq)
        clear c0 c1 f1 hix HR HK n1 n2 n3 n4
        generalize wr.drewN nq = wq at *
        go_wp2_with fail
        go_end0
        exact ⟨rfl, by rw [← HF.out]; exact HRq.out, HKq.out⟩
    · have hje : j = T.length := by omega
      have hfin : j = skipAt T k := by
        rw [← hjs]
        exact (skipAt_end T j hj (by rw [hje, List.drop_length]; rfl)).symm
      have HF := Lib.hid hfin
      have hi1 : decide ((j : Int) < (T.length : Int)) = false := decide_eq_false (by omega)
      clear hfin hjs
      go_wp2_with fail
      go_quiet (fail)
      have HRq := Lib.hid (HR.out.drewN nq)
      have HKq := Lib.hid (HK.out.drewN nq)
      clear c0 c1 f1 HR HK
      generalize wr.drewN nq = wq at *
      go_wp2_with fail
      go_end0
      exact ⟨rfl, by rw [← HF.out]; exact HRq.out, HKq.out⟩

set_option maxHeartbeats 2000000 in
set_option maxRecDepth 100000 in
theorem qfail_calls (b : Nat) (T : List UInt8) (k : Nat) (vs : List V) (v : Value) (e c : Int) (w : World) (h : Rq b T k vs v e w) :
    Calls Tryz.prog 113 #[.pointer (some ⟨b, 0, none⟩), .int .i64 c] w fun x w' => x = .returned (.bool false) ∧ Rq b T k vs v c w' ∧ Kp [b] w w' := by
  have c3 := h.c3
  have f3 := h.free 3
  have H := Lib.hid h
  clear h
  go_enter Tryz.func113, Tryz.ntmps113
  go_wp2_with fail
  go_ret
  exact ⟨rfl, H.out.putE c, (Kp.refl _ _).put 3 _⟩
end Go.Proofs.YtndkbecdjaedaaaGreatDoor
