/- The printer's memory: a Builder embedded, and what is still to print. -/
import Derived.Test.YtndkbecdjaedaaaGreatDoorJsVs
import Derived.Test.YtndkbecdjaedaaaGreatDoorJtBuilder
import Derived.Test.YtndkbecdjaedaaaGreatDoorJsRt
import Derived.Test.YtndkbecdjaedaaaGreatDoorJsPlain2
namespace Go.Proofs.YtndkbecdjaedaaaGreatDoor
open Go.RowKit

/-- The printer at a block: what was written, and where it lies; what is to come. -/
structure Pr (b : Nat) (bs : List UInt8) (v rest : Value) (w : World) : Prop where
  blk : ∃ p : Option Addr, (p = none ∨ p = some ⟨b, 0, none⟩) ∧ w.heap[b]? = some (.cells #[.pointer p, v, rest] 77 (0, 0))
  own : w.ownsRow (b + 1) 5 1 v bs.length (Lib.byteCells bs)

/-- What printing leaves as it was: all below the printer; above it all but rows of bytes. -/
structure Kq (b : Nat) (w w' : World) : Prop where
  below : Below b w w'
  others : Lib.OthersKept 5 (some b) w w'
theorem Kq.refl (b : Nat) (w : World) : Kq b w w := ⟨Below.refl _ _, Lib.OthersKept.refl _ _ _⟩
theorem Kq.trans {b : Nat} {w w1 w2 : World} (h : Kq b w w1) (k : Kq b w1 w2) : Kq b w w2 := ⟨h.below.trans k.below, h.others.trans k.others⟩
theorem Kq.of_below {b : Nat} {w w' : World} (h : Below w.heap.size w w') (hb : b ≤ w.heap.size) : Kq b w w' :=
  ⟨h.mono hb, fun k _ hk _ _ => (h.block k (lt_of_block hk)).trans hk⟩
theorem ownsRow_kind {w : World} {B : Nat} {e : TypeId} {v : Value} {n : Nat} {xs : List Value} (h : w.ownsRow B e 1 v n xs) : ∀ g, v.ownBlock = some g → ∃ c fz, w.heap[g]? = some (.cells c e fz) := by
  intro g hg
  rcases h.2 with ⟨rfl, _⟩ | ⟨g', cap, cur, rfl, _, hgg, _⟩
  · simp [Value.ownBlock] at hg
  · have : g' = g := by simpa [Value.ownBlock] using hg
    subst this
    exact ⟨_, _, hgg⟩

theorem sizePrinter : (Tryz.prog.info? 77).map (·.size) = some 3 := by kernel_rfl
theorem liesPrinter : liesAt Tryz.prog Tryz.prog.depth 77 (3 / Tryz.prog.cellsOf 77) 0 75 1 = true := by kernel_rfl

set_option maxHeartbeats 1000000 in
set_option maxRecDepth 100000 in
theorem copyCheck_printer (b : Nat) (v rest : Value) (w : World) (h : w.heap[b]? = some (.cells #[.pointer none, v, rest] 77 (0, 0))) :
    Calls Tryz.prog 142 #[.pointer (some ⟨b, 0, none⟩)] w fun e w' => e = .returned (.tuple #[]) ∧ w' = w.setCell ⟨b, 0, none⟩ (.pointer (some ⟨b, 0, none⟩)) := by
  have h0 : w.cell? ⟨b, 0, none⟩ = some (.pointer none) := by rw [cell_of_row w b 0 _ _ _ h]; rfl
  have hsh : w.shape? b = some (77, 3) := by simp [World.shape?, h]
  have hfz := frozen_of_row w b 0 _ _ h
  obtain ⟨j, hj, hjs⟩ := Option.map_eq_some_iff.1 sizeBuilder
  have u34 := run_underlying Tryz.underlying73
  have u69 := run_underlying Tryz.underlying190
  go_enter Tryz.func142, Tryz.ntmps142
  go_wp2
  rw [Lib.run_to_unsafe w ⟨b, 0, none⟩ Tryz.underlying73 Tryz.underlying190 hj (by rw [hjs]; decide) hsh (show (0 : Nat) < 3 by omega)]
  simp only [Result.andThen]
  rw [Oper.upon_value]
  go_wp2
  rw [run_callFunc_extern Tryz.func169 (by kernel_rfl) (by kernel_rfl) (by kernel_rfl) (e := Extern.AbiNoEscape.same) (by kernel_rfl)]
  rw [Lib.run_noEscape]
  simp only [Result.andThen]
  rw [Oper.upon_value]
  go_wp2
  rw [Lib.run_from_unsafe w ⟨b, 0, none⟩ Tryz.underlying190 Tryz.underlying73 hj hsh liesPrinter]
  simp only [Result.andThen]
  rw [Oper.upon_value]
  go_wp2
  go_end0
  exact ⟨rfl, rfl⟩

theorem Pr.lt {b : Nat} {bs : List UInt8} {v rest : Value} {w : World} (h : Pr b bs v rest w) : b < w.heap.size := by
  obtain ⟨p, _, hb⟩ := h.blk
  exact lt_of_block hb
theorem Pr.ne {b : Nat} {bs : List UInt8} {v rest : Value} {w : World} (h : Pr b bs v rest w) : ∀ k, v.ownBlock = some k → b < k ∧ k < w.heap.size := fun k hk => by
  have := h.own.lt k hk
  omega
theorem Pr.kept {b : Nat} {bs : List UInt8} {v rest : Value} {S : List Nat} {w w' : World} (h : Pr b bs v rest w) (hk : Kp S w w') (hb : b ∉ S) (hv : ∀ k, v.ownBlock = some k → k ∉ S) : Pr b bs v rest w' := by
  obtain ⟨p, hp, hbk⟩ := h.blk
  exact ⟨⟨p, hp, by rw [hk.block b h.lt hb]; exact hbk⟩, own_kept h.own hk hv⟩
theorem Pr.c2 {b : Nat} {bs : List UInt8} {v rest : Value} {w : World} (h : Pr b bs v rest w) : w.cell? ⟨b, 2, none⟩ = some rest ∧ w.frozen? ⟨b, 2, none⟩ = false := by
  obtain ⟨p, _, hbk⟩ := h.blk
  exact ⟨by rw [cell_of_row w b 2 _ _ _ hbk]; rfl, frozen_of_row w b 2 _ _ hbk⟩
theorem Pr.put2 {b : Nat} {bs : List UInt8} {v rest : Value} {w : World} (h : Pr b bs v rest w) (rest' : Value) : Pr b bs v rest' (w.setCell ⟨b, 2, none⟩ rest') := by
  obtain ⟨p, hp, hbk⟩ := h.blk
  exact ⟨⟨p, hp, heap_setCell_same w b 2 _ _ _ hbk⟩, ownsRow_setCell_other h.own (fun hk => by have := (h.ne b hk).1; omega) _⟩

theorem copyCheck_pr (b : Nat) (bs : List UInt8) (v rest : Value) (w : World) (h : Pr b bs v rest w) :
    Calls Tryz.prog 142 #[.pointer (some ⟨b, 0, none⟩)] w fun e w' => e = .returned (.tuple #[]) ∧ w'.heap[b]? = some (.cells #[.pointer (some ⟨b, 0, none⟩), v, rest] 77 (0, 0)) ∧ w'.ownsRow (b + 1) 5 1 v bs.length (Lib.byteCells bs) ∧ Kq b w w' := by
  obtain ⟨p, hp, hbk⟩ := h.blk
  rcases hp with rfl | rfl
  · refine (copyCheck_printer b v rest w hbk).mono ?_
    rintro e w' ⟨rfl, rfl⟩
    exact ⟨rfl, heap_setCell_same w b 0 _ _ _ hbk, ownsRow_setCell_other h.own (fun hk => by have := (h.ne b hk).1; omega) _, ⟨(Below.refl _ _).setCell (p := ⟨b, 0, none⟩) (Nat.le_refl _) _, (Lib.OthersKept.refl _ _ _).setCell ⟨b, 0, none⟩ rfl _⟩⟩
  · refine (copyCheck_used b w (by rw [cell_of_row w b 0 _ _ _ hbk]; rfl)).mono ?_
    rintro e w' ⟨rfl, rfl⟩
    exact ⟨rfl, hbk, h.own, Kq.refl _ _⟩

set_option maxHeartbeats 2000000 in
set_option maxRecDepth 100000 in
theorem pr_write (b : Nat) (bs : List UInt8) (v rest : Value) (s : ByteArray) (w : World) (h : Pr b bs v rest w) (hlen : bs.length + s.size ≤ 140737488355328) :
    Calls Tryz.prog 92 #[.pointer (some ⟨b, 0, none⟩), .string s] w fun e w' => e = .returned (.tuple #[.int .i64 s.size, .nilIface]) ∧ ∃ v', Pr b (bs ++ s.data.toList) v' rest w' ∧ Kq b w w' := by
  obtain ⟨i0, hi, hz0, hz1, hz2⟩ := info_parts infoByte
  have hlb : (Lib.byteCells bs).length = bs.length := Lib.byteCells_length bs
  have HL := Lib.hid hlb
  have hne := h.ne
  have HNE := Lib.hid hne
  clear hlb hne
  go_enter Tryz.func92, Tryz.ntmps92
  go_wp2_with (go_at_call 142; refine (copyCheck_pr b bs v rest _ h).mono ?_)
  rintro e w1 ⟨rfl, hbk, hown, hk1⟩
  have hlt : b < w1.heap.size := lt_of_block hbk
  have c1 : w1.cell? ⟨b, 1, none⟩ = some v := by rw [cell_of_row w1 b 1 _ _ _ hbk]; rfl
  go_wp2_with (at_builtin; refine Lib.wpList_append_own_string _ rfl _ _ 22 9 rfl (b + 1) 5 i0 Tryz.underlying22 Tryz.underlying9 hi hz0 hz1 hz2 _ _ _ rfl hown s rfl ?c3 ?c4 ?c5 ?_)
  case c3 => unfold maxLen; omega
  case c4 => omega
  case c5 => omega
  intro v' w2 hown' hgrow _
  have hb2 : w2.heap[b]? = some (.cells #[.pointer (some ⟨b, 0, none⟩), v, rest] 77 (0, 0)) := by
    rw [hgrow.block b hlt (fun e => by have := (HNE.out b e.symm).1; omega)]
    exact hbk
  have d0 : w2.cell? ⟨b, 0, none⟩ = some (.pointer (some ⟨b, 0, none⟩)) := by rw [cell_of_row w2 b 0 _ _ _ hb2]; rfl
  have d1 : w2.cell? ⟨b, 1, none⟩ = some v := by rw [cell_of_row w2 b 1 _ _ _ hb2]; rfl
  have f1 : w2.frozen? ⟨b, 1, none⟩ = false := frozen_of_row w2 b 1 _ _ hb2
  obtain ⟨ao, n', cap, rfl⟩ : ∃ ao n' cap, v' = .slice ao n' cap := by
    rcases hown'.2 with ⟨hv, _⟩ | ⟨g, cap, cur, hv, _⟩
    · exact ⟨_, _, _, hv⟩
    · exact ⟨_, _, _, hv⟩
  have HO := Lib.hid hown'
  have HB2 := Lib.hid hb2
  have HG := Lib.hid hgrow
  have HK1 := Lib.hid hk1
  have HOK := Lib.hid hown
  clear hown' hb2 hgrow hk1 hown hbk
  go_wp2
  go_ret2
  refine ⟨rfl, _, ⟨⟨_, .inr rfl, heap_setCell_same w2 b 1 _ _ _ HB2.out⟩, ?_⟩, ?_⟩
  · rw [List.length_append, Lib.byteCells_append, ← strCells_eq, show s.data.toList.length = s.size from by simp]
    exact ownsRow_setCell_other HO.out (fun hk => by have := (HO.out.lt b hk).1; omega) _
  · exact ⟨(HK1.out.below.grown HG.out (by omega) (fun k hk => by have := (HNE.out k hk).1; omega)).setCell (p := ⟨b, 1, none⟩) (Nat.le_refl _) _, (HK1.out.others.grown HG.out (ownsRow_kind HOK.out)).setCell ⟨b, 1, none⟩ rfl _⟩

set_option maxHeartbeats 2000000 in
set_option maxRecDepth 100000 in
/-- The printer's text. -/
theorem pr_string (b : Nat) (l : List UInt8) (v rest : Value) (w : World) (h : Pr b l v rest w) (h0 : l ≠ []) :
    Calls Tryz.prog 57 #[.pointer (some ⟨b, 0, none⟩)] w fun e w' => e = .returned (.string ⟨l.toArray⟩) ∧ Below b w w' := by
  obtain ⟨p, hp, hbk⟩ := h.blk
  have hown := h.own
  have hl0 : l.length ≠ 0 := by simpa using h0
  obtain ⟨g, cap, cur, rfl, hbg, hg, hnc, hcm, hcs, htake⟩ : ∃ g cap cur, v = .slice (some ⟨g, 0, none⟩) l.length cap ∧ b + 1 ≤ g ∧ w.heap[g]? = some (.cells cur 5 (0, 0)) ∧ l.length ≤ cap ∧ cap ≤ maxLen ∧ cur.size = cap * 1 ∧ cur.toList.take (l.length * 1) = Lib.byteCells l := by
    rcases hown.2 with ⟨_, hz⟩ | ⟨g, cap, cur, hv, r⟩
    · exact absurd hz hl0
    · exact ⟨g, cap, cur, hv, r⟩
  have c1 : w.drew.cell? ⟨b, 1, none⟩ = some (.slice (some ⟨g, 0, none⟩) l.length cap) := by
    rw [cell_of_row w.drew b 1 _ _ _ hbk]; rfl
  have hSD : (Builtin.unsafeSliceData_ #[22] 141 #[.slice (some ⟨g, 0, none⟩) l.length cap]).run Tryz.prog w.drew = .ok (.pointer (some ⟨g, 0, none⟩)) w.drew :=
    Lib.run_unsafeSliceData_row _ _ _ _ _ _ (by omega)
  have hUS : (Builtin.unsafeString_ #[141, 3] 9 #[.pointer (some ⟨g, 0, none⟩), .int .i64 l.length]).run Tryz.prog w.drew = .ok (.string ⟨l.toArray⟩) (w.drew.freeze ⟨g, 0, none⟩ l.length) := by
    refine Lib.run_unsafeString_row w.drew 141 3 9 5 Tryz.underlying141 (by kernel_rfl) g cur.size (by have hg' : w.drew.heap[g]? = some (.cells cur 5 (0, 0)) := hg; simp [World.shape?, hg']) l h0 (by omega) (by unfold maxLen at hcm; omega) ?_
    intro j x hx
    have := hown.cells (g := g) rfl j (.int .u8 x.toNat) (by simp [Lib.byteCells, hx])
    exact this
  go_enter Tryz.func57, Tryz.ntmps57
  go_wp2
  go_region
  all_goals (go_wp2; go_ret; exact ⟨rfl, Lib.below_freeze (Below.drew (Below.refl b w)) (p := ⟨g, 0, none⟩) (by show b ≤ g; omega) _⟩)
end Go.Proofs.YtndkbecdjaedaaaGreatDoor
/- printer.value and printer.many: the statements; printer.many. -/
namespace Go.Proofs.YtndkbecdjaedaaaGreatDoor
open Go.RowKit

/-- A row in memory below a block. -/
def Vl (b : Nat) (w : World) (v : Value) (l : List V) : Prop :=
  (l = [] ∧ ∃ a c, v = .slice a 0 c) ∨ ∃ bk off cap, v = .slice (some ⟨bk, off, none⟩) l.length cap ∧ l.length ≤ cap ∧ bk < b ∧ ∀ i (hi : i < l.length) j, j < 4 → w.cell? ⟨bk, off + i * 4 + j, none⟩ = (vcell l[i])[j]?
theorem Vl.kept {b : Nat} {w w' : World} {v : Value} {l : List V} (h : Vl b w v l) (hb : Below b w w') : Vl b w' v l := by
  rcases h with h | ⟨bk, off, cap, hv, hcp, hl, hc⟩
  · exact .inl h
  · exact .inr ⟨bk, off, cap, hv, hcp, hl, fun i hi j hj => (hb.cell (p := ⟨bk, off + i * 4 + j, none⟩) hl).trans (hc i hi j hj)⟩
theorem Vl.tail {b bk off cap : Nat} {w : World} {x : V} {t : List V} (h : Vl b w (.slice (some ⟨bk, off, none⟩) (t.length + 1) cap) (x :: t)) :
    Vl b w (.slice (if cap = 1 then some ⟨bk, off, none⟩ else some ⟨bk, off + 4, none⟩) t.length (cap - 1)) t := by
  rcases h with ⟨h, _⟩ | ⟨bk', off', cap', hv, hcp, hl, hc⟩
  · cases h
  · simp only [Value.slice.injEq, Option.some.injEq, Addr.mk.injEq, and_true] at hv
    obtain ⟨⟨rfl, rfl⟩, _, rfl⟩ := hv
    simp only [List.length_cons] at hcp
    by_cases h1 : cap = 1
    · rw [if_pos h1]
      have : t = [] := List.eq_nil_of_length_eq_zero (by omega)
      subst this
      exact .inl ⟨rfl, _, _, rfl⟩
    · rw [if_neg h1]
      refine .inr ⟨bk, off + 4, cap - 1, rfl, by omega, hl, fun i hi j hj => ?_⟩
      have := hc (i + 1) (by simpa using hi) j hj
      rw [show off + 4 + i * 4 + j = off + (i + 1) * 4 + j by omega, this]
      rfl

/-- A value's name, where it is a member. -/
def keyT (l : List V) (m : Bool) : List UInt8 := if m = true then quote (headKey l) ++ [58] else []

/-- What is printed is printed. -/
structure PrR (b : Nat) (bs : List UInt8) (r : List V) (w w' : World) : Prop where
  ex : ∃ v' rest', Pr b bs v' rest' w' ∧ Vl b w' rest' r
  kq : Kq b w w'
def VP (f : Nat) : Prop := ∀ (b : Nat) (bs : List UInt8) (v rest : Value) (l : List V) (deep : Nat) (m : Bool) (r : List V) (w w0 : World), rrow f l deep m = some r → Pr b bs v rest w → Vl b w rest l → Ev w0 b w → Fits l →
  bs.length + (keyT l m ++ (jrow f l).1).length ≤ 140737488355328 →
  Calls Tryz.prog 56 #[.pointer (some ⟨b, 0, none⟩), .bool m] w fun x w' => x = .returned (.tuple #[]) ∧ PrR b (bs ++ (keyT l m ++ (jrow f l).1)) r w w'
def MP (f : Nat) : Prop := ∀ (b : Nat) (bs : List UInt8) (v rest : Value) (k : Nat) (l : List V) (deep : Nat) (o : Bool) (names : List (List UInt8)) (r : List V) (B E : List UInt8) (w w0 : World), rkids f k l deep o names = some r → Pr b bs v rest w → Vl b w rest l → Ev w0 b w → Fits l →
  bs.length + (B ++ ((jmany f k l o).1 ++ E)).length ≤ 140737488355328 → k ≤ 9223372036854775807 →
  Calls Tryz.prog 98 #[.pointer (some ⟨b, 0, none⟩), .string ⟨B.toArray⟩, .string ⟨E.toArray⟩, .int .i64 (k : Int), .bool o] w fun x w' => x = .returned (.tuple #[]) ∧ PrR b (bs ++ (B ++ ((jmany f k l o).1 ++ E))) r w w'

theorem fits_tail {l r vs : List V} (h : Fits l) (e : l = vs ++ r) : Fits r := fun x hx => h x (by rw [e]; simp [hx])

set_option maxHeartbeats 8000000 in
set_option maxRecDepth 1000000 in
theorem many_step (F : Nat) (hV : ∀ g, g < F → VP g) : MP F := by
  intro b bs v rest k l deep o names r B E w w0 hr hP hL hE hF hlen hk
  obtain ⟨J, hJ⟩ : ∃ J, (jmany F k l o).1 = J := ⟨_, rfl⟩
  rw [hJ] at hlen ⊢
  have hBs : (⟨B.toArray⟩ : ByteArray).size = B.length := by simp [ByteArray.size]
  have hEs : (⟨E.toArray⟩ : ByteArray).size = E.length := by simp [ByteArray.size]
  have hlen2 : bs.length + B.length + J.length + E.length ≤ 140737488355328 := by simp only [List.length_append] at hlen; omega
  have hlow := hP.lt
  have HP := Lib.hid hP
  have HL := Lib.hid hL
  have HE := Lib.hid hE
  have HF := Lib.hid hF
  have HR := Lib.hid hr
  have HJ := Lib.hid hJ
  have HBS := Lib.hid hBs
  have HES := Lib.hid hEs
  clear hr hP hL hE hF hJ hlen hBs hEs
  go_enter Tryz.func98, Tryz.ntmps98
  go_wp2_with fail
  refine (pr_write b bs v rest ⟨B.toArray⟩ _ HP.out (by rw [HBS.out]; omega)).mono ?_
  rintro e1 w1 ⟨rfl, v1, h1, k1⟩
  have P1 := Lib.hid h1
  have K1 := Lib.hid k1
  have L1 := Lib.hid (HL.out.kept k1.below)
  clear h1 k1
  go_wp2_with fail
  go_loopw [17] (fun v17 wr => ∃ (i f : Nat) (acc : List UInt8) (l1 : List V) (names1 : List (List UInt8)) (v1 rest1 : Value), v17 = .int .i64 (i : Int) ∧ i ≤ k ∧ f + i = F ∧ Hid (Pr b (bs ++ B ++ acc) v1 rest1 wr) ∧ Hid (Vl b wr rest1 l1) ∧ Hid (Kq b w wr) ∧ Hid (Fits l1) ∧ Hid (rkids f (k - i) l1 deep o names1 = some r) ∧ Hid (J = acc ++ ((if i = 0 ∨ k - i = 0 then [] else [44]) ++ (jmany f (k - i) l1 o).1))) (fun v17 _ => k - (intOf v17).toNat)
  case atStart => exact ⟨0, F, [], l, names, v1, rest, rfl, by omega, by omega, Lib.hid (by rw [List.append_nil]; exact P1.out), L1, K1, HF, HR, Lib.hid (by rw [if_pos (.inl rfl)]; exact HJ.out.symm)⟩
  case round =>
    obtain ⟨i, f, acc, l1, names1, v1, rest1, rfl, hi, hfi, HP1, HL1, HK1, HF1, HR1, HJ1⟩ := hrel
    by_cases hik : i < k
    · obtain ⟨m, hm⟩ : ∃ m, k - i = m + 1 := ⟨k - i - 1, by omega⟩
      rw [hm] at HR1 HJ1
      have hr1 := HR1.out
      cases f with
      | zero => simp [rkids] at hr1
      | succ f =>
      cases l1 with
      | nil => simp [rkids] at hr1
      | cons x t =>
      simp only [rkids] at hr1
      by_cases hdup : (o && names1.contains x.key) = true
      · rw [if_pos hdup] at hr1; cases hr1
      rw [if_neg hdup] at hr1
      cases hrr : rrow f (x :: t) deep o with
      | none => rw [hrr] at hr1; cases hr1
      | some r1 =>
      rw [hrr] at hr1
      simp only [] at hr1
      obtain ⟨vsx, hvx, _, hj2, _⟩ := (both_back f).1 _ _ _ _ hrr
      have hJm : (jmany (f + 1) (m + 1) (x :: t) o).1 = keyT (x :: t) o ++ (jrow f (x :: t)).1 ++ (if m = 0 then [] else 44 :: (jmany f m r1 o).1) := by
        simp only [jmany]
        rw [hj2]
        rfl
      have hJx := HJ1.out
      rw [hJm] at hJx
      obtain ⟨KT, hKT⟩ : ∃ KT, keyT (x :: t) o ++ (jrow f (x :: t)).1 = KT := ⟨_, rfl⟩
      rw [hKT] at hJx
      have hJ2 : J = (acc ++ ((if i = 0 then [] else [44]) ++ KT)) ++ ((if i + 1 = 0 ∨ m = 0 then [] else [44]) ++ (jmany f m r1 o).1) := by
        rw [hJx]
        have e1 : (if i = 0 ∨ m + 1 = 0 then ([] : List UInt8) else [44]) = if i = 0 then [] else [44] := by
          by_cases h0 : i = 0
          · rw [if_pos (.inl h0), if_pos h0]
          · rw [if_neg (by omega), if_neg h0]
        have e2 : (if m = 0 then ([] : List UInt8) else 44 :: (jmany f m r1 o).1) = (if i + 1 = 0 ∨ m = 0 then [] else [44]) ++ (jmany f m r1 o).1 := by
          by_cases h0 : m = 0
          · subst h0
            rw [if_pos rfl, if_pos (.inr rfl), jmany_zero]; rfl
          · rw [if_neg h0, if_neg (by omega)]; rfl
        rw [e1, e2]
        simp only [List.append_assoc]
      have hJlen : (acc ++ ((if i = 0 then [] else [44]) ++ KT)).length ≤ J.length := by
        have h9 := congrArg List.length hJ2
        simp only [List.length_append] at h9 ⊢
        omega
      have HF2 := Lib.hid (fits_tail HF1.out hvx)
      have HJ2 := Lib.hid hJ2
      have HRR := Lib.hid hrr
      have HR2 := Lib.hid hr1
      have HKT := Lib.hid hKT
      have HE1 : Hid (Ev w0 b wr) := Lib.hid ⟨HE.out.env, HE.out.words0, HE.out.low, HE.out.bel.trans (HK1.out.below.mono HE.out.low)⟩
      have hmk : k - (i + 1) = m := by omega
      have HMK := Lib.hid hmk
      clear hr1 hrr hJm hJx hKT hJ2 hvx hj2 hm hdup hmk
      by_cases h0 : i = 0
      · subst h0
        rw [if_pos rfl] at hJlen HJ2
        simp only [List.length_append, List.length_nil] at hJlen
        go_wp2_with fail
        refine (hV f (by omega) b (bs ++ B ++ acc) v1 rest1 (x :: t) deep o r1 _ w0 HRR.out HP1.out HL1.out HE1.out HF1.out (by rw [HKT.out]; simp only [List.length_append]; omega)).mono ?_
        rintro e3 w3 ⟨rfl, h3⟩
        rw [HKT.out] at h3
        obtain ⟨v3, rest3, hp3, hl3⟩ := h3.ex
        have P3 : Hid (Pr b (bs ++ B ++ (acc ++ ([] ++ KT))) v3 rest3 w3) := Lib.hid (by rw [List.nil_append, ← List.append_assoc]; exact hp3)
        have L3 := Lib.hid hl3
        have K3 := Lib.hid (HK1.out.trans h3.kq)
        clear h3 hp3 hl3
        go_wp2_with fail
        go_roundw
        case rel => exact ⟨1, f, _, r1, x.key :: names1, v3, rest3, by go_num, by omega, by omega, P3, L3, K3, HF2, Lib.hid (by have := HMK.out; rw [show k - 1 = m by omega]; exact HR2.out), Lib.hid (by have := HMK.out; rw [show k - 1 = m by omega]; exact HJ2.out)⟩
        case measure => simp [intOf]; omega
      · rw [if_neg h0] at hJlen HJ2
        have h0' : (0 : Int) < (i : Int) := by omega
        simp only [List.length_append, List.length_cons, List.length_nil] at hJlen
        go_wp2_with fail
        refine (pr_write b (bs ++ B ++ acc) v1 rest1 ⟨#[44]⟩ _ HP1.out (by rw [show (⟨#[44]⟩ : ByteArray).size = 1 from rfl]; simp only [List.length_append]; omega)).mono ?_
        rintro e2 w2 ⟨rfl, v2, h2, k2⟩
        have P2 := Lib.hid h2
        have L2 := Lib.hid (HL1.out.kept k2.below)
        have K2 := Lib.hid (HK1.out.trans k2)
        have HE2 : Hid (Ev w0 b w2) := Lib.hid ⟨HE.out.env, HE.out.words0, HE.out.low, HE1.out.bel.trans (k2.below.mono HE.out.low)⟩
        clear h2 k2
        go_wp2_with fail
        refine (hV f (by omega) b _ v2 rest1 (x :: t) deep o r1 _ w0 HRR.out P2.out L2.out HE2.out HF1.out (by rw [HKT.out]; simp only [List.length_append, List.length_cons, List.length_nil]; omega)).mono ?_
        rintro e3 w3 ⟨rfl, h3⟩
        rw [HKT.out] at h3
        obtain ⟨v3, rest3, hp3, hl3⟩ := h3.ex
        have P3 : Hid (Pr b (bs ++ B ++ (acc ++ ([44] ++ KT))) v3 rest3 w3) := Lib.hid (by
          have e : bs ++ B ++ (acc ++ ([44] ++ KT)) = bs ++ B ++ acc ++ (⟨#[44]⟩ : ByteArray).data.toList ++ KT := by
            rw [show (⟨#[44]⟩ : ByteArray).data.toList = [44] from rfl]; simp only [List.append_assoc]
          rw [e]; exact hp3)
        have L3 := Lib.hid hl3
        have K3 := Lib.hid (K2.out.trans h3.kq)
        clear h3 hp3 hl3
        go_wp2_with fail
        go_roundw
        case rel => exact ⟨i + 1, f, _, r1, x.key :: names1, v3, rest3, by go_num, by omega, by omega, P3, L3, K3, HF2, Lib.hid (by rw [HMK.out]; exact HR2.out), Lib.hid (by rw [HMK.out]; exact HJ2.out)⟩
        case measure => simp [intOf]; omega
    · have hie : i = k := by omega
      subst hie
      have hr1 := HR1.out
      rw [Nat.sub_self, rkids_zero] at hr1
      have hl1r : l1 = r := by simpa using hr1
      have hJx := HJ1.out
      rw [Nat.sub_self, if_pos (.inr rfl), jmany_zero] at hJx
      have hJa : J = acc := by simpa using hJx
      subst hl1r
      subst hJa
      clear hr1 hJx
      go_wp2_with fail
      refine (pr_write b (bs ++ B ++ J) v1 rest1 ⟨E.toArray⟩ _ HP1.out (by rw [HES.out]; simp only [List.length_append]; omega)).mono ?_
      rintro e2 w2 ⟨rfl, v2, h2, k2⟩
      have P2 := Lib.hid h2
      have L2 := Lib.hid (HL1.out.kept k2.below)
      have K2 := Lib.hid (HK1.out.trans k2)
      clear h2 k2
      go_wp2_with fail
      go_end0
      refine ⟨rfl, ⟨v2, rest1, ?_, L2.out⟩, K2.out⟩
      have e : bs ++ (B ++ (J ++ E)) = bs ++ B ++ J ++ (⟨E.toArray⟩ : ByteArray).data.toList := by simp only [List.append_assoc]
      rw [e]; exact P2.out
end Go.Proofs.YtndkbecdjaedaaaGreatDoor
