/- small: the small case comes out right. -/
import Derived.Test.YtndkbecdjaedaaaGreatDoorJsSrt
import Derived.Test.YtndkbecdjaedaaaGreatDoorJsParse
import Derived.Test.YtndkbecdjaedaaaGreatDoorJsVs
import Derived.Test.YtndkbecdjaedaaaGreatDoorJsRt
import Derived.Lib.SlBytesConst
namespace Go.Proofs.YtndkbecdjaedaaaGreatDoor
open Go.RowKit

def smL : List V := [⟨6, [], [], 2⟩, ⟨5, [98], [], 2⟩, ⟨3, [], [49], 0⟩, ⟨0, [], [], 0⟩, ⟨4, [97], [120], 0⟩]
def smS : List V := [⟨6, [], [], 2⟩, ⟨4, [97], [120], 0⟩, ⟨5, [98], [], 2⟩, ⟨3, [], [49], 0⟩, ⟨0, [], [], 0⟩]
theorem sm1 : jparse [32, 123, 34, 98, 34, 32, 58, 32, 91, 49, 44, 32, 110, 117, 108, 108, 93, 44, 32, 34, 97, 34, 58, 34, 120, 34, 125, 10] = .ok smL := by kernel_rfl
theorem sm2 : jparse [123, 34, 97, 34, 58, 49, 44, 34, 97, 34, 58, 50, 125] = .error 7 := by kernel_rfl
theorem sm3 : jparse [91, 49, 44, 93] = .error 3 := by kernel_rfl
theorem sm4 : jright smL = true := by kernel_rfl
theorem sm5 : jprint smL = [123, 34, 98, 34, 58, 91, 49, 44, 110, 117, 108, 108, 93, 44, 34, 97, 34, 58, 34, 120, 34, 125] := by kernel_rfl
theorem sm6 : jsort smL = smS := by kernel_rfl
theorem sm7 : jright smS = true := by kernel_rfl
theorem sm8 : jprint smS = [123, 34, 97, 34, 58, 34, 120, 34, 44, 34, 98, 34, 58, 91, 49, 44, 110, 117, 108, 108, 93, 125] := by kernel_rfl
theorem sm9 : jright [⟨5, [], [], 1⟩] = false := by kernel_rfl
theorem sm10 : jend smL 1 = 4 := by kernel_rfl
theorem sm11 : jend smL 5 = -1 := by kernel_rfl
theorem sm12 : jright [] = false := by kernel_rfl

theorem rv_of_own {w : World} {base : Nat} {v : Value} {l : List V} (h : w.ownsRow base 56 4 v l.length (vcells l)) : Vs w v l ∧ Capd v := by
  refine ⟨vs_of_own h, ?_⟩
  rcases h.2 with ⟨rfl, _⟩ | ⟨g, cap, cur, rfl, _, _, h, _⟩
  · exact Nat.le_refl 0
  · exact h
theorem words_below {w w' : World} (h : Words w) (hb : Below w.heap.size w w') : Words w' := fun i hi => (hb.cell (p := ⟨_, i, none⟩) (cell_lt (h i hi))).trans (h i hi)
theorem own_below {w w' : World} {base : Nat} {e : TypeId} {size : Nat} {v : Value} {n : Nat} {xs : List Value} (h : w.ownsRow base e size v n xs) (hb : Below w.heap.size w w') : w'.ownsRow base e size v n xs := own_kept h (S := []) (Kp.of_below hb) (by simp)
theorem bs_lit (w : World) (l : List UInt8) (cs : Array Value) (t : TypeId) (fz : Nat × Nat) (h : cs.toList = Lib.byteCells l) : Bs (w.alloc (.cells cs t fz)) (.slice (some ⟨w.heap.size, 0, none⟩) l.length l.length) l := by
  refine .inr ⟨w.heap.size, 0, l.length, rfl, by simp, fun j hj => ?_⟩
  rw [Nat.zero_add, cell_of_row _ _ _ _ _ _ (heap_alloc_new w _), ← Array.getElem?_toList, h]
  simp [Lib.byteCells, hj]
theorem parse_ok {v : Value} {l : List UInt8} {r : List V} {w : World} (hj : jparse l = .ok r) (h : Bs w v l) (hE : Env w) (hW : Words w) (hl : l.length ≤ 1099511627775) :
    Calls Tryz.prog 28 #[v] w fun e w' => (∃ vo, e = .returned (.tuple #[vo, .int .i64 0]) ∧ w'.ownsRow w.heap.size 56 4 vo r.length (vcells r)) ∧ Below w.heap.size w w' := by
  have := parse_calls v l w h hE hW hl
  rw [hj] at this
  exact this
theorem parse_no {v : Value} {l : List UInt8} {c : Int} {w : World} (hj : jparse l = .error c) (h : Bs w v l) (hE : Env w) (hW : Words w) (hl : l.length ≤ 1099511627775) :
    Calls Tryz.prog 28 #[v] w fun e w' => e = .returned (.tuple #[.slice none 0 0, .int .i64 c]) ∧ Below w.heap.size w w' := by
  have := parse_calls v l w h hE hW hl
  rw [hj] at this
  exact this
theorem print_ok {v : Value} {l : List V} {J : List UInt8} {w : World} (hr : jright l = true) (hJ : jprint l = J) (h : Vs w v l ∧ Capd v) (hE : Env w) (hW : Words w) (hf : Fits l) (hl : l.length ≤ 1000000000) (hj : J.length ≤ 140737488355328) :
    Calls Tryz.prog 24 #[v] w fun e w' => (∃ vo, e = .returned (.tuple #[vo, .bool true]) ∧ Bs w' vo J ∧ Capd vo) ∧ Below w.heap.size w w' := by
  refine (print_calls v l w h.1 h.2 hE hE.u8 hW hf hl (fun _ => by rw [hJ]; exact hj)).mono ?_
  rintro e w' ⟨hP, hb⟩
  rw [hr, hJ] at hP
  rcases hP with ⟨h, _⟩ | ⟨_, h⟩
  · cases h
  · exact ⟨h, hb⟩
theorem print_no {v : Value} {l : List V} {w : World} (hr : jright l = false) (h : Vs w v l ∧ Capd v) (hE : Env w) (hW : Words w) (hf : Fits l) (hl : l.length ≤ 1000000000) :
    Calls Tryz.prog 24 #[v] w fun e w' => e = .returned (.tuple #[.slice none 0 0, .bool false]) ∧ Below w.heap.size w w' := by
  refine (print_calls v l w h.1 h.2 hE hE.u8 hW hf hl (fun h => by rw [hr] at h; cases h)).mono ?_
  rintro e w' ⟨hP, hb⟩
  rw [hr] at hP
  rcases hP with ⟨_, h⟩ | ⟨h, _⟩
  · exact ⟨h, hb⟩
  · cases h
theorem sort_ok {v : Value} {l s : List V} {w : World} (hr : jright l = true) (hs : jsort l = s) (h : Vs w v l ∧ Capd v) (hT : U8 w) (hf : Fits l) (hl : l.length ≤ 1000000) :
    Calls Tryz.prog 37 #[v] w fun e w' => (∃ vo, e = .returned vo ∧ s ≠ [] ∧ w'.ownsRow w.heap.size 56 4 vo s.length (vcells s)) ∧ Below w.heap.size w w' := by
  refine (sort_calls v l w h.1 h.2 hT hf hl).mono ?_
  rintro e w' ⟨hP, hb⟩
  rw [hr, hs] at hP
  rcases hP with ⟨h, _⟩ | ⟨_, h1, vo, h2, h3⟩
  · cases h
  · exact ⟨⟨vo, h2, h1, h3⟩, hb⟩
def fitsB (l : List V) : Bool := l.all fun x => decide (x.key.length ≤ 1099511627776) && decide (x.text.length ≤ 1099511627776) && decide (x.count ≤ 9223372036854775807)
theorem fits_b {l : List V} (h : fitsB l = true) : Fits l := fun x hx => by
  have := List.all_eq_true.1 h x hx
  simp only [Bool.and_eq_true, decide_eq_true_eq] at this
  exact ⟨this.1.1, this.1.2, this.2⟩

set_option maxHeartbeats 16000000 in
set_option maxRecDepth 1000000 in
theorem sml_calls (w : World) (hE : Env w) (hW : Words w) :
    Calls Tryz.prog 27 #[] w fun e w' => e = .returned (.bool true) ∧ Below w.heap.size w w' := by
  have HE := Lib.hid hE
  have HW := Lib.hid hW
  clear hE hW
  have kc := fun (w : World) (C : Array Value) (n c : Nat) => Lib.run_convert_bytes_const (P := Tryz.prog) w 22 5 C n c Tryz.underlying22 Tryz.underlying5
  go_enter Tryz.func27, Tryz.ntmps27
  go_wp2_with fail
  have HB0 : Hid (Below w.heap.size w w) := Lib.hid (Below.refl _ _)
  have hb1a : Below w.heap.size w (w.alloc (.cells #[.int .u8 32, .int .u8 123, .int .u8 34, .int .u8 98, .int .u8 34, .int .u8 32, .int .u8 58, .int .u8 32, .int .u8 91, .int .u8 49, .int .u8 44, .int .u8 32, .int .u8 110, .int .u8 117, .int .u8 108, .int .u8 108, .int .u8 93, .int .u8 44, .int .u8 32, .int .u8 34, .int .u8 97, .int .u8 34, .int .u8 58, .int .u8 34, .int .u8 120, .int .u8 34, .int .u8 125, .int .u8 10] 5 (28, 29))) := HB0.out.alloc HB0.out.size _
  refine (parse_ok sm1 (bs_lit w [32, 123, 34, 98, 34, 32, 58, 32, 91, 49, 44, 32, 110, 117, 108, 108, 93, 44, 32, 34, 97, 34, 58, 34, 120, 34, 125, 10] #[.int .u8 32, .int .u8 123, .int .u8 34, .int .u8 98, .int .u8 34, .int .u8 32, .int .u8 58, .int .u8 32, .int .u8 91, .int .u8 49, .int .u8 44, .int .u8 32, .int .u8 110, .int .u8 117, .int .u8 108, .int .u8 108, .int .u8 93, .int .u8 44, .int .u8 32, .int .u8 34, .int .u8 97, .int .u8 34, .int .u8 58, .int .u8 34, .int .u8 120, .int .u8 34, .int .u8 125, .int .u8 10] 5 _ rfl) (HE.out.below hb1a) (words_below HW.out hb1a) (by decide)).mono ?_
  rintro e1 w1 ⟨⟨vl, rfl, hl⟩, hb1⟩
  have hl : w1.ownsRow _ 56 4 vl 5 (vcells smL) := hl
  obtain ⟨gl, cl, rfl, _, _⟩ := hl.form (by decide)
  have HL1 := Lib.hid hl
  have HB1 := Lib.hid (hb1a.trans (hb1.mono hb1a.size))
  clear hb1a hb1 hl
  go_wp2_with fail
  have hb2a : Below w.heap.size w (w1.alloc (.cells #[.int .u8 123, .int .u8 34, .int .u8 97, .int .u8 34, .int .u8 58, .int .u8 49, .int .u8 44, .int .u8 34, .int .u8 97, .int .u8 34, .int .u8 58, .int .u8 50, .int .u8 125] 5 (13, 14))) := HB1.out.alloc HB1.out.size _
  refine (parse_no sm2 (bs_lit w1 [123, 34, 97, 34, 58, 49, 44, 34, 97, 34, 58, 50, 125] #[.int .u8 123, .int .u8 34, .int .u8 97, .int .u8 34, .int .u8 58, .int .u8 49, .int .u8 44, .int .u8 34, .int .u8 97, .int .u8 34, .int .u8 58, .int .u8 50, .int .u8 125] 5 _ rfl) (HE.out.below hb2a) (words_below HW.out hb2a) (by decide)).mono ?_
  rintro e2 w2 ⟨rfl, hb2⟩
  have HL2 := Lib.hid (own_below HL1.out (((Below.refl _ _).alloc (Nat.le_refl _) _).trans (hb2.mono (by simp))))
  have HB2 := Lib.hid (hb2a.trans (hb2.mono hb2a.size))
  clear hb2a hb2
  go_wp2_with fail
  have hb3a : Below w.heap.size w (w2.alloc (.cells #[.int .u8 91, .int .u8 49, .int .u8 44, .int .u8 93] 5 (4, 5))) := HB2.out.alloc HB2.out.size _
  refine (parse_no sm3 (bs_lit w2 [91, 49, 44, 93] #[.int .u8 91, .int .u8 49, .int .u8 44, .int .u8 93] 5 _ rfl) (HE.out.below hb3a) (words_below HW.out hb3a) (by decide)).mono ?_
  rintro e3 w3 ⟨rfl, hb3⟩
  have HL3 := Lib.hid (own_below HL2.out (((Below.refl _ _).alloc (Nat.le_refl _) _).trans (hb3.mono (by simp))))
  have HB3 := Lib.hid (hb3a.trans (hb3.mono hb3a.size))
  clear hb3a hb3
  go_wp2_with fail
  refine (print_ok sm4 sm5 (rv_of_own HL3.out) (HE.out.below HB3.out) (words_below HW.out HB3.out) (fits_b (by decide)) (by decide) (by decide)).mono ?_
  rintro e4 w4 ⟨⟨vp, rfl, hp, _⟩, hb4⟩
  have HP4 := Lib.hid hp
  have HL4 := Lib.hid (own_below HL3.out hb4)
  have HB4 := Lib.hid (HB3.out.trans (hb4.mono HB3.out.size))
  clear hp hb4
  go_wp2_with fail
  refine (sort_ok sm4 sm6 (rv_of_own HL4.out) (HE.out.below HB4.out).u8 (fits_b (by decide)) (by decide)).mono ?_
  rintro e5 w5 ⟨⟨vs, rfl, _, hs⟩, hb5⟩
  have hs : w5.ownsRow _ 56 4 vs 5 (vcells smS) := hs
  obtain ⟨gs, cs, rfl, _, _⟩ := hs.form (by decide)
  have HS5 := Lib.hid hs
  have HP5 := Lib.hid (HP4.out.kept hb5)
  have HL5 := Lib.hid (own_below HL4.out hb5)
  have HB5 := Lib.hid (HB4.out.trans (hb5.mono HB4.out.size))
  clear hs hb5
  go_wp2_with fail
  refine (print_ok sm7 sm8 (rv_of_own HS5.out) (HE.out.below HB5.out) (words_below HW.out HB5.out) (fits_b (by decide)) (by decide) (by decide)).mono ?_
  rintro e6 w6 ⟨⟨vq, rfl, hq, _⟩, hb6⟩
  have HQ6 := Lib.hid hq
  have HP6 := Lib.hid (HP5.out.kept hb6)
  have HL6 := Lib.hid (own_below HL5.out hb6)
  have HB6 := Lib.hid (HB5.out.trans (hb6.mono HB5.out.size))
  clear hq hb6
  go_wp2_with fail
  have hb7a : Below w.heap.size w (w6.alloc (.cells #[.int .i64 5, .string ⟨#[]⟩, .string ⟨#[]⟩, .int .i64 1] 56)) := HB6.out.alloc HB6.out.size _
  have hlit : (w6.alloc (.cells #[.int .i64 5, .string ⟨#[]⟩, .string ⟨#[]⟩, .int .i64 1] 56)).ownsRow w6.heap.size 56 4 (.slice (some ⟨w6.heap.size, 0, none⟩) ([⟨5, [], [], 1⟩] : List V).length 1) ([⟨5, [], [], 1⟩] : List V).length (vcells [⟨5, [], [], 1⟩]) :=
    World.ownsRow_lit w6 #[.int .i64 5, .string ⟨#[]⟩, .string ⟨#[]⟩, .int .i64 1] 1 (Nat.le_refl _) (by unfold maxLen; omega) rfl
  refine (print_no sm9 (rv_of_own hlit) (HE.out.below hb7a) (words_below HW.out hb7a) (fits_b (by decide)) (by decide)).mono ?_
  rintro e7 w7 ⟨rfl, hb7⟩
  have hk7 : Below w6.heap.size w6 w7 := ((Below.refl _ _).alloc (Nat.le_refl _) _).trans (hb7.mono (by simp))
  have HQ7 := Lib.hid (HQ6.out.kept hk7)
  have HP7 := Lib.hid (HP6.out.kept hk7)
  have HL7 := Lib.hid (own_below HL6.out hk7)
  have HB7 := Lib.hid (HB6.out.trans (hk7.mono HB6.out.size))
  clear hlit hb7a hb7 hk7
  have c0 : w7.cell? ⟨gl, 0, none⟩ = some (.int .i64 6) := HL7.out.cellAt 0 (by decide)
  have c1 : w7.cell? ⟨gl, 1, none⟩ = some (.string ⟨#[]⟩) := HL7.out.cellAt 1 (by decide)
  have c2 : w7.cell? ⟨gl, 2, none⟩ = some (.string ⟨#[]⟩) := HL7.out.cellAt 2 (by decide)
  have c3 : w7.cell? ⟨gl, 3, none⟩ = some (.int .i64 2) := HL7.out.cellAt 3 (by decide)
  have c4 : w7.cell? ⟨gl, 4, none⟩ = some (.int .i64 5) := HL7.out.cellAt 4 (by decide)
  have c5 : w7.cell? ⟨gl, 5, none⟩ = some (.string ⟨#[98]⟩) := HL7.out.cellAt 5 (by decide)
  have c6 : w7.cell? ⟨gl, 6, none⟩ = some (.string ⟨#[]⟩) := HL7.out.cellAt 6 (by decide)
  have c7 : w7.cell? ⟨gl, 7, none⟩ = some (.int .i64 2) := HL7.out.cellAt 7 (by decide)
  have c8 : w7.cell? ⟨gl, 8, none⟩ = some (.int .i64 3) := HL7.out.cellAt 8 (by decide)
  have c9 : w7.cell? ⟨gl, 9, none⟩ = some (.string ⟨#[]⟩) := HL7.out.cellAt 9 (by decide)
  have c10 : w7.cell? ⟨gl, 10, none⟩ = some (.string ⟨#[49]⟩) := HL7.out.cellAt 10 (by decide)
  have c11 : w7.cell? ⟨gl, 11, none⟩ = some (.int .i64 0) := HL7.out.cellAt 11 (by decide)
  have c16 : w7.cell? ⟨gl, 16, none⟩ = some (.int .i64 4) := HL7.out.cellAt 16 (by decide)
  have c17 : w7.cell? ⟨gl, 17, none⟩ = some (.string ⟨#[97]⟩) := HL7.out.cellAt 17 (by decide)
  have c18 : w7.cell? ⟨gl, 18, none⟩ = some (.string ⟨#[120]⟩) := HL7.out.cellAt 18 (by decide)
  have c19 : w7.cell? ⟨gl, 19, none⟩ = some (.int .i64 0) := HL7.out.cellAt 19 (by decide)
  obtain ⟨ap, cp, rfl⟩ := HP7.out.len
  obtain ⟨aq, cq, rfl⟩ := HQ7.out.len
  have tp : (convert 22 9 (.slice ap 22 cp)).run Tryz.prog w7 = .ok (.string ⟨#[123, 34, 98, 34, 58, 91, 49, 44, 110, 117, 108, 108, 93, 44, 34, 97, 34, 58, 34, 120, 34, 125]⟩) w7 := HP7.out.text
  have tq : (convert 22 9 (.slice aq 22 cq)).run Tryz.prog w7 = .ok (.string ⟨#[123, 34, 97, 34, 58, 34, 120, 34, 44, 34, 98, 34, 58, 91, 49, 44, 110, 117, 108, 108, 93, 125]⟩) w7 := HQ7.out.text
  have he1 := end_calls (.slice (some ⟨gl, 0, none⟩) 5 cl) smL 1 w7 (vs_of_own HL7.out) (by decide) (by decide) (by decide)
  have he5 := end_calls (.slice (some ⟨gl, 0, none⟩) 5 cl) smL 5 w7 (vs_of_own HL7.out) (by decide) (by decide) (by decide)
  rw [sm10] at he1
  rw [sm11] at he5
  have hr0 := right_calls (.slice none 0 0) [] w7 (.inl ⟨rfl, _, _, rfl⟩) (HE.out.below HB7.out).u8 (fun x hx => absurd hx (by simp)) (by decide)
  rw [sm12] at hr0
  have HE1 := Lib.hid he1
  have HE5 := Lib.hid he5
  have HR0 := Lib.hid hr0
  clear he1 he5 hr0
  go_wp2_with fail
  refine HE1.out.mono ?_
  rintro e8 w8 ⟨rfl, rfl⟩
  go_wp2_with fail
  refine HE5.out.mono ?_
  rintro e9 w9 ⟨rfl, rfl⟩
  go_wp2_with fail
  refine HR0.out.mono ?_
  rintro e10 w10 ⟨rfl, hb10⟩
  go_wp2_with fail
  go_ret
  exact ⟨rfl, HB7.out.trans (hb10.mono HB7.out.size)⟩
end Go.Proofs.YtndkbecdjaedaaaGreatDoor
