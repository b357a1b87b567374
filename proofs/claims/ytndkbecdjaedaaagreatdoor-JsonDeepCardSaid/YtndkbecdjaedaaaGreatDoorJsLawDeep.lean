/- A byte behind bytes of the call's own; what the law's two texts are as they grow. -/
import Derived.Test.YtndkbecdjaedaaaGreatDoorJsSm
import Derived.Test.YtndkbecdjaedaaaGreatDoorJsPlain2
namespace Go.Proofs.YtndkbecdjaedaaaGreatDoor
open Go.RowKit

/-- Bytes of the call's own. -/
def OwnB (B : Nat) (T : List UInt8) (v : Value) (w : World) : Prop := w.ownsRow B 5 1 v T.length (Lib.byteCells T)
theorem OwnB.nil (B : Nat) (w : World) : OwnB B [] (.slice none 0 0) w := World.ownsRow_nil _ _ _ _
theorem OwnB.bs {B : Nat} {T : List UInt8} {v : Value} {w : World} (h : OwnB B T v w) : Bs w v T := by
  rcases h.2 with ⟨hv, h0⟩ | ⟨g, cap, cur, hv, _, hg, _⟩
  · exact .inl ⟨List.eq_nil_of_length_eq_zero h0, 0, hv⟩
  · refine .inr ⟨g, 0, cap, hv, lt_of_block hg, fun j hj => ?_⟩
    subst hv
    have h2 : w.ownsRow B 5 1 (.slice (some ⟨g, 0, none⟩) T.length cap) T.length (Lib.byteCells T) := h
    have := h2.cellAt j (by omega)
    rw [Nat.zero_add, this]
    simp [Lib.byteCells, hj]
theorem OwnB.form {B : Nat} {T : List UInt8} {v : Value} {w : World} (h : OwnB B T v w) (h0 : 0 < T.length) : ∃ g cap, v = .slice (some ⟨g, 0, none⟩) T.length cap := by
  rcases h.2 with ⟨_, h1⟩ | ⟨g, cap, cur, hv, _⟩
  · omega
  · exact ⟨g, cap, hv⟩

theorem wpList_push {w0 : World} {B : Nat} {T : List UInt8} {v : Value} (c : UInt8) {n : Int} (hn : n = ((c.toNat : Nat) : Int)) {ops : Array Oper} {rest : List Oper} {o : Oper} {a : Act} {Q : Exit → Act → World → Prop} (hgd : o.guard = none) (s x : Operand)
    (ho : o.op = .call { callee := .builtin .append, args := #[s, x], argTypes := #[22, 22] }) (hs : a.eval s = v) (hx : a.eval x = .slice (some ⟨w0.heap.size, 0, none⟩) 1 1)
    (hown : OwnB B T v w0) (hB : B ≤ w0.heap.size) (hl : T.length + 1 ≤ 140737488355328)
    (h : ∀ v' w', OwnB B (T ++ [c]) v' w' → Below B w0 w' → wpList Tryz.prog ops Q rest (a.put o.dst v') w') : wpList Tryz.prog ops Q (o :: rest) a (w0.alloc (.cells #[.int .u8 n] 5)) := by
  obtain ⟨i0, hi, hz0, hz1, hz2⟩ := info_parts infoByte
  subst hn
  refine wpList_append_own _ hgd s x 22 ho B 5 i0 (.int .u8 0) 1 1 Tryz.underlying22 hi hz0 hz1 hz2 rfl (by decide) v T.length (Lib.byteCells T) hs (World.ownsRow.alloc hown _) ⟨w0.heap.size, 0, none⟩ 1 1 [.int .u8 ((c.toNat : Nat) : Int)] hx rfl ?_ ?_ ?_ ?_ ?_ ?_
  · intro j u hj
    match j, hj with
    | 0, hj => simp at hj; subst hj; simp [Addr.add]
  · intro u hu; simp at hu; subst hu; rfl
  · unfold maxLen; omega
  · omega
  · simp; omega
  · intro v' w' hown' hgr _
    refine h v' w' ?_ (((Below.refl B w0).alloc hB _).grown hgr (by simp; omega) (fun k hk => (hown.lt k hk).1))
    unfold OwnB
    rw [Lib.byteCells_append, List.length_append]
    exact hown'

theorem wideT_snoc : ∀ m : Nat, 1 ≤ m → wideT (m + 1) = wideT m ++ [44] ++ [55]
  | 0, h => by omega
  | 1, _ => rfl
  | m + 2, _ => by
    have := wideT_snoc (m + 1) (by omega)
    show 55 :: 44 :: wideT (m + 2) = (55 :: 44 :: wideT (m + 1)) ++ [44] ++ [55]
    rw [this]; simp
theorem nestT_rep : ∀ m : Nat, nestT m = List.replicate m 91 ++ List.replicate m 93
  | 0 => rfl
  | m + 1 => by
    show 91 :: (nestT m ++ [93]) = _
    rw [nestT_rep m, List.replicate_succ, List.cons_append, List.append_assoc]
    congr 2
    exact (List.replicate_succ' (n := m) (a := (93 : UInt8))).symm
end Go.Proofs.YtndkbecdjaedaaaGreatDoor
/- The law JsonDeep: true, whatever the number, wide or not. -/
namespace Go.Proofs.YtndkbecdjaedaaaGreatDoor
open Go.RowKit

theorem jd_right {b : List UInt8} {l : List V} (h : jparse b = .ok l) : jright l = true := parse_right h
theorem fits_wide (n : Nat) (hn : n ≤ 5100) : Fits (⟨5, [], [], (n : Nat)⟩ :: wideR n) := by
  have hw : ∀ m, ∀ x ∈ wideR m, x.key.length ≤ 1099511627776 ∧ x.text.length ≤ 1099511627776 ∧ x.count ≤ 9223372036854775807 := by
    intro m
    induction m with
    | zero => intro x hx; cases hx
    | succ m ih =>
      intro x hx
      rcases List.mem_cons.1 hx with rfl | hx
      · exact ⟨by simp, by simp, by simp⟩
      · exact ih x hx
  intro x hx
  rcases List.mem_cons.1 hx with rfl | hx
  · exact ⟨by simp, by simp, by show (n : Int) ≤ _; omega⟩
  · exact hw n x hx
theorem fits_nest : ∀ n key, key.length ≤ 100 → Fits (nestR n key)
  | 0, key, _ => fun x hx => by cases hx
  | 1, key, hk => fun x hx => by
    rcases List.mem_singleton.1 hx with rfl
    exact ⟨by simp; omega, by simp, by simp⟩
  | n + 2, key, hk => fun x hx => by
    rcases List.mem_cons.1 hx with rfl | hx
    · exact ⟨by simp; omega, by simp, by simp⟩
    · exact fits_nest (n + 1) [] (by simp) x hx

set_option maxHeartbeats 8000000 in
set_option maxRecDepth 1000000 in
theorem deep_wide (n : Nat) (h1 : 1 ≤ n) (h2 : n ≤ 5100) (w : World) (hE : Env w) (hW : Words w) :
    Calls Tryz.prog 13 #[.int .i64 (n : Int), .bool true] w fun e w' => e = .returned (.bool true) ∧ Below w.heap.size w w' := by
  have HE := Lib.hid hE
  have HW := Lib.hid hW
  clear hE hW
  have n0 : ¬ (n : Int) < 1 := by omega
  have n1 : ¬ (5100 : Int) < (n : Int) := by omega
  go_enter Tryz.func13, Tryz.ntmps13
  go_wp2_with fail
  refine (sml_calls _ HE.out HW.out).mono ?_
  rintro e1 w1 ⟨rfl, hb1⟩
  have HB1 := Lib.hid hb1
  have ho1 : OwnB w.heap.size [] (.slice none 0 0) w1 := OwnB.nil _ _
  have hs1 := hb1.size
  clear hb1
  go_wp2_with (at_builtin; refine wpList_push 91 rfl rfl _ _ rfl rfl rfl ho1 hs1 (by decide) ?_; intro v2 w2 ho2 hb2)
  have HO2 : Hid (OwnB w.heap.size (91 :: wideT 0) v2 w2) := Lib.hid ho2
  have HB2 := Lib.hid (HB1.out.trans hb2)
  clear hb2 ho2 ho1 hs1
  go_wp2_with fail
  go_loopw [6, 7] (fun vb vi wr => ∃ i : Nat, vi = .int .i64 (i : Int) ∧ i ≤ n ∧ Hid (OwnB w.heap.size (91 :: wideT i) vb wr) ∧ Hid (Below w.heap.size w wr)) (fun _ vi _ => n - (intOf vi).toNat)
  case atStart => exact ⟨0, rfl, Nat.zero_le _, HO2, HB2⟩
  case round =>
    obtain ⟨i, rfl, hi, HO, HB⟩ := hrel
    by_cases hil : i < n
    · by_cases hi0 : i = 0
      · subst hi0
        have ho := HO.out
        have hs := HB.out.size
        go_wp2_with (at_builtin; refine wpList_push 55 rfl rfl _ _ rfl rfl rfl ho hs (by decide) ?_; intro v3 w3 ho3 hb3)
        have HO3 : Hid (OwnB w.heap.size (91 :: wideT (0 + 1)) v3 w3) := Lib.hid ho3
        have HB3 := Lib.hid (HB.out.trans hb3)
        clear ho3 hb3 ho hs
        go_wp2_with fail
        go_roundw
        case rel => exact ⟨1, by go_num, by omega, HO3, HB3⟩
        case measure => simp [intOf]; omega
      · have hi0' : (0 : Int) < (i : Int) := by omega
        have ho := HO.out
        have hs := HB.out.size
        have hl := wideT_len i (by omega)
        have hm1 : (91 :: wideT i).length + 1 ≤ 140737488355328 := by simp only [List.length_cons]; omega
        have hm2 : (91 :: wideT i ++ [44]).length + 1 ≤ 140737488355328 := by simp only [List.length_cons, List.length_append, List.length_nil]; omega
        clear hl
        go_wp2_with (first | (at_builtin; refine wpList_push 44 rfl rfl _ _ rfl rfl rfl ho hs hm1 ?_; intro v3 w3 ho3 hb3; have hs3 := Nat.le_trans hs hb3.size) | (at_builtin; refine wpList_push 55 rfl rfl _ _ rfl rfl rfl ho3 hs3 hm2 ?_; intro v4 w4 ho4 hb4))
        have HB3 := Lib.hid (HB.out.trans hb3)
        have HO4 : Hid (OwnB w.heap.size (91 :: wideT (i + 1)) v4 w4) := Lib.hid (by rw [wideT_snoc i (by omega)]; exact ho4)
        have HB4 := Lib.hid (HB3.out.trans hb4)
        clear ho4 hb4 ho3 hs3 hm1 hm2
        go_wp2_with fail
        go_roundw
        case rel => exact ⟨i + 1, by go_num, by omega, HO4, HB4⟩
        case measure => simp [intOf]; omega
    · have hie : i = n := by omega
      subst hie
      have ho := HO.out
      have hs := HB.out.size
      have hl := wideT_len i (by omega)
      have hm1 : (91 :: wideT i).length + 1 ≤ 140737488355328 := by simp only [List.length_cons]; omega
      clear hl
      go_wp2_with (at_builtin; refine wpList_push 93 rfl rfl _ _ rfl rfl rfl ho hs hm1 ?_; intro v3 w3 ho3 hb3)
      have hlaw := wide_law i h1
      have HO3 : Hid (OwnB w.heap.size (91 :: (wideT i ++ [93])) v3 w3) := Lib.hid ho3
      have HB3 := Lib.hid (HB.out.trans hb3)
      have hbl : (91 :: (wideT i ++ [93])).length ≤ 1099511627775 := by
        have := wideT_len i (by omega)
        simp only [List.length_cons, List.length_append, List.length_nil]; omega
      have HBL := Lib.hid hbl
      clear ho3 hb3 ho hs hm1 hbl
      by_cases hk : i ≤ 4999
      · rw [if_pos hk] at hlaw
        have HL := Lib.hid hlaw
        have hk1 : ¬ (4999 : Int) < (i : Int) := by omega
        clear hlaw
        go_wp2_with fail
        refine (parse_ok HL.out HO3.out.bs (HE.out.below HB3.out) (words_below HW.out HB3.out) HBL.out).mono ?_
        rintro e4 w4 ⟨⟨vo, rfl, hown⟩, hb4⟩
        have hR := rv_of_own hown
        have HF := Lib.hid (fits_wide i h2)
        have hlen : (⟨5, [], [], (i : Nat)⟩ :: wideR i : List V).length = i + 1 := by simp [wideR_len]
        obtain ⟨ao, co, hvo⟩ := hR.1.len
        rw [hlen] at hvo
        have HJ := Lib.hid (jd_right HL.out)
        have HR := Lib.hid hR
        have HB4 := Lib.hid (HB3.out.trans (hb4.mono HB3.out.size))
        have HLEN := Lib.hid hlen
        clear hown hb4 hR hlen
        subst hvo
        go_wp2_with fail
        refine (right_calls _ _ _ HR.out.1 (HE.out.below HB4.out).u8 HF.out (by rw [HLEN.out]; omega)).mono ?_
        rintro e5 w5 ⟨rfl, hb5⟩
        rw [HJ.out]
        have HB5 := Lib.hid (HB4.out.trans (hb5.mono HB4.out.size))
        clear hb5
        go_wp2_with fail
        go_ret
        exact ⟨by go_num, HB5.out⟩
      · rw [if_neg hk] at hlaw
        have HL := Lib.hid hlaw
        have hk1 : (4999 : Int) < (i : Int) := by omega
        clear hlaw
        go_wp2_with fail
        refine (parse_no HL.out HO3.out.bs (HE.out.below HB3.out) (words_below HW.out HB3.out) HBL.out).mono ?_
        rintro e4 w4 ⟨rfl, hb4⟩
        have HB4 := Lib.hid (HB3.out.trans (hb4.mono HB3.out.size))
        clear hb4
        go_wp2_with fail
        go_ret
        exact ⟨rfl, HB4.out⟩

set_option maxHeartbeats 8000000 in
set_option maxRecDepth 1000000 in
theorem deep_narrow (n : Nat) (h1 : 1 ≤ n) (h2 : n ≤ 60) (w : World) (hE : Env w) (hW : Words w) :
    Calls Tryz.prog 13 #[.int .i64 (n : Int), .bool false] w fun e w' => e = .returned (.bool true) ∧ Below w.heap.size w w' := by
  have HE := Lib.hid hE
  have HW := Lib.hid hW
  clear hE hW
  have n0 : ¬ (n : Int) < 1 := by omega
  have n1 : ¬ (5100 : Int) < (n : Int) := by omega
  have n2 : ¬ (60 : Int) < (n : Int) := by omega
  go_enter Tryz.func13, Tryz.ntmps13
  go_wp2_with fail
  refine (sml_calls _ HE.out HW.out).mono ?_
  rintro e1 w1 ⟨rfl, hb1⟩
  have HB1 := Lib.hid hb1
  have HO1 : Hid (OwnB w.heap.size (List.replicate 0 91) (.slice none 0 0) w1) := Lib.hid (OwnB.nil _ _)
  clear hb1
  go_wp2_with fail
  go_loopw [6, 8] (fun vb vi wr => ∃ i : Nat, vi = .int .i64 (i : Int) ∧ i ≤ n ∧ Hid (OwnB w.heap.size (List.replicate i 91) vb wr) ∧ Hid (Below w.heap.size w wr)) (fun _ vi _ => n - (intOf vi).toNat)
  case atStart => exact ⟨0, rfl, Nat.zero_le _, HO1, HB1⟩
  case round =>
    obtain ⟨i, rfl, hi, HO, HB⟩ := hrel
    by_cases hil : i < n
    · have ho := HO.out
      have hs := HB.out.size
      have hm : (List.replicate i (91 : UInt8)).length + 1 ≤ 140737488355328 := by rw [List.length_replicate]; omega
      go_wp2_with (at_builtin; refine wpList_push 91 rfl rfl _ _ rfl rfl rfl ho hs hm ?_; intro v3 w3 ho3 hb3)
      have HO3 : Hid (OwnB w.heap.size (List.replicate (i + 1) 91) v3 w3) := Lib.hid (by rw [List.replicate_succ']; exact ho3)
      have HB3 := Lib.hid (HB.out.trans hb3)
      clear ho3 hb3 ho hs hm
      go_wp2_with fail
      go_roundw
      case rel => exact ⟨i + 1, by go_num, by omega, HO3, HB3⟩
      case measure => simp [intOf]; omega
    · have hie : i = n := by omega
      subst hie
      have HO2 : Hid (OwnB w.heap.size (List.replicate i 91 ++ List.replicate 0 93) _ wr) := Lib.hid (by rw [List.replicate_zero, List.append_nil]; exact HO.out)
      go_wp2_with fail
      go_loopw [6, 9] (fun vb vi wr => ∃ k : Nat, vi = .int .i64 (k : Int) ∧ k ≤ i ∧ Hid (OwnB w.heap.size (List.replicate i 91 ++ List.replicate k 93) vb wr) ∧ Hid (Below w.heap.size w wr)) (fun _ vi _ => i - (intOf vi).toNat)
      case atStart => exact ⟨0, rfl, Nat.zero_le _, HO2, HB⟩
      case round =>
        obtain ⟨k, rfl, hki, HO, HB⟩ := hrel
        by_cases hkl : k < i
        · have ho := HO.out
          have hs := HB.out.size
          have hm : (List.replicate i (91 : UInt8) ++ List.replicate k 93).length + 1 ≤ 140737488355328 := by rw [List.length_append, List.length_replicate, List.length_replicate]; omega
          go_wp2_with (at_builtin; refine wpList_push 93 rfl rfl _ _ rfl rfl rfl ho hs hm ?_; intro v3 w3 ho3 hb3)
          have HO3 : Hid (OwnB w.heap.size (List.replicate i 91 ++ List.replicate (k + 1) 93) v3 w3) := Lib.hid (by rw [List.replicate_succ', ← List.append_assoc]; exact ho3)
          have HB3 := Lib.hid (HB.out.trans hb3)
          clear ho3 hb3 ho hs hm
          go_wp2_with fail
          go_roundw
          case rel => exact ⟨k + 1, by go_num, by omega, HO3, HB3⟩
          case measure => simp [intOf]; omega
        · have hke : k = i := by omega
          subst hke
          have hlaw := deep_law k h1 (by omega)
          rw [nestT_rep] at hlaw
          have hbl : (List.replicate k (91 : UInt8) ++ List.replicate k 93).length ≤ 1099511627775 := by rw [List.length_append, List.length_replicate, List.length_replicate]; omega
          have HBL := Lib.hid hbl
          clear hbl
          by_cases hk : k ≤ 50
          · rw [if_pos hk] at hlaw
            have HL := Lib.hid hlaw
            have hk1 : ¬ (50 : Int) < (k : Int) := by omega
            clear hlaw
            go_wp2_with fail
            refine (parse_ok HL.out HO.out.bs (HE.out.below HB.out) (words_below HW.out HB.out) HBL.out).mono ?_
            rintro e4 w4 ⟨⟨vo, rfl, hown⟩, hb4⟩
            have hR := rv_of_own hown
            have HF := Lib.hid (fits_nest k [] (by simp))
            have hlen : (nestR k []).length = k := nestR_len k []
            obtain ⟨ao, co, hvo⟩ := hR.1.len
            rw [hlen] at hvo
            have HJ := Lib.hid (jd_right HL.out)
            have HR := Lib.hid hR
            have HB4 := Lib.hid (HB.out.trans (hb4.mono HB.out.size))
            have HLEN := Lib.hid hlen
            clear hown hb4 hR hlen
            subst hvo
            go_wp2_with fail
            refine (right_calls _ _ _ HR.out.1 (HE.out.below HB4.out).u8 HF.out (by rw [HLEN.out]; omega)).mono ?_
            rintro e5 w5 ⟨rfl, hb5⟩
            rw [HJ.out]
            have HB5 := Lib.hid (HB4.out.trans (hb5.mono HB4.out.size))
            clear hb5
            go_wp2_with fail
            go_ret
            exact ⟨by go_num, HB5.out⟩
          · rw [if_neg hk] at hlaw
            have HL := Lib.hid hlaw
            have hk1 : (50 : Int) < (k : Int) := by omega
            clear hlaw
            go_wp2_with fail
            refine (parse_no HL.out HO.out.bs (HE.out.below HB.out) (words_below HW.out HB.out) HBL.out).mono ?_
            rintro e4 w4 ⟨rfl, hb4⟩
            have HB4 := Lib.hid (HB.out.trans (hb4.mono HB.out.size))
            clear hb4
            go_wp2_with fail
            go_ret
            exact ⟨rfl, HB4.out⟩

set_option maxHeartbeats 4000000 in
set_option maxRecDepth 1000000 in
theorem deep_calls (n : Int) (wd : Bool) (w : World) (hE : Env w) (hW : Words w) :
    Calls Tryz.prog 13 #[.int .i64 n, .bool wd] w fun e w' => e = .returned (.bool true) ∧ Below w.heap.size w w' := by
  by_cases hin : 1 ≤ n ∧ n ≤ 5100 ∧ (wd = false → n ≤ 60)
  · obtain ⟨h1, h2, h3⟩ := hin
    obtain ⟨m, rfl⟩ : ∃ m : Nat, n = (m : Int) := ⟨n.toNat, by omega⟩
    cases wd with
    | true => exact deep_wide m (by omega) (by omega) w hE hW
    | false => exact deep_narrow m (by omega) (by have := h3 rfl; omega) w hE hW
  · have HE := Lib.hid hE
    have HW := Lib.hid hW
    clear hE hW
    by_cases h1 : n < 1
    · clear hin
      go_enter Tryz.func13, Tryz.ntmps13
      go_wp2_with fail
      refine (sml_calls _ HE.out HW.out).mono ?_
      rintro e1 w1 ⟨rfl, hb1⟩
      go_wp2_with fail
      go_ret
      exact ⟨rfl, hb1⟩
    by_cases h2 : 5100 < n
    · clear hin
      go_enter Tryz.func13, Tryz.ntmps13
      go_wp2_with fail
      refine (sml_calls _ HE.out HW.out).mono ?_
      rintro e1 w1 ⟨rfl, hb1⟩
      go_wp2_with fail
      go_ret
      exact ⟨rfl, hb1⟩
    · have hwd : wd = false := by
        cases wd with
        | false => rfl
        | true => exact absurd ⟨by omega, by omega, fun h => by cases h⟩ hin
      subst hwd
      have h3 : 60 < n := by
        rcases Int.lt_or_le 60 n with h | h
        · exact h
        · exact absurd ⟨by omega, by omega, fun _ => h⟩ hin
      clear hin
      go_enter Tryz.func13, Tryz.ntmps13
      go_wp2_with fail
      refine (sml_calls _ HE.out HW.out).mono ?_
      rintro e1 w1 ⟨rfl, hb1⟩
      go_wp2_with fail
      go_ret
      exact ⟨rfl, hb1⟩
end Go.Proofs.YtndkbecdjaedaaaGreatDoor
