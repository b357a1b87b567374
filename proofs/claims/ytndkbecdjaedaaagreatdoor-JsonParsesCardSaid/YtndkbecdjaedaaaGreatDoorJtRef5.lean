/- The reference's Int. -/
import Derived.Test.YtndkbecdjaedaaaGreatDoorJtRef2
namespace Go.Proofs.YtndkbecdjaedaaaGreatDoor
open Go.RowKit

/-- A digit more: none, where the number would not be one of 64 bits. -/
def rstep (neg : Bool) (n : Int) (c : Nat) : Option Int :=
  if 48 ≤ c ∧ c ≤ 57 then
    (if neg then (if -9223372036854775808 ≤ 10 * n - ((c : Int) - 48) then some (10 * n - ((c : Int) - 48)) else none)
     else (if 10 * n + ((c : Int) - 48) ≤ 9223372036854775807 then some (10 * n + ((c : Int) - 48)) else none))
  else none
def rgo (neg : Bool) (n : Int) : List UInt8 → Option Int
  | [] => some n
  | c :: r => match rstep neg n c.toNat with
    | some n' => rgo neg n' r
    | none => none
def rint (l : List UInt8) : Option Int :=
  if l = [] ∨ l = [45, 48] ∨ number l ≠ l.length then none
  else if gb l 0 = 45 then rgo true 0 (l.drop 1) else rgo false 0 l

theorem rgo_drop {neg : Bool} {n : Int} {l : List UInt8} {k : Nat} (hk : k < l.length) :
    rgo neg n (l.drop k) = match rstep neg n (gb l k) with
      | some n' => rgo neg n' (l.drop (k + 1))
      | none => none := by
  have hd : l.drop k = l[k] :: l.drop (k + 1) := List.drop_eq_getElem_cons hk
  have hg : gb l k = l[k].toNat := by unfold gb; rw [List.getD_eq_getElem?_getD, List.getElem?_eq_getElem hk]; rfl
  rw [hd, hg]; rfl

theorem quo_neg (d : Int) (h0 : 0 ≤ d) (h9 : d ≤ 9) : (-9223372036854775808 + d).tdiv 10 = if d = 9 then -922337203685477579 else -922337203685477580 := by
  have : d = 0 ∨ d = 1 ∨ d = 2 ∨ d = 3 ∨ d = 4 ∨ d = 5 ∨ d = 6 ∨ d = 7 ∨ d = 8 ∨ d = 9 := by omega
  rcases this with rfl | rfl | rfl | rfl | rfl | rfl | rfl | rfl | rfl | rfl <;> rfl
theorem quo_pos (d : Int) (h0 : 0 ≤ d) (h9 : d ≤ 9) : (9223372036854775807 - d).tdiv 10 = if d ≤ 7 then 922337203685477580 else 922337203685477579 := by
  have : d = 0 ∨ d = 1 ∨ d = 2 ∨ d = 3 ∨ d = 4 ∨ d = 5 ∨ d = 6 ∨ d = 7 ∨ d = 8 ∨ d = 9 := by omega
  rcases this with rfl | rfl | rfl | rfl | rfl | rfl | rfl | rfl | rfl | rfl <;> rfl

set_option maxHeartbeats 16000000 in
set_option maxRecDepth 1000000 in
theorem rint_go (s : ByteArray) (w : World) (hs : s.size ≤ 1099511627776) (hp : 0 < s.size) (h45 : s.data.toList ≠ [45, 48]) (hn : number s.data.toList = s.data.toList.length) :
    Calls Tryz.prog 135 #[.string s] w fun e w' => e = .returned (.tuple #[.int .i64 ((rint s.data.toList).getD 0), .bool (rint s.data.toList).isSome]) ∧ Below w.heap.size w w' := by
  have hem := full hp
  have hb2 : (s.toList == [45, 48]) = false := by rw [Lib.toList_data]; simp [h45]
  have hL : s.data.toList.length = s.size := by simp
  have HX := Lib.hid (byte_run s)
  have hrun := head_run s hp
  have hnum := rnumber_calls s w hs
  have hlt0 := gb_lt s.data.toList 0
  have hne := ne_nil_of_size hp
  obtain ⟨L, hLd⟩ : ∃ L, s.data.toList = L := ⟨_, rfl⟩
  rw [hLd] at hn hL hrun HX hnum h45 hlt0 hne ⊢
  rw [hn, hL] at hnum
  obtain ⟨neg, hneg⟩ : ∃ neg : Bool, decide (gb L 0 = 45) = neg := ⟨_, rfl⟩
  have hR : rint L = rgo neg 0 (L.drop (if neg = true then 1 else 0)) := by
    unfold rint
    rw [if_neg (by simp only [not_or]; exact ⟨hne, h45, fun h => h hn⟩)]
    by_cases h : gb L 0 = 45
    · rw [if_pos h, ← hneg, decide_eq_true h]; rfl
    · rw [if_neg h, ← hneg, decide_eq_false h]; rfl
  obtain ⟨c0, hc0⟩ : ∃ c0, gb L 0 = c0 := ⟨_, rfl⟩
  rw [hc0] at hrun hneg hlt0
  have HR := Lib.hid hR
  have HL := Lib.hid hL
  have HC0 := Lib.hid hc0
  have HNUM := Lib.hid hnum
  clear hR hL hc0 hn h45 hLd hne hnum
  have hcb : (((c0 : Int) == 45) = neg) := by
    rw [← hneg]
    by_cases h : c0 = 45
    · rw [decide_eq_true h]; simp; omega
    · rw [decide_eq_false h]; simp; omega
  clear hneg
  cases neg
  all_goals
    go_enter Tryz.func135, Tryz.ntmps135
    go_wp2_with fail
    refine HNUM.out.mono ?_
    rintro e w1 ⟨rfl, hb1⟩
    go_wp2_with fail
  · go_loop [4, 5] (fun va vi => ∃ (i : Nat) (a : Int), va = .int .i64 a ∧ vi = .int .i64 i ∧ i ≤ s.size ∧ 0 ≤ a ∧ a ≤ 9223372036854775807 ∧ Hid (rint L = rgo false a (L.drop i))) (fun _ vi => s.size - (intOf vi).toNat)
    case atStart => exact ⟨0, 0, rfl, rfl, by omega, by omega, by omega, HR⟩
    case round =>
      obtain ⟨i, a, rfl, rfl, his, ha0, ha1, HH⟩ := hrel
      by_cases hi : i < s.size
      · have hiI : (i : Int) < (s.size : Int) := by omega
        have hruni := HX.out i hi
        obtain ⟨c, hc⟩ : ∃ c, gb L i = c := ⟨_, rfl⟩
        rw [hc] at hruni
        have hstep := HH.out
        rw [rgo_drop (by rw [HL.out]; exact hi), hc] at hstep
        by_cases hd : 48 ≤ c ∧ c ≤ 57
        · have g1 : ¬ (c : Int) < 48 := by omega
          have g2 : ¬ (57 : Int) < (c : Int) := by omega
          have g3 : ((c : Int) == 45) = false := by simp; omega
          have HS := Lib.hid hstep
          clear hstep hc
          by_cases hq : (9223372036854775807 - ((c : Int) - 48)) / 10 < a
          · have HF : Hid (rint L = none) := Lib.hid (by
              rw [HS.out]; unfold rstep
              rw [if_pos hd]; simp only [Bool.false_eq_true, if_false]
              rw [if_neg (by omega)])
            clear hd
            go_wp2_with fail
            go_ret2
            rw [HF.out]
            exact ⟨rfl, hb1⟩
          · have hle : 10 * a + ((c : Int) - 48) ≤ 9223372036854775807 := by omega
            have HF : Hid (rint L = rgo false (10 * a + ((c : Int) - 48)) (L.drop (i + 1))) := Lib.hid (by
              rw [HS.out]; unfold rstep
              rw [if_pos hd]; simp only [Bool.false_eq_true, if_false]
              rw [if_pos hle])
            have hge : 0 ≤ 10 * a + ((c : Int) - 48) := by omega
            clear hd
            go_wp2_with fail
            go_round
            case rel => exact ⟨i + 1, 10 * a + ((c : Int) - 48), by go_num, by go_num, by omega, hge, hle, HF⟩
            case measure => simp [intOf]; omega
        · have HF : Hid (rint L = none) := Lib.hid (by
            rw [hstep]; unfold rstep; rw [if_neg hd])
          have hways : (((c : Int) == 45) = true ∧ i ≠ 0 ∧ (c : Int) < 48) ∨ (((c : Int) == 45) = false ∧ (c : Int) < 48) ∨ (((c : Int) == 45) = false ∧ ¬ (c : Int) < 48 ∧ (57 : Int) < (c : Int)) := by
            by_cases h : c = 45
            · refine Or.inl ⟨by simp; omega, ?_, by omega⟩
              intro h0
              subst h0
              rw [HC0.out] at hc
              rw [hc, h] at hcb
              simp at hcb
            · by_cases h' : c < 48
              · exact Or.inr (Or.inl ⟨by simp; omega, by omega⟩)
              · exact Or.inr (Or.inr ⟨by simp; omega, by omega, by omega⟩)
          clear hstep hd hc
          rcases hways with ⟨g1, g0, g2⟩ | ⟨g1, g2⟩ | ⟨g1, g2, g3⟩
          · have g0' : ((i : Int) == 0) = false := by simp; omega
            clear g0
            go_wp2_with fail
            go_ret2
            rw [HF.out]
            exact ⟨rfl, hb1⟩
          all_goals
            go_wp2_with fail
            go_ret2
            rw [HF.out]
            exact ⟨rfl, hb1⟩
      · have hiI : ¬ (i : Int) < (s.size : Int) := by omega
        have HF1 : Hid ((rint L).getD 0 = a) := Lib.hid (by rw [HH.out, List.drop_of_length_le (by rw [HL.out]; omega)]; rfl)
        have HF2 : Hid ((rint L).isSome = true) := Lib.hid (by rw [HH.out, List.drop_of_length_le (by rw [HL.out]; omega)]; rfl)
        go_wp2_with fail
        go_ret2
        rw [HF1.out, HF2.out]
        exact ⟨rfl, hb1⟩
  · go_loop [4, 5] (fun va vi => ∃ (i : Nat) (a : Int), va = .int .i64 a ∧ vi = .int .i64 i ∧ i ≤ s.size ∧ a ≤ 0 ∧ -9223372036854775808 ≤ a ∧ Hid (i = 0 → a = 0) ∧ Hid (rint L = rgo true a (L.drop (if i = 0 then 1 else i)))) (fun _ vi => s.size - (intOf vi).toNat)
    case atStart => exact ⟨0, 0, rfl, rfl, by omega, by omega, by omega, Lib.hid (fun _ => rfl), HR⟩
    case round =>
      obtain ⟨i, a, rfl, rfl, his, ha0, ha1, HZ, HH⟩ := hrel
      by_cases hi : i < s.size
      · have hiI : (i : Int) < (s.size : Int) := by omega
        have hruni := HX.out i hi
        obtain ⟨c, hc⟩ : ∃ c, gb L i = c := ⟨_, rfl⟩
        rw [hc] at hruni
        by_cases h0 : i = 0
        · have hcc : c = c0 := by rw [← hc, h0, HC0.out]
          have g3 : ((c : Int) == 45) = true := by rw [hcc]; exact hcb
          have g4 : ((i : Int) == 0) = true := by simp; omega
          have ha := HZ.out h0
          have HF : Hid (rint L = rgo true 0 (L.drop (if 0 + 1 = 0 then 1 else 0 + 1))) := Lib.hid (by rw [HH.out, h0, ha]; rfl)
          subst h0
          subst ha
          clear hcc hc
          go_wp2_with fail
          go_round
          case rel => exact ⟨0 + 1, 0, rfl, rfl, by omega, by omega, by omega, Lib.hid (fun h => by omega), HF⟩
          case measure => simp [intOf]; omega
        · have g4 : ((i : Int) == 0) = false := by simp; omega
          have hstep := HH.out
          rw [if_neg h0, rgo_drop (by rw [HL.out]; exact hi), hc] at hstep
          clear h0
          by_cases hd : 48 ≤ c ∧ c ≤ 57
          · have g1 : ¬ (c : Int) < 48 := by omega
            have g2 : ¬ (57 : Int) < (c : Int) := by omega
            have g3 : ((c : Int) == 45) = false := by simp; omega
            have HS := Lib.hid hstep
            clear hstep hc
            have hqn := quo_neg ((c : Int) - 48) (by omega) (by omega)
            by_cases hq : a < (-9223372036854775808 + ((c : Int) - 48)).tdiv 10
            · have HF : Hid (rint L = none) := Lib.hid (by
                rw [HS.out]; unfold rstep
                rw [if_pos hd]; simp only [if_true]
                rw [if_neg (by rw [hqn] at hq; split at hq <;> omega)])
              clear hd hqn
              go_wp2_with fail
              go_ret2
              rw [HF.out]
              exact ⟨rfl, hb1⟩
            · have hle : -9223372036854775808 ≤ 10 * a - ((c : Int) - 48) := by rw [hqn] at hq; split at hq <;> omega
              have hle2 : -9223372036854775808 ≤ 10 * a := by omega
              have HF : Hid (rint L = rgo true (10 * a - ((c : Int) - 48)) (L.drop (if i + 1 = 0 then 1 else i + 1))) := Lib.hid (by
                rw [HS.out]; unfold rstep
                rw [if_pos hd]; simp only [if_true]
                rw [if_pos hle, if_neg (by omega)])
              have hge : 10 * a - ((c : Int) - 48) ≤ 0 := by omega
              clear hd hqn
              go_wp2_with fail
              go_round
              case rel => exact ⟨i + 1, 10 * a - ((c : Int) - 48), by go_num, by go_num, by omega, hge, hle, Lib.hid (fun h => by omega), HF⟩
              case measure => simp [intOf]; omega
          · have HF : Hid (rint L = none) := Lib.hid (by
              rw [hstep]; unfold rstep; rw [if_neg hd])
            have hways : (((c : Int) == 45) = true ∧ (c : Int) < 48) ∨ (((c : Int) == 45) = false ∧ (c : Int) < 48) ∨ (((c : Int) == 45) = false ∧ ¬ (c : Int) < 48 ∧ (57 : Int) < (c : Int)) := by
              by_cases h : c = 45
              · exact Or.inl ⟨by simp; omega, by omega⟩
              · by_cases h' : c < 48
                · exact Or.inr (Or.inl ⟨by simp; omega, by omega⟩)
                · exact Or.inr (Or.inr ⟨by simp; omega, by omega, by omega⟩)
            clear hstep hd hc
            rcases hways with ⟨g1, g2⟩ | ⟨g1, g2⟩ | ⟨g1, g2, g3⟩
            all_goals
              go_wp2_with fail
              go_ret2
              rw [HF.out]
              exact ⟨rfl, hb1⟩
      · have hiI : ¬ (i : Int) < (s.size : Int) := by omega
        have hi0 : i ≠ 0 := by omega
        have HF1 : Hid ((rint L).getD 0 = a) := Lib.hid (by rw [HH.out, if_neg hi0, List.drop_of_length_le (by rw [HL.out]; omega)]; rfl)
        have HF2 : Hid ((rint L).isSome = true) := Lib.hid (by rw [HH.out, if_neg hi0, List.drop_of_length_le (by rw [HL.out]; omega)]; rfl)
        clear hi0
        go_wp2_with fail
        go_ret2
        rw [HF1.out, HF2.out]
        exact ⟨rfl, hb1⟩

set_option maxHeartbeats 16000000 in
set_option maxRecDepth 1000000 in
theorem rint_calls (s : ByteArray) (w : World) (hs : s.size ≤ 1099511627776) :
    Calls Tryz.prog 135 #[.string s] w fun e w' => e = .returned (.tuple #[.int .i64 ((rint s.data.toList).getD 0), .bool (rint s.data.toList).isSome]) ∧ Below w.heap.size w w' := by
  by_cases h0 : s.size = 0
  · have hem : s.toList.isEmpty = true := by rw [Lib.toList_data, nil_of_size h0]; rfl
    have HF : Hid (rint s.data.toList = none) := Lib.hid (by unfold rint; rw [if_pos (Or.inl (nil_of_size h0))])
    clear h0
    go_enter Tryz.func135, Tryz.ntmps135
    go_wp2_with fail
    go_ret2
    rw [HF.out]
    exact ⟨rfl, Below.refl _ _⟩
  have hp : 0 < s.size := by omega
  by_cases h45 : s.data.toList = [45, 48]
  · have hem := full hp
    have hb2 : (s.toList == [45, 48]) = true := by rw [Lib.toList_data]; simp [h45]
    have HF : Hid (rint s.data.toList = none) := Lib.hid (by unfold rint; rw [if_pos (Or.inr (Or.inl h45))])
    clear h0 h45
    go_enter Tryz.func135, Tryz.ntmps135
    go_wp2_with fail
    go_ret2
    rw [HF.out]
    exact ⟨rfl, Below.refl _ _⟩
  by_cases hn : number s.data.toList = s.data.toList.length
  · exact rint_go s w hs hp h45 hn
  · have hem := full hp
    have hb2 : (s.toList == [45, 48]) = false := by rw [Lib.toList_data]; simp [h45]
    have HF : Hid (rint s.data.toList = none) := Lib.hid (by unfold rint; rw [if_pos (Or.inr (Or.inr hn))])
    obtain ⟨n, hnn⟩ : ∃ n, number s.data.toList = n := ⟨_, rfl⟩
    have hns : n ≠ s.size := by rw [← hnn, Lib.size_eq]; exact hn
    have hnb : ((n : Int) != (s.size : Int)) = true := by simp; omega
    have HN := Lib.hid hnn
    clear h0 h45 hn hnn hns
    go_enter Tryz.func135, Tryz.ntmps135
    go_wp2_with fail
    refine (rnumber_calls s _ hs).mono ?_
    rintro e w1 ⟨rfl, hb⟩
    rw [HN.out]
    go_wp2_with fail
    go_ret2
    rw [HF.out]
    exact ⟨rfl, hb⟩
end Go.Proofs.YtndkbecdjaedaaaGreatDoor
