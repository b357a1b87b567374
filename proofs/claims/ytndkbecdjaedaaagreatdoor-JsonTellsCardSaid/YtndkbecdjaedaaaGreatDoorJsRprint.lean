/- The reference's print and Print: how right rows are printed. -/
import Derived.Test.YtndkbecdjaedaaaGreatDoorJsRkids
import Derived.Test.YtndkbecdjaedaaaGreatDoorJsSize
import Derived.Test.YtndkbecdjaedaaaGreatDoorJsEnd2
import Derived.Test.YtndkbecdjaedaaaGreatDoorJsPr3
import Derived.Test.YtndkbecdjaedaaaGreatDoorJtRef7
namespace Go.Proofs.YtndkbecdjaedaaaGreatDoor
open Go.RowKit

theorem cost_drop (l : List V) (k : Nat) : cost (l.drop k) ≤ cost l := by
  induction l generalizing k with
  | nil => simp
  | cons x t ih =>
    cases k with
    | zero => simp
    | succ k => have := ih k; simp only [List.drop_succ_cons, cost]; omega
theorem jm_next {g j : Nat} {L r : List V} {o : Bool} (h : (jrow g L).2 = r) : (jmany (g + 1) (j + 1) L o).1 = (if o = true then quote (headKey L) ++ [58] else []) ++ (jrow g L).1 ++ (if j = 0 then [] else 44 :: (jmany g j r o).1) := by
  simp only [jmany, h]
theorem join_run (a b : List UInt8) (ha : a.length ≤ 8796093022208) (hb : b.length ≤ 8796093022208) : ∀ w, (Op.stringOp .add (⟨a.toArray⟩ : ByteArray) ⟨b.toArray⟩).run Tryz.prog w = .ok (.string ⟨(a ++ b).toArray⟩) w := by
  intro w
  rw [run_string_add_sum (P := Tryz.prog) w (⟨a.toArray⟩ : ByteArray) ⟨b.toArray⟩ (by rw [data_size, data_size]; omega)]
  congr 2
def headT (L : List V) (o : Bool) : List UInt8 := if o = true then quote (headKey L) ++ [58] else []
def sepT (i : Nat) : List UInt8 := if i = 0 then [] else [44]

/-- What 'print' comes to. -/
def RPP (f : Nat) : Prop := ∀ (l : List V) (va : Value) (at' deep : Nat) (m : Bool) (r : List V) (w : World), rrow f (l.drop at') deep m = some r → Vs w va l → Fits l → l.length ≤ 1000000 → cost l ≤ 1000000000 → at' < l.length →
  Calls Tryz.prog 64 #[va, .int .i64 (at' : Int)] w fun e w' => e = .returned (.string ⟨((jrow f (l.drop at')).1).toArray⟩) ∧ Below w.heap.size w w'

set_option maxHeartbeats 16000000 in
set_option maxRecDepth 1000000 in
theorem rprint_step (f : Nat) (hR : ∀ g, g ≤ f → RPP g) : RPP (f + 1) := by
  intro l va at' deep m r w hrr h hf hl hco hal
  have hd : l.drop at' = l[at'] :: l.drop (at' + 1) := List.drop_eq_getElem_cons hal
  rw [hd] at hrr ⊢
  rcases h with ⟨rfl, _⟩ | ⟨bk, off, cap, rfl, hbk, hcells⟩
  · simp at hal
  have HV : Hid (Vs w (.slice (some ⟨bk, off, none⟩) l.length cap) l) := Lib.hid (.inr ⟨bk, off, cap, rfl, hbk, hcells⟩)
  have hfx := hf l[at'] (List.getElem_mem hal)
  obtain ⟨p0, p1, p2, p3⟩ := load4 (hcells at' hal)
  obtain ⟨x, hx⟩ : ∃ x, l[at'] = x := ⟨_, rfl⟩
  have HF := Lib.hid hf
  have HCO := Lib.hid hco
  rw [hx] at p0 p1 p2 p3 hfx hrr
  rw [hx]
  obtain ⟨hown, hkids⟩ := jrow_kind hrr
  have hways := (own_cases hown).2.2
  obtain ⟨J, hJ⟩ : ∃ J, (jrow (f + 1) (x :: l.drop (at' + 1))).1 = J := ⟨_, rfl⟩
  rw [hJ]
  simp only [jrow] at hJ
  have hx0 : (0 : Int) ≤ (at' : Int) := by omega
  have hx1 : (at' : Int) < (l.length : Int) := by omega
  obtain ⟨kd, key, text, count⟩ := x
  simp only [] at p0 p1 p2 p3 hfx hJ hways hkids
  have hBB : Below w.heap.size w (w.alloc (.cells #[.int .i64 kd, .string ⟨key.toArray⟩, .string ⟨text.toArray⟩, .int .i64 count] 56)) := (Below.refl _ _).alloc (Nat.le_refl _) _
  have HBB := Lib.hid hBB
  clear hcells hf hd hx hrr hown hco hBB
  rcases hways with ⟨hk, ht, hc⟩ | ⟨rfl, ht, hn, hc⟩ | ⟨rfl, ht, hc⟩ | ⟨hk, ht, hc⟩
  · subst ht hc
    have hw : J = wordK kd := by
      rw [← hJ, if_neg (by omega), if_neg (by omega), if_neg (by omega), if_neg (by omega)]
    have HJ := Lib.hid hw
    clear hJ hkids hw
    rcases hk with rfl | rfl | rfl
    all_goals
      go_enter Tryz.func64, Tryz.ntmps64
      go_wp2_with fail
      go_ret
      exact ⟨by rw [HJ.out]; rfl, HBB.out⟩
  · subst hc
    rw [if_pos rfl] at hJ
    have HJ := Lib.hid hJ
    clear hJ hkids ht hn
    go_enter Tryz.func64, Tryz.ntmps64
    go_wp2_with fail
    go_ret
    exact ⟨by rw [← HJ.out]; rfl, HBB.out⟩
  · subst hc
    rw [if_neg (by omega), if_pos rfl] at hJ
    have HJ : Hid (quote (⟨text.toArray⟩ : ByteArray).data.toList = J) := Lib.hid hJ
    have hts : (⟨text.toArray⟩ : ByteArray).size ≤ 1099511627776 := by rw [data_size]; exact hfx.2.1
    have HTS := Lib.hid hts
    clear hJ hkids hts ht
    go_enter Tryz.func64, Tryz.ntmps64
    go_wp2_with fail
    refine (rquote_calls ⟨text.toArray⟩ _ HTS.out).mono ?_
    rintro e2 w2 ⟨rfl, hb2⟩
    rw [HJ.out]
    go_wp2_with fail
    go_ret
    exact ⟨rfl, HBB.out.trans (hb2.mono HBB.out.size)⟩
  · subst ht
    obtain ⟨ob, hob⟩ : ∃ ob : Bool, (kd == 6) = ob := ⟨_, rfl⟩
    obtain ⟨cn, hcn⟩ : ∃ cn, count.toNat = cn := ⟨_, rfl⟩
    obtain ⟨M, hM⟩ : ∃ M, (jmany f cn (l.drop (at' + 1)) ob).1 = M := ⟨_, rfl⟩
    rw [hob, hcn] at hkids
    have hMs := (all_size f).2 _ _ _ _ _ _ hkids
    rw [hM] at hMs
    have hMl : M.length ≤ 1000000000 := by
      have h1 := cost_drop l (at' + 1); have h2 := HCO.out; omega
    have hJM : J = (if kd = 6 then 123 else 91) :: (M ++ [if kd = 6 then 125 else 93]) := by
      rw [← hJ, if_neg (by omega), if_neg (by omega), hcn, ← hM]
      rcases hk with rfl | rfl
      · rw [if_pos rfl, if_neg (by decide), if_neg (by decide), ← hob]; rfl
      · rw [if_neg (by decide), if_pos rfl, if_pos rfl, if_pos rfl, ← hob]; rfl
    have HJ := Lib.hid hJM
    have HCN := Lib.hid hcn
    have hcn0 : count = (cn : Int) := by omega
    have HG0 : Hid (∃ g names, rkids g (cn - 0) (l.drop (at' + 1)) (deep + 1) ob names = some r ∧ g ≤ f ∧ M = [] ++ (if cn - 0 = 0 then [] else sepT 0 ++ (jmany g (cn - 0) (l.drop (at' + 1)) ob).1)) := Lib.hid ⟨f, [], hkids, Nat.le_refl _, by
      rw [Nat.sub_zero, hM]
      split
      · rename_i h0; rw [← hM, h0, jmany_zero]; rfl
      · rfl⟩
    have hcn1 : (cn : Int) ≤ 9223372036854775807 := by have := hfx.2.2; omega
    have HBX : Hid ((w.alloc (.cells #[.int .i64 kd, .string ⟨key.toArray⟩, .string ⟨#[]⟩, .int .i64 count] 56)).heap[w.heap.size]? = some (.cells #[.int .i64 kd, .string ⟨key.toArray⟩, .string ⟨#[]⟩, .int .i64 count] 56)) := Lib.hid (heap_alloc_new w _)
    clear hJ hkids hJM hM hMs hcn
    subst hcn0
    go_enter Tryz.func64, Tryz.ntmps64
    rcases hk with rfl | rfl
    · --many
      obtain rfl : ob = false := by rw [← hob]; rfl
      clear hob
      go_wp2_with fail
      generalize hw1 : w.alloc (.cells #[.int .i64 5, .string ⟨key.toArray⟩, .string ⟨#[]⟩, .int .i64 (cn : Int)] 56) = w1 at *
      clear hw1
      go_loopw [6, 7, 8] (fun vs vk vi wr => ∃ (i k : Nat) (T : List UInt8), vi = .int .i64 (i : Int) ∧ vk = .int .i64 (k : Int) ∧ vs = .string ⟨T.toArray⟩ ∧ i ≤ cn ∧ k ≤ l.length ∧ Hid (∃ g names, rkids g (cn - i) (l.drop k) (deep + 1) false names = some r ∧ g ≤ f ∧ M = T ++ (if cn - i = 0 then [] else sepT i ++ (jmany g (cn - i) (l.drop k) false).1)) ∧
        Hid (wr.heap[w.heap.size]? = some (.cells #[.int .i64 5, .string ⟨key.toArray⟩, .string ⟨#[]⟩, .int .i64 (cn : Int)] 56)) ∧ Hid (Below w.heap.size w wr)) (fun _ _ vi _ => cn - (intOf vi).toNat)
      case atStart => exact ⟨0, at' + 1, [], rfl, by go_num, rfl, Nat.zero_le _, by omega, HG0, HBX, HBB⟩
      case round =>
        obtain ⟨i, k, T, rfl, rfl, rfl, hi, hk, HG, HX, HB⟩ := hrel
        obtain ⟨x0, x1, x2, x3⟩ := four HX.out
        by_cases hic : i < cn
        · have hpre : ∃ g' j' y r', cn - i = j' + 1 ∧ g' ≤ f ∧ k < l.length ∧ l.drop k = y :: l.drop (k + 1) ∧ l[k]? = some y ∧ rrow g' (l.drop k) (deep + 1) false = some r' ∧ (∃ names, rkids g' j' r' (deep + 1) false names = some r) ∧
              M = T ++ sepT i ++ headT (l.drop k) false ++ (jrow g' (l.drop k)).1 ++ (if j' = 0 then [] else 44 :: (jmany g' j' r' false).1) := by
            obtain ⟨g, names, hg, hgf, hM⟩ := HG.out
            obtain ⟨j', hj'⟩ : ∃ j', cn - i = j' + 1 := ⟨cn - i - 1, by omega⟩
            rw [hj'] at hg hM
            by_cases hkl : k < l.length
            · have hdk : l.drop k = l[k] :: l.drop (k + 1) := List.drop_eq_getElem_cons hkl
              cases g with
              | zero => rw [hdk] at hg; simp [rkids] at hg
              | succ g' =>
                rw [hdk, rkids_next] at hg
                split at hg
                · cases hg
                · rw [← hdk] at hg
                  cases hrw : rrow g' (l.drop k) (deep + 1) false with
                  | none => rw [hrw] at hg; cases hg
                  | some r' =>
                    rw [hrw] at hg
                    obtain ⟨_, _, _, hj2, _⟩ := (both_back g').1 _ _ _ _ hrw
                    refine ⟨g', j', l[k], r', hj', by omega, hkl, hdk, List.getElem?_eq_getElem hkl, hrw, ⟨_, hg⟩, ?_⟩
                    rw [hM, if_neg (by omega), jm_next hj2]
                    unfold headT
                    simp only [List.append_assoc]
            · rw [List.drop_eq_nil_of_le (by omega), rkids_none] at hg
              cases hg
          obtain ⟨g', j', y, r', hj', hgf, hkl, hdk, hy, hrw, hrest, hM⟩ := hpre
          have hje := row_end hrw hkl
          obtain ⟨htl, hrl⟩ := rrow_tail hrw (by omega)
          obtain ⟨k2, hk2⟩ : ∃ k2, l.length - r'.length = k2 := ⟨_, rfl⟩
          rw [hk2] at hje htl
          have hcall := fun w3 hv => hR g' hgf l (.slice (some ⟨bk, off, none⟩) l.length cap) k (deep + 1) false r' w3 hrw hv HF.out hl HCO.out hkl
          obtain ⟨PR, hPR⟩ : ∃ PR, (jrow g' (l.drop k)).1 = PR := ⟨_, rfl⟩
          rw [hPR] at hcall hM
          obtain ⟨T1, hT1⟩ : ∃ T1, T ++ sepT i = T1 := ⟨_, rfl⟩
          rw [hT1] at hM
          obtain ⟨HD, hHD⟩ : ∃ HD, headT (l.drop k) false = HD := ⟨_, rfl⟩
          rw [hHD] at hM
          obtain ⟨T2, hT2⟩ : ∃ T2, T1 ++ HD = T2 := ⟨_, rfl⟩
          rw [hT2] at hM
          obtain ⟨T3, hT3⟩ : ∃ T3, T2 ++ PR = T3 := ⟨_, rfl⟩
          rw [hT3] at hM
          have hMlen := congrArg List.length hM
          rw [List.length_append] at hMlen
          have l3 : T3.length ≤ 1000000000 := by omega
          have l2 : T2.length + PR.length = T3.length := by rw [← hT3, List.length_append]
          have l1 : T1.length + HD.length = T2.length := by rw [← hT2, List.length_append]
          have l0 : T.length + (sepT i).length = T1.length := by rw [← hT1, List.length_append]
          have run3 := join_run T2 PR (by omega) (by omega)
          rw [hT3] at run3
          have HG3 : Hid (∃ g names, rkids g (cn - (i + 1)) (l.drop k2) (deep + 1) false names = some r ∧ g ≤ f ∧ M = T3 ++ (if cn - (i + 1) = 0 then [] else sepT (i + 1) ++ (jmany g (cn - (i + 1)) (l.drop k2) false).1)) := Lib.hid (by
            obtain ⟨names, hn⟩ := hrest
            refine ⟨g', names, ?_, hgf, ?_⟩
            · rw [← htl, show cn - (i + 1) = j' by omega]; exact hn
            · rw [← htl, show cn - (i + 1) = j' by omega, hM]
              congr 1)
          have HCALL := Lib.hid hcall
          have HJE := Lib.hid hje
          have hyf : y.key.length ≤ 1099511627776 := (HF.out y (List.mem_of_getElem? hy)).1
          have hy1 : ∀ w3 : World, Below w.heap.size w w3 → w3.cell? ⟨bk, off + k * 4 + 1, none⟩ = some (.string ⟨y.key.toArray⟩) := fun w3 hb3 => by
            rcases HV.out.kept hb3 with ⟨rfl, _⟩ | ⟨_, _, _, he, _, hc⟩
            · simp at hkl
            · simp only [Value.slice.injEq, Option.some.injEq, Addr.mk.injEq] at he
              obtain ⟨⟨rfl, rfl, _⟩, _, _⟩ := he
              have := (load4 (hc k hkl)).2.1
              rw [List.getElem?_eq_getElem hkl, Option.some.injEq] at hy
              rw [hy] at this
              exact this
          have HY1 := Lib.hid hy1
          have hk0 : (0 : Int) ≤ (k : Int) := by omega
          have hk1 : (k : Int) < (l.length : Int) := by omega
          have hk2l : k2 ≤ l.length := by omega
          have hic' : (i : Int) < (cn : Int) := by omega
          have HDK := Lib.hid hdk
          clear hcall hje hM hMlen hPR htl hrl hrw hrest hj' hdk hk2 hy1 hT3
          by_cases hi0 : i = 0
          · have hi0' : ¬ (0 : Int) < (i : Int) := by omega
            have hT1' : T1 = T := by rw [← hT1, hi0]; simp [sepT]
            subst hT1'
            clear hT1 hi0 l0
            have hT2' : T2 = T1 := by rw [← hT2, ← hHD]; simp [headT]
            subst hT2'
            clear hT2 hHD l1
            go_wp2_with fail
            refine (HCALL.out _ (HV.out.kept HB.out)).mono ?_
            rintro e5 w5 ⟨rfl, hb5⟩
            have HB5 := Lib.hid (HB.out.trans (hb5.mono HB.out.size))
            have HX5 := Lib.hid ((hb5.block _ (lt_of_block HX.out)).trans HX.out)
            clear x0 x1 x2 x3 hb5
            go_wp2_with fail
            refine (rend_calls _ l (k : Int) _ (HV.out.kept HB5.out) (by omega) (by omega) hl).mono ?_
            rintro e6 w6 ⟨rfl, rfl⟩
            rw [HJE.out]
            go_wp2_with fail
            go_roundw
            case rel => exact ⟨i + 1, k2, T3, by go_num, rfl, rfl, by omega, hk2l, HG3, HX5, HB5⟩
            case measure => simp [intOf]; omega
          · have hi0' : (0 : Int) < (i : Int) := by omega
            have hsep : sepT i = [44] := by unfold sepT; rw [if_neg hi0]
            have run1 := join_run T [44] (by omega) (by decide)
            rw [hsep] at hT1 l0
            rw [hT1] at run1
            clear hT1 hi0 l0 hsep
            have hT2' : T2 = T1 := by rw [← hT2, ← hHD]; simp [headT]
            subst hT2'
            clear hT2 hHD l1
            go_wp2_with fail
            refine (HCALL.out _ (HV.out.kept HB.out)).mono ?_
            rintro e5 w5 ⟨rfl, hb5⟩
            have HB5 := Lib.hid (HB.out.trans (hb5.mono HB.out.size))
            have HX5 := Lib.hid ((hb5.block _ (lt_of_block HX.out)).trans HX.out)
            clear x0 x1 x2 x3 hb5
            go_wp2_with fail
            refine (rend_calls _ l (k : Int) _ (HV.out.kept HB5.out) (by omega) (by omega) hl).mono ?_
            rintro e6 w6 ⟨rfl, rfl⟩
            rw [HJE.out]
            go_wp2_with fail
            go_roundw
            case rel => exact ⟨i + 1, k2, T3, by go_num, rfl, rfl, by omega, hk2l, HG3, HX5, HB5⟩
            case measure => simp [intOf]; omega
        · have hce : cn = i := by omega
          have hTM : M = T := by
            obtain ⟨g, names, hg, hgf, hM⟩ := HG.out
            rw [if_pos (by omega), List.append_nil] at hM
            exact hM
          subst hTM hce
          have r1 := join_run [91] M (by decide) (by omega)
          obtain ⟨U, hU⟩ : ∃ U, [91] ++ M = U := ⟨_, rfl⟩
          have lU : U.length ≤ 1000000001 := by rw [← hU]; simp; omega
          have r2 := join_run U [93] (by omega) (by decide)
          obtain ⟨U2, hU2⟩ : ∃ U2, U ++ [93] = U2 := ⟨_, rfl⟩
          rw [hU] at r1
          rw [hU2] at r2
          have HU : Hid (J = U2) := Lib.hid (by rw [HJ.out, ← hU2, ← hU]; simp)
          clear hU hU2 lU
          go_wp2_with fail
          go_ret
          exact ⟨by rw [HU.out]; rfl, HB.out⟩
    · --many
      obtain rfl : ob = true := by rw [← hob]; rfl
      clear hob
      go_wp2_with fail
      generalize hw1 : w.alloc (.cells #[.int .i64 6, .string ⟨key.toArray⟩, .string ⟨#[]⟩, .int .i64 (cn : Int)] 56) = w1 at *
      clear hw1
      go_loopw [6, 7, 8] (fun vs vk vi wr => ∃ (i k : Nat) (T : List UInt8), vi = .int .i64 (i : Int) ∧ vk = .int .i64 (k : Int) ∧ vs = .string ⟨T.toArray⟩ ∧ i ≤ cn ∧ k ≤ l.length ∧ Hid (∃ g names, rkids g (cn - i) (l.drop k) (deep + 1) true names = some r ∧ g ≤ f ∧ M = T ++ (if cn - i = 0 then [] else sepT i ++ (jmany g (cn - i) (l.drop k) true).1)) ∧
        Hid (wr.heap[w.heap.size]? = some (.cells #[.int .i64 6, .string ⟨key.toArray⟩, .string ⟨#[]⟩, .int .i64 (cn : Int)] 56)) ∧ Hid (Below w.heap.size w wr)) (fun _ _ vi _ => cn - (intOf vi).toNat)
      case atStart => exact ⟨0, at' + 1, [], rfl, by go_num, rfl, Nat.zero_le _, by omega, HG0, HBX, HBB⟩
      case round =>
        obtain ⟨i, k, T, rfl, rfl, rfl, hi, hk, HG, HX, HB⟩ := hrel
        obtain ⟨x0, x1, x2, x3⟩ := four HX.out
        by_cases hic : i < cn
        · have hpre : ∃ g' j' y r', cn - i = j' + 1 ∧ g' ≤ f ∧ k < l.length ∧ l.drop k = y :: l.drop (k + 1) ∧ l[k]? = some y ∧ rrow g' (l.drop k) (deep + 1) true = some r' ∧ (∃ names, rkids g' j' r' (deep + 1) true names = some r) ∧
              M = T ++ sepT i ++ headT (l.drop k) true ++ (jrow g' (l.drop k)).1 ++ (if j' = 0 then [] else 44 :: (jmany g' j' r' true).1) := by
            obtain ⟨g, names, hg, hgf, hM⟩ := HG.out
            obtain ⟨j', hj'⟩ : ∃ j', cn - i = j' + 1 := ⟨cn - i - 1, by omega⟩
            rw [hj'] at hg hM
            by_cases hkl : k < l.length
            · have hdk : l.drop k = l[k] :: l.drop (k + 1) := List.drop_eq_getElem_cons hkl
              cases g with
              | zero => rw [hdk] at hg; simp [rkids] at hg
              | succ g' =>
                rw [hdk, rkids_next] at hg
                split at hg
                · cases hg
                · rw [← hdk] at hg
                  cases hrw : rrow g' (l.drop k) (deep + 1) true with
                  | none => rw [hrw] at hg; cases hg
                  | some r' =>
                    rw [hrw] at hg
                    obtain ⟨_, _, _, hj2, _⟩ := (both_back g').1 _ _ _ _ hrw
                    refine ⟨g', j', l[k], r', hj', by omega, hkl, hdk, List.getElem?_eq_getElem hkl, hrw, ⟨_, hg⟩, ?_⟩
                    rw [hM, if_neg (by omega), jm_next hj2]
                    unfold headT
                    simp only [List.append_assoc]
            · rw [List.drop_eq_nil_of_le (by omega), rkids_none] at hg
              cases hg
          obtain ⟨g', j', y, r', hj', hgf, hkl, hdk, hy, hrw, hrest, hM⟩ := hpre
          have hje := row_end hrw hkl
          obtain ⟨htl, hrl⟩ := rrow_tail hrw (by omega)
          obtain ⟨k2, hk2⟩ : ∃ k2, l.length - r'.length = k2 := ⟨_, rfl⟩
          rw [hk2] at hje htl
          have hcall := fun w3 hv => hR g' hgf l (.slice (some ⟨bk, off, none⟩) l.length cap) k (deep + 1) true r' w3 hrw hv HF.out hl HCO.out hkl
          obtain ⟨PR, hPR⟩ : ∃ PR, (jrow g' (l.drop k)).1 = PR := ⟨_, rfl⟩
          rw [hPR] at hcall hM
          obtain ⟨T1, hT1⟩ : ∃ T1, T ++ sepT i = T1 := ⟨_, rfl⟩
          rw [hT1] at hM
          obtain ⟨HD, hHD⟩ : ∃ HD, headT (l.drop k) true = HD := ⟨_, rfl⟩
          rw [hHD] at hM
          obtain ⟨T2, hT2⟩ : ∃ T2, T1 ++ HD = T2 := ⟨_, rfl⟩
          rw [hT2] at hM
          obtain ⟨T3, hT3⟩ : ∃ T3, T2 ++ PR = T3 := ⟨_, rfl⟩
          rw [hT3] at hM
          have hMlen := congrArg List.length hM
          rw [List.length_append] at hMlen
          have l3 : T3.length ≤ 1000000000 := by omega
          have l2 : T2.length + PR.length = T3.length := by rw [← hT3, List.length_append]
          have l1 : T1.length + HD.length = T2.length := by rw [← hT2, List.length_append]
          have l0 : T.length + (sepT i).length = T1.length := by rw [← hT1, List.length_append]
          have run3 := join_run T2 PR (by omega) (by omega)
          rw [hT3] at run3
          have HG3 : Hid (∃ g names, rkids g (cn - (i + 1)) (l.drop k2) (deep + 1) true names = some r ∧ g ≤ f ∧ M = T3 ++ (if cn - (i + 1) = 0 then [] else sepT (i + 1) ++ (jmany g (cn - (i + 1)) (l.drop k2) true).1)) := Lib.hid (by
            obtain ⟨names, hn⟩ := hrest
            refine ⟨g', names, ?_, hgf, ?_⟩
            · rw [← htl, show cn - (i + 1) = j' by omega]; exact hn
            · rw [← htl, show cn - (i + 1) = j' by omega, hM]
              congr 1)
          have HCALL := Lib.hid hcall
          have HJE := Lib.hid hje
          have hyf : y.key.length ≤ 1099511627776 := (HF.out y (List.mem_of_getElem? hy)).1
          have hy1 : ∀ w3 : World, Below w.heap.size w w3 → w3.cell? ⟨bk, off + k * 4 + 1, none⟩ = some (.string ⟨y.key.toArray⟩) := fun w3 hb3 => by
            rcases HV.out.kept hb3 with ⟨rfl, _⟩ | ⟨_, _, _, he, _, hc⟩
            · simp at hkl
            · simp only [Value.slice.injEq, Option.some.injEq, Addr.mk.injEq] at he
              obtain ⟨⟨rfl, rfl, _⟩, _, _⟩ := he
              have := (load4 (hc k hkl)).2.1
              rw [List.getElem?_eq_getElem hkl, Option.some.injEq] at hy
              rw [hy] at this
              exact this
          have HY1 := Lib.hid hy1
          have hk0 : (0 : Int) ≤ (k : Int) := by omega
          have hk1 : (k : Int) < (l.length : Int) := by omega
          have hk2l : k2 ≤ l.length := by omega
          have hic' : (i : Int) < (cn : Int) := by omega
          have HDK := Lib.hid hdk
          clear hcall hje hM hMlen hPR htl hrl hrw hrest hj' hdk hk2 hy1 hT3
          by_cases hi0 : i = 0
          · have hi0' : ¬ (0 : Int) < (i : Int) := by omega
            have hT1' : T1 = T := by rw [← hT1, hi0]; simp [sepT]
            subst hT1'
            clear hT1 hi0 l0
            have hQ : HD = quote y.key ++ [58] := by rw [← hHD, HDK.out]; rfl
            obtain ⟨Q, hQe⟩ : ∃ Q, quote y.key = Q := ⟨_, rfl⟩
            have HQE : Hid (quote (⟨y.key.toArray⟩ : ByteArray).data.toList = Q) := Lib.hid hQe
            rw [hQe] at hQ
            have lQ : HD.length = Q.length + 1 := by rw [hQ]; simp
            have runq := join_run T1 Q (by omega) (by omega)
            obtain ⟨TQ, hTQ⟩ : ∃ TQ, T1 ++ Q = TQ := ⟨_, rfl⟩
            have lTQ : TQ.length = T1.length + Q.length := by rw [← hTQ, List.length_append]
            have run2 := join_run TQ [58] (by omega) (by decide)
            have hT2e : TQ ++ [58] = T2 := by rw [← hT2, hQ, ← hTQ, List.append_assoc]
            rw [hTQ] at runq
            rw [hT2e] at run2
            have yc := HY1.out wr HB.out
            have hks : (⟨y.key.toArray⟩ : ByteArray).size ≤ 1099511627776 := by rw [data_size]; exact hyf
            have HKS := Lib.hid hks
            clear hT2 hHD l1 hQ hQe lQ hTQ lTQ hT2e hks
            go_wp2_with fail
            refine (rquote_calls ⟨y.key.toArray⟩ _ HKS.out).mono ?_
            rintro eq wq ⟨rfl, hbq⟩
            rw [HQE.out]
            have HBq := Lib.hid (HB.out.trans (hbq.mono HB.out.size))
            have HXq := Lib.hid ((hbq.block _ (lt_of_block HX.out)).trans HX.out)
            clear x0 x1 x2 x3 yc hbq
            obtain ⟨x0, x1, x2, x3⟩ := four HXq.out
            go_wp2_with fail
            refine (HCALL.out _ (HV.out.kept HBq.out)).mono ?_
            rintro e5 w5 ⟨rfl, hb5⟩
            have HB5 := Lib.hid (HBq.out.trans (hb5.mono HBq.out.size))
            have HX5 := Lib.hid ((hb5.block _ (lt_of_block HXq.out)).trans HXq.out)
            clear x0 x1 x2 x3 hb5
            go_wp2_with fail
            refine (rend_calls _ l (k : Int) _ (HV.out.kept HB5.out) (by omega) (by omega) hl).mono ?_
            rintro e6 w6 ⟨rfl, rfl⟩
            rw [HJE.out]
            go_wp2_with fail
            go_roundw
            case rel => exact ⟨i + 1, k2, T3, by go_num, rfl, rfl, by omega, hk2l, HG3, HX5, HB5⟩
            case measure => simp [intOf]; omega
          · have hi0' : (0 : Int) < (i : Int) := by omega
            have hsep : sepT i = [44] := by unfold sepT; rw [if_neg hi0]
            have run1 := join_run T [44] (by omega) (by decide)
            rw [hsep] at hT1 l0
            rw [hT1] at run1
            clear hT1 hi0 l0 hsep
            have hQ : HD = quote y.key ++ [58] := by rw [← hHD, HDK.out]; rfl
            obtain ⟨Q, hQe⟩ : ∃ Q, quote y.key = Q := ⟨_, rfl⟩
            have HQE : Hid (quote (⟨y.key.toArray⟩ : ByteArray).data.toList = Q) := Lib.hid hQe
            rw [hQe] at hQ
            have lQ : HD.length = Q.length + 1 := by rw [hQ]; simp
            have runq := join_run T1 Q (by omega) (by omega)
            obtain ⟨TQ, hTQ⟩ : ∃ TQ, T1 ++ Q = TQ := ⟨_, rfl⟩
            have lTQ : TQ.length = T1.length + Q.length := by rw [← hTQ, List.length_append]
            have run2 := join_run TQ [58] (by omega) (by decide)
            have hT2e : TQ ++ [58] = T2 := by rw [← hT2, hQ, ← hTQ, List.append_assoc]
            rw [hTQ] at runq
            rw [hT2e] at run2
            have yc := HY1.out wr HB.out
            have hks : (⟨y.key.toArray⟩ : ByteArray).size ≤ 1099511627776 := by rw [data_size]; exact hyf
            have HKS := Lib.hid hks
            clear hT2 hHD l1 hQ hQe lQ hTQ lTQ hT2e hks
            go_wp2_with fail
            refine (rquote_calls ⟨y.key.toArray⟩ _ HKS.out).mono ?_
            rintro eq wq ⟨rfl, hbq⟩
            rw [HQE.out]
            have HBq := Lib.hid (HB.out.trans (hbq.mono HB.out.size))
            have HXq := Lib.hid ((hbq.block _ (lt_of_block HX.out)).trans HX.out)
            clear x0 x1 x2 x3 yc hbq
            obtain ⟨x0, x1, x2, x3⟩ := four HXq.out
            go_wp2_with fail
            refine (HCALL.out _ (HV.out.kept HBq.out)).mono ?_
            rintro e5 w5 ⟨rfl, hb5⟩
            have HB5 := Lib.hid (HBq.out.trans (hb5.mono HBq.out.size))
            have HX5 := Lib.hid ((hb5.block _ (lt_of_block HXq.out)).trans HXq.out)
            clear x0 x1 x2 x3 hb5
            go_wp2_with fail
            refine (rend_calls _ l (k : Int) _ (HV.out.kept HB5.out) (by omega) (by omega) hl).mono ?_
            rintro e6 w6 ⟨rfl, rfl⟩
            rw [HJE.out]
            go_wp2_with fail
            go_roundw
            case rel => exact ⟨i + 1, k2, T3, by go_num, rfl, rfl, by omega, hk2l, HG3, HX5, HB5⟩
            case measure => simp [intOf]; omega
        · have hce : cn = i := by omega
          have hTM : M = T := by
            obtain ⟨g, names, hg, hgf, hM⟩ := HG.out
            rw [if_pos (by omega), List.append_nil] at hM
            exact hM
          subst hTM hce
          have r1 := join_run [123] M (by decide) (by omega)
          obtain ⟨U, hU⟩ : ∃ U, [123] ++ M = U := ⟨_, rfl⟩
          have lU : U.length ≤ 1000000001 := by rw [← hU]; simp; omega
          have r2 := join_run U [125] (by omega) (by decide)
          obtain ⟨U2, hU2⟩ : ∃ U2, U ++ [125] = U2 := ⟨_, rfl⟩
          rw [hU] at r1
          rw [hU2] at r2
          have HU : Hid (J = U2) := Lib.hid (by rw [HJ.out, ← hU2, ← hU]; simp)
          clear hU hU2 lU
          go_wp2_with fail
          go_ret
          exact ⟨by rw [HU.out]; rfl, HB.out⟩

theorem rprint_any : ∀ f : Nat, RPP f := by
  intro f
  induction f using Nat.strongRecOn with
  | _ f ih =>
    match f with
    | 0 => intro l va at' deep m r w hrr; simp [rrow] at hrr
    | f + 1 => exact rprint_step f (fun g hg => ih g (by omega))

def RprR (JR : Bool) (J : List UInt8) (e : Ending) (w' : World) : Prop := ∃ vp, e = .returned (.tuple #[vp, .bool JR]) ∧ ((JR = false ∧ vp = .slice none 0 0) ∨ (JR = true ∧ Bs w' vp J))
set_option maxHeartbeats 8000000 in
set_option maxRecDepth 1000000 in
/-- The reference's Print. -/
theorem rPrint_calls (va : Value) (l : List V) (w : World) (h : Vs w va l) (hf : Fits l) (hl : l.length ≤ 1000000) (hj : jright l = true → cost l ≤ 1000000000) :
    Calls Tryz.prog 32 #[va] w fun e w' => RprR (jright l) (jprint l) e w' ∧ Below w.heap.size w w' := by
  obtain ⟨a, c, hv⟩ := h.len
  obtain ⟨JR, hJR⟩ : ∃ JR, jright l = JR := ⟨_, rfl⟩
  obtain ⟨JP, hJP⟩ : ∃ JP, jprint l = JP := ⟨_, rfl⟩
  have HJR := Lib.hid hJR
  have HJP := Lib.hid hJP
  have HH := Lib.hid h
  have HF := Lib.hid hf
  rw [hJR] at hj
  rw [hJR, hJP]
  clear h hf hJR hJP
  subst hv
  go_enter Tryz.func32, Tryz.ntmps32
  go_wp2_with fail
  refine (rRight_calls _ l _ HH.out HF.out hl).mono ?_
  rintro e1 w1 ⟨rfl, hb1⟩
  rw [HJR.out]
  have B1 := Lib.hid hb1
  clear hb1
  cases JR with
  | false =>
    go_wp2_with fail
    go_ret2
    exact ⟨⟨_, rfl, .inl ⟨rfl, rfl⟩⟩, B1.out⟩
  | true =>
    have hr := (right_row HJR.out).2
    have hne : 0 < l.length := by
      cases l with
      | nil => simp [rrow] at hr
      | cons x t => simp
    have hcall := fun w3 hv => rprint_any _ l (.slice a l.length c) 0 0 false [] w3 hr hv HF.out hl (hj rfl) hne
    rw [List.drop_zero] at hcall
    have hJP2 : (jrow (2 * l.length + 2) l).1 = JP := HJP.out
    rw [hJP2] at hcall
    have HC := Lib.hid hcall
    have hconv := fun w => run_bytes_of_string (P := Tryz.prog) w 9 22 5 ⟨JP.toArray⟩ Tryz.underlying9 Tryz.underlying22 Tryz.underlying5
    clear hr hcall hJP2 hj
    go_wp2_with fail
    refine (HC.out _ (HH.out.kept B1.out)).mono ?_
    rintro e2 w2 ⟨rfl, hb2⟩
    have B2 := Lib.hid (B1.out.trans (hb2.mono B1.out.size))
    clear hb2
    go_wp2_with fail
    go_ret2
    refine ⟨⟨_, rfl, .inr ⟨rfl, ?_⟩⟩, ?_⟩
    · exact bs_conv w2 JP _ _ _
    · exact (B2.out.alloc B2.out.size _).drew
end Go.Proofs.YtndkbecdjaedaaaGreatDoor
