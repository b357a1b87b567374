/- The reference's right: which rows are right. -/
import Derived.Test.YtndkbecdjaedaaaGreatDoorJsRown
import Derived.Test.YtndkbecdjaedaaaGreatDoorJsRt
import Derived.Test.YtndkbecdjaedaaaGreatDoorJsVs
import Derived.BigQuiet
import Derived.Deep.QuietTactic
namespace Go.Proofs.YtndkbecdjaedaaaGreatDoor
open Go.RowKit

/-- The place behind a row; below 0: it is not right. -/
def rres (l : List V) : Option (List V) → Int
  | some r => (l.length : Int) - r.length
  | none => -1
def scells (names : List (List UInt8)) : List Value := names.map fun k => .string ⟨k.toArray⟩
theorem scells_len (n : List (List UInt8)) : (scells n).length = n.length := by simp [scells]
theorem own_len {w : World} {base size n : Nat} {e : TypeId} {v : Value} {xs : List Value} (h : w.ownsRow base e size v n xs) : ∃ a c, v = .slice a n c := by
  rcases h.2 with ⟨hv, h0⟩ | ⟨g, cap, cur, hv, _⟩
  · exact ⟨none, 0, by rw [hv, h0]⟩
  · exact ⟨_, _, hv⟩
theorem infoStr : (Tryz.prog.info? 9).map (fun i => (i.zero, i.size, i.bytes)) = some (some (.string ⟨#[]⟩), 1, 16) := by kernel_rfl
theorem rkids_none (g k : Nat) (deep : Nat) (o : Bool) (n : List (List UInt8)) : rkids g (k + 1) [] deep o n = none := by cases g <;> simp [rkids]
theorem rkids_next (g k : Nat) (y : V) (t : List V) (deep : Nat) (o : Bool) (n : List (List UInt8)) : rkids (g + 1) (k + 1) (y :: t) deep o n = if (o && n.contains y.key) = true then none else match rrow g (y :: t) deep o with
    | none => none
    | some r' => rkids g k r' deep o (y.key :: n) := by
  simp only [rkids]
  by_cases h : (o && n.contains y.key) = true
  · rw [if_pos h, if_pos h]
  · rw [if_neg h, if_neg h]
    cases rrow g (y :: t) deep o <;> rfl
theorem rrow_tail {g deep : Nat} {m : Bool} {l : List V} {k : Nat} {r : List V} (h : rrow g (l.drop k) deep m = some r) (hk : k ≤ l.length) : r = l.drop (l.length - r.length) ∧ r.length < l.length - k := by
  obtain ⟨vs, hvs, hl, _⟩ := (both_back g).1 _ _ _ _ h
  have hlen := congrArg List.length hvs
  rw [List.length_drop, List.length_append] at hlen
  have he : l.length - r.length = k + vs.length := by omega
  refine ⟨?_, by omega⟩
  rw [he, ← List.drop_drop, hvs, List.drop_left]

/-- What 'right' comes to, for fuel of the plain row. -/
def RRP (f : Nat) : Prop := ∀ (l : List V) (va : Value) (at' deep : Nat) (m : Bool) (w : World), Vs w va l → Fits l → l.length ≤ 1000000 → at' ≤ l.length → deep ≤ 50 → 2 * (l.length - at') ≤ f →
  Calls Tryz.prog 69 #[va, .int .i64 (at' : Int), .int .i64 (deep : Int), .bool m] w fun e w' => e = .returned (.int .i64 (rres l (rrow f (l.drop at') deep m))) ∧ Below w.heap.size w w'

theorem key_neq {a b : List UInt8} (h : a ≠ b) : ((⟨a.toArray⟩ : ByteArray).toList == (⟨b.toArray⟩ : ByteArray).toList) = false := by
  rw [Lib.toList_data, Lib.toList_data]
  simpa using h
theorem key_eq {a b : List UInt8} (h : a = b) : ((⟨a.toArray⟩ : ByteArray).toList == (⟨b.toArray⟩ : ByteArray).toList) = true := by
  subst h; simp

set_option maxHeartbeats 16000000 in
set_option maxRecDepth 1000000 in
theorem right_end (l : List V) (va : Value) (at' deep : Nat) (m : Bool) (w : World) (h : Vs w va l) (hat : at' = l.length) :
    Calls Tryz.prog 69 #[va, .int .i64 (at' : Int), .int .i64 (deep : Int), .bool m] w fun e w' => e = .returned (.int .i64 (-1)) ∧ Below w.heap.size w w' := by
  obtain ⟨a, c, hv⟩ := h.len
  subst hv hat
  clear h
  go_enter Tryz.func69, Tryz.ntmps69
  go_wp2_with fail
  go_ret
  exact ⟨rfl, Below.refl _ _⟩

set_option maxHeartbeats 16000000 in
set_option maxRecDepth 1000000 in
theorem rright_step (f : Nat) (hR : ∀ g, g ≤ f → RRP g) : RRP (f + 1) := by
  intro l va at' deep m w h hf hl hat hdp hfu
  by_cases hae : at' = l.length
  · have hd : l.drop at' = [] := by rw [hae]; simp
    rw [hd]
    exact right_end l va at' deep m w h hae
  have hal : at' < l.length := by omega
  have hd : l.drop at' = l[at'] :: l.drop (at' + 1) := List.drop_eq_getElem_cons hal
  rw [hd]
  obtain ⟨i0, hi0, hz0, hz1, hz2⟩ := info_parts infoStr
  rcases h with ⟨rfl, _⟩ | ⟨bk, off, cap, rfl, hbk, hcells⟩
  · simp at hal
  have HV : Hid (Vs w (.slice (some ⟨bk, off, none⟩) l.length cap) l) := Lib.hid (.inr ⟨bk, off, cap, rfl, hbk, hcells⟩)
  have hfx := hf l[at'] (List.getElem_mem hal)
  obtain ⟨p0, p1, p2, p3⟩ := load4 (hcells at' hal)
  obtain ⟨x, hx⟩ : ∃ x, l[at'] = x := ⟨_, rfl⟩
  have HX := Lib.hid hx
  have HF := Lib.hid hf
  rw [hx] at p0 p1 p2 p3 hfx
  rw [hx]
  obtain ⟨R, hRR⟩ : ∃ R, rrow (f + 1) (x :: l.drop (at' + 1)) deep m = R := ⟨_, rfl⟩
  rw [hRR]
  simp only [rrow] at hRR
  have hx0 : (0 : Int) ≤ (at' : Int) := by omega
  have hx1 : (at' : Int) < (l.length : Int) := by omega
  have hxo := rown_calls x m w hfx.2.1
  obtain ⟨kd, key, text, count⟩ := x
  simp only [] at p0 p1 p2 p3 hfx hRR hxo
  clear hcells hf hd hae hx
  by_cases h50 : 50 ≤ deep
  · rw [if_pos h50] at hRR
    have hd50 : (50 : Int) ≤ (deep : Int) := by omega
    have HRR := Lib.hid hRR
    clear hRR hxo
    go_enter Tryz.func69, Tryz.ntmps69
    go_wp2_with fail
    go_ret
    exact ⟨by rw [← HRR.out]; rfl, Below.refl _ _⟩
  rw [if_neg h50] at hRR
  have hd50 : ¬ (50 : Int) ≤ (deep : Int) := by omega
  obtain ⟨OW, hOW⟩ : ∃ OW, ownV ⟨kd, key, text, count⟩ m = OW := ⟨_, rfl⟩
  rw [hOW] at hRR hxo
  have HXO := Lib.hid hxo
  clear hxo hOW
  cases OW with
  | false =>
    rw [if_pos rfl] at hRR
    have HRR := Lib.hid hRR
    clear hRR
    go_enter Tryz.func69, Tryz.ntmps69
    go_wp2_with fail
    refine HXO.out.mono ?_
    rintro e1 w1 ⟨rfl, hb1⟩
    go_wp2_with fail
    go_ret
    exact ⟨by rw [← HRR.out]; rfl, hb1⟩
  | true =>
    rw [if_neg (by decide)] at hRR
    obtain ⟨ob, hob⟩ : ∃ ob : Bool, (kd == 6) = ob := ⟨_, rfl⟩
    obtain ⟨cn, hcn⟩ : ∃ cn, count.toNat = cn := ⟨_, rfl⟩
    rw [hob, hcn] at hRR
    have HRR0 : Hid (∃ g, rkids g (cn - 0) (l.drop (at' + 1)) (deep + 1) ob ([] : List (List UInt8)).reverse = R ∧ 2 * (l.length - (at' + 1)) + 1 ≤ g ∧ g ≤ f) := Lib.hid ⟨f, hRR, by omega, Nat.le_refl _⟩
    have hcn1 : count ≤ 9223372036854775807 := hfx.2.2
    have HCN := Lib.hid hcn
    clear hRR hcn
    go_enter Tryz.func69, Tryz.ntmps69
    go_wp2_with fail
    refine HXO.out.mono ?_
    rintro e1 w1 ⟨rfl, hb1⟩
    have q0 : w1.cell? ⟨bk, off + at' * 4, none⟩ = some (.int .i64 kd) := (hb1.cell (p := ⟨bk, _, none⟩) hbk).trans p0
    have HB1 := Lib.hid hb1
    have HO1 : Hid (w1.ownsRow w.heap.size 9 1 (.slice none 0 0) ([] : List (List UInt8)).length (scells [])) := Lib.hid (World.ownsRow_nil _ _ _ _)
    clear hb1 p0 p1 p2 p3 HXO
    go_wp2_with fail
    clear q0
    go_loopw [11, 12, 13] (fun vn vk vi wr => ∃ (i k : Nat) (names : List (List UInt8)), vi = .int .i64 (i : Int) ∧ vk = .int .i64 (k : Int) ∧ i ≤ cn ∧ k ≤ l.length ∧ names.length ≤ k ∧ Hid (∃ g, rkids g (cn - i) (l.drop k) (deep + 1) ob names.reverse = R ∧ 2 * (l.length - k) + 1 ≤ g ∧ g ≤ f) ∧
      Hid (wr.ownsRow w.heap.size 9 1 vn names.length (scells names)) ∧ Hid (Below w.heap.size w wr)) (fun _ _ vi _ => cn - (intOf vi).toNat)
    case atStart => exact ⟨0, at' + 1, [], rfl, by go_num, Nat.zero_le _, by omega, by simp, HRR0, HO1, HB1⟩
    case round =>
      obtain ⟨i, k, names, rfl, rfl, hi, hk, hnk, HG, HO, HB⟩ := hrel
      obtain ⟨an, cpn, rfl⟩ := own_len HO.out
      have hx3 : wr.cell? ⟨bk, off + at' * 4 + 3, none⟩ = some (.int .i64 count) := by
        rcases HV.out.kept HB.out with ⟨rfl, _⟩ | ⟨_, _, _, he, _, hc⟩
        · simp at hal
        · simp only [Value.slice.injEq, Option.some.injEq, Addr.mk.injEq] at he
          obtain ⟨⟨rfl, rfl, _⟩, _, _⟩ := he
          have := (load4 (hc at' hal)).2.2.2
          rw [show l[at'] = _ from HX.out] at this
          exact this
      by_cases hic : (i : Int) < count
      · have hicn : i < cn := by rw [← HCN.out]; omega
        by_cases hkl : k = l.length
        · have hRn : Hid (R = none) := Lib.hid (by
            obtain ⟨g, hg, _, _⟩ := HG.out
            obtain ⟨j, hj⟩ : ∃ j, cn - i = j + 1 := ⟨cn - i - 1, by omega⟩
            rw [hkl, List.drop_length, hj, rkids_none] at hg
            exact hg.symm)
          have hk1 : (l.length : Int) ≤ (k : Int) := by omega
          clear hkl
          go_wp2_with fail
          go_ret
          exact ⟨by rw [hRn.out]; rfl, HB.out⟩
        · have hk1 : ¬ (l.length : Int) ≤ (k : Int) := by omega
          have hk2 : (0 : Int) ≤ (k : Int) := by omega
          have hk3 : (k : Int) < (l.length : Int) := by omega
          have hklt : k < l.length := by omega
          obtain ⟨y, hy⟩ : ∃ y, l[k] = y := ⟨_, rfl⟩
          have HY := Lib.hid hy
          have hdk : l.drop k = y :: l.drop (k + 1) := by rw [List.drop_eq_getElem_cons hklt, hy]
          have HDK := Lib.hid hdk
          clear hkl hdk hy
          go_wp2_with fail
          go_loopw [14] (fun vm wx => ∃ j : Nat, vm = .int .i64 (j : Int) ∧ j ≤ names.length ∧ Hid (ob = true → ∀ q (hq : q < names.length), q < j → names[q] ≠ y.key) ∧ Hid (wx.ownsRow w.heap.size 9 1 (.slice an names.length cpn) names.length (scells names)) ∧ Hid (Below w.heap.size w wx)) (fun vm _ => names.length - (intOf vm).toNat)
          case atStart => exact ⟨0, rfl, Nat.zero_le _, Lib.hid (fun _ q _ h => absurd h (by omega)), HO, HB⟩
          case round =>
            obtain ⟨j, rfl, hj, HN, HOx, HBx⟩ := hrel
            have hy1 : wr.cell? ⟨bk, off + k * 4 + 1, none⟩ = some (.string ⟨y.key.toArray⟩) := by
              rcases HV.out.kept HBx.out with ⟨rfl, _⟩ | ⟨_, _, _, he, _, hc⟩
              · simp at hal
              · simp only [Value.slice.injEq, Option.some.injEq, Addr.mk.injEq] at he
                obtain ⟨⟨rfl, rfl, _⟩, _, _⟩ := he
                have := (load4 (hc k hklt)).2.1
                rw [show l[k] = y from HY.out] at this
                exact this
            by_cases hgo : j < names.length ∧ ob = true
            · obtain ⟨hjl, rfl⟩ := hgo
              obtain ⟨gn, cpn2, hform, _, _⟩ := HOx.out.form (by omega)
              simp only [Value.slice.injEq] at hform
              obtain ⟨rfl, _, rfl⟩ := hform
              have hnc : wr.cell? ⟨gn, j, none⟩ = some (.string ⟨names[j].toArray⟩) := by
                have := HOx.out.cellAt j (by omega)
                rw [this]
                simp [scells, hjl]
              have hj0 : (0 : Int) ≤ (j : Int) := by omega
              have hj1 : (j : Int) < (names.length : Int) := by omega
              by_cases he : names[j] = y.key
              · have hkq := key_eq he
                have hkq2 : (names[j] == y.key) = true := by rw [he]; simp
                have hRn : Hid (R = none) := Lib.hid (by
                  obtain ⟨g, hg, hg1, _⟩ := HG.out
                  obtain ⟨j', hj'⟩ : ∃ j', cn - i = j' + 1 := ⟨cn - i - 1, by omega⟩
                  obtain ⟨g', rfl⟩ : ∃ g', g = g' + 1 := ⟨g - 1, by omega⟩
                  rw [HDK.out, hj', rkids_next, if_pos (by
                    rw [Bool.true_and, List.contains_iff_mem, List.mem_reverse, ← he]
                    exact List.getElem_mem _)] at hg
                  exact hg.symm)
                generalize names[j] = nj at hnc hkq hkq2
                clear he
                go_wp2_with fail
                go_quiet (fail)
                go_wp2_with fail
                go_ret
                exact ⟨by rw [hRn.out]; rfl, below_drewN HBx.out nq⟩
              · have hkq := key_neq he
                have hkq2 : (names[j] == y.key) = false := by simpa using he
                have HN2 : Hid (true = true → ∀ q (hq : q < names.length), q < j + 1 → names[q] ≠ y.key) := Lib.hid (fun _ q hq hqj => by
                  by_cases hqe : q = j
                  · subst hqe; exact he
                  · exact HN.out rfl q hq (by omega))
                generalize names[j] = nj at hnc hkq hkq2
                clear he
                go_wp2_with fail
                go_quiet (fail)
                have HOq : Hid ((wr.drewN nq).ownsRow w.heap.size 9 1 (.slice (some ⟨gn, 0, none⟩) names.length cpn) names.length (scells names)) := HOx
                have HBq := Lib.hid (below_drewN HBx.out nq)
                clear hnc hy1 hkq hkq2
                generalize wr.drewN nq = wq at *
                go_wp2_with fail
                go_roundw
                case rel => exact ⟨j + 1, by go_num, by omega, HN2, HOq, HBq⟩
                case measure => simp [intOf]; omega
            · have HDUP : Hid (¬ (ob && names.reverse.contains y.key) = true) := Lib.hid (by
                intro hc
                rw [Bool.and_eq_true, List.contains_iff_mem, List.mem_reverse] at hc
                obtain ⟨ho, hm⟩ := hc
                have hjn : ¬ j < names.length := fun h => hgo ⟨h, ho⟩
                obtain ⟨q, hq, hqe⟩ := List.getElem_of_mem hm
                exact HN.out ho q hq (by omega) hqe)
              have hex : (¬ j < names.length) ∨ (j < names.length ∧ ob = false) := by
                by_cases h : j < names.length
                · refine .inr ⟨h, ?_⟩
                  cases ob with
                  | false => rfl
                  | true => exact absurd ⟨h, rfl⟩ hgo
                · exact .inl h
              have hnews : ∀ q u, [Value.string ⟨y.key.toArray⟩][q]? = some u → (wr.alloc (.cells #[.string ⟨y.key.toArray⟩] 9)).cell? ((⟨wr.heap.size, 0, none⟩ : Addr).add q) = some u :=
                World.news_of_block (heap_alloc_new wr _)
              have hone : ∀ u ∈ [Value.string ⟨y.key.toArray⟩], u.oneCell' = true := fun u hu => by
                rcases List.mem_singleton.1 hu with rfl; rfl
              have hm1 : names.length + 1 ≤ maxLen := by unfold maxLen; omega
              have hm2 : (names.length + 1) * 16 ≤ 140737488355328 := by omega
              have hbase : w.heap.size ≤ (wr.alloc (.cells #[.string ⟨y.key.toArray⟩] 9)).heap.size := by have := HBx.out.size; simp; omega
              have hown : (wr.alloc (.cells #[.string ⟨y.key.toArray⟩] 9)).ownsRow w.heap.size 9 1 (.slice an names.length cpn) names.length (scells names) := World.ownsRow.alloc HOx.out _
              have hKR : ∃ g' j', cn - i = j' + 1 ∧ g' ≤ f ∧ 2 * (l.length - k) ≤ g' ∧ (match rrow g' (l.drop k) (deep + 1) ob with | none => none | some r' => rkids g' j' r' (deep + 1) ob (y.key :: names.reverse)) = R := by
                obtain ⟨g, hg, hg1, hg2⟩ := HG.out
                obtain ⟨j', hj'⟩ : ∃ j', cn - i = j' + 1 := ⟨cn - i - 1, by omega⟩
                obtain ⟨g', rfl⟩ : ∃ g', g = g' + 1 := ⟨g - 1, by omega⟩
                refine ⟨g', j', hj', by omega, by omega, ?_⟩
                have hdk := HDK.out
                rw [hdk, hj', rkids_next, if_neg HDUP.out] at hg
                rw [hdk]
                exact hg
              obtain ⟨g', j', hj', hg'f, hg'2, hKR⟩ := hKR
              have hcall := fun w3 hv => hR g' hg'f l (.slice (some ⟨bk, off, none⟩) l.length cap) k (deep + 1) ob w3 hv HF.out hl hk (by omega) hg'2
              rw [show ((deep + 1 : Nat) : Int) = (deep : Int) + 1 by omega] at hcall
              obtain ⟨RW, hRW⟩ : ∃ RW, rrow g' (l.drop k) (deep + 1) ob = RW := ⟨_, rfl⟩
              rw [hRW] at hcall hKR
              have HCALL := Lib.hid hcall
              have HKR := Lib.hid hKR
              have HRW := Lib.hid hRW
              have HJ' := Lib.hid hj'
              clear hgo hcall hKR hRW hj'
              rcases hex with hex | ⟨hex, rfl⟩
              all_goals
                go_wp2_with (at_builtin; go_loud (refine wpList_append_own _ rfl _ _ 34 rfl w.heap.size 9 i0 _ 1 16 Tryz.underlying34 hi0 hz0 hz1 hz2 rfl (by decide) _ _ _ rfl hown ⟨wr.heap.size, 0, none⟩ 1 1 _ rfl rfl hnews hone hm1 hm2 hbase ?_; intro v3 w3 hown3 hgr3 _))
                have HO3 : Hid (w3.ownsRow w.heap.size 9 1 v3 (names ++ [y.key]).length (scells (names ++ [y.key]))) := Lib.hid (by
                  rw [List.length_append]; unfold scells; rw [List.map_append]; exact hown3)
                have HB3 := Lib.hid ((HBx.out.alloc HBx.out.size _).grown hgr3 hbase (fun q hq => (hown.lt q hq).1))
                clear hown3 hgr3 hown hnews hone hm1 hm2 hbase
                go_wp2_with fail
                refine (HCALL.out w3 (HV.out.kept HB3.out)).mono ?_
                rintro e4 w4 ⟨rfl, hb4⟩
                have HB4 := Lib.hid (HB3.out.trans (hb4.mono HB3.out.size))
                have HO4 := Lib.hid (own_kept HO3.out (S := []) (Kp.of_below hb4) (by simp))
                clear hb4
                cases RW with
                | none =>
                  have hRn : Hid (R = none) := Lib.hid HKR.out.symm
                  rw [show rres l none = -1 from rfl]
                  go_wp2_with fail
                  go_ret
                  exact ⟨by rw [hRn.out]; rfl, HB4.out⟩
                | some r' =>
                  obtain ⟨htl, hrl⟩ := rrow_tail HRW.out hk
                  obtain ⟨k2, hk2⟩ : ∃ k2, l.length - r'.length = k2 := ⟨_, rfl⟩
                  have hres : rres l (some r') = (k2 : Int) := by show (l.length : Int) - r'.length = _; omega
                  rw [hres]
                  rw [hk2] at htl
                  have HG2 : Hid (∃ g, rkids g (cn - (i + 1)) (l.drop k2) (deep + 1) _ (names ++ [y.key]).reverse = R ∧ 2 * (l.length - k2) + 1 ≤ g ∧ g ≤ f) := Lib.hid (by
                    obtain ⟨g, hg, hg1, hg2⟩ := HG.out
                    refine ⟨g', ?_, by omega, by omega⟩
                    rw [← htl, List.reverse_append, show cn - (i + 1) = j' by have := HJ'.out; omega]
                    exact HKR.out)
                  have hk2n : ¬ ((k2 : Int) < 0) := by omega
                  clear hres htl
                  go_wp2_with fail
                  go_roundw
                  case rel => exact ⟨i + 1, k2, names ++ [y.key], by go_num, rfl, by omega, by omega, by rw [List.length_append]; simp; omega, HG2, HO4, HB4⟩
                  case measure => simp [intOf]; omega
      · have hRs : Hid (R = some (l.drop k)) := Lib.hid (by
          obtain ⟨g, hg, _, _⟩ := HG.out
          have : cn - i = 0 := by rw [← HCN.out]; omega
          rw [this, rkids_zero] at hg
          exact hg.symm)
        go_wp2_with fail
        go_ret
        refine ⟨?_, HB.out⟩
        rw [hRs.out]
        show Ending.returned (Value.int .i64 (k : Int)) = Ending.returned (.int .i64 ((l.length : Int) - (((l.drop k).length : Nat) : Int)))
        rw [List.length_drop, show (l.length : Int) - ((l.length - k : Nat) : Int) = (k : Int) by omega]

theorem rright_any : ∀ f : Nat, RRP f := by
  intro f
  induction f using Nat.strongRecOn with
  | _ f ih =>
    match f with
    | 0 =>
      intro l va at' deep m w h hf hl hat hdp hfu
      have hae : at' = l.length := by omega
      have hd : l.drop at' = [] := by rw [hae]; simp
      rw [hd]
      exact right_end l va at' deep m w h hae
    | f + 1 => exact rright_step f (fun g hg => ih g (by omega))

set_option maxHeartbeats 8000000 in
set_option maxRecDepth 1000000 in
/-- The reference's Right. -/
theorem rRight_calls (va : Value) (l : List V) (w : World) (h : Vs w va l) (hf : Fits l) (hl : l.length ≤ 1000000) :
    Calls Tryz.prog 34 #[va] w fun e w' => e = .returned (.bool (jright l)) ∧ Below w.heap.size w w' := by
  have hcall := rright_any (2 * l.length + 2) l va 0 0 false w h hf hl (by omega) (by omega) (by omega)
  rw [List.drop_zero] at hcall
  obtain ⟨J, hJ⟩ : ∃ J, jright l = J := ⟨_, rfl⟩
  rw [hJ]
  unfold jright at hJ
  obtain ⟨RW, hRW⟩ : ∃ RW, rrow (2 * l.length + 2) l 0 false = RW := ⟨_, rfl⟩
  rw [hRW] at hJ hcall
  obtain ⟨a, c, hv⟩ := h.len
  subst hv
  have HC := Lib.hid hcall
  by_cases h0 : l.length = 0
  · have hl0 : l = [] := List.eq_nil_of_length_eq_zero h0
    have hJ2 : Hid (J = false) := Lib.hid (by
      rw [← hJ, ← hRW, hl0]; rfl)
    clear hcall hJ h hl0 hRW
    go_enter Tryz.func34, Tryz.ntmps34
    go_wp2_with fail
    go_ret
    exact ⟨by first | (rw [hJ2.out]; done) | (rw [hJ2.out]; simp [h0]), Below.refl _ _⟩
  · have h1 : (0 : Int) < (l.length : Int) := by omega
    by_cases h5 : l.length ≤ 5000
    · have h5' : (l.length : Int) ≤ 5000 := by omega
      have hJ2 : Hid (J = decide (rres l RW = (l.length : Int))) := Lib.hid (by
        rw [← hJ]
        simp only [h5, decide_true, Bool.true_and]
        cases RW with
        | none => exact (decide_eq_false (by show ¬ (-1 : Int) = _; omega)).symm
        | some r =>
          cases r with
          | nil => exact (decide_eq_true (by show (l.length : Int) - ((0 : Nat) : Int) = _; omega)).symm
          | cons y t => exact (decide_eq_false (by show ¬ ((l.length : Int) - (((y :: t).length : Nat) : Int) = _); simp only [List.length_cons]; omega)).symm)
      obtain ⟨z, hz⟩ : ∃ z, rres l RW = z := ⟨_, rfl⟩
      rw [hz] at HC hJ2
      clear hcall hJ h hRW hz
      go_enter Tryz.func34, Tryz.ntmps34
      go_wp2_with fail
      refine HC.out.mono ?_
      rintro e1 w1 ⟨rfl, hb1⟩
      go_wp2_with fail
      go_ret
      exact ⟨by rw [hJ2.out]; rfl, hb1⟩
    · have h5' : ¬ (l.length : Int) ≤ 5000 := by omega
      have hJ2 : Hid (J = false) := Lib.hid (by rw [← hJ]; simp [h5])
      clear hcall hJ h hRW
      go_enter Tryz.func34, Tryz.ntmps34
      go_wp2_with fail
      go_ret
      exact ⟨by rw [hJ2.out]; rfl, Below.refl _ _⟩
end Go.Proofs.YtndkbecdjaedaaaGreatDoor
