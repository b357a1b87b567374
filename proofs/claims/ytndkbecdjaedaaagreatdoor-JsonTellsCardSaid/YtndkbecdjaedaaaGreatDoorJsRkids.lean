/- The reference's kids: the places of what a value has. -/
import Derived.Test.YtndkbecdjaedaaaGreatDoorJsRright
import Derived.Test.YtndkbecdjaedaaaGreatDoorJsSize
import Derived.Test.YtndkbecdjaedaaaGreatDoorJsEnd2
namespace Go.Proofs.YtndkbecdjaedaaaGreatDoor
open Go.RowKit

theorem row_end {g deep : Nat} {m : Bool} {l : List V} {k : Nat} {r : List V} (h : rrow g (l.drop k) deep m = some r) (hk : k < l.length) : jend l (k : Nat) = ((l.length - r.length : Nat) : Int) := by
  obtain ⟨htl, hlt⟩ := rrow_tail h (by omega)
  have he := (all_end g).1 _ _ _ _ l.length k 1 h (by rw [List.length_drop]; omega) (by omega)
  unfold jend
  rw [if_neg (by omega), Int.toNat_natCast, he]
  rw [List.length_drop, show k + (l.length - k - r.length) = l.length - r.length by omega]
  cases r with
  | nil => simp [endGo]
  | cons y t => simp [endGo]

/-- The row at a place, sorted. -/
def rowAt (l : List V) (p : Nat) : List V := (srow (2 * l.length + 2) (l.drop p)).1
theorem rowAt_row {g deep : Nat} {m : Bool} {l : List V} {k : Nat} {r : List V} (h : rrow g (l.drop k) deep m = some r) (hk : k < l.length) :
    (∀ g, 2 * (l.length - k) ≤ g + 1 → srow g (l.drop k) = (rowAt l k, r)) ∧ headKey (rowAt l k) = l[k].key ∧ (rowAt l k).length + r.length = l.length - k ∧ rowAt l k ≠ [] := by
  obtain ⟨row, hs, ⟨v, t, t', hv, hrow⟩, hlen, hsk⟩ := (all_sort g).1 _ _ _ _ h
  rw [List.length_drop] at hlen
  have e : rowAt l k = row := by unfold rowAt; rw [hsk _ (by omega)]
  rw [e]
  refine ⟨fun g hg => hsk g (by omega), ?_, hlen, by rw [hrow]; simp⟩
  rw [List.drop_eq_getElem_cons hk] at hv
  rw [hrow, (List.cons.inj hv).1]
  rfl

theorem kids_places : ∀ (f cn : Nat) (l : List V) (k deep : Nat) (o : Bool) (names : List (List UInt8)) (r : List V), rkids f cn (l.drop k) deep o names = some r → k ≤ l.length →
    ∃ pl : Nat → Nat, pl 0 = k ∧ (∀ j, j < cn → pl j < l.length ∧ jend l (pl j : Nat) = (pl (j + 1) : Nat) ∧ ∃ g r', g < f ∧ rrow g (l.drop (pl j)) deep o = some r') ∧
      ∀ g, 2 * (l.length - k) ≤ g → skids g cn (l.drop k) = ((List.range cn).map (fun j => rowAt l (pl j)), r)
  | f, 0, l, k, deep, o, names, r, h, hk => by
    rw [rkids_zero] at h
    cases h
    exact ⟨fun _ => k, rfl, fun j hj => by omega, fun g _ => by rw [skids_zero]; rfl⟩
  | 0, cn + 1, l, k, deep, o, names, r, h, hk => by simp [rkids] at h
  | f + 1, cn + 1, l, k, deep, o, names, r, h, hk => by
    by_cases hkl : k < l.length
    · have hdk : l.drop k = l[k] :: l.drop (k + 1) := List.drop_eq_getElem_cons hkl
      rw [hdk, rkids_next] at h
      split at h
      · cases h
      rw [← hdk] at h
      cases hrw : rrow f (l.drop k) deep o with
      | none => rw [hrw] at h; cases h
      | some r' =>
        rw [hrw] at h
        simp only [] at h
        have hje := row_end hrw hkl
        obtain ⟨htl, hrl⟩ := rrow_tail hrw hk
        obtain ⟨hsr, _, hlr, _⟩ := rowAt_row hrw hkl
        obtain ⟨k2, hk2⟩ : ∃ k2, l.length - r'.length = k2 := ⟨_, rfl⟩
        rw [hk2] at htl hje
        rw [htl] at h
        obtain ⟨pl, h0, hpl, hsk⟩ := kids_places f cn l k2 deep o _ r h (by omega)
        refine ⟨fun j => match j with | 0 => k | j + 1 => pl j, rfl, fun j hj => ?_, fun g hg => ?_⟩
        · cases j with
          | zero =>
            refine ⟨hkl, ?_, f, r', by omega, hrw⟩
            show jend l (k : Nat) = (pl 0 : Nat)
            rw [hje, h0]
          | succ j =>
            obtain ⟨a, b, g, r2, hg, hr2⟩ := hpl j (by omega)
            exact ⟨a, b, g, r2, by omega, hr2⟩
        · obtain ⟨g', rfl⟩ : ∃ g', g = g' + 1 := ⟨g - 1, by omega⟩
          simp only [skids]
          rw [hsr g' (by omega)]
          simp only []
          rw [htl, hsk g' (by omega), List.range_succ_eq_map, List.map_cons, List.map_map]
          rfl
    · rw [List.drop_eq_nil_of_le (by omega), rkids_none] at h
      cases h

def icells (ps : List Nat) : List Value := ps.map fun (p : Nat) => .int .i64 (p : Int)
theorem icells_len (n : List Nat) : (icells n).length = n.length := by simp [icells]
theorem infoInt : (Tryz.prog.info? 3).map (fun i => (i.zero, i.size, i.bytes)) = some (some (.int .i64 0), 1, 8) := by kernel_rfl

set_option maxHeartbeats 16000000 in
set_option maxRecDepth 1000000 in
theorem rkids_calls (l : List V) (va : Value) (at' cn : Nat) (pl : Nat → Nat) (w : World) (h : Vs w va l) (hl : l.length ≤ 1000000) (hal : at' < l.length) (hcn : l[at'].count = (cn : Int)) (hcl : cn ≤ l.length)
    (h0 : pl 0 = at' + 1) (hpl : ∀ j, j < cn → pl j < l.length ∧ jend l (pl j : Nat) = (pl (j + 1) : Nat)) :
    Calls Tryz.prog 127 #[va, .int .i64 (at' : Int)] w fun e w' => (∃ vo, e = .returned vo ∧ w'.ownsRow w.heap.size 3 1 vo cn (icells ((List.range cn).map pl))) ∧ Below w.heap.size w w' := by
  obtain ⟨i0, hi0, hz0, hz1, hz2⟩ := info_parts infoInt
  rcases h with ⟨rfl, _⟩ | ⟨bk, off, cap, rfl, hbk, hcells⟩
  · simp at hal
  have HV : Hid (Vs w (.slice (some ⟨bk, off, none⟩) l.length cap) l) := Lib.hid (.inr ⟨bk, off, cap, rfl, hbk, hcells⟩)
  have HCN := Lib.hid hcn
  have HPL := Lib.hid hpl
  have hx0 : (0 : Int) ≤ (at' : Int) := by omega
  have hx1 : (at' : Int) < (l.length : Int) := by omega
  clear hcells hcn hpl
  go_enter Tryz.func127, Tryz.ntmps127
  go_wp2_with fail
  go_loopw [5, 6, 7] (fun vo vk vi wr => ∃ i : Nat, vi = .int .i64 (i : Int) ∧ vk = .int .i64 (pl i : Int) ∧ i ≤ cn ∧ Hid (wr.ownsRow w.heap.size 3 1 vo i (icells ((List.range i).map pl))) ∧ Hid (Below w.heap.size w wr)) (fun _ _ vi _ => cn - (intOf vi).toNat)
  case atStart => exact ⟨0, rfl, by rw [h0]; go_num, Nat.zero_le _, Lib.hid (World.ownsRow_nil _ _ _ _), Lib.hid (Below.refl _ _)⟩
  case round =>
    obtain ⟨i, rfl, rfl, hi, HO, HB⟩ := hrel
    have hx3 : wr.cell? ⟨bk, off + at' * 4 + 3, none⟩ = some (.int .i64 (cn : Int)) := by
      rcases HV.out.kept HB.out with ⟨rfl, _⟩ | ⟨_, _, _, he, _, hc⟩
      · simp at hal
      · simp only [Value.slice.injEq, Option.some.injEq, Addr.mk.injEq] at he
        obtain ⟨⟨rfl, rfl, _⟩, _, _⟩ := he
        have := (load4 (hc at' hal)).2.2.2
        rw [HCN.out] at this
        exact this
    by_cases hic : i < cn
    · obtain ⟨hp1, hje⟩ := HPL.out i hic
      have hicr : (List.range (i + 1)).map pl = (List.range i).map pl ++ [pl i] := by rw [List.range_succ, List.map_append]; rfl
      have HIC := Lib.hid hicr
      have HJE := Lib.hid hje
      obtain ⟨p, hp⟩ : ∃ p, pl i = p := ⟨_, rfl⟩
      obtain ⟨p', hp'⟩ : ∃ p', pl (i + 1) = p' := ⟨_, rfl⟩
      have HP := Lib.hid hp
      have HP' := Lib.hid hp'
      rw [hp] at hp1
      rw [hp]
      have hic' : (i : Int) < (cn : Int) := by omega
      have hnews : ∀ q u, [Value.int .i64 (p : Int)][q]? = some u → (wr.alloc (.cells #[.int .i64 (p : Int)] 3)).cell? ((⟨wr.heap.size, 0, none⟩ : Addr).add q) = some u :=
        World.news_of_block (heap_alloc_new wr _)
      have hone : ∀ u ∈ [Value.int .i64 (p : Int)], u.oneCell' = true := fun u hu => by
        rcases List.mem_singleton.1 hu with rfl; rfl
      have hm1 : i + 1 ≤ maxLen := by unfold maxLen; omega
      have hm2 : (i + 1) * 8 ≤ 140737488355328 := by omega
      have hbase : w.heap.size ≤ (wr.alloc (.cells #[.int .i64 (p : Int)] 3)).heap.size := by have := HB.out.size; simp; omega
      have hown : (wr.alloc (.cells #[.int .i64 (p : Int)] 3)).ownsRow w.heap.size 3 1 _ i (icells ((List.range i).map pl)) := World.ownsRow.alloc HO.out _
      clear hicr hje hp hp'
      go_wp2_with (at_builtin; refine wpList_append_own _ rfl _ _ 104 rfl w.heap.size 3 i0 _ 1 8 Tryz.underlying104 hi0 hz0 hz1 hz2 rfl (by decide) _ _ _ rfl hown ⟨wr.heap.size, 0, none⟩ 1 1 _ rfl rfl hnews hone hm1 hm2 hbase ?_; intro v3 w3 hown3 hgr3 _)
      have HO3 : Hid (w3.ownsRow w.heap.size 3 1 v3 (i + 1) (icells ((List.range (i + 1)).map pl))) := Lib.hid (by
        rw [HIC.out]; unfold icells at hown3 ⊢; rw [List.map_append, List.map_cons, List.map_nil, HP.out]; exact hown3)
      have HB3 := Lib.hid ((HB.out.alloc HB.out.size _).grown hgr3 hbase (fun q hq => (hown.lt q hq).1))
      clear hown3 hgr3 hown hnews hone hm1 hm2 hbase
      go_wp2_with fail
      refine (rend_calls _ l (p : Int) _ (HV.out.kept HB3.out) (by omega) (by omega) hl).mono ?_
      rintro e4 w4 ⟨rfl, rfl⟩
      rw [show jend l (p : Int) = (p' : Int) by have := HJE.out; rw [HP.out, HP'.out] at this; exact this]
      go_wp2_with fail
      go_roundw
      case rel => exact ⟨i + 1, by go_num, by rw [HP'.out], by omega, HO3, HB3⟩
      case measure => simp [intOf]; omega
    · have hie : i = cn := by omega
      subst hie
      go_wp2_with fail
      go_ret
      exact ⟨⟨_, rfl, HO.out⟩, HB.out⟩
end Go.Proofs.YtndkbecdjaedaaaGreatDoor
