/- slices.Grow from nil, and slices.Concat, at rows of values. -/
import Derived.Test.YtndkbecdjaedaaaGreatDoorJsPr3
import Derived.Test.YtndkbecdjaedaaaGreatDoorJsVal
namespace Go.Proofs.YtndkbecdjaedaaaGreatDoor
open Go.RowKit

/-- 'append' of as many zeros to a nil slice. -/
theorem run_append_zeros (w : World) (ty : TypeId) (n : Nat) (h0 : 0 < n) (hn : n ≤ 1000000000) :
    ∃ cur : Array Value, cur.size = grownCap w n 0 56 * 4 ∧ (Builtin.append_ #[35, 3] ty #[.slice none 0 0, .int .i64 (n : Int)]).run Tryz.prog w =
      .ok (.slice (some ⟨w.heap.size, 0, none⟩) n (grownCap w n 0 56)) (w.drew.alloc (.cells cur 56)) := by
  obtain ⟨i, hi, hz, hs, hb⟩ := info_parts infoVal
  have hw : IntKind.i64.wrap (n : Int) = n := by simp [IntKind.wrap, IntKind.bits, IntKind.signed]; omega
  have hng : ¬ ((n : Int) < 0) := by omega
  have hbg : ¬ ((281474976710656 : Int) < (n : Int) * 48) := by omega
  have h63' : ¬ (9223372036854775807 < (n : Int)) := by omega
  have hnc := nextslicecap_zero h0
  have h48' : ¬ (281474976710656 < n * 48) := by omega
  have hge := grownCap_ge w n 0 56
  have hn4 : ¬ (n * 4 = 0) := by omega
  have hne : ¬ (n = 0) := by omega
  refine ⟨Builtin.zeroCells (Value.agg #[.int .i64 0, .string ⟨#[]⟩, .string ⟨#[]⟩, .int .i64 0]).cells n ++ Builtin.zeroCells (Value.agg #[.int .i64 0, .string ⟨#[]⟩, .string ⟨#[]⟩, .int .i64 0]).cells (grownCap w n 0 56 - n), ?_, ?_⟩
  · rw [Array.size_append, size_zeroCells, size_zeroCells]
    rw [show (Value.agg #[.int .i64 0, .string ⟨#[]⟩, .string ⟨#[]⟩, .int .i64 0]).cells.size = 4 from rfl]
    omega
  · simp [Builtin.append_, run_underlying Tryz.underlying35, run_underlying Tryz.underlying3, sizeOf, typeInfo, zeroValue, hi, hz, hs, hb, asInt, asIntOf, hw, hng, hbg, h63', hnc, h48', hn4, hne, Question.forced, run_firstCells_none, newRow, grownCap]

theorem wpList_append_zeros {w : World} {ops : Array Oper} {rest : List Oper} {o : Oper} {a : Act} {Q : Exit → Act → World → Prop} (hgd : o.guard = none) (s x : Operand)
    (ho : o.op = .call { callee := .builtin .append, args := #[s, x], argTypes := #[35, 3] }) (n : Nat) (hs : a.eval s = .slice none 0 0) (hx : a.eval x = .int .i64 (n : Int)) (h0 : 0 < n) (hn : n ≤ 1000000000)
    (h : ∀ (cur : Array Value) (cap : Nat), n ≤ cap → cap ≤ maxLen → cur.size = cap * 4 → wpList Tryz.prog ops Q rest (a.put o.dst (.slice (some ⟨w.heap.size, 0, none⟩) n cap)) (w.drew.alloc (.cells cur 56))) : wpList Tryz.prog ops Q (o :: rest) a w :=
  wpList_plain hgd fun K hK => by
    obtain ⟨cur, hcs, happ⟩ := run_append_zeros w o.type n h0 hn
    have hge := grownCap_ge w n 0 56
    have hcm : grownCap w n 0 56 ≤ maxLen := grownCap_le_maxLen w n 0 _ (by unfold maxLen; omega)
    unfold Oper.wp execOp
    simp only [ho, resolve, invoke, builtin, Sem.run_bind, Sem.run_pure, Result.andThen_ok, List.map_toArray, List.map_cons, List.map_nil, hs, hx, happ]
    exact hK _ _ (h cur _ hge hcm hcs)

set_option maxHeartbeats 2000000 in
set_option maxRecDepth 100000 in
theorem grow_calls (n : Nat) (w : World) (h0 : 0 < n) (hn : n ≤ 1000000000) :
    Calls Tryz.prog 165 #[.slice none 0 0, .int .i64 (n : Int)] w fun e w' => (∃ v, e = .returned v ∧ w'.ownsRow w.heap.size 56 4 v 0 []) ∧ Below w.heap.size w w' := by
  have h0' : (0 : Int) < (n : Int) := by omega
  go_enter Tryz.func165, Tryz.ntmps165
  go_wp2_with (at_builtin; refine wpList_append_zeros rfl _ _ rfl n rfl rfl h0 hn ?_; intro cur cap hge hcm hcs)
  have hc0 : ¬ cap = 0 := by omega
  have hown := World.ownsRow_made (base := w.heap.size) (e := 56) (size := 4) w.drew cur cap (Nat.le_refl _) hcm hcs
  have HO := Lib.hid hown
  clear hown hcs hcm
  go_wp2_with fail
  go_ret
  exact ⟨⟨_, rfl, HO.out⟩, ((Below.refl w.heap.size w).drew).alloc (Nat.le_refl _) _⟩

/-- A row of values somewhere in memory, not empty. -/
def Src (w : World) (v : Value) (l : List V) : Prop :=
  ∃ bk off cap, v = .slice (some ⟨bk, off, none⟩) l.length cap ∧ l ≠ [] ∧ bk < w.heap.size ∧ ∀ j u, (vcells l)[j]? = some u → w.cell? ((⟨bk, off, none⟩ : Addr).add j) = some u
theorem Src.kept {w w' : World} {v : Value} {l : List V} (h : Src w v l) (hb : Below w.heap.size w w') : Src w' v l := by
  obtain ⟨bk, off, cap, hv, hne, hlt, hc⟩ := h
  refine ⟨bk, off, cap, hv, hne, Nat.lt_of_lt_of_le hlt hb.size, fun j u hu => ?_⟩
  rw [hb.cell (p := (⟨bk, off, none⟩ : Addr).add j) (by unfold Addr.add; split <;> exact hlt)]
  exact hc j u hu
def flat (ps : List (Value × List V)) : List V := (ps.map Prod.snd).flatten
theorem flat_append (a b : List (Value × List V)) : flat (a ++ b) = flat a ++ flat b := by unfold flat; rw [List.map_append, List.flatten_append]
theorem flat_take (ps : List (Value × List V)) (i : Nat) (hi : i < ps.length) : flat (ps.take (i + 1)) = flat (ps.take i) ++ ps[i].2 := by
  rw [List.take_succ_eq_append_getElem hi, flat_append]
  congr 1
  simp [flat]
theorem flat_le (ps : List (Value × List V)) (i : Nat) : (flat (ps.take i)).length ≤ (flat ps).length := by
  have h := congrArg List.length (flat_append (ps.take i) (ps.drop i))
  rw [List.take_append_drop, List.length_append] at h
  omega
theorem vcells_one (l : List V) : ∀ u ∈ vcells l, u.oneCell' = true := by
  intro u hu
  unfold vcells at hu
  rw [List.mem_flatMap] at hu
  obtain ⟨x, _, hx⟩ := hu
  simp only [vcell, List.mem_cons, List.not_mem_nil, or_false] at hx
  rcases hx with rfl | rfl | rfl | rfl <;> rfl

set_option maxHeartbeats 4000000 in
set_option maxRecDepth 100000 in
theorem concat_calls (ps : List (Value × List V)) (b off cap : Nat) (w : World) (hc : ∀ i (hi : i < ps.length), w.cell? ⟨b, off + i, none⟩ = some ps[i].1) (hb : b < w.heap.size) (hs : ∀ i (hi : i < ps.length), Src w ps[i].1 ps[i].2)
    (h0 : 0 < (flat ps).length) (hn : (flat ps).length ≤ 1000000000) (hv : ps.length ≤ 1000000000) :
    Calls Tryz.prog 126 #[.slice (some ⟨b, off, none⟩) ps.length cap] w fun e w' => (∃ v, e = .returned v ∧ w'.ownsRow w.heap.size 56 4 v (flat ps).length (vcells (flat ps))) ∧ Below w.heap.size w w' := by
  obtain ⟨i0, hi0, hz0, hz1, hz2⟩ := info_parts infoVal
  have HC := Lib.hid hc
  have HS := Lib.hid hs
  clear hc hs
  go_enter Tryz.func126, Tryz.ntmps126
  go_wp2_with fail
  go_loop [3, 11] (fun v3 v11 => ∃ i : Nat, v11 = .int .i64 (i : Int) ∧ i ≤ ps.length ∧ v3 = .int .i64 ((flat (ps.take i)).length : Int)) (fun _ v11 => ps.length - (intOf v11).toNat)
  case atStart => exact ⟨0, rfl, Nat.zero_le _, rfl⟩
  case round =>
    obtain ⟨i, rfl, hi, rfl⟩ := hrel
    have hfl := flat_le ps i
    by_cases hlt : i < ps.length
    · have h1 := HC.out i hlt
      have hfl1 := flat_le ps (i + 1)
      have hft := flat_take ps i hlt
      obtain ⟨bk, o, cp, hv1, hne, hbk, _⟩ := HS.out i hlt
      rw [hv1] at h1
      have hsum : (flat (ps.take (i + 1))).length = (flat (ps.take i)).length + ps[i].2.length := by rw [hft, List.length_append]
      obtain ⟨n1, hn1⟩ : ∃ n1, (flat (ps.take i)).length = n1 := ⟨_, rfl⟩
      obtain ⟨n2, hn2⟩ : ∃ n2, ps[i].2.length = n2 := ⟨_, rfl⟩
      rw [hn1, hn2] at hsum
      rw [hn1] at hfl
      rw [hn2] at h1
      rw [hn1]
      have HSUM := Lib.hid hsum
      have hi2 : (0 : Int) ≤ (i : Int) ∧ (i : Int) < (ps.length : Int) := ⟨by omega, by omega⟩
      have hsm : n1 + n2 ≤ 1000000000 := by omega
      clear hft hv1 hsum hn1 hn2 hfl hfl1
      go_wp2_with fail
      go_round
      case rel => exact ⟨i + 1, by go_num, by omega, by rw [HSUM.out]; go_num⟩
      case measure => simp [intOf]; omega
    · have hie : i = ps.length := by omega
      subst hie
      rw [List.take_length]
      rw [List.take_length] at hfl
      clear hi
      go_wp2_with fail
      refine (grow_calls (flat ps).length _ h0 hn).mono ?_
      rintro e1 w1 ⟨⟨v1, rfl, hown⟩, hb1⟩
      have HO1 : Hid (w1.ownsRow w.heap.size 56 4 v1 (flat (ps.take 0)).length (vcells (flat (ps.take 0)))) := Lib.hid hown
      have HB1 := Lib.hid hb1
      clear hown hb1
      go_wp2_with fail
      go_loopw [6, 27] (fun v6 v27 wr => ∃ i : Nat, v27 = .int .i64 (i : Int) ∧ i ≤ ps.length ∧ Hid (wr.ownsRow w.heap.size 56 4 v6 (flat (ps.take i)).length (vcells (flat (ps.take i)))) ∧ Hid (Below w.heap.size w wr)) (fun _ v27 _ => ps.length - (intOf v27).toNat)
      case atStart => exact ⟨0, rfl, Nat.zero_le _, HO1, HB1⟩
      case round =>
        obtain ⟨i, rfl, hi, HO, HB⟩ := hrel
        by_cases hlt : i < ps.length
        · have h1 := (HB.out.cell (p := ⟨b, off + i, none⟩) hb).trans (HC.out i hlt)
          have hfl1 := flat_le ps (i + 1)
          have hft := flat_take ps i hlt
          obtain ⟨bk, o, cp, hv1, hne, hbk, hcs⟩ := (HS.out i hlt).kept HB.out
          rw [hv1] at h1
          have hsum : (flat (ps.take (i + 1))).length = (flat (ps.take i)).length + ps[i].2.length := by rw [hft, List.length_append]
          have hvc : vcells (flat (ps.take (i + 1))) = vcells (flat (ps.take i)) ++ vcells ps[i].2 := by rw [hft, vcells_append]
          have HNX : Hid (∀ (v' : Value) (w' : World), w'.ownsRow w.heap.size 56 4 v' ((flat (ps.take i)).length + ps[i].2.length) (vcells (flat (ps.take i)) ++ vcells ps[i].2) → w'.ownsRow w.heap.size 56 4 v' (flat (ps.take (i + 1))).length (vcells (flat (ps.take (i + 1))))) := Lib.hid (fun v' w' h => by rw [hsum, hvc]; exact h)
          have hi2 : (0 : Int) ≤ (i : Int) ∧ (i : Int) < (ps.length : Int) := ⟨by omega, by omega⟩
          have hown := HO.out
          have hcl : (vcells ps[i].2).length = ps[i].2.length * 4 := by rw [vcells_len]; omega
          have hone := vcells_one ps[i].2
          have hm1 : (flat (ps.take i)).length + ps[i].2.length ≤ maxLen := by unfold maxLen; omega
          have hm2 : ((flat (ps.take i)).length + ps[i].2.length) * 48 ≤ 140737488355328 := by omega
          have hsz := HB.out.size
          clear hft hv1 hsum hvc
          go_wp2_with (at_builtin; go_loud (refine wpList_append_own _ rfl _ _ 35 rfl w.heap.size 56 i0 _ 4 48 Tryz.underlying35 hi0 hz0 hz1 hz2 rfl (by decide) _ _ _ rfl hown ⟨bk, o, none⟩ _ _ _ rfl hcl hcs hone hm1 hm2 hsz ?_; intro v3 w3 hown3 hgr3 _))
          have HO3 := Lib.hid (HNX.out _ _ hown3)
          have HB3 := Lib.hid (HB.out.grown hgr3 HB.out.size (fun k hk => (HO.out.lt k hk).1))
          clear hown3 hgr3 hown hcs hone
          go_wp2_with fail
          go_roundw
          case rel => exact ⟨i + 1, by go_num, by omega, HO3, HB3⟩
          case measure => simp [intOf]; omega
        · have hie : i = ps.length := by omega
          subst hie
          have HO4 := HO.out
          rw [List.take_length] at HO4
          have HO5 := Lib.hid HO4
          clear HO4
          go_wp2_with fail
          go_ret
          exact ⟨⟨_, rfl, HO5.out⟩, HB.out⟩
end Go.Proofs.YtndkbecdjaedaaaGreatDoor
