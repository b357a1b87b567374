/- The reference's reader: put; an append to its row. -/
import Derived.Test.YtndkbecdjaedaaaGreatDoorJsQ2
import Derived.Test.YtndkbecdjaedaaaGreatDoorJsVal
import Derived.Test.YtndkbecdjaedaaaGreatDoorJsRt
import Derived.Deep.AppendLies
namespace Go.Proofs.YtndkbecdjaedaaaGreatDoor
open Go.RowKit

theorem step_append_v {w : World} {ops : Array Oper} {o : Oper} {a : Act} {K : Act → World → Prop} {Q : Exit → Act → World → Prop} {E : Prop} (hgd : o.guard = none) (s x : Operand)
    (ho : o.op = .call { callee := .builtin .append, args := #[s, x], argTypes := #[35, 35] })
    (base : Nat) (v : Value) (vs : List V) (hs : a.eval s = v) (hown : w.ownsRow base 56 4 v vs.length (vcells vs))
    (N c : Nat) (y : V) (fz : Nat × Nat) (hx : a.eval x = .slice (some ⟨N, 0, none⟩) 1 c) (hblk : w.heap[N]? = some (.cells #[.int .i64 y.kind, .string ⟨y.key.toArray⟩, .string ⟨y.text.toArray⟩, .int .i64 y.count] 56 fz))
    (hb : vs.length ≤ 1000000) (hbase : base ≤ w.heap.size)
    (h : ∀ g cap w', w'.ownsRow base 56 4 (.slice (some ⟨g, 0, none⟩) (vs.length + 1) cap) (vs ++ [y]).length (vcells (vs ++ [y])) → w.grownBy w' v.ownBlock → (v.ownBlock = some g ∨ g = w.heap.size) → g < w'.heap.size → K (a.put o.dst (.slice (some ⟨g, 0, none⟩) (vs.length + 1) cap)) w') :
    if Region.wanted o (yielded ops a.tmps) = true then Oper.wp Tryz.prog o a w K Q else E := by
  obtain ⟨i0, hi, hz0, hz1, hz2⟩ := info_parts infoVal
  refine step_append_lies w hgd s x 35 ho base 56 i0 _ 4 48 Tryz.underlying35 hi hz0 hz1 hz2 rfl (by decide) v vs.length (vcells vs) hs hown ⟨N, 0, none⟩ 1 c (vcell y) hx rfl (World.news_of_block hblk) ?_ (by decide) (by unfold maxLen; omega) (by omega) hbase _ rfl ?_
  · intro u hu
    simp [vcell] at hu
    rcases hu with rfl | rfl | rfl | rfl <;> rfl
  · intro g cap w' ho' hg hat hlt
    refine h g cap w' ?_ hg hat hlt
    rw [List.length_append, vcells_append]
    have : vcells [y] = vcell y := by simp [vcells]
    rw [this]
    exact ho'

theorem Rq.append {b k : Nat} {T : List UInt8} {vs vs' : List V} {v v' : Value} {e : Int} {w2 w3 : World} (h : Rq b T k vs v e w2) (hg : w2.grownBy w3 v.ownBlock) (ho : w3.ownsRow (b + 1) 56 4 v' vs'.length (vcells vs')) : Rq b T k vs' v' e (w3.setCell ⟨b, 2, none⟩ v') := by
  have hb3 : w3.heap[b]? = some (.cells #[.string ⟨T.toArray⟩, .int .i64 (k : Int), v, .int .i64 e] 89 (0, 0)) :=
    (hg.block b h.lt (fun e => by have := (h.ne b e.symm).1; omega)).trans h.blk
  exact ⟨heap_setCell_same w3 b 2 _ _ _ hb3, ownsRow_setCell_other ho (fun hk => by have := (ho.lt b hk).1; omega) _⟩
theorem Rq.len {b k : Nat} {T : List UInt8} {vs : List V} {v : Value} {e : Int} {w : World} (h : Rq b T k vs v e w) : ∃ a c, v = .slice a vs.length c := by
  rcases h.own.2 with ⟨hv, h0⟩ | ⟨g, cap, cur, hv, _⟩
  · exact ⟨none, 0, by rw [hv, h0]⟩
  · exact ⟨_, _, hv⟩

/-- What a step that lengthens the row leaves. -/
structure Grew (b : Nat) (T : List UInt8) (k : Nat) (vs : List V) (v : Value) (e : Int) (w w' : World) (v0 : Value) : Prop where
  rd : Rq b T k vs v e w'
  kp : Kp (b :: v0.ownBlock.toList) w w'
  loc : Loc v0 v w

set_option maxHeartbeats 8000000 in
set_option maxRecDepth 1000000 in
theorem qput_calls (b : Nat) (T : List UInt8) (k : Nat) (vs : List V) (v : Value) (e : Int) (x : V) (deep : Nat) (w : World) (h : Rq b T k vs v e w) (hd : deep < 50) (hn : vs.length < 5000) :
    Calls Tryz.prog 115 #[.pointer (some ⟨b, 0, none⟩), .agg #[.int .i64 x.kind, .string ⟨x.key.toArray⟩, .string ⟨x.text.toArray⟩, .int .i64 x.count], .int .i64 (deep : Int)] w fun r w' =>
      r = .returned (.bool true) ∧ ∃ v', Grew b T k (vs ++ [x]) v' e w w' v := by
  obtain ⟨a, c, hv⟩ := h.len
  subst hv
  obtain ⟨kd, key, text, count⟩ := x
  simp only []
  have hd' : decide ((50 : Int) ≤ (deep : Int)) = false := decide_eq_false (by omega)
  have hd2 : ¬ (50 : Int) ≤ (deep : Int) := by omega
  have hn2 : ¬ (5000 : Int) ≤ (vs.length : Int) := by omega
  have hb1 : Below w.heap.size w (w.alloc (.cells #[.int .i64 kd, .string ⟨key.toArray⟩, .string ⟨text.toArray⟩, .int .i64 count] 56)) := (Below.refl _ _).alloc (Nat.le_refl _) _
  have H1 := Lib.hid (h.fresh hb1)
  have HX := Lib.hid (heap_alloc_new w (.cells #[.int .i64 kd, .string ⟨key.toArray⟩, .string ⟨text.toArray⟩, .int .i64 count] 56))
  have K1 : Hid (Kp (b :: (Value.slice a vs.length c).ownBlock.toList) w (w.alloc (.cells #[.int .i64 kd, .string ⟨key.toArray⟩, .string ⟨text.toArray⟩, .int .i64 count] 56))) := Lib.hid (Kp.of_below hb1)
  have hlt := h.lt
  have HNE := Lib.hid h.ne
  clear h hb1
  go_enter Tryz.func115, Tryz.ntmps115
  have c2 := H1.out.c2
  go_upto_region 3 with fail
  generalize hw1 : w.alloc (Obj.cells #[.int .i64 kd, .string ⟨key.toArray⟩, .string ⟨text.toArray⟩, .int .i64 count] 56) = w1 at *
  go_cut [] (fun wx => ∃ v', Hid (Grew b T k (vs ++ [⟨kd, key, text, count⟩]) v' e w wx (.slice a vs.length c)))
  case first =>
    obtain ⟨x0, x1, x2, x3⟩ := four HX.out
    have hbl : b < w1.heap.size := H1.out.lt
    have hsz : w1.heap.size = w.heap.size + 1 := by rw [← hw1]; simp
    have f2 := H1.out.free 2
    have h2 : Below w1.heap.size w1 (w1.alloc (.cells #[.int .i64 kd, .string ⟨key.toArray⟩, .string ⟨text.toArray⟩, .int .i64 count] 56)).drew := ((Below.refl _ w1).alloc (Nat.le_refl _) _).drew
    have H2 := Lib.hid (H1.out.fresh h2)
    have hown2 := H2.out.own
    have hblk : (w1.alloc (.cells #[.int .i64 kd, .string ⟨key.toArray⟩, .string ⟨text.toArray⟩, .int .i64 count] 56)).drew.heap[w1.heap.size]? = some (.cells #[.int .i64 (⟨kd, key, text, count⟩ : V).kind, .string ⟨(⟨kd, key, text, count⟩ : V).key.toArray⟩, .string ⟨(⟨kd, key, text, count⟩ : V).text.toArray⟩, .int .i64 (⟨kd, key, text, count⟩ : V).count] 56 (0, 0)) := heap_alloc_new w1 _
    have hbase : b + 1 ≤ (w1.alloc (.cells #[.int .i64 kd, .string ⟨key.toArray⟩, .string ⟨text.toArray⟩, .int .i64 count] 56)).drew.heap.size := by have := h2.size; omega
    have hfar : some b ≠ (Value.slice a vs.length c).ownBlock := fun he => by have := (HNE.out b he.symm).1; omega
    have hblt : b < (w1.alloc (.cells #[.int .i64 kd, .string ⟨key.toArray⟩, .string ⟨text.toArray⟩, .int .i64 count] 56)).drew.heap.size := by omega
    have hc2 := H2.out.c2
    have hf2 := H2.out.free 2
    have HC2 := Lib.hid hc2
    have HF2 := Lib.hid hf2
    have HFAR := Lib.hid hfar
    have HBLT := Lib.hid hblt
    have H2K := Lib.hid h2
    clear h2 hfar hblt hf2
    go_region_law (first | (refine step_append_v rfl _ _ rfl (b + 1) (.slice a vs.length c) vs (by simp [Act.eval]) hown2 w1.heap.size 1 ⟨kd, key, text, count⟩ (0, 0) (by simp [Act.eval]) hblk (by omega) hbase ?_; intro g cap2 w3 hown3 hgr3 hat3 hlt3; have hw2 : w3.cell? ⟨b, 2, none⟩ = some (.slice a vs.length c) := (hgr3.cell_far ⟨b, 2, none⟩ HBLT.out HFAR.out).trans HC2.out; have hwf : w3.frozen? ⟨b, 2, none⟩ = false := (hgr3.frozen_far ⟨b, 2, none⟩ HBLT.out HFAR.out).trans HF2.out))
    all_goals
      have hR := H2.out.append hgr3 hown3
      have hK := ((K1.out.trans (Kp.of_below (S := []) H2K.out) (fun _ hk => by cases hk)).grown hgr3 (fun q hq => .inl (by rw [hq]; simp))).setCell (p := ⟨b, 2, none⟩) (.inl (by simp)) (.slice (some ⟨g, 0, none⟩) (vs.length + 1) cap2)
      have hL : Loc (.slice a vs.length c) (.slice (some ⟨g, 0, none⟩) (vs.length + 1) cap2) w := fun q hq => by
        have hq : g = q := by simpa [Value.ownBlock] using hq
        subst hq
        rcases hat3 with h1 | h1
        · exact .inl h1
        · exact .inr (by rw [h1]; have := H2K.out.size; omega)
      have HG := Lib.hid (Grew.mk hR hK hL)
      go_wp2_with fail
      go_meet
      exact ⟨_, HG⟩
  case rest =>
    obtain ⟨v', HG⟩ := hcut
    clear c2
    go_wp2_with fail
    go_ret
    exact ⟨rfl, v', HG.out⟩
end Go.Proofs.YtndkbecdjaedaaaGreatDoor
