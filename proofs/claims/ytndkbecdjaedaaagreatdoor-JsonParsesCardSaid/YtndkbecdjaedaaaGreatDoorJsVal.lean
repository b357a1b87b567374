/- reader.value. -/
import Derived.Test.YtndkbecdjaedaaaGreatDoorJsAll
import Derived.Test.YtndkbecdjaedaaaGreatDoorJsRd
import Derived.Deep.RegionHeld3
import Derived.Deep.DeepCutAuto
import Derived.Deep.CutRange
import Derived.StillTailTactics
import Derived.BigQuiet
namespace Go.Proofs.YtndkbecdjaedaaaGreatDoor
open Go.RowKit Go.Maps Go.WideMaps

theorem infoVal : (Tryz.prog.info? 56).map (fun i => (i.zero, i.size, i.bytes)) = some (some (.agg #[.int .i64 0, .string ⟨#[]⟩, .string ⟨#[]⟩, .int .i64 0]), 4, 48) := by kernel_rfl

/-- A value that is begun. -/
def begun (key : List UInt8) : V := ⟨0, key, [], 0⟩

theorem words_index0 : ∀ w, (Instr.index 140 (.agg #[.string ⟨#[110, 117, 108, 108]⟩, .string ⟨#[116, 114, 117, 101]⟩, .string ⟨#[102, 97, 108, 115, 101]⟩]) (.int .i64 0)).run Tryz.prog w = .ok (.string ⟨#[110, 117, 108, 108]⟩) w := fun w => by kernel_rfl
theorem words_index1 : ∀ w, (Instr.index 140 (.agg #[.string ⟨#[110, 117, 108, 108]⟩, .string ⟨#[116, 114, 117, 101]⟩, .string ⟨#[102, 97, 108, 115, 101]⟩]) (.int .i64 1)).run Tryz.prog w = .ok (.string ⟨#[116, 114, 117, 101]⟩) w := fun w => by kernel_rfl
theorem words_index2 : ∀ w, (Instr.index 140 (.agg #[.string ⟨#[110, 117, 108, 108]⟩, .string ⟨#[116, 114, 117, 101]⟩, .string ⟨#[102, 97, 108, 115, 101]⟩]) (.int .i64 2)).run Tryz.prog w = .ok (.string ⟨#[102, 97, 108, 115, 101]⟩) w := fun w => by kernel_rfl

/-- What is left, of an answer. -/
def ResIs (vs vs' : List V) (l' : List UInt8) (e' : Int) (r : Except Int (List V × List UInt8)) : Prop :=
  match r with | .ok (xs, r') => e' = 0 ∧ l' = r' ∧ vs' = vs ++ xs | .error y => e' = y ∧ e' ≠ 0
theorem PRes.stored {b g n cap : Nat} {w W : World} {vs vs' : List V} {v : Value} {S : List Nat} {r : Except Int (List V × List UInt8)} {l' : List UInt8} {e' : Int} (h : Rd b l' vs' (.slice (some ⟨g, 0, none⟩) n cap) e' W) (hi : vs.length < vs'.length)
    (k : Kp (b :: (v.ownBlock.toList ++ S)) w W) (hlo : Loc v (.slice (some ⟨g, 0, none⟩) n cap) w) (x : V) (h5 : vs'.length ≤ 5000) (hl : l'.length ≤ 1099511627776)
    (hr : match r with | .ok (xs, r') => e' = 0 ∧ l' = r' ∧ vs'.set vs.length x = vs ++ xs | .error y => e' = y ∧ e' ≠ 0) :
    PRes b w vs v S r ((((W.setCell ⟨g, vs.length * 4, none⟩ (.int .i64 x.kind)).setCell ⟨g, vs.length * 4 + 1, none⟩ (.string ⟨x.key.toArray⟩)).setCell ⟨g, vs.length * 4 + 2, none⟩ (.string ⟨x.text.toArray⟩)).setCell ⟨g, vs.length * 4 + 3, none⟩ (.int .i64 x.count)).drew := by
  obtain ⟨h1, k1⟩ := h.store hi x
  refine ⟨⟨l', _, _, e', h1, hlo, by rw [List.length_set]; omega, by rw [List.length_set]; exact h5, hl, hr⟩, k.trans k1 (fun j hj => ?_)⟩
  have : j = g := by simpa using hj
  subst this
  rcases hlo j rfl with h | h
  · exact .inl (by simp [h])
  · exact .inr h

theorem kdn (S : List Nat) (w : World) (n : Nat) : Kp S w (w.drewN n) := ⟨rfl, rfl, rfl, Nat.le_refl _, fun _ _ _ => rfl⟩
theorem kset {S : List Nat} (w : World) (p : Addr) (u : Value) (h : p.block ∈ S) : Kp S w (w.setCell p u) := (Kp.refl _ _).setCell (.inl h) u
theorem cells4 {w : World} {b : Nat} {a0 a1 a2 a3 : Value} {t : TypeId} (h : w.heap[b]? = some (.cells #[a0, a1, a2, a3] t (0, 0))) :
    w.cell? ⟨b, 0, none⟩ = some a0 ∧ w.cell? ⟨b, 1, none⟩ = some a1 ∧ w.cell? ⟨b, 2, none⟩ = some a2 ∧ w.cell? ⟨b, 3, none⟩ = some a3 := by
  refine ⟨?_, ?_, ?_, ?_⟩ <;> rw [cell_of_row w b _ _ _ _ h] <;> rfl

theorem own_ne {g n cap : Nat} {S : List Nat} (h : g ∉ S) : ∀ k, (Value.slice (some ⟨g, 0, none⟩) n cap).ownBlock = some k → k ∉ S := fun k hk => by
  have hgk : g = k := by simpa [Value.ownBlock] using hk
  rw [← hgk]; exact h

theorem rd_append {b : Nat} {l : List UInt8} {vs : List V} {v : Value} {x : V} {w2 w3 : World} {o : Obj} {g cap2 : Nat} (h2 : Rd b l vs v 0 w2)
    (hown : w3.ownsRow (b + 1) 56 4 (.slice (some ⟨g, 0, none⟩) (vs.length + 1) cap2) (vs.length + 1) (vcells vs ++ vcell x)) (hgr : (w2.alloc o).drew.grownBy w3 v.ownBlock) (hat : v.ownBlock = some g ∨ g = (w2.alloc o).drew.heap.size) :
    Rd b l (vs ++ [x]) (.slice (some ⟨g, 0, none⟩) (vs.length + 1) cap2) 0 (w3.setCell ⟨b, 1, none⟩ (.slice (some ⟨g, 0, none⟩) (vs.length + 1) cap2)) ∧
      Kp (b :: v.ownBlock.toList) w2 (w3.setCell ⟨b, 1, none⟩ (.slice (some ⟨g, 0, none⟩) (vs.length + 1) cap2)) ∧ (v.ownBlock = some g ∨ w2.heap.size ≤ g) := by
  have hs : (w2.alloc o).drew.heap.size = w2.heap.size + 1 := by show (w2.alloc o).heap.size = _; simp
  have hlt := h2.lt
  have hb3 : w3.heap[b]? = some (.cells #[.string ⟨l.toArray⟩, v, .int .i64 0] 83 (0, 0)) := by
    rw [hgr.block b (by rw [hs]; omega) (fun h => by have := (h2.ne b h.symm).1; omega)]
    show (w2.alloc o).heap[b]? = _
    rw [heap_alloc_old _ _ hlt]
    exact h2.blk
  refine ⟨⟨heap_setCell_same w3 b 1 _ _ _ hb3, ?_⟩, ?_, hat.imp id (fun h => by rw [h, hs]; omega)⟩
  · have e : vcells (vs ++ [x]) = vcells vs ++ vcell x := by rw [vcells_append]; rfl
    rw [e, List.length_append]
    exact ownsRow_setCell_other hown (fun hk => by have := (hown.lt b hk).1; omega) _
  · exact ((((Kp.refl _ _).alloc o).drew).grown hgr (fun k hk => .inl (by simp [hk]))).setCell (.inl (by simp)) _

set_option maxHeartbeats 8000000 in
set_option maxRecDepth 1000000 in
theorem val_step (f : Nat) (hV : ∀ g, g ≤ f → VOK g) : VOK (f + 1) := by
  intro b l vs v key deep w w0 h hE hd hn hf hl
  have hsk := skip_len l
  obtain ⟨a, cap, hv⟩ : ∃ a cap, v = .slice a vs.length cap := by
    rcases h.own.2 with ⟨hv, h0⟩ | ⟨g, cap, cur, hv, _⟩
    · exact ⟨none, 0, by rw [hv, h0]⟩
    · exact ⟨_, _, hv⟩
  have hlt := h.lt
  have hne := h.ne
  have k1 : Kp [] w ((w.alloc (.cells #[.pointer (some ⟨b, 0, none⟩)] 81)).alloc (.cells #[.int .i64 (deep : Int)] 3)) := ((Kp.refl _ _).alloc _).alloc _
  have h1 := h.kept k1 (by simp) (fun _ _ => by simp)
  have hr1 : ((w.alloc (.cells #[.pointer (some ⟨b, 0, none⟩)] 81)).alloc (.cells #[.int .i64 (deep : Int)] 3)).heap[w.heap.size]? = some (.cells #[.pointer (some ⟨b, 0, none⟩)] 81 (0, 0)) := by
    rw [heap_alloc_old _ _ (by simp), heap_alloc_new]
  have hd1 : ((w.alloc (.cells #[.pointer (some ⟨b, 0, none⟩)] 81)).alloc (.cells #[.int .i64 (deep : Int)] 3)).heap[w.heap.size + 1]? = some (.cells #[.int .i64 (deep : Int)] 3 (0, 0)) := by
    have := heap_alloc_new (w.alloc (.cells #[.pointer (some ⟨b, 0, none⟩)] 81)) (.cells #[.int .i64 (deep : Int)] 3)
    simpa using this
  have hs1 : ((w.alloc (.cells #[.pointer (some ⟨b, 0, none⟩)] 81)).alloc (.cells #[.int .i64 (deep : Int)] 3)).heap.size = w.heap.size + 2 := by simp
  have HH := Lib.hid h1
  have HK := Lib.hid k1
  have HR := Lib.hid hr1
  have HD := Lib.hid hd1
  have HS := Lib.hid hs1
  have HE := Lib.hid hE
  have HNE := Lib.hid hne
  have HV := Lib.hid hv
  clear h k1 h1 hr1 hd1 hs1 hE hne hv
  go_enter Tryz.func59, Tryz.ntmps59
  go_wp2_with fail
  refine (begins_calls b l vs v _ deep HH.out hd hn).mono ?_
  rintro e2 w2 ⟨rfl, h2, k2⟩
  have kw : Kp [b] w w2 := (HK.out.mono (S' := [b]) (fun k hk => by simp at hk)).trans k2 (fun k hk => .inl hk)
  have hr2 : w2.heap[w.heap.size]? = some (.cells #[.pointer (some ⟨b, 0, none⟩)] 81 (0, 0)) := by
    rw [k2.block _ (by rw [HS.out]; omega) (by simp; omega)]; exact HR.out
  have hd2 : w2.heap[w.heap.size + 1]? = some (.cells #[.int .i64 (deep : Int)] 3 (0, 0)) := by
    rw [k2.block _ (by rw [HS.out]; omega) (by simp; omega)]; exact HD.out
  clear HR HD HH HK HS k2
  have hE2 := HE.out.kept kw (by simp)
  have HKW := Lib.hid kw
  have HE2 := Lib.hid hE2
  have hws : w.heap.size < w2.heap.size := lt_of_block hr2
  clear kw hE2
  by_cases hE0 : beginE (skip l) vs.length deep = 0
  case neg =>
    have hp := pval_begin (f := f) (l := l) (key := key) hE0
    have hb0 : (beginE (skip l) vs.length deep == 0) = false := by simpa using hE0
    have HP := Lib.hid hp
    have HE0 := Lib.hid hE0
    have H2 := Lib.hid h2
    generalize beginE (skip l) vs.length deep = E at hb0 HP HE0 H2 ⊢
    clear h2 hE0 hp
    go_wp2_with fail
    (try simp only [Exit.inBlock, Exit.then])
    refine bodyPost_ret (results_none rfl _ _ _) rfl ?_
    rw [HP.out]
    exact ⟨rfl, PRes.here H2.out (HKW.out.mono (fun k hk => .inl (by simp at hk; simp [hk]))) hn (by omega) ⟨rfl, HE0.out⟩⟩
  case pos =>
    obtain ⟨c, t, hst, hsc, hd50, hn5⟩ := begin_pos hE0
    have hpv := pval_go (f := f) (key := key) hst hE0
    rw [hE0] at h2 ⊢
    rw [hst] at h2 hsk
    have HPV := Lib.hid hpv
    have HST := Lib.hid hst
    have c1 : w2.cell? ⟨b, 1, none⟩ = some (.slice a vs.length cap) := by rw [← HV.out]; exact h2.c1
    have f1 := h2.free 1
    have cr := cell_of_one hr2
    have H2 := Lib.hid h2
    have HR2 := Lib.hid hr2
    have HD2 := Lib.hid hd2
    clear h2 hpv hst hr2 hd2 hE0
    obtain ⟨i0, hi, hz0, hz1, hz2⟩ := info_parts infoVal
    have hnews : ∀ j u, (vcell (begun key))[j]? = some u → (w2.alloc (.cells #[.int .i64 0, .string ⟨key.toArray⟩, .string ⟨#[]⟩, .int .i64 0] 56)).drew.cell? ((⟨w2.heap.size, 0, none⟩ : Addr).add j) = some u := by
      have := World.news_of_block (w := (w2.alloc (.cells #[.int .i64 0, .string ⟨key.toArray⟩, .string ⟨#[]⟩, .int .i64 0] 56)).drew) (B := w2.heap.size) (heap_alloc_new w2 (.cells #[.int .i64 0, .string ⟨key.toArray⟩, .string ⟨#[]⟩, .int .i64 0] 56))
      exact this
    have hown2 : (w2.alloc (.cells #[.int .i64 0, .string ⟨key.toArray⟩, .string ⟨#[]⟩, .int .i64 0] 56)).drew.ownsRow (b + 1) 56 4 (.slice a vs.length cap) vs.length (vcells vs) := by
      rw [← HV.out]; exact (H2.out.own.alloc _).drew
    have hbase : b + 1 ≤ (w2.alloc (.cells #[.int .i64 0, .string ⟨key.toArray⟩, .string ⟨#[]⟩, .int .i64 0] 56)).drew.heap.size := by simp; omega
    go_upto_region 3 with fail
    go_cut [] (fun wx => ∃ g cap2, Hid (Rd b (c :: t) (vs ++ [begun key]) (.slice (some ⟨g, 0, none⟩) (vs.length + 1) cap2) 0 wx) ∧ Hid (Kp (b :: v.ownBlock.toList) w2 wx) ∧ (v.ownBlock = some g ∨ w2.heap.size ≤ g))
    case first =>
      have hc3 : (w2.alloc (.cells #[.int .i64 0, .string ⟨key.toArray⟩, .string ⟨#[]⟩, .int .i64 0] 56)).drew.cell? ⟨w.heap.size, 0, none⟩ = some (.pointer (some ⟨b, 0, none⟩)) := by
        rw [World.cell?_of_block (w' := (w2.alloc (.cells #[.int .i64 0, .string ⟨key.toArray⟩, .string ⟨#[]⟩, .int .i64 0] 56)).drew) (heap_alloc_old w2 _ hws)]; exact cr
      have hc1 : (w2.alloc (.cells #[.int .i64 0, .string ⟨key.toArray⟩, .string ⟨#[]⟩, .int .i64 0] 56)).drew.cell? ⟨b, 1, none⟩ = some (.slice a vs.length cap) := by
        rw [World.cell?_of_block (w' := (w2.alloc (.cells #[.int .i64 0, .string ⟨key.toArray⟩, .string ⟨#[]⟩, .int .i64 0] 56)).drew) (heap_alloc_old w2 _ H2.out.lt)]; exact c1
      have hf1 : (w2.alloc (.cells #[.int .i64 0, .string ⟨key.toArray⟩, .string ⟨#[]⟩, .int .i64 0] 56)).drew.frozen? ⟨b, 1, none⟩ = false := by
        rw [World.frozen?_of_block (w' := (w2.alloc (.cells #[.int .i64 0, .string ⟨key.toArray⟩, .string ⟨#[]⟩, .int .i64 0] 56)).drew) (heap_alloc_old w2 _ H2.out.lt)]; exact f1
      have hfar : ∀ k, some k = (Value.slice a vs.length cap).ownBlock → b < k ∧ k < w.heap.size := fun k hk => HNE.out k (by rw [HV.out]; exact hk.symm)
      have hsz : (w2.alloc (.cells #[.int .i64 0, .string ⟨key.toArray⟩, .string ⟨#[]⟩, .int .i64 0] 56)).drew.heap.size = w2.heap.size + 1 := by simp
      have HC3 := Lib.hid hc3
      have HC1 := Lib.hid hc1
      have HF1 := Lib.hid hf1
      have HFAR := Lib.hid hfar
      have HL1 : Hid (w.heap.size < (w2.alloc (.cells #[.int .i64 0, .string ⟨key.toArray⟩, .string ⟨#[]⟩, .int .i64 0] 56)).drew.heap.size) := Lib.hid (by rw [hsz]; omega)
      have HL2 : Hid (b < (w2.alloc (.cells #[.int .i64 0, .string ⟨key.toArray⟩, .string ⟨#[]⟩, .int .i64 0] 56)).drew.heap.size) := Lib.hid (by rw [hsz]; omega)
      have HN1 : Hid (some w.heap.size ≠ (Value.slice a vs.length cap).ownBlock) := Lib.hid (fun h => by have := hfar _ h; omega)
      have HN2 : Hid (some b ≠ (Value.slice a vs.length cap).ownBlock) := Lib.hid (fun h => by have := hfar _ h; omega)
      have hq1 : (w2.alloc (.cells #[.int .i64 0, .string ⟨key.toArray⟩, .string ⟨#[]⟩, .int .i64 0] 56)).cell? ⟨b, 1, none⟩ = some (.slice a vs.length cap) := hc1
      have hq3 : (w2.alloc (.cells #[.int .i64 0, .string ⟨key.toArray⟩, .string ⟨#[]⟩, .int .i64 0] 56)).cell? ⟨w.heap.size, 0, none⟩ = some (.pointer (some ⟨b, 0, none⟩)) := hc3
      clear HKW HE2 HR2 HD2 HST HPV hc3 hc1 hf1 hfar hsz
      go_region_law (first | (refine step_append_lies _ rfl _ _ 35 rfl (b + 1) 56 i0 _ 4 48 Tryz.underlying35 hi hz0 hz1 hz2 rfl (by decide) (.slice a vs.length cap) vs.length (vcells vs) (by simp [Act.eval]) hown2 ⟨w2.heap.size, 0, none⟩ 1 1 (vcell (begun key)) (by simp [Act.eval]) rfl hnews (by intro u hu; simp [vcell] at hu; rcases hu with rfl | rfl | rfl | rfl <;> rfl) (by decide) (by unfold maxLen; omega) (by omega) hbase _ rfl ?_; intro g cap2 w3 hown3 hgr3 hat3 hlt3; have hw3 : w3.cell? ⟨w.heap.size, 0, none⟩ = some (.pointer (some ⟨b, 0, none⟩)) := (hgr3.cell_far ⟨w.heap.size, 0, none⟩ HL1.out HN1.out).trans HC3.out; have hw1 : w3.cell? ⟨b, 1, none⟩ = some (.slice a vs.length cap) := (hgr3.cell_far ⟨b, 1, none⟩ HL2.out HN2.out).trans HC1.out; have hwf : w3.frozen? ⟨b, 1, none⟩ = false := (hgr3.frozen_far ⟨b, 1, none⟩ HL2.out HN2.out).trans HF1.out))
      all_goals
        have hR := rd_append (H2.out) (by exact hown3) (by rw [HV.out]; exact hgr3) (by rw [HV.out]; exact hat3)
        go_wp2_with fail
        go_meet
        exact ⟨g, cap2, Lib.hid hR.1, Lib.hid hR.2.1, hR.2.2⟩
    case rest =>
      obtain ⟨g, cap2, HR3, HK3, hg⟩ := hcut
      have hwc : w2.heap.size ≤ wc.heap.size := HK3.out.size
      have hnl : ∀ k, w.heap.size ≤ k → k ∉ b :: v.ownBlock.toList := fun k hk hm => by
        simp at hm
        rcases hm with h | h
        · omega
        · have := (HNE.out k h).2; omega
      have hr3 := HK3.out.block _ hws (hnl _ (Nat.le_refl _))
      rw [HR2.out] at hr3
      have hd3 := HK3.out.block _ (lt_of_block HD2.out) (hnl _ (by omega))
      rw [HD2.out] at hd3
      have hE3 := HE2.out.kept HK3.out (by
        intro k hk
        simp at hk
        rcases hk with h | h
        · omega
        · exact Nat.le_of_lt (HNE.out k h).1)
      have hK3 : Kp (b :: v.ownBlock.toList) w wc := (HKW.out.mono (fun k hk => .inl (by simp at hk; simp [hk]))).trans HK3.out (fun k hk => .inl hk)
      have hgb := HR3.out.ne g rfl
      have hgH : g ≠ w.heap.size ∧ g ≠ w.heap.size + 1 := by
        have h1 := lt_of_block HD2.out
        rcases hg with h | h
        · have := (HNE.out g h).2; omega
        · omega
      have hlo : Loc v (.slice (some ⟨g, 0, none⟩) (vs.length + 1) cap2) w := fun k hk => by
        have : g = k := by simpa [Value.ownBlock] using hk
        subst this
        rcases hg with h | h
        · exact .inl h
        · right; omega
      have hsz3 : w.heap.size + 1 < wc.heap.size := by have := lt_of_block HD2.out; omega
      obtain ⟨H, hH⟩ : ∃ H, w.heap.size = H := ⟨_, rfl⟩
      rw [hH] at hr3 hd3 hgH hsz3 hws ⊢
      have hbH : b < H := by omega
      have k4 := hK3.alloc (.cells #[.int .i64 0, .string ⟨key.toArray⟩, .string ⟨#[]⟩, .int .i64 0] 56)
      have k4' : Kp [] wc (wc.alloc (.cells #[.int .i64 0, .string ⟨key.toArray⟩, .string ⟨#[]⟩, .int .i64 0] 56)) := (Kp.refl _ _).alloc _
      have r4 := HR3.out.kept k4' (by simp) (fun _ _ => by simp)
      have e4 := hE3.kept k4' (by simp)
      have hr4 := (heap_alloc_old wc (.cells #[.int .i64 0, .string ⟨key.toArray⟩, .string ⟨#[]⟩, .int .i64 0] 56) (r := H) (by omega)).trans hr3
      have hd4 := (heap_alloc_old wc (.cells #[.int .i64 0, .string ⟨key.toArray⟩, .string ⟨#[]⟩, .int .i64 0] 56) (r := H + 1) (by omega)).trans hd3
      have hv4 := heap_alloc_new wc (.cells #[.int .i64 0, .string ⟨key.toArray⟩, .string ⟨#[]⟩, .int .i64 0] 56)
      have q0 : (wc.alloc (.cells #[.int .i64 0, .string ⟨key.toArray⟩, .string ⟨#[]⟩, .int .i64 0] 56)).cell? ⟨1, 0, none⟩ = some (.string ⟨#[110, 117, 108, 108]⟩) := e4.words 0 (by omega)
      have q1 : (wc.alloc (.cells #[.int .i64 0, .string ⟨key.toArray⟩, .string ⟨#[]⟩, .int .i64 0] 56)).cell? ⟨1, 1, none⟩ = some (.string ⟨#[116, 114, 117, 101]⟩) := e4.words 1 (by omega)
      have q2 : (wc.alloc (.cells #[.int .i64 0, .string ⟨key.toArray⟩, .string ⟨#[]⟩, .int .i64 0] 56)).cell? ⟨1, 2, none⟩ = some (.string ⟨#[102, 97, 108, 115, 101]⟩) := e4.words 2 (by omega)
      have R4 := Lib.hid r4
      have K4 := Lib.hid k4
      have E4 := Lib.hid e4
      have P4 := Lib.hid hr4
      have D4 := Lib.hid hd4
      have V4 := Lib.hid hv4
      have HLO := Lib.hid hlo
      have HNL := Lib.hid hnl
      have HHH := Lib.hid hH
      have hgw : g < wc.heap.size := hgb.2
      clear r4 k4 e4 hr4 hd4 hv4 hlo hnl HR3 HK3 hr3 hd3 hE3 hK3 k4' hH HR2 HD2 HKW HE2
      clear c1 f1 cr H2 hi hz0 hz1 hz2 hnews hown2 hbase
      go_wp2_with fail
      have hwbv : w.heap.size ≤ wc.heap.size := by rw [HHH.out]; omega
      generalize hbv : wc.heap.size = bv at *
      go_loopw [35] (fun v35 wr => ∃ i : Nat, v35 = .int .i64 (i : Int) ∧ i ≤ 3 ∧ Hid (∀ j, j < i → (wordB j).data.toList.head? ≠ some c) ∧ Hid (Rd b (c :: t) (vs ++ [begun key]) (.slice (some ⟨g, 0, none⟩) (vs.length + 1) cap2) 0 wr) ∧ Hid (Kp (b :: v.ownBlock.toList) w wr) ∧ Hid (Ev w0 b wr) ∧
        Hid (wr.heap[H]? = some (.cells #[.pointer (some ⟨b, 0, none⟩)] 81 (0, 0))) ∧ Hid (wr.heap[H + 1]? = some (.cells #[.int .i64 (deep : Int)] 3 (0, 0))) ∧ Hid (wr.heap[bv]? = some (.cells #[.int .i64 0, .string ⟨key.toArray⟩, .string ⟨#[]⟩, .int .i64 0] 56 (0, 0)))) (fun v35 _ => 3 - (intOf v35).toNat)
      case atStart => exact ⟨0, rfl, by omega, Lib.hid (fun j hj => by omega), R4, K4, E4, P4, D4, V4⟩
      case round =>
        obtain ⟨i, rfl, hi3, HJ, HRd, HKp, HEv, HP, HD, HV4⟩ := hrel
        have cr := cell_of_one HP.out
        have c0 := HRd.out.c0
        have hways : i = 0 ∨ i = 1 ∨ i = 2 ∨ i = 3 := by omega
        rcases hways with rfl | rfl | rfl | rfl
        · have hidx := words_index0
          have hpre : Lib.hasPrefix (⟨(c :: t).toArray⟩ : ByteArray).data.toList ((⟨#[110, 117, 108, 108]⟩ : ByteArray).extract 0 1).data.toList = decide (c = 110) := by
            rw [show ((⟨#[110, 117, 108, 108]⟩ : ByteArray).extract 0 1).data.toList = [110] from by decide +kernel]
            show Lib.hasPrefix (c :: t) [110] = _
            simp [Lib.hasPrefix, List.isPrefixOf, Bool.beq_eq_decide_eq, eq_comm]
          by_cases hc : c = 110
          · rw [decide_eq_true hc] at hpre
            have HPR := Lib.hid hpre
            have hwo : wordOf c = some (0, [110, 117, 108, 108]) := by rw [hc]; rfl
            have HWO := Lib.hid hwo
            clear hpre hc hwo
            go_wp2_with fail
            go_quiet (first | (go_at_call 101; refine Calls.quiet_of_same ((Tryz.strings_HasPrefix _ _ _).mono (fun e w' h => ⟨h.1.trans (by rw [HPR.out]), h.2⟩))))
            have kq := kdn [] wr nq
            have r5 := HRd.out.kept kq (by simp) (fun _ _ => by simp)
            have k5 := HKp.out.trans kq (fun _ hk => by cases hk)
            have p5 := (kq.block H (lt_of_block HP.out) (by simp)).trans HP.out
            have v5 := (kq.block bv (lt_of_block HV4.out) (by simp)).trans HV4.out
            generalize wr.drewN nq = wq at *
            have c5 := cells4 v5
            have f5 := frozen_of_row wq bv 0 _ _ v5
            obtain ⟨c50, c51, c52, c53⟩ := c5
            have cr5 := cell_of_one p5
            have k6 := kset (S := [bv]) wq ⟨bv, 0, none⟩ (.int .i64 (0 : Nat)) (by simp)
            have r6 := r5.kept k6 (by simp; omega) (own_ne (by simp; omega))
            have p6 := (k6.block H (lt_of_block p5) (by simp; omega)).trans p5
            have v6 : (wq.setCell ⟨bv, 0, none⟩ (.int .i64 (0 : Nat))).heap[bv]? = some (.cells #[.int .i64 (0 : Nat), .string ⟨key.toArray⟩, .string ⟨#[]⟩, .int .i64 0] 56 (0, 0)) := heap_setCell_same wq bv 0 _ _ (.int .i64 (0 : Nat)) v5
            have K6 := Lib.hid (k5.trans k6 (fun k hk => .inr (by have hkb : k = bv := List.mem_singleton.1 hk; omega)))
            have R6 := Lib.hid r6
            have P6 := Lib.hid p6
            have V6 := Lib.hid v6
            clear r5 k5 p5 v5 kq k6 r6 p6 v6
            go_wp2_with fail
            refine (sign_calls b (c :: t) _ _ 0 ⟨#[110, 117, 108, 108]⟩ _ R6.out).mono ?_
            rintro e7 w7 ⟨rfl, h7, k7⟩
            have p7 := (k7.block H (lt_of_block P6.out) (by simp; omega)).trans P6.out
            have v7 := (k7.block bv (lt_of_block V6.out) (by simp; omega)).trans V6.out
            have k8 := K6.out.trans k7 (fun k hk => .inl (by simp at hk; simp [hk]))
            have hsv : signV (c :: t) [110, 117, 108, 108] = if ([110, 117, 108, 108] : List UInt8).isPrefixOf (c :: t) = true then (true, (c :: t).drop 4) else (false, c :: t) := by
              unfold signV
              rw [← HST.out, skip_skip]
              rfl
            rw [show (⟨#[110, 117, 108, 108]⟩ : ByteArray).data.toList = [110, 117, 108, 108] from rfl] at h7 ⊢
            have V7 := Lib.hid v7
            have P7 := Lib.hid p7
            have K7 : Hid (Kp (b :: (v.ownBlock.toList ++ [])) w w7) := Lib.hid (by simpa using k8)
            clear p7 v7 k7 k8 c50 c51 c52 c53 cr5 f5 cr c0
            cases hpx : ([110, 117, 108, 108] : List UInt8).isPrefixOf (c :: t) with
            | true =>
              rw [hpx, if_pos rfl] at hsv
              rw [hsv] at h7 ⊢
              have H7 := Lib.hid h7
              have HPX := Lib.hid hpx
              have hdl : ((c :: t).drop 4).length ≤ (c :: t).length := by rw [List.length_drop]; omega
              clear h7 hpx hsv
              go_wp2_with fail
              obtain ⟨z0, z1, z2, z3, y0, y1, y2, y3, x0, x1, x2, x3⟩ := H7.out.slot (i := vs.length) (by simp)
              obtain ⟨q0, q1, q2, q3⟩ := cells4 V7.out
              have qr := cell_of_one P7.out
              have qc := H7.out.c1
              have hix0 : (0 : Int) ≤ (vs.length : Int) := by omega
              have hix1 : (vs.length : Int) < ((vs.length + 1 : Nat) : Int) := by omega
              have hix2 : (vs.length : Int) < (vs.length : Int) + 1 := by omega
              go_still_tail 7, (by kernel_rfl)
              change wpList _ _ _ _ _ w7.drew
              go_wp2_with fail
              (try simp only [Exit.inBlock, Exit.then])
              refine bodyPost_ret (results_none rfl _ _ _) rfl ?_
              have hpv2 : pval (f + 1) l vs.length key deep = .ok ([⟨(0 : Nat), key, [], 0⟩], (c :: t).drop 4) := by rw [HPV.out, HWO.out]; simp only []; rw [if_pos HPX.out]; rfl
              rw [hpv2]
              exact ⟨rfl, PRes.stored H7.out (by simp) K7.out HLO.out ⟨(0 : Nat), key, [], 0⟩ (by simp; omega) (by omega) ⟨rfl, rfl, by simp⟩⟩
            | false =>
              rw [hpx, if_neg (by simp)] at hsv
              rw [hsv] at h7 ⊢
              have H7 := Lib.hid h7
              have HPX := Lib.hid hpx
              clear h7 hpx hsv
              have qr7 := cell_of_one P7.out
              go_wp2_with fail
              refine (bad_calls b _ _ _ _ 3 _ H7.out).mono ?_
              rintro e8 w8 ⟨rfl, h8, k8⟩
              have P8 := Lib.hid ((k8.block H (lt_of_block P7.out) (by simp; omega)).trans P7.out)
              have V8 := Lib.hid ((k8.block bv (lt_of_block V7.out) (by simp; omega)).trans V7.out)
              have K8 := Lib.hid (K7.out.trans k8 (fun k hk => .inl (by simp at hk; simp [hk])))
              have H8 := Lib.hid h8
              clear h8 k8
              go_wp2_with fail
              obtain ⟨z0, z1, z2, z3, y0, y1, y2, y3, x0, x1, x2, x3⟩ := H8.out.slot (i := vs.length) (by simp)
              obtain ⟨q0, q1, q2, q3⟩ := cells4 V8.out
              have qr := cell_of_one P8.out
              have qc := H8.out.c1
              have hix0 : (0 : Int) ≤ (vs.length : Int) := by omega
              have hix1 : (vs.length : Int) < ((vs.length + 1 : Nat) : Int) := by omega
              have hix2 : (vs.length : Int) < (vs.length : Int) + 1 := by omega
              go_still_tail 7, (by kernel_rfl)
              change wpList _ _ _ _ _ w8.drew
              go_wp2_with fail
              (try simp only [Exit.inBlock, Exit.then])
              refine bodyPost_ret (results_none rfl _ _ _) rfl ?_
              have hpv2 : pval (f + 1) l vs.length key deep = .error 3 := by rw [HPV.out, HWO.out]; simp only []; rw [if_neg (by rw [HPX.out]; simp)]
              rw [hpv2]
              exact ⟨rfl, PRes.stored H8.out (by simp) K8.out HLO.out ⟨(0 : Nat), key, [], 0⟩ (by simp; omega) (by omega) ⟨rfl, by decide⟩⟩
          · rw [decide_eq_false hc] at hpre
            have HPR := Lib.hid hpre
            have HC := Lib.hid hc
            clear hpre hc
            go_wp2_with fail
            go_quiet (first | (go_at_call 101; refine Calls.quiet_of_same ((Tryz.strings_HasPrefix _ _ _).mono (fun e w' h => ⟨h.1.trans (by rw [HPR.out]), h.2⟩))))
            have kq := kdn [] wr nq
            have r5 := Lib.hid (HRd.out.kept kq (by simp) (fun _ _ => by simp))
            have k5 := Lib.hid (HKp.out.trans kq (fun _ hk => by cases hk))
            have e5 := Lib.hid (HEv.out.kept kq (by simp))
            have p5 := Lib.hid ((kq.block H (lt_of_block HP.out) (by simp)).trans HP.out)
            have d5 := Lib.hid ((kq.block (H + 1) (lt_of_block HD.out) (by simp)).trans HD.out)
            have v5 := Lib.hid ((kq.block bv (lt_of_block HV4.out) (by simp)).trans HV4.out)
            generalize wr.drewN nq = wq at *
            clear kq
            go_wp2_with fail
            go_roundw
            case rel => exact ⟨1, by go_num, by omega, Lib.hid (fun j hj => by
              rcases Nat.lt_or_ge j 0 with h | h
              · exact HJ.out j h
              · have : j = 0 := by omega
                subst this
                exact fun e => HC.out (by simpa [wordB] using e.symm)), r5, k5, e5, p5, d5, v5⟩
            case measure => simp [intOf]
        · have hidx := words_index1
          have hpre : Lib.hasPrefix (⟨(c :: t).toArray⟩ : ByteArray).data.toList ((⟨#[116, 114, 117, 101]⟩ : ByteArray).extract 0 1).data.toList = decide (c = 116) := by
            rw [show ((⟨#[116, 114, 117, 101]⟩ : ByteArray).extract 0 1).data.toList = [116] from by decide +kernel]
            show Lib.hasPrefix (c :: t) [116] = _
            simp [Lib.hasPrefix, List.isPrefixOf, Bool.beq_eq_decide_eq, eq_comm]
          by_cases hc : c = 116
          · rw [decide_eq_true hc] at hpre
            have HPR := Lib.hid hpre
            have hwo : wordOf c = some (1, [116, 114, 117, 101]) := by rw [hc]; rfl
            have HWO := Lib.hid hwo
            clear hpre hc hwo
            go_wp2_with fail
            go_quiet (first | (go_at_call 101; refine Calls.quiet_of_same ((Tryz.strings_HasPrefix _ _ _).mono (fun e w' h => ⟨h.1.trans (by rw [HPR.out]), h.2⟩))))
            have kq := kdn [] wr nq
            have r5 := HRd.out.kept kq (by simp) (fun _ _ => by simp)
            have k5 := HKp.out.trans kq (fun _ hk => by cases hk)
            have p5 := (kq.block H (lt_of_block HP.out) (by simp)).trans HP.out
            have v5 := (kq.block bv (lt_of_block HV4.out) (by simp)).trans HV4.out
            generalize wr.drewN nq = wq at *
            have c5 := cells4 v5
            have f5 := frozen_of_row wq bv 0 _ _ v5
            obtain ⟨c50, c51, c52, c53⟩ := c5
            have cr5 := cell_of_one p5
            have k6 := kset (S := [bv]) wq ⟨bv, 0, none⟩ (.int .i64 (1 : Nat)) (by simp)
            have r6 := r5.kept k6 (by simp; omega) (own_ne (by simp; omega))
            have p6 := (k6.block H (lt_of_block p5) (by simp; omega)).trans p5
            have v6 : (wq.setCell ⟨bv, 0, none⟩ (.int .i64 (1 : Nat))).heap[bv]? = some (.cells #[.int .i64 (1 : Nat), .string ⟨key.toArray⟩, .string ⟨#[]⟩, .int .i64 0] 56 (0, 0)) := heap_setCell_same wq bv 0 _ _ (.int .i64 (1 : Nat)) v5
            have K6 := Lib.hid (k5.trans k6 (fun k hk => .inr (by have hkb : k = bv := List.mem_singleton.1 hk; omega)))
            have R6 := Lib.hid r6
            have P6 := Lib.hid p6
            have V6 := Lib.hid v6
            clear r5 k5 p5 v5 kq k6 r6 p6 v6
            go_wp2_with fail
            refine (sign_calls b (c :: t) _ _ 0 ⟨#[116, 114, 117, 101]⟩ _ R6.out).mono ?_
            rintro e7 w7 ⟨rfl, h7, k7⟩
            have p7 := (k7.block H (lt_of_block P6.out) (by simp; omega)).trans P6.out
            have v7 := (k7.block bv (lt_of_block V6.out) (by simp; omega)).trans V6.out
            have k8 := K6.out.trans k7 (fun k hk => .inl (by simp at hk; simp [hk]))
            have hsv : signV (c :: t) [116, 114, 117, 101] = if ([116, 114, 117, 101] : List UInt8).isPrefixOf (c :: t) = true then (true, (c :: t).drop 4) else (false, c :: t) := by
              unfold signV
              rw [← HST.out, skip_skip]
              rfl
            rw [show (⟨#[116, 114, 117, 101]⟩ : ByteArray).data.toList = [116, 114, 117, 101] from rfl] at h7 ⊢
            have V7 := Lib.hid v7
            have P7 := Lib.hid p7
            have K7 : Hid (Kp (b :: (v.ownBlock.toList ++ [])) w w7) := Lib.hid (by simpa using k8)
            clear p7 v7 k7 k8 c50 c51 c52 c53 cr5 f5 cr c0
            cases hpx : ([116, 114, 117, 101] : List UInt8).isPrefixOf (c :: t) with
            | true =>
              rw [hpx, if_pos rfl] at hsv
              rw [hsv] at h7 ⊢
              have H7 := Lib.hid h7
              have HPX := Lib.hid hpx
              have hdl : ((c :: t).drop 4).length ≤ (c :: t).length := by rw [List.length_drop]; omega
              clear h7 hpx hsv
              go_wp2_with fail
              obtain ⟨z0, z1, z2, z3, y0, y1, y2, y3, x0, x1, x2, x3⟩ := H7.out.slot (i := vs.length) (by simp)
              obtain ⟨q0, q1, q2, q3⟩ := cells4 V7.out
              have qr := cell_of_one P7.out
              have qc := H7.out.c1
              have hix0 : (0 : Int) ≤ (vs.length : Int) := by omega
              have hix1 : (vs.length : Int) < ((vs.length + 1 : Nat) : Int) := by omega
              have hix2 : (vs.length : Int) < (vs.length : Int) + 1 := by omega
              go_still_tail 7, (by kernel_rfl)
              change wpList _ _ _ _ _ w7.drew
              go_wp2_with fail
              (try simp only [Exit.inBlock, Exit.then])
              refine bodyPost_ret (results_none rfl _ _ _) rfl ?_
              have hpv2 : pval (f + 1) l vs.length key deep = .ok ([⟨(1 : Nat), key, [], 0⟩], (c :: t).drop 4) := by rw [HPV.out, HWO.out]; simp only []; rw [if_pos HPX.out]; rfl
              rw [hpv2]
              exact ⟨rfl, PRes.stored H7.out (by simp) K7.out HLO.out ⟨(1 : Nat), key, [], 0⟩ (by simp; omega) (by omega) ⟨rfl, rfl, by simp⟩⟩
            | false =>
              rw [hpx, if_neg (by simp)] at hsv
              rw [hsv] at h7 ⊢
              have H7 := Lib.hid h7
              have HPX := Lib.hid hpx
              clear h7 hpx hsv
              have qr7 := cell_of_one P7.out
              go_wp2_with fail
              refine (bad_calls b _ _ _ _ 3 _ H7.out).mono ?_
              rintro e8 w8 ⟨rfl, h8, k8⟩
              have P8 := Lib.hid ((k8.block H (lt_of_block P7.out) (by simp; omega)).trans P7.out)
              have V8 := Lib.hid ((k8.block bv (lt_of_block V7.out) (by simp; omega)).trans V7.out)
              have K8 := Lib.hid (K7.out.trans k8 (fun k hk => .inl (by simp at hk; simp [hk])))
              have H8 := Lib.hid h8
              clear h8 k8
              go_wp2_with fail
              obtain ⟨z0, z1, z2, z3, y0, y1, y2, y3, x0, x1, x2, x3⟩ := H8.out.slot (i := vs.length) (by simp)
              obtain ⟨q0, q1, q2, q3⟩ := cells4 V8.out
              have qr := cell_of_one P8.out
              have qc := H8.out.c1
              have hix0 : (0 : Int) ≤ (vs.length : Int) := by omega
              have hix1 : (vs.length : Int) < ((vs.length + 1 : Nat) : Int) := by omega
              have hix2 : (vs.length : Int) < (vs.length : Int) + 1 := by omega
              go_still_tail 7, (by kernel_rfl)
              change wpList _ _ _ _ _ w8.drew
              go_wp2_with fail
              (try simp only [Exit.inBlock, Exit.then])
              refine bodyPost_ret (results_none rfl _ _ _) rfl ?_
              have hpv2 : pval (f + 1) l vs.length key deep = .error 3 := by rw [HPV.out, HWO.out]; simp only []; rw [if_neg (by rw [HPX.out]; simp)]
              rw [hpv2]
              exact ⟨rfl, PRes.stored H8.out (by simp) K8.out HLO.out ⟨(1 : Nat), key, [], 0⟩ (by simp; omega) (by omega) ⟨rfl, by decide⟩⟩
          · rw [decide_eq_false hc] at hpre
            have HPR := Lib.hid hpre
            have HC := Lib.hid hc
            clear hpre hc
            go_wp2_with fail
            go_quiet (first | (go_at_call 101; refine Calls.quiet_of_same ((Tryz.strings_HasPrefix _ _ _).mono (fun e w' h => ⟨h.1.trans (by rw [HPR.out]), h.2⟩))))
            have kq := kdn [] wr nq
            have r5 := Lib.hid (HRd.out.kept kq (by simp) (fun _ _ => by simp))
            have k5 := Lib.hid (HKp.out.trans kq (fun _ hk => by cases hk))
            have e5 := Lib.hid (HEv.out.kept kq (by simp))
            have p5 := Lib.hid ((kq.block H (lt_of_block HP.out) (by simp)).trans HP.out)
            have d5 := Lib.hid ((kq.block (H + 1) (lt_of_block HD.out) (by simp)).trans HD.out)
            have v5 := Lib.hid ((kq.block bv (lt_of_block HV4.out) (by simp)).trans HV4.out)
            generalize wr.drewN nq = wq at *
            clear kq
            go_wp2_with fail
            go_roundw
            case rel => exact ⟨2, by go_num, by omega, Lib.hid (fun j hj => by
              rcases Nat.lt_or_ge j 1 with h | h
              · exact HJ.out j h
              · have : j = 1 := by omega
                subst this
                exact fun e => HC.out (by simpa [wordB] using e.symm)), r5, k5, e5, p5, d5, v5⟩
            case measure => simp [intOf]
        · have hidx := words_index2
          have hpre : Lib.hasPrefix (⟨(c :: t).toArray⟩ : ByteArray).data.toList ((⟨#[102, 97, 108, 115, 101]⟩ : ByteArray).extract 0 1).data.toList = decide (c = 102) := by
            rw [show ((⟨#[102, 97, 108, 115, 101]⟩ : ByteArray).extract 0 1).data.toList = [102] from by decide +kernel]
            show Lib.hasPrefix (c :: t) [102] = _
            simp [Lib.hasPrefix, List.isPrefixOf, Bool.beq_eq_decide_eq, eq_comm]
          by_cases hc : c = 102
          · rw [decide_eq_true hc] at hpre
            have HPR := Lib.hid hpre
            have hwo : wordOf c = some (2, [102, 97, 108, 115, 101]) := by rw [hc]; rfl
            have HWO := Lib.hid hwo
            clear hpre hc hwo
            go_wp2_with fail
            go_quiet (first | (go_at_call 101; refine Calls.quiet_of_same ((Tryz.strings_HasPrefix _ _ _).mono (fun e w' h => ⟨h.1.trans (by rw [HPR.out]), h.2⟩))))
            have kq := kdn [] wr nq
            have r5 := HRd.out.kept kq (by simp) (fun _ _ => by simp)
            have k5 := HKp.out.trans kq (fun _ hk => by cases hk)
            have p5 := (kq.block H (lt_of_block HP.out) (by simp)).trans HP.out
            have v5 := (kq.block bv (lt_of_block HV4.out) (by simp)).trans HV4.out
            generalize wr.drewN nq = wq at *
            have c5 := cells4 v5
            have f5 := frozen_of_row wq bv 0 _ _ v5
            obtain ⟨c50, c51, c52, c53⟩ := c5
            have cr5 := cell_of_one p5
            have k6 := kset (S := [bv]) wq ⟨bv, 0, none⟩ (.int .i64 (2 : Nat)) (by simp)
            have r6 := r5.kept k6 (by simp; omega) (own_ne (by simp; omega))
            have p6 := (k6.block H (lt_of_block p5) (by simp; omega)).trans p5
            have v6 : (wq.setCell ⟨bv, 0, none⟩ (.int .i64 (2 : Nat))).heap[bv]? = some (.cells #[.int .i64 (2 : Nat), .string ⟨key.toArray⟩, .string ⟨#[]⟩, .int .i64 0] 56 (0, 0)) := heap_setCell_same wq bv 0 _ _ (.int .i64 (2 : Nat)) v5
            have K6 := Lib.hid (k5.trans k6 (fun k hk => .inr (by have hkb : k = bv := List.mem_singleton.1 hk; omega)))
            have R6 := Lib.hid r6
            have P6 := Lib.hid p6
            have V6 := Lib.hid v6
            clear r5 k5 p5 v5 kq k6 r6 p6 v6
            go_wp2_with fail
            refine (sign_calls b (c :: t) _ _ 0 ⟨#[102, 97, 108, 115, 101]⟩ _ R6.out).mono ?_
            rintro e7 w7 ⟨rfl, h7, k7⟩
            have p7 := (k7.block H (lt_of_block P6.out) (by simp; omega)).trans P6.out
            have v7 := (k7.block bv (lt_of_block V6.out) (by simp; omega)).trans V6.out
            have k8 := K6.out.trans k7 (fun k hk => .inl (by simp at hk; simp [hk]))
            have hsv : signV (c :: t) [102, 97, 108, 115, 101] = if ([102, 97, 108, 115, 101] : List UInt8).isPrefixOf (c :: t) = true then (true, (c :: t).drop 5) else (false, c :: t) := by
              unfold signV
              rw [← HST.out, skip_skip]
              rfl
            rw [show (⟨#[102, 97, 108, 115, 101]⟩ : ByteArray).data.toList = [102, 97, 108, 115, 101] from rfl] at h7 ⊢
            have V7 := Lib.hid v7
            have P7 := Lib.hid p7
            have K7 : Hid (Kp (b :: (v.ownBlock.toList ++ [])) w w7) := Lib.hid (by simpa using k8)
            clear p7 v7 k7 k8 c50 c51 c52 c53 cr5 f5 cr c0
            cases hpx : ([102, 97, 108, 115, 101] : List UInt8).isPrefixOf (c :: t) with
            | true =>
              rw [hpx, if_pos rfl] at hsv
              rw [hsv] at h7 ⊢
              have H7 := Lib.hid h7
              have HPX := Lib.hid hpx
              have hdl : ((c :: t).drop 5).length ≤ (c :: t).length := by rw [List.length_drop]; omega
              clear h7 hpx hsv
              go_wp2_with fail
              obtain ⟨z0, z1, z2, z3, y0, y1, y2, y3, x0, x1, x2, x3⟩ := H7.out.slot (i := vs.length) (by simp)
              obtain ⟨q0, q1, q2, q3⟩ := cells4 V7.out
              have qr := cell_of_one P7.out
              have qc := H7.out.c1
              have hix0 : (0 : Int) ≤ (vs.length : Int) := by omega
              have hix1 : (vs.length : Int) < ((vs.length + 1 : Nat) : Int) := by omega
              have hix2 : (vs.length : Int) < (vs.length : Int) + 1 := by omega
              go_still_tail 7, (by kernel_rfl)
              change wpList _ _ _ _ _ w7.drew
              go_wp2_with fail
              (try simp only [Exit.inBlock, Exit.then])
              refine bodyPost_ret (results_none rfl _ _ _) rfl ?_
              have hpv2 : pval (f + 1) l vs.length key deep = .ok ([⟨(2 : Nat), key, [], 0⟩], (c :: t).drop 5) := by rw [HPV.out, HWO.out]; simp only []; rw [if_pos HPX.out]; rfl
              rw [hpv2]
              exact ⟨rfl, PRes.stored H7.out (by simp) K7.out HLO.out ⟨(2 : Nat), key, [], 0⟩ (by simp; omega) (by omega) ⟨rfl, rfl, by simp⟩⟩
            | false =>
              rw [hpx, if_neg (by simp)] at hsv
              rw [hsv] at h7 ⊢
              have H7 := Lib.hid h7
              have HPX := Lib.hid hpx
              clear h7 hpx hsv
              have qr7 := cell_of_one P7.out
              go_wp2_with fail
              refine (bad_calls b _ _ _ _ 3 _ H7.out).mono ?_
              rintro e8 w8 ⟨rfl, h8, k8⟩
              have P8 := Lib.hid ((k8.block H (lt_of_block P7.out) (by simp; omega)).trans P7.out)
              have V8 := Lib.hid ((k8.block bv (lt_of_block V7.out) (by simp; omega)).trans V7.out)
              have K8 := Lib.hid (K7.out.trans k8 (fun k hk => .inl (by simp at hk; simp [hk])))
              have H8 := Lib.hid h8
              clear h8 k8
              go_wp2_with fail
              obtain ⟨z0, z1, z2, z3, y0, y1, y2, y3, x0, x1, x2, x3⟩ := H8.out.slot (i := vs.length) (by simp)
              obtain ⟨q0, q1, q2, q3⟩ := cells4 V8.out
              have qr := cell_of_one P8.out
              have qc := H8.out.c1
              have hix0 : (0 : Int) ≤ (vs.length : Int) := by omega
              have hix1 : (vs.length : Int) < ((vs.length + 1 : Nat) : Int) := by omega
              have hix2 : (vs.length : Int) < (vs.length : Int) + 1 := by omega
              go_still_tail 7, (by kernel_rfl)
              change wpList _ _ _ _ _ w8.drew
              go_wp2_with fail
              (try simp only [Exit.inBlock, Exit.then])
              refine bodyPost_ret (results_none rfl _ _ _) rfl ?_
              have hpv2 : pval (f + 1) l vs.length key deep = .error 3 := by rw [HPV.out, HWO.out]; simp only []; rw [if_neg (by rw [HPX.out]; simp)]
              rw [hpv2]
              exact ⟨rfl, PRes.stored H8.out (by simp) K8.out HLO.out ⟨(2 : Nat), key, [], 0⟩ (by simp; omega) (by omega) ⟨rfl, by decide⟩⟩
          · rw [decide_eq_false hc] at hpre
            have HPR := Lib.hid hpre
            have HC := Lib.hid hc
            clear hpre hc
            go_wp2_with fail
            go_quiet (first | (go_at_call 101; refine Calls.quiet_of_same ((Tryz.strings_HasPrefix _ _ _).mono (fun e w' h => ⟨h.1.trans (by rw [HPR.out]), h.2⟩))))
            have kq := kdn [] wr nq
            have r5 := Lib.hid (HRd.out.kept kq (by simp) (fun _ _ => by simp))
            have k5 := Lib.hid (HKp.out.trans kq (fun _ hk => by cases hk))
            have e5 := Lib.hid (HEv.out.kept kq (by simp))
            have p5 := Lib.hid ((kq.block H (lt_of_block HP.out) (by simp)).trans HP.out)
            have d5 := Lib.hid ((kq.block (H + 1) (lt_of_block HD.out) (by simp)).trans HD.out)
            have v5 := Lib.hid ((kq.block bv (lt_of_block HV4.out) (by simp)).trans HV4.out)
            generalize wr.drewN nq = wq at *
            clear kq
            go_wp2_with fail
            go_roundw
            case rel => exact ⟨3, by go_num, by omega, Lib.hid (fun j hj => by
              rcases Nat.lt_or_ge j 2 with h | h
              · exact HJ.out j h
              · have : j = 2 := by omega
                subst this
                exact fun e => HC.out (by simpa [wordB] using e.symm)), r5, k5, e5, p5, d5, v5⟩
            case measure => simp [intOf]
        · have hwo : wordOf c = none := by
            have h0 := HJ.out 0 (by omega)
            have h1 := HJ.out 1 (by omega)
            have h2 := HJ.out 2 (by omega)
            unfold wordOf
            rw [if_neg (fun e => h0 (by rw [e]; rfl)), if_neg (fun e => h1 (by rw [e]; rfl)), if_neg (fun e => h2 (by rw [e]; rfl))]
          have hpv : pval (f + 1) l vs.length key deep = _ := HPV.out
          rw [hwo] at hpv
          simp only [] at hpv
          have HPW := Lib.hid hpv
          have hidx0 := head_index c t
          have hst : skip (c :: t) = c :: t := by rw [← HST.out, skip_skip]
          have HS2 := Lib.hid hst
          have KW : Hid (Kp (b :: (v.ownBlock.toList ++ [])) w wr) := Lib.hid (by simpa using HKp.out)
          clear hwo hpv hst HPV HJ HKp
          by_cases c34 : c = 34
          · have hb34 : ((c.toNat : Int) == 34) = true := by rw [c34]; rfl
            obtain ⟨⟨x, m, ok⟩, hu⟩ : ∃ u, unqV (c :: t) = u := ⟨_, rfl⟩
            have hm0 := unqV_len hu
            have hpv : pval (f + 1) l vs.length key deep = if ok = true then .ok ([⟨4, key, x, 0⟩], (c :: t).drop m) else .error 3 := by
              rw [HPW.out, if_pos c34]
              unfold unqV at hu
              cases hq : unq (c :: t) with
              | none => rw [hq] at hu; cases hu; rfl
              | some p => obtain ⟨y, k⟩ := p; rw [hq] at hu; cases hu; rfl
            have HPX := Lib.hid hpv
            have HU := Lib.hid hu
            clear hpv hu c34
            go_wp2_with fail
            refine (jtext_calls b (c :: t) _ _ 0 _ w0 HRd.out HEv.out (by omega)).mono ?_
            rintro e5 w5 ⟨rfl, h5, k5⟩
            rw [HS2.out, HU.out] at h5 ⊢
            simp only [] at h5
            have p5 := (k5.block H (lt_of_block HP.out) (by simp; omega)).trans HP.out
            have v5 := (k5.block bv (lt_of_block HV4.out) (by simp; omega)).trans HV4.out
            have kw5 := KW.out.trans k5 (fun k hk => .inl (by simp at hk; simp [hk]))
            obtain ⟨c50, c51, c52, c53⟩ := cells4 v5
            have f50 := frozen_of_row w5 bv 0 _ _ v5
            have f52 := frozen_of_row w5 bv 2 _ _ v5
            have k6 : Kp [bv] w5 ((w5.setCell ⟨bv, 0, none⟩ (.int .i64 4)).setCell ⟨bv, 2, none⟩ (.string ⟨x.toArray⟩)) := ((Kp.refl _ _).setCell (.inl (by simp)) _).setCell (.inl (by simp)) _
            have r6 := h5.kept k6 (by simp; omega) (own_ne (by simp; omega))
            have p6 := (k6.block H (lt_of_block p5) (by simp; omega)).trans p5
            have v6 : ((w5.setCell ⟨bv, 0, none⟩ (.int .i64 4)).setCell ⟨bv, 2, none⟩ (.string ⟨x.toArray⟩)).heap[bv]? = some (.cells #[.int .i64 4, .string ⟨key.toArray⟩, .string ⟨x.toArray⟩, .int .i64 0] 56 (0, 0)) :=
              heap_setCell_same _ bv 2 _ _ (.string ⟨x.toArray⟩) (heap_setCell_same w5 bv 0 _ _ (.int .i64 4) v5)
            have R6 := Lib.hid r6
            have P6 := Lib.hid p6
            have V6 := Lib.hid v6
            have K6 := Lib.hid (kw5.trans k6 (fun k hk => .inr (by have hkb : k = bv := List.mem_singleton.1 hk; omega)))
            have hdl : ((c :: t).drop m).length ≤ (c :: t).length := by rw [List.length_drop]; omega
            have hre : ResIs vs ((vs ++ [begun key]).set vs.length ⟨4, key, x, 0⟩) ((c :: t).drop m) (if ok = true then (0 : Int) else firstE 0 3) (if ok = true then Except.ok ([⟨4, key, x, 0⟩], (c :: t).drop m) else Except.error 3) := by
              cases ok with
              | true => exact ⟨rfl, rfl, by simp⟩
              | false => exact ⟨rfl, by decide⟩
            have HRE := Lib.hid hre
            clear h5 k5 p5 v5 kw5 k6 r6 p6 v6 hre c53 c51
            go_wp2_with fail
            generalize ((w5.setCell ⟨bv, 0, none⟩ (.int .i64 4)).setCell ⟨bv, 2, none⟩ (.string ⟨x.toArray⟩)) = w9 at *
            obtain ⟨z0, z1, z2, z3, y0, y1, y2, y3, x0, x1, x2, x3⟩ := R6.out.slot (i := vs.length) (by simp)
            obtain ⟨q0, q1, q2, q3⟩ := cells4 V6.out
            have qr := cell_of_one P6.out
            have qc := R6.out.c1
            have hix0 : (0 : Int) ≤ (vs.length : Int) := by omega
            have hix1 : (vs.length : Int) < ((vs.length + 1 : Nat) : Int) := by omega
            have hix2 : (vs.length : Int) < (vs.length : Int) + 1 := by omega
            go_still_tail 7, (by kernel_rfl)
            change wpList _ _ _ _ _ w9.drew
            go_wp2_with fail
            go_end0
            rw [HPX.out]
            exact ⟨rfl, PRes.stored R6.out (by simp) K6.out HLO.out ⟨4, key, x, 0⟩ (by simp; omega) (by omega) HRE.out⟩
          have c34' : ((c.toNat : Int) == 34) = false := by
            have : c.toNat ≠ 34 := fun h => c34 (UInt8.toNat_inj.1 h)
            simp; omega
          by_cases c91 : c = 91
          · have hsv : signV (c :: t) [91] = (true, t) := by
              rw [signV_one]; unfold sgn; rw [HS2.out]; simp only []; rw [if_pos c91]
            have HSV := Lib.hid hsv
            have HC91 := Lib.hid c91
            have HC34 := Lib.hid c34
            have cr := cell_of_one HP.out
            have c0 := HRd.out.c0
            clear hsv c91 c34
            go_wp2_with fail
            refine (sign_calls b (c :: t) _ _ 0 ⟨#[91]⟩ _ HRd.out).mono ?_
            rintro e5 w5 ⟨rfl, h5, k5⟩
            rw [show (⟨#[91]⟩ : ByteArray).data.toList = [91] from rfl, HSV.out] at h5 ⊢
            simp only [] at h5
            have p5 := (k5.block H (lt_of_block HP.out) (by simp; omega)).trans HP.out
            have d5 := (k5.block (H + 1) (lt_of_block HD.out) (by simp; omega)).trans HD.out
            have v5 := (k5.block bv (lt_of_block HV4.out) (by simp; omega)).trans HV4.out
            have e5 := HEv.out.kept k5 (by simp)
            have kw5 := KW.out.trans k5 (fun k hk => .inl (by simp at hk; simp [hk]))
            obtain ⟨c50, c51, c52, c53⟩ := cells4 v5
            have cr5 := cell_of_one p5
            have f50 := frozen_of_row w5 bv 0 _ _ v5
            have k6 := kset (S := [bv]) w5 ⟨bv, 0, none⟩ (.int .i64 5) (by simp)
            have R6 := Lib.hid (h5.kept k6 (by simp; omega) (own_ne (by simp; omega)))
            have P6 := Lib.hid ((k6.block H (lt_of_block p5) (by simp; omega)).trans p5)
            have D6 := Lib.hid ((k6.block (H + 1) (lt_of_block d5) (by simp; omega)).trans d5)
            have V6 : Hid ((w5.setCell ⟨bv, 0, none⟩ (.int .i64 5)).heap[bv]? = some (.cells #[.int .i64 5, .string ⟨key.toArray⟩, .string ⟨#[]⟩, .int .i64 0] 56 (0, 0))) := Lib.hid (heap_setCell_same w5 bv 0 _ _ (.int .i64 5) v5)
            have E6 := Lib.hid (e5.kept k6 (by simp; omega))
            have K6 := Lib.hid (kw5.trans k6 (fun k hk => .inr (by have hkb : k = bv := List.mem_singleton.1 hk; omega)))
            have hsw : w.heap.size ≤ (w5.setCell ⟨bv, 0, none⟩ (.int .i64 5)).heap.size := K6.out.size
            clear h5 k5 p5 d5 v5 e5 kw5 k6
            go_wp2_with fail
            refine (all_list f b H (H + 1) t (vs ++ [begun key]) _ deep _ w0 hV R6.out E6.out (by omega) (by simp; omega) (by simp at hsk; omega) (by simp at hsk; omega) P6.out D6.out ⟨by omega, by simp [Value.ownBlock]; omega⟩ ⟨by omega, by simp [Value.ownBlock]; omega⟩).mono ?_
            rintro e7 w7 ⟨rfl, hP⟩
            have k7 := Lib.hid hP.kp
            obtain ⟨l', vs', v', e', h7, hloc7, hlen7, h57, hl7, hres⟩ := hP.ex
            have hlen8 : vs.length < vs'.length := by rw [List.length_append] at hlen7; simp at hlen7; omega
            obtain ⟨g', cap', hv', _, hg7⟩ := h7.own.form (by omega)
            subst hv'
            have hlo7 := HLO.out.trans hloc7 hsw
            have hHb : ∀ k, k < (w5.setCell ⟨bv, 0, none⟩ (.int .i64 5)).heap.size → k ≠ b → k ≠ g → w7.heap[k]? = (w5.setCell ⟨bv, 0, none⟩ (.int .i64 5)).heap[k]? := fun k hk h1 h2 => k7.out.block k hk (by simp [Value.ownBlock]; exact ⟨h1, h2⟩)
            have p7 := (hHb H (lt_of_block P6.out) (by omega) (by omega)).trans P6.out
            have v7 := (hHb bv (lt_of_block V6.out) (by omega) (by omega)).trans V6.out
            have kw7 := K6.out.trans k7.out (fun k hk => by
              simp [Value.ownBlock] at hk
              rcases hk with hk | hk
              · exact .inl (by simp [hk])
              · subst hk
                rcases HLO.out _ rfl with h | h
                · exact .inl (by simp [h])
                · exact .inr h)
            obtain ⟨R, hR⟩ : ∃ R, allV (sgn t 93) (pitems f t (vs ++ [begun key]).length (deep + 1)) = R := ⟨_, rfl⟩
            have hRl : (vs ++ [begun key]).length = vs.length + 1 := by simp
            have hpv : pval (f + 1) l vs.length key deep = manyV 5 key R := by
              rw [HPW.out, if_neg HC34.out, if_pos HC91.out, ← hR, hRl]
            rw [hR] at hres ⊢
            have hre : ResIs vs (vs'.set vs.length ⟨5, key, [], (cnt3 R : Nat)⟩) l' e' (manyV 5 key R) := by
              cases R with
              | error y => exact hres
              | ok q =>
                obtain ⟨xs, k, r⟩ := q
                obtain ⟨h1, h2, h3⟩ := hres
                refine ⟨h1, h2, ?_⟩
                rw [h3]
                simp [cnt3]
            generalize cnt3 R = cn at hre ⊢
            have f73 := frozen_of_row w7 bv 3 _ _ v7
            obtain ⟨c70, c71, c72, c73⟩ := cells4 v7
            have k8 := kset (S := [bv]) w7 ⟨bv, 3, none⟩ (.int .i64 (cn : Int)) (by simp)
            have hgb' : g' ≠ bv := by
              rcases hloc7 g' rfl with h | h
              · have : g = g' := by simpa [Value.ownBlock] using h
                omega
              · have := lt_of_block V6.out
                omega
            have r8 := h7.kept k8 (by simp; omega) (own_ne (by simpa using hgb'))
            have p8 := (k8.block H (lt_of_block p7) (by simp; omega)).trans p7
            have v8 : (w7.setCell ⟨bv, 3, none⟩ (.int .i64 (cn : Int))).heap[bv]? = some (.cells #[.int .i64 5, .string ⟨key.toArray⟩, .string ⟨#[]⟩, .int .i64 (cn : Int)] 56 (0, 0)) := heap_setCell_same w7 bv 3 _ _ (.int .i64 (cn : Int)) v7
            have kw8 := kw7.trans k8 (fun k hk => .inr (by have hkb : k = bv := List.mem_singleton.1 hk; omega))
            have R8 := Lib.hid r8
            have P8 := Lib.hid p8
            have V8 := Lib.hid v8
            have K8 := Lib.hid kw8
            have LO7 := Lib.hid hlo7
            have HPX := Lib.hid hpv
            have HRE := Lib.hid hre
            clear hP h7 hloc7 hlo7 hHb p7 v7 kw7 k8 r8 p8 v8 kw8 hpv hre hres hR k7 c71 c72
            go_wp2_with fail
            generalize (w7.setCell ⟨bv, 3, none⟩ (.int .i64 (cn : Int))) = w9 at *
            obtain ⟨z0, z1, z2, z3, y0, y1, y2, y3, x0, x1, x2, x3⟩ := R8.out.slot (i := vs.length) hlen8
            obtain ⟨q0, q1, q2, q3⟩ := cells4 V8.out
            have qr := cell_of_one P8.out
            have qc := R8.out.c1
            have hix0 : (0 : Int) ≤ (vs.length : Int) := by omega
            have hix1 : (vs.length : Int) < ((vs'.length : Nat) : Int) := by omega
            go_still_tail 7, (by kernel_rfl)
            change wpList _ _ _ _ _ w9.drew
            go_wp2_with fail
            go_end0
            rw [HPX.out]
            exact ⟨rfl, PRes.stored R8.out hlen8 K8.out LO7.out ⟨5, key, [], (cn : Nat)⟩ h57 hl7 HRE.out⟩
          have c91' : (([91] : List UInt8).isPrefixOf (c :: t)) = false := by
            simp [List.isPrefixOf]; exact fun e => c91 e.symm
          by_cases c123 : c = 123
          · have hsv : signV (c :: t) [91] = (false, c :: t) := by
              rw [signV_one]; unfold sgn; rw [HS2.out]; simp only []; rw [if_neg c91]
            have hsv2 : signV (c :: t) [123] = (true, t) := by
              rw [signV_one]; unfold sgn; rw [HS2.out]; simp only []; rw [if_pos c123]
            have HSV := Lib.hid hsv
            have HSV2 := Lib.hid hsv2
            have HC123 := Lib.hid c123
            have HC91 := Lib.hid c91
            have HC34 := Lib.hid c34
            have cr := cell_of_one HP.out
            have c0 := HRd.out.c0
            clear hsv hsv2 c123 c91 c34 c91'
            have hmm := @run_makeMap Tryz.prog
            go_wp2_with fail
            refine (sign_calls b (c :: t) _ _ 0 ⟨#[91]⟩ _ HRd.out).mono ?_
            rintro e4 w4 ⟨rfl, h4, k4⟩
            rw [show (⟨#[91]⟩ : ByteArray).data.toList = [91] from rfl, HSV.out] at h4 ⊢
            simp only [] at h4
            have P4 := Lib.hid ((k4.block H (lt_of_block HP.out) (by simp; omega)).trans HP.out)
            have D4' := Lib.hid ((k4.block (H + 1) (lt_of_block HD.out) (by simp; omega)).trans HD.out)
            have V4' := Lib.hid ((k4.block bv (lt_of_block HV4.out) (by simp; omega)).trans HV4.out)
            have E4' := Lib.hid (HEv.out.kept k4 (by simp))
            have KW4 := Lib.hid (KW.out.trans k4 (fun k hk => .inl (by simp at hk; simp [hk])))
            have R4' := Lib.hid h4
            have cr4 := cell_of_one P4.out
            clear h4 k4
            go_wp2_with fail
            refine (sign_calls b (c :: t) _ _ 0 ⟨#[123]⟩ _ R4'.out).mono ?_
            rintro e5 w5 ⟨rfl, h5, k5⟩
            rw [show (⟨#[123]⟩ : ByteArray).data.toList = [123] from rfl, HSV2.out] at h5 ⊢
            simp only [] at h5
            have p5 := (k5.block H (lt_of_block P4.out) (by simp; omega)).trans P4.out
            have d5 := (k5.block (H + 1) (lt_of_block D4'.out) (by simp; omega)).trans D4'.out
            have v5 := (k5.block bv (lt_of_block V4'.out) (by simp; omega)).trans V4'.out
            have e5 := E4'.out.kept k5 (by simp)
            have kw5 := KW4.out.trans k5 (fun k hk => .inl (by simp at hk; simp [hk]))
            obtain ⟨c50, c51, c52, c53⟩ := cells4 v5
            have cr5 := cell_of_one p5
            have f50 := frozen_of_row w5 bv 0 _ _ v5
            have k6 : Kp [bv] w5 (((w5.setCell ⟨bv, 0, none⟩ (.int .i64 6)).alloc (.map #[] 0)).alloc (.cells #[.map (some w5.heap.size)] 92)) := ((kset (S := [bv]) w5 ⟨bv, 0, none⟩ (.int .i64 6) (by simp)).alloc _).alloc _
            have R6 := Lib.hid (h5.kept k6 (by simp; omega) (own_ne (by simp; omega)))
            have P6 := Lib.hid ((k6.block H (lt_of_block p5) (by simp; omega)).trans p5)
            have D6 := Lib.hid ((k6.block (H + 1) (lt_of_block d5) (by simp; omega)).trans d5)
            have hw5 : (w5.setCell ⟨bv, 0, none⟩ (.int .i64 6)).heap.size = w5.heap.size := by simp [World.setCell]
            have V6 : Hid ((((w5.setCell ⟨bv, 0, none⟩ (.int .i64 6)).alloc (.map #[] 0)).alloc (.cells #[.map (some w5.heap.size)] 92)).heap[bv]? = some (.cells #[.int .i64 6, .string ⟨key.toArray⟩, .string ⟨#[]⟩, .int .i64 0] 56 (0, 0))) := Lib.hid (by
              have h1 := lt_of_block v5
              rw [heap_alloc_old _ _ (by simp [World.setCell]; omega), heap_alloc_old _ _ (by simp [World.setCell]; omega)]
              exact heap_setCell_same w5 bv 0 _ _ (.int .i64 6) v5)
            have M6 : Hid ((((w5.setCell ⟨bv, 0, none⟩ (.int .i64 6)).alloc (.map #[] 0)).alloc (.cells #[.map (some w5.heap.size)] 92)).heap[w5.heap.size + 1]? = some (.cells #[.map (some w5.heap.size)] 92 (0, 0))) := Lib.hid (by
              have := heap_alloc_new ((w5.setCell ⟨bv, 0, none⟩ (.int .i64 6)).alloc (.map #[] 0)) (.cells #[.map (some w5.heap.size)] 92)
              simpa [World.setCell] using this)
            have A6 : Hid (Had w5.heap.size [] (((w5.setCell ⟨bv, 0, none⟩ (.int .i64 6)).alloc (.map #[] 0)).alloc (.cells #[.map (some w5.heap.size)] 92))) := Lib.hid (by
              have h1 := World.ownsMap_made (H := Unit) (w5.setCell ⟨bv, 0, none⟩ (.int .i64 6)) Tryz.prog 9 (plainElem Tryz.prog 3)
              rw [hw5] at h1
              have h2 : Had w5.heap.size [] ((w5.setCell ⟨bv, 0, none⟩ (.int .i64 6)).alloc (.map #[] 0)) := ⟨_, h1, fun x => rfl⟩
              exact h2.kept (S := []) ((Kp.refl _ _).alloc _) (by simp))
            have E6 := Lib.hid (e5.kept k6 (by simp; omega))
            have K6 := Lib.hid (kw5.trans k6 (fun k hk => .inr (by have hkb : k = bv := List.mem_singleton.1 hk; omega)))
            have hsw : w.heap.size ≤ (((w5.setCell ⟨bv, 0, none⟩ (.int .i64 6)).alloc (.map #[] 0)).alloc (.cells #[.map (some w5.heap.size)] 92)).heap.size := K6.out.size
            have hsw5 : w.heap.size ≤ w5.heap.size := kw5.size
            have hb5 : bv < w5.heap.size := lt_of_block v5
            have hg5 : g < w5.heap.size := by omega
            have hH5 : H + 1 < w5.heap.size := lt_of_block d5
            have cr6 := cell_of_one P6.out
            clear h5 k5 p5 d5 v5 e5 kw5 k6
            go_wp2_with fail
            refine (all_obj f b w5.heap.size H (w5.heap.size + 1) (H + 1) t (vs ++ [begun key]) _ deep _ w0 hV R6.out E6.out (by omega) (by simp; omega) (by simp at hsk; omega) (by simp at hsk; omega) A6.out (by omega) (by simp [Value.ownBlock]; omega) P6.out M6.out D6.out ⟨by omega, by simp [Value.ownBlock]; omega, by omega⟩ ⟨by omega, by simp [Value.ownBlock]; omega, by omega⟩ ⟨by omega, by simp [Value.ownBlock]; omega, by omega⟩).mono ?_
            rintro e7 w7 ⟨rfl, hP⟩
            have k7 := Lib.hid hP.kp
            obtain ⟨l', vs', v', e', h7, hloc7, hlen7, h57, hl7, hres⟩ := hP.ex
            have hlen8 : vs.length < vs'.length := by rw [List.length_append] at hlen7; simp at hlen7; omega
            obtain ⟨g', cap', hv', _, hg7⟩ := h7.own.form (by omega)
            subst hv'
            have hlo7 := HLO.out.trans hloc7 hsw
            have hHb : ∀ k, k < (((w5.setCell ⟨bv, 0, none⟩ (.int .i64 6)).alloc (.map #[] 0)).alloc (.cells #[.map (some w5.heap.size)] 92)).heap.size → k ≠ b → k ≠ g → k ≠ w5.heap.size → w7.heap[k]? = (((w5.setCell ⟨bv, 0, none⟩ (.int .i64 6)).alloc (.map #[] 0)).alloc (.cells #[.map (some w5.heap.size)] 92)).heap[k]? := fun k hk h1 h2 h3 => k7.out.block k hk (by simp [Value.ownBlock]; exact ⟨h1, h2, h3⟩)
            have p7 := (hHb H (lt_of_block P6.out) (by omega) (by omega) (by omega)).trans P6.out
            have v7 := (hHb bv (lt_of_block V6.out) (by omega) (by omega) (by omega)).trans V6.out
            have kw7 := K6.out.trans k7.out (fun k hk => by
              simp [Value.ownBlock] at hk
              rcases hk with hk | hk | hk
              · exact .inl (by simp [hk])
              · subst hk
                rcases HLO.out _ rfl with h | h
                · exact .inl (by simp [h])
                · exact .inr h
              · exact .inr (by omega))
            obtain ⟨R, hR⟩ : ∃ R, allV (sgn t 125) (pmems f t (vs ++ [begun key]).length (deep + 1) []) = R := ⟨_, rfl⟩
            have hRl : (vs ++ [begun key]).length = vs.length + 1 := by simp
            have hpv : pval (f + 1) l vs.length key deep = manyV 6 key R := by
              rw [HPW.out, if_neg HC34.out, if_neg HC91.out, if_pos HC123.out, ← hR, hRl]
            rw [hR] at hres ⊢
            have hre : ResIs vs (vs'.set vs.length ⟨6, key, [], (cnt3 R : Nat)⟩) l' e' (manyV 6 key R) := by
              cases R with
              | error y => exact hres
              | ok q =>
                obtain ⟨xs, k, r⟩ := q
                obtain ⟨h1, h2, h3⟩ := hres
                refine ⟨h1, h2, ?_⟩
                rw [h3]
                simp [cnt3]
            generalize cnt3 R = cn at hre ⊢
            have f73 := frozen_of_row w7 bv 3 _ _ v7
            obtain ⟨c70, c71, c72, c73⟩ := cells4 v7
            have k8 := kset (S := [bv]) w7 ⟨bv, 3, none⟩ (.int .i64 (cn : Int)) (by simp)
            have hgb' : g' ≠ bv := by
              rcases hloc7 g' rfl with h | h
              · have : g = g' := by simpa [Value.ownBlock] using h
                omega
              · have := lt_of_block V6.out
                omega
            have r8 := h7.kept k8 (by simp; omega) (own_ne (by simpa using hgb'))
            have p8 := (k8.block H (lt_of_block p7) (by simp; omega)).trans p7
            have v8 : (w7.setCell ⟨bv, 3, none⟩ (.int .i64 (cn : Int))).heap[bv]? = some (.cells #[.int .i64 6, .string ⟨key.toArray⟩, .string ⟨#[]⟩, .int .i64 (cn : Int)] 56 (0, 0)) := heap_setCell_same w7 bv 3 _ _ (.int .i64 (cn : Int)) v7
            have kw8 := kw7.trans k8 (fun k hk => .inr (by have hkb : k = bv := List.mem_singleton.1 hk; omega))
            have R8 := Lib.hid r8
            have P8 := Lib.hid p8
            have V8 := Lib.hid v8
            have K8 := Lib.hid kw8
            have LO7 := Lib.hid hlo7
            have HPX := Lib.hid hpv
            have HRE := Lib.hid hre
            clear hP h7 hloc7 hlo7 hHb p7 v7 kw7 k8 r8 p8 v8 kw8 hpv hre hres hR k7 c71 c72
            go_wp2_with fail
            generalize (w7.setCell ⟨bv, 3, none⟩ (.int .i64 (cn : Int))) = w9 at *
            obtain ⟨z0, z1, z2, z3, y0, y1, y2, y3, x0, x1, x2, x3⟩ := R8.out.slot (i := vs.length) hlen8
            obtain ⟨q0, q1, q2, q3⟩ := cells4 V8.out
            have qr := cell_of_one P8.out
            have qc := R8.out.c1
            have hix0 : (0 : Int) ≤ (vs.length : Int) := by omega
            have hix1 : (vs.length : Int) < ((vs'.length : Nat) : Int) := by omega
            go_still_tail 7, (by kernel_rfl)
            change wpList _ _ _ _ _ w9.drew
            go_wp2_with fail
            go_end0
            rw [HPX.out]
            exact ⟨rfl, PRes.stored R8.out hlen8 K8.out LO7.out ⟨6, key, [], (cn : Nat)⟩ h57 hl7 HRE.out⟩
          · have hsv : signV (c :: t) [91] = (false, c :: t) := by
              rw [signV_one]; unfold sgn; rw [HS2.out]; simp only []; rw [if_neg c91]
            have hsv2 : signV (c :: t) [123] = (false, c :: t) := by
              rw [signV_one]; unfold sgn; rw [HS2.out]; simp only []; rw [if_neg c123]
            obtain ⟨nn, hnn⟩ : ∃ nn, number (c :: t) = nn := ⟨_, rfl⟩
            have hpv : pval (f + 1) l vs.length key deep = if nn = 0 then .error 3 else .ok ([⟨3, key, (c :: t).take nn, 0⟩], (c :: t).drop nn) := by
              rw [HPW.out, if_neg c34, if_neg c91, if_neg c123, hnn]
            have hnl : nn ≤ (c :: t).length := by rw [← hnn]; exact number_le _
            have hts : (⟨(c :: t).toArray⟩ : ByteArray).size ≤ 1099511627776 := by rw [size_list]; omega
            have HSV := Lib.hid hsv
            have HSV2 := Lib.hid hsv2
            have HNN := Lib.hid hnn
            have HPX := Lib.hid hpv
            have cr := cell_of_one HP.out
            have c0 := HRd.out.c0
            clear hsv hsv2 c123 c91 c34 c91' hnn hpv
            go_wp2_with fail
            refine (sign_calls b (c :: t) _ _ 0 ⟨#[91]⟩ _ HRd.out).mono ?_
            rintro e4 w4 ⟨rfl, h4, k4⟩
            rw [show (⟨#[91]⟩ : ByteArray).data.toList = [91] from rfl, HSV.out] at h4 ⊢
            simp only [] at h4
            have P4 := Lib.hid ((k4.block H (lt_of_block HP.out) (by simp; omega)).trans HP.out)
            have V4' := Lib.hid ((k4.block bv (lt_of_block HV4.out) (by simp; omega)).trans HV4.out)
            have KW4 := Lib.hid (KW.out.trans k4 (fun k hk => .inl (by simp at hk; simp [hk])))
            have R4' := Lib.hid h4
            have cr4 := cell_of_one P4.out
            clear h4 k4
            go_wp2_with fail
            refine (sign_calls b (c :: t) _ _ 0 ⟨#[123]⟩ _ R4'.out).mono ?_
            rintro e5 w5 ⟨rfl, h5, k5⟩
            rw [show (⟨#[123]⟩ : ByteArray).data.toList = [123] from rfl, HSV2.out] at h5 ⊢
            simp only [] at h5
            have P5 := Lib.hid ((k5.block H (lt_of_block P4.out) (by simp; omega)).trans P4.out)
            have V5 := Lib.hid ((k5.block bv (lt_of_block V4'.out) (by simp; omega)).trans V4'.out)
            have KW5 := Lib.hid (KW4.out.trans k5 (fun k hk => .inl (by simp at hk; simp [hk])))
            have R5 := Lib.hid h5
            have cr5 := cell_of_one P5.out
            have c05 := h5.c0
            clear h5 k5
            go_wp2_with fail
            refine (number_calls ⟨(c :: t).toArray⟩ _ hts).mono ?_
            rintro e6 w6 ⟨rfl, hb6⟩
            rw [show number (⟨(c :: t).toArray⟩ : ByteArray).data.toList = nn from HNN.out]
            have k6 : Kp [] w5 w6 := Kp.of_below hb6
            have P6 := Lib.hid ((k6.block H (lt_of_block P5.out) (by simp)).trans P5.out)
            have V6 := Lib.hid ((k6.block bv (lt_of_block V5.out) (by simp)).trans V5.out)
            have K6 := Lib.hid (KW5.out.trans k6 (fun k hk => by cases hk))
            have R6 := Lib.hid (R5.out.kept k6 (by simp) (fun _ _ => by simp))
            have cr6 := cell_of_one P6.out
            clear k6 hb6
            go_upto_if 68 with fail
            go_cut [] (fun wx => Hid (Rd b (c :: t) (vs ++ [begun key]) (.slice (some ⟨g, 0, none⟩) (vs.length + 1) cap2) (if nn = 0 then 3 else 0) wx) ∧ Hid (Kp (b :: (v.ownBlock.toList ++ [])) w wx) ∧ Hid (wx.heap[H]? = some (.cells #[.pointer (some ⟨b, 0, none⟩)] 81 (0, 0))) ∧ Hid (wx.heap[bv]? = some (.cells #[.int .i64 0, .string ⟨key.toArray⟩, .string ⟨#[]⟩, .int .i64 0] 56 (0, 0))))
            case first =>
              by_cases hn0 : nn = 0
              · have hn0' : ((nn : Int) == 0) = true := by simp; omega
                have HN0 := Lib.hid hn0
                clear hn0
                go_wp2_with fail
                refine (bad_calls b _ _ _ _ 3 _ R6.out).mono ?_
                rintro e7 w7 ⟨rfl, h7, k7⟩
                have P7 := Lib.hid ((k7.block H (lt_of_block P6.out) (by simp; omega)).trans P6.out)
                have V7 := Lib.hid ((k7.block bv (lt_of_block V6.out) (by simp; omega)).trans V6.out)
                have K7 := Lib.hid (K6.out.trans k7 (fun k hk => .inl (by simp at hk; simp [hk])))
                have R7 : Hid (Rd b (c :: t) (vs ++ [begun key]) (.slice (some ⟨g, 0, none⟩) (vs.length + 1) cap2) (if nn = 0 then 3 else 0) w7) := Lib.hid (by rw [if_pos HN0.out]; exact h7)
                clear h7 k7
                go_wp2_with fail
                go_meet
                exact ⟨R7, K7, P7, V7⟩
              · have hn0' : ((nn : Int) == 0) = false := by simp; omega
                have R7 : Hid (Rd b (c :: t) (vs ++ [begun key]) (.slice (some ⟨g, 0, none⟩) (vs.length + 1) cap2) (if nn = 0 then 3 else 0) w6) := Lib.hid (by rw [if_neg hn0]; exact R6.out)
                clear hn0
                go_wp2_with fail
                go_meet
                exact ⟨R7, K6, P6, V6⟩
            case rest =>
              obtain ⟨R7, K7, P7, V7⟩ := hcut
              clear cr6 cr5 cr4 cr c0 c05 R6 K6 P6 V6 R5 KW5 P5 V5 R4' KW4 P4 V4' HSV HSV2 HNN HRd HEv HP HD HV4 R4 K4 E4 D4 V4 HNE HV HS2
              have cH := cell_of_one P7.out
              have cB := R7.out.c0
              have fB := R7.out.free 0
              obtain ⟨d0, d1, d2, d3⟩ := cells4 V7.out
              have fv0 := frozen_of_row wc bv 0 _ _ V7.out
              have fv2 := frozen_of_row wc bv 2 _ _ V7.out
              have sl := slice_low (c :: t) nn hnl
              have sh := slice_high (c :: t) nn hnl
              have nbv : ¬ b = bv := by have := lt_of_block P7.out; omega
              have nHv : ¬ H = bv := by omega
              have nbH : ¬ b = H := by omega
              have k9 : Kp [b, bv] wc ((((wc.setCell ⟨bv, 0, none⟩ (.int .i64 3)).setCell ⟨bv, 2, none⟩ (.string ⟨((c :: t).take nn).toArray⟩)).setCell ⟨b, 0, none⟩ (.string ⟨((c :: t).drop nn).toArray⟩)).drew) := ((((Kp.refl _ _).setCell (.inl (by simp)) _).setCell (.inl (by simp)) _).setCell (.inl (by simp)) _).drew
              have v9 : ((((wc.setCell ⟨bv, 0, none⟩ (.int .i64 3)).setCell ⟨bv, 2, none⟩ (.string ⟨((c :: t).take nn).toArray⟩)).setCell ⟨b, 0, none⟩ (.string ⟨((c :: t).drop nn).toArray⟩)).drew).heap[bv]? = some (.cells #[.int .i64 3, .string ⟨key.toArray⟩, .string ⟨((c :: t).take nn).toArray⟩, .int .i64 0] 56 (0, 0)) := by
                show (((wc.setCell ⟨bv, 0, none⟩ (.int .i64 3)).setCell ⟨bv, 2, none⟩ (.string ⟨((c :: t).take nn).toArray⟩)).setCell ⟨b, 0, none⟩ (.string ⟨((c :: t).drop nn).toArray⟩)).heap[bv]? = _
                rw [heap_setCell_other _ _ _ _ (by show bv ≠ b; omega)]
                exact heap_setCell_same _ bv 2 _ _ (.string ⟨((c :: t).take nn).toArray⟩) (heap_setCell_same wc bv 0 _ _ (.int .i64 3) V7.out)
              have p9 : ((((wc.setCell ⟨bv, 0, none⟩ (.int .i64 3)).setCell ⟨bv, 2, none⟩ (.string ⟨((c :: t).take nn).toArray⟩)).setCell ⟨b, 0, none⟩ (.string ⟨((c :: t).drop nn).toArray⟩)).drew).heap[H]? = some (.cells #[.pointer (some ⟨b, 0, none⟩)] 81 (0, 0)) := (k9.block H (lt_of_block P7.out) (by simp; omega)).trans P7.out
              have r9 : Rd b ((c :: t).drop nn) (vs ++ [begun key]) (.slice (some ⟨g, 0, none⟩) (vs.length + 1) cap2) (if nn = 0 then 3 else 0) ((((wc.setCell ⟨bv, 0, none⟩ (.int .i64 3)).setCell ⟨bv, 2, none⟩ (.string ⟨((c :: t).take nn).toArray⟩)).setCell ⟨b, 0, none⟩ (.string ⟨((c :: t).drop nn).toArray⟩)).drew) := by
                have k9' : Kp [bv] wc ((wc.setCell ⟨bv, 0, none⟩ (.int .i64 3)).setCell ⟨bv, 2, none⟩ (.string ⟨((c :: t).take nn).toArray⟩)) := ((Kp.refl _ _).setCell (.inl (by simp)) _).setCell (.inl (by simp)) _
                exact ((R7.out.kept k9' (by simp; omega) (own_ne (by simp; omega))).put0 _).drew
              have R9 := Lib.hid r9
              have P9 := Lib.hid p9
              have V9 := Lib.hid v9
              have K9 := Lib.hid (K7.out.trans k9 (fun k hk => by
                simp at hk
                rcases hk with hk | hk
                · exact .inl (by simp [hk])
                · right; omega))
              have hdl : ((c :: t).drop nn).length ≤ (c :: t).length := by rw [List.length_drop]; omega
              have hre : ResIs vs ((vs ++ [begun key]).set vs.length ⟨3, key, (c :: t).take nn, 0⟩) ((c :: t).drop nn) (if nn = 0 then 3 else 0) (if nn = 0 then Except.error 3 else Except.ok ([⟨3, key, (c :: t).take nn, 0⟩], (c :: t).drop nn)) := by
                by_cases h0 : nn = 0
                · rw [if_pos h0, if_pos h0]; exact ⟨rfl, by decide⟩
                · rw [if_neg h0, if_neg h0]; exact ⟨rfl, rfl, by simp⟩
              have HRE := Lib.hid hre
              clear k9 v9 p9 r9 hre
              go_wp2_with fail
              go_region
              generalize ((((wc.setCell ⟨bv, 0, none⟩ (.int .i64 3)).setCell ⟨bv, 2, none⟩ (.string ⟨((c :: t).take nn).toArray⟩)).setCell ⟨b, 0, none⟩ (.string ⟨((c :: t).drop nn).toArray⟩)).drew) = w9 at *
              clear cH cB fB d0 d1 d2 d3 fv0 fv2 sl sh nbv nHv nbH
              go_wp2_with fail
              obtain ⟨z0, z1, z2, z3, y0, y1, y2, y3, x0, x1, x2, x3⟩ := R9.out.slot (i := vs.length) (by simp)
              obtain ⟨q0, q1, q2, q3⟩ := cells4 V9.out
              have qr := cell_of_one P9.out
              have qc := R9.out.c1
              have hix0 : (0 : Int) ≤ (vs.length : Int) := by omega
              have hix1 : (vs.length : Int) < ((vs.length + 1 : Nat) : Int) := by omega
              have hix2 : (vs.length : Int) < (vs.length : Int) + 1 := by omega
              go_still_tail 7, (by kernel_rfl)
              change wpList _ _ _ _ _ w9.drew
              go_wp2_with fail
              go_end0
              rw [HPX.out]
              exact ⟨rfl, PRes.stored R9.out (by simp) K9.out HLO.out ⟨3, key, (c :: t).take nn, 0⟩ (by simp; omega) (by omega) HRE.out⟩
end Go.Proofs.YtndkbecdjaedaaaGreatDoor
