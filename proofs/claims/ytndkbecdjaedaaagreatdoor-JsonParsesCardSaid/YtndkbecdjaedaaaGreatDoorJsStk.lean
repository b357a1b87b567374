/- The stack that Right keeps, in memory. -/
import Derived.Test.YtndkbecdjaedaaaGreatDoorJsMem
import Derived.Test.YtndkbecdjaedaaaGreatDoorJsOwn
import Derived.Test.YtndkbecdjaedaaaGreatDoorJsPlain
namespace Go.Proofs.YtndkbecdjaedaaaGreatDoor
open Go.RowKit Go.Maps Go.WideMaps

def ocell (p : Opn × Option Nat) : List Value := [.bool p.1.object, .int .i64 (p.1.left : Int), .map p.2]
/-- The stack's cells: the top comes last. -/
def ocells : List (Opn × Option Nat) → List Value
  | [] => []
  | p :: st => ocells st ++ ocell p
theorem ocells_len : ∀ st, (ocells st).length = st.length * 3
  | [] => rfl
  | p :: st => by
    simp only [ocells, List.length_append, ocells_len st, List.length_cons, ocell, List.length_nil]
    omega

/-- The stack: its row, and the maps that its objects' names lie in. -/
structure St (base : Nat) (v : Value) (st : List (Opn × Option Nat)) (w : World) : Prop where
  own : w.ownsRow base 94 3 v st.length (ocells st)
  maps : ∀ p ∈ st, (p.2 = none → p.1.object = false) ∧ ∀ hb, p.2 = some hb → base ≤ hb ∧ Had hb p.1.had w
  apart : st.Pairwise fun p q => ∀ hb, p.2 = some hb → q.2 ≠ some hb

theorem had_row {hb : Nat} {had : List (List UInt8)} {w : World} (h : Had hb had w) {cs : Array Value} {t : TypeId} {fr : Nat × Nat} (hc : w.heap[hb]? = some (.cells cs t fr)) : False := by
  obtain ⟨D, ⟨es, clock, h1, _⟩, _⟩ := h
  rw [hc] at h1
  cases h1
theorem St.ne {base : Nat} {v : Value} {st : List (Opn × Option Nat)} {w : World} (h : St base v st w) {p : Opn × Option Nat} (hp : p ∈ st) {hb : Nat} (hm : p.2 = some hb) : v.ownBlock ≠ some hb := by
  intro e
  rcases h.own.2 with ⟨hv, _⟩ | ⟨g, cap, cur, hv, _, hg, _⟩
  · rw [hv] at e; simp [Value.ownBlock] at e
  · rw [hv] at e
    have : g = hb := by simpa [Value.ownBlock] using e
    subst this
    exact had_row ((h.maps p hp).2 _ hm).2 hg
theorem St.kept {base : Nat} {v : Value} {st : List (Opn × Option Nat)} {S : List Nat} {w w' : World} (h : St base v st w) (hk : Kp S w w') (hv : ∀ k, v.ownBlock = some k → k ∉ S) (hm : ∀ p ∈ st, ∀ hb, p.2 = some hb → hb ∉ S) : St base v st w' :=
  ⟨own_kept h.own hk hv, fun p hp => ⟨(h.maps p hp).1, fun hb e => ⟨((h.maps p hp).2 hb e).1, ((h.maps p hp).2 hb e).2.kept hk (hm p hp hb e)⟩⟩, h.apart⟩
theorem St.fresh {base : Nat} {v : Value} {st : List (Opn × Option Nat)} {w w' : World} (h : St base v st w) (hk : Below w.heap.size w w') : St base v st w' := h.kept (Kp.of_below (S := []) hk) (fun _ _ => by simp) (fun _ _ _ _ => by simp)
theorem St.form {base : Nat} {v : Value} {p : Opn × Option Nat} {st : List (Opn × Option Nat)} {w : World} (h : St base v (p :: st) w) : ∃ g cap, v = .slice (some ⟨g, 0, none⟩) (st.length + 1) cap ∧ base ≤ g ∧ g < w.heap.size := by
  obtain ⟨g, cap, hv, h1, h2⟩ := h.own.form (by simp)
  exact ⟨g, cap, hv, h1, h2⟩
/-- The top's three cells. -/
theorem St.top {base g cap : Nat} {p : Opn × Option Nat} {st : List (Opn × Option Nat)} {w : World} (h : St base (.slice (some ⟨g, 0, none⟩) (st.length + 1) cap) (p :: st) w) :
    w.cell? ⟨g, st.length * 3, none⟩ = some (.bool p.1.object) ∧ w.cell? ⟨g, st.length * 3 + 1, none⟩ = some (.int .i64 (p.1.left : Int)) ∧ w.cell? ⟨g, st.length * 3 + 2, none⟩ = some (.map p.2) ∧ w.frozen? ⟨g, st.length * 3 + 1, none⟩ = false := by
  have hown : w.ownsRow base 94 3 (.slice (some ⟨g, 0, none⟩) (st.length + 1) cap) (st.length + 1) (ocells st ++ ocell p) := h.own
  have at' : ∀ j, j < 3 → w.cell? ⟨g, st.length * 3 + j, none⟩ = (ocell p)[j]? := fun j hj => by
    rw [hown.cellAt _ (by omega), List.getElem?_append_right (by rw [ocells_len]; omega), ocells_len]
    congr 1
    omega
  exact ⟨at' 0 (by omega), at' 1 (by omega), at' 2 (by omega), hown.frozenAt _⟩
theorem own_shrink {w : World} {base : Nat} {e : TypeId} {size g n m cap : Nat} {xs ys : List Value} (h : w.ownsRow base e size (.slice (some ⟨g, 0, none⟩) (n + m) cap) (n + m) (xs ++ ys)) (hx : xs.length = n * size) : w.ownsRow base e size (.slice (some ⟨g, 0, none⟩) n cap) n xs := by
  refine ⟨hx, ?_⟩
  rcases h.2 with ⟨hv, _⟩ | ⟨g', cap', cur, hv, hb, hg, hnc, hcm, hcs, htake⟩
  · simp at hv
  · simp only [Value.slice.injEq, Option.some.injEq, Addr.mk.injEq, and_true, true_and] at hv
    obtain ⟨rfl, rfl⟩ := hv
    refine .inr ⟨g, cap, cur, rfl, hb, hg, by omega, hcm, hcs, ?_⟩
    have : cur.toList.take (n * size) = (cur.toList.take ((n + m) * size)).take (n * size) := by
      rw [List.take_take, Nat.min_eq_left (Nat.mul_le_mul_right _ (by omega))]
    rw [this, htake, ← hx]
    exact List.take_left
theorem St.pop {base g cap : Nat} {p : Opn × Option Nat} {st : List (Opn × Option Nat)} {w : World} (h : St base (.slice (some ⟨g, 0, none⟩) (st.length + 1) cap) (p :: st) w) : St base (.slice (some ⟨g, 0, none⟩) st.length cap) st w :=
  ⟨own_shrink (m := 1) h.own (ocells_len st), fun q hq => h.maps q (by simp [hq]), (List.pairwise_cons.1 h.apart).2⟩
/-- The top has one less to come. -/
theorem St.less {base g cap k : Nat} {o : Bool} {had : List (List UInt8)} {mb : Option Nat} {st : List (Opn × Option Nat)} {w : World} (h : St base (.slice (some ⟨g, 0, none⟩) (st.length + 1) cap) ((⟨o, k, had⟩, mb) :: st) w) (k' : Nat) :
    St base (.slice (some ⟨g, 0, none⟩) (st.length + 1) cap) ((⟨o, k', had⟩, mb) :: st) (w.setCell ⟨g, st.length * 3 + 1, none⟩ (.int .i64 (k' : Int))) ∧ Kp [g] w (w.setCell ⟨g, st.length * 3 + 1, none⟩ (.int .i64 (k' : Int))) := by
  have kk : Kp [g] w (w.setCell ⟨g, st.length * 3 + 1, none⟩ (.int .i64 (k' : Int))) := (Kp.refl _ _).setCell (.inl (by simp)) _
  have hne : ∀ q ∈ ((⟨o, k, had⟩, mb) :: st), ∀ hb, q.2 = some hb → hb ∉ [g] := fun q hq hb e => by
    have := h.ne hq e
    simp [Value.ownBlock] at this
    simp; exact fun h => this h.symm
  have hmap : ∀ q ∈ ((⟨o, k', had⟩, mb) :: st), (q.2 = none → q.1.object = false) ∧ ∀ hb, q.2 = some hb → base ≤ hb ∧ Had hb q.1.had (w.setCell ⟨g, st.length * 3 + 1, none⟩ (.int .i64 (k' : Int))) := fun q hq => by
    rcases List.mem_cons.1 hq with rfl | hq
    · have := h.maps _ (List.mem_cons_self ..)
      exact ⟨this.1, fun hb e => ⟨(this.2 hb e).1, (this.2 hb e).2.kept kk (hne _ (List.mem_cons_self ..) hb e)⟩⟩
    · have := h.maps q (List.mem_cons_of_mem _ hq)
      exact ⟨this.1, fun hb e => ⟨(this.2 hb e).1, (this.2 hb e).2.kept kk (hne _ (List.mem_cons_of_mem _ hq) hb e)⟩⟩
  refine ⟨⟨?_, hmap, List.pairwise_cons.2 (List.pairwise_cons.1 h.apart)⟩, kk⟩
  have hs := (h.own.stored (st.length * 3 + 1) (.int .i64 (k' : Int))).1
  have e : (ocells ((⟨o, k, had⟩, mb) :: st)).set (st.length * 3 + 1) (.int .i64 (k' : Int)) = ocells ((⟨o, k', had⟩, mb) :: st) := by
    simp only [ocells]
    rw [List.set_append_right _ _ (by rw [ocells_len]; omega), ocells_len]
    congr 1
    rw [show st.length * 3 + 1 - st.length * 3 = 1 by omega]
    rfl
  rw [e] at hs
  exact hs
/-- The top has one name more. -/
theorem St.name {base g cap k hb : Nat} {o : Bool} {had : List (List UInt8)} {x : List UInt8} {st : List (Opn × Option Nat)} {w w' : World} (h : St base (.slice (some ⟨g, 0, none⟩) (st.length + 1) cap) ((⟨o, k, had⟩, some hb) :: st) w)
    (hk : Kp [hb] w w') (hh : Had hb (x :: had) w') : St base (.slice (some ⟨g, 0, none⟩) (st.length + 1) cap) ((⟨o, k, x :: had⟩, some hb) :: st) w' := by
  have hg : g ≠ hb := fun e => by
    have := h.ne (List.mem_cons_self ..) rfl
    simp [Value.ownBlock] at this
    exact this e
  have hown := own_kept h.own hk (fun k hk => by
    have : g = k := by simpa [Value.ownBlock] using hk
    subst this
    simpa using hg)
  refine ⟨hown, fun q hq => ?_, List.pairwise_cons.2 (List.pairwise_cons.1 h.apart)⟩
  rcases List.mem_cons.1 hq with rfl | hq2
  · exact ⟨fun e => by simp at e, fun b e => by
      have : hb = b := by simpa using e
      subst this
      exact ⟨((h.maps _ (List.mem_cons_self ..)).2 hb rfl).1, hh⟩⟩
  · have h1 := h.maps q (List.mem_cons_of_mem _ hq2)
    exact ⟨h1.1, fun b e => ⟨(h1.2 b e).1, (h1.2 b e).2.kept hk (by
      simp
      intro e2
      subst e2
      exact (List.pairwise_cons.1 h.apart).1 q hq2 _ rfl e)⟩⟩
end Go.Proofs.YtndkbecdjaedaaaGreatDoor
/- The stack grows. The closure that ends Right; slices.ContainsFunc over the stack. -/
namespace Go.Proofs.YtndkbecdjaedaaaGreatDoor
open Go.RowKit Go.Maps Go.WideMaps

theorem St.push {base g cap k : Nat} {o : Bool} {v : Value} {st : List (Opn × Option Nat)} {W w3 : World} {ob : Obj} (h : St base v st W)
    (hown : w3.ownsRow base 94 3 (.slice (some ⟨g, 0, none⟩) (st.length + 1) cap) (st.length + 1) (ocells st ++ [.bool o, .int .i64 (k : Int), .map (some W.heap.size)]))
    (hgr : ((W.alloc (.map #[] 0)).alloc ob).grownBy w3 v.ownBlock) (hb : base ≤ W.heap.size) :
    St base (.slice (some ⟨g, 0, none⟩) (st.length + 1) cap) ((⟨o, k, []⟩, some W.heap.size) :: st) w3 ∧ Kp v.ownBlock.toList W w3 := by
  have k0 : Kp ([] : List Nat) W ((W.alloc (.map #[] 0)).alloc ob) := ((Kp.refl _ _).alloc _).alloc _
  have kk : Kp v.ownBlock.toList W w3 := (k0.mono (S' := v.ownBlock.toList) (fun k hk => by cases hk)).grown hgr (fun k hk => .inl (by simp [hk]))
  have hold : ∀ q ∈ st, ∀ b, q.2 = some b → b < W.heap.size := fun q hq b e => ((h.maps q hq).2 b e).2.lt
  have hnew : Had W.heap.size [] w3 := by
    have h1 : Had W.heap.size [] (W.alloc (.map #[] 0)) := ⟨_, World.ownsMap_made _ _ _ _, fun x => rfl⟩
    have h2 : Had W.heap.size [] ((W.alloc (.map #[] 0)).alloc ob) := h1.kept (S := []) ((Kp.refl _ _).alloc _) (by simp)
    refine h2.kept (S := v.ownBlock.toList) (Kp.of_grown hgr) (fun hm => ?_)
    have hm : v.ownBlock = some W.heap.size := by simpa using hm
    have := h.own.lt _ hm
    omega
  refine ⟨⟨hown, fun q hq => ?_, List.pairwise_cons.2 ⟨fun q hq b e e2 => ?_, h.apart⟩⟩, kk⟩
  · rcases List.mem_cons.1 hq with rfl | hq2
    · exact ⟨fun e => by simp at e, fun b e => by
        have hbe : W.heap.size = b := by simpa using e
        subst hbe
        exact ⟨hb, hnew⟩⟩
    · have h1 := h.maps q hq2
      exact ⟨h1.1, fun b e => ⟨(h1.2 b e).1, (h1.2 b e).2.kept kk (fun hm => h.ne hq2 e (by simpa using hm))⟩⟩
  · have hbe : W.heap.size = b := by simpa using e
    subst hbe
    have := hold q hq _ e2
    omega

set_option maxHeartbeats 2000000 in
set_option maxRecDepth 100000 in
theorem more_calls (o : Bool) (k : Nat) (m : Option Nat) (w : World) :
    Calls Tryz.prog 68 #[.agg #[.bool o, .int .i64 (k : Int), .map m]] w fun e w' => e = .returned (.bool (decide (0 < k))) ∧ Below w.heap.size w w' := by
  by_cases hk : 0 < k
  · have hk' : (0 : Int) < (k : Int) := by omega
    rw [decide_eq_true hk]
    go_enter Tryz.func68, Tryz.ntmps68
    go_wp2_with fail
    go_ret
    exact ⟨rfl, (Below.refl _ _).alloc (Nat.le_refl _) _⟩
  · have hk' : ¬ (0 : Int) < (k : Int) := by omega
    rw [decide_eq_false hk]
    go_enter Tryz.func68, Tryz.ntmps68
    go_wp2_with fail
    go_ret
    exact ⟨rfl, (Below.refl _ _).alloc (Nat.le_refl _) _⟩

/-- Is something still to come? -/
def someLeft (st : List (Opn × Option Nat)) : Bool := st.any fun p => decide (0 < p.1.left)
theorem someLeft_yes {st : List (Opn × Option Nat)} {i : Nat} (hi : i < st.length) (h : 0 < st[i].1.left) : someLeft st = true := by
  unfold someLeft
  rw [List.any_eq_true]
  exact ⟨st[i], List.getElem_mem hi, by simpa using h⟩
theorem someLeft_no {st : List (Opn × Option Nat)} (h : ∀ j (hj : j < st.length), st[st.length - 1 - j].1.left = 0) : someLeft st = false := by
  unfold someLeft
  rw [List.any_eq_false]
  intro p hp
  obtain ⟨i, hi, rfl⟩ := List.getElem_of_mem hp
  have := h (st.length - 1 - i) (by omega)
  have e : st.length - 1 - (st.length - 1 - i) = i := by omega
  simp only [e] at this
  simp; omega

theorem ocells_at : ∀ (st : List (Opn × Option Nat)) (i : Nat) (hi : i < st.length) (j : Nat), j < 3 → (ocells st)[i * 3 + j]? = (ocell (st[st.length - 1 - i]'(by omega)))[j]?
  | [], i, hi, j, hj => by simp at hi
  | p :: st, i, hi, j, hj => by
    simp only [ocells]
    by_cases h : i < st.length
    · rw [List.getElem?_append_left (by rw [ocells_len]; omega), ocells_at st i h j hj]
      congr 2
      rw [List.getElem_cons]
      rw [dif_neg (by simp; omega)]
      congr 1
      simp; omega
    · have hie : i = st.length := by simp at hi; omega
      subst hie
      rw [List.getElem?_append_right (by rw [ocells_len]; omega), ocells_len]
      congr 1
      · congr 1
        simp
      · omega

set_option maxHeartbeats 4000000 in
set_option maxRecDepth 1000000 in
theorem index_calls (base : Nat) (v : Value) (st : List (Opn × Option Nat)) (w : World) (h : St base v st w) (hl : st.length ≤ 4611686018427387904) :
    Calls Tryz.prog 121 #[v, .func (.func 68) #[] #[]] w fun e w' => (∃ r : Int, e = .returned (.int .i64 r) ∧ decide (0 ≤ r) = someLeft st) ∧ Below w.heap.size w w' := by
  obtain ⟨a, cap, hv⟩ : ∃ a cap, v = .slice a st.length cap := by
    rcases h.own.2 with ⟨hv, h0⟩ | ⟨g, cap, cur, hv, _⟩
    · exact ⟨none, 0, by rw [hv, h0]⟩
    · exact ⟨_, _, hv⟩
  have HH := Lib.hid h
  obtain ⟨R, hR⟩ : ∃ R, someLeft st = R := ⟨_, rfl⟩
  rw [hR]
  have HR := Lib.hid hR
  subst hv
  clear h hR
  go_enter Tryz.func121, Tryz.ntmps121
  go_wp2_with fail
  go_loopw [8] (fun vi wr => ∃ i : Nat, vi = .int .i64 (i : Int) ∧ i ≤ st.length ∧ Hid (Below w.heap.size w wr) ∧ Hid (∀ j (hj : j < st.length), j < i → st[st.length - 1 - j].1.left = 0)) (fun vi _ => st.length - (intOf vi).toNat)
  case atStart => exact ⟨0, rfl, by omega, Lib.hid (Below.refl _ _), Lib.hid (fun j _ h => by omega)⟩
  case round =>
    obtain ⟨i, rfl, hi, HK, HJ⟩ := hrel
    by_cases hil : i < st.length
    · have hst := HH.out.fresh HK.out
      obtain ⟨g, cap', hv', _, _⟩ := hst.own.form (by omega)
      simp only [Value.slice.injEq] at hv'
      obtain ⟨rfl, _, rfl⟩ := hv'
      obtain ⟨p, hp⟩ : ∃ p, st[st.length - 1 - i]'(by omega) = p := ⟨_, rfl⟩
      have at' : ∀ j, j < 3 → wr.cell? ⟨g, i * 3 + j, none⟩ = (ocell p)[j]? := fun j hj => by
        rw [hst.own.cellAt _ (by omega), ocells_at st i hil j hj, hp]
      have p0 : wr.cell? ⟨g, i * 3, none⟩ = some (.bool p.1.object) := at' 0 (by omega)
      have p1 : wr.cell? ⟨g, i * 3 + 1, none⟩ = some (.int .i64 (p.1.left : Int)) := at' 1 (by omega)
      have p2 : wr.cell? ⟨g, i * 3 + 2, none⟩ = some (.map p.2) := at' 2 (by omega)
      have hix0 : (0 : Int) ≤ (i : Int) := by omega
      have hix1 : (i : Int) < (st.length : Int) := by omega
      have HP := Lib.hid hp
      clear hst at' hp
      go_wp2_with fail
      refine (more_calls p.1.object p.1.left p.2 _).mono ?_
      rintro e1 w1 ⟨rfl, hb1⟩
      have HK2 := Lib.hid (HK.out.trans (hb1.mono HK.out.size))
      clear hb1 p0 p1 p2
      by_cases hk : 0 < p.1.left
      · have hs : someLeft st = true := someLeft_yes (i := st.length - 1 - i) (by omega) (by rw [HP.out]; exact hk)
        have HS : Hid (R = true) := Lib.hid (HR.out.symm.trans hs)
        rw [decide_eq_true hk]
        clear hs
        go_wp2_with fail
        go_ret
        exact ⟨⟨i, rfl, by rw [HS.out]; exact decide_eq_true (by omega)⟩, HK2.out⟩
      · rw [decide_eq_false hk]
        have HK0 := Lib.hid hk
        clear hk
        go_wp2_with fail
        go_roundw
        case rel => exact ⟨i + 1, by go_num, by omega, HK2, Lib.hid (fun j hj hji => by
          by_cases h : j < i
          · exact HJ.out j hj h
          · have : j = i := by omega
            subst this
            rw [HP.out]
            have := HK0.out
            omega)⟩
        case measure => simp [intOf]; omega
    · have hs : someLeft st = false := someLeft_no (fun j hj => HJ.out j hj (by omega))
      have HS : Hid (R = false) := Lib.hid (HR.out.symm.trans hs)
      have hge : ¬ (i : Int) < (st.length : Int) := by omega
      clear hs
      go_wp2_with fail
      go_ret
      exact ⟨⟨-1, rfl, by rw [HS.out]; rfl⟩, HK.out⟩

set_option maxHeartbeats 2000000 in
set_option maxRecDepth 100000 in
theorem some_calls (base : Nat) (v : Value) (st : List (Opn × Option Nat)) (w : World) (h : St base v st w) (hl : st.length ≤ 4611686018427387904) :
    Calls Tryz.prog 67 #[v, .func (.func 68) #[] #[]] w fun e w' => e = .returned (.bool (someLeft st)) ∧ Below w.heap.size w w' := by
  obtain ⟨R, hR⟩ : ∃ R, someLeft st = R := ⟨_, rfl⟩
  go_enter Tryz.func67, Tryz.ntmps67
  go_wp2_with fail
  refine (index_calls base v st _ h hl).mono ?_
  rintro e1 w1 ⟨⟨r, rfl, hr⟩, hb1⟩
  rw [hR] at hr
  cases R with
  | true =>
    have hr0 : 0 ≤ r := of_decide_eq_true hr
    have hr1 : decide (0 ≤ r) = true := decide_eq_true hr0
    go_wp2_with fail
    go_ret
    exact ⟨by rw [hR]; first | rfl | (show Ending.returned (Value.bool (decide (0 ≤ r))) = _; rw [hr1]), hb1⟩
  | false =>
    have hr0 : ¬ 0 ≤ r := of_decide_eq_false hr
    have hr1 : decide (0 ≤ r) = false := decide_eq_false hr0
    go_wp2_with fail
    go_ret
    exact ⟨by rw [hR]; first | rfl | (show Ending.returned (Value.bool (decide (0 ≤ r))) = _; rw [hr1]), hb1⟩
end Go.Proofs.YtndkbecdjaedaaaGreatDoor
