/- Slices of bytes and of values, as they are read. -/
import Derived.Test.YtndkbecdjaedaaaGreatDoorJsRd
import Derived.Test.YtndkbecdjaedaaaGreatDoorJsPlain
import Derived.BigQuiet
import Derived.Laws.StructEq
namespace Go.Proofs.YtndkbecdjaedaaaGreatDoor
open Go.RowKit

/-- A slice of bytes. -/
def Bs (w : World) (v : Value) (l : List UInt8) : Prop :=
  (l = [] ∧ ∃ c, v = .slice none 0 c) ∨ ∃ b off cap, v = .slice (some ⟨b, off, none⟩) l.length cap ∧ b < w.heap.size ∧ ∀ j (hj : j < l.length), w.cell? ⟨b, off + j, none⟩ = some (.int .u8 (l[j].toNat : Int))
/-- A slice of values. -/
def Vs (w : World) (v : Value) (l : List V) : Prop :=
  (l = [] ∧ ∃ a c, v = .slice a 0 c) ∨ ∃ b off cap, v = .slice (some ⟨b, off, none⟩) l.length cap ∧ b < w.heap.size ∧ ∀ i (hi : i < l.length) j, j < 4 → w.cell? ⟨b, off + i * 4 + j, none⟩ = (vcell l[i])[j]?

theorem Bs.kept {w w' : World} {v : Value} {l : List UInt8} (h : Bs w v l) (hb : Below w.heap.size w w') : Bs w' v l := by
  rcases h with h | ⟨b, off, cap, hv, hl, hc⟩
  · exact .inl h
  · exact .inr ⟨b, off, cap, hv, Nat.lt_of_lt_of_le hl hb.size, fun j hj => (hb.cell (p := ⟨b, off + j, none⟩) hl).trans (hc j hj)⟩
theorem Vs.kept {w w' : World} {v : Value} {l : List V} (h : Vs w v l) (hb : Below w.heap.size w w') : Vs w' v l := by
  rcases h with h | ⟨b, off, cap, hv, hl, hc⟩
  · exact .inl h
  · exact .inr ⟨b, off, cap, hv, Nat.lt_of_lt_of_le hl hb.size, fun i hi j hj => (hb.cell (p := ⟨b, off + i * 4 + j, none⟩) hl).trans (hc i hi j hj)⟩
theorem Bs.len {w : World} {v : Value} {l : List UInt8} (h : Bs w v l) : ∃ a cap, v = .slice a l.length cap := by
  rcases h with ⟨rfl, c, rfl⟩ | ⟨b, off, cap, hv, _, _⟩
  · exact ⟨_, _, rfl⟩
  · exact ⟨_, _, hv⟩
theorem Vs.len {w : World} {v : Value} {l : List V} (h : Vs w v l) : ∃ a cap, v = .slice a l.length cap := by
  rcases h with ⟨rfl, a, c, rfl⟩ | ⟨b, off, cap, hv, _, _⟩
  · exact ⟨_, _, rfl⟩
  · exact ⟨_, _, hv⟩

theorem Bs.text {w : World} {v : Value} {l : List UInt8} (h : Bs w v l) : (convert 22 9 v).run Tryz.prog w = .ok (.string ⟨l.toArray⟩) w := by
  rcases h with ⟨rfl, c, rfl⟩ | ⟨b, off, cap, rfl, _, hc⟩
  · exact run_convert_bytes_nil w 22 5 Tryz.underlying22 Tryz.underlying5 0 c 9 Tryz.underlying9
  · refine run_convert_bytes_back (P := Tryz.prog) w 22 9 5 ⟨b, off, none⟩ cap l Tryz.underlying22 Tryz.underlying5 Tryz.underlying9 (fun j hj => ?_)
    have : (⟨b, off, none⟩ : Addr).add j = ⟨b, off + j, none⟩ := by unfold Addr.add; split <;> simp_all
    rw [this]
    exact hc j hj

/-- A row of the call's own is one. -/
theorem vs_of_own {w : World} {base : Nat} {v : Value} {l : List V} (h : w.ownsRow base 56 4 v l.length (vcells l)) : Vs w v l := by
  rcases h.2 with ⟨hv, h0⟩ | ⟨g, cap, cur, hv, _, hg, _⟩
  · exact .inl ⟨List.eq_nil_of_length_eq_zero h0, none, 0, hv⟩
  · refine .inr ⟨g, 0, cap, hv, lt_of_block hg, fun i hi j hj => ?_⟩
    subst hv
    have := h.cellAt (i * 4 + j) (by omega)
    rw [show 0 + i * 4 + j = i * 4 + j by omega, this, Nat.mul_comm]
    exact vcells_at l i j hi hj
/-- The four cells of a value of a row. -/
theorem vcell_at {x : V} {j : Nat} {c : Option Value} (h : c = (vcell x)[j]?) : (j = 0 → c = some (.int .i64 x.kind)) ∧ (j = 1 → c = some (.string ⟨x.key.toArray⟩)) ∧ (j = 2 → c = some (.string ⟨x.text.toArray⟩)) ∧ (j = 3 → c = some (.int .i64 x.count)) :=
  ⟨fun e => by rw [h, e]; rfl, fun e => by rw [h, e]; rfl, fun e => by rw [h, e]; rfl, fun e => by rw [h, e]; rfl⟩
theorem below_drewN {B : Nat} {a w : World} (h : Below B a w) (n : Nat) : Below B a (w.drewN n) := ⟨h.os, h.tape, h.output, h.size, h.block⟩
theorem own_lower {w : World} {base base' : Nat} {e : TypeId} {size : Nat} {v : Value} {n : Nat} {xs : List Value} (h : w.ownsRow (base + base') e size v n xs) : w.ownsRow base e size v n xs := by
  refine ⟨h.1, ?_⟩
  rcases h.2 with h2 | ⟨g, cap, cur, hv, hb, r⟩
  · exact .inl h2
  · exact .inr ⟨g, cap, cur, hv, by omega, r⟩

end Go.Proofs.YtndkbecdjaedaaaGreatDoor
/- json.End and the reference's End: where rows end. -/
namespace Go.Proofs.YtndkbecdjaedaaaGreatDoor
open Go.RowKit

theorem endGo_nil (N : Nat) (want : Int) (at' : Nat) : endGo N [] want at' = if want ≤ 0 then (at' : Int) else -1 := by simp [endGo]
theorem endGo_at {N : Nat} {l : List V} {i : Nat} (hi : i < l.length) (want : Int) (at' : Nat) : endGo N (l.drop i) want at' = if want ≤ 0 then (at' : Int) else if l[i].count < 0 ∨ (N : Int) < l[i].count then -1 else endGo N (l.drop (i + 1)) (want - 1 + l[i].count) (at' + 1) := by
  rw [List.drop_eq_getElem_cons hi]
  simp [endGo]

set_option maxHeartbeats 4000000 in
set_option maxRecDepth 1000000 in
theorem end_calls (v : Value) (l : List V) (at' : Int) (w : World) (h : Vs w v l) (h0 : -9223372036854775808 ≤ at') (h1 : at' ≤ 9223372036854775807) (hl : l.length ≤ 1000000) :
    Calls Tryz.prog 35 #[v, .int .i64 at'] w fun e w' => e = .returned (.int .i64 (jend l at')) ∧ w' = w := by
  obtain ⟨a, cap, hv⟩ := h.len
  by_cases hout : at' < 0 ∨ (l.length : Int) ≤ at'
  · have hj : jend l at' = -1 := by unfold jend; rw [if_pos hout]
    have HJ := Lib.hid hj
    subst hv
    clear h hj
    by_cases hn : at' < 0
    · clear hout
      go_enter Tryz.func35, Tryz.ntmps35
      go_wp2_with fail
      go_ret
      exact ⟨by rw [HJ.out]; rfl, rfl⟩
    · have hge : (l.length : Int) ≤ at' := by omega
      clear hout
      go_enter Tryz.func35, Tryz.ntmps35
      go_wp2_with fail
      go_ret
      exact ⟨by rw [HJ.out]; rfl, rfl⟩
  · obtain ⟨k, rfl⟩ : ∃ k : Nat, at' = k := ⟨at'.toNat, by omega⟩
    have hk : k < l.length := by omega
    have hj : jend l (k : Int) = endGo l.length (l.drop k) 1 k := by unfold jend; rw [if_neg hout, Int.toNat_natCast]
    rw [hj]
    rcases h with ⟨rfl, _⟩ | ⟨b, off, cap', hv', hb, hc⟩
    · simp at hk
    subst hv'
    clear hv a cap hj
    obtain ⟨R, hR⟩ : ∃ R, endGo l.length (l.drop k) 1 k = R := ⟨_, rfl⟩
    rw [hR]
    have HC := Lib.hid hc
    have HR := Lib.hid hR
    have g0 : ¬ (k : Int) < 0 := by omega
    have g1 : ¬ (l.length : Int) ≤ (k : Int) := by omega
    clear hc hR hout h0 h1
    go_enter Tryz.func35, Tryz.ntmps35
    go_wp2_with fail
    go_loopw [5, 1] (fun vw va wr => ∃ (i : Nat) (want : Int), va = .int .i64 (i : Int) ∧ vw = .int .i64 want ∧ i ≤ l.length ∧ 0 ≤ want ∧ want ≤ 1 + (i : Int) * 1000000 ∧ wr = w ∧ Hid (endGo l.length (l.drop i) want i = R)) (fun _ va _ => l.length - (intOf va).toNat)
    case atStart => exact ⟨k, 1, rfl, rfl, by omega, by omega, by omega, rfl, HR⟩
    case round =>
      obtain ⟨i, want, rfl, rfl, hi, hw0, hw1, rfl, HRR⟩ := hrel
      by_cases hw : 0 < want
      · by_cases hil : i < l.length
        · have he := endGo_at (N := l.length) hil want i
          have hce := (vcell_at (HC.out i hil 3 (by omega))).2.2.2 rfl
          obtain ⟨c, hcc⟩ : ∃ c, l[i].count = c := ⟨_, rfl⟩
          rw [hcc] at he hce
          rw [if_neg (by omega)] at he
          have hne : ((i : Int) == (l.length : Int)) = false := by simp; omega
          have hix0 : (0 : Int) ≤ (i : Int) := by omega
          have hix1 : (i : Int) < (l.length : Int) := by omega
          by_cases hc0 : c < 0
          · rw [if_pos (.inl hc0)] at he
            have hr : R = -1 := by rw [← HRR.out, he]
            have HR2 := Lib.hid hr
            clear he hcc hr
            go_wp2_with fail
            go_ret
            exact ⟨by rw [HR2.out]; rfl, rfl⟩
          · by_cases hcN : (l.length : Int) < c
            · rw [if_pos (.inr hcN)] at he
              have hr : R = -1 := by rw [← HRR.out, he]
              have HR2 := Lib.hid hr
              clear he hcc hr
              go_wp2_with fail
              go_ret
              exact ⟨by rw [HR2.out]; rfl, rfl⟩
            · rw [if_neg (by omega)] at he
              have hr : endGo l.length (l.drop (i + 1)) (want - 1 + c) (i + 1) = R := by rw [← HRR.out, he]
              have HR2 := Lib.hid hr
              clear he hcc hr
              have hcb : c ≤ 1000000 := by omega
              have hmul : ((i + 1 : Nat) : Int) * 1000000 = (i : Int) * 1000000 + 1000000 := by omega
              go_wp2_with fail
              go_roundw
              case rel => exact ⟨i + 1, want - 1 + c, by go_num, by go_num, by omega, by omega, by omega, by trivial, HR2⟩
              case measure => simp [intOf]; omega
        · have hie : i = l.length := by omega
          have hr : R = -1 := by
            rw [← HRR.out, List.drop_eq_nil_of_le (by omega), endGo_nil, if_neg (by omega)]
          have HR2 := Lib.hid hr
          have heq : ((i : Int) == (l.length : Int)) = true := by simp; omega
          clear hr hie
          go_wp2_with fail
          go_ret
          exact ⟨by rw [HR2.out]; rfl, rfl⟩
      · have hr : R = (i : Int) := by
          rw [← HRR.out]
          by_cases hil : i < l.length
          · rw [endGo_at hil, if_pos (by omega)]
          · rw [List.drop_eq_nil_of_le (by omega), endGo_nil, if_pos (by omega)]
        have HR2 := Lib.hid hr
        clear hr
        go_wp2_with fail
        go_ret
        exact ⟨by rw [HR2.out]; rfl, rfl⟩
end Go.Proofs.YtndkbecdjaedaaaGreatDoor
/- The reference's Same; the law's Few. -/
namespace Go.Proofs.YtndkbecdjaedaaaGreatDoor
open Go.RowKit

def eqV (x y : V) : Bool := x.kind == y.kind && x.key == y.key && x.text == y.text && x.count == y.count
def sameV : List V → List V → Bool
  | [], [] => true
  | x :: a, y :: b => eqV x y && sameV a b
  | _, _ => false
theorem eqV_iff (x y : V) : eqV x y = true ↔ x = y := by
  obtain ⟨a, b, c, d⟩ := x
  obtain ⟨a', b', c', d'⟩ := y
  simp [eqV, and_assoc]
theorem sameV_iff : ∀ a b : List V, sameV a b = true ↔ a = b
  | [], [] => by simp [sameV]
  | [], _ :: _ => by simp [sameV]
  | _ :: _, [] => by simp [sameV]
  | x :: a, y :: b => by simp [sameV, eqV_iff, sameV_iff a b]
theorem sameV_refl (a : List V) : sameV a a = true := (sameV_iff a a).2 rfl
theorem sameV_len {a b : List V} (h : a.length ≠ b.length) : sameV a b = false := by
  cases hs : sameV a b with
  | false => rfl
  | true => exact absurd (congrArg List.length ((sameV_iff a b).1 hs)) h
theorem sameV_drop {a b : List V} {i : Nat} (ha : i < a.length) (hb : i < b.length) : sameV (a.drop i) (b.drop i) = (eqV a[i] b[i] && sameV (a.drop (i + 1)) (b.drop (i + 1))) := by
  rw [List.drop_eq_getElem_cons ha, List.drop_eq_getElem_cons hb]
  rfl

set_option maxHeartbeats 2000000 in
set_option maxRecDepth 100000 in
theorem neq_run (x y : V) : ∀ w, (binOp .neq 56 (.agg #[.int .i64 x.kind, .string ⟨x.key.toArray⟩, .string ⟨x.text.toArray⟩, .int .i64 x.count]) (.agg #[.int .i64 y.kind, .string ⟨y.key.toArray⟩, .string ⟨y.text.toArray⟩, .int .i64 y.count])).run Tryz.prog w = .ok (.bool (!eqV x y)) w := by
  intro w
  rw [run_neq_struct, run_equalIn_struct w 9999 56 _ _ (by kernel_rfl) (by kernel_rfl)]
  rw [show (Tryz.prog.fieldsOf 56).toList = _ from rfl]
  simp only [Program.fieldsOf, Tryz.underlying56]
  simp [go_sem]
  unfold eqV
  by_cases h1 : x.kind = y.kind
  · by_cases h2 : x.key = y.key
    · by_cases h3 : x.text = y.text
      · by_cases h4 : x.count = y.count <;> simp [h1, h2, h3, h4]
      · simp [h1, h2, h3]
    · simp [h1, h2]
  · simp [h1]

theorem load4 {w : World} {b off i : Nat} {x : V} (h : ∀ j, j < 4 → w.cell? ⟨b, off + i * 4 + j, none⟩ = (vcell x)[j]?) :
    w.cell? ⟨b, off + i * 4, none⟩ = some (.int .i64 x.kind) ∧ w.cell? ⟨b, off + i * 4 + 1, none⟩ = some (.string ⟨x.key.toArray⟩) ∧ w.cell? ⟨b, off + i * 4 + 2, none⟩ = some (.string ⟨x.text.toArray⟩) ∧ w.cell? ⟨b, off + i * 4 + 3, none⟩ = some (.int .i64 x.count) :=
  ⟨(vcell_at (h 0 (by omega))).1 rfl, (vcell_at (h 1 (by omega))).2.1 rfl, (vcell_at (h 2 (by omega))).2.2.1 rfl, (vcell_at (h 3 (by omega))).2.2.2 rfl⟩

set_option maxHeartbeats 4000000 in
set_option maxRecDepth 1000000 in
theorem same_calls (va vb : Value) (a b : List V) (w : World) (ha : Vs w va a) (hb : Vs w vb b) (hl : a.length ≤ 1000000) :
    Calls Tryz.prog 30 #[va, vb] w fun e w' => e = .returned (.bool (sameV a b)) ∧ Below w.heap.size w w' := by
  obtain ⟨aa, ca, hva⟩ := ha.len
  obtain ⟨ab, cb, hvb⟩ := hb.len
  by_cases hlen : a.length = b.length
  case neg =>
    have hs := sameV_len hlen
    have HS := Lib.hid hs
    subst hva hvb
    have hne : ((a.length : Int) != (b.length : Int)) = true := by simp; omega
    clear ha hb hs hlen
    go_enter Tryz.func30, Tryz.ntmps30
    go_wp2_with fail
    go_ret
    exact ⟨by rw [HS.out]; rfl, Below.refl _ _⟩
  case pos =>
    have HL := Lib.hid hlen
    have hne : ((a.length : Int) != (b.length : Int)) = false := by simp; omega
    have HA := Lib.hid ha
    have HB := Lib.hid hb
    obtain ⟨R, hR⟩ : ∃ R, sameV a b = R := ⟨_, rfl⟩
    rw [hR]
    have HR : Hid (sameV (a.drop 0) (b.drop 0) = R) := Lib.hid hR
    subst hva hvb
    clear ha hb hR hlen
    go_enter Tryz.func30, Tryz.ntmps30
    go_wp2_with fail
    go_loopw [5] (fun vi wr => ∃ i : Nat, vi = .int .i64 (i : Int) ∧ i ≤ a.length ∧ Hid (Below w.heap.size w wr) ∧ Hid (sameV (a.drop i) (b.drop i) = R)) (fun vi _ => a.length - (intOf vi).toNat)
    case atStart => exact ⟨0, rfl, by omega, Lib.hid (Below.refl _ _), HR⟩
    case round =>
      obtain ⟨i, rfl, hi, HK, HRR⟩ := hrel
      by_cases hil : i < a.length
      · rcases HA.out.kept HK.out with ⟨rfl, _⟩ | ⟨ba, offa, capa, hva, _, hca⟩
        · simp at hil
        rcases HB.out.kept HK.out with ⟨rfl, _⟩ | ⟨bb, offb, capb, hvb, _, hcb⟩
        · have := HL.out; simp at this; rw [this] at hil; simp at hil
        have hilb : i < b.length := by have := HL.out; omega
        simp only [Value.slice.injEq] at hva hvb
        obtain ⟨rfl, _, rfl⟩ := hva
        obtain ⟨rfl, _, rfl⟩ := hvb
        obtain ⟨p0, p1, p2, p3⟩ := load4 (hca i hil)
        obtain ⟨q0, q1, q2, q3⟩ := load4 (hcb i hilb)
        have hd := sameV_drop hil hilb
        obtain ⟨x, hx⟩ : ∃ x, a[i] = x := ⟨_, rfl⟩
        obtain ⟨y, hy⟩ : ∃ y, b[i] = y := ⟨_, rfl⟩
        rw [hx] at p0 p1 p2 p3 hd
        rw [hy] at q0 q1 q2 q3 hd
        have hix0 : (0 : Int) ≤ (i : Int) := by omega
        have hix1 : (i : Int) < (a.length : Int) := by omega
        have hix2 : (i : Int) < (b.length : Int) := by omega
        have HD := Lib.hid hd
        clear hd hx hy hca hcb
        have hcmp := neq_run x y
        cases he : eqV x y with
        | false =>
          rw [he] at hcmp
          simp only [Bool.not_false] at hcmp
          have hr : R = false := by rw [← HRR.out, HD.out, he]; rfl
          have HR2 := Lib.hid hr
          clear he hr
          go_wp2_with fail
          go_quiet (fail)
          go_wp2_with fail
          go_ret
          exact ⟨by rw [HR2.out]; rfl, below_drewN HK.out nq⟩
        | true =>
          rw [he] at hcmp
          simp only [Bool.not_true] at hcmp
          have hr : sameV (a.drop (i + 1)) (b.drop (i + 1)) = R := by rw [← HRR.out, HD.out, he]; rfl
          have HR2 := Lib.hid hr
          clear he hr
          go_wp2_with fail
          go_quiet (fail)
          have HK2 := Lib.hid (below_drewN HK.out nq)
          generalize wr.drewN nq = wq at *
          clear p0 p1 p2 p3 q0 q1 q2 q3 hcmp
          go_wp2_with fail
          go_roundw
          case rel => exact ⟨i + 1, by go_num, by omega, HK2, HR2⟩
          case measure => simp [intOf]; omega
      · have hr : R = true := by
          have := HL.out
          rw [← HRR.out, List.drop_eq_nil_of_le (by omega), List.drop_eq_nil_of_le (by omega)]
          rfl
        have HR2 := Lib.hid hr
        clear hr
        go_wp2_with fail
        go_ret
        exact ⟨by rw [HR2.out]; rfl, HK.out⟩

/-- How many bytes a row's names and texts have. -/
def weigh : List V → Nat
  | [] => 0
  | x :: t => x.key.length + x.text.length + weigh t
def fewV (l : List V) : Bool := decide (l.length ≤ 80) && decide (weigh l ≤ 3000)
theorem weigh_take {l : List V} {i : Nat} (hi : i < l.length) : weigh (l.take (i + 1)) = weigh (l.take i) + l[i].key.length + l[i].text.length := by
  induction l generalizing i with
  | nil => simp at hi
  | cons x t ih =>
    cases i with
    | zero => simp [weigh]
    | succ i =>
      have := ih (i := i) (by simpa using hi)
      simp only [List.take_succ_cons, weigh, List.getElem_cons_succ]
      omega
/-- Names and texts are no longer than this. -/
def Short (l : List V) : Prop := ∀ x ∈ l, x.key.length ≤ 140737488351232 ∧ x.text.length ≤ 140737488351232
theorem weigh_short {l : List V} (h : Short l) : weigh l ≤ l.length * 281474976702464 := by
  induction l with
  | nil => simp [weigh]
  | cons x t ih =>
    have h1 := h x (by simp)
    have h2 := ih (fun y hy => h y (by simp [hy]))
    simp only [weigh, List.length_cons]
    omega
end Go.Proofs.YtndkbecdjaedaaaGreatDoor
/- The law's Few: is a row short? -/
namespace Go.Proofs.YtndkbecdjaedaaaGreatDoor
open Go.RowKit

set_option maxHeartbeats 4000000 in
set_option maxRecDepth 1000000 in
theorem few_calls (va : Value) (a : List V) (w : World) (ha : Vs w va a) (hsh : Short a) (hl : a.length ≤ 4611686018427387904) :
    Calls Tryz.prog 31 #[va] w fun e w' => e = .returned (.bool (fewV a)) ∧ Below w.heap.size w w' := by
  obtain ⟨aa, ca, hva⟩ := ha.len
  have HA := Lib.hid ha
  have HSH := Lib.hid hsh
  obtain ⟨R, hR⟩ : ∃ R, fewV a = R := ⟨_, rfl⟩
  rw [hR]
  have HR := Lib.hid hR
  subst hva
  clear ha hR hsh
  go_enter Tryz.func31, Tryz.ntmps31
  go_wp2_with fail
  go_loopw [3, 4] (fun vn vi wr => ∃ (i : Nat) (z : Int), vi = .int .i64 (i : Int) ∧ vn = .int .i64 z ∧ i ≤ a.length ∧ (a.length ≤ 80 → z = weigh (a.take i)) ∧ Hid (Below w.heap.size w wr)) (fun _ vi _ => a.length - (intOf vi).toNat)
  case atStart => exact ⟨0, 0, rfl, rfl, by omega, fun _ => rfl, Lib.hid (Below.refl _ _)⟩
  case round =>
    obtain ⟨i, z, rfl, rfl, hi, hz, HK⟩ := hrel
    by_cases hil : i < a.length
    · rcases HA.out.kept HK.out with ⟨rfl, _⟩ | ⟨ba, offa, capa, hva, _, hca⟩
      · simp at hil
      simp only [Value.slice.injEq] at hva
      obtain ⟨rfl, _, rfl⟩ := hva
      obtain ⟨p0, p1, p2, p3⟩ := load4 (hca i hil)
      have hw := weigh_take hil
      have hs := HSH.out a[i] (List.getElem_mem hil)
      have hwt : a.length ≤ 80 → (weigh (a.take i) : Int) ≤ 22517998136852480 := fun h => by
        have h1 := weigh_short (l := a.take i) (fun y hy => HSH.out y (List.mem_of_mem_take hy))
        have h2 : (a.take i).length ≤ 79 := by rw [List.length_take]; omega
        have h3 : (a.take i).length * 281474976702464 ≤ 79 * 281474976702464 := Nat.mul_le_mul_right _ h2
        omega
      obtain ⟨x, hx⟩ : ∃ x, a[i] = x := ⟨_, rfl⟩
      rw [hx] at p0 p1 p2 p3 hw hs
      have hk : (⟨x.key.toArray⟩ : ByteArray).size = x.key.length := by simp [ByteArray.size]
      have ht : (⟨x.text.toArray⟩ : ByteArray).size = x.text.length := by simp [ByteArray.size]
      have hix0 : (0 : Int) ≤ (i : Int) := by omega
      have hix1 : (i : Int) < (a.length : Int) := by omega
      have HW := Lib.hid hw
      have HWT := Lib.hid hwt
      have HZ := Lib.hid hz
      have HS := Lib.hid hs
      clear hca hx hw hwt hz hs
      go_wp2_with fail
      go_quiet (fail)
      have HK2 := Lib.hid (below_drewN HK.out nq)
      generalize wr.drewN nq = wq at *
      clear p0 p1 p2 p3
      have hnew : a.length ≤ 80 → wrap64 (wrap64 (z + (x.key.length : Int)) + (x.text.length : Int)) = ((weigh (a.take (i + 1)) : Nat) : Int) := fun h => by
        have h1 := HZ.out h
        have h2 := HWT.out h
        have h3 := HS.out
        rw [IntWalk.wrap64_in (z + (x.key.length : Int)) ⟨by omega, by omega⟩, IntWalk.wrap64_in _ ⟨by omega, by omega⟩, HW.out, h1]
        omega
      have HNEW := Lib.hid hnew
      clear hnew
      go_wp2_with fail
      go_roundw
      case rel => exact ⟨i + 1, _, by go_num, rfl, by omega, HNEW.out, HK2⟩
      case measure => simp [intOf]; omega
    · have hie : i = a.length := by omega
      subst hie
      rw [List.take_length] at hz
      by_cases h80 : a.length ≤ 80
      · have hzz := hz h80
        have h80' : (a.length : Int) ≤ 80 := by omega
        by_cases h3 : weigh a ≤ 3000
        · have hr : R = true := by rw [← HR.out]; unfold fewV; rw [decide_eq_true h80, decide_eq_true h3]; rfl
          have h3' : z ≤ 3000 := by omega
          have HR2 := Lib.hid hr
          clear hr hz hzz h3 h80
          go_wp2_with fail
          go_ret
          exact ⟨by rw [HR2.out]; rfl, HK.out⟩
        · have hr : R = false := by rw [← HR.out]; unfold fewV; rw [decide_eq_true h80, decide_eq_false h3]; rfl
          have h3' : ¬ z ≤ 3000 := by omega
          have HR2 := Lib.hid hr
          clear hr hz hzz h3 h80
          go_wp2_with fail
          go_ret
          exact ⟨by rw [HR2.out]; rfl, HK.out⟩
      · have hr : R = false := by rw [← HR.out]; unfold fewV; rw [decide_eq_false h80]; rfl
        have h80' : ¬ (a.length : Int) ≤ 80 := by omega
        have HR2 := Lib.hid hr
        clear hr hz h80
        go_wp2_with fail
        go_ret
        exact ⟨by rw [HR2.out]; rfl, HK.out⟩
end Go.Proofs.YtndkbecdjaedaaaGreatDoor
