/- The reference's reader: member. -/
import Derived.Test.YtndkbecdjaedaaaGreatDoorJsQ3
import Derived.Test.YtndkbecdjaedaaaGreatDoorJsRright
import Derived.Test.YtndkbecdjaedaaaGreatDoorJsEnd2
import Derived.Test.YtndkbecdjaedaaaGreatDoorJsPlain2
namespace Go.Proofs.YtndkbecdjaedaaaGreatDoor
open Go.RowKit

theorem Rq.keyAt {b k g n c : Nat} {T : List UInt8} {vs : List V} {e : Int} {w : World} (h : Rq b T k vs (.slice (some ⟨g, 0, none⟩) n c) e w) {p : Nat} (hp : p < vs.length) :
    w.cell? ⟨g, p * 4, none⟩ = some (.int .i64 vs[p].kind) ∧ w.cell? ⟨g, p * 4 + 1, none⟩ = some (.string ⟨vs[p].key.toArray⟩) ∧ w.cell? ⟨g, p * 4 + 3, none⟩ = some (.int .i64 vs[p].count) := by
  have hn : n = vs.length := by
    obtain ⟨a, c', hv⟩ := h.len
    simp only [Value.slice.injEq] at hv; exact hv.2.1
  subst hn
  have hc : ∀ j, j < 4 → w.cell? ⟨g, p * 4 + j, none⟩ = (vcell vs[p])[j]? := fun j hj => by
    rw [h.own.cellAt _ (by omega), Nat.mul_comm p 4]
    exact vcells_at vs p j hp hj
  exact ⟨(vcell_at (hc 0 (by omega))).1 rfl, (vcell_at (hc 1 (by omega))).2.1 rfl, (vcell_at (hc 3 (by omega))).2.2.2 rfl⟩

/-- What an object, or a list, at a place has so far. -/
structure KidsAt (vs : List V) (at' : Nat) (rows : List (List V)) : Prop where
  pre : at' < vs.length
  split : vs.drop (at' + 1) = rows.flatten
  comp : ∀ r ∈ rows, Comp r
def kpos (at' : Nat) (rows : List (List V)) (i : Nat) : Nat := at' + 1 + (rows.take i).flatten.length
theorem KidsAt.step {vs : List V} {at' : Nat} {rows : List (List V)} (h : KidsAt vs at' rows) {i : Nat} (hi : i < rows.length) :
    jend vs (kpos at' rows i : Nat) = (kpos at' rows (i + 1) : Nat) ∧ kpos at' rows i < kpos at' rows (i + 1) ∧ kpos at' rows (i + 1) ≤ vs.length ∧ ∀ hp : kpos at' rows i < vs.length, vs[kpos at' rows i].key = headKey rows[i] := by
  have hfl : rows.flatten = (rows.take i).flatten ++ (rows.drop i).flatten := by rw [← List.flatten_append, List.take_append_drop]
  have hd : vs.drop (kpos at' rows i) = rows[i] ++ (rows.drop (i + 1)).flatten := by
    unfold kpos
    rw [← List.drop_drop, h.split, hfl, List.drop_left, List.drop_eq_getElem_cons hi, List.flatten_cons]
  obtain ⟨j0, l0, g0⟩ := comp_end (h.comp _ (List.getElem_mem hi)) hd
  have hplus : kpos at' rows (i + 1) = kpos at' rows i + rows[i].length := by
    unfold kpos
    rw [List.take_succ_eq_append_getElem hi, List.flatten_append, List.length_append]
    simp
    omega
  rw [hplus]
  refine ⟨j0, by omega, l0, fun hp => ?_⟩
  obtain ⟨v0, t0, hv0⟩ := (h.comp _ (List.getElem_mem hi)).ne
  rw [hv0, List.cons_append] at hd
  rw [head_at hd hp, hv0]
  rfl
theorem KidsAt.last {vs : List V} {at' : Nat} {rows : List (List V)} (h : KidsAt vs at' rows) : kpos at' rows rows.length = vs.length := by
  unfold kpos
  rw [List.take_length, ← h.split, List.length_drop]
  have := h.pre
  omega

theorem qsign_sgn (T : List UInt8) (k : Nat) (c : UInt8) (hk : k ≤ T.length) : match sgn (T.drop k) c with
    | some r => qsign T k [c] = (true, skipAt T k + 1) ∧ T.drop (skipAt T k + 1) = r ∧ skipAt T k + 1 ≤ T.length
    | none => qsign T k [c] = (false, skipAt T k) := by
  obtain ⟨hd, hk1, hk2⟩ := skipAt_drop T k hk
  unfold sgn qsign
  cases hs : skip (T.drop k) with
  | nil => simp
  | cons d r =>
    rw [hs] at hd
    have hlen := congrArg List.length hd
    rw [List.length_drop, List.length_cons] at hlen
    have hdr : T.drop (skipAt T k + 1) = r := by rw [← List.drop_drop, hd]; rfl
    simp only []
    by_cases he : d = c
    · rw [if_pos he]
      simp only []
      rw [if_pos (by simp [he])]
      exact ⟨rfl, hdr, by omega⟩
    · rw [if_neg he]
      simp only []
      rw [if_neg (by simp; exact fun h => he h.symm)]

/-- A member's name, and what stands behind the colon. -/
def qmem (l : List UInt8) (had : List (List UInt8)) : Except Int (List UInt8 × List UInt8) :=
  match unq (skip l) with
  | none => .error 3
  | some (x, m) => if had.contains x = true then .error 7 else match sgn ((skip l).drop m) 58 with
    | none => .error 3
    | some r0 => .ok (x, r0)
def QmR (b : Nat) (T : List UInt8) (vs : List V) (v : Value) (e : Int) (R : Except Int (List UInt8 × List UInt8)) (x : Ending) (w' : World) : Prop := match R with
  | .error c => x = .returned (.tuple #[.string ⟨#[]⟩, .bool false]) ∧ ∃ k', Rq b T k' vs v c w'
  | .ok (y, r) => x = .returned (.tuple #[.string ⟨y.toArray⟩, .bool true]) ∧ ∃ k', k' ≤ T.length ∧ T.drop k' = r ∧ Rq b T k' vs v e w'

def MRel (b : Nat) (T : List UInt8) (K : Nat) (vs : List V) (v : Value) (e : Int) (at' : Nat) (rows : List (List V)) (y : List UInt8) (w : World) (vk : Value) (wr : World) : Prop :=
  ∃ i, vk = .int .i64 (kpos at' rows i : Int) ∧ i ≤ rows.length ∧ (∀ j (hj : j < rows.length), j < i → headKey rows[j] ≠ y) ∧ Rq b T K vs v e wr ∧ Kp [b] w wr

set_option maxHeartbeats 8000000 in
set_option maxRecDepth 1000000 in
theorem qmember_calls (b : Nat) (T : List UInt8) (k : Nat) (vs : List V) (v : Value) (e : Int) (at' : Nat) (rows : List (List V)) (had : List (List UInt8)) (w : World) (h : Rq b T k vs v e w) (hk : k ≤ T.length) (hT : T.length ≤ 1099511627775)
    (hK : KidsAt vs at' rows) (hl : vs.length ≤ 1000000) (hhad : ∀ y, had.contains y = (rows.map headKey).contains y) :
    Calls Tryz.prog 156 #[.pointer (some ⟨b, 0, none⟩), .int .i64 (at' : Int)] w fun x w' => QmR b T vs v e (qmem (T.drop k) had) x w' ∧ Kp [b] w w' := by
  obtain ⟨g, c, rfl, _, _⟩ := h.own.form (by have := hK.pre; omega)
  obtain ⟨hd, hk1, hk2⟩ := skipAt_drop T k hk
  have H := Lib.hid h
  have HKA := Lib.hid hK
  obtain ⟨R, hR⟩ : ∃ R, qmem (T.drop k) had = R := ⟨_, rfl⟩
  rw [hR]
  unfold qmem at hR
  have hpre := hK.pre
  clear h hK
  cases hu : unq (skip (T.drop k)) with
  | none =>
    rw [hu] at hR
    have hV : unqV (skip (T.drop k)) = ([], 0, false) := by unfold unqV; rw [hu]
    have HV := Lib.hid hV
    have HR : Hid (R = .error 3) := Lib.hid hR.symm
    clear hR hV hd hu
    go_enter Tryz.func156, Tryz.ntmps156
    go_wp2_with fail
    refine (qtext_calls b T k vs _ e _ H.out hk (by omega)).mono ?_
    rintro e1 w1 ⟨rfl, h1, k1⟩
    rw [HV.out] at h1 ⊢
    have H1 := Lib.hid h1
    have K1 := Lib.hid k1
    clear h1 k1
    go_wp2_with fail
    refine (qfail_calls b T _ vs _ e 3 _ H1.out).mono ?_
    rintro e2 w2 ⟨rfl, h2, k2⟩
    have H2 := Lib.hid h2
    have K2 := Lib.hid (K1.out.trans k2 (fun q hq => .inl hq))
    clear h2 k2
    go_wp2_with fail
    go_ret2
    rw [HR.out]
    exact ⟨⟨rfl, _, H2.out⟩, K2.out⟩
  | some p =>
    obtain ⟨y, m⟩ := p
    rw [hu] at hR
    simp only [] at hR
    have hm := unq_bound hu
    have hV : unqV (skip (T.drop k)) = (y, m, true) := by unfold unqV; rw [hu]
    have HV := Lib.hid hV
    rw [hhad y] at hR
    rw [← hd, List.length_drop] at hm
    have hK2 : skipAt T k + m ≤ T.length := by omega
    rw [← hd, List.drop_drop] at hR
    have HR := Lib.hid hR
    clear hR hV hd hu
    obtain ⟨K, hKe⟩ : ∃ K, skipAt T k + m = K := ⟨_, rfl⟩
    have HKE := Lib.hid hKe
    rw [hKe] at hK2
    clear hKe hm hk1 hk2
    go_enter Tryz.func156, Tryz.ntmps156
    go_wp2_with fail
    refine (qtext_calls b T k vs _ e _ H.out hk (by omega)).mono ?_
    rintro e1 w1 ⟨rfl, h1, k1⟩
    rw [HV.out] at h1 ⊢
    simp only [] at h1
    rw [show skipAt T k + m = K from HKE.out] at h1
    have M0 : Hid (MRel b T K vs (.slice (some ⟨g, 0, none⟩) vs.length c) e at' rows y w (.int .i64 ((at' : Int) + 1)) w1) := Lib.hid ⟨0, by unfold kpos; simp, Nat.zero_le _, fun j hj h => absurd h (by omega), h1, k1⟩
    clear h1 k1
    go_wp2_with fail
    go_loopw [8] (fun vk wr => MRel b T K vs (.slice (some ⟨g, 0, none⟩) vs.length c) e at' rows y w vk wr) (fun vk _ => vs.length - (intOf vk).toNat)
    case atStart => exact M0.out
    case round =>
      obtain ⟨i, rfl, hi, hno, hRr, hKr⟩ := hrel
      have c2 := hRr.c2
      have HRr := Lib.hid hRr
      have HKr := Lib.hid hKr
      have HNO := Lib.hid hno
      by_cases hil : i < rows.length
      · obtain ⟨hje, hlt, hle, hkey⟩ := HKA.out.step hil
        obtain ⟨p, hp⟩ : ∃ p, kpos at' rows i = p := ⟨_, rfl⟩
        obtain ⟨p', hp'⟩ : ∃ p', kpos at' rows (i + 1) = p' := ⟨_, rfl⟩
        simp only [hp, hp'] at hje hlt hle hkey
        rw [hp]
        have HP' := Lib.hid hp'
        have hpl : p < vs.length := by omega
        obtain ⟨_, kc, _⟩ := hRr.keyAt hpl
        rw [hkey hpl] at kc
        have hx0 : (0 : Int) ≤ (p : Int) := by omega
        have hx1 : (p : Int) < (vs.length : Int) := by omega
        have HJE := Lib.hid hje
        by_cases he : headKey rows[i] = y
        · have hkq := key_eq he
          have hkq2 : (headKey rows[i] == y) = true := by rw [he]; simp
          have hRe : Hid (R = .error 7) := Lib.hid (by
            have := HR.out
            rw [if_pos (by rw [List.contains_iff_mem, ← he]; exact List.mem_map.2 ⟨_, List.getElem_mem hil, rfl⟩)] at this
            exact this.symm)
          generalize headKey rows[i] = ky at kc hkq hkq2
          clear he hje hkey hRr hKr hno hp hp'
          go_wp2_with fail
          refine (qfail_calls b T K vs _ e 7 _ HRr.out).mono ?_
          rintro e2 w2 ⟨rfl, h2, k2⟩
          have H2 := Lib.hid h2
          have K2 := Lib.hid (HKr.out.trans k2 (fun q hq => .inl hq))
          clear h2 k2
          go_wp2_with fail
          go_ret2
          rw [hRe.out]
          exact ⟨⟨rfl, _, H2.out⟩, K2.out⟩
        · have hkq := key_neq he
          have hkq2 : (headKey rows[i] == y) = false := by simpa using he
          have hno2 : ∀ j (hj : j < rows.length), j < i + 1 → headKey rows[j] ≠ y := fun j hj hji => by
            by_cases hjie : j = i
            · subst hjie; exact he
            · exact HNO.out j hj (by omega)
          have HNO2 := Lib.hid hno2
          generalize headKey rows[i] = ky at kc hkq hkq2
          clear he hje hkey hRr hKr hno hp hp' hno2
          go_wp2_with fail
          refine (rend_calls _ vs (p : Int) _ (vs_of_own HRr.out.own) (by omega) (by omega) hl).mono ?_
          rintro e2 w2 ⟨rfl, rfl⟩
          rw [HJE.out]
          go_wp2_with fail
          go_roundw
          case rel => exact ⟨i + 1, by rw [HP'.out], by omega, HNO2.out, HRr.out, HKr.out⟩
          case measure => simp [intOf]; omega
      · have hie : i = rows.length := by omega
        subst hie
        rw [HKA.out.last]
        have hcon : (rows.map headKey).contains y = false := by
          rw [← Bool.not_eq_true, List.contains_iff_mem]
          intro hm
          obtain ⟨r, hr, hre⟩ := List.mem_map.1 hm
          obtain ⟨j, hj, hje⟩ := List.getElem_of_mem hr
          exact HNO.out j hj hj (by rw [hje]; exact hre)
        have hR2 := HR.out
        rw [hcon, if_neg (by decide)] at hR2
        have hsg := qsign_sgn T K 58 hK2
        have hsk := skipAt_drop T K hK2
        rw [show skipAt T k + m = K from HKE.out] at hR2
        have HR2 := Lib.hid hR2
        clear hcon hR2 hRr hKr hno
        cases hs : sgn (T.drop K) 58 with
        | none =>
          rw [hs] at hsg
          have HSG : Hid (qsign T K [58] = (false, skipAt T K)) := Lib.hid hsg
          have hRe : Hid (R = .error 3) := Lib.hid (by have := HR2.out; rw [hs] at this; exact this.symm)
          clear hsg hs hsk
          go_wp2_with fail
          refine (qsign_calls b T K vs _ e [58] _ HRr.out hK2 (by omega) (by decide)).mono ?_
          rintro e2 w2 ⟨rfl, h2, k2⟩
          rw [HSG.out] at h2 ⊢
          have H2 := Lib.hid h2
          have K2 := Lib.hid (HKr.out.trans k2 (fun q hq => .inl hq))
          clear h2 k2
          go_wp2_with fail
          refine (qfail_calls b T _ vs _ e 3 _ H2.out).mono ?_
          rintro e3 w3 ⟨rfl, h3, k3⟩
          have H3 := Lib.hid h3
          have K3 := Lib.hid (K2.out.trans k3 (fun q hq => .inl hq))
          clear h3 k3
          go_wp2_with fail
          go_ret2
          rw [hRe.out]
          exact ⟨⟨rfl, _, H3.out⟩, K3.out⟩
        | some r =>
          rw [hs] at hsg
          obtain ⟨hq, hdr, hle⟩ := hsg
          have HSG := Lib.hid hq
          have HDR := Lib.hid hdr
          have hRe : Hid (R = .ok (y, r)) := Lib.hid (by have := HR2.out; rw [hs] at this; exact this.symm)
          clear hq hs hsk hdr
          go_wp2_with fail
          refine (qsign_calls b T K vs _ e [58] _ HRr.out hK2 (by omega) (by decide)).mono ?_
          rintro e2 w2 ⟨rfl, h2, k2⟩
          rw [HSG.out] at h2 ⊢
          have H2 := Lib.hid h2
          have K2 := Lib.hid (HKr.out.trans k2 (fun q hq => .inl hq))
          clear h2 k2
          go_wp2_with fail
          go_ret2
          rw [hRe.out]
          exact ⟨⟨rfl, _, hle, HDR.out, H2.out⟩, K2.out⟩
end Go.Proofs.YtndkbecdjaedaaaGreatDoor
