/- The reference's reader: kids, of a list and of an object. (Printed by genq5.py.) -/
import Derived.Test.YtndkbecdjaedaaaGreatDoorJsQ4
import Derived.Test.YtndkbecdjaedaaaGreatDoorJsVal0
namespace Go.Proofs.YtndkbecdjaedaaaGreatDoor
open Go.RowKit

/-- What 'value' leaves. -/
def QV (b : Nat) (T : List UInt8) (vs : List V) (v : Value) (R : Except Int (List V × List UInt8)) (x : Ending) (w w' : World) : Prop :=
  (match R with
  | .error c => x = .returned (.bool false) ∧ ∃ k' vs' v', Rq b T k' vs' v' c w'
  | .ok (xs, r) => x = .returned (.bool true) ∧ ∃ k' v', k' ≤ T.length ∧ T.drop k' = r ∧ Rq b T k' (vs ++ xs) v' 0 w' ∧ Loc v v' w) ∧ Kp (b :: v.ownBlock.toList) w w'
def QOK (f : Nat) : Prop := ∀ (b : Nat) (T : List UInt8) (k : Nat) (vs : List V) (v : Value) (key : List UInt8) (deep : Nat) (w : World), Rq b T k vs v 0 w → k ≤ T.length → T.length ≤ 1099511627775 → deep ≤ 50 → vs.length ≤ 5000 → 2 * (T.length - k) + 1 ≤ f →
  Calls Tryz.prog 62 #[.pointer (some ⟨b, 0, none⟩), .string ⟨key.toArray⟩, .int .i64 (deep : Int)] w fun x w' => QV b T vs v (pval f (T.drop k) vs.length key deep) x w w'
/-- What 'kids' leaves. -/
def QK (b : Nat) (T : List UInt8) (vs0 : List V) (kd : Int) (key : List UInt8) (v : Value) (R : Except Int (List V × Nat × List UInt8)) (x : Ending) (w w' : World) : Prop :=
  (match R with
  | .error c => x = .returned (.bool false) ∧ ∃ k' vs' v', Rq b T k' vs' v' c w'
  | .ok (ws, n, r) => x = .returned (.bool true) ∧ ∃ k' v', k' ≤ T.length ∧ T.drop k' = r ∧ Rq b T k' (vs0 ++ (⟨kd, key, [], (n : Nat)⟩ :: ws)) v' 0 w' ∧ Loc v v' w) ∧ Kp (b :: v.ownBlock.toList) w w'

theorem comp_of_right {xs : List V} {deep : Nat} {m : Bool} (hne : ∃ v t, xs = v :: t) (h : ∀ (f : Nat) (rest : List V), 2 * xs.length ≤ f → rrow f (xs ++ rest) deep m = some rest) : Comp xs where
  ne := hne
  ends := fun N X want at' hN hw => by
    rw [(all_end _).1 _ _ _ _ N at' want (h (2 * xs.length) X (by omega)) hN hw]
    rw [List.length_append]
    congr 1
    omega
theorem comp_of_pval {f n deep : Nat} {l key r : List UInt8} {xs : List V} (h : pval f l n key deep = .ok (xs, r)) (hk : valids key = true) : Comp xs ∧ headKey xs = key ∧ n + xs.length ≤ 5000 := by
  obtain ⟨h1, ⟨v, t, hv, hkey⟩, h3⟩ := (all_R f).1 _ _ _ _ _ _ h hk
  exact ⟨comp_of_right ⟨v, t, hv⟩ (fun g rest hg => h3 g rest true hg (.inl rfl)), by rw [hv]; exact hkey, h1⟩

theorem vcells_count (vs0 xs : List V) (x : V) (z : Int) : (vcells (vs0 ++ (x :: xs))).set (vs0.length * 4 + 3) (.int .i64 z) = vcells (vs0 ++ (⟨x.kind, x.key, x.text, z⟩ :: xs)) := by
  rw [vcells_append, vcells_append, List.set_append_right _ _ (by rw [vcells_len]; omega), vcells_len, show vs0.length * 4 + 3 - 4 * vs0.length = 3 by omega]
  rfl
theorem Rq.setCount {b k g n c : Nat} {T : List UInt8} {vs0 xs : List V} {x : V} {e z : Int} {w : World} (h : Rq b T k (vs0 ++ (x :: xs)) (.slice (some ⟨g, 0, none⟩) n c) e w) :
    Rq b T k (vs0 ++ (⟨x.kind, x.key, x.text, z⟩ :: xs)) (.slice (some ⟨g, 0, none⟩) n c) e (w.setCell ⟨g, vs0.length * 4 + 3, none⟩ (.int .i64 z)) := by
  have hn : n = (vs0 ++ (x :: xs)).length := by
    obtain ⟨a, c', hv⟩ := h.len
    simp only [Value.slice.injEq] at hv; exact hv.2.1
  subst hn
  have hg := (h.ne g rfl).1
  have o1 := (h.own.stored (vs0.length * 4 + 3) (.int .i64 z)).1
  rw [vcells_count] at o1
  refine ⟨by rw [heap_setCell_other w ⟨g, vs0.length * 4 + 3, none⟩ b _ (by simp; omega)]; exact h.blk, ?_⟩
  have hl : (vs0 ++ (⟨x.kind, x.key, x.text, z⟩ :: xs) : List V).length = (vs0 ++ (x :: xs)).length := by simp
  rw [hl]
  exact o1
theorem Loc.kp {b : Nat} {v v' : Value} {w w' w2 : World} (hl : Loc v v' w) (h : Kp (b :: v.ownBlock.toList) w w') (h2 : Kp (b :: v'.ownBlock.toList) w' w2) : Kp (b :: v.ownBlock.toList) w w2 :=
  h.trans h2 (fun q hq => by
    rcases List.mem_cons.1 hq with rfl | hq
    · exact .inl (by simp)
    · have hq : v'.ownBlock = some q := by simpa using hq
      rcases hl q hq with h1 | h1
      · exact .inl (by simp [h1])
      · exact .inr h1)
theorem kp_b {b : Nat} {S : List Nat} {w w' w2 : World} (h : Kp (b :: S) w w') (h2 : Kp [b] w' w2) : Kp (b :: S) w w2 := h.trans h2 (fun q hq => .inl (by
  rcases List.mem_singleton.1 hq with rfl
  simp))

/-- A list: what has been read, and what is to come. -/
def Rellist (b : Nat) (T : List UInt8) (vs0 : List V) (key : List UInt8) (v : Value) (f deep : Nat) (R0 : Except Int (List V × Nat × List UInt8)) (w wr : World) : Prop :=
  ∃ (rows : List (List V)) (k g : Nat) (v' : Value), Rq b T k (vs0 ++ (⟨5, key, [], (rows.length : Nat)⟩ :: rows.flatten)) v' 0 wr ∧ (∀ r ∈ rows, Comp r) ∧ k ≤ T.length ∧ 2 * (T.length - k) + 2 ≤ g ∧ g ≤ f ∧ (vs0 ++ (⟨5, key, [], (rows.length : Nat)⟩ :: rows.flatten)).length ≤ 5000 ∧
    R0 = glue rows.flatten rows.length (pitems g (T.drop k) (vs0 ++ (⟨5, key, [], (rows.length : Nat)⟩ :: rows.flatten)).length (deep + 1)) ∧ Loc v v' w ∧ Kp (b :: v.ownBlock.toList) w wr

set_option maxHeartbeats 16000000 in
set_option maxRecDepth 1000000 in
theorem qlist_calls (f : Nat) (hV : ∀ g, g < f → QOK g) (b : Nat) (T : List UInt8) (k : Nat) (vs0 : List V) (key : List UInt8) (v : Value) (deep : Nat) (w : World) (h : Rq b T k (vs0 ++ [⟨5, key, [], 0⟩]) v 0 w) (hk : k ≤ T.length) (hT : T.length ≤ 1099511627775) (hd : deep < 50) (hn : vs0.length < 5000) (hf : 2 * (T.length - k) + 2 ≤ f) :
    Calls Tryz.prog 117 #[.pointer (some ⟨b, 0, none⟩), .int .i64 (vs0.length : Int), .int .i64 (deep : Int), .string ⟨#[93]⟩] w fun x w' => QK b T vs0 5 key v (allV (sgn (T.drop k) 93) (pitems f (T.drop k) (vs0.length + 1) (deep + 1))) x w w' := by
  obtain ⟨R, hR⟩ : ∃ R, allV (sgn (T.drop k) 93) (pitems f (T.drop k) (vs0.length + 1) (deep + 1)) = R := ⟨_, rfl⟩
  rw [hR]
  have hsg := qsign_sgn T k 93 hk
  obtain ⟨_, hsk1, hsk2⟩ := skipAt_drop T k hk
  have H := Lib.hid h
  have hwd : IntKind.i64.wrap ((deep : Int) + 1) = (deep : Int) + 1 := by simp [IntKind.wrap, IntKind.bits, IntKind.signed]; omega
  clear h
  cases hs : sgn (T.drop k) 93 with
  | some r =>
    rw [hs] at hsg hR
    obtain ⟨hq, hdr, hle⟩ := hsg
    have HQ := Lib.hid hq
    have HDR := Lib.hid hdr
    have HR : Hid (R = .ok ([], 0, r)) := Lib.hid hR.symm
    clear hq hdr hR hs
    go_enter Tryz.func117, Tryz.ntmps117
    go_wp2_with fail
    refine (qsign_calls b T k _ v 0 [93] _ H.out hk (by omega) (by decide)).mono ?_
    rintro e1 w1 ⟨rfl, h1, k1⟩
    rw [HQ.out] at h1 ⊢
    have H1 := Lib.hid h1
    have K1 := Lib.hid k1
    clear h1 k1
    go_wp2_with fail
    go_ret
    rw [HR.out]
    exact ⟨⟨rfl, _, _, hle, HDR.out, H1.out, Loc.refl _ _⟩, K1.out.mono (fun q hq => .inl (by rcases List.mem_singleton.1 hq with rfl; simp))⟩
  | none =>
    rw [hs] at hsg hR
    have HQ : Hid (qsign T k [93] = (false, skipAt T k)) := Lib.hid hsg
    have hR2 : R = pitems f (T.drop k) (vs0.length + 1) (deep + 1) := hR.symm
    have hR3 : R = pitems f (T.drop (skipAt T k)) (vs0.length + 1) (deep + 1) := by rw [hR2, (skipAt_drop T k hk).1, pitems_skip]
    have HR := Lib.hid hR3
    clear hsg hR hs hR2 hR3
    go_enter Tryz.func117, Tryz.ntmps117
    go_wp2_with fail
    refine (qsign_calls b T k _ v 0 [93] _ H.out hk (by omega) (by decide)).mono ?_
    rintro e1 w1 ⟨rfl, h1, k1⟩
    rw [HQ.out] at h1 ⊢
    have M0 : Hid (Rellist b T vs0 key v f deep R w w1) := Lib.hid (by
      refine ⟨[], skipAt T k, f, v, h1, ?_, hsk2, by omega, Nat.le_refl _, ?_, ?_, Loc.refl _ _, k1.mono (fun q hq => .inl (by rcases List.mem_singleton.1 hq with rfl; simp))⟩
      · intro r hr; cases hr
      · simp; omega
      · rw [HR.out]; simp [glue_nil])
    clear h1 k1
    go_wp2_with fail
    go_loopw [] (fun wr => Rellist b T vs0 key v f deep R w wr) (fun wr => T.length - atOf b wr)
    case atStart => exact M0.out
    case round =>
      obtain ⟨rows, K, g, v1, hRq, hcomp, hKl, hg, hgf, h5, hR0, hloc, hkp⟩ := hrel
      obtain ⟨gb, c1, rfl, _, _⟩ := hRq.own.form (by simp; omega)
      have hat := hRq.at
      have hpl : vs0.length < (vs0 ++ (⟨5, key, [], (rows.length : Nat)⟩ :: rows.flatten)).length := by simp
      have hhd : (vs0 ++ ((⟨5, key, [], (rows.length : Nat)⟩ : V) :: rows.flatten))[vs0.length]'hpl = ⟨5, key, [], (rows.length : Nat)⟩ := by
        rw [List.getElem_append_right (Nat.le_refl _)]; simp
      obtain ⟨kk, _, kc⟩ := hRq.keyAt hpl
      rw [hhd] at kk kc
      have c2 := hRq.c2
      obtain ⟨NV, hNV⟩ : ∃ NV, (vs0 ++ ((⟨5, key, [], (rows.length : Nat)⟩ : V) :: rows.flatten)).length = NV := ⟨_, rfl⟩
      have hx0 : (0 : Int) ≤ (vs0.length : Int) := by omega
      have hx1 : (vs0.length : Int) < (NV : Int) := by omega
      obtain ⟨g', rfl⟩ : ∃ g', g = g' + 1 := ⟨g - 1, by omega⟩
      have HRq := Lib.hid hRq
      have HKP := Lib.hid hkp
      have HLOC := Lib.hid hloc
      have HCOMP := Lib.hid hcomp
      have HNV := Lib.hid hNV
      have HAT := Lib.hid hat
      rw [pitems_eq, hNV] at hR0
      rw [hNV] at c2 h5
      have HR0 := Lib.hid hR0
      clear hRq hkp hloc hcomp hR0 hhd hat hNV
      go_wp2_with fail
      have KM := HKP
      have HRm := HRq
      rw [show ((deep : Int) + 1) = ((deep + 1 : Nat) : Int) by omega]
      refine (hV g' (by omega) b T K _ _ [] (deep + 1) _ HRm.out hKl hT (by omega) (by rw [HNV.out]; exact h5) (by omega)).mono ?_
      rintro e3 w3 ⟨hQ, k3⟩
      rw [HNV.out] at hQ
      obtain ⟨PV, hPV⟩ : ∃ PV, pval g' (T.drop K) NV [] (deep + 1) = PV := ⟨_, rfl⟩
      rw [hPV] at hQ
      have HPV := Lib.hid hPV
      have K3 := Lib.hid (HLOC.out.kp KM.out k3)
      clear k3 hPV
      cases PV with
      | error cE =>
        obtain ⟨rfl, kE, vsE, vE, hE⟩ := hQ
        have hRe : Hid (R = .error cE) := Lib.hid (by rw [HR0.out, HPV.out]; rfl)
        have HE := Lib.hid hE
        clear hE
        go_wp2_with fail
        go_ret
        rw [hRe.out]
        exact ⟨⟨rfl, _, _, _, HE.out⟩, K3.out⟩
      | ok p =>
        obtain ⟨xs, rr⟩ := p
        obtain ⟨rfl, k4, v4, hk4, hd4, h4, hl4⟩ := hQ
        obtain ⟨hcx, hkx, h5x⟩ := comp_of_pval HPV.out (by decide)
        have hlt4 : T.length - k4 < T.length - K := by
          have := (pval_len _ _ _ _ _ _ _ HPV.out).1
          rw [← hd4, List.length_drop, List.length_drop] at this
          omega
        have hrow : (vs0 ++ ((⟨5, key, [], (rows.length : Nat)⟩ : V) :: rows.flatten)) ++ xs = vs0 ++ (⟨5, key, [], (rows.length : Nat)⟩ :: (rows.flatten ++ xs)) := by simp
        rw [hrow] at h4
        obtain ⟨g4, c4, rfl, _, _⟩ := h4.own.form (by simp; omega)
        have hpl4 : vs0.length < (vs0 ++ (⟨5, key, [], (rows.length : Nat)⟩ :: (rows.flatten ++ xs))).length := by simp
        have hhd4 : (vs0 ++ ((⟨5, key, [], (rows.length : Nat)⟩ : V) :: (rows.flatten ++ xs)))[vs0.length]'hpl4 = ⟨5, key, [], (rows.length : Nat)⟩ := by
          rw [List.getElem_append_right (Nat.le_refl _)]; simp
        obtain ⟨_, _, d3⟩ := h4.keyAt hpl4
        rw [hhd4] at d3
        have d2 := h4.c2
        have f3 := h4.own.frozenAt (vs0.length * 4 + 3)
        obtain ⟨N4, hN4⟩ : ∃ N4, (vs0 ++ ((⟨5, key, [], (rows.length : Nat)⟩ : V) :: (rows.flatten ++ xs))).length = N4 := ⟨_, rfl⟩
        rw [hN4] at d2
        have hN4v : N4 = NV + xs.length := by rw [← hN4, ← HNV.out]; simp; omega
        have hy1 : (vs0.length : Int) < (N4 : Int) := by omega
        have H5 := Lib.hid (h4.setCount (z := ((rows.length + 1 : Nat) : Int)))
        have hz : ((rows.length + 1 : Nat) : Int) = (rows.length : Int) + 1 := by omega
        have hrl : rows.length ≤ 5000 := by
          have h1 : ∀ l : List (List V), (∀ r ∈ l, Comp r) → l.length ≤ l.flatten.length := by
            intro l
            induction l with
            | nil => intro _; simp
            | cons r t ih =>
              intro hc
              obtain ⟨v0, t0, hv0⟩ := (hc r (by simp)).ne
              have := ih (fun r hr => hc r (by simp [hr]))
              rw [List.flatten_cons, List.length_append, List.length_cons, hv0, List.length_cons]
              omega
          have h2 := h1 rows HCOMP.out
          have h3 := HNV.out
          rw [List.length_append, List.length_cons] at h3
          omega
        have hL4 := HLOC.out.trans hl4 HKP.out.size
        have hL4' : Loc v (.slice (some ⟨g4, 0, none⟩) N4 c4) w := by
          intro q hq
          refine hL4 q ?_
          simpa [Value.ownBlock] using hq
        have K5 : Hid (Kp (b :: v.ownBlock.toList) w (w3.setCell ⟨g4, vs0.length * 4 + 3, none⟩ (.int .i64 ((rows.length + 1 : Nat) : Int)))) := Lib.hid (K3.out.setCell (p := ⟨g4, _, none⟩) (by
          rcases hL4 g4 rfl with h1 | h1
          · exact .inl (by simp [h1])
          · exact .inr h1) _)
        have H5' : Hid (Rq b T k4 (vs0 ++ (⟨5, key, [], ((rows.length + 1 : Nat) : Int)⟩ :: (rows.flatten ++ xs))) (.slice (some ⟨g4, 0, none⟩) N4 c4) 0 (w3.setCell ⟨g4, vs0.length * 4 + 3, none⟩ (.int .i64 ((rows.length + 1 : Nat) : Int)))) := Lib.hid (by
          have := H5.out
          rw [hN4] at this
          exact this)
        rw [hz] at H5' K5
        have hsgE := qsign_sgn T k4 93 hk4
        have hR5 : R = glue rows.flatten rows.length (nextV 93 xs rr (fun r' => pitems g' r' (NV + xs.length) (deep + 1))) := by rw [HR0.out, HPV.out]
        have HR5 := Lib.hid hR5
        have HD4 := Lib.hid hd4
        have HCX := Lib.hid hcx
        have HL4 := Lib.hid hL4'
        have HK := Lib.hid hkx
        have hskE := skipAt_drop T k4 hk4
        have hse := hskE.2
        clear h4 hl4 hL4 hL4' hhd4 hrow hcx hkx hR5 hd4 H5 hskE hN4
        go_wp2_with fail
        refine (qsign_calls b T k4 _ _ 0 [93] _ H5'.out hk4 (by omega) (by decide)).mono ?_
        rintro e6 w6 ⟨rfl, h6, k6⟩
        have K6 := Lib.hid (kp_b K5.out k6)
        clear k6 d2 d3 f3
        cases hsE : sgn (T.drop k4) 93 with
        | some r2 =>
          rw [hsE] at hsgE
          obtain ⟨hqE, hdrE, hleE⟩ := hsgE
          rw [hqE] at h6 ⊢
          have hRe : Hid (R = .ok (rows.flatten ++ xs, rows.length + 1, r2)) := Lib.hid (by
            rw [HR5.out]
            unfold nextV
            rw [← HD4.out, hsE]
            rfl)
          have H6 := Lib.hid h6
          have HDE := Lib.hid hdrE
          clear h6 hdrE hqE hsE
          go_wp2_with fail
          go_ret
          rw [hRe.out]
          refine ⟨⟨rfl, _, _, hleE, HDE.out, ?_, HL4.out⟩, K6.out⟩
          have := H6.out
          rw [← hz] at this
          exact this
        | none =>
          rw [hsE] at hsgE
          have hqE : qsign T k4 [93] = (false, skipAt T k4) := hsgE
          rw [hqE] at h6 ⊢
          have H6 := Lib.hid h6
          have HSE := Lib.hid hsE
          have hsgC := qsign_sgn T (skipAt T k4) 44 hse.2
          have hsC1 : sgn (T.drop (skipAt T k4)) 44 = sgn (T.drop k4) 44 := by
            rw [(skipAt_drop T k4 hk4).1]
            exact sgn_skip _ _
          rw [hsC1] at hsgC
          have hskC := (skipAt_drop T (skipAt T k4) hse.2).2
          clear h6 hqE hsgE hsE hsC1
          go_wp2_with fail
          refine (qsign_calls b T (skipAt T k4) _ _ 0 [44] _ H6.out hse.2 (by omega) (by decide)).mono ?_
          rintro e7 w7 ⟨rfl, h7, k7⟩
          have K7 := Lib.hid (kp_b K6.out k7)
          clear k7
          cases hsC : sgn (T.drop k4) 44 with
          | none =>
            rw [hsC] at hsgC
            have hqC : qsign T (skipAt T k4) [44] = (false, skipAt T (skipAt T k4)) := hsgC
            rw [hqC] at h7 ⊢
            have hRe : Hid (R = .error 3) := Lib.hid (by
              rw [HR5.out]
              unfold nextV
              rw [← HD4.out, HSE.out, hsC]
              rfl)
            have H7 := Lib.hid h7
            clear h7 hqC hsgC hsC
            go_wp2_with fail
            refine (qfail_calls b T _ _ _ 0 3 _ H7.out).mono ?_
            rintro e8 w8 ⟨rfl, h8, k8⟩
            have H8 := Lib.hid h8
            have K8 := Lib.hid (kp_b K7.out k8)
            clear h8 k8
            go_wp2_with fail
            go_ret
            rw [hRe.out]
            exact ⟨⟨rfl, _, _, _, H8.out⟩, K8.out⟩
          | some r2 =>
            rw [hsC] at hsgC
            obtain ⟨hqC, hdrC, hleC⟩ := hsgC
            rw [hqC] at h7 ⊢
            have HREL : Hid (Rellist b T vs0 key v f deep R w w7) := Lib.hid (by
              have h7' := h7
              rw [← hz] at h7'
              have hfl : (rows ++ [xs]).flatten = rows.flatten ++ xs := by simp
              have hrl2 : (rows ++ [xs]).length = rows.length + 1 := by simp
              have hlen2 : (vs0 ++ ((⟨5, key, [], (((rows ++ [xs]).length : Nat) : Int)⟩ : V) :: (rows ++ [xs]).flatten)).length = NV + xs.length := by rw [← HNV.out]; simp; omega
              refine ⟨rows ++ [xs], skipAt T (skipAt T k4) + 1, g', _, by rw [hfl, hrl2]; exact h7', ?_, hleC, by omega, by omega, by rw [hlen2]; omega, ?_, HL4.out, K7.out⟩
              · intro r hr
                rcases List.mem_append.1 hr with hr | hr
                · exact HCOMP.out r hr
                · rcases List.mem_singleton.1 hr with rfl; exact HCX.out
              · rw [HR5.out]
                unfold nextV
                rw [← HD4.out, HSE.out, hsC]
                simp only []
                rw [glue_glue, hlen2, hfl, hrl2, hdrC])
            have hat7 := h7.at
            have HA7 := Lib.hid hat7
            clear h7 hqC hdrC hsC hat7
            go_wp2_with fail
            go_roundw
            case rel => exact HREL.out
            case measure => rw [HAT.out, HA7.out]; omega
end Go.Proofs.YtndkbecdjaedaaaGreatDoor
