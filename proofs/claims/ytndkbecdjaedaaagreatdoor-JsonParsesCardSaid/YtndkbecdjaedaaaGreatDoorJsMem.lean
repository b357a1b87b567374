/- reader.member: a name, a colon, a value. -/
import Derived.Test.YtndkbecdjaedaaaGreatDoorJsVal0
namespace Go.Proofs.YtndkbecdjaedaaaGreatDoor
open Go.RowKit Go.Maps Go.WideMaps

theorem keyLaw : Keyed Tryz.prog 9 := string_keyed Tryz.underlying9
theorem zeroInt (w : World) : (zeroValue 3).run Tryz.prog w = .ok (.int .i64 0) w := by kernel_rfl

theorem own_map {hb n : Nat} {D : DataW Unit} {S : List Nat} {w w' : World} (h : w.ownsMap Tryz.prog 9 (plainElem Tryz.prog 3) hb n D) (hk : Kp S w w') (hn : hb ∉ S) : w'.ownsMap Tryz.prog 9 (plainElem Tryz.prog 3) hb n D := by
  obtain ⟨es, clock, hb', F, hs, hD⟩ := h
  exact ⟨es, clock, by rw [hk.block hb (lt_of_block hb') hn]; exact hb', F, hs, hD⟩
theorem Had.kept {hb : Nat} {had : List (List UInt8)} {S : List Nat} {w w' : World} (h : Had hb had w) (hk : Kp S w w') (hn : hb ∉ S) : Had hb had w' := by
  obtain ⟨D, h1, h2⟩ := h
  exact ⟨D, own_map h1 hk hn, h2⟩
theorem Had.lt {hb : Nat} {had : List (List UInt8)} {w : World} (h : Had hb had w) : hb < w.heap.size := by
  obtain ⟨D, ⟨es, clock, h1, _⟩, _⟩ := h
  exact lt_of_block h1

theorem ownsMap_isMap {w : World} {hb n : Nat} {D : DataW Unit} (h : w.ownsMap Tryz.prog 9 (plainElem Tryz.prog 3) hb n D) : IsMap D := by
  obtain ⟨es, clock, _, _, _, hD⟩ := h
  exact ⟨_, hD⟩
theorem lit_int {a b : Int} {D : DataW Unit} (h : D = .lit (.int .i64 a)) (h' : D = .lit (.int .i64 b)) : b = a := by
  have := h.symm.trans h'
  simpa using this.symm
theorem Had.grown {hb : Nat} {had : List (List UInt8)} {x : List UInt8} {D : DataW Unit} {w : World} (h : w.ownsMap Tryz.prog 9 (plainElem Tryz.prog 3) hb (had.length + 1) (D.put (.string x) (.lit (.int .i64 1)))) (hD : IsMap D)
    (hat : ∀ x : List UInt8, D.atKey (.string x) (.lit (.int .i64 0)) = .lit (.int .i64 (if had.contains x = true then 1 else 0))) : Had hb (x :: had) w := by
  refine ⟨_, h, fun y => ?_⟩
  by_cases e : y = x
  · subst e
    rw [atKey_put_same hD (show WideAt.IsKeyLit (.string y) from trivial), if_pos (by simp)]
  · rw [atKey_put_other (fun h => e (by simpa using h)), hat]
    congr 3
    rw [List.contains_cons]
    simp [e]

theorem PRes.after {b : Nat} {w w1 w' : World} {vs : List V} {v : Value} {S S' : List Nat} {r : Except Int (List V × List UInt8)} (k : Kp (b :: (v.ownBlock.toList ++ S)) w w1) (h : PRes b w1 vs v S' r w') (hS : ∀ k ∈ S', k ∈ S) : PRes b w vs v S r w' := by
  obtain ⟨⟨l', vs', v', e', h1, h2, h3⟩, h4⟩ := h
  refine ⟨⟨l', vs', v', e', h1, fun j hj => (h2 j hj).imp id (fun h => Nat.le_trans k.size h), h3⟩, k.trans h4 (fun j hj => .inl ?_)⟩
  simp at hj ⊢
  rcases hj with h | h | h
  · exact .inl h
  · exact .inr (.inl h)
  · exact .inr (.inr (hS j h))
/-- What ends at once. -/
theorem PRes.here {b : Nat} {w w' : World} {vs : List V} {v : Value} {S : List Nat} {r : Except Int (List V × List UInt8)} {l' : List UInt8} {e' : Int} (h : Rd b l' vs v e' w') (k : Kp (b :: (v.ownBlock.toList ++ S)) w w') (hn : vs.length ≤ 5000) (hl : l'.length ≤ 1099511627776)
    (hr : match r with | .ok (xs, r') => e' = 0 ∧ l' = r' ∧ xs = [] | .error x => e' = x ∧ e' ≠ 0) : PRes b w vs v S r w' :=
  ⟨⟨l', vs, v, e', h, Loc.refl _ _, Nat.le_refl _, hn, hl, by
    cases r with
    | error x => exact hr
    | ok p => obtain ⟨h1, h2, h3⟩ := hr; exact ⟨h1, h2, by rw [h3, List.append_nil]⟩⟩, k⟩

theorem size_list (l : List UInt8) : (⟨l.toArray⟩ : ByteArray).size = l.length := by simp [ByteArray.size]

set_option maxHeartbeats 8000000 in
set_option maxRecDepth 1000000 in
theorem member_calls (f b hb : Nat) (l : List UInt8) (vs : List V) (v : Value) (had : List (List UInt8)) (deep : Nat) (w w0 : World) (hV : VOK f) (h : Rd b l vs v 0 w) (hE : Ev w0 b w) (hd : deep ≤ 50) (hn : vs.length ≤ 5000)
    (hf : 2 * l.length + 1 ≤ f) (hl : l.length ≤ 1099511627776) (hm : Had hb had w) (hbb : b < hb) (hbv : v.ownBlock ≠ some hb) (hhl : had.length ≤ 5000) :
    Calls Tryz.prog 107 #[.pointer (some ⟨b, 0, none⟩), .map (some hb), .int .i64 (deep : Int)] w fun x w' => x = .returned (.tuple #[]) ∧
      PRes b w vs v [hb] (pmem f l vs.length deep had) w' ∧ (∀ r, pmem f l vs.length deep had = .ok r → Had hb (pname l :: had) w') := by
  have hsk := skip_len l
  obtain ⟨⟨x, m, ok⟩, hu⟩ : ∃ u, unqV (skip l) = u := ⟨_, rfl⟩
  have hm0 := unqV_len hu
  have hxl : x.length ≤ maxLen := by
    cases ok with
    | true => have := unqV_short hu; unfold maxLen; omega
    | false =>
      have : x = [] := by
        unfold unqV at hu
        cases hq : unq (skip l) with
        | none => rw [hq] at hu; cases hu; rfl
        | some p => obtain ⟨y, k⟩ := p; rw [hq] at hu; cases hu
      rw [this]; exact Nat.zero_le _
  have hkey : keyOf Tryz.prog 9 (.string ⟨x.toArray⟩) = some (.string x) := by
    have := keyOf_string_mk (s := ⟨x.toArray⟩) Tryz.underlying9 (by rw [size_list]; exact hxl)
    simpa using this
  have HU := Lib.hid hu
  have HH := Lib.hid h
  have HM := Lib.hid hm
  have HE := Lib.hid hE
  have hlt := hm.lt
  have hpm : pmem f l vs.length deep had = if ok = true then (if had.contains x = true then .error 7 else match sgn ((skip l).drop m) 58 with | none => .error 3 | some r0 => pval f r0 vs.length x deep) else .error 3 := by
    unfold pmem
    unfold unqV at hu
    cases hq : unq (skip l) with
    | none => rw [hq] at hu; cases hu; rfl
    | some p => obtain ⟨y, k⟩ := p; rw [hq] at hu; cases hu; rfl
  have hpn : ok = true → pname l = x := fun ho => by
    unfold pname
    unfold unqV at hu
    cases hq : unq (skip l) with
    | none => rw [hq] at hu; cases hu; cases ho
    | some p => obtain ⟨y, k⟩ := p; rw [hq] at hu; cases hu; rfl
  have HPM := Lib.hid hpm
  have HPN := Lib.hid hpn
  clear h hm hE hu hpm hpn
  go_enter Tryz.func107, Tryz.ntmps107
  go_wp2_with fail
  refine (jtext_calls b l vs v 0 _ w0 HH.out HE.out hl).mono ?_
  rintro e1 w1 ⟨rfl, h1, k1⟩
  rw [HU.out] at h1 ⊢
  simp only [] at h1
  have hm1 := HM.out.kept k1 (by simp; omega)
  obtain ⟨D, hown, hat⟩ := hm1
  have hE1 := HE.out.kept k1 (by simp)
  have hDm := ownsMap_isMap hown
  have hn1 : had.length < maxLen := by unfold maxLen; omega
  have HAT := Lib.hid (hat x)
  have HATA := Lib.hid hat
  have HDM := Lib.hid hDm
  have hat2 : ∀ c : Int, (D.put (.string x) (.lit (.int .i64 c))).atKey (.string x) (.lit (.int .i64 0)) = .lit (.int .i64 c) := fun c => atKey_put_same hDm (show WideAt.IsKeyLit (.string x) from trivial) _ _
  have HAT2 := Lib.hid hat2
  have H1 := Lib.hid h1
  have K1 : Hid (Kp (b :: (v.ownBlock.toList ++ [hb])) w w1) := Lib.hid (k1.mono (fun k hk => .inl (by simp at hk; simp [hk])))
  have HE1 := Lib.hid hE1
  clear h1 k1 hE1 hat hat2 hDm
  cases hc : had.contains x with
  | true =>
    have HC := Lib.hid hc
    have HA : Hid (D.atKey (.string x) (.lit (.int .i64 0)) = .lit (.int .i64 1)) := Lib.hid (by rw [HAT.out, hc]; rfl)
    clear hc
    go_wp2_with (first
      | (at_lookup; refine wpList_lookup_own_int _ rfl _ _ 92 rfl 9 3 .i64 keyLaw Tryz.underlying92 Tryz.underlying3 (zeroInt _) hb had.length D rfl hown _ _ rfl hkey ?_; intro c hatc hwc; obtain rfl := lit_int HA.out hatc)
      | (at_mapUpdate; refine wpList_mapUpdate_own _ rfl _ _ _ 92 rfl 9 3 keyLaw Tryz.underlying92 _ hb had.length _ rfl hown hn1 _ _ _ rfl rfl hkey _ [] (plainElem_int Tryz.underlying3 (by decide)) ?_; intro w2 hown2 hgr2)
      | (at_lookup; refine wpList_lookup_own_int _ rfl _ _ 92 rfl 9 3 .i64 keyLaw Tryz.underlying92 Tryz.underlying3 (zeroInt _) hb _ _ rfl hown2 _ _ rfl hkey ?_; intro c2 hatc2 hwc2; obtain rfl := lit_int (HAT2.out _) hatc2)
      | fail)
    have k2 : Kp [hb] _ _ := Kp.of_grown hgr2
    have h2 := H1.out.kept k2 (by simp; omega) (fun k hk => by simp; exact fun e => hbv (by rw [hk, e]))
    have k2' := K1.out.trans k2 (fun k hk => .inl (by simp at hk; simp [hk]))
    have K2 := Lib.hid k2'
    have hE0 : ∃ E, firstE (if ok = true then 0 else firstE 0 3) 7 = E ∧ (E == 0) = false ∧ (if ok = true then E = 7 else E = 3) := by
      cases ok <;> exact ⟨_, rfl, rfl, by simp [firstE]⟩
    obtain ⟨E, hE0, hE1, hE2⟩ := hE0
    have HEE := Lib.hid hE0
    have HE2 := Lib.hid hE2
    clear k2 hgr2 k2' hE0 hE2
    refine (bad_calls b _ _ _ _ 7 _ h2).mono ?_
    rintro e3 w3 ⟨rfl, h3, k3⟩
    rw [HEE.out] at h3
    have c3 := h3.c2
    have H3 := Lib.hid h3
    have K3 := Lib.hid (K2.out.trans k3 (fun k hk => .inl (by simp at hk; simp [hk])))
    clear h2 h3 k3
    go_wp2_with fail
    go_end0
    have hp : pmem f l vs.length deep had = .error E := by
      rw [HPM.out, HC.out]
      cases ok with
      | true => rw [if_pos rfl, if_pos rfl, show E = 7 from HE2.out]
      | false => rw [if_neg (by simp), show E = 3 from HE2.out]
    rw [hp]
    exact ⟨rfl, PRes.here H3.out K3.out hn (by rw [List.length_drop]; omega) ⟨rfl, by simpa using hE1⟩, fun r hr => by cases hr⟩
  | false =>
    have HC := Lib.hid hc
    have HA : Hid (D.atKey (.string x) (.lit (.int .i64 0)) = .lit (.int .i64 0)) := Lib.hid (by rw [HAT.out, hc]; rfl)
    clear hc
    cases ok with
    | false =>
      have c1 := H1.out.c2
      have H1' : Hid (Rd b ((skip l).drop m) vs v 3 w1) := H1
      clear H1
      go_wp2_with (first
        | (at_lookup; refine wpList_lookup_own_int _ rfl _ _ 92 rfl 9 3 .i64 keyLaw Tryz.underlying92 Tryz.underlying3 (zeroInt _) hb had.length D rfl hown _ _ rfl hkey ?_; intro c hatc hwc; obtain rfl := lit_int HA.out hatc)
        | (at_mapUpdate; refine wpList_mapUpdate_own _ rfl _ _ _ 92 rfl 9 3 keyLaw Tryz.underlying92 _ hb had.length _ rfl hown hn1 _ _ _ rfl rfl hkey _ [] (plainElem_int Tryz.underlying3 (by decide)) ?_; intro w2 hown2 hgr2; have c2 : w2.cell? ⟨b, 2, none⟩ = some (.int .i64 3) := (hgr2.cell_far ⟨b, 2, none⟩ H1'.out.lt (by simp; omega)).trans H1'.out.c2)
        | (at_lookup; refine wpList_lookup_own_int _ rfl _ _ 92 rfl 9 3 .i64 keyLaw Tryz.underlying92 Tryz.underlying3 (zeroInt _) hb _ _ rfl hown2 _ _ rfl hkey ?_; intro c2 hatc2 hwc2; obtain rfl := lit_int (HAT2.out _) hatc2)
        | fail)
      have k2 : Kp [hb] _ _ := Kp.of_grown hgr2
      have h2 := H1'.out.kept k2 (by simp; omega) (fun k hk => by simp; exact fun e => hbv (by rw [hk, e]))
      have k2' := K1.out.trans k2 (fun k hk => .inl (by simp at hk; simp [hk]))
      clear hgr2
      go_end0
      have hp : pmem f l vs.length deep had = .error 3 := by rw [HPM.out, if_neg (by simp)]
      rw [hp]
      exact ⟨rfl, PRes.here h2 k2' hn (by rw [List.length_drop]; omega) ⟨rfl, by decide⟩, fun r hr => by cases hr⟩
    | true =>
      have H1' : Hid (Rd b ((skip l).drop m) vs v 0 w1) := H1
      clear H1
      go_wp2_with (first
        | (at_lookup; refine wpList_lookup_own_int _ rfl _ _ 92 rfl 9 3 .i64 keyLaw Tryz.underlying92 Tryz.underlying3 (zeroInt _) hb had.length D rfl hown _ _ rfl hkey ?_; intro c hatc hwc; obtain rfl := lit_int HA.out hatc)
        | (at_mapUpdate; refine wpList_mapUpdate_own _ rfl _ _ _ 92 rfl 9 3 keyLaw Tryz.underlying92 _ hb had.length _ rfl hown hn1 _ _ _ rfl rfl hkey _ [] (plainElem_int Tryz.underlying3 (by decide)) ?_; intro w2 hown2 hgr2; have c2 : w2.cell? ⟨b, 2, none⟩ = some (.int .i64 0) := (hgr2.cell_far ⟨b, 2, none⟩ H1'.out.lt (by simp; omega)).trans H1'.out.c2)
        | (at_lookup; refine wpList_lookup_own_int _ rfl _ _ 92 rfl 9 3 .i64 keyLaw Tryz.underlying92 Tryz.underlying3 (zeroInt _) hb _ _ rfl hown2 _ _ rfl hkey ?_; intro c2 hatc2 hwc2; obtain rfl := lit_int (HAT2.out _) hatc2)
        | fail)
      have k2 : Kp [hb] _ _ := Kp.of_grown hgr2
      have h2 := H1'.out.kept k2 (by simp; omega) (fun k hk => by simp; exact fun e => hbv (by rw [hk, e]))
      have k2' := K1.out.trans k2 (fun k hk => .inl (by simp at hk; simp [hk]))
      have had2 : Had hb (x :: had) w2 := Had.grown hown2 HDM.out HATA.out
      have hE2 := HE1.out.kept k2 (by simp; omega)
      have HH2 := Lib.hid h2
      have K2 := Lib.hid k2'
      have A2 := Lib.hid had2
      have HE2 := Lib.hid hE2
      have hv1 := signV_one ((skip l).drop m) 58
      have HV1 := Lib.hid hv1
      clear k2 k2' had2 hgr2 h2 hE2 hown2 hv1 c2
      refine (sign_calls b _ vs v 0 ⟨#[58]⟩ _ HH2.out).mono ?_
      rintro e3 w3 ⟨rfl, h3, k3⟩
      rw [show (⟨#[58]⟩ : ByteArray).data.toList = [58] from rfl, HV1.out] at h3 ⊢
      have K3 := Lib.hid (K2.out.trans k3 (fun k hk => .inl (by simp at hk; simp [hk])))
      have A3 := Lib.hid (A2.out.kept k3 (by simp; omega))
      have HE3 := Lib.hid (HE2.out.kept k3 (by simp))
      clear k3
      cases hg : sgn ((skip l).drop m) 58 with
      | none =>
        rw [hg] at h3
        simp only [] at h3
        have H3 := Lib.hid h3
        have hp : pmem f l vs.length deep had = .error 3 := by rw [HPM.out, if_pos (by trivial), HC.out, if_neg (by simp), hg]
        have HP := Lib.hid hp
        clear h3 hg hp
        go_wp2_with fail
        refine (bad_calls b _ _ _ _ 3 _ H3.out).mono ?_
        rintro e4 w4 ⟨rfl, h4, k4⟩
        have c4 := h4.c2
        have K4 := Lib.hid (K3.out.trans k4 (fun k hk => .inl (by simp at hk; simp [hk])))
        have H4 := Lib.hid h4
        clear h4 k4
        go_wp2_with fail
        go_end0
        rw [HP.out]
        have hs2 := skip_len ((skip l).drop m)
        rw [List.length_drop] at hs2
        exact ⟨rfl, PRes.here H4.out K4.out hn (by omega) ⟨rfl, by decide⟩, fun r hr => by cases hr⟩
      | some r0 =>
        rw [hg] at h3
        simp only [] at h3
        have hr0 := sgn_len hg
        rw [List.length_drop] at hr0
        have c3 := h3.c2
        have H3 := Lib.hid h3
        have hp : pmem f l vs.length deep had = pval f r0 vs.length x deep := by rw [HPM.out, if_pos (by trivial), HC.out, if_neg (by simp), hg]
        have HP := Lib.hid hp
        clear h3 hg hp
        go_wp2_with fail
        refine (hV b r0 vs v x deep _ w0 H3.out HE3.out hd hn (by omega) (by omega)).mono ?_
        rintro e4 w4 ⟨rfl, h4⟩
        have A4 := A3.out.kept h4.kp (by simp; exact ⟨by omega, hbv⟩)
        go_wp2_with fail
        go_end0
        rw [HP.out, HPN.out trivial]
        exact ⟨rfl, PRes.after K3.out h4 (by simp), fun _ _ => A4⟩
end Go.Proofs.YtndkbecdjaedaaaGreatDoor
