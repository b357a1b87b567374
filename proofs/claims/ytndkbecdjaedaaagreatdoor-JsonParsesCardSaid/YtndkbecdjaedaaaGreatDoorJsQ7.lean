/- The reference's reader: value. (Printed by genq7.py.) -/
import Derived.Test.YtndkbecdjaedaaaGreatDoorJsQ6
import Derived.Test.YtndkbecdjaedaaaGreatDoorJsRnum
namespace Go.Proofs.YtndkbecdjaedaaaGreatDoor
open Go.RowKit

theorem wpList_append_v {w : World} {ops : Array Oper} {rest : List Oper} {o : Oper} {a : Act} {Q : Exit → Act → World → Prop} (hgd : o.guard = none) (s x : Operand)
    (ho : o.op = .call { callee := .builtin .append, args := #[s, x], argTypes := #[35, 35] })
    (base : Nat) (v : Value) (vs : List V) (hs : a.eval s = v) (hown : w.ownsRow base 56 4 v vs.length (vcells vs))
    (N c : Nat) (y : V) (fz : Nat × Nat) (hx : a.eval x = .slice (some ⟨N, 0, none⟩) 1 c) (hblk : w.heap[N]? = some (.cells #[.int .i64 y.kind, .string ⟨y.key.toArray⟩, .string ⟨y.text.toArray⟩, .int .i64 y.count] 56 fz))
    (hb : vs.length ≤ 1000000) (hbase : base ≤ w.heap.size)
    (h : ∀ g cap w', w'.ownsRow base 56 4 (.slice (some ⟨g, 0, none⟩) (vs.length + 1) cap) (vs ++ [y]).length (vcells (vs ++ [y])) → w.grownBy w' v.ownBlock → (v.ownBlock = some g ∨ g = w.heap.size) → g < w'.heap.size → wpList Tryz.prog ops Q rest (a.put o.dst (.slice (some ⟨g, 0, none⟩) (vs.length + 1) cap)) w') :
    wpList Tryz.prog ops Q (o :: rest) a w := by
  obtain ⟨i0, hi, hz0, hz1, hz2⟩ := info_parts infoVal
  refine wpList_append_lies w hgd s x 35 ho base 56 i0 _ 4 48 Tryz.underlying35 hi hz0 hz1 hz2 rfl (by decide) v vs.length (vcells vs) hs hown ⟨N, 0, none⟩ 1 c (vcell y) hx rfl (World.news_of_block hblk) ?_ (by decide) (by unfold maxLen; omega) (by omega) hbase _ rfl ?_
  · intro u hu
    simp [vcell] at hu
    rcases hu with rfl | rfl | rfl | rfl <;> rfl
  · intro g cap w' ho' hg hat hlt
    refine h g cap w' ?_ hg hat hlt
    rw [List.length_append, vcells_append]
    have : vcells [y] = vcell y := by simp [vcells]
    rw [this]
    exact ho'

section
variable {f n deep : Nat} {l key r : List UInt8} {c : UInt8}
set_option linter.unusedVariables false
theorem pv_nil (hs : skip l = []) : pval (f + 1) l n key deep = .error 3 := by
  simp only [pval]
  rw [hs]
theorem pv_not (hs : skip l = c :: r) (hst : starts c = false) : pval (f + 1) l n key deep = .error 3 := by
  simp only [pval]
  rw [hs]
  simp only []
  rw [if_pos hst]
theorem pv_full (hs : skip l = c :: r) (hst : starts c = true) (hf : 50 ≤ deep ∨ 5000 ≤ n) : pval (f + 1) l n key deep = .error 2 := by
  simp only [pval]
  rw [hs]
  simp only []
  rw [if_neg (by rw [hst]; simp), if_pos hf]
theorem pv_go (hs : skip l = c :: r) (hst : starts c = true) (hf : ¬ (50 ≤ deep ∨ 5000 ≤ n)) : pval (f + 1) l n key deep = (match wordOf c with
        | some (k, w) => if w.isPrefixOf (c :: r) = true then .ok ([⟨k, key, [], 0⟩], (c :: r).drop w.length) else .error 3
        | none =>
          if c = 34 then (match unq (c :: r) with
            | none => .error 3
            | some (x, m) => .ok ([⟨4, key, x, 0⟩], (c :: r).drop m))
          else if c = 91 then manyV 5 key (allV (sgn r 93) (pitems f r (n + 1) (deep + 1)))
          else if c = 123 then manyV 6 key (allV (sgn r 125) (pmems f r (n + 1) (deep + 1) []))
          else if number (c :: r) = 0 then .error 3
          else .ok ([⟨3, key, (c :: r).take (number (c :: r)), 0⟩], (c :: r).drop (number (c :: r)))) :=
  pval_go hs (by rw [hs]; unfold beginE; simp only []; rw [if_neg (by rw [hst]; simp), if_neg hf])
end

/-- The loop over the three words. -/
def firstW (i : Nat) : UInt8 := if i = 0 then 110 else if i = 1 then 116 else 102
def VRel (b : Nat) (T X : List UInt8) (K : Nat) (vs : List V) (v : Value) (w : World) (wb : Nat) (vk : Value) (wr : World) : Prop :=
  ∃ i : Nat, vk = .int .i64 (i : Int) ∧ i ≤ 3 ∧ (∀ c r, X = c :: r → ∀ j, j < i → firstW j ≠ c) ∧ Rq b T K vs v 0 wr ∧ Kp [b] w wr ∧ wr.heap[wb]? = some (.cells #[.string ⟨#[110, 117, 108, 108]⟩, .string ⟨#[116, 114, 117, 101]⟩, .string ⟨#[102, 97, 108, 115, 101]⟩] 140 (0, 0))

theorem qsign_here {T X : List UInt8} {K : Nat} (wd : List UInt8) (hX : T.drop K = X) (hs : skip X = X) (hK : K ≤ T.length) : qsign T K wd = if wd.isPrefixOf X = true then (true, K + wd.length) else (false, K) := by
  unfold qsign
  rw [hX, hs, skipAt_end T K hK (by rw [hX, hs])]
theorem kp_w {b : Nat} {S : List Nat} {w w' : World} (h : Kp [b] w w') : Kp (b :: S) w w' := h.mono (fun q hq => .inl (by
  rcases List.mem_singleton.1 hq with rfl
  simp))
theorem QV.fail {b k : Nat} {T : List UInt8} {vs vs' : List V} {v v' : Value} {R : Except Int (List V × List UInt8)} {c : Int} {w w' : World} (hR : R = .error c) (h : Rq b T k vs' v' c w') (hk : Kp [b] w w') : QV b T vs v R (.returned (.bool false)) w w' := by
  subst hR
  exact ⟨⟨rfl, _, _, _, h⟩, kp_w hk⟩
theorem QV.one {b k : Nat} {T r : List UInt8} {vs : List V} {v v' : Value} {R : Except Int (List V × List UInt8)} {x : V} {w w1 w' : World} (hR : R = .ok ([x], r)) (h : Grew b T k (vs ++ [x]) v' 0 w1 w' v) (hk : Kp [b] w w1) (hl : k ≤ T.length) (hd : T.drop k = r) : QV b T vs v R (.returned (.bool true)) w w' := by
  subst hR
  exact ⟨⟨rfl, k, v', hl, hd, h.rd, (Loc.refl v w).trans h.loc hk.size⟩, (kp_w hk).trans h.kp (fun q hq => .inl hq)⟩
theorem QK.bool {b : Nat} {T : List UInt8} {vs : List V} {v : Value} {kd : Int} {key : List UInt8} {P : Except Int (List V × Nat × List UInt8)} {x : Ending} {w w' : World} (h : QK b T vs kd key v P x w w') : ∃ B, x = .returned (.bool B) := by
  obtain ⟨h, _⟩ := h
  cases P with
  | error c => exact ⟨_, h.1⟩
  | ok p => obtain ⟨ws, n, r⟩ := p; exact ⟨_, h.1⟩
theorem QV.kids {b k : Nat} {T : List UInt8} {vs : List V} {v v1 : Value} {R : Except Int (List V × List UInt8)} {kd : Int} {key : List UInt8} {P : Except Int (List V × Nat × List UInt8)} {x : Ending} {w w1 w2 w' : World} (hR : R = manyV kd key P) (hk : Kp [b] w w1) (h : Grew b T k (vs ++ [⟨kd, key, [], 0⟩]) v1 0 w1 w2 v) (hq : QK b T vs kd key v1 P x w2 w') : QV b T vs v R x w w' := by
  subst hR
  have hl : Loc v v1 w := (Loc.refl v w).trans h.loc hk.size
  have hk2 : Kp (b :: v.ownBlock.toList) w w2 := (kp_w hk).trans h.kp (fun q hq => .inl hq)
  obtain ⟨h1, h2⟩ := hq
  refine ⟨?_, hl.kp hk2 h2⟩
  unfold manyV
  cases P with
  | error c => exact h1
  | ok p =>
    obtain ⟨ws, n, r'⟩ := p
    obtain ⟨h3, k', v', h4, h5, h6, h7⟩ := h1
    exact ⟨h3, k', v', h4, h5, h6, hl.trans h7 hk2.size⟩
theorem word_none {c : UInt8} (h0 : c ≠ 110) (h1 : c ≠ 116) (h2 : c ≠ 102) : wordOf c = none := by
  unfold wordOf
  rw [if_neg h0, if_neg h1, if_neg h2]
theorem starts_no {c : UInt8} (h0 : c ≠ 110) (h1 : c ≠ 116) (h2 : c ≠ 102) (h3 : c ≠ 34) (h4 : c ≠ 91) (h5 : c ≠ 123) (h6 : c ≠ 45) (h7 : ¬ (48 ≤ c.toNat ∧ c.toNat ≤ 57)) : starts c = false := by
  unfold starts
  rw [← Bool.not_eq_true, List.contains_iff_mem]
  simp only [List.mem_cons, List.not_mem_nil, or_false]
  rintro (h | h | h | h | h | h | h | h | h | h | h | h | h | h | h | h | h) <;> first | contradiction | (subst h; exact h7 (by decide))

set_option maxHeartbeats 16000000 in
set_option maxRecDepth 1000000 in
theorem qvalue_step (f : Nat) (hV : ∀ g, g < f → QOK g) : QOK (f + 1) := by
  intro b T k0 vs v key deep w h hk hT hd hn hf
  obtain ⟨hsk, hk1, hk2⟩ := skipAt_drop T k0 hk
  obtain ⟨a, cp, hv⟩ := h.len
  subst hv
  obtain ⟨R, hR⟩ : ∃ R, pval (f + 1) (T.drop k0) vs.length key deep = R := ⟨_, rfl⟩
  rw [hR]
  obtain ⟨K, hK⟩ : ∃ K, skipAt T k0 = K := ⟨_, rfl⟩
  rw [hK] at hsk hk1 hk2
  obtain ⟨X, hX⟩ : ∃ X, T.drop K = X := ⟨_, rfl⟩
  have hsl := slice_low T K hk2
  rw [hX] at hsk hsl
  have hXX : skip X = X := by rw [hsk, skip_skip]
  have hXl : X.length = T.length - K := by rw [← hX, List.length_drop]
  obtain ⟨N, hN⟩ : ∃ N, X.length = N := ⟨_, rfl⟩
  have hxs : (⟨X.toArray⟩ : ByteArray).size = N := by rw [← hN]; simp [ByteArray.size]
  rw [hN] at hXl
  have HXL := Lib.hid hXl
  have HN := Lib.hid hN
  have HX := Lib.hid hX
  have HXX := Lib.hid hXX
  have HR := Lib.hid hR
  have HSK := Lib.hid hsk.symm
  have HKE := Lib.hid hK
  have H := Lib.hid h
  have i0 : ∀ w, (Instr.index 9 (.string ⟨#[110, 117, 108, 108]⟩) (.int .i64 0)).run Tryz.prog w = .ok (.int .u8 110) w := idx_run [110, 117, 108, 108] 0 (by decide)
  have i1 : ∀ w, (Instr.index 9 (.string ⟨#[116, 114, 117, 101]⟩) (.int .i64 0)).run Tryz.prog w = .ok (.int .u8 116) w := idx_run [116, 114, 117, 101] 0 (by decide)
  have i2 : ∀ w, (Instr.index 9 (.string ⟨#[102, 97, 108, 115, 101]⟩) (.int .i64 0)).run Tryz.prog w = .ok (.int .u8 102) w := idx_run [102, 97, 108, 115, 101] 0 (by decide)
  have hdI : decide ((50 : Int) ≤ (deep : Int)) = decide (50 ≤ deep) := by rw [Bool.eq_iff_iff]; simp; omega
  have hnI : decide ((5000 : Int) ≤ (vs.length : Int)) = decide (5000 ≤ vs.length) := by rw [Bool.eq_iff_iff]; simp; omega
  clear h hR hK hsk hX hXX hN hXl
  go_enter Tryz.func62, Tryz.ntmps62
  go_wp2_with fail
  refine (qskip_calls b T k0 vs _ 0 _ H.out hk (by omega)).mono ?_
  rintro e1 w1 ⟨rfl, h1, k1⟩
  rw [show skipAt T k0 = K from HKE.out] at h1
  have c0 := h1.c0
  have c1 := h1.c1
  have H1 := Lib.hid h1
  have K1 := Lib.hid k1
  clear h1 k1
  go_wp2_with fail
  go_quiet (fail)
  have H2 := Lib.hid (H1.out.drewN nq)
  have K2 := Lib.hid (K1.out.drewN nq)
  clear c0 c1 hsl H1 K1
  generalize w1.drewN nq = w2 at *
  go_wp2_with fail
  have hbw := H2.out.lt
  have hww := K2.out.size
  have M0 : Hid (VRel b T X K vs (.slice a vs.length cp) w w2.heap.size (.int .i64 0) (w2.alloc (.cells #[.string ⟨#[110, 117, 108, 108]⟩, .string ⟨#[116, 114, 117, 101]⟩, .string ⟨#[102, 97, 108, 115, 101]⟩] 140))) := Lib.hid
    ⟨0, rfl, by omega, fun _ _ _ j hj => absurd hj (by omega), H2.out.fresh ((Below.refl _ w2).alloc (Nat.le_refl _) _), K2.out.alloc _, heap_alloc_new w2 _⟩
  clear H2 K2
  generalize hwbe : w2.heap.size = wb at *
  go_loopw [9] (fun vk wr => VRel b T X K vs (.slice a vs.length cp) w wb vk wr) (fun vk _ => 3 - (intOf vk).toNat)
  case atStart => exact M0.out
  case round =>
    clear M0
    obtain ⟨i, rfl, hi, hno, hRr, hKr, hwb⟩ := hrel
    have p0 : wr.cell? ⟨wb, 0, none⟩ = some (.string ⟨#[110, 117, 108, 108]⟩) := by rw [cell_of_row wr wb 0 _ _ _ hwb]; rfl
    have p1 : wr.cell? ⟨wb, 1, none⟩ = some (.string ⟨#[116, 114, 117, 101]⟩) := by rw [cell_of_row wr wb 1 _ _ _ hwb]; rfl
    have p2 : wr.cell? ⟨wb, 2, none⟩ = some (.string ⟨#[102, 97, 108, 115, 101]⟩) := by rw [cell_of_row wr wb 2 _ _ _ hwb]; rfl
    have HRr := Lib.hid hRr
    have HKr := Lib.hid hKr
    have HWB := Lib.hid hwb
    have HNO := Lib.hid hno
    clear hRr hKr hwb hno
    have hways : i = 0 ∨ i = 1 ∨ i = 2 ∨ i = 3 := by omega
    rcases hways with rfl | rfl | rfl | rfl
    · have hXe : X = [] ∨ ∃ c r, X = c :: r := by cases X with | nil => exact .inl rfl | cons c r => exact .inr ⟨c, r, rfl⟩
      rcases hXe with hXe | ⟨c, r, hXe⟩
      · have hN0 : N = 0 := by rw [← HN.out, hXe]; rfl
        have HXE := Lib.hid hXe
        clear hXe
        have hg : decide (0 < N) = false := decide_eq_false (by omega)
        go_wp2_with fail
        go_quiet (fail)
        have H5 := Lib.hid (HRr.out.drewN nq)
        have K5 := Lib.hid (HKr.out.drewN nq)
        have W5 : Hid ((wr.drewN nq).heap[wb]? = _) := Lib.hid HWB.out
        clear HRr HKr HWB p0 p1 p2 hg
        generalize wr.drewN nq = wq at *
        go_wp2_with fail
        go_roundw
        case rel => exact ⟨1, rfl, by omega, fun c r h => (by rw [HXE.out] at h; cases h), H5.out, K5.out, W5.out⟩
        case measure => simp [intOf]
      · have hix : ∀ w, (Instr.index 9 (.string ⟨X.toArray⟩) (.int .i64 0)).run Tryz.prog w = .ok (.int .u8 ((c.toNat : Nat) : Int)) w := by
          rw [hXe]
          exact idx_run (c :: r) 0 (by simp)
        have hN0 : 0 < N := by rw [← HN.out, hXe]; simp
        have hg : decide (0 < N) = true := decide_eq_true (by omega)
        have HXE := Lib.hid hXe
        clear hXe
        by_cases hc : c = 110
        · subst hc
          have hst := HSK.out.trans HXE.out
          by_cases hfull : 50 ≤ deep ∨ 5000 ≤ vs.length
          · have hRe : Hid (R = .error 2) := Lib.hid (by rw [← HR.out]; exact pv_full hst (by decide) hfull)
            clear hst
            go_wp2_with fail
            go_quiet (fail)
            have H5 := Lib.hid (HRr.out.drewN nq)
            have K5 := Lib.hid (HKr.out.drewN nq)
            have c2 := H5.out.c2
            clear HRr HKr HWB p0 p1 p2 hg hix
            generalize wr.drewN nq = wq at *
            by_cases hd5 : 50 ≤ deep
            · rw [decide_eq_true hd5] at hdI
              clear hnI
              go_wp2_with fail
              refine (qfail_calls b T K _ _ 0 2 _ H5.out).mono ?_
              rintro e6 w6 ⟨rfl, h6, k6⟩
              have H6 := Lib.hid h6
              have K6 := Lib.hid (K5.out.trans k6 (fun q hq => .inl hq))
              clear h6 k6 c2
              go_wp2_with fail
              go_ret
              exact QV.fail hRe.out H6.out K6.out
            · rw [decide_eq_false hd5] at hdI
              rw [decide_eq_true (hfull.resolve_left hd5)] at hnI
              go_wp2_with fail
              refine (qfail_calls b T K _ _ 0 2 _ H5.out).mono ?_
              rintro e6 w6 ⟨rfl, h6, k6⟩
              have H6 := Lib.hid h6
              have K6 := Lib.hid (K5.out.trans k6 (fun q hq => .inl hq))
              clear h6 k6 c2
              go_wp2_with fail
              go_ret
              exact QV.fail hRe.out H6.out K6.out
          · have hpv := pv_go (f := f) (key := key) hst (by decide) hfull
            rw [HR.out] at hpv
            simp only [show wordOf 110 = some (0, [110, 117, 108, 108]) by decide] at hpv
            have hsg := qsign_here [110, 117, 108, 108] HX.out HXX.out hk2
            rw [HXE.out] at hsg
            rw [decide_eq_false (show ¬ 50 ≤ deep by omega)] at hdI
            rw [decide_eq_false (show ¬ 5000 ≤ vs.length by omega)] at hnI
            have HPV := Lib.hid hpv
            have HSG := Lib.hid hsg
            clear hst hpv hsg
            go_wp2_with fail
            go_quiet (fail)
            have H5 := Lib.hid (HRr.out.drewN nq)
            have K5 := Lib.hid (HKr.out.drewN nq)
            have c2 := H5.out.c2
            have p5 : (wr.drewN nq).cell? ⟨wb, 0, none⟩ = some (.string ⟨#[110, 117, 108, 108]⟩) := p0
            clear HRr HKr HWB p0 p1 p2 hg hix
            generalize wr.drewN nq = wq at *
            go_wp2_with fail
            refine (qsign_calls b T K _ _ 0 [110, 117, 108, 108] _ H5.out hk2 (by omega) (by decide)).mono ?_
            rintro e6 w6 ⟨rfl, h6, k6⟩
            have K6 := Lib.hid (K5.out.trans k6 (fun q hq => .inl hq))
            clear k6 c2 p5
            cases hP : List.isPrefixOf [110, 117, 108, 108] (110 :: r) with
            | true =>
              have hpl := (List.isPrefixOf_iff_prefix.1 hP).length_le
              have hR0 := HPV.out
              have hS := HSG.out
              rw [if_pos hP] at hR0 hS
              rw [hS] at h6 ⊢
              have hle : K + ([110, 117, 108, 108] : List UInt8).length ≤ T.length := by
                have h1 := HN.out
                have h2 := HXL.out
                rw [HXE.out] at h1
                omega
              have hdr : T.drop (K + ([110, 117, 108, 108] : List UInt8).length) = (110 :: r).drop ([110, 117, 108, 108] : List UInt8).length := by rw [← List.drop_drop, HX.out, HXE.out]
              have H6 := Lib.hid h6
              have HR0 := Lib.hid hR0
              have HDR := Lib.hid hdr
              have HLE := Lib.hid hle
              clear h6 hR0 hS hP hdr hpl hle
              go_wp2_with fail
              refine (qput_calls b T _ vs _ 0 ⟨0, key, [], 0⟩ deep _ H6.out (by omega) (by omega)).mono ?_
              rintro e7 w7 ⟨rfl, v7, G⟩
              have G7 := Lib.hid G
              clear G
              go_wp2_with fail
              go_ret
              exact QV.one HR0.out G7.out K6.out HLE.out HDR.out
            | false =>
              have hR0 := HPV.out
              have hS := HSG.out
              rw [if_neg (by rw [hP]; simp)] at hR0 hS
              rw [hS] at h6 ⊢
              have H6 := Lib.hid h6
              have HR0 := Lib.hid hR0
              clear h6 hR0 hS hP
              go_wp2_with fail
              refine (qfail_calls b T K _ _ 0 3 _ H6.out).mono ?_
              rintro e7 w7 ⟨rfl, h7, k7⟩
              have H7 := Lib.hid h7
              have K7 := Lib.hid (K6.out.trans k7 (fun q hq => .inl hq))
              clear h7 k7
              go_wp2_with fail
              go_ret
              exact QV.fail HR0.out H7.out K7.out
        · have hcn : (((c.toNat : Nat) : Int) == 110) = false := by simp; intro h; exact hc (u8_int h)
          have HC := Lib.hid hc
          clear hc
          go_wp2_with fail
          go_quiet (fail)
          have H5 := Lib.hid (HRr.out.drewN nq)
          have K5 := Lib.hid (HKr.out.drewN nq)
          have W5 : Hid ((wr.drewN nq).heap[wb]? = _) := Lib.hid HWB.out
          clear HRr HKr HWB p0 p1 p2 hg hix hcn
          generalize wr.drewN nq = wq at *
          go_wp2_with fail
          go_roundw
          case rel =>
            refine ⟨1, rfl, by omega, fun c' r' h j hj => ?_, H5.out, K5.out, W5.out⟩
            rw [HXE.out] at h
            obtain ⟨rfl, rfl⟩ := List.cons.inj h
            by_cases hj1 : j < 0
            · exact HNO.out _ _ HXE.out j hj1
            · have hje : j = 0 := by omega
              subst hje
              exact fun h => HC.out h.symm
          case measure => simp [intOf]
    · have hXe : X = [] ∨ ∃ c r, X = c :: r := by cases X with | nil => exact .inl rfl | cons c r => exact .inr ⟨c, r, rfl⟩
      rcases hXe with hXe | ⟨c, r, hXe⟩
      · have hN0 : N = 0 := by rw [← HN.out, hXe]; rfl
        have HXE := Lib.hid hXe
        clear hXe
        have hg : decide (0 < N) = false := decide_eq_false (by omega)
        go_wp2_with fail
        go_quiet (fail)
        have H5 := Lib.hid (HRr.out.drewN nq)
        have K5 := Lib.hid (HKr.out.drewN nq)
        have W5 : Hid ((wr.drewN nq).heap[wb]? = _) := Lib.hid HWB.out
        clear HRr HKr HWB p0 p1 p2 hg
        generalize wr.drewN nq = wq at *
        go_wp2_with fail
        go_roundw
        case rel => exact ⟨2, rfl, by omega, fun c r h => (by rw [HXE.out] at h; cases h), H5.out, K5.out, W5.out⟩
        case measure => simp [intOf]
      · have hix : ∀ w, (Instr.index 9 (.string ⟨X.toArray⟩) (.int .i64 0)).run Tryz.prog w = .ok (.int .u8 ((c.toNat : Nat) : Int)) w := by
          rw [hXe]
          exact idx_run (c :: r) 0 (by simp)
        have hN0 : 0 < N := by rw [← HN.out, hXe]; simp
        have hg : decide (0 < N) = true := decide_eq_true (by omega)
        have HXE := Lib.hid hXe
        clear hXe
        by_cases hc : c = 116
        · subst hc
          have hst := HSK.out.trans HXE.out
          by_cases hfull : 50 ≤ deep ∨ 5000 ≤ vs.length
          · have hRe : Hid (R = .error 2) := Lib.hid (by rw [← HR.out]; exact pv_full hst (by decide) hfull)
            clear hst
            go_wp2_with fail
            go_quiet (fail)
            have H5 := Lib.hid (HRr.out.drewN nq)
            have K5 := Lib.hid (HKr.out.drewN nq)
            have c2 := H5.out.c2
            clear HRr HKr HWB p0 p1 p2 hg hix
            generalize wr.drewN nq = wq at *
            by_cases hd5 : 50 ≤ deep
            · rw [decide_eq_true hd5] at hdI
              clear hnI
              go_wp2_with fail
              refine (qfail_calls b T K _ _ 0 2 _ H5.out).mono ?_
              rintro e6 w6 ⟨rfl, h6, k6⟩
              have H6 := Lib.hid h6
              have K6 := Lib.hid (K5.out.trans k6 (fun q hq => .inl hq))
              clear h6 k6 c2
              go_wp2_with fail
              go_ret
              exact QV.fail hRe.out H6.out K6.out
            · rw [decide_eq_false hd5] at hdI
              rw [decide_eq_true (hfull.resolve_left hd5)] at hnI
              go_wp2_with fail
              refine (qfail_calls b T K _ _ 0 2 _ H5.out).mono ?_
              rintro e6 w6 ⟨rfl, h6, k6⟩
              have H6 := Lib.hid h6
              have K6 := Lib.hid (K5.out.trans k6 (fun q hq => .inl hq))
              clear h6 k6 c2
              go_wp2_with fail
              go_ret
              exact QV.fail hRe.out H6.out K6.out
          · have hpv := pv_go (f := f) (key := key) hst (by decide) hfull
            rw [HR.out] at hpv
            simp only [show wordOf 116 = some (1, [116, 114, 117, 101]) by decide] at hpv
            have hsg := qsign_here [116, 114, 117, 101] HX.out HXX.out hk2
            rw [HXE.out] at hsg
            rw [decide_eq_false (show ¬ 50 ≤ deep by omega)] at hdI
            rw [decide_eq_false (show ¬ 5000 ≤ vs.length by omega)] at hnI
            have HPV := Lib.hid hpv
            have HSG := Lib.hid hsg
            clear hst hpv hsg
            go_wp2_with fail
            go_quiet (fail)
            have H5 := Lib.hid (HRr.out.drewN nq)
            have K5 := Lib.hid (HKr.out.drewN nq)
            have c2 := H5.out.c2
            have p5 : (wr.drewN nq).cell? ⟨wb, 1, none⟩ = some (.string ⟨#[116, 114, 117, 101]⟩) := p1
            clear HRr HKr HWB p0 p1 p2 hg hix
            generalize wr.drewN nq = wq at *
            go_wp2_with fail
            refine (qsign_calls b T K _ _ 0 [116, 114, 117, 101] _ H5.out hk2 (by omega) (by decide)).mono ?_
            rintro e6 w6 ⟨rfl, h6, k6⟩
            have K6 := Lib.hid (K5.out.trans k6 (fun q hq => .inl hq))
            clear k6 c2 p5
            cases hP : List.isPrefixOf [116, 114, 117, 101] (116 :: r) with
            | true =>
              have hpl := (List.isPrefixOf_iff_prefix.1 hP).length_le
              have hR0 := HPV.out
              have hS := HSG.out
              rw [if_pos hP] at hR0 hS
              rw [hS] at h6 ⊢
              have hle : K + ([116, 114, 117, 101] : List UInt8).length ≤ T.length := by
                have h1 := HN.out
                have h2 := HXL.out
                rw [HXE.out] at h1
                omega
              have hdr : T.drop (K + ([116, 114, 117, 101] : List UInt8).length) = (116 :: r).drop ([116, 114, 117, 101] : List UInt8).length := by rw [← List.drop_drop, HX.out, HXE.out]
              have H6 := Lib.hid h6
              have HR0 := Lib.hid hR0
              have HDR := Lib.hid hdr
              have HLE := Lib.hid hle
              clear h6 hR0 hS hP hdr hpl hle
              go_wp2_with fail
              refine (qput_calls b T _ vs _ 0 ⟨1, key, [], 0⟩ deep _ H6.out (by omega) (by omega)).mono ?_
              rintro e7 w7 ⟨rfl, v7, G⟩
              have G7 := Lib.hid G
              clear G
              go_wp2_with fail
              go_ret
              exact QV.one HR0.out G7.out K6.out HLE.out HDR.out
            | false =>
              have hR0 := HPV.out
              have hS := HSG.out
              rw [if_neg (by rw [hP]; simp)] at hR0 hS
              rw [hS] at h6 ⊢
              have H6 := Lib.hid h6
              have HR0 := Lib.hid hR0
              clear h6 hR0 hS hP
              go_wp2_with fail
              refine (qfail_calls b T K _ _ 0 3 _ H6.out).mono ?_
              rintro e7 w7 ⟨rfl, h7, k7⟩
              have H7 := Lib.hid h7
              have K7 := Lib.hid (K6.out.trans k7 (fun q hq => .inl hq))
              clear h7 k7
              go_wp2_with fail
              go_ret
              exact QV.fail HR0.out H7.out K7.out
        · have hcn : (((c.toNat : Nat) : Int) == 116) = false := by simp; intro h; exact hc (u8_int h)
          have HC := Lib.hid hc
          clear hc
          go_wp2_with fail
          go_quiet (fail)
          have H5 := Lib.hid (HRr.out.drewN nq)
          have K5 := Lib.hid (HKr.out.drewN nq)
          have W5 : Hid ((wr.drewN nq).heap[wb]? = _) := Lib.hid HWB.out
          clear HRr HKr HWB p0 p1 p2 hg hix hcn
          generalize wr.drewN nq = wq at *
          go_wp2_with fail
          go_roundw
          case rel =>
            refine ⟨2, rfl, by omega, fun c' r' h j hj => ?_, H5.out, K5.out, W5.out⟩
            rw [HXE.out] at h
            obtain ⟨rfl, rfl⟩ := List.cons.inj h
            by_cases hj1 : j < 1
            · exact HNO.out _ _ HXE.out j hj1
            · have hje : j = 1 := by omega
              subst hje
              exact fun h => HC.out h.symm
          case measure => simp [intOf]
    · have hXe : X = [] ∨ ∃ c r, X = c :: r := by cases X with | nil => exact .inl rfl | cons c r => exact .inr ⟨c, r, rfl⟩
      rcases hXe with hXe | ⟨c, r, hXe⟩
      · have hN0 : N = 0 := by rw [← HN.out, hXe]; rfl
        have HXE := Lib.hid hXe
        clear hXe
        have hg : decide (0 < N) = false := decide_eq_false (by omega)
        go_wp2_with fail
        go_quiet (fail)
        have H5 := Lib.hid (HRr.out.drewN nq)
        have K5 := Lib.hid (HKr.out.drewN nq)
        have W5 : Hid ((wr.drewN nq).heap[wb]? = _) := Lib.hid HWB.out
        clear HRr HKr HWB p0 p1 p2 hg
        generalize wr.drewN nq = wq at *
        go_wp2_with fail
        go_roundw
        case rel => exact ⟨3, rfl, by omega, fun c r h => (by rw [HXE.out] at h; cases h), H5.out, K5.out, W5.out⟩
        case measure => simp [intOf]
      · have hix : ∀ w, (Instr.index 9 (.string ⟨X.toArray⟩) (.int .i64 0)).run Tryz.prog w = .ok (.int .u8 ((c.toNat : Nat) : Int)) w := by
          rw [hXe]
          exact idx_run (c :: r) 0 (by simp)
        have hN0 : 0 < N := by rw [← HN.out, hXe]; simp
        have hg : decide (0 < N) = true := decide_eq_true (by omega)
        have HXE := Lib.hid hXe
        clear hXe
        by_cases hc : c = 102
        · subst hc
          have hst := HSK.out.trans HXE.out
          by_cases hfull : 50 ≤ deep ∨ 5000 ≤ vs.length
          · have hRe : Hid (R = .error 2) := Lib.hid (by rw [← HR.out]; exact pv_full hst (by decide) hfull)
            clear hst
            go_wp2_with fail
            go_quiet (fail)
            have H5 := Lib.hid (HRr.out.drewN nq)
            have K5 := Lib.hid (HKr.out.drewN nq)
            have c2 := H5.out.c2
            clear HRr HKr HWB p0 p1 p2 hg hix
            generalize wr.drewN nq = wq at *
            by_cases hd5 : 50 ≤ deep
            · rw [decide_eq_true hd5] at hdI
              clear hnI
              go_wp2_with fail
              refine (qfail_calls b T K _ _ 0 2 _ H5.out).mono ?_
              rintro e6 w6 ⟨rfl, h6, k6⟩
              have H6 := Lib.hid h6
              have K6 := Lib.hid (K5.out.trans k6 (fun q hq => .inl hq))
              clear h6 k6 c2
              go_wp2_with fail
              go_ret
              exact QV.fail hRe.out H6.out K6.out
            · rw [decide_eq_false hd5] at hdI
              rw [decide_eq_true (hfull.resolve_left hd5)] at hnI
              go_wp2_with fail
              refine (qfail_calls b T K _ _ 0 2 _ H5.out).mono ?_
              rintro e6 w6 ⟨rfl, h6, k6⟩
              have H6 := Lib.hid h6
              have K6 := Lib.hid (K5.out.trans k6 (fun q hq => .inl hq))
              clear h6 k6 c2
              go_wp2_with fail
              go_ret
              exact QV.fail hRe.out H6.out K6.out
          · have hpv := pv_go (f := f) (key := key) hst (by decide) hfull
            rw [HR.out] at hpv
            simp only [show wordOf 102 = some (2, [102, 97, 108, 115, 101]) by decide] at hpv
            have hsg := qsign_here [102, 97, 108, 115, 101] HX.out HXX.out hk2
            rw [HXE.out] at hsg
            rw [decide_eq_false (show ¬ 50 ≤ deep by omega)] at hdI
            rw [decide_eq_false (show ¬ 5000 ≤ vs.length by omega)] at hnI
            have HPV := Lib.hid hpv
            have HSG := Lib.hid hsg
            clear hst hpv hsg
            go_wp2_with fail
            go_quiet (fail)
            have H5 := Lib.hid (HRr.out.drewN nq)
            have K5 := Lib.hid (HKr.out.drewN nq)
            have c2 := H5.out.c2
            have p5 : (wr.drewN nq).cell? ⟨wb, 2, none⟩ = some (.string ⟨#[102, 97, 108, 115, 101]⟩) := p2
            clear HRr HKr HWB p0 p1 p2 hg hix
            generalize wr.drewN nq = wq at *
            go_wp2_with fail
            refine (qsign_calls b T K _ _ 0 [102, 97, 108, 115, 101] _ H5.out hk2 (by omega) (by decide)).mono ?_
            rintro e6 w6 ⟨rfl, h6, k6⟩
            have K6 := Lib.hid (K5.out.trans k6 (fun q hq => .inl hq))
            clear k6 c2 p5
            cases hP : List.isPrefixOf [102, 97, 108, 115, 101] (102 :: r) with
            | true =>
              have hpl := (List.isPrefixOf_iff_prefix.1 hP).length_le
              have hR0 := HPV.out
              have hS := HSG.out
              rw [if_pos hP] at hR0 hS
              rw [hS] at h6 ⊢
              have hle : K + ([102, 97, 108, 115, 101] : List UInt8).length ≤ T.length := by
                have h1 := HN.out
                have h2 := HXL.out
                rw [HXE.out] at h1
                omega
              have hdr : T.drop (K + ([102, 97, 108, 115, 101] : List UInt8).length) = (102 :: r).drop ([102, 97, 108, 115, 101] : List UInt8).length := by rw [← List.drop_drop, HX.out, HXE.out]
              have H6 := Lib.hid h6
              have HR0 := Lib.hid hR0
              have HDR := Lib.hid hdr
              have HLE := Lib.hid hle
              clear h6 hR0 hS hP hdr hpl hle
              go_wp2_with fail
              refine (qput_calls b T _ vs _ 0 ⟨2, key, [], 0⟩ deep _ H6.out (by omega) (by omega)).mono ?_
              rintro e7 w7 ⟨rfl, v7, G⟩
              have G7 := Lib.hid G
              clear G
              go_wp2_with fail
              go_ret
              exact QV.one HR0.out G7.out K6.out HLE.out HDR.out
            | false =>
              have hR0 := HPV.out
              have hS := HSG.out
              rw [if_neg (by rw [hP]; simp)] at hR0 hS
              rw [hS] at h6 ⊢
              have H6 := Lib.hid h6
              have HR0 := Lib.hid hR0
              clear h6 hR0 hS hP
              go_wp2_with fail
              refine (qfail_calls b T K _ _ 0 3 _ H6.out).mono ?_
              rintro e7 w7 ⟨rfl, h7, k7⟩
              have H7 := Lib.hid h7
              have K7 := Lib.hid (K6.out.trans k7 (fun q hq => .inl hq))
              clear h7 k7
              go_wp2_with fail
              go_ret
              exact QV.fail HR0.out H7.out K7.out
        · have hcn : (((c.toNat : Nat) : Int) == 102) = false := by simp; intro h; exact hc (u8_int h)
          have HC := Lib.hid hc
          clear hc
          go_wp2_with fail
          go_quiet (fail)
          have H5 := Lib.hid (HRr.out.drewN nq)
          have K5 := Lib.hid (HKr.out.drewN nq)
          have W5 : Hid ((wr.drewN nq).heap[wb]? = _) := Lib.hid HWB.out
          clear HRr HKr HWB p0 p1 p2 hg hix hcn
          generalize wr.drewN nq = wq at *
          go_wp2_with fail
          go_roundw
          case rel =>
            refine ⟨3, rfl, by omega, fun c' r' h j hj => ?_, H5.out, K5.out, W5.out⟩
            rw [HXE.out] at h
            obtain ⟨rfl, rfl⟩ := List.cons.inj h
            by_cases hj1 : j < 2
            · exact HNO.out _ _ HXE.out j hj1
            · have hje : j = 2 := by omega
              subst hje
              exact fun h => HC.out h.symm
          case measure => simp [intOf]
    · have hXe : X = [] ∨ ∃ c r, X = c :: r := by cases X with | nil => exact .inl rfl | cons c r => exact .inr ⟨c, r, rfl⟩
      rcases hXe with rfl | ⟨c, r, rfl⟩
      · have hRe : Hid (R = .error 3) := Lib.hid (by rw [← HR.out]; exact pv_nil HSK.out)
        go_wp2_with fail
        refine (qfail_calls b T _ _ _ 0 3 _ HRr.out).mono ?_
        rintro e6 w6 ⟨rfl, h6, k6⟩
        have H6 := Lib.hid h6
        have K6 := Lib.hid (HKr.out.trans k6 (fun q hq => .inl hq))
        clear h6 k6
        go_wp2_with fail
        go_ret
        exact QV.fail hRe.out H6.out K6.out
      · have hno := HNO.out c r rfl
        have h110 : c ≠ 110 := fun e => hno 0 (by omega) (by rw [e]; rfl)
        have h116 : c ≠ 116 := fun e => hno 1 (by omega) (by rw [e]; rfl)
        have h102 : c ≠ 102 := fun e => hno 2 (by omega) (by rw [e]; rfl)
        have HWN := Lib.hid (word_none h110 h116 h102)
        have HH := Lib.hid (And.intro h110 (And.intro h116 h102))
        have hix : ∀ w, (Instr.index 9 (.string ⟨(c :: r).toArray⟩) (.int .i64 0)).run Tryz.prog w = .ok (.int .u8 ((c.toNat : Nat) : Int)) w := idx_run (c :: r) 0 (by simp)
        have c1 := HRr.out.c1
        have f1 := HRr.out.free 1
        have c2 := HRr.out.c2
        clear hno h110 h116 h102 HNO
        by_cases h34 : c = 34
        · subst h34
          by_cases hfull : 50 ≤ deep ∨ 5000 ≤ vs.length
          · have hRe : Hid (R = .error 2) := Lib.hid (by rw [← HR.out]; exact pv_full HSK.out (by decide) hfull)
            by_cases hd5 : 50 ≤ deep
            · rw [decide_eq_true hd5] at hdI
              clear hnI
              go_wp2_with fail
              refine (qfail_calls b T _ _ _ 0 2 _ HRr.out).mono ?_
              rintro e6 w6 ⟨rfl, h6, k6⟩
              have H6 := Lib.hid h6
              have K6 := Lib.hid (HKr.out.trans k6 (fun q hq => .inl hq))
              clear h6 k6
              go_wp2_with fail
              go_ret
              exact QV.fail hRe.out H6.out K6.out
            · rw [decide_eq_false hd5] at hdI
              rw [decide_eq_true (hfull.resolve_left hd5)] at hnI
              go_wp2_with fail
              refine (qfail_calls b T _ _ _ 0 2 _ HRr.out).mono ?_
              rintro e6 w6 ⟨rfl, h6, k6⟩
              have H6 := Lib.hid h6
              have K6 := Lib.hid (HKr.out.trans k6 (fun q hq => .inl hq))
              clear h6 k6
              go_wp2_with fail
              go_ret
              exact QV.fail hRe.out H6.out K6.out
          · have hpv := pv_go (f := f) (key := key) HSK.out (by decide) hfull
            rw [HR.out, HWN.out] at hpv
            simp only [] at hpv
            rw [decide_eq_false (show ¬ 50 ≤ deep by omega)] at hdI
            rw [decide_eq_false (show ¬ 5000 ≤ vs.length by omega)] at hnI
            rw [if_pos trivial] at hpv
            have hX1 := HX.out
            have hX2 := HXX.out
            have hka := skipAt_end T K hk2 (by rw [hX1, hX2])
            have HKA := Lib.hid hka
            clear hX1 hX2 hka
            cases hu : unq (34 :: r) with
            | none =>
              rw [hu] at hpv
              have hRe : Hid (R = .error 3) := Lib.hid hpv
              have hV : unqV (34 :: r) = ([], 0, false) := by unfold unqV; rw [hu]
              have HVV := Lib.hid hV
              clear hpv hV hu
              go_wp2_with fail
              refine (qtext_calls b T K _ _ 0 _ HRr.out hk2 (by omega)).mono ?_
              rintro e5 w5 ⟨rfl, h5, k5⟩
              rw [HX.out, HXX.out, HVV.out] at h5 ⊢
              have H5 := Lib.hid h5
              have K5 := Lib.hid (HKr.out.trans k5 (fun q hq => .inl hq))
              clear h5 k5 c1 c2 f1
              go_wp2_with fail
              refine (qfail_calls b T _ _ _ 0 3 _ H5.out).mono ?_
              rintro e6 w6 ⟨rfl, h6, k6⟩
              have H6 := Lib.hid h6
              have K6 := Lib.hid (K5.out.trans k6 (fun q hq => .inl hq))
              clear h6 k6
              go_wp2_with fail
              go_ret
              exact QV.fail hRe.out H6.out K6.out

            | some p =>
              obtain ⟨x, m⟩ := p
              rw [hu] at hpv
              have HR0 : Hid (R = .ok ([⟨4, key, x, 0⟩], (34 :: r).drop m)) := Lib.hid hpv
              have hV : unqV (34 :: r) = (x, m, true) := by unfold unqV; rw [hu]
              have HVV := Lib.hid hV
              have hm := (unq_bound hu).2
              rw [HN.out, HXL.out] at hm
              have hle : K + m ≤ T.length := by omega
              have HLE := Lib.hid hle
              have HDR : Hid (T.drop (K + m) = (34 :: r).drop m) := Lib.hid (by rw [← List.drop_drop, HX.out])
              clear hpv hV hu hm hle
              go_wp2_with fail
              refine (qtext_calls b T K _ _ 0 _ HRr.out hk2 (by omega)).mono ?_
              rintro e5 w5 ⟨rfl, h5, k5⟩
              rw [HX.out, HXX.out, HVV.out, HKA.out] at h5
              rw [HX.out, HXX.out, HVV.out]
              have H5 := Lib.hid h5
              have K5 := Lib.hid (HKr.out.trans k5 (fun q hq => .inl hq))
              clear h5 k5 c1 c2 f1
              go_wp2_with fail
              refine (qput_calls b T _ vs _ 0 ⟨4, key, x, 0⟩ deep _ H5.out (by omega) (by omega)).mono ?_
              rintro e7 w7 ⟨rfl, v7, G⟩
              have G7 := Lib.hid G
              clear G
              go_wp2_with fail
              go_ret
              exact QV.one HR0.out G7.out K5.out HLE.out HDR.out
        by_cases h91 : c = 91
        · subst h91
          by_cases hfull : 50 ≤ deep ∨ 5000 ≤ vs.length
          · have hRe : Hid (R = .error 2) := Lib.hid (by rw [← HR.out]; exact pv_full HSK.out (by decide) hfull)
            by_cases hd5 : 50 ≤ deep
            · rw [decide_eq_true hd5] at hdI
              clear hnI
              go_wp2_with fail
              refine (qfail_calls b T _ _ _ 0 2 _ HRr.out).mono ?_
              rintro e6 w6 ⟨rfl, h6, k6⟩
              have H6 := Lib.hid h6
              have K6 := Lib.hid (HKr.out.trans k6 (fun q hq => .inl hq))
              clear h6 k6
              go_wp2_with fail
              go_ret
              exact QV.fail hRe.out H6.out K6.out
            · rw [decide_eq_false hd5] at hdI
              rw [decide_eq_true (hfull.resolve_left hd5)] at hnI
              go_wp2_with fail
              refine (qfail_calls b T _ _ _ 0 2 _ HRr.out).mono ?_
              rintro e6 w6 ⟨rfl, h6, k6⟩
              have H6 := Lib.hid h6
              have K6 := Lib.hid (HKr.out.trans k6 (fun q hq => .inl hq))
              clear h6 k6
              go_wp2_with fail
              go_ret
              exact QV.fail hRe.out H6.out K6.out
          · have hpv := pv_go (f := f) (key := key) HSK.out (by decide) hfull
            rw [HR.out, HWN.out] at hpv
            simp only [] at hpv
            rw [decide_eq_false (show ¬ 50 ≤ deep by omega)] at hdI
            rw [decide_eq_false (show ¬ 5000 ≤ vs.length by omega)] at hnI
            rw [if_neg (by decide), if_pos trivial] at hpv
            have hK1 : K + 1 ≤ T.length := by
              have h1 := HN.out
              have h2 := HXL.out
              rw [List.length_cons] at h1
              omega
            have hdr : T.drop (K + 1) = r := by rw [← List.drop_drop, HX.out]; rfl
            rw [← hdr] at hpv
            have HPV := Lib.hid hpv
            have hwk : IntKind.i64.wrap ((K : Int) + 1) = (K : Int) + 1 := by simp [IntKind.wrap, IntKind.bits, IntKind.signed]; omega
            clear hpv hdr
            go_upto_region 26 with fail
            have H5 : Hid (Rq b T (K + 1) vs (.slice a vs.length cp) 0 (wr.setCell ⟨b, 1, none⟩ (.int .i64 ((K : Int) + 1)))) := Lib.hid (HRr.out.putAt (K + 1) (by go_num))
            have K5 : Hid (Kp [b] w (wr.setCell ⟨b, 1, none⟩ (.int .i64 ((K : Int) + 1)))) := Lib.hid (HKr.out.put 1 _)
            clear c1 c2 f1 HRr HKr HWB p0 p1 p2
            generalize wr.setCell ⟨b, 1, none⟩ (.int .i64 ((K : Int) + 1)) = w5 at *
            have c2 := H5.out.c2
            have f2 := H5.out.free 2
            have hbl := H5.out.lt
            have hne := H5.out.ne
            have h6 : Below w5.heap.size w5 (w5.alloc (.cells #[.int .i64 5, .string ⟨key.toArray⟩, .string ⟨#[]⟩, .int .i64 0] 56)) := (Below.refl _ w5).alloc (Nat.le_refl _) _
            have H6 := Lib.hid (H5.out.fresh h6)
            have hown := H6.out.own
            have hblk : (w5.alloc (.cells #[.int .i64 5, .string ⟨key.toArray⟩, .string ⟨#[]⟩, .int .i64 0] 56)).heap[w5.heap.size]? = some (.cells #[.int .i64 (⟨5, key, [], 0⟩ : V).kind, .string ⟨(⟨5, key, [], 0⟩ : V).key.toArray⟩, .string ⟨(⟨5, key, [], 0⟩ : V).text.toArray⟩, .int .i64 (⟨5, key, [], 0⟩ : V).count] 56 (0, 0)) := heap_alloc_new w5 _
            have hbase : b + 1 ≤ (w5.alloc (.cells #[.int .i64 5, .string ⟨key.toArray⟩, .string ⟨#[]⟩, .int .i64 0] 56)).heap.size := by have := h6.size; omega
            have hfar : some b ≠ (Value.slice a vs.length cp).ownBlock := fun he => by have := (hne b he.symm).1; omega
            have hblt : b < (w5.alloc (.cells #[.int .i64 5, .string ⟨key.toArray⟩, .string ⟨#[]⟩, .int .i64 0] 56)).heap.size := by omega
            have HC2 := Lib.hid H6.out.c2
            have HF2 := Lib.hid (H6.out.free 2)
            have HFAR := Lib.hid hfar
            have HBLT := Lib.hid hblt
            have H6K := Lib.hid h6
            clear h6 hfar hblt hne
            go_upto_region 27 with (at_builtin; refine wpList_append_v rfl _ _ rfl (b + 1) (.slice a vs.length cp) vs rfl hown w5.heap.size 1 ⟨5, key, [], 0⟩ (0, 0) rfl hblk (by omega) hbase ?_; intro g cap2 w7 hown3 hgr3 hat3 hlt3; have hw2 : w7.cell? ⟨b, 2, none⟩ = some (.slice a vs.length cp) := (hgr3.cell_far ⟨b, 2, none⟩ HBLT.out HFAR.out).trans HC2.out; have hwf : w7.frozen? ⟨b, 2, none⟩ = false := (hgr3.frozen_far ⟨b, 2, none⟩ HBLT.out HFAR.out).trans HF2.out)
            have G7 : Hid (Grew b T (K + 1) (vs ++ [⟨5, key, [], 0⟩]) (.slice (some ⟨g, 0, none⟩) (vs.length + 1) cap2) 0 w5 (w7.setCell ⟨b, 2, none⟩ (.slice (some ⟨g, 0, none⟩) (vs.length + 1) cap2)) (.slice a vs.length cp)) := Lib.hid (Grew.mk (H6.out.append hgr3 hown3)
              (((Kp.of_below (S := b :: (Value.slice a vs.length cp).ownBlock.toList) H6K.out).grown hgr3 (fun q hq => .inl (by rw [hq]; simp))).setCell (p := ⟨b, 2, none⟩) (.inl (by simp)) _)
              (fun q hq => by
                have hq : g = q := by simpa [Value.ownBlock] using hq
                subst hq
                rcases hat3 with h1 | h1
                · exact .inl h1
                · exact .inr (by rw [h1]; exact H6K.out.size)))
            clear hw2 hwf hown3 hgr3 hat3 hlt3 hown hblk hbase H6 HC2 HF2 HBLT H6K c2 f2
            generalize w7.setCell ⟨b, 2, none⟩ (.slice (some ⟨g, 0, none⟩) (vs.length + 1) cap2) = w8 at *
            have c2 := G7.out.rd.c2
            have hx1 : ((vs.length + 1 : Nat) : Int) - 1 = (vs.length : Int) := by omega
            have hx2 : (vs.length : Int) + 1 - 1 = (vs.length : Int) := by omega
            have hx3 : IntKind.i64.wrap (vs.length : Int) = (vs.length : Int) := by simp [IntKind.wrap, IntKind.bits, IntKind.signed]; omega
            go_wp2_with fail
            refine (qlist_calls f hV b T (K + 1) vs key _ deep _ G7.out.rd hK1 hT (by omega) (by omega) (by omega)).mono ?_
            rintro e9 w9 hq
            obtain ⟨B, rfl⟩ := hq.bool
            have HQ := Lib.hid hq
            clear hq
            go_wp2_with fail
            go_ret
            exact QV.kids HPV.out K5.out G7.out HQ.out
        by_cases h123 : c = 123
        · subst h123
          by_cases hfull : 50 ≤ deep ∨ 5000 ≤ vs.length
          · have hRe : Hid (R = .error 2) := Lib.hid (by rw [← HR.out]; exact pv_full HSK.out (by decide) hfull)
            by_cases hd5 : 50 ≤ deep
            · rw [decide_eq_true hd5] at hdI
              clear hnI
              go_wp2_with fail
              refine (qfail_calls b T _ _ _ 0 2 _ HRr.out).mono ?_
              rintro e6 w6 ⟨rfl, h6, k6⟩
              have H6 := Lib.hid h6
              have K6 := Lib.hid (HKr.out.trans k6 (fun q hq => .inl hq))
              clear h6 k6
              go_wp2_with fail
              go_ret
              exact QV.fail hRe.out H6.out K6.out
            · rw [decide_eq_false hd5] at hdI
              rw [decide_eq_true (hfull.resolve_left hd5)] at hnI
              go_wp2_with fail
              refine (qfail_calls b T _ _ _ 0 2 _ HRr.out).mono ?_
              rintro e6 w6 ⟨rfl, h6, k6⟩
              have H6 := Lib.hid h6
              have K6 := Lib.hid (HKr.out.trans k6 (fun q hq => .inl hq))
              clear h6 k6
              go_wp2_with fail
              go_ret
              exact QV.fail hRe.out H6.out K6.out
          · have hpv := pv_go (f := f) (key := key) HSK.out (by decide) hfull
            rw [HR.out, HWN.out] at hpv
            simp only [] at hpv
            rw [decide_eq_false (show ¬ 50 ≤ deep by omega)] at hdI
            rw [decide_eq_false (show ¬ 5000 ≤ vs.length by omega)] at hnI
            rw [if_neg (by decide), if_neg (by decide), if_pos trivial] at hpv
            have hK1 : K + 1 ≤ T.length := by
              have h1 := HN.out
              have h2 := HXL.out
              rw [List.length_cons] at h1
              omega
            have hdr : T.drop (K + 1) = r := by rw [← List.drop_drop, HX.out]; rfl
            rw [← hdr] at hpv
            have HPV := Lib.hid hpv
            have hwk : IntKind.i64.wrap ((K : Int) + 1) = (K : Int) + 1 := by simp [IntKind.wrap, IntKind.bits, IntKind.signed]; omega
            clear hpv hdr
            go_upto_region 30 with fail
            have H5 : Hid (Rq b T (K + 1) vs (.slice a vs.length cp) 0 (wr.setCell ⟨b, 1, none⟩ (.int .i64 ((K : Int) + 1)))) := Lib.hid (HRr.out.putAt (K + 1) (by go_num))
            have K5 : Hid (Kp [b] w (wr.setCell ⟨b, 1, none⟩ (.int .i64 ((K : Int) + 1)))) := Lib.hid (HKr.out.put 1 _)
            clear c1 c2 f1 HRr HKr HWB p0 p1 p2
            generalize wr.setCell ⟨b, 1, none⟩ (.int .i64 ((K : Int) + 1)) = w5 at *
            have c2 := H5.out.c2
            have f2 := H5.out.free 2
            have hbl := H5.out.lt
            have hne := H5.out.ne
            have h6 : Below w5.heap.size w5 (w5.alloc (.cells #[.int .i64 6, .string ⟨key.toArray⟩, .string ⟨#[]⟩, .int .i64 0] 56)) := (Below.refl _ w5).alloc (Nat.le_refl _) _
            have H6 := Lib.hid (H5.out.fresh h6)
            have hown := H6.out.own
            have hblk : (w5.alloc (.cells #[.int .i64 6, .string ⟨key.toArray⟩, .string ⟨#[]⟩, .int .i64 0] 56)).heap[w5.heap.size]? = some (.cells #[.int .i64 (⟨6, key, [], 0⟩ : V).kind, .string ⟨(⟨6, key, [], 0⟩ : V).key.toArray⟩, .string ⟨(⟨6, key, [], 0⟩ : V).text.toArray⟩, .int .i64 (⟨6, key, [], 0⟩ : V).count] 56 (0, 0)) := heap_alloc_new w5 _
            have hbase : b + 1 ≤ (w5.alloc (.cells #[.int .i64 6, .string ⟨key.toArray⟩, .string ⟨#[]⟩, .int .i64 0] 56)).heap.size := by have := h6.size; omega
            have hfar : some b ≠ (Value.slice a vs.length cp).ownBlock := fun he => by have := (hne b he.symm).1; omega
            have hblt : b < (w5.alloc (.cells #[.int .i64 6, .string ⟨key.toArray⟩, .string ⟨#[]⟩, .int .i64 0] 56)).heap.size := by omega
            have HC2 := Lib.hid H6.out.c2
            have HF2 := Lib.hid (H6.out.free 2)
            have HFAR := Lib.hid hfar
            have HBLT := Lib.hid hblt
            have H6K := Lib.hid h6
            clear h6 hfar hblt hne
            go_upto_region 31 with (at_builtin; refine wpList_append_v rfl _ _ rfl (b + 1) (.slice a vs.length cp) vs rfl hown w5.heap.size 1 ⟨6, key, [], 0⟩ (0, 0) rfl hblk (by omega) hbase ?_; intro g cap2 w7 hown3 hgr3 hat3 hlt3; have hw2 : w7.cell? ⟨b, 2, none⟩ = some (.slice a vs.length cp) := (hgr3.cell_far ⟨b, 2, none⟩ HBLT.out HFAR.out).trans HC2.out; have hwf : w7.frozen? ⟨b, 2, none⟩ = false := (hgr3.frozen_far ⟨b, 2, none⟩ HBLT.out HFAR.out).trans HF2.out)
            have G7 : Hid (Grew b T (K + 1) (vs ++ [⟨6, key, [], 0⟩]) (.slice (some ⟨g, 0, none⟩) (vs.length + 1) cap2) 0 w5 (w7.setCell ⟨b, 2, none⟩ (.slice (some ⟨g, 0, none⟩) (vs.length + 1) cap2)) (.slice a vs.length cp)) := Lib.hid (Grew.mk (H6.out.append hgr3 hown3)
              (((Kp.of_below (S := b :: (Value.slice a vs.length cp).ownBlock.toList) H6K.out).grown hgr3 (fun q hq => .inl (by rw [hq]; simp))).setCell (p := ⟨b, 2, none⟩) (.inl (by simp)) _)
              (fun q hq => by
                have hq : g = q := by simpa [Value.ownBlock] using hq
                subst hq
                rcases hat3 with h1 | h1
                · exact .inl h1
                · exact .inr (by rw [h1]; exact H6K.out.size)))
            clear hw2 hwf hown3 hgr3 hat3 hlt3 hown hblk hbase H6 HC2 HF2 HBLT H6K c2 f2
            generalize w7.setCell ⟨b, 2, none⟩ (.slice (some ⟨g, 0, none⟩) (vs.length + 1) cap2) = w8 at *
            have c2 := G7.out.rd.c2
            have hx1 : ((vs.length + 1 : Nat) : Int) - 1 = (vs.length : Int) := by omega
            have hx2 : (vs.length : Int) + 1 - 1 = (vs.length : Int) := by omega
            have hx3 : IntKind.i64.wrap (vs.length : Int) = (vs.length : Int) := by simp [IntKind.wrap, IntKind.bits, IntKind.signed]; omega
            go_wp2_with fail
            refine (qobject_calls f hV b T (K + 1) vs key _ deep _ G7.out.rd hK1 hT (by omega) (by omega) (by omega)).mono ?_
            rintro e9 w9 hq
            obtain ⟨B, rfl⟩ := hq.bool
            have HQ := Lib.hid hq
            clear hq
            go_wp2_with fail
            go_ret
            exact QV.kids HPV.out K5.out G7.out HQ.out
        have n34 : (((c.toNat : Nat) : Int) == 34) = false := by simp; intro h; exact h34 (u8_int h)
        have n91 : (((c.toNat : Nat) : Int) == 91) = false := by simp; intro h; exact h91 (u8_int h)
        have n123 : (((c.toNat : Nat) : Int) == 123) = false := by simp; intro h; exact h123 (u8_int h)
        have HNE := Lib.hid (And.intro h34 (And.intro h91 h123))
        clear h34 h91 h123
        by_cases h45 : c = 45
        · subst h45
          clear n34 n91 n123
          by_cases hfull : 50 ≤ deep ∨ 5000 ≤ vs.length
          · have hRe : Hid (R = .error 2) := Lib.hid (by rw [← HR.out]; exact pv_full HSK.out (by decide) hfull)
            by_cases hd5 : 50 ≤ deep
            · rw [decide_eq_true hd5] at hdI
              clear hnI
              go_wp2_with fail
              refine (qfail_calls b T _ _ _ 0 2 _ HRr.out).mono ?_
              rintro e6 w6 ⟨rfl, h6, k6⟩
              have H6 := Lib.hid h6
              have K6 := Lib.hid (HKr.out.trans k6 (fun q hq => .inl hq))
              clear h6 k6
              go_wp2_with fail
              go_ret
              exact QV.fail hRe.out H6.out K6.out
            · rw [decide_eq_false hd5] at hdI
              rw [decide_eq_true (hfull.resolve_left hd5)] at hnI
              go_wp2_with fail
              refine (qfail_calls b T _ _ _ 0 2 _ HRr.out).mono ?_
              rintro e6 w6 ⟨rfl, h6, k6⟩
              have H6 := Lib.hid h6
              have K6 := Lib.hid (HKr.out.trans k6 (fun q hq => .inl hq))
              clear h6 k6
              go_wp2_with fail
              go_ret
              exact QV.fail hRe.out H6.out K6.out
          · have hpv := pv_go (f := f) (key := key) HSK.out (by decide) hfull
            rw [HR.out, HWN.out] at hpv
            simp only [] at hpv
            rw [decide_eq_false (show ¬ 50 ≤ deep by omega)] at hdI
            rw [decide_eq_false (show ¬ 5000 ≤ vs.length by omega)] at hnI
            rw [if_neg (by decide), if_neg (by decide), if_neg (by decide)] at hpv
            have hnle := number_le (45 :: r)
            obtain ⟨n, hnn⟩ : ∃ n, number (45 :: r) = n := ⟨_, rfl⟩
            rw [hnn] at hpv hnle
            rw [HN.out, HXL.out] at hnle
            have HNN := Lib.hid hnn
            clear hnn
            by_cases hn0 : n = 0
            · rw [if_pos hn0] at hpv
              have hRe := Lib.hid hpv
              clear hpv
              subst hn0
              go_wp2_with fail
              refine (qnumber_calls ⟨(45 :: r).toArray⟩ _ (by have h1 := HXL.out; omega)).mono ?_
              rintro e5 w5 ⟨rfl, q5, rfl⟩
              rw [show number (⟨(45 :: r).toArray⟩ : ByteArray).data.toList = 0 from HNN.out]
              have H5 := Lib.hid (HRr.out.drewN q5)
              have K5 := Lib.hid (HKr.out.drewN q5)
              clear c1 c2 f1 HRr HKr HWB p0 p1 p2
              generalize wr.drewN q5 = w5 at *
              go_wp2_with fail
              refine (qfail_calls b T _ _ _ 0 3 _ H5.out).mono ?_
              rintro e6 w6 ⟨rfl, h6, k6⟩
              have H6 := Lib.hid h6
              have K6 := Lib.hid (K5.out.trans k6 (fun q hq => .inl hq))
              clear h6 k6
              go_wp2_with fail
              go_ret
              exact QV.fail hRe.out H6.out K6.out
            · rw [if_neg hn0] at hpv
              have HR0 := Lib.hid hpv
              have hle : K + n ≤ T.length := by omega
              have HLE := Lib.hid hle
              have HDR : Hid (T.drop (K + n) = (45 :: r).drop n) := Lib.hid (by rw [← List.drop_drop, HX.out])
              have hnz : ((n : Int) == 0) = false := by simp; omega
              have hsh := slice_high (45 :: r) n (by rw [HN.out, HXL.out]; omega)
              have hwk : IntKind.i64.wrap ((K : Int) + (n : Int)) = (K : Int) + (n : Int) := by simp [IntKind.wrap, IntKind.bits, IntKind.signed]; omega
              generalize (45 :: r).take n = Y at hsh HR0
              clear hpv hle
              go_wp2_with fail
              refine (qnumber_calls ⟨(45 :: r).toArray⟩ _ (by have h1 := HXL.out; omega)).mono ?_
              rintro e5 w5 ⟨rfl, q5, rfl⟩
              rw [show number (⟨(45 :: r).toArray⟩ : ByteArray).data.toList = n from HNN.out]
              have H5 := Lib.hid (HRr.out.drewN q5)
              have K5 := Lib.hid (HKr.out.drewN q5)
              clear c1 c2 f1 HRr HKr HWB p0 p1 p2
              generalize wr.drewN q5 = w5 at *
              have c1 := H5.out.c1
              have f1 := H5.out.free 1
              go_wp2_with fail
              refine (qput_calls b T _ vs _ 0 ⟨3, key, Y, 0⟩ deep _ (H5.out.putAt (K + n) (by go_num)) (by omega) (by omega)).mono ?_
              rintro e7 w7 ⟨rfl, v7, G⟩
              have G7 := Lib.hid G
              clear G c1 f1
              go_wp2_with fail
              go_ret
              exact QV.one HR0.out G7.out (K5.out.put 1 _) HLE.out HDR.out
        have n45 : (((c.toNat : Nat) : Int) == 45) = false := by simp; intro h; exact h45 (u8_int h)
        by_cases h48 : 48 ≤ c.toNat
        · have dge : decide ((48 : Int) ≤ ((c.toNat : Nat) : Int)) = true := decide_eq_true (by omega)
          by_cases h57 : c.toNat ≤ 57
          · have dle : decide (((c.toNat : Nat) : Int) ≤ (57 : Int)) = true := decide_eq_true (by omega)
            have HST := Lib.hid (number_sign (c := c) (.inr ⟨h48, h57⟩)).2.1
            clear h48 h57 h45
            by_cases hfull : 50 ≤ deep ∨ 5000 ≤ vs.length
            · have hRe : Hid (R = .error 2) := Lib.hid (by rw [← HR.out]; exact pv_full HSK.out HST.out hfull)
              by_cases hd5 : 50 ≤ deep
              · rw [decide_eq_true hd5] at hdI
                clear hnI
                go_wp2_with fail
                refine (qfail_calls b T _ _ _ 0 2 _ HRr.out).mono ?_
                rintro e6 w6 ⟨rfl, h6, k6⟩
                have H6 := Lib.hid h6
                have K6 := Lib.hid (HKr.out.trans k6 (fun q hq => .inl hq))
                clear h6 k6
                go_wp2_with fail
                go_ret
                exact QV.fail hRe.out H6.out K6.out
              · rw [decide_eq_false hd5] at hdI
                rw [decide_eq_true (hfull.resolve_left hd5)] at hnI
                go_wp2_with fail
                refine (qfail_calls b T _ _ _ 0 2 _ HRr.out).mono ?_
                rintro e6 w6 ⟨rfl, h6, k6⟩
                have H6 := Lib.hid h6
                have K6 := Lib.hid (HKr.out.trans k6 (fun q hq => .inl hq))
                clear h6 k6
                go_wp2_with fail
                go_ret
                exact QV.fail hRe.out H6.out K6.out
            · have hpv := pv_go (f := f) (key := key) HSK.out HST.out hfull
              rw [HR.out, HWN.out] at hpv
              simp only [] at hpv
              rw [decide_eq_false (show ¬ 50 ≤ deep by omega)] at hdI
              rw [decide_eq_false (show ¬ 5000 ≤ vs.length by omega)] at hnI
              rw [if_neg HNE.out.1, if_neg HNE.out.2.1, if_neg HNE.out.2.2] at hpv
              have hnle := number_le (c :: r)
              obtain ⟨n, hnn⟩ : ∃ n, number (c :: r) = n := ⟨_, rfl⟩
              rw [hnn] at hpv hnle
              rw [HN.out, HXL.out] at hnle
              have HNN := Lib.hid hnn
              clear hnn
              by_cases hn0 : n = 0
              · rw [if_pos hn0] at hpv
                have hRe := Lib.hid hpv
                clear hpv
                subst hn0
                go_wp2_with fail
                refine (qnumber_calls ⟨(c :: r).toArray⟩ _ (by have h1 := HXL.out; omega)).mono ?_
                rintro e5 w5 ⟨rfl, q5, rfl⟩
                rw [show number (⟨(c :: r).toArray⟩ : ByteArray).data.toList = 0 from HNN.out]
                have H5 := Lib.hid (HRr.out.drewN q5)
                have K5 := Lib.hid (HKr.out.drewN q5)
                clear c1 c2 f1 HRr HKr HWB p0 p1 p2
                generalize wr.drewN q5 = w5 at *
                go_wp2_with fail
                refine (qfail_calls b T _ _ _ 0 3 _ H5.out).mono ?_
                rintro e6 w6 ⟨rfl, h6, k6⟩
                have H6 := Lib.hid h6
                have K6 := Lib.hid (K5.out.trans k6 (fun q hq => .inl hq))
                clear h6 k6
                go_wp2_with fail
                go_ret
                exact QV.fail hRe.out H6.out K6.out
              · rw [if_neg hn0] at hpv
                have HR0 := Lib.hid hpv
                have hle : K + n ≤ T.length := by omega
                have HLE := Lib.hid hle
                have HDR : Hid (T.drop (K + n) = (c :: r).drop n) := Lib.hid (by rw [← List.drop_drop, HX.out])
                have hnz : ((n : Int) == 0) = false := by simp; omega
                have hsh := slice_high (c :: r) n (by rw [HN.out, HXL.out]; omega)
                have hwk : IntKind.i64.wrap ((K : Int) + (n : Int)) = (K : Int) + (n : Int) := by simp [IntKind.wrap, IntKind.bits, IntKind.signed]; omega
                generalize (c :: r).take n = Y at hsh HR0
                clear hpv hle
                go_wp2_with fail
                refine (qnumber_calls ⟨(c :: r).toArray⟩ _ (by have h1 := HXL.out; omega)).mono ?_
                rintro e5 w5 ⟨rfl, q5, rfl⟩
                rw [show number (⟨(c :: r).toArray⟩ : ByteArray).data.toList = n from HNN.out]
                have H5 := Lib.hid (HRr.out.drewN q5)
                have K5 := Lib.hid (HKr.out.drewN q5)
                clear c1 c2 f1 HRr HKr HWB p0 p1 p2
                generalize wr.drewN q5 = w5 at *
                have c1 := H5.out.c1
                have f1 := H5.out.free 1
                go_wp2_with fail
                refine (qput_calls b T _ vs _ 0 ⟨3, key, Y, 0⟩ deep _ (H5.out.putAt (K + n) (by go_num)) (by omega) (by omega)).mono ?_
                rintro e7 w7 ⟨rfl, v7, G⟩
                have G7 := Lib.hid G
                clear G c1 f1
                go_wp2_with fail
                go_ret
                exact QV.one HR0.out G7.out (K5.out.put 1 _) HLE.out HDR.out
          · have dle : decide (((c.toNat : Nat) : Int) ≤ (57 : Int)) = false := decide_eq_false (by omega)
            have hnd : ¬ (48 ≤ c.toNat ∧ c.toNat ≤ 57) := by omega
            have hRe : Hid (R = .error 3) := Lib.hid (by rw [← HR.out]; exact pv_not HSK.out (starts_no HH.out.1 HH.out.2.1 HH.out.2.2 HNE.out.1 HNE.out.2.1 HNE.out.2.2 h45 hnd))
            have HZ : Hid (number (c :: r) = 0) := Lib.hid (Classical.byContradiction fun h => (number_first h).elim h45 hnd)
            clear h48 h57 h45 hnd
            obtain ⟨n, hnn⟩ : ∃ n, number (c :: r) = n := ⟨_, rfl⟩
            have hn0 : n = 0 := hnn.symm.trans HZ.out
            have HNN := Lib.hid hnn
            clear hnn
            subst hn0
            go_wp2_with fail
            refine (qnumber_calls ⟨(c :: r).toArray⟩ _ (by have h1 := HXL.out; omega)).mono ?_
            rintro e5 w5 ⟨rfl, q5, rfl⟩
            rw [show number (⟨(c :: r).toArray⟩ : ByteArray).data.toList = 0 from HNN.out]
            have H5 := Lib.hid (HRr.out.drewN q5)
            have K5 := Lib.hid (HKr.out.drewN q5)
            clear c1 c2 f1 HRr HKr HWB p0 p1 p2
            generalize wr.drewN q5 = w5 at *
            go_wp2_with fail
            refine (qfail_calls b T _ _ _ 0 3 _ H5.out).mono ?_
            rintro e6 w6 ⟨rfl, h6, k6⟩
            have H6 := Lib.hid h6
            have K6 := Lib.hid (K5.out.trans k6 (fun q hq => .inl hq))
            clear h6 k6
            go_wp2_with fail
            go_ret
            exact QV.fail hRe.out H6.out K6.out
        · have dge : decide ((48 : Int) ≤ ((c.toNat : Nat) : Int)) = false := decide_eq_false (by omega)
          have hnd : ¬ (48 ≤ c.toNat ∧ c.toNat ≤ 57) := by omega
          have hRe : Hid (R = .error 3) := Lib.hid (by rw [← HR.out]; exact pv_not HSK.out (starts_no HH.out.1 HH.out.2.1 HH.out.2.2 HNE.out.1 HNE.out.2.1 HNE.out.2.2 h45 hnd))
          have HZ : Hid (number (c :: r) = 0) := Lib.hid (Classical.byContradiction fun h => (number_first h).elim h45 hnd)
          clear h48 h45 hnd
          obtain ⟨n, hnn⟩ : ∃ n, number (c :: r) = n := ⟨_, rfl⟩
          have hn0 : n = 0 := hnn.symm.trans HZ.out
          have HNN := Lib.hid hnn
          clear hnn
          subst hn0
          go_wp2_with fail
          refine (qnumber_calls ⟨(c :: r).toArray⟩ _ (by have h1 := HXL.out; omega)).mono ?_
          rintro e5 w5 ⟨rfl, q5, rfl⟩
          rw [show number (⟨(c :: r).toArray⟩ : ByteArray).data.toList = 0 from HNN.out]
          have H5 := Lib.hid (HRr.out.drewN q5)
          have K5 := Lib.hid (HKr.out.drewN q5)
          clear c1 c2 f1 HRr HKr HWB p0 p1 p2
          generalize wr.drewN q5 = w5 at *
          go_wp2_with fail
          refine (qfail_calls b T _ _ _ 0 3 _ H5.out).mono ?_
          rintro e6 w6 ⟨rfl, h6, k6⟩
          have H6 := Lib.hid h6
          have K6 := Lib.hid (K5.out.trans k6 (fun q hq => .inl hq))
          clear h6 k6
          go_wp2_with fail
          go_ret
          exact QV.fail hRe.out H6.out K6.out

theorem qok : ∀ f, QOK f := by
  intro f
  induction f using Nat.strongRecOn with
  | _ f ih =>
    cases f with
    | zero =>
      intro b T k vs v key deep w h hk hT hd hn hf
      omega
    | succ f => exact qvalue_step f (fun g hg => ih g (by omega))
end Go.Proofs.YtndkbecdjaedaaaGreatDoor
