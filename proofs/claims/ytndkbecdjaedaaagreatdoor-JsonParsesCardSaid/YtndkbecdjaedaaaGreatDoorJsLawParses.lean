/- The law JsonParses: any bytes are parsed as the reference says. -/
import Derived.Test.YtndkbecdjaedaaaGreatDoorJsSm
import Derived.Test.YtndkbecdjaedaaaGreatDoorJsSize
import Derived.Test.YtndkbecdjaedaaaGreatDoorJsVs
import Derived.Test.YtndkbecdjaedaaaGreatDoorJsQ7
import Derived.Test.YtndkbecdjaedaaaGreatDoorJsParse
namespace Go.Proofs.YtndkbecdjaedaaaGreatDoor
open Go.RowKit

theorem err_ne (f : Nat) : (∀ l n key deep c, pval f l n key deep = .error c → c ≠ 0) ∧ (∀ l n deep c, pitems f l n deep = .error c → c ≠ 0) ∧ (∀ l n deep had c, pmems f l n deep had = .error c → c ≠ 0) := by
  induction f with
  | zero =>
    refine ⟨?_, ?_, ?_⟩
    · intro l n key deep c h
      simp only [pval] at h
      cases h; decide
    · intro l n deep c h
      simp only [pitems] at h
      cases h; decide
    · intro l n deep had c h
      simp only [pmems] at h
      cases h; decide
  | succ f ih =>
    obtain ⟨h1, h2, h3⟩ := ih
    refine ⟨?_, ?_, ?_⟩
    · intro l n key deep c h
      simp only [pval] at h
      repeat' split at h
      all_goals first | (cases h; decide) | (cases h; done) | (cases h; exact h2 _ _ _ _ (by assumption)) | (cases h; exact h3 _ _ _ _ _ (by assumption))
    · intro l n deep c h
      simp only [pitems] at h
      repeat' split at h
      all_goals first | (cases h; decide) | (cases h; done) | (cases h; exact h1 _ _ _ _ _ (by assumption)) | (cases h; exact h2 _ _ _ _ (by assumption))
    · intro l n deep had c h
      simp only [pmems] at h
      repeat' split at h
      all_goals first | (cases h; decide) | (cases h; done) | (cases h; exact h1 _ _ _ _ _ (by assumption)) | (cases h; exact h3 _ _ _ _ _ (by assumption))

set_option maxHeartbeats 2000000 in
set_option maxRecDepth 1000000 in
theorem qskip_any (b : Nat) (T : List UInt8) (k : Nat) (vs : List V) (v : Value) (e : Int) (w : World) (h : Rq b T k vs v e w) (hT : T.length ≤ 1099511627776) :
    Calls Tryz.prog 63 #[.pointer (some ⟨b, 0, none⟩)] w fun x w' => x = .returned (.tuple #[]) ∧ (∃ k', Rq b T k' vs v e w') ∧ Kp [b] w w' := by
  by_cases hk : k ≤ T.length
  · exact (qskip_calls b T k vs v e w h hk hT).mono fun x w' ⟨h1, h2, h3⟩ => ⟨h1, ⟨_, h2⟩, h3⟩
  · have HZ : Hid (Rq b T k vs v e w ∧ Kp [b] w w) := Lib.hid ⟨h, Kp.refl _ _⟩
    have hTs : (⟨T.toArray⟩ : ByteArray).size = T.length := by simp [ByteArray.size]
    clear h
    go_enter Tryz.func63, Tryz.ntmps63
    go_wp2_with fail
    go_loopw [] (fun wr => Hid (Rq b T k vs v e wr ∧ Kp [b] w wr)) (fun _ => 0)
    case atStart => exact HZ
    case round =>
      have HR := Lib.hid hrel.out.1
      have HK := Lib.hid hrel.out.2
      have c0 := HR.out.c0
      have c1 := HR.out.c1
      have hi1 : decide ((k : Int) < (T.length : Int)) = false := decide_eq_false (by omega)
      have hi2 : decide (k < T.length) = false := decide_eq_false (by omega)
      clear hrel hk
      go_wp2_with fail
      go_quiet (fail)
      have HRq := Lib.hid (HR.out.drewN nq)
      have HKq := Lib.hid (HK.out.drewN nq)
      clear c0 c1 HR HK
      generalize wr.drewN nq = wq at *
      go_wp2_with fail
      go_end0
      exact ⟨rfl, ⟨_, HRq.out⟩, HKq.out⟩

set_option maxHeartbeats 4000000 in
set_option maxRecDepth 1000000 in
theorem rparse_any (v : Value) (l : List UInt8) (w : World) (hb : Bt w v l) (hl : l.length ≤ 1099511627775) :
    Calls Tryz.prog 29 #[v] w fun e w' => ParseR w (jparse l) e w' ∧ Below w.heap.size w w' := by
  have hcv := hb.text
  obtain ⟨a, cap, hv⟩ := hb.len
  have R0 : Hid (Rq w.heap.size l 0 [] (.slice none 0 0) 0 (w.alloc (.cells #[.string ⟨l.toArray⟩, .int .i64 0, .slice none 0 0, .int .i64 0] 89))) :=
    Lib.hid ⟨heap_alloc_new _ _, World.ownsRow_nil _ _ _ _⟩
  have hls : (⟨l.toArray⟩ : ByteArray).size = l.length := by simp [ByteArray.size]
  clear hb
  subst hv
  go_enter Tryz.func29, Tryz.ntmps29
  go_wp2_with fail
  refine (qok (2 * l.length + 2) w.heap.size l 0 [] _ [] 0 _ R0.out (by omega) hl (by omega) (by simp) (by omega)).mono ?_
  rintro e1 w1 ⟨hP, hk1⟩
  have k1 : Below w.heap.size w w1 := ((Below.refl w.heap.size w).alloc (Nat.le_refl _) _).trans (hk1.below (fun k hk => by simp [Value.ownBlock] at hk; omega) (by simp))
  have hpj : jparse l = match pval (2 * l.length + 2) l 0 [] 0 with | .error e => .error e | .ok (vs, r) => if skip r = [] then .ok vs else .error 3 := rfl
  have HPJ := Lib.hid hpj
  have K1 := Lib.hid k1
  clear hk1 k1 hpj R0 hcv
  rw [List.drop_zero] at hP
  cases hp : pval (2 * l.length + 2) l ([] : List V).length [] 0 with
  | error c =>
    rw [hp] at hP
    obtain ⟨rfl, k', vs', v', h1⟩ := hP
    have hjp : jparse l = .error c := by rw [HPJ.out, show pval (2 * l.length + 2) l 0 [] 0 = .error c from hp]
    have HJP := Lib.hid hjp
    have hc0 := (err_ne _).1 _ _ _ _ _ hp
    have he2 : (c != 0) = true := by simpa using hc0
    have he1 : (c == 0) = false := by simpa using hc0
    have H1 := Lib.hid h1
    clear hjp hp h1
    go_wp2_with fail
    refine (qskip_any _ l k' _ _ _ _ H1.out (by omega)).mono ?_
    rintro e2 w2 ⟨rfl, ⟨k2, h2⟩, kk⟩
    have c0 := h2.c0
    have c1 := h2.c1
    have c3 := h2.c3
    have H2 := Lib.hid h2
    have K2 := Lib.hid (K1.out.trans (kk.below (fun k hk => by simp at hk; omega) K1.out.size))
    clear h2 kk
    go_wp2_with fail
    go_quiet (fail)
    have H3 := Lib.hid (H2.out.drewN nq)
    have K3 := Lib.hid (below_drewN K2.out nq)
    have c3q := H3.out.c3
    clear c0 c1 c3 H2 K2
    generalize w2.drewN nq = w3 at *
    go_wp2_with fail
    go_quiet (fail)
    go_wp2_with fail
    go_ret2
    rw [HJP.out]
    exact ⟨rfl, below_drewN K3.out nq⟩
  | ok p =>
    obtain ⟨xs, r⟩ := p
    rw [hp] at hP
    obtain ⟨rfl, k', v', hkl, hdr, h1, _⟩ := hP
    rw [List.nil_append] at h1
    have hjp : jparse l = if skip r = [] then .ok xs else .error 3 := by rw [HPJ.out, show pval (2 * l.length + 2) l 0 [] 0 = .ok (xs, r) from hp]
    obtain ⟨hsk, hs1, hs2⟩ := skipAt_drop l k' hkl
    rw [hdr] at hsk
    rw [← hsk] at hjp
    have HJP := Lib.hid hjp
    have H1 := Lib.hid h1
    obtain ⟨A, hA⟩ : ∃ A, skipAt l k' = A := ⟨_, rfl⟩
    rw [hA] at hjp hs2
    have HA := Lib.hid hA
    clear hjp hp h1 hsk hdr hA hs1
    go_wp2_with fail
    refine (qskip_calls _ l k' _ _ _ _ H1.out hkl (by omega)).mono ?_
    rintro e2 w2 ⟨rfl, h2, kk⟩
    have hjp := HJP.out
    rw [HA.out] at h2 hjp
    have c0 := h2.c0
    have c1 := h2.c1
    have c3 := h2.c3
    have H2 := Lib.hid h2
    have K2 := Lib.hid (K1.out.trans (kk.below (fun k hk => by simp at hk; omega) K1.out.size))
    clear h2 kk
    by_cases hAl : A < l.length
    · have hg : decide ((A : Int) < (l.length : Int)) = true := decide_eq_true (by omega)
      have hg2 : decide (A < l.length) = true := decide_eq_true (by omega)
      rw [if_neg (by intro h; have := congrArg List.length h; rw [List.length_drop, List.length_nil] at this; omega)] at hjp
      have HJ := Lib.hid hjp
      clear hjp
      go_wp2_with fail
      go_quiet (fail)
      have H3 := Lib.hid (H2.out.drewN nq)
      have K3 := Lib.hid (below_drewN K2.out nq)
      have c3q := H3.out.c3
      have f3q := H3.out.free 3
      clear c0 c1 c3 H2 K2 hg
      generalize w2.drewN nq = w3 at *
      go_upto_region 6 with fail
      have H4 := Lib.hid (H3.out.putE 3)
      have K4 : Hid (Below w.heap.size w (w3.setCell ⟨w.heap.size, 3, none⟩ (.int .i64 3))) := Lib.hid (K3.out.trans (((Kp.refl [w.heap.size] w3).put 3 _).below (fun k hk => by simp at hk; omega) K3.out.size))
      clear c3q f3q H3
      generalize w3.setCell ⟨w.heap.size, 3, none⟩ (.int .i64 3) = w4 at *
      have c3 := H4.out.c3
      go_wp2_with fail
      go_quiet (fail)
      go_wp2_with fail
      go_ret2
      rw [HJ.out]
      exact ⟨rfl, below_drewN K4.out nq⟩
    · have hg : decide ((A : Int) < (l.length : Int)) = false := decide_eq_false (by omega)
      have hg2 : decide (A < l.length) = false := decide_eq_false (by omega)
      rw [if_pos (by rw [List.drop_eq_nil_iff]; omega)] at hjp
      have HJ := Lib.hid hjp
      clear hjp
      go_wp2_with fail
      go_quiet (fail)
      have H3 := Lib.hid (H2.out.drewN nq)
      have K3 := Lib.hid (below_drewN K2.out nq)
      have c3q := H3.out.c3
      have c2q := H3.out.c2
      clear c0 c1 c3 H2 K2 hg
      generalize w2.drewN nq = w3 at *
      go_wp2_with fail
      go_ret2
      rw [HJ.out]
      exact ⟨⟨v', rfl, own_lower H3.out.own⟩, K3.out⟩

theorem parse_len {b : List UInt8} {l : List V} (h : jparse b = .ok l) : l.length ≤ 5000 := by
  have := parse_right h
  unfold jright at this
  rw [Bool.and_eq_true] at this
  exact of_decide_eq_true this.1

set_option maxHeartbeats 16000000 in
set_option maxRecDepth 1000000 in
theorem jparses_calls (vb : Value) (b : List UInt8) (w : World) (hb : Bt w vb b) (hE : Env w) (hW : Words w) :
    Calls Tryz.prog 8 #[vb] w fun e w' => e = .returned (.bool true) ∧ Below w.heap.size w w' := by
  obtain ⟨ab, cb, hvb⟩ := hb.len
  have HBB := Lib.hid hb
  have HE := Lib.hid hE
  have HW := Lib.hid hW
  clear hb hE hW
  subst hvb
  by_cases hbl : 2000 < b.length
  · have hbl' : (2000 : Int) < (b.length : Int) := by omega
    go_enter Tryz.func8, Tryz.ntmps8
    go_wp2_with fail
    refine (sml_calls _ HE.out HW.out).mono ?_
    rintro e1 w1 ⟨rfl, hb1⟩
    have HB1 := Lib.hid hb1
    clear hb1
    go_wp2_with fail
    go_ret
    exact ⟨rfl, HB1.out⟩
  · have hbl' : ¬ (2000 : Int) < (b.length : Int) := by omega
    obtain ⟨JP, hJP⟩ : ∃ JP, jparse b = JP := ⟨_, rfl⟩
    have HJP := Lib.hid hJP
    clear hJP
    go_enter Tryz.func8, Tryz.ntmps8
    go_wp2_with fail
    refine (sml_calls _ HE.out HW.out).mono ?_
    rintro e1 w1 ⟨rfl, hb1⟩
    have HB1 := Lib.hid hb1
    clear hb1
    go_wp2_with fail
    refine (parse_any _ b _ (HBB.out.kept HB1.out) (HE.out.below HB1.out) (words_below HW.out HB1.out) (by omega)).mono ?_
    rintro e2 w2 ⟨hP, hb2⟩
    have HB2 := Lib.hid (HB1.out.trans (hb2.mono HB1.out.size))
    rw [HJP.out] at hP
    clear hb2
    cases JP with
    | error c =>
      obtain rfl := hP
      go_wp2_with fail
      refine (rparse_any _ b _ (HBB.out.kept HB2.out) (by omega)).mono ?_
      rintro e3 w3 ⟨hP, hb3⟩
      have HB3 := Lib.hid (HB2.out.trans (hb3.mono HB2.out.size))
      rw [HJP.out] at hP
      obtain rfl := hP
      clear hb3
      go_wp2_with fail
      refine (same_calls _ _ [] [] _ (.inl ⟨rfl, _, _, rfl⟩) (.inl ⟨rfl, _, _, rfl⟩) (by simp)).mono ?_
      rintro e5 w5 ⟨rfl, hb5⟩
      rw [sameV_refl]
      have HB5 := Lib.hid (HB3.out.trans (hb5.mono HB3.out.size))
      clear hb5
      go_wp2_with fail
      go_ret
      exact ⟨by simp, HB5.out⟩
    | ok l =>
      have hl5 := parse_len HJP.out
      obtain ⟨va, rfl, hown⟩ := hP
      have HV2 := Lib.hid (vs_of_own hown)
      clear hown
      obtain ⟨aa, ca, rfl⟩ := HV2.out.len
      go_wp2_with fail
      refine (rparse_any _ b _ (HBB.out.kept HB2.out) (by omega)).mono ?_
      rintro e3 w3 ⟨hP, hb3⟩
      have HB3 := Lib.hid (HB2.out.trans (hb3.mono HB2.out.size))
      have HV3 := Lib.hid (HV2.out.kept hb3)
      rw [HJP.out] at hP
      obtain ⟨vc, rfl, hown⟩ := hP
      have HU3 := Lib.hid (vs_of_own hown)
      clear hb3 hown
      obtain ⟨ac, cc, rfl⟩ := HU3.out.len
      go_wp2_with fail
      refine (same_calls _ _ l l _ HV3.out HU3.out (by omega)).mono ?_
      rintro e5 w5 ⟨rfl, hb5⟩
      rw [sameV_refl]
      have HB5 := Lib.hid (HB3.out.trans (hb5.mono HB3.out.size))
      clear hb5
      go_wp2_with fail
      go_ret
      exact ⟨by simp, HB5.out⟩
end Go.Proofs.YtndkbecdjaedaaaGreatDoor
