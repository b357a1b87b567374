/- jtext.Unquote, for every string. -/
import Derived.Test.YtangbkiheoekaaaDoorJtEnv
namespace Go.Proofs.YtangbkiheoekaaaDoor
open Go.RowKit

theorem hasPrefix_one (l : List UInt8) (c : UInt8) (h : c.toNat ≠ 0) : Lib.hasPrefix l [c] = decide (gb l 0 = c.toNat) := by
  match l with
  | [] =>
    have : ¬ gb [] 0 = c.toNat := by rw [gb_nil]; omega
    rw [decide_eq_false this]; rfl
  | a :: r =>
    by_cases e : a = c
    · subst e
      rw [decide_eq_true (gb_cons_zero _ _)]
      simp [Lib.hasPrefix, List.isPrefixOf]
    · have h2 : ¬ gb (a :: r) 0 = c.toNat := fun h1 => e (UInt8.toNat_inj.1 h1)
      rw [decide_eq_false h2]
      have h3 : (c == a) = false := by simp; exact fun h4 => e h4.symm
      simp [Lib.hasPrefix, List.isPrefixOf, h3]

/-- What Unquote hands back. -/
def unqV (l : List UInt8) : List UInt8 × Nat × Bool :=
  match unq l with
  | some (x, n) => (x, n, true)
  | none => ([], 0, false)

/-- The loop's relation, in lists. -/
def UnqRel (L : List UInt8) (k : Nat) (acc : List UInt8) : Prop :=
  unq L = (uqin (L.drop k)).map fun p => (acc ++ p.1, k + p.2)

theorem unqRel_start {L : List UInt8} (h : gb L 0 = 34) : UnqRel L 1 [] := by
  unfold UnqRel unq
  rw [if_pos h]
  congr 1
  funext p
  simp; omega

theorem unqRel_end {L : List UInt8} {k : Nat} {acc : List UInt8} (h : UnqRel L k acc) (hk : k < L.length) (h34 : gb L k = 34) : unqV L = (acc, k + 1, true) := by
  unfold UnqRel at h
  rw [uqin_step (drop_ne L k hk), gb_drop, Nat.add_zero, if_pos h34] at h
  unfold unqV; rw [h]; simp
theorem unqRel_bad {L : List UInt8} {k : Nat} {acc : List UInt8} (h : UnqRel L k acc) (hk : k < L.length) (h34 : gb L k ≠ 34) (hz : (uchar (L.drop k)).2 = 0) : unqV L = ([], 0, false) := by
  unfold UnqRel at h
  rw [uqin_step (drop_ne L k hk), gb_drop, Nat.add_zero, if_neg h34, if_pos hz] at h
  unfold unqV; rw [h]; rfl
theorem unqRel_out {L : List UInt8} {k : Nat} {acc : List UInt8} (h : UnqRel L k acc) (hk : L.length ≤ k) : unqV L = ([], 0, false) := by
  unfold UnqRel at h
  rw [List.drop_of_length_le hk, uqin_nil] at h
  unfold unqV; rw [h]; rfl
theorem unqRel_step {L : List UInt8} {k : Nat} {acc : List UInt8} (h : UnqRel L k acc) (hk : k < L.length) (h34 : gb L k ≠ 34) (r n : Nat) (hu : uchar (L.drop k) = (r, n)) (hn : n ≠ 0) : UnqRel L (k + n) (acc ++ enc r) := by
  unfold UnqRel at h ⊢
  rw [uqin_step (drop_ne L k hk), gb_drop, Nat.add_zero, if_neg h34, hu, if_neg hn, List.drop_drop] at h
  rw [h, Option.map_map]
  congr 1
  funext p
  simp [Function.comp]; omega
theorem unq_no {L : List UInt8} (h : gb L 0 ≠ 34) : unqV L = ([], 0, false) := by
  unfold unqV unq; rw [if_neg h]

set_option maxHeartbeats 8000000 in
set_option maxRecDepth 1000000 in
theorem unq_calls (s : ByteArray) (w : World) (hs : s.size ≤ 1099511627776) (hT : U8 w) :
    Calls Tryd.prog 10 #[.string s] w fun e w' => e = .returned (.tuple #[.string ⟨(unqV s.data.toList).1.toArray⟩, .int .i64 (unqV s.data.toList).2.1, .bool (unqV s.data.toList).2.2]) ∧ Below w.heap.size w w' := by
  have hL : s.data.toList.length = s.size := by simp
  have hpf : Lib.hasPrefix s.data.toList [34] = decide (gb s.data.toList 0 = 34) := hasPrefix_one _ 34 (by decide)
  by_cases hq : gb s.data.toList 0 = 34
  · rw [decide_eq_true hq] at hpf
    have HP := Lib.hid hpf
    have hR0 := Lib.hid (unqRel_start hq)
    have hs1 : 1 ≤ s.size := by
      rcases Nat.eq_zero_or_pos s.size with h | h
      · rw [nil_of_size h, gb_nil] at hq; omega
      · exact h
    clear hpf hq
    go_enter Tryd.func10, Tryd.ntmps10
    go_wp2_with fail
    refine (Tryd.strings_HasPrefix _ _ _).mono ?_
    rintro e w0 ⟨rfl, rfl⟩
    rw [show Lib.hasPrefix s.data.toList (⟨#[34]⟩ : ByteArray).data.toList = true from HP.out]
    go_wp2_with fail
    go_loopw [6] (fun vk wr => ∃ (k : Nat) (acc : List UInt8), vk = .int .i64 k ∧ 1 ≤ k ∧ k ≤ s.size ∧ Bld w0.heap.size w0.heap.size acc wr ∧ Below w0.heap.size w0 wr ∧ acc.length ≤ 4 * k ∧ Hid (UnqRel s.data.toList k acc)) (fun vk _ => s.size - (intOf vk).toNat)
    case atStart => exact ⟨1, [], rfl, by omega, hs1, bld_new w0, (Below.refl _ _).alloc (Nat.le_refl _) _, by simp, hR0⟩
    case round =>
      obtain ⟨k, acc, rfl, hk1, hks, hI, hbw, hal, hR⟩ := hrel
      have hTr := u8_below hT hbw
      have hszr := hbw.size
      by_cases hk : k < s.size
      · obtain ⟨c, hc⟩ : ∃ c : UInt8, s[k]'hk = c := ⟨_, rfl⟩
        have hgc : gb s.data.toList k = c.toNat := by rw [byteAt s k hk, hc]
        have hidx : ∀ w, (Instr.index 9 (.string s) (.int .i64 (k : Int))).run Tryd.prog w = .ok (.int .u8 c.toNat) w := by
          intro w
          have hr := run_index_string (P := Tryd.prog) w 9 s .i64 (k : Int) Tryd.underlying9
          rw [dif_pos ⟨by omega, by omega⟩] at hr
          rw [hr]
          simp only [Int.toNat_natCast, hc]
        clear hc
        by_cases c34 : c.toNat = 34
        · have hb34 : ((c.toNat : Int) == 34) = true := by simp; omega
          have HU := Lib.hid (unqRel_end hR.out (by omega) (hgc.trans c34))
          clear c34 hgc
          go_wp2_with fail
          refine (bldString _ _ _ _ hI hszr).mono ?_
          rintro e w1 ⟨rfl, _, hb1, _⟩
          go_wp2_with fail
          go_ret3
          rw [HU.out]
          exact ⟨by go_num, hbw.trans hb1⟩
        · have hb34 : ((c.toNat : Int) == 34) = false := by simp; omega
          have h34 : gb s.data.toList k ≠ 34 := by rw [hgc]; exact c34
          have hdl : (s.data.toList.drop k) ≠ [] := drop_ne _ _ (by omega)
          by_cases c92 : c.toNat = 92
          · have hb92 : ((c.toNat : Int) == 92) = true := by simp; omega
            obtain ⟨u, hu⟩ : ∃ u, esc (s.data.toList.drop (k + 1)) = u := ⟨_, rfl⟩
            have hch : uchar (s.data.toList.drop k) = if u.2 = 0 then (0, 0) else (u.1, u.2 + 1) := by
              unfold uchar
              rw [gb_drop, Nat.add_zero, if_pos (hgc.trans c92), List.drop_drop, hu]
            have hu11 : u.2 ≠ 0 → u.1 ≤ 1114111 ∧ k + 1 + u.2 ≤ s.size := by
              intro h
              rw [← hu] at h ⊢
              have := esc_vr h
              rw [List.length_drop] at this
              have hv := this.1
              unfold vr at hv
              omega
            have HU := Lib.hid (show esc (s.extract (k + 1) s.size).data.toList = u by rw [Lib.extract_to_end]; exact hu)
            have HH := Lib.hid hch
            have HG := Lib.hid h34
            clear hu hch h34 c34 c92 hgc hdl
            by_cases h2 : u.2 = 0
            · have hb2 : ((u.2 : Int) == 0) = true := by simp; omega
              have HB := Lib.hid (unqRel_bad hR.out (by omega) HG.out (by rw [HH.out, if_pos h2]))
              clear h2
              go_wp2_with fail
              refine (esc_calls _ _).mono ?_
              rintro e w1 ⟨rfl, hb1⟩
              rw [HU.out]
              go_wp2_with fail
              go_ret3
              rw [HB.out]
              exact ⟨rfl, hbw.trans (hb1.mono hszr)⟩
            · have hb2 : ((u.2 : Int) == 0) = false := by simp; omega
              have HB := Lib.hid (unqRel_step hR.out (by omega) HG.out u.1 (u.2 + 1) (by rw [HH.out, if_neg h2]) (by omega))
              obtain ⟨hr11, hn11⟩ := hu11 h2
              clear h2
              go_wp2_with fail
              refine (esc_calls _ _).mono ?_
              rintro e w1 ⟨rfl, hb1⟩
              rw [HU.out]
              have hI1 := bld_below hI hb1
              have hz1 := hb1.size
              go_wp2_with fail
              refine (writeRune _ _ acc u.1 hr11 _ hI1 (by omega) (by omega)).mono ?_
              rintro e w2 ⟨n, rfl, hI2, hb2', _⟩
              go_wp2_with fail
              go_roundw
              case rel =>
                have := enc_length_le u.1
                refine ⟨k + (u.2 + 1), acc ++ enc u.1, by go_num, by omega, by omega, hI2, (hbw.trans (hb1.mono hszr)).trans hb2', by simp; omega, HB.out⟩
              case measure => simp [intOf]; omega
          · have hb92 : ((c.toNat : Int) == 92) = false := by simp; omega
            obtain ⟨u, hu⟩ : ∃ u, plainc (s.data.toList.drop k) = u := ⟨_, rfl⟩
            have hch : uchar (s.data.toList.drop k) = u := by
              unfold uchar
              rw [gb_drop, Nat.add_zero, if_neg (by omega), hu]
            have hu11 : u.2 ≠ 0 → u.1 ≤ 1114111 ∧ k + u.2 ≤ s.size := by
              intro h
              have h1 := uchar_vr hdl (by rw [hch]; exact h)
              rw [hch, List.length_drop] at h1
              have hv := h1.1
              unfold vr at hv
              omega
            have HU := Lib.hid (show plainc (s.extract k s.size).data.toList = u by rw [Lib.extract_to_end]; exact hu)
            have hszx : 0 < (s.extract k s.size).size := by simp; omega
            have HZ := Lib.hid hszx
            have HH := Lib.hid hch
            have HG := Lib.hid h34
            clear hu hch h34 c34 c92 hgc hdl hszx
            by_cases h2 : u.2 = 0
            · have hb2 : ((u.2 : Int) == 0) = true := by simp; omega
              have HB := Lib.hid (unqRel_bad hR.out (by omega) HG.out (by rw [HH.out, h2]))
              clear h2
              go_wp2_with fail
              refine (plain_calls _ _ HZ.out hTr).mono ?_
              rintro e w1 ⟨rfl, hb1⟩
              rw [HU.out]
              go_wp2_with fail
              go_ret3
              rw [HB.out]
              exact ⟨rfl, hbw.trans (hb1.mono hszr)⟩
            · have hb2 : ((u.2 : Int) == 0) = false := by simp; omega
              have HB := Lib.hid (unqRel_step hR.out (by omega) HG.out u.1 u.2 (by rw [HH.out]) h2)
              obtain ⟨hr11, hn11⟩ := hu11 h2
              have hu1 : 1 ≤ u.2 := by omega
              clear h2
              go_wp2_with fail
              refine (plain_calls _ _ HZ.out hTr).mono ?_
              rintro e w1 ⟨rfl, hb1⟩
              rw [HU.out]
              have hI1 := bld_below hI hb1
              have hz1 := hb1.size
              go_wp2_with fail
              refine (writeRune _ _ acc u.1 hr11 _ hI1 (by omega) (by omega)).mono ?_
              rintro e w2 ⟨n, rfl, hI2, hb2', _⟩
              go_wp2_with fail
              go_roundw
              case rel =>
                have := enc_length_le u.1
                refine ⟨k + u.2, acc ++ enc u.1, by go_num, by omega, by omega, hI2, (hbw.trans (hb1.mono hszr)).trans hb2', by simp; omega, HB.out⟩
              case measure => simp [intOf]; omega
      · have HU := Lib.hid (unqRel_out hR.out (by omega))
        go_wp2_with fail
        go_ret3
        rw [HU.out]
        exact ⟨rfl, hbw⟩
  · rw [decide_eq_false hq] at hpf
    have HP := Lib.hid hpf
    have HU := Lib.hid (unq_no hq)
    clear hpf hq
    go_enter Tryd.func10, Tryd.ntmps10
    go_wp2_with fail
    refine (Tryd.strings_HasPrefix _ _ _).mono ?_
    rintro e w0 ⟨rfl, rfl⟩
    rw [show Lib.hasPrefix s.data.toList (⟨#[34]⟩ : ByteArray).data.toList = false from HP.out]
    go_wp2_with fail
    go_ret3
    rw [HU.out]
    exact ⟨rfl, Below.refl _ _⟩
end Go.Proofs.YtangbkiheoekaaaDoor
