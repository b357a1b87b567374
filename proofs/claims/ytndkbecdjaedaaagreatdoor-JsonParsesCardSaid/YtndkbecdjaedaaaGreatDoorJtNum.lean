/- jtext.digits, jtext.Number. -/
import Derived.Test.YtndkbecdjaedaaaGreatDoorJtUnq
import Derived.Shelf.Strings.SlTrimAscii
import Derived.Deep.DeepCutAuto
import Derived.Outline
namespace Go.Proofs.YtndkbecdjaedaaaGreatDoor
open Go.RowKit

def tens : ByteArray := ⟨#[48, 49, 50, 51, 52, 53, 54, 55, 56, 57]⟩
theorem tens_isd : ∀ c : Nat, c < 256 → tens.data.toList.contains (UInt8.ofNat c) = isd (UInt8.ofNat c) := by decide +kernel
theorem tens_ascii : ∀ (j : Nat) b, tens.data.toList[j]? = some b → b.toNat < 128 := by
  intro j b h
  have h3 : ∀ y ∈ tens.data.toList, y.toNat < 128 := by decide
  exact h3 b (List.mem_of_getElem? h)

theorem dropWhile_len (p : UInt8 → Bool) (l : List UInt8) : (l.dropWhile p).length + (l.takeWhile p).length = l.length := by
  induction l with
  | nil => rfl
  | cons a r ih =>
    by_cases h : p a = true
    · simp [h]; omega
    · simp [h]

theorem trim_digs (l : List UInt8) : (Lib.trimLeftS l tens.data.toList).length + digs l = l.length := by
  unfold Lib.trimLeftS digs
  have : (fun x => tens.data.toList.contains x) = isd := by
    funext x
    have := tens_isd x.toNat x.toNat_lt
    simpa using this
  rw [this]; exact dropWhile_len _ _

set_option maxHeartbeats 2000000 in
set_option maxRecDepth 100000 in
theorem digits_calls (s : ByteArray) (w : World) (hs : s.size ≤ 1099511627776) :
    Calls Tryz.prog 152 #[.string s] w fun e w' => e = .returned (.int .i64 (digs s.data.toList)) ∧ Below w.heap.size w w' := by
  have h1 := trim_digs s.data.toList
  have hL : s.data.toList.length = s.size := by simp
  obtain ⟨T, hT⟩ : ∃ T, Lib.trimLeftS s.data.toList tens.data.toList = T := ⟨_, rfl⟩
  rw [hT, hL] at h1
  have h2 : (s.size : Int) - (T.length : Int) = (digs s.data.toList : Int) := by omega
  have h3 : T.length ≤ s.size := by omega
  have HT := Lib.hid hT
  have H2 := Lib.hid h2
  clear h1 h2 hT hL
  go_enter Tryz.func152, Tryz.ntmps152
  go_wp2_with fail
  refine (Any.strings_TrimLeft_laid Tryz.lays161 (by kernel_rfl) s tens _ (by decide) tens_ascii).mono ?_
  rintro e w1 ⟨rfl, hb⟩
  rw [HT.out]
  go_wp2_with fail
  go_ret
  refine ⟨?_, hb⟩
  rw [← H2.out]
  simp


/-- A string that is what stands from a place on. -/
def Tail (L : List UInt8) (k : Nat) (R : ByteArray) : Prop := R.data.toList = L.drop k ∧ k ≤ L.length
theorem Tail.size {L : List UInt8} {k : Nat} {R : ByteArray} (h : Tail L k R) : R.size + k = L.length := by
  have := congrArg List.length h.1
  rw [List.length_drop] at this
  have h2 := h.2
  rw [Lib.size_eq]; omega
theorem Tail.byte {L : List UInt8} {k : Nat} {R : ByteArray} (h : Tail L k R) (i : Nat) : gb R.data.toList i = gb L (k + i) := by rw [h.1, gb_drop]
theorem Tail.cut {L : List UInt8} {k : Nat} {R : ByteArray} (h : Tail L k R) (n : Nat) (hn : k + n ≤ L.length) : Tail L (k + n) (R.extract n R.size) :=
  ⟨by rw [Lib.extract_to_end, h.1, List.drop_drop], hn⟩
theorem Tail.cut' {L : List UInt8} {k : Nat} {X : List UInt8} (h : Tail L k ⟨X.toArray⟩) (n : Nat) (hn : k + n ≤ L.length) : Tail L (k + n) ((⟨X.toArray⟩ : ByteArray).extract n X.length) := h.cut n hn
theorem Tail.empty {L : List UInt8} {k : Nat} {R : ByteArray} (_h : Tail L k R) (h0 : R.size = 0) : R.toList.isEmpty = true := by
  rw [Lib.toList_data, nil_of_size h0]; rfl
theorem full {R : ByteArray} (h0 : 0 < R.size) : R.toList.isEmpty = false := by
  rw [Lib.toList_data]
  have := ne_nil_of_size h0
  cases h : R.data.toList with
  | nil => exact absurd h this
  | cons _ _ => rfl
theorem head_run (R : ByteArray) (h0 : 0 < R.size) : ∀ w, (Instr.index 9 (.string R) (.int .i64 0)).run Tryz.prog w = .ok (.int .u8 (gb R.data.toList 0)) w := by
  intro w
  have hr := run_index_string (P := Tryz.prog) w 9 R .i64 0 Tryz.underlying9
  rw [dif_pos ⟨by omega, by omega⟩] at hr
  rw [hr, byte0 R h0]; rfl
theorem trimOne (l : List UInt8) (c : UInt8) (h : c.toNat ≠ 0) : Lib.trimPrefix l [c] = l.drop (if gb l 0 = c.toNat then 1 else 0) ∧ (if gb l 0 = c.toNat then 1 else 0) ≤ l.length := by
  unfold Lib.trimPrefix
  rw [hasPrefix_one l c h]
  by_cases h1 : gb l 0 = c.toNat
  · rw [decide_eq_true h1, if_pos rfl, if_pos h1]
    refine ⟨rfl, ?_⟩
    cases l with
    | nil => rw [gb_nil] at h1; omega
    | cons a r => simp
  · rw [decide_eq_false h1, if_neg (by simp), if_neg h1]
    exact ⟨rfl, by omega⟩
theorem ret_i64 {a b : Int} (h : a = b) : Ending.returned (.int .i64 a) = Ending.returned (.int .i64 b) := by rw [h]
theorem digs_head {l : List UInt8} (h : gb l 0 = 48) : 0 < digs l := by
  cases l with
  | nil => simp [gb_nil] at h
  | cons a r =>
    simp only [gb_cons_zero] at h
    have : isd a = true := by unfold isd; rw [h]; rfl
    simp [digs, this]

set_option maxHeartbeats 4000000 in
set_option maxRecDepth 1000000 in
theorem number_zero (s : ByteArray) (w : World) (hs : s.size ≤ 1099511627776) (hd0 : digs (s.data.toList.drop (if gb s.data.toList 0 = 45 then 1 else 0)) = 0) :
    Calls Tryz.prog 108 #[.string s] w fun e w' => e = .returned (.int .i64 (number s.data.toList)) ∧ Below w.heap.size w w' := by
  have hL : s.data.toList.length = s.size := by simp
  have hN : number s.data.toList = 0 := by unfold number; simp only [if_pos hd0]
  obtain ⟨h1, h2⟩ := trimOne s.data.toList 45 (by decide)
  obtain ⟨X, hX⟩ : ∃ X, Lib.trimPrefix s.data.toList [45] = X := ⟨_, rfl⟩
  rw [hX] at h1
  have hd : digs X = 0 := by rw [h1]; exact hd0
  have hXs : X.length ≤ s.size := by rw [h1, List.length_drop]; omega
  have HX := Lib.hid hX
  have HD := Lib.hid hd
  have HN := Lib.hid hN
  have HS := Lib.hid (show (⟨X.toArray⟩ : ByteArray).size ≤ 1099511627776 by show X.length ≤ _; omega)
  clear hX hd hN h1 h2 hd0 hL
  go_enter Tryz.func108, Tryz.ntmps108
  go_wp2_with fail
  refine (Tryz.strings_TrimPrefix _ _ _).mono ?_
  rintro e w1 ⟨rfl, rfl⟩
  rw [show Lib.trimPrefix s.data.toList (⟨#[45]⟩ : ByteArray).data.toList = X from HX.out]
  go_wp2_with fail
  refine (digits_calls ⟨X.toArray⟩ _ HS.out).mono ?_
  rintro e w2 ⟨rfl, hb⟩
  rw [show digs (⟨X.toArray⟩ : ByteArray).data.toList = 0 from HD.out]
  go_wp2_with fail
  go_ret
  rw [HN.out]
  exact ⟨rfl, hb⟩

set_option maxHeartbeats 16000000 in
set_option maxRecDepth 1000000 in
theorem number_pos (s : ByteArray) (w : World) (hs : s.size ≤ 1099511627776) (hd0 : digs (s.data.toList.drop (if gb s.data.toList 0 = 45 then 1 else 0)) ≠ 0) :
    Calls Tryz.prog 108 #[.string s] w fun e w' => e = .returned (.int .i64 (number s.data.toList)) ∧ Below w.heap.size w w' := by
  have hL : s.data.toList.length = s.size := by simp
  obtain ⟨L, hLd⟩ : ∃ L, s.data.toList = L := ⟨_, rfl⟩
  rw [hLd] at hd0 hL ⊢
  obtain ⟨j, hj⟩ : ∃ j, (if gb L 0 = 45 then 1 else 0) = j := ⟨_, rfl⟩
  rw [hj] at hd0
  obtain ⟨h1, h2⟩ := trimOne L 45 (by decide)
  rw [show (45 : UInt8).toNat = 45 from rfl, hj] at h1 h2
  obtain ⟨X, hX⟩ : ∃ X, Lib.trimPrefix L [45] = X := ⟨_, rfl⟩
  rw [hX] at h1
  have hT0 : Tail L j ⟨X.toArray⟩ := ⟨h1, h2⟩
  obtain ⟨d, hd⟩ : ∃ d, digs X = d := ⟨_, rfl⟩
  have hdX : d ≤ X.length := by rw [← hd]; exact digs_le _
  have hXl : X.length + j = L.length := by rw [h1, List.length_drop]; omega
  have hdp : d ≠ 0 := by rw [← hd, h1]; exact hd0
  have hdb : ((d : Int) == 0) = false := by simp; omega
  have hpos : 0 < (⟨X.toArray⟩ : ByteArray).size := by show 0 < X.length; omega
  have hrun := head_run ⟨X.toArray⟩ hpos
  have hg0 : gb X 0 = gb L j := by rw [h1, gb_drop]; rfl
  rw [show (⟨X.toArray⟩ : ByteArray).data.toList = X from rfl, hg0] at hrun
  -- the number's first part ends at k1
  obtain ⟨k1, hk1⟩ : ∃ k1, (j + if gb L j = 48 then 1 else digs (L.drop j)) = k1 := ⟨_, rfl⟩
  have hN : number L = numExp L (numFrac L k1) := by
    unfold number
    simp only [hj, if_neg hd0, hk1]
  have HX := Lib.hid (show Lib.trimPrefix s.data.toList [45] = X by rw [hLd]; exact hX)
  have HD := Lib.hid hd
  have HN := Lib.hid hN
  have HL := Lib.hid hL
  have HT0 := Lib.hid hT0
  have HS := Lib.hid (show (⟨X.toArray⟩ : ByteArray).size ≤ 1099511627776 by show X.length ≤ _; omega)
  have hkd : gb L j = 48 ∧ k1 = j + 1 ∨ gb L j ≠ 48 ∧ k1 = j + d := by
    rw [← hd, h1]
    by_cases h : gb L j = 48
    · exact Or.inl ⟨h, by rw [← hk1, if_pos h]⟩
    · exact Or.inr ⟨h, by rw [← hk1, if_neg h]⟩
  have hk1L : k1 ≤ L.length := by omega
  have HLs := Lib.hid hLd
  clear hX hd hN hT0 h1 h2 hd0 hL hg0 hk1 hj hLd
  have hsL : L.length = s.size := HL.out.symm ▸ rfl
  have hkd' : ∃ n : Nat, (((gb L j : Int) == 48) = true ∧ n = 1 ∨ ((gb L j : Int) == 48) = false ∧ n = d) ∧ k1 = j + n := by
    rcases hkd with ⟨h, h'⟩ | ⟨h, h'⟩
    · exact ⟨1, Or.inl ⟨by simp; omega, rfl⟩, h'⟩
    · exact ⟨d, Or.inr ⟨by simp; omega, rfl⟩, h'⟩
  obtain ⟨n, hn, hkn⟩ := hkd'
  have HKN := Lib.hid hkn
  have hsl := hsL
  clear hkd hkn hsL
  rcases hn with ⟨hb48, rfl⟩ | ⟨hb48, rfl⟩
  · go_enter Tryz.func108, Tryz.ntmps108
    go_wp2_with fail
    refine (Tryz.strings_TrimPrefix _ _ _).mono ?_
    rintro e w1 ⟨rfl, rfl⟩
    rw [show Lib.trimPrefix s.data.toList (⟨#[45]⟩ : ByteArray).data.toList = X from HX.out]
    go_wp2_with fail
    refine (digits_calls ⟨X.toArray⟩ _ HS.out).mono ?_
    rintro e w2 ⟨rfl, hb⟩
    rw [show digs (⟨X.toArray⟩ : ByteArray).data.toList = _ from HD.out]
    go_upto_region 7 with fail
    iterate 17 (first | go_values | go_skip | go_guarded | go_step | go_upon)
    go_cut [3] (fun v3 wx => ∃ R : ByteArray, v3 = .string R ∧ Hid (Tail L (numFrac L k1) R) ∧ Below w1.heap.size w1 wx)
    case first =>
      obtain ⟨R1, HT1, hR1⟩ : ∃ R1, Hid (Tail L k1 R1) ∧ (⟨X.toArray⟩ : ByteArray).extract 1 X.length = R1 := ⟨_, Lib.hid (HKN.out ▸ HT0.out.cut' _ (by have := HKN.out; omega)), rfl⟩
      rw [hR1]
      clear hR1 HT0 HX HD HKN hrun hdX hXl hb48
      obtain ⟨Y, hY⟩ : ∃ Y, Lib.trimPrefix R1.data.toList [46] = Y := ⟨_, rfl⟩
      obtain ⟨p, hp⟩ : ∃ p, Lib.hasPrefix R1.data.toList [46] = p := ⟨_, rfl⟩
      have hpd : p = decide (gb L k1 = 46) := by
        rw [← hp, hasPrefix_one _ 46 (by decide), HT1.out.byte 0]; rfl
      obtain ⟨y1, y2⟩ := trimOne R1.data.toList 46 (by decide)
      rw [hY] at y1
      have HY := Lib.hid hY
      have HP := Lib.hid hp
      by_cases h46 : gb L k1 = 46
      · have hT2 : Tail L (k1 + 1) ⟨Y.toArray⟩ := by
          rw [if_pos (by rw [HT1.out.byte 0]; exact h46)] at y1 y2
          have := HT1.out.size
          refine ⟨?_, by rw [Lib.size_eq] at this; omega⟩
          show Y = _
          rw [y1, HT1.out.1, List.drop_drop]
        obtain ⟨d2, hd2⟩ : ∃ d2, digs (L.drop (k1 + 1)) = d2 := ⟨_, rfl⟩
        have hYd : digs Y = d2 := by rw [← hd2, ← hT2.1]
        have hYl := hT2.size
        have hYd2 : d2 ≤ Y.length := by rw [← hYd]; exact digs_le _
        have hYs : (⟨Y.toArray⟩ : ByteArray).size ≤ 1099511627776 := by show Y.length ≤ _; have h3 : Y.length + (k1 + 1) = L.length := hYl; omega
        have HYs := Lib.hid hYs
        have HYd := Lib.hid hYd
        have HT2 := Lib.hid hT2
        have hYl' : Y.length + (k1 + 1) = L.length := hYl
        rw [decide_eq_true h46] at hpd
        rw [hpd] at HP
        by_cases h0 : 0 < d2
        · have hpz : (0 : Int) < (d2 : Int) := by omega
          have HF := Lib.hid (show numFrac L k1 = k1 + 1 + d2 by unfold numFrac; rw [hd2, if_pos ⟨h46, h0⟩])
          clear hpd hp hY y1 y2 h46 hd2 hYd hYl hYs hT2
          go_wp2_with fail
          refine (Tryz.strings_CutPrefix _ _ _).mono ?_
          rintro e w3 ⟨rfl, rfl⟩
          rw [show Lib.trimPrefix R1.data.toList (⟨#[46]⟩ : ByteArray).data.toList = Y from HY.out, show Lib.hasPrefix R1.data.toList (⟨#[46]⟩ : ByteArray).data.toList = true from HP.out]
          go_wp2_with fail
          refine (digits_calls ⟨Y.toArray⟩ _ HYs.out).mono ?_
          rintro e w4 ⟨rfl, hb4⟩
          rw [show digs (⟨Y.toArray⟩ : ByteArray).data.toList = d2 from HYd.out]
          go_wp2_with fail
          refine (digits_calls ⟨Y.toArray⟩ _ HYs.out).mono ?_
          rintro e w5 ⟨rfl, hb5⟩
          rw [show digs (⟨Y.toArray⟩ : ByteArray).data.toList = d2 from HYd.out]
          go_wp2_with fail
          go_meet
          refine ⟨_, rfl, Lib.hid ?_, (hb.trans (hb4.mono hb.size)).trans (hb5.mono (Nat.le_trans hb.size hb4.size))⟩
          rw [HF.out]
          exact HT2.out.cut' d2 (by omega)
        · have hpz : ¬ (0 : Int) < (d2 : Int) := by omega
          have HF := Lib.hid (show numFrac L k1 = k1 by unfold numFrac; rw [hd2, if_neg (fun h => h0 h.2)])
          clear hpd hp hY y1 y2 h46 hd2 hYd hYl hYs hT2
          go_wp2_with fail
          refine (Tryz.strings_CutPrefix _ _ _).mono ?_
          rintro e w3 ⟨rfl, rfl⟩
          rw [show Lib.trimPrefix R1.data.toList (⟨#[46]⟩ : ByteArray).data.toList = Y from HY.out, show Lib.hasPrefix R1.data.toList (⟨#[46]⟩ : ByteArray).data.toList = true from HP.out]
          go_wp2_with fail
          refine (digits_calls ⟨Y.toArray⟩ _ HYs.out).mono ?_
          rintro e w4 ⟨rfl, hb4⟩
          rw [show digs (⟨Y.toArray⟩ : ByteArray).data.toList = d2 from HYd.out]
          go_wp2_with fail
          go_meet
          refine ⟨_, rfl, Lib.hid ?_, hb.trans (hb4.mono hb.size)⟩
          rw [HF.out]
          exact HT1.out
      · rw [decide_eq_false h46] at hpd
        rw [hpd] at HP
        have HF := Lib.hid (show numFrac L k1 = k1 by unfold numFrac; rw [if_neg (fun h => h46 h.1)])
        clear hpd hp hY y1 y2 h46
        go_wp2_with fail
        refine (Tryz.strings_CutPrefix _ _ _).mono ?_
        rintro e w3 ⟨rfl, rfl⟩
        rw [show Lib.trimPrefix R1.data.toList (⟨#[46]⟩ : ByteArray).data.toList = Y from HY.out, show Lib.hasPrefix R1.data.toList (⟨#[46]⟩ : ByteArray).data.toList = false from HP.out]
        go_wp2_with fail
        go_meet
        refine ⟨_, rfl, Lib.hid ?_, hb⟩
        rw [HF.out]
        exact HT1.out
    case rest =>
      obtain ⟨R, rfl, HT2, hb2⟩ := hcut
      obtain ⟨k2, hk2⟩ : ∃ k2, numFrac L k1 = k2 := ⟨_, rfl⟩
      have HT := Lib.hid (show Tail L k2 R from hk2 ▸ HT2.out)
      have HN := Lib.hid (show number L = numExp L k2 from hk2 ▸ HN.out)
      have hsz2 := HT.out.size
      by_cases hR0 : R.size = 0
      · have hem := HT.out.empty hR0
        have HE := Lib.hid (show numExp L k2 = k2 by
          have h0 : gb L k2 = 0 := by rw [show k2 = k2 + 0 by rfl, ← HT.out.byte 0, nil_of_size hR0, gb_nil]
          unfold numExp; rw [if_neg (by omega)])
        go_wp2_with fail
        go_ret
        refine ⟨?_, hb2⟩
        have := (HT.out).size
        rw [HN.out, HE.out]
        exact ret_i64 (by omega)
      have hRp : 0 < R.size := by omega
      have hem := full hRp
      have hrun2 := head_run R hRp
      have hg2 : gb R.data.toList 0 = gb L k2 := HT.out.byte 0
      rw [hg2] at hrun2
      clear hR0 hg2
      obtain ⟨c, hc⟩ : ∃ c, gb L k2 = c := ⟨_, rfl⟩
      rw [hc] at hrun2
      by_cases hce : c = 101 ∨ c = 69
      · obtain ⟨m, hm⟩ : ∃ m, (if gb L (k2 + 1) = 43 ∨ gb L (k2 + 1) = 45 then k2 + 2 else k2 + 1) = m := ⟨_, rfl⟩
        have hE : numExp L k2 = if 0 < digs (L.drop m) then m + digs (L.drop m) else k2 := by
          unfold numExp; rw [hc, if_pos hce]; simp only [hm]
        have HE := Lib.hid hE
        have HM := Lib.hid hm
        have hR1 : 1 ≤ R.size := hRp
        have HA := Lib.hid (HT.out.cut 1 (by omega))
        have hAs := HA.out.size
        have hAsz : (R.extract 1 R.size).size = R.size - 1 := by simp
        clear hE hm hc
        have hways : ((c : Int) == 101) = true ∨ (((c : Int) == 101) = false ∧ ((c : Int) == 69) = true) := by
          by_cases h : c = 101
          · exact Or.inl (by simp; omega)
          · exact Or.inr ⟨by simp; omega, by simp; omega⟩
        clear hce
        rcases hways with hb101 | ⟨hb101, hb69⟩
        · by_cases hA0 : (R.extract 1 R.size).size = 0
          · have hemA := HA.out.empty hA0
            have hm : m = k2 + 1 := by
              rw [← HM.out, if_neg]
              have h0 : gb L (k2 + 1) = 0 := by rw [show k2 + 1 = k2 + 1 + 0 by rfl, ← HA.out.byte 0, nil_of_size hA0, gb_nil]
              omega
            rw [hm] at HE
            obtain ⟨d3, hd3e⟩ : ∃ d3, digs (L.drop (k2 + 1)) = d3 := ⟨_, rfl⟩
            have HT3 : Hid (Tail L (k2 + 1) (R.extract 1 R.size)) := Lib.hid (HA.out)
            have HD3 := Lib.hid (show digs (R.extract 1 R.size).data.toList = d3 by rw [HT3.out.1]; exact hd3e)
            have HDm := Lib.hid hd3e
            have HR3 := Lib.hid (show d3 ≤ (R.extract 1 R.size).size by rw [← HD3.out, Lib.size_eq]; exact digs_le _)
            have HZ := Lib.hid (show (R.extract 1 R.size).size ≤ 1099511627776 by have := HT3.out.size; omega)
            clear hd3e
            clear hm hA0
            go_wp2_with fail
            refine (digits_calls _ _ HZ.out).mono ?_
            rintro e w5 ⟨rfl, hb5⟩
            rw [HD3.out]
            by_cases h3 : 0 < d3
            · have h3' : (0 : Int) < (d3 : Int) := by omega
              have HE := Lib.hid (HE.out.trans (by rw [HDm.out, if_pos h3]))
              generalize R.extract 1 R.size = R3 at HT3 HR3 ⊢
              have hs3 := HT3.out.size
              have hd3 : d3 ≤ R3.size := HR3.out
              clear h3
              go_wp2_with fail
              go_ret
              refine ⟨?_, hb2.trans (hb5.mono hb2.size)⟩
              have := (HT3.out.cut d3 (by omega)).size
              rw [HN.out, HE.out]
              first | exact ret_i64 (by simp at *; omega) | exact ret_i64 (by omega)
            · have h3' : ¬ (0 : Int) < (d3 : Int) := by omega
              have HE := Lib.hid (HE.out.trans (by rw [HDm.out, if_neg h3]))
              clear h3
              go_wp2_with fail
              go_ret
              refine ⟨?_, hb2.trans (hb5.mono hb2.size)⟩
              rw [HN.out, HE.out]
              exact ret_i64 (by omega)
          · have hAp : 0 < (R.extract 1 R.size).size := by omega
            have hemA := full hAp
            have hrun3 := head_run (R.extract 1 R.size) hAp
            have hg3 : gb (R.extract 1 R.size).data.toList 0 = gb L (k2 + 1) := HA.out.byte 0
            rw [hg3] at hrun3
            obtain ⟨c1, hc1⟩ : ∃ c1, gb L (k2 + 1) = c1 := ⟨_, rfl⟩
            rw [hc1] at hrun3
            clear hg3 hA0
            have hR2 : (1 : Int) ≤ (R.size : Int) - 1 := by omega
            have hR2' : 1 ≤ R.size - 1 := by omega
            by_cases h43 : c1 = 43 ∨ c1 = 45
            · have hm : m = k2 + 2 := by rw [← HM.out, hc1, if_pos h43]
              rw [hm] at HE
              obtain ⟨d3, hd3e⟩ : ∃ d3, digs (L.drop (k2 + 2)) = d3 := ⟨_, rfl⟩
              have HT3 : Hid (Tail L (k2 + 2) ((R.extract 1 R.size).extract 1 (R.size - 1))) := Lib.hid (hAsz ▸ HA.out.cut 1 (by omega))
              have HD3 := Lib.hid (show digs ((R.extract 1 R.size).extract 1 (R.size - 1)).data.toList = d3 by rw [HT3.out.1]; exact hd3e)
              have HDm := Lib.hid hd3e
              have HR3 := Lib.hid (show d3 ≤ ((R.extract 1 R.size).extract 1 (R.size - 1)).size by rw [← HD3.out, Lib.size_eq]; exact digs_le _)
              have HZ := Lib.hid (show ((R.extract 1 R.size).extract 1 (R.size - 1)).size ≤ 1099511627776 by have := HT3.out.size; omega)
              clear hd3e
              have hways : ((c1 : Int) == 43) = true ∨ (((c1 : Int) == 43) = false ∧ ((c1 : Int) == 45) = true) := by
                by_cases h : c1 = 43
                · exact Or.inl (by simp; omega)
                · exact Or.inr ⟨by simp; omega, by simp; omega⟩
              clear hm hc1 h43
              rcases hways with hb43 | ⟨hb43, hb45⟩
              · go_wp2_with fail
                refine (digits_calls _ _ HZ.out).mono ?_
                rintro e w5 ⟨rfl, hb5⟩
                rw [HD3.out]
                by_cases h3 : 0 < d3
                · have h3' : (0 : Int) < (d3 : Int) := by omega
                  have HE := Lib.hid (HE.out.trans (by rw [HDm.out, if_pos h3]))
                  generalize (R.extract 1 R.size).extract 1 (R.size - 1) = R3 at HT3 HR3 ⊢
                  have hs3 := HT3.out.size
                  have hd3 : d3 ≤ R3.size := HR3.out
                  clear h3
                  go_wp2_with fail
                  go_ret
                  refine ⟨?_, hb2.trans (hb5.mono hb2.size)⟩
                  have := (HT3.out.cut d3 (by omega)).size
                  rw [HN.out, HE.out]
                  first | exact ret_i64 (by simp at *; omega) | exact ret_i64 (by omega)
                · have h3' : ¬ (0 : Int) < (d3 : Int) := by omega
                  have HE := Lib.hid (HE.out.trans (by rw [HDm.out, if_neg h3]))
                  clear h3
                  go_wp2_with fail
                  go_ret
                  refine ⟨?_, hb2.trans (hb5.mono hb2.size)⟩
                  rw [HN.out, HE.out]
                  exact ret_i64 (by omega)
              · go_wp2_with fail
                refine (digits_calls _ _ HZ.out).mono ?_
                rintro e w5 ⟨rfl, hb5⟩
                rw [HD3.out]
                by_cases h3 : 0 < d3
                · have h3' : (0 : Int) < (d3 : Int) := by omega
                  have HE := Lib.hid (HE.out.trans (by rw [HDm.out, if_pos h3]))
                  generalize (R.extract 1 R.size).extract 1 (R.size - 1) = R3 at HT3 HR3 ⊢
                  have hs3 := HT3.out.size
                  have hd3 : d3 ≤ R3.size := HR3.out
                  clear h3
                  go_wp2_with fail
                  go_ret
                  refine ⟨?_, hb2.trans (hb5.mono hb2.size)⟩
                  have := (HT3.out.cut d3 (by omega)).size
                  rw [HN.out, HE.out]
                  first | exact ret_i64 (by simp at *; omega) | exact ret_i64 (by omega)
                · have h3' : ¬ (0 : Int) < (d3 : Int) := by omega
                  have HE := Lib.hid (HE.out.trans (by rw [HDm.out, if_neg h3]))
                  clear h3
                  go_wp2_with fail
                  go_ret
                  refine ⟨?_, hb2.trans (hb5.mono hb2.size)⟩
                  rw [HN.out, HE.out]
                  exact ret_i64 (by omega)
            · have hm : m = k2 + 1 := by rw [← HM.out, hc1, if_neg h43]
              rw [hm] at HE
              obtain ⟨d3, hd3e⟩ : ∃ d3, digs (L.drop (k2 + 1)) = d3 := ⟨_, rfl⟩
              have HT3 : Hid (Tail L (k2 + 1) (R.extract 1 R.size)) := Lib.hid (HA.out)
              have HD3 := Lib.hid (show digs (R.extract 1 R.size).data.toList = d3 by rw [HT3.out.1]; exact hd3e)
              have HDm := Lib.hid hd3e
              have HR3 := Lib.hid (show d3 ≤ (R.extract 1 R.size).size by rw [← HD3.out, Lib.size_eq]; exact digs_le _)
              have HZ := Lib.hid (show (R.extract 1 R.size).size ≤ 1099511627776 by have := HT3.out.size; omega)
              clear hd3e
              have hb43 : ((c1 : Int) == 43) = false := by simp; omega
              have hb45 : ((c1 : Int) == 45) = false := by simp; omega
              clear hm hc1 h43
              go_wp2_with fail
              refine (digits_calls _ _ HZ.out).mono ?_
              rintro e w5 ⟨rfl, hb5⟩
              rw [HD3.out]
              by_cases h3 : 0 < d3
              · have h3' : (0 : Int) < (d3 : Int) := by omega
                have HE := Lib.hid (HE.out.trans (by rw [HDm.out, if_pos h3]))
                generalize R.extract 1 R.size = R3 at HT3 HR3 ⊢
                have hs3 := HT3.out.size
                have hd3 : d3 ≤ R3.size := HR3.out
                clear h3
                go_wp2_with fail
                go_ret
                refine ⟨?_, hb2.trans (hb5.mono hb2.size)⟩
                have := (HT3.out.cut d3 (by omega)).size
                rw [HN.out, HE.out]
                first | exact ret_i64 (by simp at *; omega) | exact ret_i64 (by omega)
              · have h3' : ¬ (0 : Int) < (d3 : Int) := by omega
                have HE := Lib.hid (HE.out.trans (by rw [HDm.out, if_neg h3]))
                clear h3
                go_wp2_with fail
                go_ret
                refine ⟨?_, hb2.trans (hb5.mono hb2.size)⟩
                rw [HN.out, HE.out]
                exact ret_i64 (by omega)
        · by_cases hA0 : (R.extract 1 R.size).size = 0
          · have hemA := HA.out.empty hA0
            have hm : m = k2 + 1 := by
              rw [← HM.out, if_neg]
              have h0 : gb L (k2 + 1) = 0 := by rw [show k2 + 1 = k2 + 1 + 0 by rfl, ← HA.out.byte 0, nil_of_size hA0, gb_nil]
              omega
            rw [hm] at HE
            obtain ⟨d3, hd3e⟩ : ∃ d3, digs (L.drop (k2 + 1)) = d3 := ⟨_, rfl⟩
            have HT3 : Hid (Tail L (k2 + 1) (R.extract 1 R.size)) := Lib.hid (HA.out)
            have HD3 := Lib.hid (show digs (R.extract 1 R.size).data.toList = d3 by rw [HT3.out.1]; exact hd3e)
            have HDm := Lib.hid hd3e
            have HR3 := Lib.hid (show d3 ≤ (R.extract 1 R.size).size by rw [← HD3.out, Lib.size_eq]; exact digs_le _)
            have HZ := Lib.hid (show (R.extract 1 R.size).size ≤ 1099511627776 by have := HT3.out.size; omega)
            clear hd3e
            clear hm hA0
            go_wp2_with fail
            refine (digits_calls _ _ HZ.out).mono ?_
            rintro e w5 ⟨rfl, hb5⟩
            rw [HD3.out]
            by_cases h3 : 0 < d3
            · have h3' : (0 : Int) < (d3 : Int) := by omega
              have HE := Lib.hid (HE.out.trans (by rw [HDm.out, if_pos h3]))
              generalize R.extract 1 R.size = R3 at HT3 HR3 ⊢
              have hs3 := HT3.out.size
              have hd3 : d3 ≤ R3.size := HR3.out
              clear h3
              go_wp2_with fail
              go_ret
              refine ⟨?_, hb2.trans (hb5.mono hb2.size)⟩
              have := (HT3.out.cut d3 (by omega)).size
              rw [HN.out, HE.out]
              first | exact ret_i64 (by simp at *; omega) | exact ret_i64 (by omega)
            · have h3' : ¬ (0 : Int) < (d3 : Int) := by omega
              have HE := Lib.hid (HE.out.trans (by rw [HDm.out, if_neg h3]))
              clear h3
              go_wp2_with fail
              go_ret
              refine ⟨?_, hb2.trans (hb5.mono hb2.size)⟩
              rw [HN.out, HE.out]
              exact ret_i64 (by omega)
          · have hAp : 0 < (R.extract 1 R.size).size := by omega
            have hemA := full hAp
            have hrun3 := head_run (R.extract 1 R.size) hAp
            have hg3 : gb (R.extract 1 R.size).data.toList 0 = gb L (k2 + 1) := HA.out.byte 0
            rw [hg3] at hrun3
            obtain ⟨c1, hc1⟩ : ∃ c1, gb L (k2 + 1) = c1 := ⟨_, rfl⟩
            rw [hc1] at hrun3
            clear hg3 hA0
            have hR2 : (1 : Int) ≤ (R.size : Int) - 1 := by omega
            have hR2' : 1 ≤ R.size - 1 := by omega
            by_cases h43 : c1 = 43 ∨ c1 = 45
            · have hm : m = k2 + 2 := by rw [← HM.out, hc1, if_pos h43]
              rw [hm] at HE
              obtain ⟨d3, hd3e⟩ : ∃ d3, digs (L.drop (k2 + 2)) = d3 := ⟨_, rfl⟩
              have HT3 : Hid (Tail L (k2 + 2) ((R.extract 1 R.size).extract 1 (R.size - 1))) := Lib.hid (hAsz ▸ HA.out.cut 1 (by omega))
              have HD3 := Lib.hid (show digs ((R.extract 1 R.size).extract 1 (R.size - 1)).data.toList = d3 by rw [HT3.out.1]; exact hd3e)
              have HDm := Lib.hid hd3e
              have HR3 := Lib.hid (show d3 ≤ ((R.extract 1 R.size).extract 1 (R.size - 1)).size by rw [← HD3.out, Lib.size_eq]; exact digs_le _)
              have HZ := Lib.hid (show ((R.extract 1 R.size).extract 1 (R.size - 1)).size ≤ 1099511627776 by have := HT3.out.size; omega)
              clear hd3e
              have hways : ((c1 : Int) == 43) = true ∨ (((c1 : Int) == 43) = false ∧ ((c1 : Int) == 45) = true) := by
                by_cases h : c1 = 43
                · exact Or.inl (by simp; omega)
                · exact Or.inr ⟨by simp; omega, by simp; omega⟩
              clear hm hc1 h43
              rcases hways with hb43 | ⟨hb43, hb45⟩
              · go_wp2_with fail
                refine (digits_calls _ _ HZ.out).mono ?_
                rintro e w5 ⟨rfl, hb5⟩
                rw [HD3.out]
                by_cases h3 : 0 < d3
                · have h3' : (0 : Int) < (d3 : Int) := by omega
                  have HE := Lib.hid (HE.out.trans (by rw [HDm.out, if_pos h3]))
                  generalize (R.extract 1 R.size).extract 1 (R.size - 1) = R3 at HT3 HR3 ⊢
                  have hs3 := HT3.out.size
                  have hd3 : d3 ≤ R3.size := HR3.out
                  clear h3
                  go_wp2_with fail
                  go_ret
                  refine ⟨?_, hb2.trans (hb5.mono hb2.size)⟩
                  have := (HT3.out.cut d3 (by omega)).size
                  rw [HN.out, HE.out]
                  first | exact ret_i64 (by simp at *; omega) | exact ret_i64 (by omega)
                · have h3' : ¬ (0 : Int) < (d3 : Int) := by omega
                  have HE := Lib.hid (HE.out.trans (by rw [HDm.out, if_neg h3]))
                  clear h3
                  go_wp2_with fail
                  go_ret
                  refine ⟨?_, hb2.trans (hb5.mono hb2.size)⟩
                  rw [HN.out, HE.out]
                  exact ret_i64 (by omega)
              · go_wp2_with fail
                refine (digits_calls _ _ HZ.out).mono ?_
                rintro e w5 ⟨rfl, hb5⟩
                rw [HD3.out]
                by_cases h3 : 0 < d3
                · have h3' : (0 : Int) < (d3 : Int) := by omega
                  have HE := Lib.hid (HE.out.trans (by rw [HDm.out, if_pos h3]))
                  generalize (R.extract 1 R.size).extract 1 (R.size - 1) = R3 at HT3 HR3 ⊢
                  have hs3 := HT3.out.size
                  have hd3 : d3 ≤ R3.size := HR3.out
                  clear h3
                  go_wp2_with fail
                  go_ret
                  refine ⟨?_, hb2.trans (hb5.mono hb2.size)⟩
                  have := (HT3.out.cut d3 (by omega)).size
                  rw [HN.out, HE.out]
                  first | exact ret_i64 (by simp at *; omega) | exact ret_i64 (by omega)
                · have h3' : ¬ (0 : Int) < (d3 : Int) := by omega
                  have HE := Lib.hid (HE.out.trans (by rw [HDm.out, if_neg h3]))
                  clear h3
                  go_wp2_with fail
                  go_ret
                  refine ⟨?_, hb2.trans (hb5.mono hb2.size)⟩
                  rw [HN.out, HE.out]
                  exact ret_i64 (by omega)
            · have hm : m = k2 + 1 := by rw [← HM.out, hc1, if_neg h43]
              rw [hm] at HE
              obtain ⟨d3, hd3e⟩ : ∃ d3, digs (L.drop (k2 + 1)) = d3 := ⟨_, rfl⟩
              have HT3 : Hid (Tail L (k2 + 1) (R.extract 1 R.size)) := Lib.hid (HA.out)
              have HD3 := Lib.hid (show digs (R.extract 1 R.size).data.toList = d3 by rw [HT3.out.1]; exact hd3e)
              have HDm := Lib.hid hd3e
              have HR3 := Lib.hid (show d3 ≤ (R.extract 1 R.size).size by rw [← HD3.out, Lib.size_eq]; exact digs_le _)
              have HZ := Lib.hid (show (R.extract 1 R.size).size ≤ 1099511627776 by have := HT3.out.size; omega)
              clear hd3e
              have hb43 : ((c1 : Int) == 43) = false := by simp; omega
              have hb45 : ((c1 : Int) == 45) = false := by simp; omega
              clear hm hc1 h43
              go_wp2_with fail
              refine (digits_calls _ _ HZ.out).mono ?_
              rintro e w5 ⟨rfl, hb5⟩
              rw [HD3.out]
              by_cases h3 : 0 < d3
              · have h3' : (0 : Int) < (d3 : Int) := by omega
                have HE := Lib.hid (HE.out.trans (by rw [HDm.out, if_pos h3]))
                generalize R.extract 1 R.size = R3 at HT3 HR3 ⊢
                have hs3 := HT3.out.size
                have hd3 : d3 ≤ R3.size := HR3.out
                clear h3
                go_wp2_with fail
                go_ret
                refine ⟨?_, hb2.trans (hb5.mono hb2.size)⟩
                have := (HT3.out.cut d3 (by omega)).size
                rw [HN.out, HE.out]
                first | exact ret_i64 (by simp at *; omega) | exact ret_i64 (by omega)
              · have h3' : ¬ (0 : Int) < (d3 : Int) := by omega
                have HE := Lib.hid (HE.out.trans (by rw [HDm.out, if_neg h3]))
                clear h3
                go_wp2_with fail
                go_ret
                refine ⟨?_, hb2.trans (hb5.mono hb2.size)⟩
                rw [HN.out, HE.out]
                exact ret_i64 (by omega)
      · have HE := Lib.hid (show numExp L k2 = k2 by unfold numExp; rw [hc, if_neg hce])
        have hb101 : ((c : Int) == 101) = false := by simp; omega
        have hb69 : ((c : Int) == 69) = false := by simp; omega
        clear hc hce
        go_wp2_with fail
        go_ret
        refine ⟨?_, hb2⟩
        have := (HT.out).size
        rw [HN.out, HE.out]
        exact ret_i64 (by omega)
  · go_enter Tryz.func108, Tryz.ntmps108
    go_wp2_with fail
    refine (Tryz.strings_TrimPrefix _ _ _).mono ?_
    rintro e w1 ⟨rfl, rfl⟩
    rw [show Lib.trimPrefix s.data.toList (⟨#[45]⟩ : ByteArray).data.toList = X from HX.out]
    go_wp2_with fail
    refine (digits_calls ⟨X.toArray⟩ _ HS.out).mono ?_
    rintro e w2 ⟨rfl, hb⟩
    rw [show digs (⟨X.toArray⟩ : ByteArray).data.toList = _ from HD.out]
    go_upto_region 7 with fail
    iterate 17 (first | go_values | go_skip | go_guarded | go_step | go_upon)
    go_cut [3] (fun v3 wx => ∃ R : ByteArray, v3 = .string R ∧ Hid (Tail L (numFrac L k1) R) ∧ Below w1.heap.size w1 wx)
    case first =>
      obtain ⟨R1, HT1, hR1⟩ : ∃ R1, Hid (Tail L k1 R1) ∧ (⟨X.toArray⟩ : ByteArray).extract n X.length = R1 := ⟨_, Lib.hid (HKN.out ▸ HT0.out.cut' _ (by have := HKN.out; omega)), rfl⟩
      rw [hR1]
      clear hR1 HT0 HX HD HKN hrun hdX hXl hb48
      obtain ⟨Y, hY⟩ : ∃ Y, Lib.trimPrefix R1.data.toList [46] = Y := ⟨_, rfl⟩
      obtain ⟨p, hp⟩ : ∃ p, Lib.hasPrefix R1.data.toList [46] = p := ⟨_, rfl⟩
      have hpd : p = decide (gb L k1 = 46) := by
        rw [← hp, hasPrefix_one _ 46 (by decide), HT1.out.byte 0]; rfl
      obtain ⟨y1, y2⟩ := trimOne R1.data.toList 46 (by decide)
      rw [hY] at y1
      have HY := Lib.hid hY
      have HP := Lib.hid hp
      by_cases h46 : gb L k1 = 46
      · have hT2 : Tail L (k1 + 1) ⟨Y.toArray⟩ := by
          rw [if_pos (by rw [HT1.out.byte 0]; exact h46)] at y1 y2
          have := HT1.out.size
          refine ⟨?_, by rw [Lib.size_eq] at this; omega⟩
          show Y = _
          rw [y1, HT1.out.1, List.drop_drop]
        obtain ⟨d2, hd2⟩ : ∃ d2, digs (L.drop (k1 + 1)) = d2 := ⟨_, rfl⟩
        have hYd : digs Y = d2 := by rw [← hd2, ← hT2.1]
        have hYl := hT2.size
        have hYd2 : d2 ≤ Y.length := by rw [← hYd]; exact digs_le _
        have hYs : (⟨Y.toArray⟩ : ByteArray).size ≤ 1099511627776 := by show Y.length ≤ _; have h3 : Y.length + (k1 + 1) = L.length := hYl; omega
        have HYs := Lib.hid hYs
        have HYd := Lib.hid hYd
        have HT2 := Lib.hid hT2
        have hYl' : Y.length + (k1 + 1) = L.length := hYl
        rw [decide_eq_true h46] at hpd
        rw [hpd] at HP
        by_cases h0 : 0 < d2
        · have hpz : (0 : Int) < (d2 : Int) := by omega
          have HF := Lib.hid (show numFrac L k1 = k1 + 1 + d2 by unfold numFrac; rw [hd2, if_pos ⟨h46, h0⟩])
          clear hpd hp hY y1 y2 h46 hd2 hYd hYl hYs hT2
          go_wp2_with fail
          refine (Tryz.strings_CutPrefix _ _ _).mono ?_
          rintro e w3 ⟨rfl, rfl⟩
          rw [show Lib.trimPrefix R1.data.toList (⟨#[46]⟩ : ByteArray).data.toList = Y from HY.out, show Lib.hasPrefix R1.data.toList (⟨#[46]⟩ : ByteArray).data.toList = true from HP.out]
          go_wp2_with fail
          refine (digits_calls ⟨Y.toArray⟩ _ HYs.out).mono ?_
          rintro e w4 ⟨rfl, hb4⟩
          rw [show digs (⟨Y.toArray⟩ : ByteArray).data.toList = d2 from HYd.out]
          go_wp2_with fail
          refine (digits_calls ⟨Y.toArray⟩ _ HYs.out).mono ?_
          rintro e w5 ⟨rfl, hb5⟩
          rw [show digs (⟨Y.toArray⟩ : ByteArray).data.toList = d2 from HYd.out]
          go_wp2_with fail
          go_meet
          refine ⟨_, rfl, Lib.hid ?_, (hb.trans (hb4.mono hb.size)).trans (hb5.mono (Nat.le_trans hb.size hb4.size))⟩
          rw [HF.out]
          exact HT2.out.cut' d2 (by omega)
        · have hpz : ¬ (0 : Int) < (d2 : Int) := by omega
          have HF := Lib.hid (show numFrac L k1 = k1 by unfold numFrac; rw [hd2, if_neg (fun h => h0 h.2)])
          clear hpd hp hY y1 y2 h46 hd2 hYd hYl hYs hT2
          go_wp2_with fail
          refine (Tryz.strings_CutPrefix _ _ _).mono ?_
          rintro e w3 ⟨rfl, rfl⟩
          rw [show Lib.trimPrefix R1.data.toList (⟨#[46]⟩ : ByteArray).data.toList = Y from HY.out, show Lib.hasPrefix R1.data.toList (⟨#[46]⟩ : ByteArray).data.toList = true from HP.out]
          go_wp2_with fail
          refine (digits_calls ⟨Y.toArray⟩ _ HYs.out).mono ?_
          rintro e w4 ⟨rfl, hb4⟩
          rw [show digs (⟨Y.toArray⟩ : ByteArray).data.toList = d2 from HYd.out]
          go_wp2_with fail
          go_meet
          refine ⟨_, rfl, Lib.hid ?_, hb.trans (hb4.mono hb.size)⟩
          rw [HF.out]
          exact HT1.out
      · rw [decide_eq_false h46] at hpd
        rw [hpd] at HP
        have HF := Lib.hid (show numFrac L k1 = k1 by unfold numFrac; rw [if_neg (fun h => h46 h.1)])
        clear hpd hp hY y1 y2 h46
        go_wp2_with fail
        refine (Tryz.strings_CutPrefix _ _ _).mono ?_
        rintro e w3 ⟨rfl, rfl⟩
        rw [show Lib.trimPrefix R1.data.toList (⟨#[46]⟩ : ByteArray).data.toList = Y from HY.out, show Lib.hasPrefix R1.data.toList (⟨#[46]⟩ : ByteArray).data.toList = false from HP.out]
        go_wp2_with fail
        go_meet
        refine ⟨_, rfl, Lib.hid ?_, hb⟩
        rw [HF.out]
        exact HT1.out
    case rest =>
      obtain ⟨R, rfl, HT2, hb2⟩ := hcut
      obtain ⟨k2, hk2⟩ : ∃ k2, numFrac L k1 = k2 := ⟨_, rfl⟩
      have HT := Lib.hid (show Tail L k2 R from hk2 ▸ HT2.out)
      have HN := Lib.hid (show number L = numExp L k2 from hk2 ▸ HN.out)
      have hsz2 := HT.out.size
      by_cases hR0 : R.size = 0
      · have hem := HT.out.empty hR0
        have HE := Lib.hid (show numExp L k2 = k2 by
          have h0 : gb L k2 = 0 := by rw [show k2 = k2 + 0 by rfl, ← HT.out.byte 0, nil_of_size hR0, gb_nil]
          unfold numExp; rw [if_neg (by omega)])
        go_wp2_with fail
        go_ret
        refine ⟨?_, hb2⟩
        have := (HT.out).size
        rw [HN.out, HE.out]
        exact ret_i64 (by omega)
      have hRp : 0 < R.size := by omega
      have hem := full hRp
      have hrun2 := head_run R hRp
      have hg2 : gb R.data.toList 0 = gb L k2 := HT.out.byte 0
      rw [hg2] at hrun2
      clear hR0 hg2
      obtain ⟨c, hc⟩ : ∃ c, gb L k2 = c := ⟨_, rfl⟩
      rw [hc] at hrun2
      by_cases hce : c = 101 ∨ c = 69
      · obtain ⟨m, hm⟩ : ∃ m, (if gb L (k2 + 1) = 43 ∨ gb L (k2 + 1) = 45 then k2 + 2 else k2 + 1) = m := ⟨_, rfl⟩
        have hE : numExp L k2 = if 0 < digs (L.drop m) then m + digs (L.drop m) else k2 := by
          unfold numExp; rw [hc, if_pos hce]; simp only [hm]
        have HE := Lib.hid hE
        have HM := Lib.hid hm
        have hR1 : 1 ≤ R.size := hRp
        have HA := Lib.hid (HT.out.cut 1 (by omega))
        have hAs := HA.out.size
        have hAsz : (R.extract 1 R.size).size = R.size - 1 := by simp
        clear hE hm hc
        have hways : ((c : Int) == 101) = true ∨ (((c : Int) == 101) = false ∧ ((c : Int) == 69) = true) := by
          by_cases h : c = 101
          · exact Or.inl (by simp; omega)
          · exact Or.inr ⟨by simp; omega, by simp; omega⟩
        clear hce
        rcases hways with hb101 | ⟨hb101, hb69⟩
        · by_cases hA0 : (R.extract 1 R.size).size = 0
          · have hemA := HA.out.empty hA0
            have hm : m = k2 + 1 := by
              rw [← HM.out, if_neg]
              have h0 : gb L (k2 + 1) = 0 := by rw [show k2 + 1 = k2 + 1 + 0 by rfl, ← HA.out.byte 0, nil_of_size hA0, gb_nil]
              omega
            rw [hm] at HE
            obtain ⟨d3, hd3e⟩ : ∃ d3, digs (L.drop (k2 + 1)) = d3 := ⟨_, rfl⟩
            have HT3 : Hid (Tail L (k2 + 1) (R.extract 1 R.size)) := Lib.hid (HA.out)
            have HD3 := Lib.hid (show digs (R.extract 1 R.size).data.toList = d3 by rw [HT3.out.1]; exact hd3e)
            have HDm := Lib.hid hd3e
            have HR3 := Lib.hid (show d3 ≤ (R.extract 1 R.size).size by rw [← HD3.out, Lib.size_eq]; exact digs_le _)
            have HZ := Lib.hid (show (R.extract 1 R.size).size ≤ 1099511627776 by have := HT3.out.size; omega)
            clear hd3e
            clear hm hA0
            go_wp2_with fail
            refine (digits_calls _ _ HZ.out).mono ?_
            rintro e w5 ⟨rfl, hb5⟩
            rw [HD3.out]
            by_cases h3 : 0 < d3
            · have h3' : (0 : Int) < (d3 : Int) := by omega
              have HE := Lib.hid (HE.out.trans (by rw [HDm.out, if_pos h3]))
              generalize R.extract 1 R.size = R3 at HT3 HR3 ⊢
              have hs3 := HT3.out.size
              have hd3 : d3 ≤ R3.size := HR3.out
              clear h3
              go_wp2_with fail
              go_ret
              refine ⟨?_, hb2.trans (hb5.mono hb2.size)⟩
              have := (HT3.out.cut d3 (by omega)).size
              rw [HN.out, HE.out]
              first | exact ret_i64 (by simp at *; omega) | exact ret_i64 (by omega)
            · have h3' : ¬ (0 : Int) < (d3 : Int) := by omega
              have HE := Lib.hid (HE.out.trans (by rw [HDm.out, if_neg h3]))
              clear h3
              go_wp2_with fail
              go_ret
              refine ⟨?_, hb2.trans (hb5.mono hb2.size)⟩
              rw [HN.out, HE.out]
              exact ret_i64 (by omega)
          · have hAp : 0 < (R.extract 1 R.size).size := by omega
            have hemA := full hAp
            have hrun3 := head_run (R.extract 1 R.size) hAp
            have hg3 : gb (R.extract 1 R.size).data.toList 0 = gb L (k2 + 1) := HA.out.byte 0
            rw [hg3] at hrun3
            obtain ⟨c1, hc1⟩ : ∃ c1, gb L (k2 + 1) = c1 := ⟨_, rfl⟩
            rw [hc1] at hrun3
            clear hg3 hA0
            have hR2 : (1 : Int) ≤ (R.size : Int) - 1 := by omega
            have hR2' : 1 ≤ R.size - 1 := by omega
            by_cases h43 : c1 = 43 ∨ c1 = 45
            · have hm : m = k2 + 2 := by rw [← HM.out, hc1, if_pos h43]
              rw [hm] at HE
              obtain ⟨d3, hd3e⟩ : ∃ d3, digs (L.drop (k2 + 2)) = d3 := ⟨_, rfl⟩
              have HT3 : Hid (Tail L (k2 + 2) ((R.extract 1 R.size).extract 1 (R.size - 1))) := Lib.hid (hAsz ▸ HA.out.cut 1 (by omega))
              have HD3 := Lib.hid (show digs ((R.extract 1 R.size).extract 1 (R.size - 1)).data.toList = d3 by rw [HT3.out.1]; exact hd3e)
              have HDm := Lib.hid hd3e
              have HR3 := Lib.hid (show d3 ≤ ((R.extract 1 R.size).extract 1 (R.size - 1)).size by rw [← HD3.out, Lib.size_eq]; exact digs_le _)
              have HZ := Lib.hid (show ((R.extract 1 R.size).extract 1 (R.size - 1)).size ≤ 1099511627776 by have := HT3.out.size; omega)
              clear hd3e
              have hways : ((c1 : Int) == 43) = true ∨ (((c1 : Int) == 43) = false ∧ ((c1 : Int) == 45) = true) := by
                by_cases h : c1 = 43
                · exact Or.inl (by simp; omega)
                · exact Or.inr ⟨by simp; omega, by simp; omega⟩
              clear hm hc1 h43
              rcases hways with hb43 | ⟨hb43, hb45⟩
              · go_wp2_with fail
                refine (digits_calls _ _ HZ.out).mono ?_
                rintro e w5 ⟨rfl, hb5⟩
                rw [HD3.out]
                by_cases h3 : 0 < d3
                · have h3' : (0 : Int) < (d3 : Int) := by omega
                  have HE := Lib.hid (HE.out.trans (by rw [HDm.out, if_pos h3]))
                  generalize (R.extract 1 R.size).extract 1 (R.size - 1) = R3 at HT3 HR3 ⊢
                  have hs3 := HT3.out.size
                  have hd3 : d3 ≤ R3.size := HR3.out
                  clear h3
                  go_wp2_with fail
                  go_ret
                  refine ⟨?_, hb2.trans (hb5.mono hb2.size)⟩
                  have := (HT3.out.cut d3 (by omega)).size
                  rw [HN.out, HE.out]
                  first | exact ret_i64 (by simp at *; omega) | exact ret_i64 (by omega)
                · have h3' : ¬ (0 : Int) < (d3 : Int) := by omega
                  have HE := Lib.hid (HE.out.trans (by rw [HDm.out, if_neg h3]))
                  clear h3
                  go_wp2_with fail
                  go_ret
                  refine ⟨?_, hb2.trans (hb5.mono hb2.size)⟩
                  rw [HN.out, HE.out]
                  exact ret_i64 (by omega)
              · go_wp2_with fail
                refine (digits_calls _ _ HZ.out).mono ?_
                rintro e w5 ⟨rfl, hb5⟩
                rw [HD3.out]
                by_cases h3 : 0 < d3
                · have h3' : (0 : Int) < (d3 : Int) := by omega
                  have HE := Lib.hid (HE.out.trans (by rw [HDm.out, if_pos h3]))
                  generalize (R.extract 1 R.size).extract 1 (R.size - 1) = R3 at HT3 HR3 ⊢
                  have hs3 := HT3.out.size
                  have hd3 : d3 ≤ R3.size := HR3.out
                  clear h3
                  go_wp2_with fail
                  go_ret
                  refine ⟨?_, hb2.trans (hb5.mono hb2.size)⟩
                  have := (HT3.out.cut d3 (by omega)).size
                  rw [HN.out, HE.out]
                  first | exact ret_i64 (by simp at *; omega) | exact ret_i64 (by omega)
                · have h3' : ¬ (0 : Int) < (d3 : Int) := by omega
                  have HE := Lib.hid (HE.out.trans (by rw [HDm.out, if_neg h3]))
                  clear h3
                  go_wp2_with fail
                  go_ret
                  refine ⟨?_, hb2.trans (hb5.mono hb2.size)⟩
                  rw [HN.out, HE.out]
                  exact ret_i64 (by omega)
            · have hm : m = k2 + 1 := by rw [← HM.out, hc1, if_neg h43]
              rw [hm] at HE
              obtain ⟨d3, hd3e⟩ : ∃ d3, digs (L.drop (k2 + 1)) = d3 := ⟨_, rfl⟩
              have HT3 : Hid (Tail L (k2 + 1) (R.extract 1 R.size)) := Lib.hid (HA.out)
              have HD3 := Lib.hid (show digs (R.extract 1 R.size).data.toList = d3 by rw [HT3.out.1]; exact hd3e)
              have HDm := Lib.hid hd3e
              have HR3 := Lib.hid (show d3 ≤ (R.extract 1 R.size).size by rw [← HD3.out, Lib.size_eq]; exact digs_le _)
              have HZ := Lib.hid (show (R.extract 1 R.size).size ≤ 1099511627776 by have := HT3.out.size; omega)
              clear hd3e
              have hb43 : ((c1 : Int) == 43) = false := by simp; omega
              have hb45 : ((c1 : Int) == 45) = false := by simp; omega
              clear hm hc1 h43
              go_wp2_with fail
              refine (digits_calls _ _ HZ.out).mono ?_
              rintro e w5 ⟨rfl, hb5⟩
              rw [HD3.out]
              by_cases h3 : 0 < d3
              · have h3' : (0 : Int) < (d3 : Int) := by omega
                have HE := Lib.hid (HE.out.trans (by rw [HDm.out, if_pos h3]))
                generalize R.extract 1 R.size = R3 at HT3 HR3 ⊢
                have hs3 := HT3.out.size
                have hd3 : d3 ≤ R3.size := HR3.out
                clear h3
                go_wp2_with fail
                go_ret
                refine ⟨?_, hb2.trans (hb5.mono hb2.size)⟩
                have := (HT3.out.cut d3 (by omega)).size
                rw [HN.out, HE.out]
                first | exact ret_i64 (by simp at *; omega) | exact ret_i64 (by omega)
              · have h3' : ¬ (0 : Int) < (d3 : Int) := by omega
                have HE := Lib.hid (HE.out.trans (by rw [HDm.out, if_neg h3]))
                clear h3
                go_wp2_with fail
                go_ret
                refine ⟨?_, hb2.trans (hb5.mono hb2.size)⟩
                rw [HN.out, HE.out]
                exact ret_i64 (by omega)
        · by_cases hA0 : (R.extract 1 R.size).size = 0
          · have hemA := HA.out.empty hA0
            have hm : m = k2 + 1 := by
              rw [← HM.out, if_neg]
              have h0 : gb L (k2 + 1) = 0 := by rw [show k2 + 1 = k2 + 1 + 0 by rfl, ← HA.out.byte 0, nil_of_size hA0, gb_nil]
              omega
            rw [hm] at HE
            obtain ⟨d3, hd3e⟩ : ∃ d3, digs (L.drop (k2 + 1)) = d3 := ⟨_, rfl⟩
            have HT3 : Hid (Tail L (k2 + 1) (R.extract 1 R.size)) := Lib.hid (HA.out)
            have HD3 := Lib.hid (show digs (R.extract 1 R.size).data.toList = d3 by rw [HT3.out.1]; exact hd3e)
            have HDm := Lib.hid hd3e
            have HR3 := Lib.hid (show d3 ≤ (R.extract 1 R.size).size by rw [← HD3.out, Lib.size_eq]; exact digs_le _)
            have HZ := Lib.hid (show (R.extract 1 R.size).size ≤ 1099511627776 by have := HT3.out.size; omega)
            clear hd3e
            clear hm hA0
            go_wp2_with fail
            refine (digits_calls _ _ HZ.out).mono ?_
            rintro e w5 ⟨rfl, hb5⟩
            rw [HD3.out]
            by_cases h3 : 0 < d3
            · have h3' : (0 : Int) < (d3 : Int) := by omega
              have HE := Lib.hid (HE.out.trans (by rw [HDm.out, if_pos h3]))
              generalize R.extract 1 R.size = R3 at HT3 HR3 ⊢
              have hs3 := HT3.out.size
              have hd3 : d3 ≤ R3.size := HR3.out
              clear h3
              go_wp2_with fail
              go_ret
              refine ⟨?_, hb2.trans (hb5.mono hb2.size)⟩
              have := (HT3.out.cut d3 (by omega)).size
              rw [HN.out, HE.out]
              first | exact ret_i64 (by simp at *; omega) | exact ret_i64 (by omega)
            · have h3' : ¬ (0 : Int) < (d3 : Int) := by omega
              have HE := Lib.hid (HE.out.trans (by rw [HDm.out, if_neg h3]))
              clear h3
              go_wp2_with fail
              go_ret
              refine ⟨?_, hb2.trans (hb5.mono hb2.size)⟩
              rw [HN.out, HE.out]
              exact ret_i64 (by omega)
          · have hAp : 0 < (R.extract 1 R.size).size := by omega
            have hemA := full hAp
            have hrun3 := head_run (R.extract 1 R.size) hAp
            have hg3 : gb (R.extract 1 R.size).data.toList 0 = gb L (k2 + 1) := HA.out.byte 0
            rw [hg3] at hrun3
            obtain ⟨c1, hc1⟩ : ∃ c1, gb L (k2 + 1) = c1 := ⟨_, rfl⟩
            rw [hc1] at hrun3
            clear hg3 hA0
            have hR2 : (1 : Int) ≤ (R.size : Int) - 1 := by omega
            have hR2' : 1 ≤ R.size - 1 := by omega
            by_cases h43 : c1 = 43 ∨ c1 = 45
            · have hm : m = k2 + 2 := by rw [← HM.out, hc1, if_pos h43]
              rw [hm] at HE
              obtain ⟨d3, hd3e⟩ : ∃ d3, digs (L.drop (k2 + 2)) = d3 := ⟨_, rfl⟩
              have HT3 : Hid (Tail L (k2 + 2) ((R.extract 1 R.size).extract 1 (R.size - 1))) := Lib.hid (hAsz ▸ HA.out.cut 1 (by omega))
              have HD3 := Lib.hid (show digs ((R.extract 1 R.size).extract 1 (R.size - 1)).data.toList = d3 by rw [HT3.out.1]; exact hd3e)
              have HDm := Lib.hid hd3e
              have HR3 := Lib.hid (show d3 ≤ ((R.extract 1 R.size).extract 1 (R.size - 1)).size by rw [← HD3.out, Lib.size_eq]; exact digs_le _)
              have HZ := Lib.hid (show ((R.extract 1 R.size).extract 1 (R.size - 1)).size ≤ 1099511627776 by have := HT3.out.size; omega)
              clear hd3e
              have hways : ((c1 : Int) == 43) = true ∨ (((c1 : Int) == 43) = false ∧ ((c1 : Int) == 45) = true) := by
                by_cases h : c1 = 43
                · exact Or.inl (by simp; omega)
                · exact Or.inr ⟨by simp; omega, by simp; omega⟩
              clear hm hc1 h43
              rcases hways with hb43 | ⟨hb43, hb45⟩
              · go_wp2_with fail
                refine (digits_calls _ _ HZ.out).mono ?_
                rintro e w5 ⟨rfl, hb5⟩
                rw [HD3.out]
                by_cases h3 : 0 < d3
                · have h3' : (0 : Int) < (d3 : Int) := by omega
                  have HE := Lib.hid (HE.out.trans (by rw [HDm.out, if_pos h3]))
                  generalize (R.extract 1 R.size).extract 1 (R.size - 1) = R3 at HT3 HR3 ⊢
                  have hs3 := HT3.out.size
                  have hd3 : d3 ≤ R3.size := HR3.out
                  clear h3
                  go_wp2_with fail
                  go_ret
                  refine ⟨?_, hb2.trans (hb5.mono hb2.size)⟩
                  have := (HT3.out.cut d3 (by omega)).size
                  rw [HN.out, HE.out]
                  first | exact ret_i64 (by simp at *; omega) | exact ret_i64 (by omega)
                · have h3' : ¬ (0 : Int) < (d3 : Int) := by omega
                  have HE := Lib.hid (HE.out.trans (by rw [HDm.out, if_neg h3]))
                  clear h3
                  go_wp2_with fail
                  go_ret
                  refine ⟨?_, hb2.trans (hb5.mono hb2.size)⟩
                  rw [HN.out, HE.out]
                  exact ret_i64 (by omega)
              · go_wp2_with fail
                refine (digits_calls _ _ HZ.out).mono ?_
                rintro e w5 ⟨rfl, hb5⟩
                rw [HD3.out]
                by_cases h3 : 0 < d3
                · have h3' : (0 : Int) < (d3 : Int) := by omega
                  have HE := Lib.hid (HE.out.trans (by rw [HDm.out, if_pos h3]))
                  generalize (R.extract 1 R.size).extract 1 (R.size - 1) = R3 at HT3 HR3 ⊢
                  have hs3 := HT3.out.size
                  have hd3 : d3 ≤ R3.size := HR3.out
                  clear h3
                  go_wp2_with fail
                  go_ret
                  refine ⟨?_, hb2.trans (hb5.mono hb2.size)⟩
                  have := (HT3.out.cut d3 (by omega)).size
                  rw [HN.out, HE.out]
                  first | exact ret_i64 (by simp at *; omega) | exact ret_i64 (by omega)
                · have h3' : ¬ (0 : Int) < (d3 : Int) := by omega
                  have HE := Lib.hid (HE.out.trans (by rw [HDm.out, if_neg h3]))
                  clear h3
                  go_wp2_with fail
                  go_ret
                  refine ⟨?_, hb2.trans (hb5.mono hb2.size)⟩
                  rw [HN.out, HE.out]
                  exact ret_i64 (by omega)
            · have hm : m = k2 + 1 := by rw [← HM.out, hc1, if_neg h43]
              rw [hm] at HE
              obtain ⟨d3, hd3e⟩ : ∃ d3, digs (L.drop (k2 + 1)) = d3 := ⟨_, rfl⟩
              have HT3 : Hid (Tail L (k2 + 1) (R.extract 1 R.size)) := Lib.hid (HA.out)
              have HD3 := Lib.hid (show digs (R.extract 1 R.size).data.toList = d3 by rw [HT3.out.1]; exact hd3e)
              have HDm := Lib.hid hd3e
              have HR3 := Lib.hid (show d3 ≤ (R.extract 1 R.size).size by rw [← HD3.out, Lib.size_eq]; exact digs_le _)
              have HZ := Lib.hid (show (R.extract 1 R.size).size ≤ 1099511627776 by have := HT3.out.size; omega)
              clear hd3e
              have hb43 : ((c1 : Int) == 43) = false := by simp; omega
              have hb45 : ((c1 : Int) == 45) = false := by simp; omega
              clear hm hc1 h43
              go_wp2_with fail
              refine (digits_calls _ _ HZ.out).mono ?_
              rintro e w5 ⟨rfl, hb5⟩
              rw [HD3.out]
              by_cases h3 : 0 < d3
              · have h3' : (0 : Int) < (d3 : Int) := by omega
                have HE := Lib.hid (HE.out.trans (by rw [HDm.out, if_pos h3]))
                generalize R.extract 1 R.size = R3 at HT3 HR3 ⊢
                have hs3 := HT3.out.size
                have hd3 : d3 ≤ R3.size := HR3.out
                clear h3
                go_wp2_with fail
                go_ret
                refine ⟨?_, hb2.trans (hb5.mono hb2.size)⟩
                have := (HT3.out.cut d3 (by omega)).size
                rw [HN.out, HE.out]
                first | exact ret_i64 (by simp at *; omega) | exact ret_i64 (by omega)
              · have h3' : ¬ (0 : Int) < (d3 : Int) := by omega
                have HE := Lib.hid (HE.out.trans (by rw [HDm.out, if_neg h3]))
                clear h3
                go_wp2_with fail
                go_ret
                refine ⟨?_, hb2.trans (hb5.mono hb2.size)⟩
                rw [HN.out, HE.out]
                exact ret_i64 (by omega)
      · have HE := Lib.hid (show numExp L k2 = k2 by unfold numExp; rw [hc, if_neg hce])
        have hb101 : ((c : Int) == 101) = false := by simp; omega
        have hb69 : ((c : Int) == 69) = false := by simp; omega
        clear hc hce
        go_wp2_with fail
        go_ret
        refine ⟨?_, hb2⟩
        have := (HT.out).size
        rw [HN.out, HE.out]
        exact ret_i64 (by omega)
end Go.Proofs.YtndkbecdjaedaaaGreatDoor
