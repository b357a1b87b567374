/- The reference's reader: sign, text, put. -/
import Derived.Test.YtndkbecdjaedaaaGreatDoorJsQ
import Derived.Laws.DeepStrings4
import Derived.Deep.RegionHeld3
namespace Go.Proofs.YtndkbecdjaedaaaGreatDoor
open Go.RowKit

theorem slice_mid (T : List UInt8) (k n : Nat) (h : k + n ≤ T.length) : ∀ w, (Instr.slice 9 (.string ⟨T.toArray⟩) (some (.int .i64 (k : Int))) (some (.int .i64 ((k : Int) + (n : Int)))) none).run Tryz.prog w = .ok (.string ⟨((T.drop k).take n).toArray⟩) w := by
  intro w
  have hs : (⟨T.toArray⟩ : ByteArray).size = T.length := by simp [ByteArray.size]
  rw [run_slice_string_if (P := Tryz.prog) w 9 ⟨T.toArray⟩ .i64 .i64 (k : Int) ((k : Int) + (n : Int)) Tryz.underlying9, if_pos ⟨by omega, by rw [hs]; omega⟩, if_pos ⟨by omega, by omega⟩]
  have h1 : ((k : Int) + (n : Int)).toNat = k + n := by omega
  rw [Int.toNat_natCast, h1]
  congr 2
  apply ByteArray.ext
  apply Array.toList_inj.1
  rw [ByteArray.data_extract]
  simp [List.take_drop]

/-- What sign finds, and where one is then. -/
def qsign (T : List UInt8) (k : Nat) (s : List UInt8) : Bool × Nat := if s.isPrefixOf (skip (T.drop k)) = true then (true, skipAt T k + s.length) else (false, skipAt T k)
theorem pre_take (s L : List UInt8) : s.isPrefixOf L = (L.take s.length == s) := by
  rw [Bool.eq_iff_iff, List.isPrefixOf_iff_prefix, List.prefix_iff_eq_take, beq_iff_eq]
  exact ⟨fun h => h.symm, fun h => h.symm⟩
theorem lists_eq (a b : List UInt8) : ((⟨a.toArray⟩ : ByteArray).toList == (⟨b.toArray⟩ : ByteArray).toList) = (a == b) := by rw [Lib.toList_data, Lib.toList_data]

set_option maxHeartbeats 8000000 in
set_option maxRecDepth 1000000 in
theorem qsign_calls (b : Nat) (T : List UInt8) (k : Nat) (vs : List V) (v : Value) (e : Int) (s : List UInt8) (w : World) (h : Rq b T k vs v e w) (hk : k ≤ T.length) (hT : T.length ≤ 1099511627776) (hs : s.length ≤ 100) :
    Calls Tryz.prog 114 #[.pointer (some ⟨b, 0, none⟩), .string ⟨s.toArray⟩] w fun x w' => x = .returned (.bool (qsign T k s).1) ∧ Rq b T (qsign T k s).2 vs v e w' ∧ Kp [b] w w' := by
  obtain ⟨hd, hk1, hk2⟩ := skipAt_drop T k hk
  have hq : qsign T k s = if s.isPrefixOf (skip (T.drop k)) = true then (true, skipAt T k + s.length) else (false, skipAt T k) := rfl
  rw [← hd] at hq
  have H := Lib.hid h
  have hss : (⟨s.toArray⟩ : ByteArray).size = s.length := by simp [ByteArray.size]
  have hts : (⟨T.toArray⟩ : ByteArray).size = T.length := by simp [ByteArray.size]
  obtain ⟨K, hK⟩ : ∃ K, skipAt T k = K := ⟨_, rfl⟩
  rw [hK] at hd hk1 hk2 hq
  have HKE := Lib.hid hK
  obtain ⟨P, hP⟩ : ∃ P, s.isPrefixOf (T.drop K) = P := ⟨_, rfl⟩
  rw [hP] at hq
  have hwr : IntKind.i64.wrap ((K : Int) + (s.length : Int)) = (K : Int) + (s.length : Int) := by simp [IntKind.wrap, IntKind.bits, IntKind.signed]; omega
  obtain ⟨Z, hZ⟩ : ∃ Z, qsign T k s = Z := ⟨_, rfl⟩
  rw [hZ] at hq ⊢
  have HQ := Lib.hid hq
  clear h hd hK hq hZ
  go_enter Tryz.func114, Tryz.ntmps114
  go_wp2_with fail
  refine (qskip_calls b T k vs v e _ H.out hk hT).mono ?_
  rintro e1 w1 ⟨rfl, h1, k1⟩
  rw [show skipAt T k = K from HKE.out] at h1
  have c0 := h1.c0
  have c1 := h1.c1
  have f1 := h1.free 1
  have H1 := Lib.hid h1
  have K1 := Lib.hid k1
  clear h1 k1
  by_cases hlen : K + s.length ≤ T.length
  · have hg : decide ((T.length : Int) < (K : Int) + (s.length : Int)) = false := decide_eq_false (by omega)
    have hsl := slice_mid T K s.length hlen
    have hpt := pre_take s (T.drop K)
    rw [hP] at hpt
    have hle := lists_eq ((T.drop K).take s.length) s
    rw [← hpt] at hle
    have hpt2 := hpt.symm
    generalize (T.drop K).take s.length = X at hsl hle hpt2
    clear hpt hP
    cases P with
    | true =>
      have hz : Z = (true, K + s.length) := by rw [HQ.out, if_pos rfl]
      subst hz
      go_wp2_with fail
      go_quiet (fail)
      have HRq := Lib.hid (H1.out.drewN nq)
      have HKq := Lib.hid (K1.out.drewN nq)
      have c1q := HRq.out.c1
      have f1q := HRq.out.free 1
      clear c0 c1 f1 H1 K1 hsl hle hpt2 hg
      generalize w1.drewN nq = wq at *
      go_wp2_with fail
      go_ret
      exact ⟨rfl, HRq.out.putAt (K + s.length) (by go_num), HKq.out.put 1 _⟩
    | false =>
      have hz : Z = (false, K) := by rw [HQ.out, if_neg (by decide)]
      subst hz
      go_wp2_with fail
      go_quiet (fail)
      have HRq := Lib.hid (H1.out.drewN nq)
      have HKq := Lib.hid (K1.out.drewN nq)
      clear c0 c1 f1 H1 K1 hsl hle hpt2 hg
      generalize w1.drewN nq = wq at *
      go_wp2_with fail
      go_ret
      exact ⟨rfl, HRq.out, HKq.out⟩
  · have hg : decide ((T.length : Int) < (K : Int) + (s.length : Int)) = true := decide_eq_true (by omega)
    have hpf : P = false := by
      rw [← hP, pre_take, beq_eq_false_iff_ne]
      intro he
      have := congrArg List.length he
      rw [List.length_take, List.length_drop] at this
      omega
    have hz : Z = (false, K) := by rw [HQ.out, hpf, if_neg (by decide)]
    subst hz
    clear hP
    go_wp2_with fail
    go_quiet (fail)
    have HRq := Lib.hid (H1.out.drewN nq)
    have HKq := Lib.hid (K1.out.drewN nq)
    clear c0 c1 f1 H1 K1 hg
    generalize w1.drewN nq = wq at *
    go_wp2_with fail
    go_ret
    exact ⟨rfl, HRq.out, HKq.out⟩

set_option maxHeartbeats 8000000 in
set_option maxRecDepth 1000000 in
theorem qtext_calls (b : Nat) (T : List UInt8) (k : Nat) (vs : List V) (v : Value) (e : Int) (w : World) (h : Rq b T k vs v e w) (hk : k ≤ T.length) (hT : T.length ≤ 1099511627776) :
    Calls Tryz.prog 116 #[.pointer (some ⟨b, 0, none⟩)] w fun x w' => x = .returned (.tuple #[.string ⟨(unqV (skip (T.drop k))).1.toArray⟩, .bool (unqV (skip (T.drop k))).2.2]) ∧ Rq b T (skipAt T k + (unqV (skip (T.drop k))).2.1) vs v e w' ∧ Kp [b] w w' := by
  obtain ⟨hd, hk1, hk2⟩ := skipAt_drop T k hk
  have H := Lib.hid h
  have hts : (⟨T.toArray⟩ : ByteArray).size = T.length := by simp [ByteArray.size]
  rw [← hd]
  obtain ⟨K, hK⟩ : ∃ K, skipAt T k = K := ⟨_, rfl⟩
  rw [hK] at hd hk1 hk2 ⊢
  have HKE := Lib.hid hK
  obtain ⟨⟨x, n, ok⟩, hu⟩ : ∃ u, unqV (T.drop K) = u := ⟨_, rfl⟩
  have hn := unqV_len hu
  rw [List.length_drop] at hn
  rw [hu]
  have HU := Lib.hid hu
  have hsl := slice_low T K hk2
  have hls : (⟨(T.drop K).toArray⟩ : ByteArray).size ≤ 1099511627776 := by
    have : (⟨(T.drop K).toArray⟩ : ByteArray).size = T.length - K := by simp [ByteArray.size]
    omega
  have HLS := Lib.hid hls
  clear h hd hK hu hls
  go_enter Tryz.func116, Tryz.ntmps116
  go_wp2_with fail
  refine (qskip_calls b T k vs v e _ H.out hk hT).mono ?_
  rintro e1 w1 ⟨rfl, h1, k1⟩
  rw [show skipAt T k = K from HKE.out] at h1
  have c0 := h1.c0
  have c1 := h1.c1
  have H1 := Lib.hid h1
  have K1 := Lib.hid k1
  clear h1 k1
  go_wp2_with fail
  have hbl : b < w1.drew.heap.size := H1.out.lt
  have HBL := Lib.hid hbl
  clear hbl
  go_region_held3 (fun w' => w'.cell? ⟨b, 0, none⟩ = some (.string ⟨T.toArray⟩) ∧ w'.cell? ⟨b, 1, none⟩ = some (.int .i64 (K : Int))) (go_keep) (first | (go_at_call 155; refine (runq_calls ⟨(T.drop K).toArray⟩ _ HLS.out).mono ?_; rintro e2 w2 ⟨rfl, hb2⟩; have d0 : w2.cell? ⟨b, 0, none⟩ = some (.string ⟨T.toArray⟩) := (hb2.cell (p := ⟨b, 0, none⟩) HBL.out).trans c0; have d1 : w2.cell? ⟨b, 1, none⟩ = some (.int .i64 (K : Int)) := (hb2.cell (p := ⟨b, 1, none⟩) HBL.out).trans c1; rw [show unqV (⟨(T.drop K).toArray⟩ : ByteArray).data.toList = (x, n, ok) from HU.out]))
  have H2 := Lib.hid (H1.out.drew.fresh hb2)
  have K2 := Lib.hid (K1.out.drew.trans (Kp.of_below (S := []) hb2) (fun _ hk => by cases hk))
  have c1' := H2.out.c1
  have f1' := H2.out.free 1
  clear c0 c1 hb2
  go_wp2_with fail
  go_ret2
  exact ⟨rfl, H2.out.putAt (K + n) (by go_num), K2.out.put 1 _⟩
end Go.Proofs.YtndkbecdjaedaaaGreatDoor
