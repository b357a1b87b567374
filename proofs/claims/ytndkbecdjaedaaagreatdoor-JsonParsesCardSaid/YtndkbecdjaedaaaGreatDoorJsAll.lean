/- The literals that value hands to all, and all: what a list has, what an object has. -/
import Derived.Test.YtndkbecdjaedaaaGreatDoorJsMem
namespace Go.Proofs.YtndkbecdjaedaaaGreatDoor
open Go.RowKit Go.Maps Go.WideMaps

theorem PRes.more {b : Nat} {w w' : World} {vs : List V} {v : Value} {S S' : List Nat} {r : Except Int (List V × List UInt8)} (h : PRes b w vs v S r w') (hS : ∀ k ∈ S, k ∈ S') : PRes b w vs v S' r w' :=
  ⟨h.ex, h.kp.mono fun k hk => .inl (by simp at hk ⊢; rcases hk with h | h | h; exact .inl h; exact .inr (.inl h); exact .inr (.inr (hS k h)))⟩

theorem pmem_len {f : Nat} {l : List UInt8} {n deep : Nat} {had : List (List UInt8)} {vs : List V} {r : List UInt8} (h : pmem f l n deep had = .ok (vs, r)) : r.length < l.length ∧ 1 ≤ vs.length := by
  unfold pmem at h
  have hsk := skip_len l
  split at h
  · cases h
  · split at h
    · cases h
    · split at h
      · cases h
      · rename_i hg
        have h1 := sgn_len hg
        rw [List.length_drop] at h1
        have h2 := pval_len _ _ _ _ _ _ _ h
        omega

set_option maxHeartbeats 4000000 in
set_option maxRecDepth 1000000 in
theorem lit1_calls (f b br bd : Nat) (l : List UInt8) (vs : List V) (v : Value) (deep : Nat) (w w0 : World) (hV : VOK f) (h : Rd b l vs v 0 w) (hE : Ev w0 b w) (hd : deep + 1 ≤ 50) (hn : vs.length ≤ 5000)
    (hf : 2 * l.length + 1 ≤ f) (hl : l.length ≤ 1099511627776) (hbr : w.heap[br]? = some (.cells #[.pointer (some ⟨b, 0, none⟩)] 81 (0, 0))) (hbd : w.heap[bd]? = some (.cells #[.int .i64 (deep : Int)] 3 (0, 0))) :
    Calls Tryz.prog 105 #[.pointer (some ⟨br, 0, none⟩), .pointer (some ⟨bd, 0, none⟩)] w fun x w' => x = .returned (.tuple #[]) ∧ PRes b w vs v [] (pval f l vs.length [] (deep + 1)) w' := by
  have cr := cell_of_one hbr
  have cd := cell_of_one hbd
  have hs : IntKind.i64.wrap ((deep : Int) + 1) = ((deep + 1 : Nat) : Int) := by rw [IntKind.wrap_i64]; omega
  go_enter Tryz.func105, Tryz.ntmps105
  go_wp2_with fail
  refine (hV b l vs v [] (deep + 1) _ w0 h hE hd hn hf hl).mono ?_
  rintro e1 w1 ⟨rfl, h1⟩
  go_wp2_with fail
  go_end0
  exact ⟨rfl, h1⟩

set_option maxHeartbeats 4000000 in
set_option maxRecDepth 1000000 in
theorem lit2_calls (f b hb br bm bd : Nat) (l : List UInt8) (vs : List V) (v : Value) (had : List (List UInt8)) (deep : Nat) (w w0 : World) (hV : VOK f) (h : Rd b l vs v 0 w) (hE : Ev w0 b w) (hd : deep + 1 ≤ 50) (hn : vs.length ≤ 5000)
    (hf : 2 * l.length + 1 ≤ f) (hl : l.length ≤ 1099511627776) (hm : Had hb had w) (hbb : b < hb) (hbv : v.ownBlock ≠ some hb) (hhl : had.length ≤ 5000)
    (hbr : w.heap[br]? = some (.cells #[.pointer (some ⟨b, 0, none⟩)] 81 (0, 0))) (hbm : w.heap[bm]? = some (.cells #[.map (some hb)] 92 (0, 0))) (hbd : w.heap[bd]? = some (.cells #[.int .i64 (deep : Int)] 3 (0, 0))) :
    Calls Tryz.prog 106 #[.pointer (some ⟨br, 0, none⟩), .pointer (some ⟨bm, 0, none⟩), .pointer (some ⟨bd, 0, none⟩)] w fun x w' => x = .returned (.tuple #[]) ∧ PRes b w vs v [hb] (pmem f l vs.length (deep + 1) had) w' ∧
      (∀ r, pmem f l vs.length (deep + 1) had = .ok r → Had hb (pname l :: had) w') := by
  have cr := cell_of_one hbr
  have cm := cell_of_one hbm
  have cd := cell_of_one hbd
  have hs : IntKind.i64.wrap ((deep : Int) + 1) = ((deep + 1 : Nat) : Int) := by rw [IntKind.wrap_i64]; omega
  go_enter Tryz.func106, Tryz.ntmps106
  go_wp2_with fail
  refine (member_calls f b hb l vs v had (deep + 1) _ w0 hV h hE hd hn hf hl hm hbb hbv hhl).mono ?_
  rintro e1 w1 ⟨rfl, h1⟩
  go_wp2_with fail
  go_end0
  exact ⟨rfl, h1⟩

set_option maxHeartbeats 8000000 in
set_option maxRecDepth 1000000 in
theorem all_list (F b br bd : Nat) (l : List UInt8) (vs : List V) (v : Value) (deep : Nat) (w w0 : World) (hV : ∀ g, g ≤ F → VOK g) (h : Rd b l vs v 0 w) (hE : Ev w0 b w) (hd : deep + 1 ≤ 50) (hn : vs.length ≤ 5000)
    (hf : 2 * l.length + 2 ≤ F) (hl : l.length ≤ 1099511627776) 
    (hbr : w.heap[br]? = some (.cells #[.pointer (some ⟨b, 0, none⟩)] 81 (0, 0))) (hbd : w.heap[bd]? = some (.cells #[.int .i64 (deep : Int)] 3 (0, 0)))
    (nbr : br ≠ b ∧ v.ownBlock ≠ some br) (nbd : bd ≠ b ∧ v.ownBlock ≠ some bd) :
    Calls Tryz.prog 104 #[.pointer (some ⟨b, 0, none⟩), .string ⟨#[93]⟩, .func (.func 105) #[] #[.pointer (some ⟨br, 0, none⟩), .pointer (some ⟨bd, 0, none⟩)]] w fun x w' =>
      x = .returned (.int .i64 (cnt3 (allV (sgn l 93) (pitems F l vs.length (deep + 1))) : Nat)) ∧ PRes b w vs v [] (cut3 (allV (sgn l 93) (pitems F l vs.length (deep + 1)))) w' := by
  have hbrl := lt_of_block hbr
  have hbdl := lt_of_block hbd
  obtain ⟨R, hR⟩ : ∃ R, allV (sgn l 93) (pitems F l vs.length (deep + 1)) = R := ⟨_, rfl⟩
  rw [hR]
  have HR := Lib.hid hR
  have HH := Lib.hid h
  have HE := Lib.hid hE
  have hv1 := signV_one l 93
  have hsk := skip_len l
  have hlt := h.lt
  have HV1 := Lib.hid hv1
  clear h hE hR hv1
  go_enter Tryz.func104, Tryz.ntmps104
  go_wp2_with fail
  refine (sign_calls b l vs v 0 ⟨#[93]⟩ _ HH.out).mono ?_
  rintro e1 w1 ⟨rfl, h1, k1⟩
  rw [show (⟨#[93]⟩ : ByteArray).data.toList = [93] from rfl, HV1.out] at h1 ⊢
  have k1' : Kp (b :: (v.ownBlock.toList ++ [])) w w1 := k1.mono (fun k hk => .inl (by simp at hk; simp [hk]))
  cases hg : sgn l 93 with
  | some r =>
    rw [hg] at h1
    simp only [] at h1
    have hrl := sgn_len hg
    have hR' : R = .ok ([], 0, r) := by rw [← HR.out, hg]; rfl
    have HR' := Lib.hid hR'
    clear hR'
    go_wp2_with fail
    go_ret
    rw [HR'.out]
    exact ⟨rfl, PRes.here h1 k1' hn (by omega) ⟨rfl, rfl, rfl⟩⟩
  | none =>
    rw [hg] at h1
    simp only [] at h1
    have hR' : R = glue [] 0 (pitems F (skip l) (vs ++ []).length (deep + 1)) := by rw [← HR.out, hg, glue_nil]; simp only [allV]; rw [List.append_nil, pitems_skip]
    have HR' := Lib.hid hR'
    have H1 : Hid (Rd b (skip l) (vs ++ []) v 0 w1) := Lib.hid (by rw [List.append_nil]; exact h1)
    have K1 := Lib.hid k1'
    clear h1 k1 k1' hR' hg HV1 HR
    go_wp2_with fail
    go_loopw [7] (fun vn wr => ∃ (n : Nat) (l1 : List UInt8) (xs : List V) (v1 : Value) (f1 : Nat), vn = .int .i64 (n : Int) ∧ 1 ≤ n ∧ n ≤ xs.length + 1 ∧ vs.length + xs.length ≤ 5000 ∧ 2 * l1.length + 2 ≤ f1 ∧ f1 ≤ F ∧ l1.length ≤ 1099511627776 ∧ Hid (Rd b l1 (vs ++ xs) v1 0 wr) ∧ Hid (Kp (b :: (v.ownBlock.toList ++ [])) w wr) ∧ Hid (Loc v v1 w) ∧ Hid (R = glue xs (n - 1) (pitems f1 l1 (vs ++ xs).length (deep + 1)))) (fun vn _ => 5002 - (intOf vn).toNat)
    case atStart => exact ⟨1, skip l, [], v, F, rfl, by omega, by simp, by simpa using hn, by omega, by omega, by omega, H1, K1, Lib.hid (Loc.refl _ _), HR'⟩
    case round =>
      obtain ⟨n, l1, xs, v1, f1, rfl, hn1, hnx, h50, hf1, hfF, hl1, HRd, HKp, HLoc, HRR⟩ := hrel
      obtain ⟨f1, rfl⟩ : ∃ f', f1 = f' + 1 := ⟨f1 - 1, by omega⟩
      have hkk : ∀ k, k < w.heap.size → k ≠ b → v.ownBlock ≠ some k → k ∉ (b :: (v.ownBlock.toList ++ [])) := fun k _ h2 h3 hm => by
        simp at hm
        rcases hm with hm | hm
        · exact h2 hm
        · exact h3 hm
      have hbr1 := HKp.out.block br hbrl (hkk br hbrl nbr.1 nbr.2)
      rw [hbr] at hbr1
      have hbd1 := HKp.out.block bd hbdl (hkk bd hbdl nbd.1 nbd.2)
      rw [hbd] at hbd1
      have hE1 := HE.out.kept HKp.out (by
        intro k hk
        simp at hk
        rcases hk with hk | hk
        · omega
        · exact Nat.le_of_lt (HH.out.ne k hk).1)
      have hlen : (vs ++ xs).length ≤ 5000 := by rw [List.length_append]; exact h50
      have HBR := Lib.hid hbr1
      have HBD := Lib.hid hbd1
      have HE1 := Lib.hid hE1
      clear hbr1 hbd1 hE1
      go_wp2_with fail
      refine (lit1_calls f1 b br bd l1 (vs ++ xs) v1 deep _ w0 (hV f1 (by omega)) HRd.out HE1.out hd hlen (by omega) hl1 HBR.out HBD.out).mono ?_
      rintro e2 w2 ⟨rfl, hP⟩
      obtain ⟨⟨l2, vs2, v2, e2, h2, hloc2, hlen2, h502, hl2, hres⟩, kp2⟩ := hP
      have k2 : Kp (b :: (v.ownBlock.toList ++ [])) w w2 := HKp.out.trans kp2 (fun k hk => by
        simp at hk
        rcases hk with hk | hk
        · exact .inl (by simp [hk])
        · rcases HLoc.out k hk with h | h
          · exact .inl (by simp [h])
          · exact .inr h)
      have loc2 := HLoc.out.trans hloc2 HKp.out.size
      have c2 := h2.c2
      have H2 := Lib.hid h2
      have K2 := Lib.hid k2
      have LOC2 := Lib.hid loc2
      clear h2 k2 loc2 kp2 hloc2
      cases hp : pval f1 l1 (vs ++ xs).length [] (deep + 1) with
      | error e =>
        rw [hp] at hres
        obtain ⟨rfl, he0⟩ := hres
        have het : (e2 != 0) = true := by simpa using he0
        have hRe : R = .error e2 := by rw [HRR.out, pitems_eq, hp]; rfl
        have HRe := Lib.hid hRe
        have HE0 := Lib.hid he0
        clear hRe hp he0
        go_wp2_with fail
        go_ret
        rw [HRe.out]
        refine ⟨rfl, ⟨l2, vs2, v2, e2, H2.out, LOC2.out, ?_, h502, hl2, rfl, HE0.out⟩, K2.out⟩
        rw [List.length_append] at hlen2; omega
      | ok p =>
        obtain ⟨ys, r⟩ := p
        rw [hp] at hres
        obtain ⟨rfl, rfl, rfl⟩ := hres
        have hys : l2.length < l1.length ∧ 1 ≤ ys.length := pval_len f1 _ _ _ _ _ _ hp
        have hRo : R = glue xs (n - 1) (nextV 93 ys l2 (fun r' => pitems f1 r' ((vs ++ xs).length + ys.length) (deep + 1))) := by rw [HRR.out, pitems_eq, hp]
        have HRo := Lib.hid hRo
        have HP := Lib.hid hp
        have hv2 := signV_one l2 93
        have HV2 := Lib.hid hv2
        clear hRo hv2 hp
        go_wp2_with fail
        refine (sign_calls b l2 _ v2 0 ⟨#[93]⟩ _ H2.out).mono ?_
        rintro e3 w3 ⟨rfl, h3, k3⟩
        rw [show (⟨#[93]⟩ : ByteArray).data.toList = [93] from rfl, HV2.out] at h3 ⊢
        have K3 := Lib.hid (K2.out.trans k3 (fun k hk => .inl (by simp at hk; simp [hk])))
        cases hg3 : sgn l2 93 with
        | some r' =>
          rw [hg3] at h3
          simp only [] at h3
          have hrl := sgn_len hg3
          have hRo : R = .ok (xs ++ ys, n - 1 + 1, r') := by rw [HRo.out, nextV, hg3]; rfl
          have HRo2 := Lib.hid hRo
          have H3 := Lib.hid h3
          clear hRo h3 hg3 k3
          go_wp2_with fail
          go_ret
          rw [HRo2.out]
          refine ⟨?_, ⟨r', _, v2, 0, H3.out, LOC2.out, ?_, h502, by omega, rfl, rfl, by rw [List.append_assoc]⟩, K3.out⟩
          · show Ending.returned (Value.int .i64 (n : Int)) = Ending.returned (Value.int .i64 ((n - 1 + 1 : Nat) : Int))
            rw [show n - 1 + 1 = n by omega]
          · simp only [List.length_append]; omega
        | none =>
          rw [hg3] at h3
          simp only [] at h3
          have H3 := Lib.hid h3
          have hv4 := signV_one (skip l2) 44
          rw [sgn_skip, skip_skip] at hv4
          have HV4 := Lib.hid hv4
          have hsk2 := skip_len l2
          clear h3 k3 hv4
          go_wp2_with fail
          refine (sign_calls b (skip l2) _ v2 0 ⟨#[44]⟩ _ H3.out).mono ?_
          rintro e4 w4 ⟨rfl, h4, k4⟩
          rw [show (⟨#[44]⟩ : ByteArray).data.toList = [44] from rfl, HV4.out] at h4 ⊢
          have K4 := Lib.hid (K3.out.trans k4 (fun k hk => .inl (by simp at hk; simp [hk])))
          cases hg4 : sgn l2 44 with
          | none =>
            rw [hg4] at h4
            simp only [] at h4
            have hRo : R = .error 3 := by rw [HRo.out, nextV, hg3]; simp only []; rw [hg4]; rfl
            have HRo2 := Lib.hid hRo
            have H4 := Lib.hid h4
            clear hRo h4 hg3 hg4 k4
            go_wp2_with fail
            refine (bad_calls b _ _ _ _ 3 _ H4.out).mono ?_
            rintro e5 w5 ⟨rfl, h5, k5⟩
            have K5 := Lib.hid (K4.out.trans k5 (fun k hk => .inl (by simp at hk; simp [hk])))
            have H5 := Lib.hid h5
            clear h5 k5
            go_wp2_with fail
            go_ret
            rw [HRo2.out]
            refine ⟨rfl, ⟨skip l2, _, v2, 3, H5.out, LOC2.out, ?_, h502, by omega, rfl, by decide⟩, K5.out⟩
            simp only [List.length_append]; omega
          | some r' =>
            rw [hg4] at h4
            simp only [] at h4
            have hrl := sgn_len hg4
            have hRo : R = glue (xs ++ ys) n (pitems f1 r' (vs ++ (xs ++ ys)).length (deep + 1)) := by
              rw [HRo.out, nextV, hg3]
              simp only []
              rw [hg4]
              simp only []
              rw [glue_glue, show n - 1 + 1 = n by omega, ← List.append_assoc, @List.length_append _ (vs ++ xs) ys]
            have HRo2 := Lib.hid hRo
            have H4 : Hid (Rd b r' (vs ++ (xs ++ ys)) v2 0 w4) := Lib.hid (by rw [← List.append_assoc]; exact h4)
            clear hRo h4 hg3 hg4 k4
            have hw : IntKind.i64.wrap ((n : Int) + 1) = ((n + 1 : Nat) : Int) := by rw [IntKind.wrap_i64]; omega
            have h503 : vs.length + (xs ++ ys).length ≤ 5000 := by rw [List.append_assoc, List.length_append] at h502; exact h502
            have hxy : (xs ++ ys).length = xs.length + ys.length := List.length_append
            go_wp2_with fail
            go_roundw
            case rel => exact ⟨n + 1, r', xs ++ ys, v2, f1, by go_num, by omega, by omega, h503, by omega, by omega, by omega, H4, K4, LOC2, HRo2⟩
            case measure => simp [intOf]; omega

set_option maxHeartbeats 8000000 in
set_option maxRecDepth 1000000 in
theorem all_obj (F b hb br bm bd : Nat) (l : List UInt8) (vs : List V) (v : Value) (deep : Nat) (w w0 : World) (hV : ∀ g, g ≤ F → VOK g) (h : Rd b l vs v 0 w) (hE : Ev w0 b w) (hd : deep + 1 ≤ 50) (hn : vs.length ≤ 5000)
    (hf : 2 * l.length + 2 ≤ F) (hl : l.length ≤ 1099511627776) (hm : Had hb [] w) (hbb : b < hb) (hbv : v.ownBlock ≠ some hb)
    (hbr : w.heap[br]? = some (.cells #[.pointer (some ⟨b, 0, none⟩)] 81 (0, 0))) (hbm : w.heap[bm]? = some (.cells #[.map (some hb)] 92 (0, 0))) (hbd : w.heap[bd]? = some (.cells #[.int .i64 (deep : Int)] 3 (0, 0)))
    (nbr : br ≠ b ∧ v.ownBlock ≠ some br ∧ br ≠ hb) (nbm : bm ≠ b ∧ v.ownBlock ≠ some bm ∧ bm ≠ hb) (nbd : bd ≠ b ∧ v.ownBlock ≠ some bd ∧ bd ≠ hb) :
    Calls Tryz.prog 104 #[.pointer (some ⟨b, 0, none⟩), .string ⟨#[125]⟩, .func (.func 106) #[] #[.pointer (some ⟨br, 0, none⟩), .pointer (some ⟨bm, 0, none⟩), .pointer (some ⟨bd, 0, none⟩)]] w fun x w' =>
      x = .returned (.int .i64 (cnt3 (allV (sgn l 125) (pmems F l vs.length (deep + 1) [])) : Nat)) ∧ PRes b w vs v [hb] (cut3 (allV (sgn l 125) (pmems F l vs.length (deep + 1) []))) w' := by
  have hbrl := lt_of_block hbr
  have hbdl := lt_of_block hbd
  have hbml := lt_of_block hbm
  obtain ⟨R, hR⟩ : ∃ R, allV (sgn l 125) (pmems F l vs.length (deep + 1) []) = R := ⟨_, rfl⟩
  rw [hR]
  have HR := Lib.hid hR
  have HH := Lib.hid h
  have HE := Lib.hid hE
  have HM := Lib.hid hm
  have hbl := hm.lt
  have hv1 := signV_one l 125
  have hsk := skip_len l
  have hlt := h.lt
  have HV1 := Lib.hid hv1
  clear h hE hR hv1 hm
  go_enter Tryz.func104, Tryz.ntmps104
  go_wp2_with fail
  refine (sign_calls b l vs v 0 ⟨#[125]⟩ _ HH.out).mono ?_
  rintro e1 w1 ⟨rfl, h1, k1⟩
  rw [show (⟨#[125]⟩ : ByteArray).data.toList = [125] from rfl, HV1.out] at h1 ⊢
  have k1' : Kp (b :: (v.ownBlock.toList ++ [hb])) w w1 := k1.mono (fun k hk => .inl (by simp at hk; simp [hk]))
  cases hg : sgn l 125 with
  | some r =>
    rw [hg] at h1
    simp only [] at h1
    have hrl := sgn_len hg
    have hR' : R = .ok ([], 0, r) := by rw [← HR.out, hg]; rfl
    have HR' := Lib.hid hR'
    clear hR'
    go_wp2_with fail
    go_ret
    rw [HR'.out]
    exact ⟨rfl, PRes.here h1 k1' hn (by omega) ⟨rfl, rfl, rfl⟩⟩
  | none =>
    rw [hg] at h1
    simp only [] at h1
    have hR' : R = glue [] 0 (pmems F (skip l) (vs ++ []).length (deep + 1) []) := by rw [← HR.out, hg, glue_nil]; simp only [allV]; rw [List.append_nil, pmems_skip]
    have HR' := Lib.hid hR'
    have H1 : Hid (Rd b (skip l) (vs ++ []) v 0 w1) := Lib.hid (by rw [List.append_nil]; exact h1)
    have K1 := Lib.hid k1'
    have HM1 := Lib.hid (HM.out.kept k1 (by simp; omega))
    clear h1 k1 k1' hR' hg HV1 HR
    go_wp2_with fail
    go_loopw [7] (fun vn wr => ∃ (n : Nat) (l1 : List UInt8) (xs : List V) (v1 : Value) (f1 : Nat) (had : List (List UInt8)), vn = .int .i64 (n : Int) ∧ 1 ≤ n ∧ n ≤ xs.length + 1 ∧ vs.length + xs.length ≤ 5000 ∧ 2 * l1.length + 2 ≤ f1 ∧ f1 ≤ F ∧ l1.length ≤ 1099511627776 ∧ Hid (Rd b l1 (vs ++ xs) v1 0 wr) ∧ Hid (Kp (b :: (v.ownBlock.toList ++ [hb])) w wr) ∧ Hid (Loc v v1 w) ∧ Hid (R = glue xs (n - 1) (pmems f1 l1 (vs ++ xs).length (deep + 1) had)) ∧ Hid (Had hb had wr) ∧ had.length ≤ xs.length) (fun vn _ => 5002 - (intOf vn).toNat)
    case atStart => exact ⟨1, skip l, [], v, F, [], rfl, by omega, by simp, by simpa using hn, by omega, by omega, by omega, H1, K1, Lib.hid (Loc.refl _ _), HR', HM1, by simp⟩
    case round =>
      obtain ⟨n, l1, xs, v1, f1, had, rfl, hn1, hnx, h50, hf1, hfF, hl1, HRd, HKp, HLoc, HRR, HHad, hhl⟩ := hrel
      obtain ⟨f1, rfl⟩ : ∃ f', f1 = f' + 1 := ⟨f1 - 1, by omega⟩
      have hkk : ∀ k, k < w.heap.size → k ≠ b → v.ownBlock ≠ some k → k ≠ hb → k ∉ (b :: (v.ownBlock.toList ++ [hb])) := fun k _ h2 h3 h4 hm => by
        simp at hm
        rcases hm with hm | hm | hm
        · exact h2 hm
        · exact h3 hm
        · exact h4 hm
      have hbr1 := HKp.out.block br hbrl (hkk br hbrl nbr.1 nbr.2.1 nbr.2.2)
      rw [hbr] at hbr1
      have hbm1 := HKp.out.block bm hbml (hkk bm hbml nbm.1 nbm.2.1 nbm.2.2)
      rw [hbm] at hbm1
      have hbd1 := HKp.out.block bd hbdl (hkk bd hbdl nbd.1 nbd.2.1 nbd.2.2)
      rw [hbd] at hbd1
      have hE1 := HE.out.kept HKp.out (by
        intro k hk
        simp at hk
        rcases hk with hk | hk | hm
        · omega
        · exact Nat.le_of_lt (HH.out.ne k hk).1
        · omega)
      have hlen : (vs ++ xs).length ≤ 5000 := by rw [List.length_append]; exact h50
      have HBR := Lib.hid hbr1
      have HBM := Lib.hid hbm1
      have hov : v1.ownBlock ≠ some hb := fun h => by
        rcases HLoc.out hb h with h | h
        · exact hbv h
        · omega
      have HBD := Lib.hid hbd1
      have HE1 := Lib.hid hE1
      clear hbr1 hbd1 hE1 hbm1
      go_wp2_with fail
      refine (lit2_calls f1 b hb br bm bd l1 (vs ++ xs) v1 had deep _ w0 (hV f1 (by omega)) HRd.out HE1.out hd hlen (by omega) hl1 HHad.out hbb hov (by omega) HBR.out HBM.out HBD.out).mono ?_
      rintro e2 w2 ⟨rfl, hP, hHad2⟩
      obtain ⟨⟨l2, vs2, v2, e2, h2, hloc2, hlen2, h502, hl2, hres⟩, kp2⟩ := hP
      have k2 : Kp (b :: (v.ownBlock.toList ++ [hb])) w w2 := HKp.out.trans kp2 (fun k hk => by
        simp at hk
        rcases hk with hk | hk | hm
        · exact .inl (by simp [hk])
        · rcases HLoc.out k hk with h | h
          · exact .inl (by simp [h])
          · exact .inr h
        · exact .inl (by simp [hm]))
      have loc2 := HLoc.out.trans hloc2 HKp.out.size
      have c2 := h2.c2
      have H2 := Lib.hid h2
      have K2 := Lib.hid k2
      have LOC2 := Lib.hid loc2
      clear h2 k2 loc2 kp2 hloc2
      cases hp : pmem f1 l1 (vs ++ xs).length (deep + 1) had with
      | error e =>
        rw [hp] at hres
        obtain ⟨rfl, he0⟩ := hres
        have het : (e2 != 0) = true := by simpa using he0
        have hRe : R = .error e2 := by rw [HRR.out, pmems_eq, hp]; rfl
        have HRe := Lib.hid hRe
        have HE0 := Lib.hid he0
        clear hRe hp he0
        go_wp2_with fail
        go_ret
        rw [HRe.out]
        refine ⟨rfl, ⟨l2, vs2, v2, e2, H2.out, LOC2.out, ?_, h502, hl2, rfl, HE0.out⟩, K2.out⟩
        rw [List.length_append] at hlen2; omega
      | ok p =>
        obtain ⟨ys, r⟩ := p
        rw [hp] at hres
        obtain ⟨rfl, rfl, rfl⟩ := hres
        have hys : l2.length < l1.length ∧ 1 ≤ ys.length := pmem_len hp
        have hRo : R = glue xs (n - 1) (nextV 125 ys l2 (fun r' => pmems f1 r' ((vs ++ xs).length + ys.length) (deep + 1) (pname l1 :: had))) := by rw [HRR.out, pmems_eq, hp]
        have HRo := Lib.hid hRo
        have HP := Lib.hid hp
        have HHad2 := Lib.hid (hHad2 _ hp)
        have hv2 := signV_one l2 125
        have HV2 := Lib.hid hv2
        clear hRo hv2 hp hHad2
        go_wp2_with fail
        refine (sign_calls b l2 _ v2 0 ⟨#[125]⟩ _ H2.out).mono ?_
        rintro e3 w3 ⟨rfl, h3, k3⟩
        rw [show (⟨#[125]⟩ : ByteArray).data.toList = [125] from rfl, HV2.out] at h3 ⊢
        have K3 := Lib.hid (K2.out.trans k3 (fun k hk => .inl (by simp at hk; simp [hk])))
        cases hg3 : sgn l2 125 with
        | some r' =>
          rw [hg3] at h3
          simp only [] at h3
          have hrl := sgn_len hg3
          have hRo : R = .ok (xs ++ ys, n - 1 + 1, r') := by rw [HRo.out, nextV, hg3]; rfl
          have HRo2 := Lib.hid hRo
          have H3 := Lib.hid h3
          clear hRo h3 hg3 k3
          go_wp2_with fail
          go_ret
          rw [HRo2.out]
          refine ⟨?_, ⟨r', _, v2, 0, H3.out, LOC2.out, ?_, h502, by omega, rfl, rfl, by rw [List.append_assoc]⟩, K3.out⟩
          · show Ending.returned (Value.int .i64 (n : Int)) = Ending.returned (Value.int .i64 ((n - 1 + 1 : Nat) : Int))
            rw [show n - 1 + 1 = n by omega]
          · simp only [List.length_append]; omega
        | none =>
          rw [hg3] at h3
          simp only [] at h3
          have H3 := Lib.hid h3
          have hv4 := signV_one (skip l2) 44
          rw [sgn_skip, skip_skip] at hv4
          have HV4 := Lib.hid hv4
          have hsk2 := skip_len l2
          have HHad3 := Lib.hid (HHad2.out.kept k3 (by simp; omega))
          clear h3 k3 hv4
          go_wp2_with fail
          refine (sign_calls b (skip l2) _ v2 0 ⟨#[44]⟩ _ H3.out).mono ?_
          rintro e4 w4 ⟨rfl, h4, k4⟩
          rw [show (⟨#[44]⟩ : ByteArray).data.toList = [44] from rfl, HV4.out] at h4 ⊢
          have K4 := Lib.hid (K3.out.trans k4 (fun k hk => .inl (by simp at hk; simp [hk])))
          cases hg4 : sgn l2 44 with
          | none =>
            rw [hg4] at h4
            simp only [] at h4
            have hRo : R = .error 3 := by rw [HRo.out, nextV, hg3]; simp only []; rw [hg4]; rfl
            have HRo2 := Lib.hid hRo
            have H4 := Lib.hid h4
            clear hRo h4 hg3 hg4 k4
            go_wp2_with fail
            refine (bad_calls b _ _ _ _ 3 _ H4.out).mono ?_
            rintro e5 w5 ⟨rfl, h5, k5⟩
            have K5 := Lib.hid (K4.out.trans k5 (fun k hk => .inl (by simp at hk; simp [hk])))
            have H5 := Lib.hid h5
            clear h5 k5
            go_wp2_with fail
            go_ret
            rw [HRo2.out]
            refine ⟨rfl, ⟨skip l2, _, v2, 3, H5.out, LOC2.out, ?_, h502, by omega, rfl, by decide⟩, K5.out⟩
            simp only [List.length_append]; omega
          | some r' =>
            rw [hg4] at h4
            simp only [] at h4
            have hrl := sgn_len hg4
            have hRo : R = glue (xs ++ ys) n (pmems f1 r' (vs ++ (xs ++ ys)).length (deep + 1) (pname l1 :: had)) := by
              rw [HRo.out, nextV, hg3]
              simp only []
              rw [hg4]
              simp only []
              rw [glue_glue, show n - 1 + 1 = n by omega, ← List.append_assoc, @List.length_append _ (vs ++ xs) ys]
            have HRo2 := Lib.hid hRo
            have H4 : Hid (Rd b r' (vs ++ (xs ++ ys)) v2 0 w4) := Lib.hid (by rw [← List.append_assoc]; exact h4)
            have HHad4 := Lib.hid (HHad3.out.kept k4 (by simp; omega))
            have hpl : (pname l1 :: had).length = had.length + 1 := rfl
            clear hRo h4 hg3 hg4 k4
            have hw : IntKind.i64.wrap ((n : Int) + 1) = ((n + 1 : Nat) : Int) := by rw [IntKind.wrap_i64]; omega
            have h503 : vs.length + (xs ++ ys).length ≤ 5000 := by rw [List.append_assoc, List.length_append] at h502; exact h502
            have hxy : (xs ++ ys).length = xs.length + ys.length := List.length_append
            go_wp2_with fail
            go_roundw
            case rel => exact ⟨n + 1, r', xs ++ ys, v2, f1, pname l1 :: had, by go_num, by omega, by omega, h503, by omega, by omega, by omega, H4, K4, LOC2, HRo2, HHad4, by omega⟩
            case measure => simp [intOf]; omega
end Go.Proofs.YtndkbecdjaedaaaGreatDoor
