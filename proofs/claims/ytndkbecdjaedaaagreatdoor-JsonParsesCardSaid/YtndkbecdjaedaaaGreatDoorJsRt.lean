/- json.Right, for every slice of values. -/
import Derived.Test.YtndkbecdjaedaaaGreatDoorJsStk
import Derived.Test.YtndkbecdjaedaaaGreatDoorJsVs
import Derived.Deep.DeepCutAuto
import Derived.BigQuiet
namespace Go.Proofs.YtndkbecdjaedaaaGreatDoor
open Go.RowKit Go.Maps Go.WideMaps

/-- What a row's names, texts and counts may be. -/
def Fits (l : List V) : Prop := ∀ x ∈ l, x.key.length ≤ 1099511627776 ∧ x.text.length ≤ 1099511627776 ∧ x.count ≤ 9223372036854775807
def slen : Value → Nat
  | .slice _ n _ => n
  | _ => 0
theorem stk_at {x : V} {r : List V} {S S' : List Opn} {top : Opn} (h : popS S = top :: S') : stk (x :: r) S =
      if ownV x top.object = false ∨ 50 < S'.length + 1 then false
      else if (top.object && top.had.contains x.key) = true then false
      else if 0 < x.count then stk r (⟨x.kind == 6, x.count.toNat, []⟩ :: ⟨top.object, top.left - 1, if top.object = true then x.key :: top.had else top.had⟩ :: S')
      else stk r (⟨top.object, top.left - 1, if top.object = true then x.key :: top.had else top.had⟩ :: S') := by
  simp only [stk, h]
theorem stk_gone {x : V} {r : List V} {S : List Opn} (h : popS S = []) : stk (x :: r) S = false := by
  simp only [stk, h]
theorem stk_end (st : List (Opn × Option Nat)) : stk [] (st.map Prod.fst) = !someLeft st := by
  unfold someLeft
  simp only [stk]
  induction st with
  | nil => rfl
  | cons p t ih =>
    simp only [List.map_cons, List.all_cons, List.any_cons, ih, Bool.not_or]
    congr 1
    by_cases h : p.1.left = 0
    · simp [h]
    · have h2 : 0 < p.1.left := by omega
      simp [h, h2]

theorem four {w : World} {b : Nat} {a0 a1 a2 a3 : Value} {t : TypeId} (h : w.heap[b]? = some (.cells #[a0, a1, a2, a3] t (0, 0))) :
    w.cell? ⟨b, 0, none⟩ = some a0 ∧ w.cell? ⟨b, 1, none⟩ = some a1 ∧ w.cell? ⟨b, 2, none⟩ = some a2 ∧ w.cell? ⟨b, 3, none⟩ = some a3 := by
  refine ⟨?_, ?_, ?_, ?_⟩ <;> rw [cell_of_row w b _ _ _ _ h] <;> rfl
theorem infoOpen : (Tryz.prog.info? 94).map (fun i => (i.zero, i.size, i.bytes)) = some (some (.agg #[.bool false, .int .i64 0, .map none]), 3, 24) := by kernel_rfl

set_option maxHeartbeats 16000000 in
set_option maxRecDepth 1000000 in
theorem right_calls (v : Value) (l : List V) (w : World) (h : Vs w v l) (hT : U8 w) (hf : Fits l) (hl : l.length ≤ 1000000000) :
    Calls Tryz.prog 33 #[v] w fun e w' => e = .returned (.bool (jright l)) ∧ Below w.heap.size w w' := by
  obtain ⟨a, cap, hv⟩ := h.len
  rw [← stk_right l]
  obtain ⟨RR, hRR⟩ : ∃ RR, stk l [⟨false, 1, []⟩] = RR := ⟨_, rfl⟩
  rw [hRR]
  have HH := Lib.hid h
  have HT := Lib.hid hT
  have HF := Lib.hid hf
  have S0 : Hid (St w.heap.size (.slice (some ⟨w.heap.size, 0, none⟩) 1 1) [(⟨false, 1, []⟩, none)] (w.alloc (.cells #[.bool false, .int .i64 1, .map none] 94))) :=
    Lib.hid ⟨World.ownsRow_lit w #[.bool false, .int .i64 1, .map none] 1 (Nat.le_refl _) (by unfold maxLen; omega) rfl, fun p hp => by
      rcases List.mem_singleton.1 hp with rfl
      exact ⟨fun _ => rfl, fun hb e => by cases e⟩, List.pairwise_singleton _ _⟩
  have K0 : Hid (Below w.heap.size w (w.alloc (.cells #[.bool false, .int .i64 1, .map none] 94))) := Lib.hid ((Below.refl _ _).alloc (Nat.le_refl _) _)
  have R0 : Hid (stk (l.drop 0) ([((⟨false, 1, []⟩ : Opn), (none : Option Nat))].map Prod.fst) = RR) := Lib.hid hRR
  obtain ⟨i0, hi0, hz0, hz1, hz2⟩ := info_parts infoOpen
  have hmm := @run_makeMap Tryz.prog
  subst hv
  clear h hT hf hRR
  go_enter Tryz.func33, Tryz.ntmps33
  go_wp2_with fail
  go_loopw [3, 11] (fun v3 v11 wr => ∃ (i : Nat) (st : List (Opn × Option Nat)), v11 = .int .i64 (i : Int) ∧ i ≤ l.length ∧ st.length ≤ i + 1 ∧ st ≠ [] ∧ Hid (∀ p ∈ st, p.1.had.length ≤ i ∧ p.1.left ≤ 9223372036854775807) ∧ Hid (St w.heap.size v3 st wr) ∧ Hid (Below w.heap.size w wr) ∧ Hid (stk (l.drop i) (st.map Prod.fst) = RR)) (fun _ v11 _ => l.length - (intOf v11).toNat)
  case atStart => exact ⟨0, _, rfl, by omega, by simp, by simp, Lib.hid (fun p hp => by rcases List.mem_singleton.1 hp with rfl; simp), S0, K0, R0⟩
  case round =>
    obtain ⟨i, st, rfl, hi, hsl, hsn, HB, HST, HK, HRR⟩ := hrel
    by_cases hil : i < l.length
    · rcases HH.out.kept HK.out with ⟨rfl, _⟩ | ⟨bl, off, capl, hvl, _, hcl⟩
      · simp at hil
      simp only [Value.slice.injEq] at hvl
      obtain ⟨rfl, _, rfl⟩ := hvl
      obtain ⟨p0, p1, p2, p3⟩ := load4 (hcl i hil)
      have hfx := HF.out l[i] (List.getElem_mem hil)
      have hdr : l.drop i = l[i] :: l.drop (i + 1) := List.drop_eq_getElem_cons hil
      obtain ⟨x, hx⟩ : ∃ x, l[i] = x := ⟨_, rfl⟩
      rw [hx] at p0 p1 p2 p3 hfx hdr
      have hix0 : (0 : Int) ≤ (i : Int) := by omega
      have hix1 : (i : Int) < (l.length : Int) := by omega
      have HFX := Lib.hid hfx
      have HDR := Lib.hid hdr
      have hst5 := HST.out.fresh ((Below.refl wr.heap.size wr).alloc (Nat.le_refl _) (.cells #[.int .i64 x.kind, .string ⟨x.key.toArray⟩, .string ⟨x.text.toArray⟩, .int .i64 x.count] 56))
      have V5 := Lib.hid (heap_alloc_new wr (.cells #[.int .i64 x.kind, .string ⟨x.key.toArray⟩, .string ⟨x.text.toArray⟩, .int .i64 x.count] 56))
      have K5 := Lib.hid (HK.out.alloc HK.out.size (.cells #[.int .i64 x.kind, .string ⟨x.key.toArray⟩, .string ⟨x.text.toArray⟩, .int .i64 x.count] 56))
      have ST5 := Lib.hid hst5
      clear hst5 hcl hx hfx hdr
      go_wp2_with fail
      generalize hW5 : wr.alloc (.cells #[.int .i64 x.kind, .string ⟨x.key.toArray⟩, .string ⟨x.text.toArray⟩, .int .i64 x.count] 56) = W5 at *
      generalize wr.heap.size = bv at *
      go_loopw [3] (fun v3 wr2 => ∃ st2 : List (Opn × Option Nat), st2 ≠ [] ∧ st2.length ≤ i + 1 ∧ wr2 = W5 ∧ Hid (St w.heap.size v3 st2 W5) ∧ Hid (∀ p ∈ st2, p ∈ st) ∧ Hid (popS (st2.map Prod.fst) = popS (st.map Prod.fst))) (fun v3 _ => slen v3)
      case atStart => exact ⟨st, hsn, hsl, rfl, ST5, Lib.hid (fun p hp => hp), Lib.hid rfl⟩
      case round =>
        obtain ⟨st2, hn2, hl2, rfl, HS2, HM2, HP2⟩ := hrel
        obtain ⟨p, st3, rfl⟩ : ∃ p st3, st2 = p :: st3 := by
          cases st2 with
          | nil => exact absurd rfl hn2
          | cons p t => exact ⟨p, t, rfl⟩
        obtain ⟨g, cp, rfl, hgb, hgl⟩ := HS2.out.form
        obtain ⟨⟨⟨o, k, had⟩, mb⟩, hpp⟩ : ∃ q, p = q := ⟨p, rfl⟩
        subst hpp
        obtain ⟨t0, t1, t2, tf⟩ := HS2.out.top
        simp only [] at t0 t1 t2
        have hjx0 : (0 : Int) ≤ (st3.length : Int) := by omega
        have hjx1 : (st3.length : Int) < (st3.length : Int) + 1 := by omega
        have hl3 : st3.length ≤ i := by simpa using hl2
        clear hn2 hl2
        cases k with
        | zero =>
          have hpop := HS2.out.pop
          have HPO := Lib.hid hpop
          have hcap : (st3.length : Int) ≤ (cp : Int) := by
            rcases HS2.out.own.2 with ⟨hv, _⟩ | ⟨g', cap', cur, hv, _, _, hnc, _⟩
            · simp at hv
            · simp only [Value.slice.injEq] at hv
              obtain ⟨_, _, rfl⟩ := hv
              simp at hnc
              omega
          have HP3 : Hid (popS (st3.map Prod.fst) = popS (st.map Prod.fst)) := Lib.hid (by rw [← HP2.out]; simp [popS])
          clear hpop HS2
          have hn3 : st3 = [] ∨ 0 < st3.length := by
            cases st3 with
            | nil => exact .inl rfl
            | cons _ _ => exact .inr (by simp)
          generalize hn : st3.length = n at *
          rcases hn3 with rfl | hn0
          · have HR0 : Hid (RR = false) := Lib.hid (by rw [← HRR.out, HDR.out]; exact stk_gone (HP3.out.symm.trans rfl))
            have hz : ((n : Int) == 0) = true := by rw [← hn]; rfl
            clear hn
            go_wp2_with fail
            go_ret
            exact ⟨by rw [HR0.out, Bool.and_false]; rfl, K5.out⟩
          · have hz : ((n : Int) == 0) = false := by simp; omega
            have HN := Lib.hid hn
            clear hn
            go_wp2_with fail
            go_roundw
            case rel => exact ⟨st3, fun e => by rw [e] at HN; have := HN.out; simp at this; omega, by rw [HN.out]; omega, by trivial, HPO, Lib.hid (fun q hq => HM2.out q (by simp [hq])), HP3⟩
            case measure => simp [slen]
        | succ k =>
          have hless := HS2.out.less k
          have hkk1 : (((k + 1 : Nat) : Int) == 0) = false := by simp; omega
          have hkk2 : ((k : Int) + 1 == 0) = false := by simp; omega
          have hgbv : g ≠ bv := fun e => by
            rcases HS2.out.own.2 with ⟨hv, _⟩ | ⟨g', cap', cur, hv, _, hg, _⟩
            · simp at hv
            · simp only [Value.slice.injEq, Option.some.injEq, Addr.mk.injEq, and_true] at hv
              obtain ⟨rfl, _, _⟩ := hv
              rw [e, V5.out] at hg
              simp at hg
          have V6 := Lib.hid ((heap_setCell_other wr ⟨g, st3.length * 3 + 1, none⟩ bv (.int .i64 (k : Int)) (fun e => hgbv e.symm)).trans V5.out)
          have ST6 := Lib.hid hless.1
          have K6 := Lib.hid (K5.out.trans (hless.2.below (fun j hj => by simp at hj; omega) K5.out.size))
          have hpo : popS (st.map Prod.fst) = ⟨o, k + 1, had⟩ :: st3.map Prod.fst := by rw [← HP2.out]; simp [popS]
          have hstk : RR = _ := (HRR.out.symm.trans (congrArg (fun z => stk z (st.map Prod.fst)) HDR.out)).trans (stk_at hpo)
          simp only [List.length_map] at hstk
          have HSK := Lib.hid hstk
          have hbd := HB.out _ (HM2.out _ (List.mem_cons_self ..))
          simp only [] at hbd
          have HBD := Lib.hid hbd
          have hkmax : (k : Int) ≤ 9223372036854775807 := by omega
          have hown := own_pown x o
          have HOW := Lib.hid hown
          obtain ⟨c0, c1, c2, c3⟩ := four V6.out
          clear hless hpo hstk hown
          go_wp2_with fail
          refine (own_calls x _ HFX.out.2.1 (u8_below HT.out K6.out)).mono ?_
          rintro e7 w7 ⟨rfl, hb7⟩
          have ST7 := Lib.hid (ST6.out.fresh hb7)
          have V7 := Lib.hid ((hb7.block bv (lt_of_block V6.out)).trans V6.out)
          have K7 := Lib.hid (K6.out.trans (hb7.mono K6.out.size))
          obtain ⟨s0, s1, s2, sf⟩ := ST7.out.top
          simp only [] at s0 s1 s2
          obtain ⟨d0, d1, d2, d3⟩ := four V7.out
          clear hb7 c0 c1 c2 c3 t0 t1 t2 tf
          cases hpx : pown x with
          | false =>
            have HR0 : Hid (RR = false) := Lib.hid (by rw [HSK.out]; exact if_pos (.inl (by rw [HOW.out, hpx]; simp)))
            clear hpx
            go_wp2_with fail
            go_ret
            exact ⟨by rw [HR0.out, Bool.and_false]; rfl, K7.out⟩
          | true =>
            have HPX := Lib.hid hpx
            clear hpx
            by_cases h50 : 50 < st3.length + 1
            · have h50' : (50 : Int) < (st3.length : Int) + 1 := by omega
              have HR0 : Hid (RR = false) := Lib.hid (by rw [HSK.out]; exact if_pos (.inr h50))
              go_wp2_with fail
              go_ret
              exact ⟨by rw [HR0.out, Bool.and_false]; rfl, K7.out⟩
            · have h50' : ¬ (50 : Int) < (st3.length : Int) + 1 := by omega
              have hks : (⟨x.key.toArray⟩ : ByteArray).size ≤ 1099511627776 := by rw [size_list]; exact HFX.out.1
              have HKS := Lib.hid hks
              have hkeyb : ((⟨x.key.toArray⟩ : ByteArray).toList.isEmpty) = x.key.isEmpty := by rw [Lib.toList_data]
              have HKB := Lib.hid hkeyb
              clear hks hkeyb
              cases o with
              | false =>
                cases hke : x.key.isEmpty with
                | false =>
                  have hke2 : ((⟨x.key.toArray⟩ : ByteArray).toList.isEmpty) = false := HKB.out.trans hke
                  have HR0 : Hid (RR = false) := Lib.hid (by rw [HSK.out]; exact if_pos (.inl (by rw [HOW.out, hke]; simp)))
                  go_wp2_with fail
                  go_ret
                  exact ⟨by rw [HR0.out, Bool.and_false]; rfl, K7.out⟩
                | true =>
                  have hke2 : ((⟨x.key.toArray⟩ : ByteArray).toList.isEmpty) = true := HKB.out.trans hke
                  have HKE := Lib.hid hke
                  go_wp2_with fail
                  refine (utf8valid_calls ⟨x.key.toArray⟩ _ HKS.out (u8_below HT.out K7.out)).mono ?_
                  rintro e8 w8 ⟨rfl, hb8⟩
                  have ST8 := Lib.hid (ST7.out.fresh hb8)
                  have V8 := Lib.hid ((hb8.block bv (lt_of_block V7.out)).trans V7.out)
                  have K8 := Lib.hid (K7.out.trans (hb8.mono K7.out.size))
                  obtain ⟨r0, r1, r2, rf⟩ := ST8.out.top
                  simp only [] at r0 r1 r2
                  obtain ⟨f0, f1, f2, f3⟩ := four V8.out
                  clear hb8 s0 s1 s2 sf d0 d1 d2 d3
                  cases hvk : valids x.key with
                  | false =>
                    (try rw [show valids (⟨x.key.toArray⟩ : ByteArray).data.toList = false from hvk])
                    have HR0 : Hid (RR = false) := Lib.hid (by rw [HSK.out]; exact if_pos (.inl (by rw [HOW.out, hvk]; simp)))
                    clear hvk
                    go_wp2_with fail
                    go_ret
                    exact ⟨by rw [HR0.out, Bool.and_false]; rfl, K8.out⟩
                  | true =>
                    (try rw [show valids (⟨x.key.toArray⟩ : ByteArray).data.toList = true from hvk])
                    have hownx : ownV x false = true := by rw [HOW.out, hvk, HPX.out]; rw [HKE.out]; rfl
                    have HSK2 := HSK.out
                    rw [if_neg (by rw [hownx]; simp; omega)] at HSK2
                    have HSKB := Lib.hid HSK2
                    clear hvk hownx HSK2
                    have hsk3 : RR = if 0 < x.count then stk (l.drop (i + 1)) (⟨x.kind == 6, x.count.toNat, []⟩ :: ⟨false, k, had⟩ :: st3.map Prod.fst) else stk (l.drop (i + 1)) (⟨false, k, had⟩ :: st3.map Prod.fst) := by
                      rw [HSKB.out]; simp
                    have HS3 := Lib.hid hsk3
                    have STX := ST8
                    have KX := K8
                    have VX := V8
                    have HADX : Hid ((had : List (List UInt8)).length ≤ i + 1) := Lib.hid (by have := HBD.out.1; omega)
                    clear hsk3 r1 r2 rf f0 f1 f2 f3
                    obtain ⟨z0, z1, z2, z3⟩ := four VX.out
                    by_cases hcnt : 0 < x.count
                    · obtain ⟨m, hm⟩ : ∃ m : Nat, x.count = (m : Int) := ⟨x.count.toNat, by omega⟩
                      have hmm0 : (0 : Int) < (m : Int) := by omega
                      have hmb : (m : Int) ≤ 9223372036854775807 := by have := HFX.out.2.2; omega
                      have hnx : RR = stk (l.drop (i + 1)) ((((⟨x.kind == 6, m, []⟩ : Opn), some w8.heap.size) :: ((⟨false, k, had⟩ : Opn), mb) :: st3).map Prod.fst) := by
                        rw [HS3.out, if_pos hcnt, hm]; rfl
                      have HNX := Lib.hid hnx.symm
                      rw [hm] at z3
                      have hownp : ((w8.alloc (.map #[] 0)).alloc (.cells #[.bool (x.kind == 6), .int .i64 (m : Int), .map (some w8.heap.size)] 94)).ownsRow w.heap.size 94 3 (.slice (some ⟨g, 0, none⟩) (st3.length + 1) cp) (st3.length + 1) (ocells ((⟨false, k, had⟩, mb) :: st3)) := (STX.out.own.alloc _).alloc _
                      have hnews : ∀ j u, [Value.bool (x.kind == 6), .int .i64 (m : Int), .map (some w8.heap.size)][j]? = some u → ((w8.alloc (.map #[] 0)).alloc (.cells #[.bool (x.kind == 6), .int .i64 (m : Int), .map (some w8.heap.size)] 94)).cell? ((⟨w8.heap.size + 1, 0, none⟩ : Addr).add j) = some u := by
                        have h1 := heap_alloc_new (w8.alloc (.map #[] 0)) (.cells #[.bool (x.kind == 6), .int .i64 (m : Int), .map (some w8.heap.size)] 94)
                        have h2 : (w8.alloc (.map #[] 0)).heap.size = w8.heap.size + 1 := by simp
                        rw [h2] at h1
                        exact World.news_of_block h1
                      have hbase : w.heap.size ≤ ((w8.alloc (.map #[] 0)).alloc (.cells #[.bool (x.kind == 6), .int .i64 (m : Int), .map (some w8.heap.size)] 94)).heap.size := by have := KX.out.size; simp; omega
                      have HBX := Lib.hid (show ∀ q ∈ st3, q.1.had.length ≤ i ∧ q.1.left ≤ 9223372036854775807 from fun q hq => HB.out q (HM2.out q (by simp [hq])))
                      clear hcnt hm hnx
                      go_wp2_with (first | (at_builtin; refine wpList_append_lies _ rfl _ _ 95 rfl w.heap.size 94 i0 _ 3 24 Tryz.underlying95 hi0 hz0 hz1 hz2 rfl (by decide) (.slice (some ⟨g, 0, none⟩) (st3.length + 1) cp) (st3.length + 1) _ rfl hownp ⟨w8.heap.size + 1, 0, none⟩ 1 1 [.bool (x.kind == 6), .int .i64 (m : Int), .map (some w8.heap.size)] rfl rfl hnews (by intro u hu; simp at hu; rcases hu with rfl | rfl | rfl <;> rfl) (by decide) (by unfold maxLen; omega) (by omega) hbase _ rfl ?_; intro g2 cap2 w3 hown3 hgr3 hat3 hlt3) | fail)
                      have hps := STX.out.push (k := m) (o := x.kind == 6) (by exact hown3) (by exact hgr3) KX.out.size
                      have STN := Lib.hid hps.1
                      have KN := Lib.hid (KX.out.trans (hps.2.below (fun j hj => by have := STX.out.own.lt j (by simpa using hj); omega) KX.out.size))
                      clear hps hown3 hgr3 hat3 hlt3 hownp hnews hbase z0 z1 z2 z3
                      go_wp2_with fail
                      go_roundw
                      case rel => exact ⟨i + 1, _, by go_num, by omega, by simp; omega, by simp, Lib.hid (by
                        intro q hq
                        rcases List.mem_cons.1 hq with rfl | hq
                        · exact ⟨by simp, by simp only []; omega⟩
                        rcases List.mem_cons.1 hq with rfl | hq
                        · exact ⟨HADX.out, by simp only []; omega⟩
                        · have := HBX.out q hq; exact ⟨by omega, this.2⟩), STN, KN, HNX⟩
                      case measure => simp [intOf]; omega
                    · have hnx : RR = stk (l.drop (i + 1)) ((((⟨false, k, had⟩ : Opn), mb) :: st3).map Prod.fst) := by
                        rw [HS3.out, if_neg hcnt]; rfl
                      have HNX := Lib.hid hnx.symm
                      have HBX := Lib.hid (show ∀ q ∈ st3, q.1.had.length ≤ i ∧ q.1.left ≤ 9223372036854775807 from fun q hq => HB.out q (HM2.out q (by simp [hq])))
                      clear hnx
                      go_wp2_with fail
                      go_roundw
                      case rel => exact ⟨i + 1, _, by go_num, by omega, by simp; omega, by simp, Lib.hid (by
                        intro q hq
                        rcases List.mem_cons.1 hq with rfl | hq
                        · exact ⟨HADX.out, by simp only []; omega⟩
                        · have := HBX.out q hq; exact ⟨by omega, this.2⟩), STX, KX, HNX⟩
                      case measure => simp [intOf]; omega
              | true =>
                go_wp2_with fail
                refine (utf8valid_calls ⟨x.key.toArray⟩ _ HKS.out (u8_below HT.out K7.out)).mono ?_
                rintro e8 w8 ⟨rfl, hb8⟩
                have ST8 := Lib.hid (ST7.out.fresh hb8)
                have V8 := Lib.hid ((hb8.block bv (lt_of_block V7.out)).trans V7.out)
                have K8 := Lib.hid (K7.out.trans (hb8.mono K7.out.size))
                obtain ⟨r0, r1, r2, rf⟩ := ST8.out.top
                simp only [] at r0 r1 r2
                obtain ⟨f0, f1, f2, f3⟩ := four V8.out
                clear hb8 s0 s1 s2 sf d0 d1 d2 d3
                cases hvk : valids x.key with
                | false =>
                  (try rw [show valids (⟨x.key.toArray⟩ : ByteArray).data.toList = false from hvk])
                  have HR0 : Hid (RR = false) := Lib.hid (by rw [HSK.out]; exact if_pos (.inl (by rw [HOW.out, hvk]; simp)))
                  clear hvk
                  go_wp2_with fail
                  go_ret
                  exact ⟨by rw [HR0.out, Bool.and_false]; rfl, K8.out⟩
                | true =>
                  (try rw [show valids (⟨x.key.toArray⟩ : ByteArray).data.toList = true from hvk])
                  have hownx : ownV x true = true := by rw [HOW.out, hvk, HPX.out]; simp
                  have HSK2 := HSK.out
                  rw [if_neg (by rw [hownx]; simp; omega)] at HSK2
                  have HSKB := Lib.hid HSK2
                  clear hvk hownx HSK2
                  obtain ⟨hb, rfl⟩ : ∃ hb, mb = some hb := by
                    cases mb with
                    | none => have := (ST8.out.maps _ (List.mem_cons_self ..)).1 rfl; simp at this
                    | some hb => exact ⟨hb, rfl⟩
                  obtain ⟨hbB, hHad⟩ := (ST8.out.maps _ (List.mem_cons_self ..)).2 hb rfl
                  simp only [] at hHad
                  obtain ⟨D, hown8, hat8⟩ := hHad
                  have hDm := ownsMap_isMap hown8
                  have hkeyo : keyOf Tryz.prog 9 (.string ⟨x.key.toArray⟩) = some (.string x.key) := by
                    have := keyOf_string_mk (s := ⟨x.key.toArray⟩) Tryz.underlying9 (by have := HKS.out; unfold maxLen; omega)
                    simpa using this
                  have hownd : w8.drew.ownsMap Tryz.prog 9 (plainElem Tryz.prog 3) hb had.length D := hown8
                  obtain ⟨cn, hlk, hcn, _⟩ := hownd.lookup_int keyLaw Tryz.underlying92 Tryz.underlying3 (zeroInt _) hkeyo
                  have hcn2 : cn = if had.contains x.key = true then 1 else 0 := lit_int (hat8 x.key) hcn
                  cases hct : had.contains x.key with
                  | true =>
                    rw [hct] at hcn2
                    simp only [if_true] at hcn2
                    subst hcn2
                    obtain ⟨w9, hup, hown9, hgr9⟩ := hownd.update (val := .int .i64 2) keyLaw Tryz.underlying92 (by have := HBD.out.1; unfold maxLen; omega) hkeyo (plainElem_int Tryz.underlying3 (by decide))
                    have k9 : Kp [hb] w8.drew w9 := Kp.of_grown hgr9
                    have K9 := Lib.hid ((K8.out.drew).trans (k9.below (fun j hj => by simp at hj; omega) K8.out.size))
                    have q2 : w9.cell? ⟨g, st3.length * 3 + 2, none⟩ = some (.map (some hb)) := (k9.cell (p := ⟨g, st3.length * 3 + 2, none⟩) (by have := (ST8.out.own.lt g rfl).2; exact this) (by have := ST8.out.ne (List.mem_cons_self ..) rfl; simp [Value.ownBlock] at this; simp; exact this)).trans r2
                    have qk : w9.cell? ⟨bv, 1, none⟩ = some (.string ⟨x.key.toArray⟩) := (k9.cell (p := ⟨bv, 1, none⟩) (lt_of_block V8.out) (by simp; intro e; rw [← e] at hown8; obtain ⟨es, cl, h1, _⟩ := hown8; rw [V8.out] at h1; cases h1)).trans f1
                    obtain ⟨c9, hlk9, hcn9, _⟩ := (show w9.drew.ownsMap Tryz.prog 9 (plainElem Tryz.prog 3) hb (had.length + 1) _ from hown9).lookup_int keyLaw Tryz.underlying92 Tryz.underlying3 (zeroInt _) hkeyo
                    obtain rfl : c9 = 2 := lit_int (atKey_put_same hDm (show WideAt.IsKeyLit (.string x.key) from trivial) _ _) hcn9
                    have HR0 : Hid (RR = false) := Lib.hid (by rw [HSKB.out, hct]; rfl)
                    clear hct hown9 hgr9 hown8 hownd hat8 hcn hcn9 k9
                    go_wp2_with fail
                    go_region
                    go_wp2_with fail
                    go_region
                    go_wp2_with fail
                    go_ret
                    exact ⟨by rw [HR0.out, Bool.and_false]; rfl, K9.out.drew⟩
                  | false =>
                    rw [hct] at hcn2
                    simp only [Bool.false_eq_true, if_false] at hcn2
                    subst hcn2
                    obtain ⟨w9, hup, hown9, hgr9⟩ := hownd.update (val := .int .i64 1) keyLaw Tryz.underlying92 (by have := HBD.out.1; unfold maxLen; omega) hkeyo (plainElem_int Tryz.underlying3 (by decide))
                    have k9 : Kp [hb] w8.drew w9 := Kp.of_grown hgr9
                    have K9 := Lib.hid ((K8.out.drew).trans (k9.below (fun j hj => by simp at hj; omega) K8.out.size))
                    have hgnb : g ≠ hb := by have := ST8.out.ne (List.mem_cons_self ..) rfl; simp [Value.ownBlock] at this; exact this
                    have hbvb : bv ≠ hb := by intro e; rw [← e] at hown8; obtain ⟨es, cl, h1, _⟩ := hown8; rw [V8.out] at h1; cases h1
                    have q0 : w9.cell? ⟨g, st3.length * 3, none⟩ = some (.bool true) := (k9.cell (p := ⟨g, st3.length * 3, none⟩) (ST8.out.own.lt g rfl).2 (by simpa using hgnb)).trans r0
                    have q2 : w9.cell? ⟨g, st3.length * 3 + 2, none⟩ = some (.map (some hb)) := (k9.cell (p := ⟨g, st3.length * 3 + 2, none⟩) (ST8.out.own.lt g rfl).2 (by simpa using hgnb)).trans r2
                    have qk : w9.cell? ⟨bv, 1, none⟩ = some (.string ⟨x.key.toArray⟩) := (k9.cell (p := ⟨bv, 1, none⟩) (lt_of_block V8.out) (by simpa using hbvb)).trans f1
                    obtain ⟨c9, hlk9, hcn9, _⟩ := (show w9.drew.ownsMap Tryz.prog 9 (plainElem Tryz.prog 3) hb (had.length + 1) _ from hown9).lookup_int keyLaw Tryz.underlying92 Tryz.underlying3 (zeroInt _) hkeyo
                    obtain rfl : c9 = 1 := lit_int (atKey_put_same hDm (show WideAt.IsKeyLit (.string x.key) from trivial) _ _) hcn9
                    have hnew : Had hb (x.key :: had) w9.drew := (Had.grown hown9 hDm hat8).kept (S := []) ((Kp.refl _ _).drew) (by simp)
                    have STX := Lib.hid (St.name ST8.out (show Kp [hb] w8 w9.drew from ((Kp.refl [hb] w8).drew.trans k9 (fun j hj => .inl hj)).drew) hnew)
                    have KX := Lib.hid K9.out.drew
                    have VX : Hid (w9.drew.heap[bv]? = _) := Lib.hid ((k9.block bv (lt_of_block V8.out) (by simpa using hbvb)).trans V8.out)
                    have hsk3 : RR = if 0 < x.count then stk (l.drop (i + 1)) (⟨x.kind == 6, x.count.toNat, []⟩ :: ⟨true, k, x.key :: had⟩ :: st3.map Prod.fst) else stk (l.drop (i + 1)) (⟨true, k, x.key :: had⟩ :: st3.map Prod.fst) := by
                      rw [HSKB.out, hct]; simp
                    have HS3 := Lib.hid hsk3
                    have HADX : Hid ((x.key :: had).length ≤ i + 1) := Lib.hid (by have := HBD.out.1; simp; omega)
                    clear hct hown9 hgr9 hown8 hownd hat8 hcn hcn9 k9 hnew hsk3
                    go_wp2_with fail
                    go_region
                    go_wp2_with fail
                    go_region
                    generalize w9.drew = wx at *
                    clear q0 q2 qk r0 r1 r2 rf f0 f1 f2 f3 hlk hup hlk9
                    obtain ⟨z0, z1, z2, z3⟩ := four VX.out
                    by_cases hcnt : 0 < x.count
                    · obtain ⟨m, hm⟩ : ∃ m : Nat, x.count = (m : Int) := ⟨x.count.toNat, by omega⟩
                      have hmm0 : (0 : Int) < (m : Int) := by omega
                      have hmb : (m : Int) ≤ 9223372036854775807 := by have := HFX.out.2.2; omega
                      have hnx : RR = stk (l.drop (i + 1)) ((((⟨x.kind == 6, m, []⟩ : Opn), some wx.heap.size) :: ((⟨true, k, (x.key :: had)⟩ : Opn), some hb) :: st3).map Prod.fst) := by
                        rw [HS3.out, if_pos hcnt, hm]; rfl
                      have HNX := Lib.hid hnx.symm
                      rw [hm] at z3
                      have hownp : ((wx.alloc (.map #[] 0)).alloc (.cells #[.bool (x.kind == 6), .int .i64 (m : Int), .map (some wx.heap.size)] 94)).ownsRow w.heap.size 94 3 (.slice (some ⟨g, 0, none⟩) (st3.length + 1) cp) (st3.length + 1) (ocells ((⟨true, k, (x.key :: had)⟩, some hb) :: st3)) := (STX.out.own.alloc _).alloc _
                      have hnews : ∀ j u, [Value.bool (x.kind == 6), .int .i64 (m : Int), .map (some wx.heap.size)][j]? = some u → ((wx.alloc (.map #[] 0)).alloc (.cells #[.bool (x.kind == 6), .int .i64 (m : Int), .map (some wx.heap.size)] 94)).cell? ((⟨wx.heap.size + 1, 0, none⟩ : Addr).add j) = some u := by
                        have h1 := heap_alloc_new (wx.alloc (.map #[] 0)) (.cells #[.bool (x.kind == 6), .int .i64 (m : Int), .map (some wx.heap.size)] 94)
                        have h2 : (wx.alloc (.map #[] 0)).heap.size = wx.heap.size + 1 := by simp
                        rw [h2] at h1
                        exact World.news_of_block h1
                      have hbase : w.heap.size ≤ ((wx.alloc (.map #[] 0)).alloc (.cells #[.bool (x.kind == 6), .int .i64 (m : Int), .map (some wx.heap.size)] 94)).heap.size := by have := KX.out.size; simp; omega
                      have HBX := Lib.hid (show ∀ q ∈ st3, q.1.had.length ≤ i ∧ q.1.left ≤ 9223372036854775807 from fun q hq => HB.out q (HM2.out q (by simp [hq])))
                      clear hcnt hm hnx
                      go_wp2_with (first | (at_builtin; refine wpList_append_lies _ rfl _ _ 95 rfl w.heap.size 94 i0 _ 3 24 Tryz.underlying95 hi0 hz0 hz1 hz2 rfl (by decide) (.slice (some ⟨g, 0, none⟩) (st3.length + 1) cp) (st3.length + 1) _ rfl hownp ⟨wx.heap.size + 1, 0, none⟩ 1 1 [.bool (x.kind == 6), .int .i64 (m : Int), .map (some wx.heap.size)] rfl rfl hnews (by intro u hu; simp at hu; rcases hu with rfl | rfl | rfl <;> rfl) (by decide) (by unfold maxLen; omega) (by omega) hbase _ rfl ?_; intro g2 cap2 w3 hown3 hgr3 hat3 hlt3) | fail)
                      have hps := STX.out.push (k := m) (o := x.kind == 6) (by exact hown3) (by exact hgr3) KX.out.size
                      have STN := Lib.hid hps.1
                      have KN := Lib.hid (KX.out.trans (hps.2.below (fun j hj => by have := STX.out.own.lt j (by simpa using hj); omega) KX.out.size))
                      clear hps hown3 hgr3 hat3 hlt3 hownp hnews hbase z0 z1 z2 z3
                      go_wp2_with fail
                      go_roundw
                      case rel => exact ⟨i + 1, _, by go_num, by omega, by simp; omega, by simp, Lib.hid (by
                        intro q hq
                        rcases List.mem_cons.1 hq with rfl | hq
                        · exact ⟨by simp, by simp only []; omega⟩
                        rcases List.mem_cons.1 hq with rfl | hq
                        · exact ⟨HADX.out, by simp only []; omega⟩
                        · have := HBX.out q hq; exact ⟨by omega, this.2⟩), STN, KN, HNX⟩
                      case measure => simp [intOf]; omega
                    · have hnx : RR = stk (l.drop (i + 1)) ((((⟨true, k, (x.key :: had)⟩ : Opn), some hb) :: st3).map Prod.fst) := by
                        rw [HS3.out, if_neg hcnt]; rfl
                      have HNX := Lib.hid hnx.symm
                      have HBX := Lib.hid (show ∀ q ∈ st3, q.1.had.length ≤ i ∧ q.1.left ≤ 9223372036854775807 from fun q hq => HB.out q (HM2.out q (by simp [hq])))
                      clear hnx
                      go_wp2_with fail
                      go_roundw
                      case rel => exact ⟨i + 1, _, by go_num, by omega, by simp; omega, by simp, Lib.hid (by
                        intro q hq
                        rcases List.mem_cons.1 hq with rfl | hq
                        · exact ⟨HADX.out, by simp only []; omega⟩
                        · have := HBX.out q hq; exact ⟨by omega, this.2⟩), STX, KX, HNX⟩
                      case measure => simp [intOf]; omega
    · have hie : i = l.length := by omega
      have hR : RR = !someLeft st := by
        rw [← HRR.out, List.drop_eq_nil_of_le (by omega)]
        exact stk_end st
      have HR := Lib.hid hR
      have hge : ¬ (i : Int) < (l.length : Int) := by omega
      have hsl2 : st.length ≤ 4611686018427387904 := by omega
      clear hR hil
      by_cases h5 : l.length ≤ 5000
      · have h5' : (l.length : Int) ≤ 5000 := by omega
        have hd : decide (l.length ≤ 5000) = true := decide_eq_true h5
        have HD := Lib.hid hd
        clear hd h5
        go_wp2_with fail
        refine (some_calls w.heap.size _ st _ HST.out hsl2).mono ?_
        rintro e2 w2 ⟨rfl, hb2⟩
        have K2 := Lib.hid (HK.out.trans (hb2.mono HK.out.size))
        obtain ⟨sl, hsl⟩ : ∃ sl, someLeft st = sl := ⟨_, rfl⟩
        have HSL := Lib.hid hsl
        rw [hsl]
        clear hsl hb2
        cases sl with
        | true =>
          go_wp2_with fail
          go_ret
          exact ⟨by rw [HD.out, HR.out, HSL.out]; rfl, K2.out⟩
        | false =>
          go_wp2_with fail
          go_ret
          exact ⟨by rw [HD.out, HR.out, HSL.out]; rfl, K2.out⟩
      · have h5' : ¬ (l.length : Int) ≤ 5000 := by omega
        have hd : decide (l.length ≤ 5000) = false := decide_eq_false h5
        have HD := Lib.hid hd
        clear hd h5
        go_wp2_with fail
        go_ret
        exact ⟨by rw [HD.out]; rfl, HK.out⟩
end Go.Proofs.YtndkbecdjaedaaaGreatDoor
