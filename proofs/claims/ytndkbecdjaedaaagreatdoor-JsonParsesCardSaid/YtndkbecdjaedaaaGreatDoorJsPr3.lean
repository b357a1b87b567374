/- printer.value. -/
import Derived.Test.YtndkbecdjaedaaaGreatDoorJsPr
import Derived.Deep.RegionHeld3
namespace Go.Proofs.YtndkbecdjaedaaaGreatDoor
open Go.RowKit

theorem sizeV : ∀ w, (Go.sizeOf (Tryz.prog.elem 35)).run Tryz.prog w = .ok 4 w := by
  intro w
  have : (Tryz.prog.info? (Tryz.prog.elem 35)).map (fun _ => ()) = some () := by kernel_rfl
  obtain ⟨i, hi, _⟩ := Option.map_eq_some_iff.1 this
  rw [run_sizeOf w hi]
  rw [show Tryz.prog.cellsOf (Tryz.prog.elem 35) = 4 by kernel_rfl]
theorem tail_run (bk off n cap : Nat) : ∀ w, (Instr.slice 35 (.slice (some ⟨bk, off, none⟩) (n + 1) cap) (some (.int .i64 1)) none none).run Tryz.prog w = .ok (.slice (if cap = 1 then some ⟨bk, off, none⟩ else some ⟨bk, off + 4, none⟩) n (cap - 1)) w := by
  intro w
  rw [run_slice_l (P := Tryz.prog) w 35 (some ⟨bk, off, none⟩) (n + 1) cap (by kernel_rfl) .i64 1 (by omega) (by omega), sizeV]
  simp only [Result.andThen, sliced]
  congr 2

/-- What a value's own text is. -/
theorem jrow_kind {f : Nat} {x : V} {t r : List V} {deep : Nat} {m : Bool} (h : rrow (f + 1) (x :: t) deep m = some r) :
    ownV x m = true ∧ rkids f x.count.toNat t (deep + 1) (x.kind == 6) [] = some r := by
  simp only [rrow] at h
  by_cases hd : 50 ≤ deep
  · rw [if_pos hd] at h; cases h
  rw [if_neg hd] at h
  by_cases ho : ownV x m = false
  · rw [if_pos ho] at h; cases h
  rw [if_neg ho] at h
  exact ⟨by simpa using ho, h⟩

theorem Pr.drew {b : Nat} {bs : List UInt8} {v rest : Value} {w : World} (h : Pr b bs v rest w) : Pr b bs v rest w.drew := ⟨h.blk, h.own.drew⟩
theorem Pr.fresh {b : Nat} {bs : List UInt8} {v rest : Value} {w w' : World} (h : Pr b bs v rest w) (hk : Below w.heap.size w w') : Pr b bs v rest w' := h.kept (Kp.of_below (S := []) hk) (by simp) (fun _ _ => by simp)
theorem Kq.box {b g : Nat} {w w' : World} {cs : Array Value} (h : Kq b w w') (hg : w.heap[g]? = some (.cells cs 56 (0, 0))) (hn : g ≠ b) : w'.heap[g]? = some (.cells cs 56 (0, 0)) :=
  h.others g _ hg (fun e => hn (Option.some.inj e)) (fun c fz e => by injection e with _ h2 _; exact absurd h2 (by decide))
theorem Kq.drew {b : Nat} {w w' : World} (h : Kq b w w') : Kq b w w'.drew := ⟨h.below.drew, h.others.drew⟩
theorem Ev.kq {w0 w w' : World} {b : Nat} (h : Ev w0 b w) (k : Kq b w w') : Ev w0 b w' := ⟨h.env, h.words0, h.low, h.bel.trans (k.below.mono h.low)⟩
theorem word_own {kd : Int} {key text : List UInt8} {count : Int} {m : Bool} (h : ownV ⟨kd, key, text, count⟩ m = true) :
    (kd = 0 ∧ count = 0) ∨ (kd = 1 ∧ count = 0) ∨ (kd = 2 ∧ count = 0) ∨ (kd = 3 ∧ count = 0) ∨ (kd = 4 ∧ count = 0) ∨ (kd = 5 ∧ 0 ≤ count) ∨ (kd = 6 ∧ 0 ≤ count) := by
  unfold ownV at h
  simp only [Bool.and_eq_true] at h
  obtain ⟨_, h⟩ := h
  by_cases h1 : kd = 0 ∨ kd = 1 ∨ kd = 2
  · rw [if_pos h1] at h
    simp at h
    omega
  rw [if_neg h1] at h
  by_cases h3 : kd = 3
  · rw [if_pos h3] at h
    simp at h
    omega
  rw [if_neg h3] at h
  by_cases h4 : kd = 4
  · rw [if_pos h4] at h
    simp at h
    omega
  rw [if_neg h4] at h
  by_cases h5 : kd = 5 ∨ kd = 6
  · rw [if_pos h5] at h
    simp at h
    omega
  rw [if_neg h5] at h
  cases h
theorem data_toList (l : List UInt8) : (⟨l.toArray⟩ : ByteArray).data.toList = l := by simp
theorem data_size (l : List UInt8) : (⟨l.toArray⟩ : ByteArray).size = l.length := by simp [ByteArray.size]

theorem quoted (l : List UInt8) : ∃ Q : ByteArray, (⟨(quote (⟨l.toArray⟩ : ByteArray).data.toList).toArray⟩ : ByteArray) = Q ∧ Q.data.toList = quote l ∧ Q.size = (quote l).length ∧ Q.size ≤ 6 * l.length + 2 :=
  ⟨_, rfl, by simp, by simp [ByteArray.size], by have := quote_length l; simpa [ByteArray.size] using this⟩
theorem glue_run (a b : ByteArray) (ha : a.size ≤ 8796093022208) (hb : b.size ≤ 8796093022208) : ∃ U : ByteArray, U.data.toList = a.data.toList ++ b.data.toList ∧ U.size = a.size + b.size ∧
    ∀ w, (Op.stringOp .add a b).run Tryz.prog w = .ok (.string U) w :=
  ⟨a ++ b, by simp [ByteArray.data_append], by simp [ByteArray.size_append], fun w => run_string_add_sum w a b (by omega)⟩
theorem lt_drew {w : World} {g : Nat} {o : Obj} (h : w.heap[g]? = some o) : g < w.drew.heap.size := lt_of_block h

set_option maxHeartbeats 8000000 in
set_option maxRecDepth 1000000 in
theorem value_step (f : Nat) (hM : MP f) : VP (f + 1) := by
  intro b bs v rest l deep m r w w0 hr hP hL hE hF hlen
  cases l with
  | nil => simp [rrow] at hr
  | cons x t =>
  obtain ⟨hown, hkids⟩ := jrow_kind hr
  obtain ⟨kd, key, text, count⟩ := x
  obtain ⟨bk, off, cap, hv, hcp, hbk, hc⟩ : ∃ bk off cap, rest = .slice (some ⟨bk, off, none⟩) (t.length + 1) cap ∧ t.length + 1 ≤ cap ∧ bk < b ∧ ∀ i (hi : i < t.length + 1) j, j < 4 → w.cell? ⟨bk, off + i * 4 + j, none⟩ = (vcell (((⟨kd, key, text, count⟩ : V) :: t)[i]'(by simpa using hi)))[j]? := by
    rcases hL with ⟨h, _⟩ | ⟨bk, off, cap, hv, hcp, hbk, hc⟩
    · cases h
    · exact ⟨bk, off, cap, hv, hcp, hbk, hc⟩
  subst hv
  obtain ⟨k0, k1, k2, k3⟩ := load4 (i := 0) (x := ⟨kd, key, text, count⟩) (hc 0 (by omega))
  simp only [Nat.zero_mul, Nat.add_zero] at k0 k1 k2 k3
  obtain ⟨ra, hra, hrun⟩ : ∃ ra, ra = (if cap = 1 then some ⟨bk, off, none⟩ else some (⟨bk, off + 4, none⟩ : Addr)) ∧ ∀ w, (Instr.slice 35 (.slice (some ⟨bk, off, none⟩) (t.length + 1) cap) (some (.int .i64 1)) none none).run Tryz.prog w = .ok (.slice ra t.length (cap - 1)) w := ⟨_, rfl, tail_run bk off t.length cap⟩
  have c2 := hP.c2
  have hlt := hP.lt
  have hi0 : (0 : Int) < (t.length : Int) + 1 := by omega
  obtain ⟨JR, hJR⟩ : ∃ JR, (jrow (f + 1) ((⟨kd, key, text, count⟩ : V) :: t)).1 = JR := ⟨_, rfl⟩
  rw [hJR] at hlen ⊢
  have HP := Lib.hid hP
  have HL := Lib.hid hL
  have HE := Lib.hid hE
  have HF := Lib.hid hF
  have HR := Lib.hid hr
  have HO := Lib.hid hown
  have HK := Lib.hid hkids
  have HJ := Lib.hid hJR
  have HR2 := Lib.hid hra
  have HLEN := Lib.hid hlen
  obtain ⟨c2a, c2b⟩ := c2
  have d2a : ∀ o, (w.alloc o).cell? ⟨b, 2, none⟩ = some (.slice (some ⟨bk, off, none⟩) (t.length + 1) cap) := fun o => by
    rw [World.cell?_of_block (w' := w.alloc o) (heap_alloc_old w o hlt)]; exact c2a
  have d2b : ∀ o, (w.alloc o).frozen? ⟨b, 2, none⟩ = false := fun o => by
    rw [World.frozen?_of_block (w' := w.alloc o) (heap_alloc_old w o hlt)]; exact c2b
  obtain ⟨box, hbox⟩ : ∃ o, o = Obj.cells #[.int .i64 kd, .string ⟨key.toArray⟩, .string ⟨text.toArray⟩, .int .i64 count] 56 (0, 0) := ⟨_, rfl⟩
  have e2a := d2a box
  have e2b := d2b box
  have hbx : (w.alloc box).heap[w.heap.size]? = some box := heap_alloc_new w box
  rw [hbox] at e2a e2b hbx
  clear d2a d2b hbox box
  have HBX := Lib.hid hbx
  clear hP hL hE hF hr hown hkids hJR hra hlen hc hbx
  have hsz : (w.setCell ⟨b, 2, none⟩ (.slice ra t.length (cap - 1))).heap.size = w.heap.size := by simp [World.setCell]
  have p2 : Pr b bs v (.slice ra t.length (cap - 1)) ((w.setCell ⟨b, 2, none⟩ (.slice ra t.length (cap - 1))).alloc (Obj.cells #[.int .i64 kd, .string ⟨key.toArray⟩, .string ⟨text.toArray⟩, .int .i64 count] 56 (0, 0))) := (HP.out.put2 _).fresh ((Below.refl _ _).alloc (Nat.le_refl _) _)
  have kq2 : Kq b w ((w.setCell ⟨b, 2, none⟩ (.slice ra t.length (cap - 1))).alloc (Obj.cells #[.int .i64 kd, .string ⟨key.toArray⟩, .string ⟨text.toArray⟩, .int .i64 count] 56 (0, 0))) := ((⟨(Below.refl _ _).setCell (p := ⟨b, 2, none⟩) (Nat.le_refl _) _, (Lib.OthersKept.refl _ _ _).setCell ⟨b, 2, none⟩ rfl _⟩ : Kq b w (w.setCell ⟨b, 2, none⟩ (.slice ra t.length (cap - 1))))).trans (Kq.of_below ((Below.refl _ _).alloc (Nat.le_refl _) _) (by rw [hsz]; omega))
  have hb2 : ((w.setCell ⟨b, 2, none⟩ (.slice ra t.length (cap - 1))).alloc (Obj.cells #[.int .i64 kd, .string ⟨key.toArray⟩, .string ⟨text.toArray⟩, .int .i64 count] 56 (0, 0))).heap[w.heap.size]? = some (Obj.cells #[.int .i64 kd, .string ⟨key.toArray⟩, .string ⟨text.toArray⟩, .int .i64 count] 56 (0, 0)) := by
    have := heap_alloc_new (w.setCell ⟨b, 2, none⟩ (.slice ra t.length (cap - 1))) (Obj.cells #[.int .i64 kd, .string ⟨key.toArray⟩, .string ⟨text.toArray⟩, .int .i64 count] 56 (0, 0))
    rw [hsz] at this; exact this
  have P2 := Lib.hid p2
  have KQ2 := Lib.hid kq2
  have HB2 := Lib.hid hb2
  have HL2 : Hid (Vl b w (.slice ra t.length (cap - 1)) t) := Lib.hid (by rw [HR2.out]; exact HL.out.tail)
  clear p2 kq2 hb2 hsz
  have hKL : key.length ≤ 1099511627776 := (HF.out _ (List.mem_cons_self ..)).1
  have hTL : text.length ≤ 1099511627776 := (HF.out _ (List.mem_cons_self ..)).2.1
  have hCL : count ≤ 9223372036854775807 := (HF.out _ (List.mem_cons_self ..)).2.2
  have HFT : Hid (Fits t) := Lib.hid (fun y hy => HF.out y (List.mem_cons_of_mem _ hy))
  clear HP HL HF HBX
  go_enter Tryz.func56, Tryz.ntmps56
  go_upto_if 19 with fail
  generalize hw2 : (w.setCell ⟨b, 2, none⟩ (.slice ra t.length (cap - 1))).alloc (Obj.cells #[.int .i64 kd, .string ⟨key.toArray⟩, .string ⟨text.toArray⟩, .int .i64 count] 56 (0, 0)) = w2 at *
  go_cut [] (fun wx => ∃ v2, Hid (Pr b (bs ++ keyT ((⟨kd, key, text, count⟩ : V) :: t) m) v2 (.slice ra t.length (cap - 1)) wx) ∧ Hid (Kq b w wx) ∧ Hid (wx.heap[w.heap.size]? = some (Obj.cells #[.int .i64 kd, .string ⟨key.toArray⟩, .string ⟨text.toArray⟩, .int .i64 count] 56 (0, 0))))
  case first =>
    cases m with
    | false =>
      go_wp2_with fail
      go_meet
      exact ⟨v, Lib.hid (by rw [show keyT ((⟨kd, key, text, count⟩ : V) :: t) false = [] from rfl, List.append_nil]; exact P2.out), KQ2, HB2⟩
    | true =>
      obtain ⟨b0, b1, b2, b3⟩ := four HB2.out
      have hlenk : (bs.length + ((quote key ++ [58]) ++ JR).length) ≤ 140737488355328 := HLEN.out
      simp only [List.length_append, List.length_cons, List.length_nil] at hlenk
      obtain ⟨Q, hQ, hQl, hQs, hQ6⟩ := quoted key
      obtain ⟨U, hU, hUs, hUrun⟩ := glue_run Q ⟨#[58]⟩ (by omega) (by show 1 ≤ _; omega)
      have hUs1 : U.size = Q.size + 1 := hUs
      have hUl : U.data.toList = quote key ++ [58] := by rw [hU, hQl]
      have HQ := Lib.hid hQ
      have HU := Lib.hid hUl
      have PD : Hid (Pr b bs v (.slice ra t.length (cap - 1)) w2.drew) := Lib.hid P2.out.drew
      clear hQ hQl hU hUl hUs
      go_wp2_with fail
      have hwl : (bs).length + (U : ByteArray).size ≤ 140737488355328 := by omega
      have hgb : w.heap.size ≠ b := by omega
      have hql : (⟨key.toArray⟩ : ByteArray).size ≤ 1099511627776 := by rw [data_size]; omega
      go_region_held3 (fun w' => w'.cell? ⟨w.heap.size, 1, none⟩ = some (.string ⟨key.toArray⟩)) (go_keep) (first | (go_at_call 97; refine (quote_calls ⟨key.toArray⟩ _ hql).mono ?_; rintro e w6 ⟨rfl, hb6⟩; rw [HQ.out]; have bx6 : w6.cell? ⟨w.heap.size, 1, none⟩ = some (.string ⟨key.toArray⟩) := (hb6.cell (p := ⟨w.heap.size, 1, none⟩) (lt_drew HB2.out)).trans b1; have P6 := Lib.hid (PD.out.fresh hb6); have K6 := Lib.hid (KQ2.out.drew.trans (Kq.of_below hb6 (Nat.le_of_lt PD.out.lt))); have B6 := Lib.hid ((hb6.block _ (lt_drew HB2.out)).trans HB2.out)) | (go_at_call 92; refine (pr_write b (bs) v (.slice ra t.length (cap - 1)) U _ P6.out hwl).mono ?_; rintro e w7 ⟨rfl, v7, h7, k7⟩; have bx7 := (four (k7.box (w := w6) B6.out hgb)).2.1))
      go_wp2_with fail
      go_meet
      exact ⟨v7, Lib.hid (by rw [show keyT ((⟨kd, key, text, count⟩ : V) :: t) true = quote key ++ [58] from rfl, ← HU.out]; exact h7), Lib.hid (K6.out.trans k7), Lib.hid (k7.box B6.out (by omega))⟩
  case rest =>
    obtain ⟨v2, HP3, HK3, HB3⟩ := hcut
    clear P2 KQ2 HB2 k0 k1 k2 k3 c2a c2b e2a e2b hrun hi0
    have hlen : bs.length + (keyT ((⟨kd, key, text, count⟩ : V) :: t) m).length + JR.length ≤ 140737488355328 := by have := HLEN.out; simp only [List.length_append] at this; omega
    obtain ⟨BS, hBS⟩ : ∃ BS, bs ++ keyT ((⟨kd, key, text, count⟩ : V) :: t) m = BS := ⟨_, rfl⟩
    have hlen2 : BS.length + JR.length ≤ 140737488355328 := by rw [← hBS]; simp only [List.length_append]; omega
    rw [hBS] at HP3
    have HBS : Hid (bs ++ (keyT ((⟨kd, key, text, count⟩ : V) :: t) m ++ JR) = BS ++ JR) := Lib.hid (by rw [← hBS, List.append_assoc])
    have HE3 : Hid (Ev w0 b wc) := Lib.hid (HE.out.kq HK3.out)
    have HL3 : Hid (Vl b wc (.slice ra t.length (cap - 1)) t) := Lib.hid (HL2.out.kept HK3.out.below)
    have PD : Hid (Pr b BS v2 (.slice ra t.length (cap - 1)) wc.drew) := Lib.hid HP3.out.drew
    have KD : Hid (Kq b w wc.drew) := Lib.hid HK3.out.drew
    have LD : Hid (Vl b wc.drew (.slice ra t.length (cap - 1)) t) := HL3
    obtain ⟨b0, b1, b2, b3⟩ := four HB3.out
    have hJ := HJ.out
    have hk := HK.out
    simp only [] at hk
    have hkinds := word_own HO.out
    clear hBS HLEN HO hlen HL2 HE HK HJ HR HR2
    rcases hkinds with ⟨rfl, rfl⟩ | ⟨rfl, rfl⟩ | ⟨rfl, rfl⟩ | ⟨rfl, rfl⟩ | ⟨rfl, rfl⟩ | ⟨rfl, hc0⟩ | ⟨rfl, hc0⟩
    · rw [show (0 : Int).toNat = 0 from rfl, rkids_zero] at hk
      have hrt : r = t := by simpa using hk.symm
      have hJR : (wordB 0).data.toList = JR := by rw [← hJ]; simp only [jrow]; rfl
      have hws : (wordB 0).size = JR.length := by rw [← hJR]; simp
      have hw : wc.cell? ⟨1, 0, none⟩ = some (.string (wordB 0)) := HE3.out.words 0 (by omega)
      have HJR := Lib.hid hJR
      have HRT := Lib.hid hrt
      clear hJR hrt hk hJ
      go_wp2_with fail
      have hwl : (BS).length + ((wordB 0) : ByteArray).size ≤ 140737488355328 := by omega
      have hgb : w.heap.size ≠ b := by omega
      go_region_held3 (fun w' => w'.cell? ⟨w.heap.size, 0, none⟩ = some (.int .i64 0) ∧ w'.cell? ⟨1, 0, none⟩ = some (.string (wordB 0))) (go_keep) (first | (go_at_call 92; refine (pr_write b (BS) v2 (.slice ra t.length (cap - 1)) (wordB 0) _ PD.out hwl).mono ?_; rintro e w7 ⟨rfl, v7, h7, k7⟩; have bx7 := (four (k7.box (w := wc.drew) HB3.out hgb)).1; have bw7 : w7.cell? ⟨1, 0, none⟩ = some (.string (wordB 0)) := (HE3.out.drew.kq k7).words 0 (by omega)))
      go_wp2_with fail
      go_end0
      exact ⟨rfl, ⟨v7, _, by rw [HBS.out, ← HJR.out]; exact h7, by rw [HRT.out]; exact LD.out.kept k7.below⟩, KD.out.trans k7⟩
    · rw [show (0 : Int).toNat = 0 from rfl, rkids_zero] at hk
      have hrt : r = t := by simpa using hk.symm
      have hJR : (wordB 1).data.toList = JR := by rw [← hJ]; simp only [jrow]; rfl
      have hws : (wordB 1).size = JR.length := by rw [← hJR]; simp
      have hw : wc.cell? ⟨1, 1, none⟩ = some (.string (wordB 1)) := HE3.out.words 1 (by omega)
      have HJR := Lib.hid hJR
      have HRT := Lib.hid hrt
      clear hJR hrt hk hJ
      go_wp2_with fail
      have hwl : (BS).length + ((wordB 1) : ByteArray).size ≤ 140737488355328 := by omega
      have hgb : w.heap.size ≠ b := by omega
      go_region_held3 (fun w' => w'.cell? ⟨w.heap.size, 0, none⟩ = some (.int .i64 1) ∧ w'.cell? ⟨1, 1, none⟩ = some (.string (wordB 1))) (go_keep) (first | (go_at_call 92; refine (pr_write b (BS) v2 (.slice ra t.length (cap - 1)) (wordB 1) _ PD.out hwl).mono ?_; rintro e w7 ⟨rfl, v7, h7, k7⟩; have bx7 := (four (k7.box (w := wc.drew) HB3.out hgb)).1; have bw7 : w7.cell? ⟨1, 1, none⟩ = some (.string (wordB 1)) := (HE3.out.drew.kq k7).words 1 (by omega)))
      go_wp2_with fail
      go_end0
      exact ⟨rfl, ⟨v7, _, by rw [HBS.out, ← HJR.out]; exact h7, by rw [HRT.out]; exact LD.out.kept k7.below⟩, KD.out.trans k7⟩
    · rw [show (0 : Int).toNat = 0 from rfl, rkids_zero] at hk
      have hrt : r = t := by simpa using hk.symm
      have hJR : (wordB 2).data.toList = JR := by rw [← hJ]; simp only [jrow]; rfl
      have hws : (wordB 2).size = JR.length := by rw [← hJR]; simp
      have hw : wc.cell? ⟨1, 2, none⟩ = some (.string (wordB 2)) := HE3.out.words 2 (by omega)
      have HJR := Lib.hid hJR
      have HRT := Lib.hid hrt
      clear hJR hrt hk hJ
      go_wp2_with fail
      have hwl : (BS).length + ((wordB 2) : ByteArray).size ≤ 140737488355328 := by omega
      have hgb : w.heap.size ≠ b := by omega
      go_region_held3 (fun w' => w'.cell? ⟨w.heap.size, 0, none⟩ = some (.int .i64 2) ∧ w'.cell? ⟨1, 2, none⟩ = some (.string (wordB 2))) (go_keep) (first | (go_at_call 92; refine (pr_write b (BS) v2 (.slice ra t.length (cap - 1)) (wordB 2) _ PD.out hwl).mono ?_; rintro e w7 ⟨rfl, v7, h7, k7⟩; have bx7 := (four (k7.box (w := wc.drew) HB3.out hgb)).1; have bw7 : w7.cell? ⟨1, 2, none⟩ = some (.string (wordB 2)) := (HE3.out.drew.kq k7).words 2 (by omega)))
      go_wp2_with fail
      go_end0
      exact ⟨rfl, ⟨v7, _, by rw [HBS.out, ← HJR.out]; exact h7, by rw [HRT.out]; exact LD.out.kept k7.below⟩, KD.out.trans k7⟩
    · rw [show (0 : Int).toNat = 0 from rfl, rkids_zero] at hk
      have hrt : r = t := by simpa using hk.symm
      have hJR : (⟨text.toArray⟩ : ByteArray).data.toList = JR := by rw [← hJ]; simp [jrow]
      have hws : (⟨text.toArray⟩ : ByteArray).size = JR.length := by rw [← hJR]; simp [ByteArray.size]
      have HJR := Lib.hid hJR
      have HRT := Lib.hid hrt
      clear hJR hrt hk hJ
      go_wp2_with fail
      have hwl : (BS).length + (⟨text.toArray⟩ : ByteArray).size ≤ 140737488355328 := by omega
      have hgb : w.heap.size ≠ b := by omega
      go_region_held3 (fun w' => w'.cell? ⟨w.heap.size, 2, none⟩ = some (.string ⟨text.toArray⟩)) (go_keep) (first | (go_at_call 92; refine (pr_write b (BS) v2 (.slice ra t.length (cap - 1)) ⟨text.toArray⟩ _ PD.out hwl).mono ?_; rintro e w7 ⟨rfl, v7, h7, k7⟩; have bx7 := (four (k7.box (w := wc.drew) HB3.out hgb)).2.2.1))
      go_wp2_with fail
      go_end0
      exact ⟨rfl, ⟨v7, _, by rw [HBS.out, ← HJR.out]; exact h7, by rw [HRT.out]; exact LD.out.kept k7.below⟩, KD.out.trans k7⟩
    · rw [show (0 : Int).toNat = 0 from rfl, rkids_zero] at hk
      have hrt : r = t := by simpa using hk.symm
      obtain ⟨Q, hQ, hQl, hQs, hQ6⟩ := quoted text
      have hJR : Q.data.toList = JR := by rw [← hJ, hQl]; simp [jrow]
      have hws : Q.size = JR.length := by rw [← hJR]; simp
      have HJR := Lib.hid hJR
      have HRT := Lib.hid hrt
      have HQ := Lib.hid hQ
      clear hJR hrt hk hJ hQ hQl
      go_wp2_with fail
      have hwl : (BS).length + (Q : ByteArray).size ≤ 140737488355328 := by omega
      have hgb : w.heap.size ≠ b := by omega
      have hql : (⟨text.toArray⟩ : ByteArray).size ≤ 1099511627776 := by rw [data_size]; omega
      go_region_held3 (fun w' => w'.cell? ⟨w.heap.size, 2, none⟩ = some (.string ⟨text.toArray⟩)) (go_keep) (first | (go_at_call 97; refine (quote_calls ⟨text.toArray⟩ _ hql).mono ?_; rintro e w6 ⟨rfl, hb6⟩; rw [HQ.out]; have bx6 : w6.cell? ⟨w.heap.size, 2, none⟩ = some (.string ⟨text.toArray⟩) := (hb6.cell (p := ⟨w.heap.size, 2, none⟩) (lt_drew HB3.out)).trans b2; have P6 := Lib.hid (PD.out.fresh hb6); have K6 := Lib.hid (HK3.out.drew.trans (Kq.of_below hb6 (Nat.le_of_lt PD.out.lt))); have B6 := Lib.hid ((hb6.block _ (lt_drew HB3.out)).trans HB3.out)) | (go_at_call 92; refine (pr_write b (BS) v2 (.slice ra t.length (cap - 1)) Q _ P6.out hwl).mono ?_; rintro e w7 ⟨rfl, v7, h7, k7⟩; have bx7 := (four (k7.box (w := w6) B6.out hgb)).2.2.1))
      go_wp2_with fail
      go_end0
      exact ⟨rfl, ⟨v7, _, by rw [HBS.out, ← HJR.out]; exact h7, by rw [HRT.out]; exact (LD.out.kept (hb6.mono (Nat.le_of_lt PD.out.lt))).kept k7.below⟩, K6.out.trans k7⟩
    · obtain ⟨cn, rfl⟩ : ∃ cn : Nat, count = (cn : Int) := ⟨count.toNat, by omega⟩
      rw [Int.toNat_natCast] at hk
      have hk2 : rkids f cn t (deep + 1) false [] = some r := hk
      have hJR : [91] ++ ((jmany f cn t false).1 ++ [93]) = JR := by rw [← hJ]; simp [jrow]
      have HJR := Lib.hid hJR
      have hlenB : BS.length + ([91] ++ ((jmany f cn t false).1 ++ [93])).length ≤ 140737488355328 := by rw [hJR]; exact hlen2
      have HLB := Lib.hid hlenB
      have HK2 := Lib.hid hk2
      have hcn : cn ≤ 9223372036854775807 := by omega
      clear hJR hk hJ hk2 hlenB
      go_wp2_with fail
      refine (hM b BS v2 _ cn t (deep + 1) false [] r [91] [93] _ w0 HK2.out HP3.out HL3.out HE3.out HFT.out HLB.out hcn).mono ?_
      rintro e7 w7 ⟨rfl, h7⟩
      rw [HJR.out] at h7
      go_wp2_with fail
      go_end0
      obtain ⟨v7, r7, hp7, hl7⟩ := h7.ex
      exact ⟨rfl, ⟨v7, r7, by rw [HBS.out]; exact hp7, hl7⟩, HK3.out.trans h7.kq⟩
    · obtain ⟨cn, rfl⟩ : ∃ cn : Nat, count = (cn : Int) := ⟨count.toNat, by omega⟩
      rw [Int.toNat_natCast] at hk
      have hk2 : rkids f cn t (deep + 1) true [] = some r := hk
      have hJR : [123] ++ ((jmany f cn t true).1 ++ [125]) = JR := by rw [← hJ]; simp [jrow]
      have HJR := Lib.hid hJR
      have hlenB : BS.length + ([123] ++ ((jmany f cn t true).1 ++ [125])).length ≤ 140737488355328 := by rw [hJR]; exact hlen2
      have HLB := Lib.hid hlenB
      have HK2 := Lib.hid hk2
      have hcn : cn ≤ 9223372036854775807 := by omega
      clear hJR hk hJ hk2 hlenB
      go_wp2_with fail
      refine (hM b BS v2 _ cn t (deep + 1) true [] r [123] [125] _ w0 HK2.out HP3.out HL3.out HE3.out HFT.out HLB.out hcn).mono ?_
      rintro e7 w7 ⟨rfl, h7⟩
      rw [HJR.out] at h7
      go_wp2_with fail
      go_end0
      obtain ⟨v7, r7, hp7, hl7⟩ := h7.ex
      exact ⟨rfl, ⟨v7, r7, by rw [HBS.out]; exact hp7, hl7⟩, HK3.out.trans h7.kq⟩
end Go.Proofs.YtndkbecdjaedaaaGreatDoor
/- json.Print, for every slice of values. -/
namespace Go.Proofs.YtndkbecdjaedaaaGreatDoor
open Go.RowKit

theorem all_P : ∀ f, VP f := fun f => by
  induction f using Nat.strongRecOn with
  | _ f ih =>
    cases f with
    | zero => intro b bs v rest l deep m r w w0 hr; simp [rrow] at hr
    | succ f => exact value_step f (many_step f (fun g hg => ih g (by omega)))

/-- A slice has as much room as it has values at least. -/
def Capd (v : Value) : Prop := match v with
  | .slice _ n c => n ≤ c
  | _ => True
/-- What Print hands back. -/
def PrintR (R : Bool) (J : List UInt8) (e : Ending) (w' : World) : Prop :=
  (R = false ∧ e = .returned (.tuple #[.slice none 0 0, .bool false])) ∨ (R = true ∧ ∃ v, e = .returned (.tuple #[v, .bool true]) ∧ Bs w' v J ∧ Capd v)

theorem vl_of_vs {w : World} {v : Value} {l : List V} (h : Vs w v l) (hc : Capd v) : Vl w.heap.size w v l := by
  rcases h with ⟨h1, a, c, rfl⟩ | ⟨b, off, cap, rfl, hb, hcell⟩
  · exact .inl ⟨h1, a, c, rfl⟩
  · exact .inr ⟨b, off, cap, rfl, hc, hb, hcell⟩

theorem Vl.mono {b b' : Nat} {w : World} {v : Value} {l : List V} (h : Vl b w v l) (hb : b ≤ b') : Vl b' w v l := by
  rcases h with h | ⟨bk, off, cap, hv, hcp, hl, hc⟩
  · exact .inl h
  · exact .inr ⟨bk, off, cap, hv, hcp, by omega, hc⟩
/-- A string's bytes, as a slice. -/
theorem bs_conv (w : World) (l : List UInt8) (e : TypeId) (n : Nat) (fz : Nat × Nat) : Bs (w.drew.alloc (.cells (bytesRow ⟨l.toArray⟩ n) e fz)) (.slice (some ⟨w.heap.size, 0, none⟩) l.length n) l := by
  refine .inr ⟨w.heap.size, 0, n, rfl, by simp, fun j hj => ?_⟩
  have h : (w.drew.alloc (.cells (bytesRow ⟨l.toArray⟩ n) e fz)).heap[w.heap.size]? = some (.cells (bytesRow ⟨l.toArray⟩ n) e fz) := by
    exact heap_alloc_new w.drew _
  rw [Nat.zero_add, cell_of_row _ _ _ _ _ _ h]
  have h2 : (bytesRow ⟨l.toArray⟩ n)[j]? = some (Value.int .u8 (l[j].toNat : Int)) := by
    unfold bytesRow
    rw [Array.getElem?_append_left (by simpa using hj)]
    simp [hj]
  exact h2

set_option maxHeartbeats 4000000 in
set_option maxRecDepth 1000000 in
theorem print_calls (v : Value) (l : List V) (w : World) (h : Vs w v l) (hc : Capd v) (hE : Env w) (hT : U8 w) (hW : Words w) (hf : Fits l) (hl : l.length ≤ 1000000000) (hj : jright l = true → (jprint l).length ≤ 140737488355328) :
    Calls Tryz.prog 24 #[v] w fun e w' => PrintR (jright l) (jprint l) e w' ∧ Below w.heap.size w w' := by
  obtain ⟨a, cap, hv⟩ := h.len
  have HH := Lib.hid h
  have HC := Lib.hid hc
  have HE := Lib.hid hE
  have HT := Lib.hid hT
  have HW := Lib.hid hW
  have HF := Lib.hid hf
  obtain ⟨JR, hJR⟩ : ∃ JR, jright l = JR := ⟨_, rfl⟩
  obtain ⟨JP, hJP⟩ : ∃ JP, jprint l = JP := ⟨_, rfl⟩
  rw [hJR, hJP]
  rw [hJP, hJR] at hj
  have HJR := Lib.hid hJR
  have HJP := Lib.hid hJP
  clear h hc hE hT hW hf hJR hJP
  subst hv
  go_enter Tryz.func24, Tryz.ntmps24
  go_wp2_with fail
  refine (right_calls _ l _ HH.out HT.out HF.out hl).mono ?_
  rintro e1 w1 ⟨rfl, hb1⟩
  rw [HJR.out]
  have B1 := Lib.hid hb1
  clear hb1
  cases JR with
  | false =>
    go_wp2_with fail
    go_ret2
    exact ⟨.inl ⟨rfl, rfl⟩, B1.out⟩
  | true =>
    have hr : rrow (2 * l.length + 2) l 0 false = some [] := by
      have h := HJR.out
      unfold jright at h
      rw [Bool.and_eq_true] at h
      have h2 := h.2
      split at h2
      · assumption
      · cases h2
    have hjr : (jrow (2 * l.length + 2) l).1 = JP := HJP.out
    have hjne : JP ≠ [] := by
      obtain ⟨_, _, _, _, ⟨jc, jt, hjc, _⟩, _⟩ := (both_back _).1 _ _ _ _ hr
      rw [hjr] at hjc
      rw [hjc]; simp
    have B2 : Hid (Below w.heap.size w (w1.alloc (.cells #[.pointer none, .slice none 0 0, .slice a l.length cap] 77))) := Lib.hid (B1.out.alloc B1.out.size _)
    have P0 : Hid (Pr w1.heap.size [] (.slice none 0 0) (.slice a l.length cap) (w1.alloc (.cells #[.pointer none, .slice none 0 0, .slice a l.length cap] 77))) := Lib.hid ⟨⟨none, .inl rfl, heap_alloc_new _ _⟩, World.ownsRow_nil _ _ _ _⟩
    have V0 : Hid (Vl w1.heap.size (w1.alloc (.cells #[.pointer none, .slice none 0 0, .slice a l.length cap] 77)) (.slice a l.length cap) l) := Lib.hid (((vl_of_vs HH.out HC.out).kept B2.out).mono B1.out.size)
    have E0 : Hid (Ev w w1.heap.size (w1.alloc (.cells #[.pointer none, .slice none 0 0, .slice a l.length cap] 77))) := Lib.hid ⟨HE.out, HW.out, B1.out.size, B2.out⟩
    have HR := Lib.hid hr
    have HJN := Lib.hid hjne
    have hlen : ([] : List UInt8).length + (keyT l false ++ (jrow (2 * l.length + 2) l).1).length ≤ 140737488355328 := by
      rw [hjr]; simpa [keyT] using hj rfl
    have hjk : [] ++ (keyT l false ++ (jrow (2 * l.length + 2) l).1) = JP := by rw [hjr]; rfl
    have HLN := Lib.hid hlen
    have HJK := Lib.hid hjk
    clear hr hjr hjne hlen hjk
    go_wp2_with fail
    refine (all_P _ w1.heap.size [] _ _ l 0 false [] _ w HR.out P0.out V0.out E0.out HF.out HLN.out).mono ?_
    rintro e2 w2 ⟨rfl, h2⟩
    rw [HJK.out] at h2
    obtain ⟨v2, r2, p2, _⟩ := h2.ex
    have P2 := Lib.hid p2
    have B3 := Lib.hid (B2.out.trans (h2.kq.below.mono B1.out.size))
    clear h2 p2
    go_wp2_with fail
    refine (pr_string w1.heap.size JP v2 r2 _ P2.out HJN.out).mono ?_
    rintro e3 w3 ⟨rfl, b3⟩
    have B4 := Lib.hid (B3.out.trans (b3.mono B1.out.size))
    have hconv := fun w => run_bytes_of_string (P := Tryz.prog) w 9 22 5 ⟨JP.toArray⟩ Tryz.underlying9 Tryz.underlying22 Tryz.underlying5
    clear b3
    go_wp2_with fail
    go_ret2
    refine ⟨.inr ⟨rfl, _, rfl, ?_, ?_⟩, ?_⟩
    · exact bs_conv w3 JP _ _ _
    · show JP.length ≤ _
      exact grownCap_ge _ _ _ _
    · exact (B4.out.alloc B4.out.size _).drew
end Go.Proofs.YtndkbecdjaedaaaGreatDoor
