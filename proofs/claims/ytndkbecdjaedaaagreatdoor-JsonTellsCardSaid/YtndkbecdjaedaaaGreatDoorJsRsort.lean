/- The reference's sorted and Sort: by selection. -/
import Derived.Test.YtndkbecdjaedaaaGreatDoorJsRkids
import Derived.Test.YtndkbecdjaedaaaGreatDoorJsSrt
import Derived.Test.YtndkbecdjaedaaaGreatDoorJsSm
import Derived.Deep.AppendLies
namespace Go.Proofs.YtndkbecdjaedaaaGreatDoor
open Go.RowKit

/-- What is chosen so far, and what is left. -/
structure Sel (S : Nat → List V) (cn : Nat) (ob : Bool) (done Q : List Nat) : Prop where
  perm : (done ++ Q).Perm (List.range cn)
  rise : ob = true → rises (done.map S) ∧ ∀ d ∈ done, ∀ q ∈ Q, headKey (S d) < headKey (S q)
  flat : ob = false → done ++ Q = List.range cn
theorem Sel.start (S : Nat → List V) (cn : Nat) (ob : Bool) : Sel S cn ob [] (List.range cn) :=
  ⟨List.Perm.refl _, fun _ => ⟨by simp [rises], fun d hd => by cases hd⟩, fun _ => rfl⟩
theorem dist_at {S : Nat → List V} {cn : Nat} (h : dist ((List.range cn).map S)) {a b : Nat} (ha : a < cn) (hb : b < cn) (hne : a ≠ b) : headKey (S a) ≠ headKey (S b) := by
  unfold dist at h
  have hg := List.pairwise_iff_getElem.1 h
  rcases Nat.lt_or_gt_of_ne hne with hlt | hgt
  · have := hg a b (by simpa using ha) (by simpa using hb) hlt
    simpa using this
  · have := hg b a (by simpa using hb) (by simpa using ha) hgt
    exact fun e => (by simpa using this : headKey (S b) ≠ headKey (S a)) e.symm
theorem split_at {α : Type} (Q : List α) (m : Nat) (hm : m < Q.length) : Q = Q.take m ++ Q[m] :: Q.drop (m + 1) := by
  rw [← List.drop_eq_getElem_cons hm, List.take_append_drop]
theorem Sel.step {S : Nat → List V} {cn : Nat} {ob : Bool} {done Q : List Nat} (h : Sel S cn ob done Q) (hd : ob = true → dist ((List.range cn).map S)) (m : Nat) (hm : m < Q.length)
    (hmin : ob = true → ∀ j (hj : j < Q.length), ¬ headKey (S Q[j]) < headKey (S Q[m])) (h0 : ob = false → m = 0) : Sel S cn ob (done ++ [Q[m]]) (Q.take m ++ Q.drop (m + 1)) := by
  have hs := split_at Q m hm
  have hp : (done ++ [Q[m]] ++ (Q.take m ++ Q.drop (m + 1))).Perm (done ++ Q) := by
    rw [List.append_assoc]
    refine List.Perm.append_left _ ?_
    conv => rhs; rw [hs]
    show (Q[m] :: (Q.take m ++ Q.drop (m + 1))).Perm _
    exact List.perm_middle.symm
  have hmem : ∀ q ∈ Q, q < cn := fun q hq => by
    have := h.perm.mem_iff.1 (List.mem_append_right done hq)
    simpa using this
  have hnd : (done ++ Q).Nodup := h.perm.nodup_iff.2 List.nodup_range
  have hsub : ∀ q ∈ Q.take m ++ Q.drop (m + 1), q ∈ Q ∧ q ≠ Q[m] := fun q hq => by
    have hqQ : q ∈ Q := by
      rcases List.mem_append.1 hq with hq | hq
      · exact List.mem_of_mem_take hq
      · exact List.mem_of_mem_drop hq
    refine ⟨hqQ, fun e => ?_⟩
    have hQ := (List.nodup_append.1 hnd).2.1
    rw [hs] at hQ
    have := (List.perm_middle.nodup_iff.1 hQ)
    rw [List.nodup_cons] at this
    exact this.1 (e ▸ hq)
  refine ⟨hp.trans h.perm, fun hob => ?_, fun hob => ?_⟩
  · obtain ⟨r1, r2⟩ := h.rise hob
    refine ⟨?_, fun d hdm q hq => ?_⟩
    · unfold rises at r1 ⊢
      rw [List.map_append, List.pairwise_append]
      refine ⟨r1, by simp, fun a ha b hb => ?_⟩
      obtain ⟨d, hdd, rfl⟩ := List.mem_map.1 ha
      simp only [List.map_cons, List.map_nil, List.mem_singleton] at hb
      subst hb
      exact r2 d hdd _ (List.getElem_mem hm)
    · obtain ⟨hqQ, hqne⟩ := hsub q hq
      rcases List.mem_append.1 hdm with hdm | hdm
      · exact r2 d hdm q hqQ
      · rcases List.mem_singleton.1 hdm with rfl
        obtain ⟨j, hj, rfl⟩ := List.getElem_of_mem hqQ
        have hle := List.not_lt.1 (hmin hob j hj)
        rcases List.le_iff_lt_or_eq.1 hle with h1 | h1
        · exact h1
        · exact absurd h1 (dist_at (hd hob) (hmem _ (List.getElem_mem hm)) (hmem _ hqQ) (fun e => hqne e.symm))
  · have hm0 := h0 hob
    subst hm0
    rw [← h.flat hob, List.append_assoc]
    congr 1
    conv => rhs; rw [hs]
    simp
theorem Sel.fin {S : Nat → List V} {cn : Nat} {ob : Bool} {done : List Nat} (h : Sel S cn ob done []) : (if ob = true then isort ((List.range cn).map S) else (List.range cn).map S) = done.map S := by
  cases ob with
  | true =>
    rw [if_pos rfl]
    have hp := h.perm
    rw [List.append_nil] at hp
    exact isort_any (hp.map S) (h.rise rfl).1
  | false =>
    rw [if_neg (by decide)]
    have := h.flat rfl
    rw [List.append_nil] at this
    rw [this]

theorem own_other {w w' : World} {base base2 size size2 n n2 : Nat} {e e2 : TypeId} {v v2 : Value} {xs xs2 : List Value} (h : w.ownsRow base e size v n xs) (h2 : w.ownsRow base2 e2 size2 v2 n2 xs2) (hne : e ≠ e2) (hg : w.grownBy w' v2.ownBlock) : w'.ownsRow base e size v n xs := by
  refine ⟨h.1, ?_⟩
  rcases h.2 with h3 | ⟨g, cap, cur, hv, hb, hg1, r⟩
  · exact .inl h3
  · refine .inr ⟨g, cap, cur, hv, hb, ?_, r⟩
    rw [hg.block g (lt_of_block hg1) ?_]
    · exact hg1
    · intro e3
      rcases h2.2 with ⟨hv2, _⟩ | ⟨g2, cap2, cur2, hv2, _, hg2, _⟩
      · rw [hv2] at e3; simp [Value.ownBlock] at e3
      · rw [hv2] at e3
        have : g2 = g := by simpa [Value.ownBlock] using e3.symm
        subst this
        rw [hg1] at hg2
        injection hg2 with hg2
        injection hg2 with _ h4 _
        exact hne h4

theorem sizeInt : ∀ w, (Go.sizeOf (Tryz.prog.elem 104)).run Tryz.prog w = .ok 1 w := by
  intro w
  have : (Tryz.prog.info? (Tryz.prog.elem 104)).map (fun _ => ()) = some () := by kernel_rfl
  obtain ⟨i, hi, _⟩ := Option.map_eq_some_iff.1 this
  rw [run_sizeOf w hi]
  rw [show Tryz.prog.cellsOf (Tryz.prog.elem 104) = 1 by kernel_rfl]
theorem behind_run (g n cap k : Nat) (hk : k ≤ n) : ∀ w, (Instr.slice 104 (.slice (some ⟨g, 0, none⟩) n cap) (some (.int .i64 (k : Int))) none none).run Tryz.prog w = .ok (.slice (some (if cap = k then ⟨g, 0, none⟩ else ⟨g, k, none⟩)) (n - k) (cap - k)) w := by
  intro w
  rw [run_slice_l (P := Tryz.prog) w 104 (some ⟨g, 0, none⟩) n cap (by kernel_rfl) .i64 k (by omega) (by omega), sizeInt]
  simp only [Result.andThen, sliced, Int.toNat_natCast]
  congr 2
  by_cases h : cap = k
  · simp [h]
  · simp [h, Addr.add]
    intro h2; omega
theorem ahead_run (g n cap k : Nat) (hk : k ≤ cap) : ∀ w, (Instr.slice 104 (.slice (some ⟨g, 0, none⟩) n cap) none (some (.int .i64 (k : Int))) none).run Tryz.prog w = .ok (.slice (some ⟨g, 0, none⟩) k cap) w := by
  intro w
  rw [run_slice_h (P := Tryz.prog) w 104 (some ⟨g, 0, none⟩) n cap (by kernel_rfl) .i64 k (by omega) (by omega), sizeInt]
  simp only [Result.andThen, sliced]
  by_cases h : cap = 0
  · simp [h]
  · simp [Addr.add]

theorem step_append_any {w : World} {ops : Array Oper} {o : Oper} {a : Act} {K : Act → World → Prop} {Q : Exit → Act → World → Prop} {E : Prop} (hgd : o.guard = none) (s x : Operand)
    (ho : o.op = .call { callee := .builtin .append, args := #[s, x], argTypes := #[104, 104] })
    (base : Nat) (v : Value) (ps : List Nat) (hs : a.eval s = v) (hown : w.ownsRow base 3 1 v ps.length (icells ps))
    (ad : Addr) (k c : Nat) (qs : List Nat) (hk : qs.length = k) (hx : a.eval x = .slice (some ad) k c) (hnews : ∀ j u, (icells qs)[j]? = some u → w.cell? (ad.add j) = some u)
    (hb : ps.length + qs.length ≤ 1000000) (hbase : base ≤ w.heap.size)
    (h : ∀ v' w', w'.ownsRow base 3 1 v' (ps ++ qs).length (icells (ps ++ qs)) → Below base w w' → K (a.put o.dst v') w') :
    if Region.wanted o (yielded ops a.tmps) = true then Oper.wp Tryz.prog o a w K Q else E := by
  have hw : Region.wanted o (yielded ops a.tmps) = true := by simp [Region.wanted, hgd]
  rw [if_pos hw]
  obtain ⟨i0, hi0, hz0, hz1, hz2⟩ := info_parts infoInt
  subst hk
  refine wp_append_own w s x 104 ho base 3 i0 _ 1 8 Tryz.underlying104 hi0 hz0 hz1 hz2 rfl (by decide) v ps.length (icells ps) hs hown ad qs.length c (icells qs) hx (by rw [icells_len, Nat.mul_one]) hnews ?_ (by unfold maxLen; omega) (by omega) hbase ?_
  · intro u hu
    obtain ⟨p, _, rfl⟩ := List.mem_map.1 hu
    rfl
  · intro v' w' ho' hg _
    refine h v' w' ?_ ((Below.refl base w).grown hg hbase (fun k hk => (hown.lt k hk).1))
    rw [List.length_append]
    unfold icells at ho' ⊢
    rw [List.map_append]
    exact ho'

theorem add_zero_none (b k : Nat) : (⟨b, 0, none⟩ : Addr).add k = ⟨b, k, none⟩ := by unfold Addr.add; split <;> simp_all
theorem own_cap {w : World} {base size n c : Nat} {a : Option Addr} {e : TypeId} {xs : List Value} (h : w.ownsRow base e size (.slice a n c) n xs) : n ≤ c := by
  rcases h.2 with ⟨_, h0⟩ | ⟨g, cap, cur, hv, _, _, h2, _⟩
  · omega
  · simp only [Value.slice.injEq] at hv
    obtain ⟨_, _, rfl⟩ := hv
    exact h2
theorem Sel.size {S : Nat → List V} {cn : Nat} {ob : Bool} {done Q : List Nat} (h : Sel S cn ob done Q) : (done.map S).flatten.length + (Q.map S).flatten.length = ((List.range cn).map S).flatten.length := by
  have := flatten_len_perm (h.perm.map S)
  rw [List.map_append, List.flatten_append, List.length_append] at this
  exact this
theorem one_le_flat {S : Nat → List V} {Q : List Nat} {m : Nat} (hm : m < Q.length) : (S Q[m]).length ≤ (Q.map S).flatten.length := by
  have hs := split_at Q m hm
  conv => rhs; rw [hs]
  rw [List.map_append, List.map_cons, List.flatten_append, List.flatten_cons, List.length_append, List.length_append]
  omega
theorem Sel.mem {S : Nat → List V} {cn : Nat} {ob : Bool} {done Q : List Nat} (h : Sel S cn ob done Q) {q : Nat} (hq : q ∈ Q) : q < cn := by
  have := h.perm.mem_iff.1 (List.mem_append_right done hq)
  simpa using this
theorem less_key2 (x y : List UInt8) : Op.bytesLess x y = decide (x < y) := by
  induction x generalizing y with
  | nil => cases y <;> simp [Op.bytesLess]
  | cons c x ih =>
    cases y with
    | nil => simp [Op.bytesLess]
    | cons d y =>
      simp only [Op.bytesLess, ih y]
      rw [Bool.eq_iff_iff]
      simp only [Bool.or_eq_true, Bool.and_eq_true, decide_eq_true_eq, beq_iff_eq]
      rw [List.cons_lt_cons_iff]
theorem less_key (a b : List UInt8) : Op.bytesLess (⟨a.toArray⟩ : ByteArray).toList (⟨b.toArray⟩ : ByteArray).toList = decide (a < b) := by
  rw [Lib.toList_data, Lib.toList_data]
  rw [less_key2]

theorem own_news {w : World} {base size n g c : Nat} {e : TypeId} {xs : List Value} (h : w.ownsRow base e size (.slice (some ⟨g, 0, none⟩) n c) n xs) : ∀ j u, xs[j]? = some u → w.cell? ((⟨g, 0, none⟩ : Addr).add j) = some u := fun j u hj => by
  have hjl : j < xs.length := by
    rcases Nat.lt_or_ge j xs.length with h1 | h1
    · exact h1
    · rw [List.getElem?_eq_none h1] at hj; cases hj
  have hl := h.1
  rw [add_zero_none, h.cellAt j (by omega)]
  exact hj

/-- The loop of 'sorted': what was chosen, what is left. -/
def SortRel (S : Nat → List V) (pl : Nat → Nat) (cn : Nat) (ob : Bool) (x : V) (w : World) (vo vr : Value) (wr : World) : Prop :=
  ∃ (done Q : List Nat), Hid (Sel S cn ob done Q) ∧ Hid (wr.ownsRow w.heap.size 56 4 vo (1 + (done.map S).flatten.length) (vcells (x :: (done.map S).flatten))) ∧ Hid (wr.ownsRow w.heap.size 3 1 vr Q.length (icells (Q.map pl))) ∧ Hid (Below w.heap.size w wr) ∧ Hid (slen vr = Q.length)
theorem SortRel.mk {S : Nat → List V} {pl : Nat → Nat} {cn : Nat} {ob : Bool} {x : V} {w : World} {vo vr : Value} {wr : World} {done Q : List Nat} (h1 : Hid (Sel S cn ob done Q)) (h2 : Hid (wr.ownsRow w.heap.size 56 4 vo (1 + (done.map S).flatten.length) (vcells (x :: (done.map S).flatten))))
    (h3 : Hid (wr.ownsRow w.heap.size 3 1 vr Q.length (icells (Q.map pl)))) (h4 : Hid (Below w.heap.size w wr)) (h5 : Hid (slen vr = Q.length)) : SortRel S pl cn ob x w vo vr wr := ⟨done, Q, h1, h2, h3, h4, h5⟩

/-- What 'sorted' comes to. -/
def SOR (f : Nat) : Prop := ∀ (l : List V) (va : Value) (at' deep : Nat) (m : Bool) (r : List V) (w : World), rrow f (l.drop at') deep m = some r → Vs w va l → Fits l → l.length ≤ 1000000 → at' < l.length →
  Calls Tryz.prog 71 #[va, .int .i64 (at' : Int)] w fun e w' => (∃ vo, e = .returned vo ∧ w'.ownsRow w.heap.size 56 4 vo (rowAt l at').length (vcells (rowAt l at'))) ∧ Below w.heap.size w w'

set_option maxHeartbeats 16000000 in
set_option maxRecDepth 1000000 in
theorem rsorted_step (f : Nat) (hS : ∀ g, g ≤ f → SOR g) : SOR (f + 1) := by
  intro l va at' deep m r w hrr h hf hl hal
  have hd : l.drop at' = l[at'] :: l.drop (at' + 1) := List.drop_eq_getElem_cons hal
  obtain ⟨hsr, _, hlr, _⟩ := rowAt_row hrr hal
  rw [hd] at hrr
  rcases h with ⟨rfl, _⟩ | ⟨bk, off, cap, rfl, hbk, hcells⟩
  · simp at hal
  have HV : Hid (Vs w (.slice (some ⟨bk, off, none⟩) l.length cap) l) := Lib.hid (.inr ⟨bk, off, cap, rfl, hbk, hcells⟩)
  obtain ⟨p0, p1, p2, p3⟩ := load4 (hcells at' hal)
  have HF := Lib.hid hf
  obtain ⟨hown, hkids⟩ := jrow_kind hrr
  have hc0 : 0 ≤ l[at'].count := by
    rcases (own_cases hown).2.2 with ⟨_, _, h⟩ | ⟨_, _, _, h⟩ | ⟨_, _, h⟩ | ⟨_, _, h⟩ <;> omega
  obtain ⟨cn, hcn⟩ : ∃ cn, l[at'].count.toNat = cn := ⟨_, rfl⟩
  have hcni : l[at'].count = (cn : Int) := by omega
  obtain ⟨ob, hob⟩ : ∃ ob : Bool, (l[at'].kind == 6) = ob := ⟨_, rfl⟩
  rw [hcn, hob] at hkids
  have hcl := (right_len f).2 _ _ _ _ _ _ hkids
  rw [List.length_drop] at hcl
  obtain ⟨pl, hpl0, hpl, hsk⟩ := kids_places f cn l (at' + 1) (deep + 1) ob [] r hkids (by omega)
  obtain ⟨S, hSd⟩ : ∃ S : Nat → List V, S = fun j => rowAt l (pl j) := ⟨_, rfl⟩
  have hrows : (List.range cn).map (fun j => rowAt l (pl j)) = (List.range cn).map S := by rw [hSd]
  have hdist : ob = true → dist ((List.range cn).map S) := fun ho => by
    obtain ⟨rows, _, _, hdi, hrl, hrs⟩ := (all_sort f).2 _ _ _ _ _ _ hkids
    have h1 := hrs (2 * l.length + 2) (by rw [List.length_drop] at hrl; omega)
    rw [hsk _ (by omega), hrows] at h1
    have h2 : (List.range cn).map S = rows := congrArg Prod.fst h1
    rw [h2]
    exact (hdi ho).1
  have hres : rowAt l at' = l[at'] :: (if ob = true then isort ((List.range cn).map S) else (List.range cn).map S).flatten := by
    have h1 := hsr (2 * l.length + 3) (by omega)
    rw [hd] at h1
    simp only [srow] at h1
    rw [hcn, hsk _ (by omega), hrows] at h1
    have h2 : l[at'] :: (if l[at'].kind = 6 then isort ((List.range cn).map S) else (List.range cn).map S).flatten = rowAt l at' := congrArg Prod.fst h1
    rw [← h2, ← hob]
    by_cases h6 : l[at'].kind = 6
    · rw [if_pos h6, if_pos (by rw [h6]; rfl)]
    · rw [if_neg h6, if_neg (by simpa using h6)]
  have hplS : ∀ j, j < cn → pl j < l.length ∧ S j = rowAt l (pl j) ∧ S j ≠ [] ∧ (∀ (h : pl j < l.length), headKey (S j) = l[pl j].key) ∧ ∃ g r', g ≤ f ∧ rrow g (l.drop (pl j)) (deep + 1) ob = some r' := fun j hj => by
    obtain ⟨a, _, g, r', hg, hr'⟩ := hpl j hj
    obtain ⟨_, b, _, c⟩ := rowAt_row hr' a
    rw [hSd]
    exact ⟨a, rfl, c, fun _ => b, g, r', by omega, hr'⟩
  have HPL := Lib.hid hpl
  have HPS := Lib.hid hplS
  have HDI := Lib.hid hdist
  have HRES := Lib.hid hres
  have HCN := Lib.hid hcni
  have hlen : (rowAt l at').length ≤ l.length := by omega
  have htot : 1 + ((List.range cn).map S).flatten.length ≤ l.length := by
    have h1 := hlen
    rw [hres, List.length_cons] at h1
    have h2 : (if ob = true then isort ((List.range cn).map S) else (List.range cn).map S).flatten.length = ((List.range cn).map S).flatten.length := by
      split
      · exact flatten_len_perm (isort_perm _)
      · rfl
    omega
  have HTOT := Lib.hid htot
  have HLEN := Lib.hid hlen
  have HXR : Hid (vcells [l[at']] = [.int .i64 l[at'].kind, .string ⟨l[at'].key.toArray⟩, .string ⟨l[at'].text.toArray⟩, .int .i64 l[at'].count]) := Lib.hid (by simp [vcells, vcell])
  have hx0 : (0 : Int) ≤ (at' : Int) := by omega
  have hx1 : (at' : Int) < (l.length : Int) := by omega
  obtain ⟨x, hx⟩ : ∃ x, l[at'] = x := ⟨_, rfl⟩
  have HX := Lib.hid hx
  rw [hx] at p0 p1 p2 p3 hob HXR HRES
  obtain ⟨kd, key, text, count⟩ := x
  simp only [] at p0 p1 p2 p3 hob HXR
  have HOB := Lib.hid hob
  clear hcells hf hd hx hrr hown hkids hc0 hcn hcni hpl hplS hdist hres hsk hrows hsr hlr hlen htot hSd hob
  have hBa : Below w.heap.size w (w.alloc (.cells #[.int .i64 kd, .string ⟨key.toArray⟩, .string ⟨text.toArray⟩, .int .i64 count] 56)) := (Below.refl _ _).alloc (Nat.le_refl _) _
  have hOa : (w.alloc (.cells #[.int .i64 kd, .string ⟨key.toArray⟩, .string ⟨text.toArray⟩, .int .i64 count] 56)).ownsRow w.heap.size 56 4 (.slice (some ⟨w.heap.size, 0, none⟩) 1 1) 1 [.int .i64 kd, .string ⟨key.toArray⟩, .string ⟨text.toArray⟩, .int .i64 count] :=
    World.ownsRow_lit w #[.int .i64 kd, .string ⟨key.toArray⟩, .string ⟨text.toArray⟩, .int .i64 count] 1 (Nat.le_refl _) (by unfold maxLen; omega) rfl
  have HBA := Lib.hid hBa
  have HOA := Lib.hid hOa
  obtain ⟨iv, hiv, hzv0, hzv1, hzv2⟩ := info_parts infoVal
  clear hBa hOa
  go_enter Tryz.func71, Tryz.ntmps71
  go_wp2_with fail
  refine (rkids_calls l _ at' cn pl _ (HV.out.kept HBA.out) hl hal HCN.out (by omega) hpl0 (fun j hj => ⟨(HPL.out j hj).1, (HPL.out j hj).2.1⟩)).mono ?_
  rintro e1 w1 ⟨⟨vr1, rfl, hor⟩, hb1⟩
  have HB1 := Lib.hid (HBA.out.trans (hb1.mono HBA.out.size))
  have HO1 : Hid (w1.ownsRow w.heap.size 56 4 (.slice (some ⟨w.heap.size, 0, none⟩) 1 1) (1 + (([] : List Nat).map S).flatten.length) (vcells (⟨kd, key, text, count⟩ :: (([] : List Nat).map S).flatten))) := Lib.hid (own_below HOA.out hb1)
  have HR1 : Hid (w1.ownsRow w.heap.size 3 1 vr1 (List.range cn).length (icells ((List.range cn).map pl))) := Lib.hid (by rw [List.length_range]; exact own_mono hor HBA.out.size)
  have hsl1 : slen vr1 = (List.range cn).length := by obtain ⟨a, c, rfl⟩ := own_len HR1.out; rfl
  clear hb1 hor p0 p1 p2 p3
  go_wp2_with fail
  go_loopw [5, 6] (fun vo vr wr => SortRel S pl cn ob ⟨kd, key, text, count⟩ w vo vr wr) (fun _ vr _ => slen vr)
  case atStart => exact SortRel.mk (Lib.hid (Sel.start S cn ob)) HO1 HR1 HB1 (Lib.hid hsl1)
  case round =>
    obtain ⟨done, Q, HSEL, HO, HR, HB, HSL⟩ := hrel
    have hcql : Q.length ≤ 1000000 := by
      have h2 := HSEL.out.perm.length_eq
      rw [List.length_append, List.length_range] at h2
      omega
    by_cases hq : 0 < Q.length
    · obtain ⟨gr, cr, rfl, hqc, _⟩ := HR.out.form hq
      have hq' : (0 : Int) < (Q.length : Int) := by omega
      go_wp2_with fail
      go_loopw [7, 8] (fun vm vi wx => ∃ m i : Nat, vm = .int .i64 (m : Int) ∧ vi = .int .i64 (i : Int) ∧ m < i ∧ i ≤ Q.length ∧ Hid (∀ (hm : m < Q.length), (ob = true → ∀ j (hj : j < Q.length), j < i → ¬ headKey (S Q[j]) < headKey (S Q[m])) ∧ (ob = false → m = 0)) ∧
        Hid (wx.ownsRow w.heap.size 56 4 u5 (1 + (done.map S).flatten.length) (vcells (⟨kd, key, text, count⟩ :: (done.map S).flatten))) ∧ Hid (wx.ownsRow w.heap.size 3 1 (.slice (some ⟨gr, 0, none⟩) Q.length cr) Q.length (icells (Q.map pl))) ∧ Hid (Below w.heap.size w wx)) (fun _ vi _ => Q.length - (intOf vi).toNat)
      case atStart =>
        refine ⟨0, 1, rfl, rfl, by omega, by omega, Lib.hid (fun hm => ⟨fun _ j hj h => ?_, fun _ => rfl⟩), HO, HR, HB⟩
        obtain rfl : j = 0 := by omega
        exact List.lt_irrefl _
      case round =>
        obtain ⟨m, i, rfl, rfl, hmi, hi, HM, HOx, HRx, HBx⟩ := hrel
        have hcells : ∀ j (hj : j < Q.length), wr.cell? ⟨gr, j, none⟩ = some (.int .i64 (pl Q[j] : Int)) := fun j hj => by
          have := HRx.out.cellAt j (by omega)
          rw [this]
          simp [icells, hj]
        have hkeys : ∀ p (hp : p < l.length), wr.cell? ⟨bk, off + p * 4 + 1, none⟩ = some (.string ⟨l[p].key.toArray⟩) ∧ wr.cell? ⟨bk, off + p * 4, none⟩ = some (.int .i64 l[p].kind) := fun p hp => by
          rcases HV.out.kept HBx.out with ⟨rfl, _⟩ | ⟨_, _, _, he, _, hc⟩
          · simp at hal
          · simp only [Value.slice.injEq, Option.some.injEq, Addr.mk.injEq] at he
            obtain ⟨⟨rfl, rfl, _⟩, _, _⟩ := he
            have := load4 (hc p hp)
            exact ⟨this.2.1, this.1⟩
        have hmq : m < Q.length := by omega
        obtain ⟨hpm, _, _, hkm, _⟩ := HPS.out Q[m] (HSEL.out.mem (List.getElem_mem hmq))
        have rm := hcells m hmq
        by_cases hil : i < Q.length
        · have hk0 : wr.cell? ⟨bk, off + at' * 4, none⟩ = some (.int .i64 kd) := by
            have := (hkeys at' hal).2
            rw [show l[at'] = _ from HX.out] at this
            exact this
          have hi0 : (0 : Int) ≤ (i : Int) := by omega
          have hi1 : (i : Int) < (Q.length : Int) := by omega
          by_cases h6 : kd = 6
          · have hobt : ob = true := by rw [← HOB.out, h6]; rfl
            obtain ⟨hpi, _, _, hki, _⟩ := HPS.out Q[i] (HSEL.out.mem (List.getElem_mem hil))
            have ri := hcells i hil
            have ki := (hkeys _ hpi).1
            have km := (hkeys _ hpm).1
            rw [← hki hpi] at ki
            rw [← hkm hpm] at km
            have hlk := less_key (headKey (S Q[i])) (headKey (S Q[m]))
            have hlk2 := less_key2 (headKey (S Q[i])) (headKey (S Q[m]))
            have HMn : Hid (∀ (hm : m < Q.length), ¬ headKey (S Q[i]) < headKey (S Q[m]) → (ob = true → ∀ j (hj : j < Q.length), j < i + 1 → ¬ headKey (S Q[j]) < headKey (S Q[m])) ∧ (ob = false → m = 0)) := Lib.hid (fun hm hn => by
              refine ⟨fun ho j hj hji => ?_, (HM.out hm).2⟩
              by_cases hje : j = i
              · subst hje; exact hn
              · exact (HM.out hm).1 ho j hj (by omega))
            have HMi : Hid (headKey (S Q[i]) < headKey (S Q[m]) → ∀ (hm : i < Q.length), (ob = true → ∀ j (hj : j < Q.length), j < i + 1 → ¬ headKey (S Q[j]) < headKey (S Q[i])) ∧ (ob = false → i = 0)) := Lib.hid (fun hlt hm => by
              refine ⟨fun ho j hj hji hc => ?_, fun ho => by rw [ho] at hobt; cases hobt⟩
              by_cases hje : j = i
              · subst hje; exact List.lt_irrefl _ hc
              · exact (HM.out hmq).1 ho j hj (by omega) (List.lt_trans hc hlt))
            obtain ⟨qi, hqi⟩ : ∃ qi, pl Q[i] = qi := ⟨_, rfl⟩
            obtain ⟨qm, hqm⟩ : ∃ qm, pl Q[m] = qm := ⟨_, rfl⟩
            rw [hqi] at ri ki hpi
            rw [hqm] at rm km hpm
            have hq0 : (0 : Int) ≤ (qi : Int) := by omega
            have hq1 : (qi : Int) < (l.length : Int) := by omega
            have hq2 : (0 : Int) ≤ (qm : Int) := by omega
            have hq3 : (qm : Int) < (l.length : Int) := by omega
            have hq4 : (0 : Int) ≤ (m : Int) := by omega
            have hq5 : (m : Int) < (Q.length : Int) := by omega
            subst h6
            clear hcells hkeys hki hkm hqi hqm hobt
            by_cases hlt : headKey (S Q[i]) < headKey (S Q[m])
            · rw [decide_eq_true hlt] at hlk hlk2
              have HMj := Lib.hid (HMi.out hlt)
              generalize headKey (S Q[i]) = kki at ki hlk hlk2
              generalize headKey (S Q[m]) = kkm at km hlk hlk2
              clear hlt
              go_wp2_with fail
              go_quiet (fail)
              have HOq : Hid ((wr.drewN nq).ownsRow w.heap.size 56 4 u5 (1 + (done.map S).flatten.length) (vcells (⟨6, key, text, count⟩ :: (done.map S).flatten))) := HOx
              have HRq : Hid ((wr.drewN nq).ownsRow w.heap.size 3 1 (.slice (some ⟨gr, 0, none⟩) Q.length cr) Q.length (icells (Q.map pl))) := HRx
              have HBq := Lib.hid (below_drewN HBx.out nq)
              clear ri rm ki km hlk hlk2 hk0
              generalize wr.drewN nq = wq at *
              go_wp2_with fail
              go_roundw
              case rel => exact ⟨i, i + 1, rfl, by go_num, by omega, by omega, HMj, HOq, HRq, HBq⟩
              case measure => simp [intOf]; omega
            · rw [decide_eq_false hlt] at hlk hlk2
              have HMj := Lib.hid (fun hm => HMn.out hm hlt)
              generalize headKey (S Q[i]) = kki at ki hlk hlk2
              generalize headKey (S Q[m]) = kkm at km hlk hlk2
              clear hlt
              go_wp2_with fail
              go_quiet (fail)
              have HOq : Hid ((wr.drewN nq).ownsRow w.heap.size 56 4 u5 (1 + (done.map S).flatten.length) (vcells (⟨6, key, text, count⟩ :: (done.map S).flatten))) := HOx
              have HRq : Hid ((wr.drewN nq).ownsRow w.heap.size 3 1 (.slice (some ⟨gr, 0, none⟩) Q.length cr) Q.length (icells (Q.map pl))) := HRx
              have HBq := Lib.hid (below_drewN HBx.out nq)
              clear ri rm ki km hlk hlk2 hk0
              generalize wr.drewN nq = wq at *
              go_wp2_with fail
              go_roundw
              case rel => exact ⟨m, i + 1, rfl, by go_num, by omega, by omega, HMj, HOq, HRq, HBq⟩
              case measure => simp [intOf]; omega
          · have hobf : ob = false := by rw [← HOB.out]; simpa using h6
            have HMj : Hid (∀ (hm : m < Q.length), (ob = true → ∀ j (hj : j < Q.length), j < i + 1 → ¬ headKey (S Q[j]) < headKey (S Q[m])) ∧ (ob = false → m = 0)) := Lib.hid (fun hm => ⟨fun ho => (by rw [hobf] at ho; cases ho), (HM.out hm).2⟩)
            have hne6 : (kd == 6) = false := by simpa using h6
            clear hcells hkeys hkm rm hobf h6
            go_wp2_with fail
            go_quiet (fail)
            have HOq : Hid ((wr.drewN nq).ownsRow w.heap.size 56 4 u5 (1 + (done.map S).flatten.length) (vcells (⟨kd, key, text, count⟩ :: (done.map S).flatten))) := HOx
            have HRq : Hid ((wr.drewN nq).ownsRow w.heap.size 3 1 (.slice (some ⟨gr, 0, none⟩) Q.length cr) Q.length (icells (Q.map pl))) := HRx
            have HBq := Lib.hid (below_drewN HBx.out nq)
            clear hk0
            generalize wr.drewN nq = wq at *
            go_wp2_with fail
            go_roundw
            case rel => exact ⟨m, i + 1, rfl, by go_num, by omega, by omega, HMj, HOq, HRq, HBq⟩
            case measure => simp [intOf]; omega
        · have hie : i = Q.length := by omega
          subst hie
          have hsel := HSEL.out.step HDI.out m hmq (fun ho j hj => (HM.out hmq).1 ho j hj (by omega)) ((HM.out hmq).2)
          obtain ⟨hp, hSrow, hSne, _, g, r', hg, hr'⟩ := HPS.out Q[m] (HSEL.out.mem (List.getElem_mem hmq))
          have hcall := fun w4 hv => hS g hg l (.slice (some ⟨bk, off, none⟩) l.length cap) (pl Q[m]) (deep + 1) ob r' w4 hr' hv HF.out hl hp
          rw [← hSrow] at hcall
          have hsz := HSEL.out.size
          have hsz1 := one_le_flat (S := S) hmq
          have hsz2 := HTOT.out
          have hQs : (Q.take m ++ Q.drop (m + 1)).map pl = (Q.map pl).take m ++ (Q.map pl).drop (m + 1) := by rw [List.map_append, List.map_take, List.map_drop]
          have HQS := Lib.hid hQs
          have HSEL2 : Hid (Sel S cn ob (done ++ [Q[m]]) (Q.take m ++ Q.drop (m + 1))) := Lib.hid hsel
          have hdone : ((done ++ [Q[m]]).map S).flatten = (done.map S).flatten ++ S Q[m] := by rw [List.map_append, List.flatten_append]; simp
          obtain ⟨ROW, hROW⟩ : ∃ ROW, S Q[m] = ROW := ⟨_, rfl⟩
          obtain ⟨pm, hpmE⟩ : ∃ pm, pl Q[m] = pm := ⟨_, rfl⟩
          rw [hROW] at hcall hsz1 hSne hdone
          rw [hpmE] at hcall rm hp
          have HCALL := Lib.hid hcall
          have HDN := Lib.hid hdone
          have hm0 : (0 : Int) ≤ (m : Int) := by omega
          have hm1 : (m : Int) < (Q.length : Int) := by omega
          clear hcells hkeys hkm hpm hsel hSrow hcall hr' hsz2 hQs hROW hpmE hdone
          go_wp2_with fail
          refine (HCALL.out _ (HV.out.kept HBx.out)).mono ?_
          rintro e4 w4 ⟨⟨v4, rfl, hown4⟩, hb4⟩
          obtain ⟨g4, c4, rfl, _, _⟩ := hown4.form (List.length_pos_iff.2 hSne)
          have HB4 := Lib.hid (HBx.out.trans (hb4.mono HBx.out.size))
          have hO4 := own_below HOx.out hb4
          have HR4 := Lib.hid (own_below HRx.out hb4)
          have hn4 := own_news hown4
          have hrl : (vcells ROW).length = ROW.length * 4 := by rw [vcells_len]; omega
          have hone := vcells_one ROW
          have hx1 : 1 + (done.map S).flatten.length + ROW.length ≤ maxLen := by have := HTOT.out; unfold maxLen; omega
          have hx2 : (1 + (done.map S).flatten.length + ROW.length) * 48 ≤ 140737488355328 := by have := HTOT.out; omega
          have hx3 := HB4.out.size
          clear hb4 hown4 rm
          have hQl : (Q.map pl).length = Q.length := by simp
          obtain ⟨P, hP⟩ : ∃ P, Q.map pl = P := ⟨_, rfl⟩
          rw [hP] at hQl
          have HP := Lib.hid hP
          have hcap := own_cap HR4.out
          have ra := ahead_run gr Q.length cr m (by omega)
          have rb := behind_run gr Q.length cr (m + 1) (by omega)
          rw [show ((m + 1 : Nat) : Int) = (m : Int) + 1 by omega] at rb
          have HQL := Lib.hid hQl
          clear hP hQl
          have hwr : IntKind.i64.wrap ((m : Int) + 1) = (m : Int) + 1 := by simp [IntKind.wrap, IntKind.bits, IntKind.signed]; omega
          go_upto_region 11 with (at_builtin; go_loud (refine wpList_append_own _ rfl _ _ 35 rfl w.heap.size 56 iv _ 4 48 Tryz.underlying35 hiv hzv0 hzv1 hzv2 rfl (by decide) _ _ _ rfl hO4 ⟨g4, 0, none⟩ _ _ _ rfl hrl hn4 hone hx1 hx2 hx3 ?_; intro v5 w5 hown5 hgr5 _))
          have HO5 : Hid (w5.ownsRow w.heap.size 56 4 v5 (1 + ((done ++ [Q[m]]).map S).flatten.length) (vcells (⟨kd, key, text, count⟩ :: ((done ++ [Q[m]]).map S).flatten))) := Lib.hid (by
            rw [HDN.out, List.length_append, ← Nat.add_assoc, ← List.cons_append, vcells_append]
            exact hown5)
          have HR5 : Hid (w5.ownsRow w.heap.size 3 1 (.slice (some ⟨gr, 0, none⟩) Q.length cr) Q.length (icells P)) := Lib.hid (by rw [← HP.out]; exact own_other HR4.out hO4 (by decide) hgr5)
          have HB5 := Lib.hid (HB4.out.grown hgr5 HB4.out.size (fun k hk => (hO4.lt k hk).1))
          clear hown5 hgr5 hO4 hn4 hone hrl hx1 hx2 hx3
          have hP5 := HQL.out
          have hown0 : (w5.alloc (.cells #[] 3)).drew.ownsRow w5.heap.size 3 1 (.slice (some ⟨w5.heap.size, 0, none⟩) 0 0) ([] : List Nat).length (icells []) := World.ownsRow_lit w5 #[] 0 (Nat.le_refl _) (by unfold maxLen; omega) rfl
          have hR5 := HR5.out
          have hall : ∀ w9, Below w5.heap.size w5 w9 → ∀ j u, (icells P)[j]? = some u → w9.cell? (⟨gr, j, none⟩ : Addr) = some u := fun w9 hb9 j u hj => by
            have := own_news (own_below hR5 hb9) j u hj
            rw [add_zero_none] at this
            exact this
          have hba : Below w5.heap.size w5 (w5.alloc (.cells #[] 3)).drew := ((Below.refl _ w5).alloc (Nat.le_refl _) _).drew
          have hn1 : ∀ j u, (icells (P.take m))[j]? = some u → (w5.alloc (.cells #[] 3)).drew.cell? ((⟨gr, 0, none⟩ : Addr).add j) = some u := fun j u hj => by
            rw [add_zero_none]
            refine hall _ hba j u ?_
            unfold icells at hj ⊢
            rw [List.map_take] at hj
            have hjl : j < m := by
              rcases Nat.lt_or_ge j m with h1 | h1
              · exact h1
              · rw [List.getElem?_eq_none (by rw [List.length_take]; omega)] at hj; cases hj
            rwa [List.getElem?_take_of_lt hjl] at hj
          have hk1 : (P.take m).length = m := by rw [List.length_take]; omega
          have hk2 : (P.drop (m + 1)).length = Q.length - (m + 1) := by rw [List.length_drop]; omega
          have hbs : w5.heap.size ≤ (w5.alloc (.cells #[] 3)).drew.heap.size := hba.size
          have hn2 : ∀ w9, Below w5.heap.size w5 w9 → ∀ j u, (icells (P.drop (m + 1)))[j]? = some u → w9.cell? ((if cr = m + 1 then (⟨gr, 0, none⟩ : Addr) else ⟨gr, m + 1, none⟩).add j) = some u := fun w9 hb9 j u hj => by
            have hjl : j < Q.length - (m + 1) := by
              rcases Nat.lt_or_ge j (Q.length - (m + 1)) with h1 | h1
              · exact h1
              · rw [List.getElem?_eq_none (by rw [icells_len]; omega)] at hj; cases hj
            rw [if_neg (by omega)]
            have ha : (⟨gr, m + 1, none⟩ : Addr).add j = ⟨gr, m + 1 + j, none⟩ := by unfold Addr.add; split <;> simp_all
            rw [ha]
            refine hall _ hb9 (m + 1 + j) u ?_
            unfold icells at hj ⊢
            rw [List.map_drop, List.getElem?_drop] at hj
            exact hj
          go_region_law (first | (refine step_append_any rfl _ _ rfl w5.heap.size _ [] (by simp [Act.eval]) hown0 ⟨gr, 0, none⟩ m cr (P.take m) hk1 (by simp [Act.eval]) hn1 (by simp; omega) hbs ?_; intro v7 w7 ho7 hb7; have hbw7 := hba.trans hb7) | (refine step_append_any rfl _ _ rfl w5.heap.size _ ([] ++ P.take m) (by simp [Act.eval]) ho7 (if cr = m + 1 then (⟨gr, 0, none⟩ : Addr) else ⟨gr, m + 1, none⟩) (Q.length - (m + 1)) (cr - (m + 1)) (P.drop (m + 1)) hk2 (by simp [Act.eval]) (hn2 _ hbw7) (by simp; omega) (Nat.le_trans hbs hb7.size) ?_; intro v8 w8 ho8 hb8))
          all_goals
            have hbt := hbw7.trans hb8
            rw [List.nil_append] at ho8
            have HR8 := Lib.hid (own_mono ho8 HB5.out.size)
            have HO8 := Lib.hid (own_below HO5.out hbt)
            have HB8 := Lib.hid (HB5.out.trans (hbt.mono HB5.out.size))
            have hlenQ : (Q.take m ++ Q.drop (m + 1)).length = (P.take m ++ P.drop (m + 1)).length := by rw [← List.length_map (f := pl), HQS.out, HP.out]
            have HR9 : Hid (w8.ownsRow w.heap.size 3 1 v8 (Q.take m ++ Q.drop (m + 1)).length (icells ((Q.take m ++ Q.drop (m + 1)).map pl))) := Lib.hid (by
              rw [HQS.out, HP.out, hlenQ]
              exact HR8.out)
            obtain ⟨a6, c6, hv6⟩ := own_len HR9.out
            have hlen6 : (Q.take m ++ Q.drop (m + 1)).length = Q.length - 1 := by rw [List.length_append, List.length_take, List.length_drop]; omega
            rw [hlen6] at hv6
            have HSL6 : Hid (slen v8 = (Q.take m ++ Q.drop (m + 1)).length) := Lib.hid (by rw [hlen6, hv6]; rfl)
            have hms : slen v8 < Q.length := by rw [hv6]; show Q.length - 1 < Q.length; omega
            clear hlen6 hv6 hlenQ
            go_wp2_with fail
            all_goals
              go_roundw
              case rel => exact SortRel.mk HSEL2 HO8 HR9 HB8 HSL6
              case measure => exact hms
    · have hq0 : Q = [] := List.eq_nil_of_length_eq_zero (by omega)
      subst hq0
      obtain ⟨ar, cr, rfl⟩ := own_len HR.out
      have hfin := HSEL.out.fin
      have HFIN : Hid (rowAt l at' = ⟨kd, key, text, count⟩ :: (done.map S).flatten) := Lib.hid (by rw [HRES.out, hfin])
      clear hq hfin
      go_wp2_with fail
      go_ret
      refine ⟨⟨_, rfl, ?_⟩, HB.out⟩
      have hlen : (rowAt l at').length = 1 + (done.map S).flatten.length := by rw [HFIN.out, List.length_cons]; omega
      rw [hlen, HFIN.out]
      exact HO.out

theorem rsorted_any : ∀ f : Nat, SOR f := by
  intro f
  induction f using Nat.strongRecOn with
  | _ f ih =>
    match f with
    | 0 => intro l va at' deep m r w hrr; simp [rrow] at hrr
    | f + 1 => exact rsorted_step f (fun g hg => ih g (by omega))

def RsoR (JR : Bool) (JS : List V) (B : Nat) (e : Ending) (w' : World) : Prop := (JR = false ∧ e = .returned (.slice none 0 0)) ∨ (JR = true ∧ ∃ vo, e = .returned vo ∧ w'.ownsRow B 56 4 vo JS.length (vcells JS))
set_option maxHeartbeats 8000000 in
set_option maxRecDepth 1000000 in
/-- The reference's Sort. -/
theorem rSort_calls (va : Value) (l : List V) (w : World) (h : Vs w va l) (hf : Fits l) (hl : l.length ≤ 1000000) :
    Calls Tryz.prog 38 #[va] w fun e w' => RsoR (jright l) (jsort l) w.heap.size e w' ∧ Below w.heap.size w w' := by
  obtain ⟨a, c, hv⟩ := h.len
  obtain ⟨JR, hJR⟩ : ∃ JR, jright l = JR := ⟨_, rfl⟩
  obtain ⟨JS, hJS⟩ : ∃ JS, jsort l = JS := ⟨_, rfl⟩
  have HJS := Lib.hid hJS
  have HJR := Lib.hid hJR
  have HH := Lib.hid h
  have HF := Lib.hid hf
  rw [hJR, hJS]
  clear h hf hJR hJS
  subst hv
  go_enter Tryz.func38, Tryz.ntmps38
  go_wp2_with fail
  refine (rRight_calls _ l _ HH.out HF.out hl).mono ?_
  rintro e1 w1 ⟨rfl, hb1⟩
  rw [HJR.out]
  have B1 := Lib.hid hb1
  clear hb1
  cases JR with
  | false =>
    go_wp2_with fail
    go_ret
    exact ⟨.inl ⟨rfl, rfl⟩, B1.out⟩
  | true =>
    have hr := (right_row HJR.out).2
    have hne : 0 < l.length := by
      cases l with
      | nil => simp [rrow] at hr
      | cons x t => simp
    have hcall := fun w3 hv => rsorted_any _ l (.slice a l.length c) 0 0 false [] w3 hr hv HF.out hl hne
    have he : rowAt l 0 = JS := by rw [← HJS.out]; unfold rowAt jsort; rw [List.drop_zero]
    rw [he] at hcall
    have HC := Lib.hid hcall
    clear hr hcall he
    go_wp2_with fail
    refine (HC.out _ (HH.out.kept B1.out)).mono ?_
    rintro e2 w2 ⟨⟨vo, rfl, hown⟩, hb2⟩
    have B2 := Lib.hid (B1.out.trans (hb2.mono B1.out.size))
    have HO := Lib.hid (own_mono hown B1.out.size)
    clear hb2 hown
    go_wp2_with fail
    go_ret
    exact ⟨.inr ⟨rfl, _, rfl, HO.out⟩, B2.out⟩
end Go.Proofs.YtndkbecdjaedaaaGreatDoor
