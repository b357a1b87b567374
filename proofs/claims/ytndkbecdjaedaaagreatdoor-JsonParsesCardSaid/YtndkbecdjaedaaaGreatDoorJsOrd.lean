/- sorted's closure; slices.SortFunc over rows of values. -/
import Derived.Test.YtndkbecdjaedaaaGreatDoorShelf3
import Derived.Test.YtndkbecdjaedaaaGreatDoorJsCat
import Derived.Test.YtndkbecdjaedaaaGreatDoorJsPlain2
import Derived.BigQuiet
namespace Go.Proofs.YtndkbecdjaedaaaGreatDoor
open Go.RowKit Go.Shelf

theorem cmp_lt : ∀ a b : List UInt8, Lib.compareBytes a b < 0 ↔ a < b
  | [], [] => by simp [Lib.compareBytes]
  | [], _ :: _ => by simp [Lib.compareBytes]
  | _ :: _, [] => by simp [Lib.compareBytes]
  | x :: a, y :: b => by
    have ih := cmp_lt a b
    simp only [Lib.compareBytes]
    rw [List.cons_lt_cons_iff]
    by_cases h1 : x < y
    · simp [h1]
    · by_cases h2 : y < x
      · have h3 : ¬ x = y := fun e => by subst e; exact UInt8.lt_irrefl _ h2
        simp [h1, h2, h3]
      · have h3 : x = y := UInt8.le_antisymm (UInt8.not_lt.1 h2) (UInt8.not_lt.1 h1)
        subst h3
        simpa [UInt8.lt_irrefl] using ih

set_option maxHeartbeats 2000000 in
set_option maxRecDepth 100000 in
theorem closure_calls (ba oa na ca bb ob nb cb : Nat) (ka kb : List UInt8) (w : World) (h0a : 0 < na) (h0b : 0 < nb) (ha : w.cell? ⟨ba, oa + 1, none⟩ = some (.string ⟨ka.toArray⟩)) (hb : w.cell? ⟨bb, ob + 1, none⟩ = some (.string ⟨kb.toArray⟩)) :
    Calls Tryz.prog 124 #[.slice (some ⟨ba, oa, none⟩) na ca, .slice (some ⟨bb, ob, none⟩) nb cb] w fun e w' => e = .returned (.int .i64 (Lib.compareBytes ka kb)) ∧ ∃ q, w' = w.drewN q := by
  have h1 : (0 : Int) < (na : Int) := by omega
  have h2 : (0 : Int) < (nb : Int) := by omega
  have hcon := Tryz.strings_Compare ⟨ka.toArray⟩ ⟨kb.toArray⟩
  obtain ⟨r, hr⟩ : ∃ r, Lib.compareBytes (⟨ka.toArray⟩ : ByteArray).data.toList (⟨kb.toArray⟩ : ByteArray).data.toList = r := ⟨_, rfl⟩
  have hr2 : Lib.compareBytes ka kb = r := hr
  rw [hr] at hcon
  rw [hr2]
  clear hr hr2
  go_enter Tryz.func124, Tryz.ntmps124
  go_wp2_with fail
  go_quiet (first | (go_at_call 125; exact (hcon _).quiet_of_same))
  go_wp2_with fail
  go_ret
  exact ⟨rfl, _, rfl⟩
end Go.Proofs.YtndkbecdjaedaaaGreatDoor
/- slices.SortFunc over rows of values: the rows come as their names rise. -/
namespace Go.Proofs.YtndkbecdjaedaaaGreatDoor
open Go.RowKit Go.Shelf

/-- A row of values outside a block. -/
def Srg (g : Nat) (w : World) (v : Value) (l : List V) : Prop :=
  ∃ bk off cap, v = .slice (some ⟨bk, off, none⟩) l.length cap ∧ l ≠ [] ∧ bk < w.heap.size ∧ bk ≠ g ∧ ∀ j u, (vcells l)[j]? = some u → w.cell? ((⟨bk, off, none⟩ : Addr).add j) = some u
theorem Srg.src {g : Nat} {w : World} {v : Value} {l : List V} (h : Srg g w v l) : Src w v l := by
  obtain ⟨bk, off, cap, h1, h2, h3, _, h4⟩ := h
  exact ⟨bk, off, cap, h1, h2, h3, h4⟩
theorem Srg.kp {g : Nat} {w w' : World} {v : Value} {l : List V} (h : Srg g w v l) (hk : Kp [g] w w') : Srg g w' v l := by
  obtain ⟨bk, off, cap, h1, h2, h3, h5, h4⟩ := h
  refine ⟨bk, off, cap, h1, h2, Nat.lt_of_lt_of_le h3 hk.size, h5, fun j u hu => ?_⟩
  rw [hk.cell (p := (⟨bk, off, none⟩ : Addr).add j) (by unfold Addr.add; split <;> exact h3) (by unfold Addr.add; split <;> simpa using h5)]
  exact h4 j u hu

section
variable (ps : List (Value × List V))
def atP (i : Fin ps.length) : Value × List V := ps[i]
def encP (i : Fin ps.length) : Value := ps[i].1
def cfP (i j : Fin ps.length) : Int := Lib.compareBytes (headKey ps[i].2) (headKey ps[j].2)
theorem ltP (i j : Fin ps.length) : ltOf (cfP ps) i j = decide (headKey ps[i].2 < headKey ps[j].2) := by
  unfold ltOf cfP
  exact decide_eq_decide.2 (cmp_lt _ _)
theorem swoP : Sort.SWO (ltOf (cfP ps)) where
  irrefl x := by rw [ltP]; simp [List.lt_irrefl]
  trans x y z h1 h2 := by
    rw [ltP] at *
    simp only [decide_eq_true_eq] at *
    exact List.lt_trans h1 h2
  ntrans x y z h1 h2 := by
    rw [ltP] at *
    simp only [decide_eq_false_iff_not, List.not_lt] at *
    exact List.le_trans h2 h1
end

theorem sort_heap {α : Type} [Inhabited α] (enc : α → Value) (w : World) (g m : Nat) (d : Array α) (os : Array Obj) (hg : g < w.heap.size) :
    (∀ k, k < w.heap.size → k ≠ g → (sortWorld enc w g 0 m d os).heap[k]? = w.heap[k]?) ∧ (∀ c e fr, w.heap[g]? = some (.cells c e fr) → (sortWorld enc w g 0 m d os).heap[g]? = some (.cells (Sort.putCells enc 0 d c) e fr)) := by
  unfold sortWorld
  refine ⟨fun k hk hn => ?_, fun c e fr hc => ?_⟩
  · rw [Sort.heap_grow_old _ _ (by simpa using hk)]
    unfold Sort.putRow Sort.mapBlock
    simp only [Array.getElem?_modify]
    rw [if_neg (Ne.symm hn)]
    rfl
  · rw [Sort.heap_grow_old _ _ (by simpa using hg)]
    unfold Sort.putRow Sort.mapBlock
    simp only [Array.getElem?_modify, if_true]
    have : (Sort.ahead w m).heap[g]? = some (.cells c e fr) := hc
    rw [this]
    rfl

theorem perm_arr {α : Type} [Inhabited α] {d d' : Array α} {n : Nat} (hn : d.size = n) (h : Sort.PermIn 0 n d d') : d'.toList.Perm d.toList ∧ d'.size = d.size := by
  subst hn
  obtain ⟨h1, _, h3⟩ := h
  refine ⟨?_, h1⟩
  have e1 : d.extract 0 d.size = d := by simp
  have e2 : d'.extract 0 d.size = d' := by rw [← h1]; simp
  rw [e1, e2] at h3
  exact h3

theorem fin_map (ps : List (Value × List V)) : (List.finRange ps.length).map (atP ps) = ps := by
  apply List.ext_getElem
  · simp
  · intro i h1 h2
    simp [atP]

set_option maxHeartbeats 2000000 in
theorem sortf_calls (ps : List (Value × List V)) (g cap base : Nat) (w : World) (h0 : ps ≠ []) (hl : ps.length ≤ 1000000000) (hown : w.ownsRow base 35 1 (.slice (some ⟨g, 0, none⟩) ps.length cap) ps.length (ps.map Prod.fst))
    (hs : ∀ p ∈ ps, Srg g w p.1 p.2) (hd : dist (ps.map Prod.snd)) :
    Calls Tryz.prog 123 #[.slice (some ⟨g, 0, none⟩) ps.length cap, .func (.func 124) #[] #[]] w fun e w' => e = .returned (.tuple #[]) ∧
      ∃ ps' : List (Value × List V), ps'.map Prod.snd = isort (ps.map Prod.snd) ∧ ps'.Perm ps ∧ w'.ownsRow base 35 1 (.slice (some ⟨g, 0, none⟩) ps.length cap) ps.length (ps'.map Prod.fst) ∧ Kp [g] w w' := by
  have hpos : 0 < ps.length := by cases ps with | nil => exact absurd rfl h0 | cons _ _ => simp
  haveI : Inhabited (Fin ps.length) := ⟨⟨0, hpos⟩⟩
  obtain ⟨d, hdd⟩ : ∃ d : Array (Fin ps.length), d = (List.finRange ps.length).toArray := ⟨_, rfl⟩
  have hds : d.size = ps.length := by rw [hdd]; simp
  have hdi : ∀ j (hj : j < ps.length), d[j]! = ⟨j, hj⟩ := fun j hj => by
    rw [getElem!_pos d j (by omega)]
    subst hdd
    simp
  obtain ⟨g', cap', cur, hv, hbg, hg, hnc, hcm, hcs, htake⟩ : ∃ g' cap' cur, (Value.slice (some ⟨g, 0, none⟩) ps.length cap) = .slice (some ⟨g', 0, none⟩) ps.length cap' ∧ base ≤ g' ∧ w.heap[g']? = some (.cells cur 35 (0, 0)) ∧ ps.length ≤ cap' ∧ cap' ≤ maxLen ∧ cur.size = cap' * 1 ∧ cur.toList.take (ps.length * 1) = ps.map Prod.fst := by
    rcases hown.2 with ⟨_, hz⟩ | h
    · omega
    · exact h
  simp only [Value.slice.injEq, Option.some.injEq, Addr.mk.injEq, and_true, true_and] at hv
  obtain ⟨rfl, rfl⟩ := hv
  have hglt := lt_of_block hg
  have hH : Sort.Holds (encP ps) w g 0 d := fun j hj => by
    rw [hds] at hj
    rw [hdi j hj, Nat.zero_add]
    refine ⟨?_, hown.frozenAt j⟩
    rw [hown.cellAt j (by omega)]
    unfold encP
    simp [hj]
  have hread : CmpReads Tryz.prog 124 #[] (encP ps) (cfP ps) g 0 d.size w := by
    intro m os dk hdk x y
    obtain ⟨ba, oa, ca, hva, hna, hla, hga, hca⟩ := hs ps[x] (List.getElem_mem _)
    obtain ⟨bb, ob, cb, hvb, hnb, hlb, hgb, hcb⟩ := hs ps[y] (List.getElem_mem _)
    have far : ∀ (bk off cp : Nat) (l : List V), l ≠ [] → bk < w.heap.size → bk ≠ g → (∀ j u, (vcells l)[j]? = some u → w.cell? ((⟨bk, off, none⟩ : Addr).add j) = some u) → (sortWorld (encP ps) w g 0 m dk os).cell? ⟨bk, off + 1, none⟩ = some (.string ⟨(headKey l).toArray⟩) := by
      intro bk off cp l hne hlt hg' hcell
      rw [World.cell?_of_block (w := w) (a := ⟨bk, off + 1, none⟩) ((sort_heap (encP ps) w g m dk os hglt).1 bk hlt hg')]
      cases l with
      | nil => exact absurd rfl hne
      | cons v t =>
        have := hcell 1 (.string ⟨v.key.toArray⟩) rfl
        exact this
    show Calls Tryz.prog 124 (#[encP ps x, encP ps y] ++ #[]) _ _
    have hex : encP ps x = .slice (some ⟨ba, oa, none⟩) ps[x].2.length ca := hva
    have hey : encP ps y = .slice (some ⟨bb, ob, none⟩) ps[y].2.length cb := hvb
    rw [hex, hey]
    exact closure_calls ba oa ps[x].2.length ca bb ob ps[y].2.length cb (headKey ps[x].2) (headKey ps[y].2) _ (List.length_pos_iff.2 hna) (List.length_pos_iff.2 hnb) (far ba oa ca _ hna hla hga hca) (far bb ob cb _ hnb hlb hgb hcb)
  have eg : ∀ args w, (callFunc 124 args).run Tryz.prog w = .ok (.enter 124 args) w := enters_of Tryz.func124 (by kernel_rfl) rfl
  have hone : ∀ x : Fin ps.length, (encP ps x).oneCell' = true := fun x => by
    obtain ⟨b, o, c, hv, _⟩ := hs ps[x] (List.getElem_mem _)
    show (ps[x].1).oneCell' = true
    rw [hv]; rfl
  have hcon := Any.slices_SortFunc Tryz.laysSort (encP ps) hone (cfP ps) (swoP ps) 124 #[] g 0 cap d w eg hread.lays hH hglt (by omega)
  change Calls Tryz.prog 123 _ _ _ at hcon
  rw [hds] at hcon
  refine hcon.mono ?_
  rintro e w' ⟨rfl, d', n, os, hp, hso, rfl⟩
  obtain ⟨hperm, hsz⟩ := perm_arr hds hp
  have hpl : (d'.toList.map (atP ps)).Perm ps := by
    have := hperm.map (atP ps)
    rw [hdd] at this
    simp only [] at this
    rw [fin_map] at this
    exact this
  have hr : rises ((d'.toList.map (atP ps)).map Prod.snd) := by
    have hdist : dist ((d'.toList.map (atP ps)).map Prod.snd) := dist_perm (hpl.map Prod.snd).symm hd
    unfold rises
    unfold dist at hdist
    rw [List.pairwise_iff_getElem] at hdist ⊢
    intro i j hi hj hij
    have hne := hdist i j hi hj hij
    simp only [List.getElem_map, List.length_map, Array.length_toList] at hne hi hj ⊢
    have h1 := hso i j (Nat.zero_le _) hij (by omega)
    rw [getElem!_pos d' j (by omega), getElem!_pos d' i (by omega), ltP] at h1
    simp only [decide_eq_false_iff_not, List.not_lt] at h1
    rcases List.le_iff_lt_or_eq.1 h1 with h | h
    · exact h
    · exact absurd h hne
  refine ⟨rfl, d'.toList.map (atP ps), (isort_any (hpl.map Prod.snd) hr).symm, hpl, ?_, ?_⟩
  · refine ⟨by simp [hsz, hds], .inr ⟨g, cap, _, rfl, hbg, (sort_heap (encP ps) w g n d' os hglt).2 _ _ _ hg, hnc, hcm, by simp [Sort.putCells, hcs], ?_⟩⟩
    apply List.ext_getElem
    · simp [Sort.putCells, hsz, hds, hcs, hnc]
    · intro i h1 h2
      have hi : i < d'.size := by simpa using h2
      simp [Sort.putCells, hi, encP, atP]
  · exact ⟨rfl, rfl, rfl, by unfold sortWorld; simp, fun k hk hn => (sort_heap (encP ps) w g n d' os hglt).1 k hk (by simpa using hn)⟩
end Go.Proofs.YtndkbecdjaedaaaGreatDoor
