/- json.sorted. -/
import Derived.Test.YtndkbecdjaedaaaGreatDoorJsOrd
namespace Go.Proofs.YtndkbecdjaedaaaGreatDoor
open Go.RowKit

theorem infoSl : (Tryz.prog.info? 35).map (fun i => (i.zero, i.size, i.bytes)) = some (some (.slice none 0 0), 1, 24) := by kernel_rfl

theorem own_mono {w : World} {base base' : Nat} {e : TypeId} {size : Nat} {v : Value} {n : Nat} {xs : List Value} (h : w.ownsRow base' e size v n xs) (hb : base ≤ base') : w.ownsRow base e size v n xs := by
  refine ⟨h.1, ?_⟩
  rcases h.2 with h2 | ⟨g, cap, cur, hv, hb', r⟩
  · exact .inl h2
  · exact .inr ⟨g, cap, cur, hv, by omega, r⟩

/-- The kids' rows in memory. -/
def KidsIn (base : Nat) (w : World) (ps : List (Value × List V)) : Prop := ∀ p ∈ ps, w.ownsRow base 56 4 p.1 p.2.length (vcells p.2) ∧ p.2 ≠ []
theorem KidsIn.kept {base : Nat} {w w' : World} {ps : List (Value × List V)} {S : List Nat} (h : KidsIn base w ps) (hk : Kp S w w') (hS : ∀ k ∈ S, ∃ c fz, w.heap[k]? = some (.cells c 35 fz)) : KidsIn base w' ps := fun p hp =>
  ⟨own_kept (h p hp).1 hk (fun k hkk hm => by
    obtain ⟨c, fz, hc⟩ := hS k hm
    rcases (h p hp).1.2 with ⟨hv, _⟩ | ⟨g, cap, cur, hv, _, hg, _⟩
    · rw [hv] at hkk; simp [Value.ownBlock] at hkk
    · rw [hv] at hkk
      have : g = k := by simpa [Value.ownBlock] using hkk
      subst this
      rw [hg] at hc
      injection hc with hc
      injection hc with _ h2 _
      exact absurd h2 (by decide)), (h p hp).2⟩
theorem KidsIn.srg {base g : Nat} {w : World} {ps : List (Value × List V)} (h : KidsIn base w ps) (hg : ∃ c fz, w.heap[g]? = some (.cells c 35 fz)) : ∀ p ∈ ps, Srg g w p.1 p.2 := fun p hp => by
  obtain ⟨h1, hne⟩ := h p hp
  have hpos : 0 < p.2.length := List.length_pos_iff.2 hne
  obtain ⟨gk, cap, hv, _, hlt⟩ := h1.form hpos
  refine ⟨gk, 0, cap, hv, hne, hlt, fun e => ?_, fun j u hu => h1.cells (g := gk) (by rw [hv]; rfl) j u hu⟩
  subst e
  obtain ⟨c, fz, hc⟩ := hg
  rcases h1.2 with ⟨hv', _⟩ | ⟨g', cap', cur, hv', _, hg', _⟩
  · rw [hv] at hv'; cases hv'
  · rw [hv] at hv'
    simp only [Value.slice.injEq, Option.some.injEq, Addr.mk.injEq, and_true, true_and] at hv'
    obtain ⟨rfl, _⟩ := hv'
    rw [hg'] at hc
    injection hc with hc
    injection hc with _ h2 _
    exact absurd h2 (by decide)
theorem KidsIn.src {base : Nat} {w : World} {ps : List (Value × List V)} (h : KidsIn base w ps) : ∀ p ∈ ps, Src w p.1 p.2 := fun p hp => by
  obtain ⟨h1, hne⟩ := h p hp
  have hpos : 0 < p.2.length := List.length_pos_iff.2 hne
  obtain ⟨gk, cap, hv, _, hlt⟩ := h1.form hpos
  exact ⟨gk, 0, cap, hv, hne, hlt, fun j u hu => h1.cells (g := gk) (by rw [hv]; rfl) j u hu⟩
theorem own_kind {w : World} {B n : Nat} {e : TypeId} {v : Value} {size : Nat} {xs : List Value} (h : w.ownsRow B e size v n xs) : ∀ g ∈ v.ownBlock.toList, ∃ c fz, w.heap[g]? = some (.cells c e fz) := by
  intro g hg
  rcases h.2 with ⟨rfl, _⟩ | ⟨g', cap, cur, rfl, _, hgg, _⟩
  · simp [Value.ownBlock] at hg
  · have : g = g' := by simpa [Value.ownBlock] using hg
    subst this
    exact ⟨_, _, hgg⟩

theorem Vl.drop {b bk off cap : Nat} {w : World} {l pre l1 : List V} (h : Vl b w (.slice (some ⟨bk, off, none⟩) l.length cap) l) (e : l = pre ++ l1) (hne : l1 ≠ []) :
    Vl b w (.slice (if cap = pre.length then some ⟨bk, off, none⟩ else some ⟨bk, off + pre.length * 4, none⟩) (l.length - pre.length) (cap - pre.length)) l1 := by
  have hpos : 0 < l1.length := List.length_pos_iff.2 hne
  have hl : l.length = pre.length + l1.length := by rw [e, List.length_append]
  rcases h with ⟨h, _⟩ | ⟨bk', off', cap', hv, hcp, hlt, hc⟩
  · rw [h] at hl; simp at hl; omega
  · simp only [Value.slice.injEq, Option.some.injEq, Addr.mk.injEq, and_true, true_and] at hv
    obtain ⟨⟨rfl, rfl⟩, rfl⟩ := hv
    rw [if_neg (by omega)]
    refine .inr ⟨bk, off + pre.length * 4, cap - pre.length, by rw [show l.length - pre.length = l1.length by omega], by omega, hlt, fun i hi j hj => ?_⟩
    have := hc (pre.length + i) (by omega) j hj
    rw [show off + pre.length * 4 + i * 4 + j = off + (pre.length + i) * 4 + j by omega, this]
    congr 2
    subst e
    rw [List.getElem_append_right (by omega)]
    congr 1
    omega
theorem drop_run (bk off n cap k : Nat) (hk : k ≤ n) : ∀ w, (Instr.slice 35 (.slice (some ⟨bk, off, none⟩) n cap) (some (.int .i64 (k : Int))) none none).run Tryz.prog w = .ok (.slice (if cap = k then some ⟨bk, off, none⟩ else some ⟨bk, off + k * 4, none⟩) (n - k) (cap - k)) w := by
  intro w
  rw [run_slice_l (P := Tryz.prog) w 35 (some ⟨bk, off, none⟩) n cap (by kernel_rfl) .i64 k (by omega) (by omega), sizeV]
  simp only [Result.andThen, sliced, Int.toNat_natCast]
  congr 2
  by_cases h : cap = k <;> simp [h, Addr.add]
theorem first_run (bk off n cap : Nat) (h1 : 1 ≤ cap) : ∀ w, (Instr.slice 35 (.slice (some ⟨bk, off, none⟩) n cap) none (some (.int .i64 1)) none).run Tryz.prog w = .ok (.slice (some ⟨bk, off, none⟩) 1 cap) w := by
  intro w
  rw [run_slice_h (P := Tryz.prog) w 35 (some ⟨bk, off, none⟩) n cap (by kernel_rfl) .i64 1 (by omega) (by omega), sizeV]
  simp only [Result.andThen, sliced]
  rw [if_neg (by omega)]
  simp [Addr.add]

/-- What sorted hands back. -/
def SortR (l r : List V) (w : World) (e : Ending) (w' : World) : Prop :=
  ∃ vo row, (∀ g, 2 * row.length ≤ g + 1 → srow g l = (row, r)) ∧ row.length + r.length = l.length ∧ row ≠ [] ∧ e = .returned (.tuple #[vo, .int .i64 (row.length : Int)]) ∧ w'.ownsRow w.heap.size 56 4 vo row.length (vcells row)
def SO (f : Nat) : Prop := ∀ (l : List V) (deep : Nat) (m : Bool) (r : List V) (v : Value) (w : World), rrow f l deep m = some r → Vl w.heap.size w v l → l.length ≤ 1000000 → (∀ x ∈ l, x.count ≤ 9223372036854775807) →
  Calls Tryz.prog 70 #[v] w fun e w' => SortR l r w e w' ∧ Below w.heap.size w w'

/-- What the kids so far come to. -/
structure Acc (w : World) (bk off cap : Nat) (x : V) (t : List V) (cn : Nat) (f deep : Nat) (o : Bool) (r : List V) (i : Nat) (ps : List (Value × List V)) (l1 : List V) (f1 : Nat) (kv : Value) (wr : World) : Prop where
  split : ∃ pre, x :: t = pre ++ l1 ∧ pre.length = 1 + (flat ps).length
  n : ps.length = i
  kids : KidsIn w.heap.size wr ps
  own : wr.ownsRow w.heap.size 35 1 kv ps.length (ps.map Prod.fst)
  nil0 : ps = [] → kv = .slice none 0 0
  bel : Below w.heap.size w wr
  fuel : f1 + i = f
  more : ∃ names, rkids f1 (cn - i) l1 deep o names = some r
  sk : ∀ g, 2 * t.length ≤ g → skids g cn t = (ps.map Prod.snd ++ (skids (g - i) (cn - i) l1).1, (skids (g - i) (cn - i) l1).2)
  cnt : i ≤ (flat ps).length

theorem flat_snoc (ps : List (Value × List V)) (v : Value) (row : List V) : flat (ps ++ [(v, row)]) = flat ps ++ row := by
  rw [flat_append]
  congr 1
  simp [flat]
theorem Acc.step {w wr w1 w3 : World} {bk off cap cn f deep i f2 : Nat} {x : V} {t l1 r r1 row : List V} {o : Bool} {ps : List (Value × List V)} {kv kv3 vo : Value} {ob : Obj}
    (h : Acc w bk off cap x t cn f deep o r i ps l1 (f2 + 1) kv wr) (hlt : i < cn) (hr : rrow f2 l1 deep o = some r1) (hm : ∃ names, rkids f2 (cn - (i + 1)) r1 deep o names = some r)
    (hsr : ∀ g, 2 * row.length ≤ g + 1 → srow g l1 = (row, r1)) (hrl : row.length + r1.length = l1.length) (hrne : row ≠ []) (hro : w1.ownsRow wr.heap.size 56 4 vo row.length (vcells row))
    (hb1 : Below wr.heap.size wr w1) (hown3 : w3.ownsRow w.heap.size 35 1 kv3 (ps.length + 1) (ps.map Prod.fst ++ [vo])) (hgr : (w1.alloc ob).grownBy w3 kv.ownBlock) :
    Acc w bk off cap x t cn f deep o r (i + 1) (ps ++ [(vo, row)]) r1 f2 kv3 w3 := by
  have hpos : 0 < row.length := List.length_pos_iff.2 hrne
  obtain ⟨pre, hpre, hpl⟩ := h.split
  have hlen := congrArg List.length hpre
  rw [List.length_cons, List.length_append] at hlen
  obtain ⟨vs, hvs, _⟩ := (both_back f2).1 _ _ _ _ hr
  have hvl : vs.length = row.length := by
    have := congrArg List.length hvs
    rw [List.length_append] at this
    omega
  have hic := h.cnt
  have hk1 : Kp kv.ownBlock.toList w1 w3 := ((Kp.refl _ w1).alloc ob).grown hgr (fun k hk => .inl (by simp [hk]))
  have hsz := h.bel.size
  refine ⟨⟨pre ++ vs, by rw [hpre, hvs, List.append_assoc], by rw [List.length_append, flat_snoc, List.length_append]; omega⟩, by simp [h.n], ?_, ?_, fun e => absurd e (by simp), ?_, by have := h.fuel; omega, hm, ?_, by rw [flat_snoc, List.length_append]; omega⟩
  · have hown1 := own_kept h.own (S := []) (Kp.of_below hb1) (by simp)
    intro p hp
    have hS := own_kind hown1
    have key : KidsIn w.heap.size w1 (ps ++ [(vo, row)]) := by
      intro p hp
      rcases List.mem_append.1 hp with hp | hp
      · exact (h.kids.kept (S := []) (Kp.of_below hb1) (by simp)) p hp
      · rcases List.mem_singleton.1 hp with rfl
        exact ⟨own_mono hro hsz, hrne⟩
    exact (key.kept hk1 hS) p hp
  · have : (ps ++ [(vo, row)]).length = ps.length + 1 := by simp
    rw [this, List.map_append]
    exact hown3
  · refine (h.bel.trans (hb1.mono hsz)).trans (hk1.below (fun k hk => ?_) (Nat.le_trans hsz hb1.size))
    exact (h.own.lt k (by simpa using hk)).1
  · intro g hg
    rw [h.sk g hg]
    obtain ⟨m, hm'⟩ : ∃ m, cn - i = m + 1 := ⟨cn - i - 1, by omega⟩
    obtain ⟨g', hg'⟩ : ∃ g', g - i = g' + 1 := ⟨g - i - 1, by omega⟩
    rw [hm', hg', show g - (i + 1) = g' by omega, show cn - (i + 1) = m by omega]
    simp only [skids]
    rw [hsr g' (by omega)]
    simp

theorem flat_many : ∀ ps : List (Value × List V), (∀ p ∈ ps, p.2 ≠ []) → ps.length ≤ (flat ps).length
  | [], _ => Nat.zero_le _
  | p :: ps, h => by
    have ih := flat_many ps (fun q hq => h q (List.mem_cons_of_mem _ hq))
    have hp : 0 < p.2.length := List.length_pos_iff.2 (h p (List.mem_cons_self ..))
    have e : flat (p :: ps) = p.2 ++ flat ps := by simp [flat]
    rw [e, List.length_append, List.length_cons]
    omega
theorem concat_own (ps : List (Value × List V)) (v : Value) (base : Nat) (w : World) (hown : w.ownsRow base 35 1 v ps.length (ps.map Prod.fst)) (hs : ∀ p ∈ ps, Src w p.1 p.2) (hne : ps ≠ []) (hn : (flat ps).length ≤ 1000000000) :
    Calls Tryz.prog 126 #[v] w fun e w' => (∃ v, e = .returned v ∧ w'.ownsRow w.heap.size 56 4 v (flat ps).length (vcells (flat ps))) ∧ Below w.heap.size w w' := by
  have hpos : 0 < ps.length := List.length_pos_iff.2 hne
  have hmany := flat_many ps (fun p hp => by obtain ⟨_, _, _, _, h, _⟩ := hs p hp; exact h)
  obtain ⟨g, cap, rfl, _, hlt⟩ := hown.form hpos
  exact concat_calls ps g 0 cap w (fun i hi => by rw [Nat.zero_add, hown.cellAt i (by omega)]; simp [hi]) hlt (fun i hi => hs _ (List.getElem_mem _)) (by omega) hn (by omega)
theorem wpList_append_none {w : World} {ops : Array Oper} {rest : List Oper} {o : Oper} {a : Act} {Q : Exit → Act → World → Prop} (hgd : o.guard = none) (s x : Operand)
    (ho : o.op = .call { callee := .builtin .append, args := #[s, x], argTypes := #[38, 38] }) (v : Value) (n base : Nat) (xs : List Value) (hs : a.eval s = v) (hx : a.eval x = .slice none 0 0)
    (hown : w.ownsRow base 35 1 v n xs) (h : wpList Tryz.prog ops Q rest (a.put o.dst v) w) : wpList Tryz.prog ops Q (o :: rest) a w :=
  wpList_plain hgd fun K hK => by
    obtain ⟨i0, hi0, hz0, hz1, hz2⟩ := info_parts infoSl
    have happ := run_append_owned_none (P := Tryz.prog) w base 38 o.type 35 i0 1 Tryz.underlying38 hi0 v n xs hown
    unfold Oper.wp execOp
    simp only [ho, resolve, invoke, builtin, Sem.run_bind, Sem.run_pure, Result.andThen_ok, List.map_toArray, List.map_cons, List.map_nil, hs, hx, happ]
    exact hK _ _ h

set_option maxHeartbeats 8000000 in
set_option maxRecDepth 1000000 in
theorem sorted_step (f : Nat) (hS : ∀ g, g < f + 1 → SO g) : SO (f + 1) := by
  intro l deep m r v w hr hL hlen hcnt
  cases l with
  | nil => simp [rrow] at hr
  | cons x t =>
  obtain ⟨hown, hkids⟩ := jrow_kind hr
  have hRS := (all_sort (f + 1)).1 _ _ _ _ hr
  obtain ⟨kd, key, text, count⟩ := x
  obtain ⟨bk, off, cap, hv, hcp, hbk, hc⟩ : ∃ bk off cap, v = .slice (some ⟨bk, off, none⟩) (t.length + 1) cap ∧ t.length + 1 ≤ cap ∧ bk < w.heap.size ∧ ∀ i (hi : i < t.length + 1) j, j < 4 → w.cell? ⟨bk, off + i * 4 + j, none⟩ = (vcell (((⟨kd, key, text, count⟩ : V) :: t)[i]'(by simpa using hi)))[j]? := by
    rcases hL with ⟨h, _⟩ | ⟨bk, off, cap, hv, hcp, hbk, hc⟩
    · cases h
    · exact ⟨bk, off, cap, hv, hcp, hbk, hc⟩
  subst hv
  have hkinds := word_own hown
  have hc0 : 0 ≤ count := by omega
  have hcm : count ≤ 9223372036854775807 := hcnt _ (List.mem_cons_self ..)
  obtain ⟨cn, rfl⟩ : ∃ cn : Nat, count = (cn : Int) := ⟨count.toNat, by omega⟩
  simp only [Int.toNat_natCast] at hkids
  obtain ⟨k0, k1, k2, k3⟩ := load4 (i := 0) (x := ⟨kd, key, text, (cn : Int)⟩) (hc 0 (by omega))
  simp only [Nat.zero_mul, Nat.add_zero] at k0 k1 k2 k3
  obtain ⟨i0, hi0, hz0, hz1, hz2⟩ := info_parts infoSl
  have hi1 : (0 : Int) < (t.length : Int) + 1 := by omega
  simp only [List.length_cons] at hlen
  have A0 : Hid (Acc w bk off cap ⟨kd, key, text, (cn : Int)⟩ t cn f (deep + 1) (kd == 6) r 0 [] t f (.slice none 0 0) w) :=
    Lib.hid ⟨⟨[_], rfl, rfl⟩, rfl, fun _ h => absurd h (by simp), World.ownsRow_nil _ _ _ _, fun _ => rfl, Below.refl _ _, rfl, ⟨[], hkids⟩, fun g _ => by simp, Nat.zero_le _⟩
  have HL := Lib.hid hL
  have HCNT := Lib.hid hcnt
  have HKS := Lib.hid hkids
  have HRS := Lib.hid hRS
  clear hL hr hown hkids hcnt hc hkinds hc0 hRS
  go_enter Tryz.func70, Tryz.ntmps70
  go_wp2_with fail
  go_loopw [4, 5, 12] (fun v4 v5 v12 wr => ∃ (i : Nat) (ps : List (Value × List V)) (l1 : List V) (f1 N : Nat), v12 = .int .i64 (i : Int) ∧ i ≤ cn ∧ v5 = .int .i64 (N : Int) ∧ Hid (N = 1 + (flat ps).length) ∧ Hid (Acc w bk off cap ⟨kd, key, text, (cn : Int)⟩ t cn f (deep + 1) (kd == 6) r i ps l1 f1 v4 wr)) (fun _ _ v12 _ => cn - (intOf v12).toNat)
  case atStart => exact ⟨0, [], t, f, 1, rfl, Nat.zero_le _, rfl, Lib.hid rfl, A0⟩
  case round =>
    obtain ⟨i, ps, l1, f1, N, rfl, hi, rfl, HN, HA⟩ := hrel
    by_cases hlt : i < cn
    · obtain ⟨m, hm⟩ : ∃ m, cn - i = m + 1 := ⟨cn - i - 1, by omega⟩
      obtain ⟨names, hrk⟩ := HA.out.more
      rw [hm] at hrk
      cases f1 with
      | zero => simp [rkids] at hrk
      | succ f2 =>
      cases l1 with
      | nil => simp [rkids] at hrk
      | cons y t1 =>
      simp only [rkids] at hrk
      by_cases hdup : ((kd == 6) && names.contains y.key) = true
      · rw [if_pos hdup] at hrk; cases hrk
      rw [if_neg hdup] at hrk
      cases hrr : rrow f2 (y :: t1) (deep + 1) (kd == 6) with
      | none => rw [hrr] at hrk; cases hrk
      | some r1 =>
      rw [hrr] at hrk
      simp only [] at hrk
      have hmore : ∃ names, rkids f2 (cn - (i + 1)) r1 (deep + 1) (kd == 6) names = some r := ⟨_, by rw [show cn - (i + 1) = m by omega]; exact hrk⟩
      obtain ⟨pre, hpre, hpl⟩ := HA.out.split
      have hN := HN.out
      rw [← hpl] at hN
      have hlens := congrArg List.length hpre
      simp only [List.length_cons, List.length_append] at hlens
      have hrun := drop_run bk off (t.length + 1) cap N (by omega)
      have hVl := (HL.out.kept HA.out.bel).drop (l1 := y :: t1) (by exact hpre) (by simp)
      rw [← hN] at hVl
      obtain ⟨kv1, hkv1⟩ : ∃ kv1, Value.slice (if cap = N then some ⟨bk, off, none⟩ else some ⟨bk, off + N * 4, none⟩) (t.length + 1 - N) (cap - N) = kv1 := ⟨_, rfl⟩
      rw [hkv1] at hrun
      have hVl1 : Vl wr.heap.size wr kv1 (y :: t1) := by rw [← hkv1]; exact hVl.mono HA.out.bel.size
      have hcnt1 : ∀ z ∈ y :: t1, z.count ≤ 9223372036854775807 := fun z hz => HCNT.out z (by rw [hpre]; exact List.mem_append_right _ hz)
      have hN2 : (0 : Int) ≤ (N : Int) ∧ (N : Int) ≤ (t.length : Int) + 1 := ⟨by omega, by omega⟩
      have hf2 : f2 < f + 1 := by have := HA.out.fuel; omega
      have HRR := Lib.hid hrr
      have HMORE := Lib.hid hmore
      have HVL1 := Lib.hid hVl1
      have HCNT1 := Lib.hid hcnt1
      have hll : (y :: t1).length ≤ 1000000 := by simp only [List.length_cons]; omega
      have hflat : (flat ps).length + 1 ≤ t.length := by omega
      clear hrk hrr hmore hVl hVl1 hcnt1 hkv1 hpre hdup hlens hpl hN
      go_wp2_with fail
      refine (hS f2 hf2 (y :: t1) (deep + 1) (kd == 6) r1 kv1 _ HRR.out HVL1.out hll HCNT1.out).mono ?_
      rintro e1 w1 ⟨⟨vo, row, hsr, hrl, hrne, rfl, hro⟩, hb1⟩
      obtain ⟨gk, ck, rfl, _, _⟩ := hro.form (List.length_pos_iff.2 hrne)
      have HSR := Lib.hid hsr
      have HRL := Lib.hid hrl
      have HRN := Lib.hid hrne
      have HRO := Lib.hid hro
      have HB1 := Lib.hid hb1
      have hrlen : row.length ≤ 1000000 := by omega
      have hkown : (w1.alloc (.cells #[.slice (some ⟨gk, 0, none⟩) row.length ck] 35)).ownsRow w.heap.size 35 1 u4 ps.length (ps.map Prod.fst) :=
        (own_kept HA.out.own (S := []) (Kp.of_below hb1) (by simp)).alloc _
      have hnews : ∀ j u, [Value.slice (some ⟨gk, 0, none⟩) row.length ck][j]? = some u → (w1.alloc (.cells #[.slice (some ⟨gk, 0, none⟩) row.length ck] 35)).cell? ((⟨w1.heap.size, 0, none⟩ : Addr).add j) = some u :=
        World.news_of_block (heap_alloc_new w1 _)
      have hone : ∀ u ∈ [Value.slice (some ⟨gk, 0, none⟩) row.length ck], u.oneCell' = true := fun u hu => by
        rcases List.mem_singleton.1 hu with rfl; rfl
      have hpn := HA.out.n
      have hm1 : ps.length + 1 ≤ maxLen := by have := HA.out.cnt; unfold maxLen; omega
      have hm2 : (ps.length + 1) * 24 ≤ 140737488355328 := by have := HA.out.cnt; omega
      have hbase : w.heap.size ≤ (w1.alloc (.cells #[.slice (some ⟨gk, 0, none⟩) row.length ck] 35)).heap.size := by
        have := HA.out.bel.size; have := hb1.size; simp; omega
      clear hsr hrl hrne hro hb1 hpn
      go_wp2_with (at_builtin; refine wpList_append_own _ rfl _ _ 38 rfl w.heap.size 35 i0 _ 1 24 Tryz.underlying38 hi0 hz0 hz1 hz2 rfl (by decide) _ _ _ rfl hkown ⟨w1.heap.size, 0, none⟩ 1 1 _ rfl rfl hnews hone hm1 hm2 hbase ?_; intro v3 w3 hown3 hgr3 _)
      have HA3 := Lib.hid (HA.out.step hlt HRR.out HMORE.out HSR.out HRL.out HRN.out HRO.out HB1.out hown3 hgr3)
      have HN3 : Hid (N + row.length = 1 + (flat (ps ++ [((Value.slice (some ⟨gk, 0, none⟩) row.length ck), row)])).length) := Lib.hid (by
        rw [flat_snoc, List.length_append, HN.out]; omega)
      clear hown3 hgr3 hkown hnews hone hm1 hm2 hbase hN2 hrun
      go_wp2_with fail
      go_roundw
      case rel => exact ⟨i + 1, _, r1, f2, N + row.length, by go_num, by omega, by go_num, HN3, HA3⟩
      case measure => simp [intOf]; omega
    · have hie : i = cn := by omega
      subst hie
      obtain ⟨rows, hrl, _, hrn, hrfl, hrsk⟩ := (all_sort f).2 _ _ _ _ _ _ HKS.out
      have hsk := HA.out.sk (2 * t.length) (Nat.le_refl _)
      rw [Nat.sub_self, skids_zero, hrsk _ (by omega), List.append_nil] at hsk
      have hrows : ps.map Prod.snd = rows := (congrArg Prod.fst hsk).symm
      have hdist : (kd == 6) = true → dist (ps.map Prod.snd) := fun h => by rw [hrows]; exact (hrn h).1
      obtain ⟨rows', hrows'⟩ : ∃ rows', (if kd = 6 then isort (ps.map Prod.snd) else ps.map Prod.snd) = rows' := ⟨_, rfl⟩
      have hres : ∃ row, row = (⟨kd, key, text, (i : Int)⟩ : V) :: rows'.flatten ∧ (∀ g, 2 * row.length ≤ g + 1 → srow g ((⟨kd, key, text, (i : Int)⟩ : V) :: t) = (row, r)) ∧ row.length + r.length = t.length + 1 := by
        obtain ⟨row, _, _, hlr, hall⟩ := HRS.out
        simp only [List.length_cons] at hlr
        refine ⟨row, ?_, hall, hlr⟩
        have h1 := hall (2 * t.length + 2) (by omega)
        simp only [srow, Int.toNat_natCast] at h1
        rw [hrsk _ (by omega)] at h1
        simp only [] at h1
        rw [← hrows, hrows'] at h1
        exact (congrArg Prod.fst h1).symm
      have HDI := Lib.hid hdist
      have HRW := Lib.hid hrows'
      have HRES := Lib.hid hres
      have hlps : ps.length ≤ 1000000000 := by have := HA.out.cnt; have := HA.out.n; obtain ⟨pre, h1, h2⟩ := HA.out.split; have := congrArg List.length h1; simp only [List.length_cons, List.length_append] at this; omega
      have hk0 := (HA.out.bel.cell (p := ⟨bk, off, none⟩) hbk).trans k0
      clear hrl hrn hrfl hrsk hsk hrows hdist hrows' hres
      go_upto_if 33 with fail
      go_cut [] (fun wx => ∃ ps' : List (Value × List V), Hid (ps'.map Prod.snd = rows') ∧ Hid (KidsIn w.heap.size wx ps') ∧ Hid (wx.ownsRow w.heap.size 35 1 u4 ps'.length (ps'.map Prod.fst)) ∧ Hid (ps' = [] → u4 = .slice none 0 0) ∧ Hid (Below w.heap.size w wx) ∧ Hid ((flat ps').length = (flat ps).length))
      case first =>
        by_cases hk6 : kd = 6
        · have hk6b : (kd == 6) = true := by simpa using hk6
          by_cases hps : ps = []
          · have hu := HA.out.nil0 hps
            subst hu
            have hnone := fun W => AnyF.slices_SortFunc_none (P := Tryz.prog) (ρ := Tryz.laysSort_ren) { Tryz.laysSort with } none 0 (.func (.func 124) #[] #[]) W
            change ∀ W, Calls Tryz.prog 123 _ _ _ at hnone
            have HPS := Lib.hid hps
            clear hps
            go_wp2_with fail
            refine (hnone _).mono ?_
            rintro e7 w7 ⟨rfl, rfl⟩
            go_wp2_with fail
            go_meet
            exact ⟨ps, Lib.hid (by rw [← HRW.out, if_pos hk6, HPS.out]; rfl), Lib.hid HA.out.kids, Lib.hid HA.out.own, Lib.hid (fun _ => trivial), Lib.hid HA.out.bel, Lib.hid rfl⟩
          · obtain ⟨gq, cq, hu, _, hgl⟩ := HA.out.own.form (List.length_pos_iff.2 hps)
            subst hu
            have hkd := own_kind HA.out.own gq (by simp [Value.ownBlock])
            have HKD := Lib.hid hkd
            have HPS := Lib.hid hps
            clear hps hkd
            go_wp2_with fail
            refine (sortf_calls ps gq cq w.heap.size _ HPS.out hlps HA.out.own (HA.out.kids.srg HKD.out) (HDI.out hk6b)).mono ?_
            rintro e7 w7 ⟨rfl, ps', hps', hperm, hown7, hk7⟩
            have hl7 : ps'.length = ps.length := hperm.length_eq
            have HP7 : Hid (ps'.map Prod.snd = rows') := Lib.hid (by rw [hps', ← HRW.out, if_pos hk6])
            have HKI7 : Hid (KidsIn w.heap.size w7 ps') := Lib.hid (fun p hp => (HA.out.kids.kept hk7 (fun k hk => by rcases List.mem_singleton.1 hk with rfl; exact HKD.out)) p (hperm.mem_iff.1 hp))
            have HO7 : Hid (w7.ownsRow w.heap.size 35 1 (.slice (some ⟨gq, 0, none⟩) ps.length cq) ps'.length (ps'.map Prod.fst)) := Lib.hid (by rw [hl7]; exact hown7)
            have HN7 : Hid (ps' = [] → Value.slice (some ⟨gq, 0, none⟩) ps.length cq = .slice none 0 0) := Lib.hid (fun e => by rw [e] at hl7; exact absurd (List.eq_nil_of_length_eq_zero hl7.symm) HPS.out)
            have HB7 : Hid (Below w.heap.size w w7) := Lib.hid (HA.out.bel.trans (hk7.below (fun k hk => by rcases List.mem_singleton.1 hk with rfl; exact (HA.out.own.lt k rfl).1) HA.out.bel.size))
            have HF7 : Hid ((flat ps').length = (flat ps).length) := Lib.hid (by unfold flat; rw [hps']; exact flatten_len_perm (isort_perm _))
            clear hps' hperm hown7 hk7 hl7
            go_wp2_with fail
            go_meet
            exact ⟨ps', HP7, HKI7, HO7, HN7, HB7, HF7⟩
        · have hk6b : (kd == 6) = false := by simpa using hk6
          go_wp2_with fail
          go_meet
          exact ⟨ps, Lib.hid (by rw [← HRW.out, if_neg hk6]), Lib.hid HA.out.kids, Lib.hid HA.out.own, Lib.hid HA.out.nil0, Lib.hid HA.out.bel, Lib.hid rfl⟩
      case rest =>
        obtain ⟨ps', HP, HKI, HO, HNIL, HB, HF⟩ := hcut
        obtain ⟨row, hrow, hrsk, hrlen⟩ := HRES.out
        have hfl : flat ((Value.slice (some ⟨bk, off, none⟩) 1 cap, [(⟨kd, key, text, (i : Int)⟩ : V)]) :: ps') = row := by
          rw [hrow, ← HP.out]; simp [flat]
        have hsrc0 : Src w (.slice (some ⟨bk, off, none⟩) 1 cap) [(⟨kd, key, text, (i : Int)⟩ : V)] := by
          refine ⟨bk, off, cap, rfl, by simp, hbk, fun j u hu => ?_⟩
          have e : (⟨bk, off, none⟩ : Addr).add j = ⟨bk, off + j, none⟩ := by unfold Addr.add; split <;> simp_all
          rw [e]
          have hu4 : [Value.int .i64 kd, .string ⟨key.toArray⟩, .string ⟨text.toArray⟩, .int .i64 (i : Int)][j]? = some u := hu
          match j, hu4 with
          | 0, h => exact k0.trans h
          | 1, h => exact k1.trans h
          | 2, h => exact k2.trans h
          | 3, h => exact k3.trans h
          | (n + 4), h => simp at h
        have hrl2 : row.length ≤ 1000000 := by omega
        have hrow1 : row.length = N := by
          have h1 := HN.out
          have h2 := HF.out
          have h3 := congrArg List.length hfl
          have h4 : (flat ((Value.slice (some ⟨bk, off, none⟩) 1 cap, [(⟨kd, key, text, (i : Int)⟩ : V)]) :: ps')).length = 1 + (flat ps').length := by
            have e : flat ((Value.slice (some ⟨bk, off, none⟩) 1 cap, [(⟨kd, key, text, (i : Int)⟩ : V)]) :: ps') = [(⟨kd, key, text, (i : Int)⟩ : V)] ++ flat ps' := by simp [flat]
            rw [e, List.length_append]; rfl
          omega
        have hrne : row ≠ [] := by rw [hrow]; simp
        have HFL := Lib.hid hfl
        have HS0 := Lib.hid hsrc0
        have HR1 := Lib.hid hrow1
        have HRE := Lib.hid hrne
        have HSK := Lib.hid hrsk
        have HRL := Lib.hid hrlen
        have hrun1 := first_run bk off (t.length + 1) cap (by omega)
        have hlit := World.ownsRow_lit (base := w.heap.size) (e := 35) (size := 1) wc #[.slice (some ⟨bk, off, none⟩) 1 cap] 1 HB.out.size (by unfold maxLen; omega) rfl
        have HLT := Lib.hid hlit
        clear hfl hsrc0 hrow1 hrne hrsk hrlen hrow HRES HRW hlit k0 k1 k2 k3 hk0
        cases ps' with
        | nil =>
          have hu := HNIL.out rfl
          subst hu
          go_wp2_with (at_builtin; refine wpList_append_none rfl _ _ rfl _ _ w.heap.size _ rfl rfl HLT.out ?_)
          have hbx : Below w.heap.size w (wc.alloc (.cells #[.slice (some ⟨bk, off, none⟩) 1 cap] 35)) := HB.out.alloc HB.out.size _
          have hsx : ∀ p ∈ [((Value.slice (some ⟨bk, off, none⟩) 1 cap), [(⟨kd, key, text, (i : Int)⟩ : V)])], Src (wc.alloc (.cells #[.slice (some ⟨bk, off, none⟩) 1 cap] 35)) p.1 p.2 := fun p hp => by
            rcases List.mem_singleton.1 hp with rfl
            exact HS0.out.kept hbx
          have HBX := Lib.hid hbx
          have HSX := Lib.hid hsx
          clear hbx hsx
          go_wp2_with fail
          refine (concat_own [((Value.slice (some ⟨bk, off, none⟩) 1 cap), [(⟨kd, key, text, (i : Int)⟩ : V)])] _ w.heap.size _ HLT.out HSX.out (by simp) (by rw [HFL.out]; omega)).mono ?_
          rintro e8 w8 ⟨⟨vo, rfl, hvo⟩, hb8⟩
          rw [HFL.out] at hvo
          have HVO := Lib.hid (own_mono hvo HBX.out.size)
          have HB8 := Lib.hid (HBX.out.trans (hb8.mono HBX.out.size))
          obtain ⟨gv, cv, rfl, _, _⟩ := hvo.form (List.length_pos_iff.2 HRE.out)
          clear hvo hb8
          go_wp2_with fail
          go_ret2
          exact ⟨⟨_, row, HSK.out, HRL.out, HRE.out, by rw [HR1.out]; rfl, HVO.out⟩, HB8.out⟩
        | cons p0 ps0 =>
          obtain ⟨gq, cq, hu, _, hgl⟩ := HO.out.form (by simp)
          subst hu
          have hkown : (wc.alloc (.cells #[.slice (some ⟨bk, off, none⟩) 1 cap] 35)).ownsRow w.heap.size 35 1 (.slice (some ⟨gq, 0, none⟩) (p0 :: ps0).length cq) (p0 :: ps0).length ((p0 :: ps0).map Prod.fst) := HO.out.alloc _
          have hnews := hkown.cells (g := gq) rfl
          have hcl := hkown.1
          have hone : ∀ u ∈ (p0 :: ps0).map Prod.fst, u.oneCell' = true := fun u hu => by
            obtain ⟨p, hp, rfl⟩ := List.mem_map.1 hu
            obtain ⟨_, _, _, hv, _⟩ := HKI.out.src p hp
            rw [hv]; rfl
          have hmany := flat_many (p0 :: ps0) (fun p hp => (HKI.out p hp).2)
          have hff := HF.out
          have hnr : N = 1 + (flat ps).length := HN.out
          have hm1 : 1 + (p0 :: ps0).length ≤ maxLen := by have := HR1.out; unfold maxLen; omega
          have hm2 : (1 + (p0 :: ps0).length) * 24 ≤ 140737488355328 := by have := HR1.out; omega
          have hbase : w.heap.size ≤ (wc.alloc (.cells #[.slice (some ⟨bk, off, none⟩) 1 cap] 35)).heap.size := by have := HB.out.size; simp; omega
          have HHO := Lib.hid hkown
          clear hmany hff hnr hkown
          go_wp2_with (at_builtin; refine wpList_append_own _ rfl _ _ 38 rfl w.heap.size 35 i0 _ 1 24 Tryz.underlying38 hi0 hz0 hz1 hz2 rfl (by decide) _ _ _ rfl HLT.out ⟨gq, 0, none⟩ _ _ _ rfl hcl hnews hone hm1 hm2 hbase ?_; intro v3 w3 hown3 hgr3 _)
          have hgb : ∀ k ∈ (Value.slice (some ⟨wc.heap.size, 0, none⟩) 1 1).ownBlock.toList, ∃ c fz, (wc.alloc (.cells #[.slice (some ⟨bk, off, none⟩) 1 cap] 35)).heap[k]? = some (.cells c 35 fz) := own_kind HLT.out
          have hk3 : Kp (Value.slice (some ⟨wc.heap.size, 0, none⟩) 1 1).ownBlock.toList (wc.alloc (.cells #[.slice (some ⟨bk, off, none⟩) 1 cap] 35)) w3 := Kp.of_grown hgr3
          have hki3 : KidsIn w.heap.size w3 (p0 :: ps0) := (HKI.out.kept (S := []) ((Kp.refl _ _).alloc _) (by simp)).kept hk3 hgb
          have hbx : Below w.heap.size w w3 := (HB.out.alloc HB.out.size _).trans (hk3.below (fun k hk => by
            have : k = wc.heap.size := by simpa [Value.ownBlock] using hk
            have := HB.out.size
            omega) hbase)
          have hsx : ∀ p ∈ ((Value.slice (some ⟨bk, off, none⟩) 1 cap), [(⟨kd, key, text, (i : Int)⟩ : V)]) :: p0 :: ps0, Src w3 p.1 p.2 := fun p hp => by
            rcases List.mem_cons.1 hp with rfl | hp
            · exact HS0.out.kept hbx
            · exact hki3.src p hp
          have ho3 : w3.ownsRow w.heap.size 35 1 v3 (((Value.slice (some ⟨bk, off, none⟩) 1 cap), [(⟨kd, key, text, (i : Int)⟩ : V)]) :: p0 :: ps0).length ((((Value.slice (some ⟨bk, off, none⟩) 1 cap), [(⟨kd, key, text, (i : Int)⟩ : V)]) :: p0 :: ps0).map Prod.fst) := by
            have e : (((Value.slice (some ⟨bk, off, none⟩) 1 cap), [(⟨kd, key, text, (i : Int)⟩ : V)]) :: p0 :: ps0).length = 1 + (p0 :: ps0).length := by simp only [List.length_cons]; omega
            rw [e]
            exact hown3
          have HBX := Lib.hid hbx
          have HSX := Lib.hid hsx
          have HO3 := Lib.hid ho3
          clear hbx hsx ho3 hki3 hk3 hgb hown3 hgr3 hnews hcl hone hm1 hm2 hbase
          go_wp2_with fail
          refine (concat_own (((Value.slice (some ⟨bk, off, none⟩) 1 cap), [(⟨kd, key, text, (i : Int)⟩ : V)]) :: p0 :: ps0) _ w.heap.size _ HO3.out HSX.out (by simp) (by rw [HFL.out]; omega)).mono ?_
          rintro e8 w8 ⟨⟨vo, rfl, hvo⟩, hb8⟩
          rw [HFL.out] at hvo
          have HVO := Lib.hid (own_mono hvo HBX.out.size)
          have HB8 := Lib.hid (HBX.out.trans (hb8.mono HBX.out.size))
          obtain ⟨gv, cv, rfl, _, _⟩ := hvo.form (List.length_pos_iff.2 HRE.out)
          clear hvo hb8
          go_wp2_with fail
          go_ret2
          exact ⟨⟨_, row, HSK.out, HRL.out, HRE.out, by rw [HR1.out]; rfl, HVO.out⟩, HB8.out⟩

theorem all_SO : ∀ f, SO f := fun f => by
  induction f using Nat.strongRecOn with
  | _ f ih =>
    cases f with
    | zero => intro l deep m r v w hr; simp [rrow] at hr
    | succ f => exact sorted_step f (fun g hg => ih g (by omega))

set_option maxHeartbeats 4000000 in
set_option maxRecDepth 1000000 in
theorem sort_calls (v : Value) (l : List V) (w : World) (h : Vs w v l) (hc : Capd v) (hT : U8 w) (hf : Fits l) (hl : l.length ≤ 1000000) :
    Calls Tryz.prog 37 #[v] w fun e w' => ((jright l = false ∧ e = .returned (.slice none 0 0)) ∨ (jright l = true ∧ jsort l ≠ [] ∧ ∃ vo, e = .returned vo ∧ w'.ownsRow w.heap.size 56 4 vo (jsort l).length (vcells (jsort l)))) ∧ Below w.heap.size w w' := by
  obtain ⟨a, cap, hv⟩ := h.len
  have HH := Lib.hid h
  have HC := Lib.hid hc
  have HT := Lib.hid hT
  have HF := Lib.hid hf
  obtain ⟨JR, hJR⟩ : ∃ JR, jright l = JR := ⟨_, rfl⟩
  rw [hJR]
  obtain ⟨JS, hJS⟩ : ∃ JS, jsort l = JS := ⟨_, rfl⟩
  rw [hJS]
  have HJR := Lib.hid hJR
  have HJS := Lib.hid hJS
  clear h hc hT hf hJR hJS
  subst hv
  go_enter Tryz.func37, Tryz.ntmps37
  go_wp2_with fail
  refine (right_calls _ l _ HH.out HT.out HF.out (by omega)).mono ?_
  rintro e1 w1 ⟨rfl, hb1⟩
  rw [HJR.out]
  have B1 := Lib.hid hb1
  clear hb1
  cases JR with
  | false =>
    go_wp2_with fail
    go_ret
    exact ⟨rfl, B1.out⟩
  | true =>
    have hr := (right_row HJR.out).2
    have hVl : Vl w1.heap.size w1 (.slice a l.length cap) l := ((vl_of_vs HH.out HC.out).kept B1.out).mono B1.out.size
    have HR := Lib.hid hr
    have HVL := Lib.hid hVl
    have hcn : ∀ x ∈ l, x.count ≤ 9223372036854775807 := fun x hx => (HF.out x hx).2.2
    have HCN := Lib.hid hcn
    clear hr hVl hcn
    go_wp2_with fail
    refine (all_SO _ l 0 false [] _ _ HR.out HVL.out hl HCN.out).mono ?_
    rintro e2 w2 ⟨⟨vo, row, hsk, hrl, hrne, rfl, hvo⟩, hb2⟩
    have hrow : JS = row := by
      rw [← HJS.out]
      unfold jsort
      rw [hsk _ (by simp only [List.length_nil] at hrl; omega)]
    subst hrow
    have HVO := Lib.hid (own_mono hvo B1.out.size)
    have HB2 := Lib.hid (B1.out.trans (hb2.mono B1.out.size))
    have HNE := Lib.hid hrne
    obtain ⟨gv, cv, rfl, _, _⟩ := hvo.form (List.length_pos_iff.2 hrne)
    clear hvo hb2 hrne hsk hrl
    go_wp2_with fail
    go_ret
    exact ⟨⟨HNE.out, _, rfl, HVO.out⟩, HB2.out⟩
end Go.Proofs.YtndkbecdjaedaaaGreatDoor
