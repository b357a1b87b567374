/- From a row's list to what the road reads: the rows of json and of plan. -/
import Derived.Test.YtndkbecdjaedaaaGreatDoorCards
import Derived.Test.YtndkbecdjaedaaaGreatDoorTie
import Derived.Test.YtndkbecdjaedaaaGreatDoorJtUnq
import Derived.Test.YtndkbecdjaedaaaGreatDoorJsRd
import Derived.WalkKit
import Derived.ProofKit
import Derived.OpenShut
import Derived.Deep.DeepHandedRow
import Derived.Lib.LaidU8
import Derived.LaidMore
import Derived.Lay
import Derived.Stop.Joined
import Derived.Test.YtndkbecdjaedaaaGreatDoorJsSize
import Derived.Test.YtndkbecdjaedaaaGreatDoorJsPr3
import Derived.Test.YtndkbecdjaedaaaGreatDoorJsParse
import Derived.Deep.Slices
import Derived.Deep.Fields
import Derived.ChangeSame
import Derived.SizedLaws
import Derived.WideKeyArgs
namespace Go.Proofs.YtndkbecdjaedaaaGreatDoor
open Go.ChangeShapes Go.WideShapes Go.ChangeAt Go.RowKit

theorem own : ownKnob Tryz.prog.godebug = none := by kernel_rfl
theorem gn3 : Tryz.prog.globalNamed "unicode/utf8.first" = some 2 := by kernel_rfl
theorem gn4 : Tryz.prog.globalNamed "unicode/utf8.acceptRanges" = some 3 := by kernel_rfl
theorem gnP : Tryz.prog.globalNamed "internal/strconv.uint64pow10" = some 5 := by kernel_rfl
theorem gnS : Tryz.prog.globalNamed "strconv.ErrSyntax" = some 8 := by kernel_rfl
theorem gnR : Tryz.prog.globalNamed "strconv.ErrRange" = some 9 := by kernel_rfl
theorem gy3 : (Tryz.prog.globals[2]?).map (·.type) = some 159 := by kernel_rfl
theorem gy4 : (Tryz.prog.globals[3]?).map (·.type) = some 162 := by kernel_rfl
theorem gyP : (Tryz.prog.globals[5]?).map (·.type) = some 215 := by kernel_rfl
theorem gyS : (Tryz.prog.globals[8]?).map (·.type) = some 132 := by kernel_rfl
theorem gyR : (Tryz.prog.globals[9]?).map (·.type) = some 132 := by kernel_rfl

def theLaid : List (String × DataW Unit) := [("math/bits.deBruijn32tab", Rows.laid_math_bits_deBruijn32tab), ("math/bits.deBruijn64tab", Rows.laid_math_bits_deBruijn64tab), ("internal/strconv.uint64pow10", Rows.laid_internal_strconv_uint64pow10), ("unicode/utf8.acceptRanges", Rows.laid_unicode_utf8_acceptRanges), ("strconv.ErrRange", Rows.laid_strconv_ErrRange), ("strconv.ErrSyntax", Rows.laid_strconv_ErrSyntax), ("onionskin/json.words", Rows.laid_onionskin_json_words), ("unicode/utf8.first", Rows.laid_unicode_utf8_first)]
def planLaid : List (String × DataW Unit) := [("math/bits.deBruijn32tab", Rows.laid_math_bits_deBruijn32tab), ("math/bits.deBruijn64tab", Rows.laid_math_bits_deBruijn64tab), ("internal/strconv.uint64pow10", Rows.laid_internal_strconv_uint64pow10), ("unicode/utf8.acceptRanges", Rows.laid_unicode_utf8_acceptRanges), ("strconv.ErrRange", Rows.laid_strconv_ErrRange), ("strconv.ErrSyntax", Rows.laid_strconv_ErrSyntax), ("onionskin/json.words", Rows.laid_onionskin_json_words), ("onionskin/plan.names", Rows.laid_onionskin_plan_names), ("unicode/utf8.first", Rows.laid_unicode_utf8_first)]

theorem gnW : Tryz.prog.globalNamed "onionskin/json.words" = some 1 := by kernel_rfl
theorem gyW : (Tryz.prog.globals[1]?).map (·.type) = some 140 := by kernel_rfl
theorem first_data : Rows.laid_unicode_utf8_first = Lib.firstData := by kernel_rfl
theorem accept_data : (Rows.laid_unicode_utf8_acceptRanges : DataW Unit) = Lib.acceptData := by kernel_rfl
theorem pow_data : (Rows.laid_internal_strconv_uint64pow10 : DataW Unit) = Lib.tabData .u64 Lib.pow10Tab := by kernel_rfl

theorem plain_laid (W : World) : laidMetH Tryz.prog theLaid W = laidMet Tryz.prog theLaid W := MakeChecks.laidMetH_plain _ _ _ (by kernel_rfl)
theorem plain_plan (W : World) : laidMetH Tryz.prog planLaid W = laidMet Tryz.prog planLaid W := MakeChecks.laidMetH_plain _ _ _ (by kernel_rfl)

set_option maxRecDepth 100000 in
theorem err_var {W : World} {n : String} {nm : String} {d : DataW Unit} {g : Nat} (hg : Tryz.prog.globalNamed n = some g) (hy : (Tryz.prog.globals[g]?).map (·.type) = some 132) (h : Lib.VarReads Tryz.prog W n (.iface nm d)) :
    ∃ tp p, W.var? Tryz.prog n = some #[.iface tp p] := by
  obtain ⟨g', t, cs, fuel, p, hg', hty, hvar, hd⟩ := h
  obtain rfl := Option.some.inj (hg.symm.trans hg')
  obtain rfl := Option.some.inj (hy.symm.trans hty)
  obtain ⟨_, u, v, hcs, _, _⟩ := iface_of_trod Tryz.underlying132 hd
  refine ⟨u, v, ?_⟩
  rw [hvar]
  congr 1
  exact Array.toList_inj.1 hcs

set_option maxRecDepth 100000 in
theorem env_of_list {L : List (String × DataW Unit)} {W : World} (h : laidMet Tryz.prog L W)
    (m6 : ("unicode/utf8.first", Rows.laid_unicode_utf8_first) ∈ L) (m3 : ("unicode/utf8.acceptRanges", (Rows.laid_unicode_utf8_acceptRanges : DataW Unit)) ∈ L) (m2 : ("internal/strconv.uint64pow10", (Rows.laid_internal_strconv_uint64pow10 : DataW Unit)) ∈ L)
    (m4 : ("strconv.ErrRange", (Rows.laid_strconv_ErrRange : DataW Unit)) ∈ L) (m5 : ("strconv.ErrSyntax", (Rows.laid_strconv_ErrSyntax : DataW Unit)) ∈ L) : Env W := by
  have h6 := Lib.laidMet.reads h m6
  have h3 := Lib.laidMet.reads h m3
  have h2 := Lib.laidMet.reads h m2
  have h4 := Lib.laidMet.reads h m4
  have h5 := Lib.laidMet.reads h m5
  rw [first_data] at h6
  rw [accept_data] at h3
  rw [pow_data] at h2
  refine ⟨⟨fun c hc => ?_, fun i hi => ?_⟩, ?_, err_var gnS gyS h5, err_var gnR gyR h4⟩
  · obtain ⟨g, t, cs, fuel, p, hg, hty, hvar, hd⟩ := h6
    obtain rfl := Option.some.inj (gn3.symm.trans hg)
    obtain rfl := Option.some.inj (gy3.symm.trans hty)
    have hcs := Lib.cells_of_tab Tryz.underlying159 Tryz.underlying5 (by kernel_rfl) (by kernel_rfl) hd
    rw [World.var?_cell hg hvar c, ← Array.getElem?_toList, hcs]
    simp [Lib.firstTab, hc]
  · obtain ⟨g, t, cs, fuel, p, hg, hty, hvar, hd⟩ := h3
    obtain rfl := Option.some.inj (gn4.symm.trans hg)
    obtain rfl := Option.some.inj (gy4.symm.trans hty)
    obtain ⟨fuel', d, q, hdi, he⟩ := Lib.array_elem Tryz.underlying162 hd i hi
    simp only [List.getElem?_map, List.getElem?_range hi, Option.map_some, Option.some.injEq] at hdi
    subst hdi
    have c2 : Tryz.prog.cellsOf 161 = 2 := by kernel_rfl
    have c1 : Tryz.prog.cellsOf 5 = 1 := by kernel_rfl
    rw [c2] at he
    have hcs := Lib.ints_of_struct Tryz.underlying161 (fun j f hj => by
      match j, hj with
      | 0, hj => simp at hj; subst hj; exact ⟨Tryz.underlying5, rfl, c1⟩
      | 1, hj => simp at hj; subst hj; exact ⟨Tryz.underlying5, rfl, c1⟩
      | j + 2, hj => simp at hj) (by rw [c2]; rfl) he
    have e0 := congrArg (·[0]?) hcs
    have e1 := congrArg (·[1]?) hcs
    simp only [List.getElem?_take, List.getElem?_drop] at e0 e1
    constructor
    · rw [World.var?_cell hg hvar (2 * i), ← Array.getElem?_toList]
      simpa [Nat.mul_comm] using e0
    · rw [World.var?_cell hg hvar (2 * i + 1), ← Array.getElem?_toList]
      simpa [Nat.mul_comm] using e1
  · obtain ⟨g, t, cs, fuel, p, hg, hty, hvar, hd⟩ := h2
    obtain rfl := Option.some.inj (gnP.symm.trans hg)
    obtain rfl := Option.some.inj (gyP.symm.trans hty)
    have hcs := Lib.cells_of_tab Tryz.underlying215 Tryz.underlying186 (by kernel_rfl) (by kernel_rfl) hd
    unfold Lib.TabIs
    rw [hvar, ← hcs]

set_option maxRecDepth 100000 in
theorem words_of_list {L : List (String × DataW Unit)} {W : World} (h : laidMet Tryz.prog L W) (m : ("onionskin/json.words", (Rows.laid_onionskin_json_words : DataW Unit)) ∈ L) : Words W := by
  have hr := Lib.laidMet.reads h m
  obtain ⟨g, t, cs, fuel, p, hg, hty, hvar, hd⟩ := hr
  obtain rfl := Option.some.inj (gnW.symm.trans hg)
  obtain rfl := Option.some.inj (gyW.symm.trans hty)
  intro i hi
  obtain ⟨fuel', d, q, hdi, he⟩ := Lib.array_elem Tryz.underlying140 hd i (by simpa using hi)
  have c1 : Tryz.prog.cellsOf 9 = 1 := by kernel_rfl
  rw [c1] at he
  have hds : ∀ (i : Nat) (d : DataW Unit), i < 3 → [(.lit (.string [110, 117, 108, 108]) : DataW Unit), .lit (.string [116, 114, 117, 101]), .lit (.string [102, 97, 108, 115, 101])][i]? = some d → d = .lit (.string (wordB i).data.toList) := by
    intro i d hi h
    match i, hi, h with
    | 0, _, h => simp at h; rw [← h]; rfl
    | 1, _, h => simp at h; rw [← h]; rfl
    | 2, _, h => simp at h; rw [← h]; rfl
  have hdw := hds i d hi hdi
  subst hdw
  obtain ⟨s, hcs, hx, _⟩ := DataW.trod_string Tryz.underlying9 he
  have hs : (wordB i).data.toList = s.data.toList := by
    have := congrArg Prod.fst hx
    simpa using this
  have hsw : s = wordB i := ByteArray.ext (Array.toList_inj.1 hs.symm)
  have e0 := congrArg (·[0]?) hcs
  simp only [List.getElem?_take, List.getElem?_drop] at e0
  rw [World.var?_cell hg hvar i, ← Array.getElem?_toList]
  simpa [hsw] using e0

theorem env_of_laid {W : World} (h : laidMetH Tryz.prog theLaid W) : Env W := by
  rw [plain_laid] at h
  exact env_of_list h (List.mem_of_getElem? (i := 7) rfl) (List.mem_of_getElem? (i := 3) rfl) (List.mem_of_getElem? (i := 2) rfl) (List.mem_of_getElem? (i := 4) rfl) (List.mem_of_getElem? (i := 5) rfl)
theorem words_of_laid {W : World} (h : laidMetH Tryz.prog theLaid W) : Words W := by
  rw [plain_laid] at h
  exact words_of_list h (List.mem_of_getElem? (i := 6) rfl)
theorem env_of_plan {W : World} (h : laidMetH Tryz.prog planLaid W) : Env W := by
  rw [plain_plan] at h
  exact env_of_list h (List.mem_of_getElem? (i := 8) rfl) (List.mem_of_getElem? (i := 3) rfl) (List.mem_of_getElem? (i := 2) rfl) (List.mem_of_getElem? (i := 4) rfl) (List.mem_of_getElem? (i := 5) rfl)
theorem words_of_plan {W : World} (h : laidMetH Tryz.prog planLaid W) : Words W := by
  rw [plain_plan] at h
  exact words_of_list h (List.mem_of_getElem? (i := 6) rfl)

/-- What a law of plain strings hands its row: the answer, the arguments as they were. -/
theorem post_below {H : Type} {enc : TypeId × Value → H} {P : Program} {f : Func} {s : ChangeSpec} {apart fresh handsOn again : Bool} {W W' : World} {args : Array Value} {v : Value} {ds gs : List (DataW H)}
    (hW : DataW.Whole enc P f.params.toList s.vars apart W args.toList ds gs [])
    (hres : ∀ (b : Nat) (sp : Nat → Bool) (hd : Bool), DataW.TrodAll enc P W' b sp hd f.resultTypes.toList (v.resultList f.resultTypes.size) (s.fn H (ds ++ gs)).results [])
    (hargs : ∀ sp : Nat → Bool, DataW.TrodAll enc P W' 0 sp true f.params.toList args.toList (s.fn H (ds ++ gs)).args [])
    (hvars : ∀ sp : Nat → Bool, DataW.TrodVars enc P W' sp s.vars (s.fn H (ds ++ gs)).vars [])
    (hb : Below W.heap.size W W')
    (hok : ∀ (j : Nat) (t : TypeId) (r : Value), f.resultTypes[j]? = some t → (v.resultList f.resultTypes.size)[j]? = some r → Value.okWide P W' .any 0 t r) :
    s.post enc P f apart fresh handsOn again W args v W' := by
  refine ⟨ds, gs, [], [], [], [], hW, hres _ _ _, hargs _, hvars _, hb.frame _, fun _ => ?_⟩
  refine ⟨hok, _, _, [], ⟨[], [], trodAll_append (hargs _) (hres _ _ _), hvars _, rfl, ?_, ?_⟩, ?_⟩
  · intro b off hp; simp at hp
  · intro _; simp
  · intro p hp _; simp at hp
end Go.Proofs.YtndkbecdjaedaaaGreatDoor
/- Arguments that lie in memory, opened: a row of values, a row of bytes; what a call that leaves them alone hands its row. -/
namespace Go.Proofs.YtndkbecdjaedaaaGreatDoor
open Go.ChangeShapes Go.WideShapes Go.Deep Go.RowKit Go.ChangeAt

section
variable {H : Type} {enc : TypeId × Value → H} {P : Program} {w : World} {base : Nat} {spare : Nat → Bool} {held : Bool}
/-- An argument that is a slice of structs of one-cell fields. -/
theorem open_slice_fields {t e : TypeId} {fs : Array Field} {fuel : Nat} {cs : List Value} {x : DataW H × List MemPlace} (ht : P.underlying t = some (.slice e)) (he : P.underlying e = some (.struct fs))
    (hone : oneCellFields P fs = true) (hC : P.cellsOf e = fs.size) (h : DataW.trod enc P w base spare held fuel t cs = some x) :
    (cs = [.slice none 0 0] ∧ x = (.nil, [])) ∨
    ∃ (a : Addr) (len cap m : Nat) (D : Nat → DataW H) (Pl : Nat → List MemPlace), cs = [.slice (some a) len cap] ∧ base ≤ a.block ∧ len ≤ cap ∧ cap ≤ maxLen ∧ m = (if spare a.block then cap else len) ∧
      x = (.slice ((List.range len).map D) ((List.range (m - len)).map fun j => D (len + j)), MemPlace.row a (m * fs.size) ++ (List.range m).flatMap Pl) ∧
      ∀ i, i < m → ∃ (ys : List (DataW H × List MemPlace)) (n : Nat), D i = .agg (ys.map (·.1)) ∧ Pl i = ys.flatMap (·.2) ∧ ys.length = fs.size ∧
        ∀ (j : Nat) (f : Field), fs[j]? = some f → ∃ (v : Value) (y : DataW H × List MemPlace), w.cell? (a.add (i * fs.size + j)) = some v ∧ ys[j]? = some y ∧ DataW.trod enc P w base spare held n f.type [v] = some y := by
  rcases open_slice ht h with h0 | ⟨a, len, cap, m, n, D, Pl, hcs, hb, hl, hm, hmm, hx, hi⟩
  · exact .inl h0
  · refine .inr ⟨a, len, cap, m, D, Pl, hcs, hb, hl, hm, hmm, by rw [hC] at hx; exact hx, fun i him => ?_⟩
    obtain ⟨cs', hc, ht'⟩ := hi i him
    rw [hC] at hc
    obtain ⟨ys, n', hn', hy, hlen, hyl, hf⟩ := DataW.trod_struct he ht'
    obtain ⟨_, hcl, hat⟩ := World.cells?_some hc
    simp only [Prod.mk.injEq] at hy
    refine ⟨ys, n', hy.1, hy.2, hyl, fun j f hj => ?_⟩
    obtain ⟨ho, hk⟩ := hone_of hone j f hj
    have hjl : j < fs.size := (Array.getElem?_eq_some_iff.1 hj).1
    have hcell := hat j hjl
    have hv : cs'[j]? = some (cs'[j]'(by omega)) := List.getElem?_eq_getElem (by omega)
    have h1 := hf j f hj
    rw [ho, hk] at h1
    have hone' : (cs'.drop j).take 1 = [cs'[j]'(by omega)] := by
      rw [List.drop_eq_getElem_cons (by omega)]
      rfl
    rw [hone'] at h1
    have hys : ys[j]? = some (ys[j]'(by omega)) := List.getElem?_eq_getElem (by omega)
    refine ⟨_, _, ?_, hys, h1.trans hys⟩
    rw [← Go.Deep.add_add, hcell, hv]
theorem weights_of_elem {e : TypeId} {elems : List (DataW H)} {d : DataW H} (hd : d ∈ elems) {n : Nat} (hn : n ∈ d.weights P e) : n ∈ DataW.weightsAll P e elems := by
  induction elems with
  | nil => cases hd
  | cons x t ih =>
    simp only [DataW.weightsAll, List.mem_append]
    rcases List.mem_cons.1 hd with rfl | hd
    · exact .inl hn
    · exact .inr (ih hd)
end

theorem add_none (b off k : Nat) : (⟨b, off, none⟩ : Addr).add k = ⟨b, off + k, none⟩ := by unfold Addr.add; split <;> simp_all

instance : Inhabited V := ⟨⟨0, [], [], 0⟩⟩
section
variable {H : Type} {enc : TypeId × Value → H} {w : World} {base : Nat} {held : Bool}

set_option maxRecDepth 1000000 in
/-- A row of values that is handed in. -/
theorem vals_arg {r : Reach} {b0 : Nat} {v : Value} {d : DataW H} {p : List MemPlace} (hok : Value.okWide Tryz.prog w r b0 35 v) (h : DataW.Trod enc Tryz.prog w base (fun _ => true) held 35 v d p) :
    ∃ l, Vs w v l ∧ Capd v ∧ (∀ x ∈ l, x.count ≤ 9223372036854775807) ∧ (∀ (ts : List TypeId) (ds : List (DataW H)) (j : Nat), ts[j]? = some 35 → ds[j]? = some d → (DataW.weightsEach Tryz.prog ts ds).all (· ≤ reachBytes) = true → Short l ∧ l.length ≤ 4611686018427387904) := by
  obtain ⟨a0, len0, cap0, rfl⟩ := okWide_slice Tryz.underlying35 hok
  obtain ⟨fuel, hf⟩ := h
  rcases open_slice_fields Tryz.underlying35 Tryz.underlying56 (by kernel_rfl) (by kernel_rfl) hf with ⟨hcs, hx⟩ | ⟨a, len, cap, m, D, Pl, hcs, hb, hl, hm, hmm, hx, hi⟩
  · simp [Value.cells] at hcs
    obtain ⟨rfl, rfl, rfl⟩ := hcs
    refine ⟨[], .inl ⟨rfl, _, _, rfl⟩, Nat.le_refl 0, ?_, ?_⟩
    · intro x hx; cases hx
    · intro _ _ _ _ _ _
      exact ⟨fun x hx => by (cases hx), by simp⟩
  · simp [Value.cells] at hcs
    obtain ⟨rfl, rfl, rfl⟩ := hcs
    simp only [Prod.mk.injEq] at hx
    obtain ⟨rfl, rfl⟩ := hx
    have hml : len0 ≤ m := by rw [hmm]; simpa using hl
    have key : ∀ i, i < len0 → ∃ x : V, (∀ j, j < 4 → w.cell? (a.add (i * 4 + j)) = (vcell x)[j]?) ∧ x.count ≤ 9223372036854775807 ∧ (x.key.length ∈ (D i).weights Tryz.prog 56 ∧ x.text.length ∈ (D i).weights Tryz.prog 56) := by
      intro i him
      obtain ⟨ys, n, hD, _, hys, hall⟩ := hi i (by omega)
      obtain ⟨v0, y0, c0, e0, t0⟩ := hall 0 _ rfl
      obtain ⟨v1, y1, c1, e1, t1⟩ := hall 1 _ rfl
      obtain ⟨v2, y2, c2, e2, t2⟩ := hall 2 _ rfl
      obtain ⟨v3, y3, c3, e3, t3⟩ := hall 3 _ rfl
      obtain ⟨z0, hz0, rfl, wf0⟩ := DataW.trod_int Tryz.underlying3 t0
      obtain ⟨s1, hs1, rfl, _⟩ := DataW.trod_string Tryz.underlying9 t1
      obtain ⟨s2, hs2, rfl, _⟩ := DataW.trod_string Tryz.underlying9 t2
      obtain ⟨z3, hz3, rfl, wf3⟩ := DataW.trod_int Tryz.underlying3 t3
      cases hz0; cases hs1; cases hs2; cases hz3
      have hyl : ys = [(.lit (.int .i64 z0), []), (.lit (.string s1.data.toList), []), (.lit (.string s2.data.toList), []), (.lit (.int .i64 z3), [])] := by
        apply List.ext_getElem?
        intro j
        match j with
        | 0 => exact e0
        | 1 => exact e1
        | 2 => exact e2
        | 3 => exact e3
        | j + 4 =>
          rw [List.getElem?_eq_none (by rw [hys]; simp), List.getElem?_eq_none (by simp)]
      subst hyl
      have hw : (D i).weights Tryz.prog 56 = [s1.data.toList.length, s2.data.toList.length] := by
        rw [hD]
        simp [DataW.weights, Tryz.underlying56, DataW.weightsEach]
      have w3 : z3 ≤ 9223372036854775807 := by
        have e64 : IntKind.i64.signed = true := rfl
        have := (show -9223372036854775808 ≤ z3 ∧ z3 ≤ 9223372036854775807 by simpa [Lit.wf, IntKind.min, IntKind.max, IntKind.bits, e64] using wf3)
        exact this.2
      refine ⟨⟨z0, s1.data.toList, s2.data.toList, z3⟩, fun j hj => ?_, w3, ?_⟩
      · match j, hj with
        | 0, _ => exact c0
        | 1, _ => exact c1
        | 2, _ => exact c2
        | 3, _ => exact c3
      · rw [hw]; simp
    obtain ⟨X, hX⟩ := choose_lt key
    have hget : ∀ i (h : i < ((List.range len0).map X).length), ((List.range len0).map X)[i] = X i := fun i h => by simp
    refine ⟨(List.range len0).map X, ?_, hl, fun x hx => ?_, fun ts ds j ht hd hall => ⟨fun x hx => ?_, ?_⟩⟩
    · by_cases h0 : len0 = 0
      · subst h0
        exact .inl ⟨rfl, _, _, rfl⟩
      · obtain ⟨ab, ao, spot⟩ := a
        have hs0 := (hX 0 (by omega)).1 0 (by omega)
        have hspot : spot = none := by simpa [Addr.add] using World.cell?_spot (v := .int .i64 (X 0).kind) hs0
        subst hspot
        have hlt : ab < w.heap.size := by
          rw [add_none] at hs0
          exact cell_lt hs0
        refine .inr ⟨ab, ao, cap0, by simp, hlt, fun i hi j hj => ?_⟩
        rw [hget]
        have := (hX i (by simpa using hi)).1 j hj
        rw [add_none] at this
        rw [Nat.add_assoc]
        exact this
    · obtain ⟨i, hi, rfl⟩ := List.mem_map.1 hx
      exact (hX i (by simpa using hi)).2.1
    · obtain ⟨i, hi, rfl⟩ := List.mem_map.1 hx
      obtain ⟨h1, h2⟩ := (hX i (by simpa using hi)).2.2
      have hin : D i ∈ (List.range len0).map D := List.mem_map.2 ⟨i, hi, rfl⟩
      have hmem : ∀ k, k ∈ (D i).weights Tryz.prog 56 → k ≤ 140737488351232 := fun k hk => by
        have := List.all_eq_true.1 hall k (DataW.weights_mem_each ht hd k (by
          simp only [DataW.weights, Tryz.underlying35, List.mem_cons, List.mem_append]
          exact .inr (.inl (weights_of_elem hin hk))))
        exact of_decide_eq_true this
      exact ⟨hmem _ h1, hmem _ h2⟩
    · have := sized_slice hall ht hd Tryz.underlying35
      rw [show Tryz.prog.bytesOf 56 = 48 by kernel_rfl] at this
      simp only [List.length_map, List.length_range, reachBytes] at this ⊢
      omega

set_option maxRecDepth 1000000 in
/-- A row of bytes that is handed in. -/
theorem bytes_arg {r : Reach} {b0 : Nat} {v : Value} {d : DataW H} {p : List MemPlace} (hok : Value.okWide Tryz.prog w r b0 22 v) (h : DataW.Trod enc Tryz.prog w base (fun _ => true) held 22 v d p) :
    ∃ l, Bt w v l ∧ Capd v := by
  obtain ⟨a0, len0, cap0, rfl⟩ := okWide_slice Tryz.underlying22 hok
  obtain ⟨fuel, hf⟩ := h
  rcases open_ints Tryz.underlying22 Tryz.underlying5 (by kernel_rfl) hf with ⟨hcs, hx⟩ | ⟨a, len, cap, zs, hcs, hb, hl, hm, hzl, hx, hi, hwf⟩
  · simp [Value.cells] at hcs
    obtain ⟨rfl, rfl, rfl⟩ := hcs
    exact ⟨[], .inl (.inl ⟨rfl, _, rfl⟩), Nat.le_refl 0⟩
  · simp [Value.cells] at hcs
    obtain ⟨rfl, rfl, rfl⟩ := hcs
    have hzl : zs.length = cap0 := by simpa using hzl
    refine ⟨(zs.take len0).map fun z => UInt8.ofNat z.toNat, ?_, hl⟩
    have hlen : ((zs.take len0).map fun z => UInt8.ofNat z.toNat).length = len0 := by rw [List.length_map, List.length_take]; omega
    by_cases h0 : len0 = 0
    · subst h0
      exact .inr ⟨by simp, _, _, rfl⟩
    · obtain ⟨ab, ao, spot⟩ := a
      have hs0 := hi 0 (by omega)
      have hspot : spot = none := by simpa [Addr.add] using World.cell?_spot hs0
      subst hspot
      rw [add_none] at hs0
      refine .inl (.inr ⟨ab, ao, cap0, by rw [hlen], cell_lt hs0, fun j hj => ?_⟩)
      rw [hlen] at hj
      have := hi j (by omega)
      rw [add_none] at this
      rw [this]
      have hz : zs.getD j 0 ∈ zs := by
        rw [List.getD_eq_getElem?_getD, List.getElem?_eq_getElem (by omega)]
        exact List.getElem_mem _
      have hw := hwf _ hz
      have h8 : 0 ≤ zs.getD j 0 ∧ zs.getD j 0 ≤ 255 := by
        have e8 : IntKind.u8.signed = false := rfl
        simpa [Lit.wf, IntKind.min, IntKind.max, IntKind.bits, e8] using hw
      have hg : ((zs.take len0).map fun z => UInt8.ofNat z.toNat)[j]'(by rw [hlen]; exact hj) = UInt8.ofNat (zs.getD j 0).toNat := by
        rw [List.getElem_map, List.getElem_take, List.getD_eq_getElem?_getD, List.getElem?_eq_getElem (by omega)]
        rfl
      rw [hg]
      congr 2
      rw [UInt8.toNat_ofNat']
      omega
end

section
variable {H : Type} {enc : TypeId × Value → H} {P : Program}
theorem trodAll_stays (hl : laidOutB P = true) {W W' : World} {base : Nat} {sp' : Nat → Bool} : ∀ {ts : List TypeId} {vs : List Value} {ds : List (DataW H)} {ps : List MemPlace}, (∀ t ∈ ts, P.readableRec t = true ∧ t < P.types.size) →
    DataW.TrodAll enc P W base (fun _ => true) true ts vs ds ps → (∀ p ∈ ps, W.sameAt W' p) → (∀ p ∈ ps, sp' p.block = true) → DataW.TrodAll enc P W' base sp' true ts vs ds ps
  | [], _, _, _, _, h, _, _ => by
    obtain ⟨rfl, rfl, rfl⟩ := trodAll_nil h
    exact trodAll_mk0
  | t :: ts, _, _, _, hT, h, hs, hp => by
    obtain ⟨v, vs1, d, ds1, a, b, rfl, rfl, rfl, h1, h2⟩ := trodAll_cons h
    obtain ⟨k1, k2⟩ := hT t (by simp)
    exact ⟨a, b, WideElems.Trod_stays hl k1 k2 h1 (fun p hp' => hs p (List.mem_append_left _ hp')) (fun p hp' => hp p (List.mem_append_left _ hp')),
      trodAll_stays hl (fun t ht => hT t (List.mem_cons_of_mem _ ht)) h2 (fun p hp' => hs p (List.mem_append_right _ hp')) (fun p hp' => hp p (List.mem_append_right _ hp')), rfl⟩

/-- What a law that leaves its arguments as they were hands its row. -/
theorem post_mem {f : Func} {s : ChangeSpec} {apart fresh handsOn again : Bool} {W W' : World} {args : Array Value} {v : Value} {ds : List (DataW H)} {ps : List MemPlace}
    (hW : DataW.Whole enc P f.params.toList s.vars apart W args.toList ds [] ps) (hnv : s.vars = [])
    (hres : ∀ (b : Nat) (sp : Nat → Bool) (hd : Bool), DataW.TrodAll enc P W' b sp hd f.resultTypes.toList (v.resultList f.resultTypes.size) (s.fn H (ds ++ [])).results [])
    (hargs : (s.fn H (ds ++ [])).args = ds) (hvars : (s.fn H (ds ++ [])).vars = [])
    (hl : laidOutB P = true) (hT : ∀ t ∈ f.params.toList, P.readableRec t = true ∧ t < P.types.size)
    (hb : Below W.heap.size W W')
    (hok : ∀ (j : Nat) (t : TypeId) (r : Value), f.resultTypes[j]? = some t → (v.resultList f.resultTypes.size)[j]? = some r → Value.okWide P W' .any 0 t r) :
    s.post enc P f apart fresh handsOn again W args v W' := by
  have hlt := fun p hp => hW.lt p hp
  have hW2 := hW
  obtain ⟨p, q, hA, hV, rfl, hfz, hnd⟩ := hW2
  rw [hnv] at hV
  obtain ⟨_, rfl⟩ := trodVars_none hV
  rw [List.append_nil] at hlt hfz hnd
  have hst : ∀ sp : Nat → Bool, (∀ x ∈ p, sp x.block = true) → DataW.TrodAll enc P W' 0 sp true f.params.toList args.toList (s.fn H (ds ++ [])).args p := fun sp hs => by
    rw [hargs]
    exact trodAll_stays hl hT hA (fun x hx => hb.same (hlt x hx)) hs
  have hvv : ∀ sp, DataW.TrodVars enc P W' sp s.vars (s.fn H (ds ++ [])).vars [] := fun sp => by rw [hnv, hvars]; rfl
  refine ⟨ds, [], p ++ [], [], p, [], hW, hres _ _ _, hst _ (fun x hx => by simpa using hlt x hx), hvv _, hb.frame _, fun _ => ?_⟩
  refine ⟨hok, _, _, ([] ++ p) ++ [], ⟨[] ++ p, [], trodAll_append (hst _ (fun _ _ => rfl)) (hres _ _ _), hvv _, rfl, ?_, ?_⟩, ?_⟩
  · intro b off hp
    rw [hb.frozen (p := ⟨b, off, none⟩) (hlt (.cell b off) (by simpa using hp))]
    exact hfz b off (by simpa using hp)
  · intro ha
    simpa using hnd ha
  · intro x hx _
    simpa using hx
end
end Go.Proofs.YtndkbecdjaedaaaGreatDoor
