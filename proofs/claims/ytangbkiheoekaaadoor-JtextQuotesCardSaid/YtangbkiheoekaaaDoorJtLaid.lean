/- From a row's list to what the road reads. -/
import Derived.Test.YtangbkiheoekaaaDoorCards
import Derived.Test.YtangbkiheoekaaaDoorTie
import Derived.Test.YtangbkiheoekaaaDoorJtEnv
import Derived.WalkKit
import Derived.ProofKit
import Derived.OpenShut
import Derived.Deep.DeepHandedRow
import Derived.Lib.LaidU8
import Derived.LaidMore
import Derived.Lay
import Derived.Stop.Joined
namespace Go.Proofs.YtangbkiheoekaaaDoor
open Go.ChangeShapes Go.WideShapes Go.ChangeAt Go.RowKit

theorem own : ownKnob Tryd.prog.godebug = none := by kernel_rfl
theorem gn3 : Tryd.prog.globalNamed "unicode/utf8.first" = some 0 := by kernel_rfl
theorem gn4 : Tryd.prog.globalNamed "unicode/utf8.acceptRanges" = some 1 := by kernel_rfl
theorem gnP : Tryd.prog.globalNamed "internal/strconv.uint64pow10" = some 4 := by kernel_rfl
theorem gnS : Tryd.prog.globalNamed "strconv.ErrSyntax" = some 2 := by kernel_rfl
theorem gnR : Tryd.prog.globalNamed "strconv.ErrRange" = some 3 := by kernel_rfl
theorem gy3 : (Tryd.prog.globals[0]?).map (·.type) = some 94 := by kernel_rfl
theorem gy4 : (Tryd.prog.globals[1]?).map (·.type) = some 97 := by kernel_rfl
theorem gyP : (Tryd.prog.globals[4]?).map (·.type) = some 104 := by kernel_rfl
theorem gyS : (Tryd.prog.globals[2]?).map (·.type) = some 42 := by kernel_rfl
theorem gyR : (Tryd.prog.globals[3]?).map (·.type) = some 42 := by kernel_rfl

def theLaid : List (String × DataW Unit) := [("math/bits.deBruijn32tab", Rows.laid_math_bits_deBruijn32tab), ("math/bits.deBruijn64tab", Rows.laid_math_bits_deBruijn64tab), ("internal/strconv.uint64pow10", Rows.laid_internal_strconv_uint64pow10), ("unicode/utf8.acceptRanges", Rows.laid_unicode_utf8_acceptRanges), ("strconv.ErrRange", Rows.laid_strconv_ErrRange), ("strconv.ErrSyntax", Rows.laid_strconv_ErrSyntax), ("unicode/utf8.first", Rows.laid_unicode_utf8_first)]

theorem first_data : Rows.laid_unicode_utf8_first = Lib.firstData := by kernel_rfl
theorem accept_data : (Rows.laid_unicode_utf8_acceptRanges : DataW Unit) = Lib.acceptData := by kernel_rfl
theorem pow_data : (Rows.laid_internal_strconv_uint64pow10 : DataW Unit) = Lib.tabData .u64 Lib.pow10Tab := by kernel_rfl

theorem plain_laid (W : World) : laidMetH Tryd.prog theLaid W = laidMet Tryd.prog theLaid W := MakeChecks.laidMetH_plain _ _ _ (by kernel_rfl)

set_option maxRecDepth 100000 in
theorem err_var {W : World} {n : String} {nm : String} {d : DataW Unit} {g : Nat} (hg : Tryd.prog.globalNamed n = some g) (hy : (Tryd.prog.globals[g]?).map (·.type) = some 42) (h : Lib.VarReads Tryd.prog W n (.iface nm d)) :
    ∃ tp p, W.var? Tryd.prog n = some #[.iface tp p] := by
  obtain ⟨g', t, cs, fuel, p, hg', hty, hvar, hd⟩ := h
  obtain rfl := Option.some.inj (hg.symm.trans hg')
  obtain rfl := Option.some.inj (hy.symm.trans hty)
  obtain ⟨_, u, v, hcs, _, _⟩ := iface_of_trod Tryd.underlying42 hd
  refine ⟨u, v, ?_⟩
  rw [hvar]
  congr 1
  exact Array.toList_inj.1 hcs

set_option maxRecDepth 100000 in
theorem env_of_laid {W : World} (h : laidMetH Tryd.prog theLaid W) : Env W := by
  rw [plain_laid] at h
  have m6 : ("unicode/utf8.first", Rows.laid_unicode_utf8_first) ∈ theLaid := List.mem_of_getElem? (i := 6) rfl
  have m3 : ("unicode/utf8.acceptRanges", (Rows.laid_unicode_utf8_acceptRanges : DataW Unit)) ∈ theLaid := List.mem_of_getElem? (i := 3) rfl
  have m2 : ("internal/strconv.uint64pow10", (Rows.laid_internal_strconv_uint64pow10 : DataW Unit)) ∈ theLaid := List.mem_of_getElem? (i := 2) rfl
  have m4 : ("strconv.ErrRange", (Rows.laid_strconv_ErrRange : DataW Unit)) ∈ theLaid := List.mem_of_getElem? (i := 4) rfl
  have m5 : ("strconv.ErrSyntax", (Rows.laid_strconv_ErrSyntax : DataW Unit)) ∈ theLaid := List.mem_of_getElem? (i := 5) rfl
  have h6 := Lib.laidMet.reads h m6
  have h3 := Lib.laidMet.reads h m3
  have h2 := Lib.laidMet.reads h m2
  have h4 := Lib.laidMet.reads h m4
  have h5 := Lib.laidMet.reads h m5
  rw [first_data] at h6
  rw [accept_data] at h3
  rw [pow_data] at h2
  refine ⟨⟨fun c hc => ?_, fun i hi => ?_⟩, ?_, err_var gnS gyS h5, err_var gnR gyR h4⟩
  · obtain ⟨g, t, cs, fuel, p, hg, hty, hvar, hd⟩ := h6
    obtain rfl := Option.some.inj (gn3.symm.trans hg)
    obtain rfl := Option.some.inj (gy3.symm.trans hty)
    have hcs := Lib.cells_of_tab Tryd.underlying94 Tryd.underlying5 (by kernel_rfl) (by kernel_rfl) hd
    rw [World.var?_cell hg hvar c, ← Array.getElem?_toList, hcs]
    simp [Lib.firstTab, hc]
  · obtain ⟨g, t, cs, fuel, p, hg, hty, hvar, hd⟩ := h3
    obtain rfl := Option.some.inj (gn4.symm.trans hg)
    obtain rfl := Option.some.inj (gy4.symm.trans hty)
    obtain ⟨fuel', d, q, hdi, he⟩ := Lib.array_elem Tryd.underlying97 hd i hi
    simp only [List.getElem?_map, List.getElem?_range hi, Option.map_some, Option.some.injEq] at hdi
    subst hdi
    have c2 : Tryd.prog.cellsOf 96 = 2 := by kernel_rfl
    have c1 : Tryd.prog.cellsOf 5 = 1 := by kernel_rfl
    rw [c2] at he
    have hcs := Lib.ints_of_struct Tryd.underlying96 (fun j f hj => by
      match j, hj with
      | 0, hj => simp at hj; subst hj; exact ⟨Tryd.underlying5, rfl, c1⟩
      | 1, hj => simp at hj; subst hj; exact ⟨Tryd.underlying5, rfl, c1⟩
      | j + 2, hj => simp at hj) (by rw [c2]; rfl) he
    have e0 := congrArg (·[0]?) hcs
    have e1 := congrArg (·[1]?) hcs
    simp only [List.getElem?_take, List.getElem?_drop] at e0 e1
    constructor
    · rw [World.var?_cell hg hvar (2 * i), ← Array.getElem?_toList]
      simpa [Nat.mul_comm] using e0
    · rw [World.var?_cell hg hvar (2 * i + 1), ← Array.getElem?_toList]
      simpa [Nat.mul_comm] using e1
  · obtain ⟨g, t, cs, fuel, p, hg, hty, hvar, hd⟩ := h2
    obtain rfl := Option.some.inj (gnP.symm.trans hg)
    obtain rfl := Option.some.inj (gyP.symm.trans hty)
    have hcs := Lib.cells_of_tab Tryd.underlying104 Tryd.underlying73 (by kernel_rfl) (by kernel_rfl) hd
    unfold Lib.TabIs
    rw [hvar, ← hcs]

/-- What a law of plain strings hands its row: the answer, the arguments as they were. -/
theorem post_below {H : Type} {enc : TypeId × Value → H} {P : Program} {f : Func} {s : ChangeSpec} {apart fresh handsOn again : Bool} {W W' : World} {args : Array Value} {v : Value} {ds gs : List (DataW H)}
    (hW : DataW.Whole enc P f.params.toList s.vars apart W args.toList ds gs [])
    (hres : ∀ (b : Nat) (sp : Nat → Bool) (hd : Bool), DataW.TrodAll enc P W' b sp hd f.resultTypes.toList (v.resultList f.resultTypes.size) (s.fn H (ds ++ gs)).results [])
    (hargs : ∀ sp : Nat → Bool, DataW.TrodAll enc P W' 0 sp true f.params.toList args.toList (s.fn H (ds ++ gs)).args [])
    (hvars : ∀ sp : Nat → Bool, DataW.TrodVars enc P W' sp s.vars (s.fn H (ds ++ gs)).vars [])
    (hb : Below W.heap.size W W')
    (hok : ∀ (j : Nat) (t : TypeId) (r : Value), f.resultTypes[j]? = some t → (v.resultList f.resultTypes.size)[j]? = some r → Value.okWide P W' .any 0 t r) :
    s.post enc P f apart fresh handsOn again W args v W' := by
  refine ⟨ds, gs, [], [], [], [], hW, hres _ _ _, hargs _, hvars _, hb.frame _, fun _ => ?_⟩
  refine ⟨hok, _, _, [], ⟨[], [], trodAll_append (hargs _) (hres _ _ _), hvars _, rfl, ?_, ?_⟩, ?_⟩
  · intro b off hp; simp at hp
  · intro _; simp
  · intro p hp _; simp at hp
end Go.Proofs.YtangbkiheoekaaaDoor
