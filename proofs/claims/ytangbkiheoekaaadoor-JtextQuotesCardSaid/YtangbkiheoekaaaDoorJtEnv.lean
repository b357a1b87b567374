/- What the package-level variables of Go's library must hold; and that it stays. -/
import Derived.Test.YtangbkiheoekaaaDoorJtUnq2
import Derived.WalkSmall
namespace Go.Proofs.YtangbkiheoekaaaDoor
open Go.RowKit

theorem cell_lt {w : World} {b o : Nat} {v : Value} (h : w.cell? ⟨b, o, none⟩ = some v) : b < w.heap.size := by
  rcases Nat.lt_or_ge b w.heap.size with h' | h'
  · exact h'
  · unfold World.cell? at h
    simp [Array.getElem?_eq_none h'] at h

theorem u8_below {w w' : World} (h : U8 w) (hb : Below w.heap.size w w') : U8 w' :=
  ⟨fun c hc => (hb.cell (p := ⟨_, c, none⟩) (cell_lt (h.1 c hc))).trans (h.1 c hc),
   fun i hi => ⟨(hb.cell (p := ⟨_, 2 * i, none⟩) (cell_lt (h.2 i hi).1)).trans (h.2 i hi).1, (hb.cell (p := ⟨_, 2 * i + 1, none⟩) (cell_lt (h.2 i hi).2)).trans (h.2 i hi).2⟩⟩

theorem var_below {w w' : World} {n : String} {cs : Array Value} (h : w.var? Tryd.prog n = some cs) (hb : Below w.heap.size w w') : w'.var? Tryd.prog n = some cs := by
  unfold World.var? at h ⊢
  cases hg : Tryd.prog.globalNamed n with
  | none => rw [hg] at h; simp at h
  | some g =>
    rw [hg] at h
    simp only [Option.bind_some] at h ⊢
    have hlt : g < w.heap.size := by
      rcases Nat.lt_or_ge g w.heap.size with h' | h'
      · exact h'
      · rw [Array.getElem?_eq_none h'] at h; simp at h
    rw [hb.block g hlt]; exact h

/-- The variables that the road reads. -/
structure Env (w : World) : Prop where
  u8 : U8 w
  pow : Lib.TabIs Tryd.prog w "internal/strconv.uint64pow10" .u64 Lib.pow10Tab
  errS : ∃ tp p, w.var? Tryd.prog "strconv.ErrSyntax" = some #[.iface tp p]
  errR : ∃ tp p, w.var? Tryd.prog "strconv.ErrRange" = some #[.iface tp p]

theorem Env.below {w w' : World} (h : Env w) (hb : Below w.heap.size w w') : Env w' where
  u8 := u8_below h.u8 hb
  pow := var_below h.pow hb
  errS := let ⟨tp, p, hv⟩ := h.errS; ⟨tp, p, var_below hv hb⟩
  errR := let ⟨tp, p, hv⟩ := h.errR; ⟨tp, p, var_below hv hb⟩

end Go.Proofs.YtangbkiheoekaaaDoor
