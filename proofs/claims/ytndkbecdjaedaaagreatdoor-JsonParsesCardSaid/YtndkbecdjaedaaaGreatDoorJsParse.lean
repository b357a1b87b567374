/- json.Parse, for every slice of bytes. -/
import Derived.Test.YtndkbecdjaedaaaGreatDoorJsVal
import Derived.Test.YtndkbecdjaedaaaGreatDoorJsVs
import Derived.BigQuiet
namespace Go.Proofs.YtndkbecdjaedaaaGreatDoor
open Go.RowKit

theorem all_V : ∀ f, VOK f := fun f => by
  induction f using Nat.strongRecOn with
  | _ f ih =>
    cases f with
    | zero => intro b l vs v key deep w w0 h hE hd hn hf hl; omega
    | succ f => exact val_step f (fun g hg => ih g (by omega))

/-- What Parse hands back. -/
def ParseR (w : World) (r : Except Int (List V)) (e : Ending) (w' : World) : Prop :=
  match r with
  | .error c => e = .returned (.tuple #[.slice none 0 0, .int .i64 c])
  | .ok l => ∃ v, e = .returned (.tuple #[v, .int .i64 0]) ∧ w'.ownsRow w.heap.size 56 4 v l.length (vcells l)

set_option maxHeartbeats 4000000 in
set_option maxRecDepth 1000000 in
theorem parse_text (v : Value) (l : List UInt8) (w : World) (hcv : (convert 22 9 v).run Tryz.prog w = .ok (.string ⟨l.toArray⟩) w) (hlen : ∃ a cap, v = .slice a l.length cap) (hE : Env w) (hW : Words w) (hl : l.length ≤ 1099511627775) :
    Calls Tryz.prog 28 #[v] w fun e w' => ParseR w (jparse l) e w' ∧ Below w.heap.size w w' := by
  obtain ⟨a, cap, hv⟩ := hlen
  have R0 : Hid (Rd w.heap.size l [] (.slice none 0 0) 0 (w.alloc (.cells #[.string ⟨l.toArray⟩, .slice none 0 0, .int .i64 0] 83))) :=
    Lib.hid ⟨heap_alloc_new _ _, World.ownsRow_nil _ _ _ _⟩
  have E0 : Hid (Ev w w.heap.size (w.alloc (.cells #[.string ⟨l.toArray⟩, .slice none 0 0, .int .i64 0] 83))) := Lib.hid ⟨hE, hW, Nat.le_refl _, (Below.refl _ _).alloc (Nat.le_refl _) _⟩
  clear hE hW
  subst hv
  go_enter Tryz.func28, Tryz.ntmps28
  go_wp2_with fail
  refine (all_V (2 * l.length + 2) w.heap.size l [] _ [] 0 _ w R0.out E0.out (by omega) (by simp) (by omega) (by omega)).mono ?_
  rintro e1 w1 ⟨rfl, hP⟩
  obtain ⟨l', vs', v', e', h1, hloc, _, h5, hl', hres⟩ := hP.ex
  have k1 : Below w.heap.size w w1 := ((Below.refl w.heap.size w).alloc (Nat.le_refl _) _).trans (hP.kp.below (fun k hk => by simp [Value.ownBlock] at hk; omega) (by simp))
  have hpj : jparse l = match pval (2 * l.length + 2) l 0 [] 0 with | .error e => .error e | .ok (vs, r) => if skip r = [] then .ok vs else .error 3 := rfl
  have HPJ := Lib.hid hpj
  have H1 := Lib.hid h1
  have K1 := Lib.hid k1
  have c0 := h1.c0
  have c1 := h1.c1
  have c2 := h1.c2
  obtain ⟨T, hT⟩ : ∃ T, Lib.trimLeftS l' blanksB.data.toList = T := ⟨_, rfl⟩
  have hT2 : skip l' = T := by rw [← hT]; exact (trim_skip l').symm
  have HT := Lib.hid hT
  have HT2 := Lib.hid hT2
  clear hP h1 k1 hpj hT hT2 hloc R0 E0
  go_wp2_with fail
  refine (Any.strings_TrimLeft_laid Tryz.lays161 (by kernel_rfl) ⟨l'.toArray⟩ blanksB _ (by decide) blanks_ascii).mono ?_
  rintro e2 w2 ⟨rfl, hb2⟩
  rw [HT.out]
  have H2 := Lib.hid (H1.out.fresh hb2)
  have K2 := Lib.hid (K1.out.trans (hb2.mono K1.out.size))
  have d2 := H2.out.c2
  have d1 := H2.out.c1
  clear hb2 c0 c1 c2
  cases hp : pval (2 * l.length + 2) l ([] : List V).length [] 0 with
  | error x =>
    rw [hp] at hres
    obtain ⟨rfl, he0⟩ := hres
    have hjp : jparse l = .error e' := by rw [HPJ.out, show pval (2 * l.length + 2) l 0 [] 0 = .error e' from hp]
    have HJP := Lib.hid hjp
    have he1 : (e' == 0) = false := by simpa using he0
    have he2 : (e' != 0) = true := by simpa using he0
    have HE0 := Lib.hid he0
    clear hjp hp he0
    cases T with
    | nil =>
      have hemp : ((⟨([] : List UInt8).toArray⟩ : ByteArray).toList.isEmpty) = true := by rw [Lib.toList_data]; rfl
      go_wp2_with fail
      go_quiet (fail)
      go_wp2_with fail
      go_ret2
      rw [HJP.out]
      exact ⟨rfl, below_drewN K2.out nq⟩
    | cons c t =>
      have hemp : ((⟨(c :: t).toArray⟩ : ByteArray).toList.isEmpty) = false := by rw [Lib.toList_data]; rfl
      go_wp2_with fail
      refine (bad_calls w.heap.size _ _ _ _ 3 _ H2.out).mono ?_
      rintro e3 w3 ⟨rfl, h3, k3⟩
      have hfe : firstE e' 3 = e' := by unfold firstE; rw [if_neg HE0.out]
      rw [hfe] at h3
      have d3 := h3.c2
      have K3 := Lib.hid (K2.out.trans (k3.below (fun k hk => by simp at hk; omega) K2.out.size))
      clear h3 k3 hfe d1 d2
      go_wp2_with fail
      go_quiet (fail)
      go_wp2_with fail
      go_ret2
      rw [HJP.out]
      exact ⟨rfl, below_drewN K3.out nq⟩
  | ok p =>
    obtain ⟨xs, r⟩ := p
    rw [hp] at hres
    obtain ⟨rfl, rfl, hvs⟩ := hres
    rw [List.nil_append] at hvs
    subst hvs
    have hjp : jparse l = if skip l' = [] then .ok vs' else .error 3 := by rw [HPJ.out, show pval (2 * l.length + 2) l 0 [] 0 = .ok (vs', l') from hp]
    have HJP := Lib.hid hjp
    clear hjp hp
    cases T with
    | nil =>
      have hemp : ((⟨([] : List UInt8).toArray⟩ : ByteArray).toList.isEmpty) = true := by rw [Lib.toList_data]; rfl
      have hjp : jparse l = .ok vs' := by rw [HJP.out, if_pos HT2.out]
      have HJQ := Lib.hid hjp
      clear hjp
      go_wp2_with fail
      go_ret2
      rw [HJQ.out]
      exact ⟨⟨v', rfl, own_lower H2.out.own⟩, K2.out⟩
    | cons c t =>
      have hemp : ((⟨(c :: t).toArray⟩ : ByteArray).toList.isEmpty) = false := by rw [Lib.toList_data]; rfl
      have hjp : jparse l = .error 3 := by rw [HJP.out, if_neg (by rw [HT2.out]; simp)]
      have HJQ := Lib.hid hjp
      clear hjp
      go_wp2_with fail
      refine (bad_calls w.heap.size _ _ _ _ 3 _ H2.out).mono ?_
      rintro e3 w3 ⟨rfl, h3, k3⟩
      have d3 : w3.cell? ⟨w.heap.size, 2, none⟩ = some (.int .i64 3) := h3.c2
      have K3 := Lib.hid (K2.out.trans (k3.below (fun k hk => by simp at hk; omega) K2.out.size))
      clear h3 k3 d1 d2
      go_wp2_with fail
      go_quiet (fail)
      go_wp2_with fail
      go_ret2
      rw [HJQ.out]
      exact ⟨rfl, below_drewN K3.out nq⟩
theorem parse_calls (v : Value) (l : List UInt8) (w : World) (h : Bs w v l) (hE : Env w) (hW : Words w) (hl : l.length ≤ 1099511627775) :
    Calls Tryz.prog 28 #[v] w fun e w' => ParseR w (jparse l) e w' ∧ Below w.heap.size w w' := parse_text v l w h.text h.len hE hW hl

/-- A slice of bytes that is handed in: an empty one may lie anywhere. -/
def Bt (w : World) (v : Value) (l : List UInt8) : Prop := Bs w v l ∨ (l = [] ∧ ∃ a c, v = .slice (some a) 0 c)
theorem Bt.kept {w w' : World} {v : Value} {l : List UInt8} (h : Bt w v l) (hb : Below w.heap.size w w') : Bt w' v l := h.imp (·.kept hb) id
theorem Bt.len {w : World} {v : Value} {l : List UInt8} (h : Bt w v l) : ∃ a cap, v = .slice a l.length cap := by
  rcases h with h | ⟨rfl, a, c, rfl⟩
  · exact h.len
  · exact ⟨_, _, rfl⟩
theorem Bt.text {w : World} {v : Value} {l : List UInt8} (h : Bt w v l) : (convert 22 9 v).run Tryz.prog w = .ok (.string ⟨l.toArray⟩) w := by
  rcases h with h | ⟨rfl, a, c, rfl⟩
  · exact h.text
  · exact run_convert_bytes_back (P := Tryz.prog) w 22 9 5 a c [] Tryz.underlying22 Tryz.underlying5 Tryz.underlying9 (fun j hj => absurd hj (by simp))
theorem parse_any (v : Value) (l : List UInt8) (w : World) (h : Bt w v l) (hE : Env w) (hW : Words w) (hl : l.length ≤ 1099511627775) :
    Calls Tryz.prog 28 #[v] w fun e w' => ParseR w (jparse l) e w' ∧ Below w.heap.size w w' := parse_text v l w h.text h.len hE hW hl
end Go.Proofs.YtndkbecdjaedaaaGreatDoor
