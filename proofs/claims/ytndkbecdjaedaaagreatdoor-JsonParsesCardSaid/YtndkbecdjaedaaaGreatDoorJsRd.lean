/- What a call leaves of memory; the reader's memory. -/
import Derived.Test.YtndkbecdjaedaaaGreatDoorJsPlain
import Derived.Test.YtndkbecdjaedaaaGreatDoorJtNum
import Derived.Deep.AppendLies
import Derived.Laws.OwnMore
namespace Go.Proofs.YtndkbecdjaedaaaGreatDoor
open Go.RowKit

/-- A call leaves all as it was but the blocks of the list, and what is new. -/
structure Kp (S : List Nat) (w w' : World) : Prop where
  os : w'.os = w.os
  tape : w'.tape = w.tape
  output : w'.output = w.output
  size : w.heap.size ≤ w'.heap.size
  block : ∀ k, k < w.heap.size → k ∉ S → w'.heap[k]? = w.heap[k]?

section
variable {S S' : List Nat} {a b c w w' : World}
theorem Kp.refl (S : List Nat) (w : World) : Kp S w w := ⟨rfl, rfl, rfl, Nat.le_refl _, fun _ _ _ => rfl⟩
theorem Kp.trans (h : Kp S a b) (h' : Kp S' b c) (hs : ∀ k ∈ S', k ∈ S ∨ a.heap.size ≤ k) : Kp S a c :=
  ⟨h'.os.trans h.os, h'.tape.trans h.tape, h'.output.trans h.output, Nat.le_trans h.size h'.size, fun k hk hn => by
    rw [h'.block k (Nat.lt_of_lt_of_le hk h.size) (fun hm => (hs k hm).elim hn (fun h => by omega)), h.block k hk hn]⟩
theorem Kp.mono (h : Kp S a b) (hs : ∀ k ∈ S, k ∈ S' ∨ a.heap.size ≤ k) : Kp S' a b :=
  ⟨h.os, h.tape, h.output, h.size, fun k hk hn => h.block k hk (fun hm => (hs k hm).elim hn (fun h => by omega))⟩
theorem Kp.of_below (h : Below a.heap.size a b) : Kp S a b := ⟨h.os, h.tape, h.output, h.size, fun k hk _ => h.block k hk⟩
theorem Kp.below (h : Kp S a b) {B : Nat} (hs : ∀ k ∈ S, B ≤ k) (hB : B ≤ a.heap.size) : Below B a b :=
  ⟨h.os, h.tape, h.output, h.size, fun k hk => h.block k (by omega) (fun hm => by have := hs k hm; omega)⟩
theorem Kp.alloc (h : Kp S a w) (o : Obj) : Kp S a (w.alloc o) :=
  h.trans (S' := []) ⟨rfl, rfl, rfl, by simp, fun k hk _ => by first | exact heap_alloc_old w o hk | exact heap_alloc_old w o k hk⟩ (fun _ hk => by cases hk)
theorem Kp.setCell (h : Kp S a w) {p : Addr} (hp : p.block ∈ S ∨ a.heap.size ≤ p.block) (u : Value) : Kp S a (w.setCell p u) :=
  h.trans (S' := [p.block]) ⟨rfl, rfl, rfl, by simp [World.setCell], fun k _ hn => heap_setCell_other w p k u (fun e => hn (by simp [e]))⟩ (fun k hk => by
    rcases List.mem_singleton.1 hk with rfl; exact hp)
theorem Kp.drew (h : Kp S a w) : Kp S a w.drew := ⟨h.os, h.tape, h.output, h.size, h.block⟩
theorem Kp.grown (h : Kp S a w) {row : Option Nat} (hg : w.grownBy w' row) (hr : ∀ k, row = some k → k ∈ S ∨ a.heap.size ≤ k) : Kp S a w' :=
  h.trans (S' := row.toList) ⟨hg.os, hg.tape, hg.output, hg.size, fun k hk hn => hg.block k hk (fun e => hn (by rw [← e]; simp))⟩ (fun k hk => hr k (by simpa using hk))
theorem Kp.of_grown {row : Option Nat} (hg : a.grownBy b row) : Kp row.toList a b := (Kp.refl _ _).grown hg (fun k hk => .inl (by simp [hk]))
theorem Kp.cell (h : Kp S a b) {p : Addr} (hp : p.block < a.heap.size) (hn : p.block ∉ S) : b.cell? p = a.cell? p := World.cell?_of_block (h.block _ hp hn)
theorem Kp.grownBy {row : Option Nat} (h : Kp row.toList a b) : a.grownBy b row :=
  ⟨h.os, h.tape, h.output, h.size, fun k hk hn => h.block k hk (fun hm => hn (by simpa using (Option.mem_toList.1 hm).symm))⟩

/-- What is owned stays owned. -/
theorem own_kept {base : Nat} {e : TypeId} {size : Nat} {v : Value} {n : Nat} {xs : List Value} (h : a.ownsRow base e size v n xs) (hk : Kp S a b) (hn : ∀ k, v.ownBlock = some k → k ∉ S) : b.ownsRow base e size v n xs := by
  refine ⟨h.1, ?_⟩
  rcases h.2 with h2 | ⟨g, cap, cur, hv, hb, hg, r⟩
  · exact .inl h2
  · refine .inr ⟨g, cap, cur, hv, hb, ?_, r⟩
    rw [hk.block g (lt_of_block hg) (hn g (by rw [hv]; rfl))]
    exact hg
end

/-- Where a slice lies: where it lay, or in what is new. -/
def Loc (v v' : Value) (w : World) : Prop := ∀ k, v'.ownBlock = some k → v.ownBlock = some k ∨ w.heap.size ≤ k
theorem Loc.refl (v : Value) (w : World) : Loc v v w := fun _ h => .inl h
theorem Loc.trans {a b c : Value} {w w' : World} (h : Loc a b w) (h' : Loc b c w') (hs : w.heap.size ≤ w'.heap.size) : Loc a c w := fun k hk =>
  (h' k hk).elim (h k) (fun h => .inr (Nat.le_trans hs h))

/-- A value's cells. -/
def vcell (x : V) : List Value := [.int .i64 x.kind, .string ⟨x.key.toArray⟩, .string ⟨x.text.toArray⟩, .int .i64 x.count]
def vcells (l : List V) : List Value := l.flatMap vcell
theorem vcells_append (a b : List V) : vcells (a ++ b) = vcells a ++ vcells b := by simp [vcells]
theorem vcells_len (l : List V) : (vcells l).length = 4 * l.length := by
  induction l with
  | nil => rfl
  | cons x t ih =>
    have : vcells (x :: t) = vcell x ++ vcells t := rfl
    rw [this, List.length_append, ih]
    simp [vcell]; omega
theorem vcells_at (l : List V) (i j : Nat) (hi : i < l.length) (hj : j < 4) : (vcells l)[4 * i + j]? = (vcell l[i])[j]? := by
  induction l generalizing i with
  | nil => simp at hi
  | cons x t ih =>
    have e : vcells (x :: t) = vcell x ++ vcells t := rfl
    have hl : (vcell x).length = 4 := rfl
    cases i with
    | zero => rw [e, List.getElem?_append_left (by omega)]; simp
    | succ i =>
      rw [e, List.getElem?_append_right (by omega), hl]
      have := ih i (by simpa using hi)
      rw [show 4 * (i + 1) + j - 4 = 4 * i + j by omega, this]
      simp

/-- The reader at a block: the text to come, the row so far and where it lies, the error. -/
structure Rd (b : Nat) (l : List UInt8) (vs : List V) (v : Value) (e : Int) (w : World) : Prop where
  blk : w.heap[b]? = some (.cells #[.string ⟨l.toArray⟩, v, .int .i64 e] 83 (0, 0))
  own : w.ownsRow (b + 1) 56 4 v vs.length (vcells vs)

section
variable {b : Nat} {l l' : List UInt8} {vs vs' : List V} {v v' : Value} {e e' : Int} {w w' : World} {S : List Nat}
theorem Rd.lt (h : Rd b l vs v e w) : b < w.heap.size := lt_of_block h.blk
theorem Rd.ne (h : Rd b l vs v e w) : ∀ k, v.ownBlock = some k → b < k ∧ k < w.heap.size := fun k hk => by
  have := h.own.lt k hk
  omega
theorem Rd.c0 (h : Rd b l vs v e w) : w.cell? ⟨b, 0, none⟩ = some (.string ⟨l.toArray⟩) := by rw [cell_of_row w b 0 _ _ _ h.blk]; rfl
theorem Rd.c1 (h : Rd b l vs v e w) : w.cell? ⟨b, 1, none⟩ = some v := by rw [cell_of_row w b 1 _ _ _ h.blk]; rfl
theorem Rd.c2 (h : Rd b l vs v e w) : w.cell? ⟨b, 2, none⟩ = some (.int .i64 e) := by rw [cell_of_row w b 2 _ _ _ h.blk]; rfl
theorem Rd.free (h : Rd b l vs v e w) (j : Nat) : w.frozen? ⟨b, j, none⟩ = false := frozen_of_row w b j _ _ h.blk
theorem Rd.kept (h : Rd b l vs v e w) (hk : Kp S w w') (hb : b ∉ S) (hv : ∀ k, v.ownBlock = some k → k ∉ S) : Rd b l vs v e w' :=
  ⟨by rw [hk.block b h.lt hb]; exact h.blk, own_kept h.own hk hv⟩
theorem Rd.fresh (h : Rd b l vs v e w) (hk : Below w.heap.size w w') : Rd b l vs v e w' := h.kept (Kp.of_below (S := []) hk) (by simp) (fun _ _ => by simp)
theorem Rd.drew (h : Rd b l vs v e w) : Rd b l vs v e w.drew := ⟨h.blk, h.own.drew⟩
theorem Rd.put0 (h : Rd b l vs v e w) (l' : List UInt8) : Rd b l' vs v e (w.setCell ⟨b, 0, none⟩ (.string ⟨l'.toArray⟩)) :=
  ⟨heap_setCell_same w b 0 _ _ _ h.blk, ownsRow_setCell_other h.own (fun hk => by have := (h.ne b hk).1; omega) _⟩
theorem Rd.put1 (h : Rd b l vs v e w) (ho : w.ownsRow (b + 1) 56 4 v' vs'.length (vcells vs')) : Rd b l vs' v' e (w.setCell ⟨b, 1, none⟩ v') :=
  ⟨heap_setCell_same w b 1 _ _ _ h.blk, ownsRow_setCell_other ho (fun hk => by have := (ho.lt b hk).1; omega) _⟩
theorem Rd.put2 (h : Rd b l vs v e w) (e' : Int) : Rd b l vs v e' (w.setCell ⟨b, 2, none⟩ (.int .i64 e')) :=
  ⟨heap_setCell_same w b 2 _ _ _ h.blk, ownsRow_setCell_other h.own (fun hk => by have := (h.ne b hk).1; omega) _⟩
end

def wordB : Nat → ByteArray
  | 0 => ⟨#[110, 117, 108, 108]⟩
  | 1 => ⟨#[116, 114, 117, 101]⟩
  | _ => ⟨#[102, 97, 108, 115, 101]⟩
/-- The words' table. -/
def Words (w : World) : Prop := ∀ i, i < 3 → w.cell? ⟨1, i, none⟩ = some (.string (wordB i))
/-- What a call reads that came before the call: the library's tables, the words; the reader lies behind. -/
structure Ev (w0 : World) (b : Nat) (w : World) : Prop where
  env : Env w0
  words0 : Words w0
  low : w0.heap.size ≤ b
  bel : Below w0.heap.size w0 w
theorem Ev.kept {w0 w w' : World} {b : Nat} {S : List Nat} (h : Ev w0 b w) (hk : Kp S w w') (hS : ∀ k ∈ S, b ≤ k) : Ev w0 b w' :=
  ⟨h.env, h.words0, h.low, h.bel.trans (hk.below (fun k hm => Nat.le_trans h.low (hS k hm)) h.bel.size)⟩
theorem Ev.envAt {w0 w : World} {b : Nat} (h : Ev w0 b w) : Env w := h.env.below h.bel
theorem Ev.words {w0 w : World} {b : Nat} (h : Ev w0 b w) : Words w := fun i hi => (h.bel.cell (p := ⟨_, i, none⟩) (cell_lt (h.words0 i hi))).trans (h.words0 i hi)
theorem Ev.drew {w0 w : World} {b : Nat} (h : Ev w0 b w) : Ev w0 b w.drew := ⟨h.env, h.words0, h.low, h.bel.drew⟩

theorem trim_skip (l : List UInt8) : Lib.trimLeftS l [32, 9, 10, 13] = skip l := by
  unfold Lib.trimLeftS skip
  congr 1
  funext c
  unfold blank
  simp [Bool.or_assoc, Bool.beq_eq_decide_eq]
def blanksB : ByteArray := ⟨#[32, 9, 10, 13]⟩
theorem blanks_ascii : ∀ (j : Nat) b, blanksB.data.toList[j]? = some b → b.toNat < 128 := by
  intro j b h
  have : b ∈ blanksB.data.toList := List.mem_of_getElem? h
  simp [blanksB] at this
  rcases this with rfl | rfl | rfl | rfl <;> decide
end Go.Proofs.YtndkbecdjaedaaaGreatDoor
/- The reader's small methods: bad, sign, text, begins. -/
namespace Go.Proofs.YtndkbecdjaedaaaGreatDoor
open Go.RowKit

theorem take_extract (t : List UInt8) (n : Nat) : (⟨t.toArray⟩ : ByteArray).extract 0 n = ⟨(t.take n).toArray⟩ := by
  apply ByteArray.ext
  apply Array.toList_inj.1
  rw [ByteArray.data_extract]
  simp
theorem slice_low (t : List UInt8) (n : Nat) (hn : n ≤ t.length) : ∀ w, (Instr.slice 9 (.string ⟨t.toArray⟩) (some (.int .i64 (n : Int))) none none).run Tryz.prog w = .ok (.string ⟨(t.drop n).toArray⟩) w := by
  intro w
  have hs : (⟨t.toArray⟩ : ByteArray).size = t.length := by simp [ByteArray.size]
  have := run_slice_string_l (P := Tryz.prog) w 9 ⟨t.toArray⟩ Tryz.underlying9 .i64 (n : Int) (by omega) (by rw [hs]; omega)
  have he : (⟨t.toArray⟩ : ByteArray).extract (n : Int).toNat (⟨t.toArray⟩ : ByteArray).size = ⟨(t.drop n).toArray⟩ := ByteArray.ext (Array.toList_inj.1 (by rw [Int.toNat_natCast, Lib.extract_to_end]))
  rw [this, he]
theorem slice_high (t : List UInt8) (n : Nat) (hn : n ≤ t.length) : ∀ w, (Instr.slice 9 (.string ⟨t.toArray⟩) none (some (.int .i64 (n : Int))) none).run Tryz.prog w = .ok (.string ⟨(t.take n).toArray⟩) w := by
  intro w
  have hs : (⟨t.toArray⟩ : ByteArray).size = t.length := by simp [ByteArray.size]
  have := run_slice_string_h (P := Tryz.prog) w 9 ⟨t.toArray⟩ Tryz.underlying9 .i64 (n : Int) (by omega) (by rw [hs]; omega)
  have he : (⟨t.toArray⟩ : ByteArray).extract 0 (n : Int).toNat = ⟨(t.take n).toArray⟩ := by
    rw [Int.toNat_natCast]
    exact take_extract t n
  rw [this, he]

/-- The first error stays. -/
def firstE (e c : Int) : Int := if e = 0 then c else e

set_option maxHeartbeats 2000000 in
set_option maxRecDepth 100000 in
theorem bad_calls (b : Nat) (l : List UInt8) (vs : List V) (v : Value) (e c : Int) (w : World) (h : Rd b l vs v e w) :
    Calls Tryz.prog 61 #[.pointer (some ⟨b, 0, none⟩), .int .i64 c] w fun x w' => x = .returned (.tuple #[]) ∧ Rd b l vs v (firstE e c) w' ∧ Kp [b] w w' := by
  have c2 := h.c2
  have f2 := h.free 2
  have H := Lib.hid h
  clear h
  by_cases he : e = 0
  · subst he
    go_enter Tryz.func61, Tryz.ntmps61
    go_wp2
    go_end0
    exact ⟨rfl, H.out.put2 c, (Kp.refl _ _).setCell (.inl (by simp)) _⟩
  · have he' : (e == 0) = false := by simpa using he
    go_enter Tryz.func61, Tryz.ntmps61
    go_wp2
    go_end0
    refine ⟨rfl, ?_, Kp.refl _ _⟩
    unfold firstE; rw [if_neg he]; exact H.out

/-- What sign leaves: is it there; the text behind. -/
def signV (l s : List UInt8) : Bool × List UInt8 := if s.isPrefixOf (skip l) = true then (true, (skip l).drop s.length) else (false, skip l)

theorem hasP (l s : List UInt8) : Lib.hasPrefix l s = s.isPrefixOf l := rfl
theorem signV_eq (l s : List UInt8) : signV l s = (Lib.hasPrefix (skip l) s, Lib.trimPrefix (skip l) s) := by
  unfold signV Lib.trimPrefix
  rw [hasP]
  cases s.isPrefixOf (skip l) <;> rfl

set_option maxHeartbeats 2000000 in
set_option maxRecDepth 100000 in
theorem sign_calls (b : Nat) (l : List UInt8) (vs : List V) (v : Value) (e : Int) (s : ByteArray) (w : World) (h : Rd b l vs v e w) :
    Calls Tryz.prog 102 #[.pointer (some ⟨b, 0, none⟩), .string s] w fun x w' => x = .returned (.bool (signV l s.data.toList).1) ∧ Rd b (signV l s.data.toList).2 vs v e w' ∧ Kp [b] w w' := by
  have c0 := h.c0
  have H := Lib.hid h
  obtain ⟨T, hT⟩ : ∃ T, Lib.trimLeftS l blanksB.data.toList = T := ⟨_, rfl⟩
  have hT2 : skip l = T := by rw [← hT]; exact (trim_skip l).symm
  rw [signV_eq, hT2]
  have HT := Lib.hid hT
  obtain ⟨R, hR⟩ : ∃ R, Lib.trimPrefix T s.data.toList = R := ⟨_, rfl⟩
  obtain ⟨is, his⟩ : ∃ is, Lib.hasPrefix T s.data.toList = is := ⟨_, rfl⟩
  rw [hR, his]
  have HR := Lib.hid hR
  have HI := Lib.hid his
  clear h hT hT2 hR his
  go_enter Tryz.func102, Tryz.ntmps102
  go_wp2_with fail
  refine (Any.strings_TrimLeft_laid Tryz.lays161 (by kernel_rfl) ⟨l.toArray⟩ blanksB _ (by decide) blanks_ascii).mono ?_
  rintro e1 w1 ⟨rfl, hb1⟩
  rw [HT.out]
  have h1 := H.out.fresh hb1
  have k1 : Kp [b] w w1 := Kp.of_below hb1
  have h2 := h1.put0 T
  have k2 := k1.setCell (p := ⟨b, 0, none⟩) (.inl (by simp)) (.string ⟨T.toArray⟩)
  have f1 := h1.free 0
  have c1' := h1.c0
  have c1 := h2.c0
  have f2 := h2.free 0
  have HH := Lib.hid h2
  have HK := Lib.hid k2
  clear h1 h2 k1 k2 hb1
  go_wp2_with fail
  refine (Tryz.strings_CutPrefix ⟨T.toArray⟩ s _).mono ?_
  rintro e2 w2 ⟨rfl, rfl⟩
  rw [show Lib.trimPrefix (⟨T.toArray⟩ : ByteArray).data.toList s.data.toList = R from HR.out, show Lib.hasPrefix (⟨T.toArray⟩ : ByteArray).data.toList s.data.toList = is from HI.out]
  go_wp2_with fail
  go_ret
  exact ⟨rfl, HH.out.put0 R, HK.out.setCell (p := ⟨b, 0, none⟩) (.inl (by simp)) _⟩

theorem unqV_len {l x : List UInt8} {n : Nat} {ok : Bool} (h : unqV l = (x, n, ok)) : n ≤ l.length := by
  unfold unqV at h
  cases hu : unq l with
  | none => rw [hu] at h; cases h; omega
  | some p =>
    obtain ⟨y, m⟩ := p
    rw [hu] at h
    have := unq_bound hu
    cases h
    omega

set_option maxHeartbeats 2000000 in
set_option maxRecDepth 100000 in
theorem jtext_calls (b : Nat) (l : List UInt8) (vs : List V) (v : Value) (e : Int) (w w0 : World) (h : Rd b l vs v e w) (hE : Ev w0 b w) (hl : l.length ≤ 1099511627776) :
    Calls Tryz.prog 103 #[.pointer (some ⟨b, 0, none⟩)] w fun x w' => x = .returned (.string ⟨(unqV (skip l)).1.toArray⟩) ∧
      Rd b ((skip l).drop (unqV (skip l)).2.1) vs v (if (unqV (skip l)).2.2 = true then e else firstE e 3) w' ∧ Kp [b] w w' := by
  have c0 := h.c0
  have H := Lib.hid h
  have hsk := skip_len l
  obtain ⟨T, hT⟩ : ∃ T, Lib.trimLeftS l blanksB.data.toList = T := ⟨_, rfl⟩
  have hT2 : skip l = T := by rw [← hT]; exact (trim_skip l).symm
  rw [hT2] at hsk ⊢
  have HT := Lib.hid hT
  obtain ⟨⟨x, n, ok⟩, hu⟩ : ∃ u, unqV T = u := ⟨_, rfl⟩
  have hn := unqV_len hu
  have HU := Lib.hid hu
  rw [hu]
  have hlp := slice_low T n hn
  have hTs : (⟨T.toArray⟩ : ByteArray).size ≤ 1099511627776 := by simp [ByteArray.size]; omega
  clear h hT hT2 hu
  go_enter Tryz.func103, Tryz.ntmps103
  go_wp2_with fail
  refine (Any.strings_TrimLeft_laid Tryz.lays161 (by kernel_rfl) ⟨l.toArray⟩ blanksB _ (by decide) blanks_ascii).mono ?_
  rintro e1 w1 ⟨rfl, hb1⟩
  rw [HT.out]
  have h1 := H.out.fresh hb1
  have k1 : Kp [b] w w1 := Kp.of_below hb1
  have h2 := h1.put0 T
  have k2 := k1.setCell (p := ⟨b, 0, none⟩) (.inl (by simp)) (.string ⟨T.toArray⟩)
  have hE2 := hE.kept k2 (by simp)
  have f1 := h1.free 0
  have c1' := h1.c0
  have c1 := h2.c0
  have f2 := h2.free 0
  have HH := Lib.hid h2
  have HK := Lib.hid k2
  have HE := Lib.hid hE2
  clear h1 h2 k1 k2 hb1 hE2 hE
  go_wp2_with fail
  refine (unq_calls ⟨T.toArray⟩ _ hTs HE.out.envAt.u8).mono ?_
  rintro e2 w2 ⟨rfl, hb2⟩
  rw [show unqV (⟨T.toArray⟩ : ByteArray).data.toList = (x, n, ok) from HU.out]
  have h3 := HH.out.fresh hb2
  have k3 := HK.out.trans (Kp.of_below (S := []) hb2) (fun _ hk => by cases hk)
  have c3 := h3.c0
  have f3 := h3.free 0
  have HH3 := Lib.hid h3
  have HK3 := Lib.hid k3
  clear h3 k3 hb2
  cases ok with
  | true =>
    go_wp2_with fail
    go_ret
    exact ⟨rfl, HH3.out.put0 _, HK3.out.setCell (p := ⟨b, 0, none⟩) (.inl (by simp)) _⟩
  | false =>
    go_wp2_with fail
    refine (bad_calls b _ _ _ _ 3 _ HH3.out).mono ?_
    rintro e3 w3 ⟨rfl, h4, k4⟩
    have c4 := h4.c0
    have f4 := h4.free 0
    have k5 := HK3.out.trans k4 (fun k hk => .inl hk)
    have H4 := Lib.hid h4
    have K5 := Lib.hid k5
    clear h4 k4 k5
    go_wp2_with fail
    go_ret
    exact ⟨rfl, H4.out.put0 _, K5.out.setCell (p := ⟨b, 0, none⟩) (.inl (by simp)) _⟩

/-- What begins finds. -/
def beginE (t : List UInt8) (n deep : Nat) : Int :=
  match t with
  | [] => 3
  | c :: _ => if starts c = false then 3 else if 50 ≤ deep ∨ 5000 ≤ n then 2 else 0
def startsB : ByteArray := ⟨#[110, 116, 102, 34, 91, 123, 45, 48, 49, 50, 51, 52, 53, 54, 55, 56, 57]⟩
theorem starts_index : ∀ c : Nat, c < 256 → decide (Lib.indexByte startsB.data.toList (UInt8.ofNat c) < 0) = !starts (UInt8.ofNat c) := by decide +kernel

theorem head_index (c : UInt8) (t : List UInt8) : ∀ w, (Instr.index 9 (.string ⟨(c :: t).toArray⟩) (.int .i64 0)).run Tryz.prog w = .ok (.int .u8 c.toNat) w := by
  intro w
  have hr := run_index_string (P := Tryz.prog) w 9 ⟨(c :: t).toArray⟩ .i64 0 Tryz.underlying9
  rw [dif_pos ⟨by omega, by simp [ByteArray.size]⟩] at hr
  rw [hr]
  rfl
theorem starts_at (c : UInt8) : decide (Lib.indexByte startsB.data.toList c < 0) = !starts c := by
  have := starts_index c.toNat c.toNat_lt
  simpa using this

set_option maxHeartbeats 2000000 in
set_option maxRecDepth 100000 in
theorem begins_calls (b : Nat) (l : List UInt8) (vs : List V) (v : Value) (w : World) (deep : Nat) (h : Rd b l vs v 0 w) (hd : deep ≤ 50) (hn : vs.length ≤ 5000) :
    Calls Tryz.prog 100 #[.pointer (some ⟨b, 0, none⟩), .int .i64 (deep : Int)] w fun x w' => x = .returned (.bool (beginE (skip l) vs.length deep == 0)) ∧
      Rd b (skip l) vs v (beginE (skip l) vs.length deep) w' ∧ Kp [b] w w' := by
  have c0 := h.c0
  obtain ⟨a, cap, hv⟩ : ∃ a cap, v = .slice a vs.length cap := by
    rcases h.own.2 with ⟨hv, h0⟩ | ⟨g, cap, cur, hv, _⟩
    · exact ⟨none, 0, by rw [hv, h0]⟩
    · exact ⟨_, _, hv⟩
  have H := Lib.hid h
  obtain ⟨T, hT⟩ : ∃ T, Lib.trimLeftS l blanksB.data.toList = T := ⟨_, rfl⟩
  have hT2 : skip l = T := by rw [← hT]; exact (trim_skip l).symm
  rw [hT2]
  have HT := Lib.hid hT
  have HV := Lib.hid hv
  clear h hT hT2 hv
  go_enter Tryz.func100, Tryz.ntmps100
  go_wp2_with fail
  refine (Any.strings_TrimLeft_laid Tryz.lays161 (by kernel_rfl) ⟨l.toArray⟩ blanksB _ (by decide) blanks_ascii).mono ?_
  rintro e1 w1 ⟨rfl, hb1⟩
  rw [HT.out]
  have h1 := H.out.fresh hb1
  have k1 : Kp [b] w w1 := Kp.of_below hb1
  have h2 := h1.put0 T
  have k2 := k1.setCell (p := ⟨b, 0, none⟩) (.inl (by simp)) (.string ⟨T.toArray⟩)
  have f1 := h1.free 0
  have c1' := h1.c0
  have c1 := h2.c0
  have c3 := h2.c2
  have HH := Lib.hid h2
  have HK := Lib.hid k2
  have c2 : (w1.setCell ⟨b, 0, none⟩ (.string ⟨T.toArray⟩)).cell? ⟨b, 1, none⟩ = some v := h2.c1
  clear h1 h2 k1 k2 hb1
  cases T with
  | nil =>
    have hemp : ((⟨([] : List UInt8).toArray⟩ : ByteArray).toList.isEmpty) = true := by rw [Lib.toList_data]; rfl
    go_wp2_with fail
    refine (bad_calls b _ _ _ _ 3 _ HH.out).mono ?_
    rintro e3 w3 ⟨rfl, h4, k4⟩
    have c4 := h4.c2
    have k5 := HK.out.trans k4 (fun k hk => .inl hk)
    have H4 := Lib.hid h4
    have K5 := Lib.hid k5
    clear h4 k4 k5
    go_wp2_with fail
    go_ret
    exact ⟨rfl, H4.out, K5.out⟩
  | cons c t =>
    have hemp : ((⟨(c :: t).toArray⟩ : ByteArray).toList.isEmpty) = false := by rw [Lib.toList_data]; rfl
    have hidx := head_index c t
    have hst := starts_at c
    by_cases h1 : starts c = false
    · have hbe : beginE (c :: t) vs.length deep = 3 := by simp only [beginE]; rw [if_pos h1]
      have hlt : decide (Lib.indexByte startsB.data.toList c < 0) = true := by rw [hst, h1]; rfl
      have hlt' : Lib.indexByte startsB.data.toList c < 0 := by simpa using hlt
      obtain ⟨q, hq⟩ : ∃ q, Lib.indexByte startsB.data.toList c = q := ⟨_, rfl⟩
      rw [hq] at hlt'
      have HQ := Lib.hid hq
      have HBE := Lib.hid hbe
      clear h1 hbe hlt hst hq
      go_wp2_with fail
      refine (Tryz.strings_IndexByte startsB (c.toNat : Int) _).mono ?_
      rintro e2 w2 ⟨rfl, rfl⟩
      rw [show Lib.indexByte startsB.data.toList (c.toNat : Int).toNat.toUInt8 = q from by rw [Int.toNat_natCast, show c.toNat.toUInt8 = c from by simp]; exact HQ.out]
      go_wp2_with fail
      refine (bad_calls b _ _ _ _ 3 _ HH.out).mono ?_
      rintro e3 w3 ⟨rfl, h4, k4⟩
      have c4 := h4.c2
      have k5 := HK.out.trans k4 (fun k hk => .inl hk)
      have H4 := Lib.hid h4
      have K5 := Lib.hid k5
      clear h4 k4 k5
      go_wp2_with fail
      go_ret
      rw [HBE.out]
      exact ⟨rfl, H4.out, K5.out⟩
    · have h1' : starts c = true := by simpa using h1
      have hlt : decide (Lib.indexByte startsB.data.toList c < 0) = false := by rw [hst, h1']; rfl
      have hlt' : ¬ Lib.indexByte startsB.data.toList c < 0 := by simpa using hlt
      obtain ⟨q, hq⟩ : ∃ q, Lib.indexByte startsB.data.toList c = q := ⟨_, rfl⟩
      rw [hq] at hlt'
      have HQ := Lib.hid hq
      by_cases h2 : 50 ≤ deep ∨ 5000 ≤ vs.length
      · have hbe : beginE (c :: t) vs.length deep = 2 := by simp only [beginE]; rw [if_neg h1, if_pos h2]
        have HBE := Lib.hid hbe
        clear hbe hlt hst hq h1
        by_cases h3 : deep = 50
        · subst h3
          go_wp2_with fail
          refine (Tryz.strings_IndexByte startsB (c.toNat : Int) _).mono ?_
          rintro e2 w2 ⟨rfl, rfl⟩
          rw [show Lib.indexByte startsB.data.toList (c.toNat : Int).toNat.toUInt8 = q from by rw [Int.toNat_natCast, show c.toNat.toUInt8 = c from by simp]; exact HQ.out]
          go_wp2_with fail
          refine (bad_calls b _ _ _ _ 2 _ HH.out).mono ?_
          rintro e3 w3 ⟨rfl, h4, k4⟩
          have c4 := h4.c2
          have k5 := HK.out.trans k4 (fun k hk => .inl hk)
          have H4 := Lib.hid h4
          have K5 := Lib.hid k5
          clear h4 k4 k5
          go_wp2_with fail
          go_ret
          rw [HBE.out]
          exact ⟨rfl, H4.out, K5.out⟩
        · have h4 : vs.length = 5000 := by omega
          have e1 : ((deep : Int) == 50) = false := by simp; omega
          rw [HV.out, h4] at c2
          go_wp2_with fail
          refine (Tryz.strings_IndexByte startsB (c.toNat : Int) _).mono ?_
          rintro e2 w2 ⟨rfl, rfl⟩
          rw [show Lib.indexByte startsB.data.toList (c.toNat : Int).toNat.toUInt8 = q from by rw [Int.toNat_natCast, show c.toNat.toUInt8 = c from by simp]; exact HQ.out]
          go_wp2_with fail
          refine (bad_calls b _ _ _ _ 2 _ HH.out).mono ?_
          rintro e3 w3 ⟨rfl, h4, k4⟩
          have c4 := h4.c2
          have k5 := HK.out.trans k4 (fun k hk => .inl hk)
          have H4 := Lib.hid h4
          have K5 := Lib.hid k5
          clear h4 k4 k5
          go_wp2_with fail
          go_ret
          rw [HBE.out]
          exact ⟨rfl, H4.out, K5.out⟩
      · have hbe : beginE (c :: t) vs.length deep = 0 := by simp only [beginE]; rw [if_neg h1, if_neg h2]
        have HBE := Lib.hid hbe
        clear hbe hlt hst hq h1
        have e1 : ((deep : Int) == 50) = false := by simp; omega
        have e2 : ((vs.length : Int) == 5000) = false := by simp; omega
        rw [HV.out] at c2
        go_wp2_with fail
        refine (Tryz.strings_IndexByte startsB (c.toNat : Int) _).mono ?_
        rintro e2 w2 ⟨rfl, rfl⟩
        rw [show Lib.indexByte startsB.data.toList (c.toNat : Int).toNat.toUInt8 = q from by rw [Int.toNat_natCast, show c.toNat.toUInt8 = c from by simp]; exact HQ.out]
        go_wp2_with fail
        go_ret
        rw [HBE.out]
        exact ⟨rfl, HH.out, HK.out⟩
end Go.Proofs.YtndkbecdjaedaaaGreatDoor
/- A whole value is stored into the row. -/
namespace Go.Proofs.YtndkbecdjaedaaaGreatDoor
open Go.RowKit

theorem vcells_set (vs : List V) (i : Nat) (x : V) (hi : i < vs.length) : ((((vcells vs).set (i * 4) (.int .i64 x.kind)).set (i * 4 + 1) (.string ⟨x.key.toArray⟩)).set (i * 4 + 2) (.string ⟨x.text.toArray⟩)).set (i * 4 + 3) (.int .i64 x.count) = vcells (vs.set i x) := by
  induction vs generalizing i with
  | nil => simp at hi
  | cons y t ih =>
    have e : vcells (y :: t) = .int .i64 y.kind :: .string ⟨y.key.toArray⟩ :: .string ⟨y.text.toArray⟩ :: .int .i64 y.count :: vcells t := rfl
    rw [e]
    cases i with
    | zero => rfl
    | succ i =>
      have h := ih i (by simpa using hi)
      rw [show (i + 1) * 4 = i * 4 + 4 by omega]
      simp only [List.set_cons_succ]
      rw [h]
      rfl

/-- What a store of a whole value finds, and leaves. -/
theorem Rd.slot {b g n cap : Nat} {l : List UInt8} {vs : List V} {e : Int} {w : World} (h : Rd b l vs (.slice (some ⟨g, 0, none⟩) n cap) e w) {i : Nat} (hi : i < vs.length) :
    ∃ a0 a1 a2 a3, w.cell? ⟨g, i * 4, none⟩ = some a0 ∧ w.cell? ⟨g, i * 4 + 1, none⟩ = some a1 ∧ w.cell? ⟨g, i * 4 + 2, none⟩ = some a2 ∧ w.cell? ⟨g, i * 4 + 3, none⟩ = some a3 ∧
      w.frozen? ⟨g, i * 4, none⟩ = false ∧ w.frozen? ⟨g, i * 4 + 1, none⟩ = false ∧ w.frozen? ⟨g, i * 4 + 2, none⟩ = false ∧ w.frozen? ⟨g, i * 4 + 3, none⟩ = false := by
  have hn : n = vs.length := by
    rcases h.own.2 with ⟨hv, _⟩ | ⟨g', cap', cur, hv, _⟩
    · simp at hv
    · simp only [Value.slice.injEq] at hv; exact hv.2.1
  subst hn
  have hc : ∀ j, j < 4 → w.cell? ⟨g, i * 4 + j, none⟩ = (vcells vs)[i * 4 + j]? := fun j hj => h.own.cellAt _ (by omega)
  have hl : ∀ j, j < 4 → ∃ a, (vcells vs)[i * 4 + j]? = some a := fun j hj => ⟨_, List.getElem?_eq_getElem (by rw [vcells_len]; omega)⟩
  obtain ⟨a0, h0⟩ := hl 0 (by omega)
  obtain ⟨a1, h1⟩ := hl 1 (by omega)
  obtain ⟨a2, h2⟩ := hl 2 (by omega)
  obtain ⟨a3, h3⟩ := hl 3 (by omega)
  exact ⟨a0, a1, a2, a3, (hc 0 (by omega)).trans h0, (hc 1 (by omega)).trans h1, (hc 2 (by omega)).trans h2, (hc 3 (by omega)).trans h3, h.own.frozenAt _, h.own.frozenAt _, h.own.frozenAt _, h.own.frozenAt _⟩
theorem Rd.store {b g n cap : Nat} {l : List UInt8} {vs : List V} {e : Int} {w : World} (h : Rd b l vs (.slice (some ⟨g, 0, none⟩) n cap) e w) {i : Nat} (hi : i < vs.length) (x : V) :
    Rd b l (vs.set i x) (.slice (some ⟨g, 0, none⟩) n cap) e ((((w.setCell ⟨g, i * 4, none⟩ (.int .i64 x.kind)).setCell ⟨g, i * 4 + 1, none⟩ (.string ⟨x.key.toArray⟩)).setCell ⟨g, i * 4 + 2, none⟩ (.string ⟨x.text.toArray⟩)).setCell ⟨g, i * 4 + 3, none⟩ (.int .i64 x.count)).drew ∧
      Kp [g] w ((((w.setCell ⟨g, i * 4, none⟩ (.int .i64 x.kind)).setCell ⟨g, i * 4 + 1, none⟩ (.string ⟨x.key.toArray⟩)).setCell ⟨g, i * 4 + 2, none⟩ (.string ⟨x.text.toArray⟩)).setCell ⟨g, i * 4 + 3, none⟩ (.int .i64 x.count)).drew := by
  have hn : n = vs.length := by
    rcases h.own.2 with ⟨hv, _⟩ | ⟨g', cap', cur, hv, _⟩
    · simp at hv
    · simp only [Value.slice.injEq] at hv; exact hv.2.1
  subst hn
  have hg := (h.ne g rfl).1
  have k : Kp [g] w ((((w.setCell ⟨g, i * 4, none⟩ (.int .i64 x.kind)).setCell ⟨g, i * 4 + 1, none⟩ (.string ⟨x.key.toArray⟩)).setCell ⟨g, i * 4 + 2, none⟩ (.string ⟨x.text.toArray⟩)).setCell ⟨g, i * 4 + 3, none⟩ (.int .i64 x.count)).drew :=
    (((((Kp.refl _ _).setCell (.inl (by simp)) _).setCell (.inl (by simp)) _).setCell (.inl (by simp)) _).setCell (.inl (by simp)) _).drew
  refine ⟨⟨by rw [k.block b h.lt (by simp; omega)]; exact h.blk, ?_⟩, k⟩
  have o1 := (h.own.stored (i * 4) (.int .i64 x.kind)).1
  have o2 := (o1.stored (i * 4 + 1) (.string ⟨x.key.toArray⟩)).1
  have o3 := (o2.stored (i * 4 + 2) (.string ⟨x.text.toArray⟩)).1
  have o4 := (o3.stored (i * 4 + 3) (.int .i64 x.count)).1
  rw [vcells_set vs i x hi] at o4
  rw [List.length_set]
  exact o4.drew

end Go.Proofs.YtndkbecdjaedaaaGreatDoor
