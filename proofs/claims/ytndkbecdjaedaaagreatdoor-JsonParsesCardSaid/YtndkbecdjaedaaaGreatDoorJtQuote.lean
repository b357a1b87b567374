/- jtext.runeAt at the table of short escapes, and jtext.Quote: what they come to, for every string. -/
import Derived.Test.YtndkbecdjaedaaaGreatDoorJtBuilder
import Derived.Test.YtndkbecdjaedaaaGreatDoorJtFun
import Derived.Lib.OthersKept
import Derived.WalkSpells
import Derived.StillTailTactics
namespace Go.Proofs.YtndkbecdjaedaaaGreatDoor
open Go.RowKit

def means7 : ByteArray := ⟨#[8, 9, 10, 12, 13, 34, 92]⟩
def meansL : List Nat := [8, 9, 10, 12, 13, 34, 92]
/-- The place of a character among those with a short escape, or -1. -/
def idxR (r : Nat) : Int := if r = 8 then 0 else if r = 9 then 1 else if r = 10 then 2 else if r = 12 then 3 else if r = 13 then 4 else if r = 34 then 5 else if r = 92 then 6 else -1

theorem means7_decode (pos : Nat) (h : pos < 7) : Utf8.decode means7 pos = (meansL.getD pos 0, 1) := by
  match pos, h with
  | 0, _ => decide
  | 1, _ => decide
  | 2, _ => decide
  | 3, _ => decide
  | 4, _ => decide
  | 5, _ => decide
  | 6, _ => decide

theorem idxR_hit (r pos : Nat) (h : pos < 7) (hn : r ∉ meansL.take pos) (e : meansL.getD pos 0 = r) : idxR r = pos := by
  match pos, h with
  | 0, _ => simp [meansL] at *; subst e; rfl
  | 1, _ => simp [meansL] at *; subst e; rfl
  | 2, _ => simp [meansL] at *; subst e; rfl
  | 3, _ => simp [meansL] at *; subst e; rfl
  | 4, _ => simp [meansL] at *; subst e; rfl
  | 5, _ => simp [meansL] at *; subst e; rfl
  | 6, _ => simp [meansL] at *; subst e; rfl
theorem idxR_miss (r : Nat) (hn : r ∉ meansL.take 7) : idxR r = -1 := by
  simp [meansL] at hn; unfold idxR; simp [hn]
theorem notin_step (r pos : Nat) (h : pos < 7) (hn : r ∉ meansL.take pos) (e : ¬ meansL.getD pos 0 = r) : r ∉ meansL.take (pos + 1) := by
  rw [List.take_succ_eq_append_getElem (by simpa [meansL] using h)]
  rw [List.getD_eq_getElem?_getD, List.getElem?_eq_getElem (by simpa [meansL] using h)] at e
  simp only [List.mem_append, List.mem_singleton]
  rintro (h1 | h1)
  · exact hn h1
  · exact e h1.symm

set_option maxHeartbeats 2000000 in
set_option maxRecDepth 100000 in
theorem runeAt_means (r : Nat) (w : World) :
    Calls Tryz.prog 146 #[.string means7, .int .i32 r] w fun e w' => e = .returned (.int .i64 (idxR r)) ∧ Below w.heap.size w w' := by
  have hsz : means7.size = 7 := rfl
  go_enter Tryz.func146, Tryz.ntmps146
  go_wp2
  go_loopw [] (fun wr => ∃ pos : Nat, pos ≤ 7 ∧ wr.heap[w.heap.size]? = some (.stringIter means7 pos) ∧ Below w.heap.size w wr ∧ r ∉ meansL.take pos) (fun wr => 7 - wr.iterPos w.heap.size)
  case atStart =>
    refine ⟨0, by omega, ?_, (Below.refl _ w).alloc (Nat.le_refl _) _, by simp⟩
    exact World.iter_heap w means7 0
  case round =>
    obtain ⟨pos, hp7, hit, hbw, hn⟩ := hrel
    by_cases hp : pos < 7
    · have hd := means7_decode pos hp
      have hnx : ∀ ty, (Instr.next (.pointer (some ⟨w.heap.size, 0, none⟩)) true ty).run Tryz.prog wr = _ := fun ty => Lib.run_next_any_at wr w.heap.size means7 pos ty hit (by rw [hsz]; exact hp)
      have hit2 := Lib.iterAt_heap wr w.heap.size means7 pos (pos + (Utf8.decode means7 pos).2) hit
      have hbw2 := Lib.below_iterAt hbw (k := w.heap.size) (by omega) means7 (pos + (Utf8.decode means7 pos).2)
      rw [hd] at hnx hit2 hbw2
      obtain ⟨m, hm⟩ : ∃ m, meansL.getD pos 0 = m := ⟨_, rfl⟩
      simp only [hm] at hnx hit2 hbw2
      have HM := Lib.hid hm
      clear hm hd
      by_cases hmr : m = r
      · have hb : ((m : Int) == (r : Int)) = true := by rw [hmr]; simp
        have HI := Lib.hid (idxR_hit r pos hp hn (HM.out.trans hmr))
        clear hmr
        go_wp2
        go_ret
        rw [HI.out]
        exact ⟨rfl, hbw2⟩
      · have hb : ((m : Int) == (r : Int)) = false := by simp; omega
        have HN := Lib.hid (notin_step r pos hp hn (by rw [HM.out]; exact hmr))
        go_wp2
        go_roundw
        case rel => exact ⟨pos + 1, by omega, hit2, hbw2, HN.out⟩
        case measure =>
          simp only [World.iterPos, hit2, hit]
          omega
    · have hp' : pos = 7 := by omega
      have hnx : ∀ ty, (Instr.next (.pointer (some ⟨w.heap.size, 0, none⟩)) true ty).run Tryz.prog wr = _ := fun ty => Lib.run_next_end_at wr w.heap.size means7 pos ty hit (by rw [hsz]; omega)
      have HI := Lib.hid (idxR_miss r (by rw [← hp']; exact hn))
      clear hp'
      go_wp2
      go_ret
      rw [HI.out]
      exact ⟨rfl, hbw⟩

def shortsB : ByteArray := ⟨#[98, 116, 110, 102, 114, 34, 92, 47]⟩

theorem iter_pos {k : Nat} {wr : World} {s : ByteArray} {p : Nat} (h : wr.heap[k]? = some (.stringIter s p)) : wr.iterPos k = p := by
  simp only [World.iterPos, h]

theorem drop_ne {α : Type} (l : List α) (p : Nat) (h : p < l.length) : l.drop p ≠ [] := by
  intro e
  have := congrArg List.length e
  rw [List.length_drop] at this
  simp at this; omega

/-- What one round of Quote's loop adds. -/
theorem quote_acc {L acc : List UInt8} {pos : Nat} (hp : pos < L.length) (h : acc ++ qin (L.drop pos) = 34 :: qin L) (x : List UInt8) (hx : qrune (dec (L.drop pos)).1 = x) :
    (acc ++ x) ++ qin (L.drop (pos + (dec (L.drop pos)).2)) = 34 :: qin L := by
  rw [← h, qin_step (drop_ne L pos hp), hx, List.drop_drop, List.append_assoc]

theorem idxR_short (r : Nat) (h : 0 ≤ idxR r) : (idxR r).toNat < 7 ∧ idxR r < 7 ∧ qrune r = [92, shortsB.data.toList.getD (idxR r).toNat 0] ∧ r < 128 := by
  unfold idxR at *
  by_cases h8 : r = 8
  · subst h8; decide
  by_cases h9 : r = 9
  · subst h9; decide
  by_cases h10 : r = 10
  · subst h10; decide
  by_cases h12 : r = 12
  · subst h12; decide
  by_cases h13 : r = 13
  · subst h13; decide
  by_cases h34 : r = 34
  · subst h34; decide
  by_cases h92 : r = 92
  · subst h92; decide
  simp [h8, h9, h10, h12, h13, h34, h92] at h
theorem idxR_neg (r : Nat) (h : ¬ 0 ≤ idxR r) : idxR r = -1 := by
  unfold idxR at *
  repeat' split
  all_goals first | rfl | (simp_all; done)
theorem idxR_none (r : Nat) (h : ¬ 0 ≤ idxR r) : qrune r = if r < 32 then [92, 117, 48, 48, hexd (r / 16), hexd (r % 16)] else enc r := by
  unfold idxR at h
  unfold qrune
  by_cases h8 : r = 8
  · subst h8; simp at h
  by_cases h9 : r = 9
  · subst h9; simp at h
  by_cases h10 : r = 10
  · subst h10; simp at h
  by_cases h12 : r = 12
  · subst h12; simp at h
  by_cases h13 : r = 13
  · subst h13; simp at h
  by_cases h34 : r = 34
  · subst h34; simp at h
  by_cases h92 : r = 92
  · subst h92; simp at h
  simp [h8, h9, h10, h12, h13, h34, h92]

def hexB : ByteArray := ⟨#[48, 49, 50, 51, 52, 53, 54, 55, 56, 57, 97, 98, 99, 100, 101, 102]⟩
theorem hexB_facts : ∀ n : Nat, n < 16 → hexB[n]? = some (hexd n) ∧ (Utf8.encode ((hexd n).toNat : Int)).data.toList = [hexd n] := by decide
theorem hex_index (x : Int) (h0 : 0 ≤ x) (h1 : x < 16) (k : IntKind) : ∃ (c : Nat) (T : ByteArray), T.data.toList = [hexd x.toNat] ∧
    (∀ w, (Instr.index 9 (.string ⟨#[48, 49, 50, 51, 52, 53, 54, 55, 56, 57, 97, 98, 99, 100, 101, 102]⟩) (.int k x)).run Tryz.prog w = .ok (.int .u8 c) w) ∧
    (∀ w, (convert 5 9 (.int .u8 c)).run Tryz.prog w = .ok (.string T) w) := by
  obtain ⟨hc, e⟩ := hexB_facts x.toNat (by omega)
  refine ⟨(hexd x.toNat).toNat, Utf8.encode ((hexd x.toNat).toNat : Int), e, fun w => ?_, fun w => ?_⟩
  · have hs : hexB.size = 16 := rfl
    have hr := run_index_string (P := Tryz.prog) w 9 hexB k x Tryz.underlying9
    rw [dif_pos ⟨h0, by rw [hs]; omega⟩] at hr
    have hg : hexB[x.toNat]'(by rw [hs]; omega) = hexd x.toNat := by
      have := ByteArray.getElem?_lt' hexB x.toNat (by rw [hs]; omega)
      rw [hc] at this
      exact (Option.some.inj this).symm
    rw [hg] at hr
    exact hr
  · exact run_convert_int_string (P := Tryz.prog) w 5 9 .u8 _ (by rw [Tryz.underlying5]; rfl) Tryz.underlying9

theorem and15 : ∀ r : Nat, r < 32 → bits BinOp.and IntKind.i32 (r : Int) 15 = (r : Int) % 16 := by decide
theorem add_run (a b : ByteArray) (h : a.size + b.size ≤ 9223372036854775807) : ∃ U : ByteArray, U.data.toList = a.data.toList ++ b.data.toList ∧
    ∀ w, (Op.stringOp .add a b).run Tryz.prog w = .ok (.string U) w :=
  ⟨a ++ b, by simp [ByteArray.data_append], fun w => run_string_add_sum w a b h⟩

set_option maxHeartbeats 4000000 in
set_option maxRecDepth 1000000 in
theorem quote_calls (s : ByteArray) (w : World) (hs : s.size ≤ 1099511627776) :
    Calls Tryz.prog 97 #[.string s] w fun e w' => e = .returned (.string ⟨(quote s.data.toList).toArray⟩) ∧ Below w.heap.size w w' := by
  have hL : s.data.toList.length = s.size := by simp
  go_enter Tryz.func97, Tryz.ntmps97
  go_wp2_with fail
  refine (writeByte w.heap.size w.heap.size [] 34 _ (bld_new w) (by simp) (by simp)).mono ?_
  rintro e W0 ⟨rfl, hI0, b0, k0⟩
  go_wp2
  have hWs : w.heap.size < W0.heap.size := by have := b0.size; simp at this; omega
  have b00 : Below w.heap.size w W0 := ((Below.refl _ w).alloc (Nat.le_refl _) _).trans b0
  go_loopw [] (fun wr => ∃ (pos : Nat) (acc : List UInt8), Bld w.heap.size w.heap.size acc wr ∧ wr.heap[W0.heap.size]? = some (.stringIter s pos) ∧ Below w.heap.size w wr ∧ acc ++ qin (s.data.toList.drop pos) = 34 :: qin s.data.toList ∧ acc.length ≤ 6 * pos + 1 ∧ pos ≤ s.size) (fun wr => s.size - wr.iterPos W0.heap.size)
  case atStart =>
    refine ⟨0, [34], hI0.alloc _, ?_, b00.alloc (by omega) _, by simp, by simp, by omega⟩
    exact World.iter_heap W0 s 0
  case round =>
    obtain ⟨pos, acc, hI, hit, hbw, hacc, hal, hps⟩ := hrel
    have hksz : W0.heap.size < wr.heap.size := (Array.getElem?_eq_some_iff.1 hit).1
    by_cases hp : pos < s.size
    · have hnx : ∀ ty, (Instr.next (.pointer (some ⟨W0.heap.size, 0, none⟩)) true ty).run Tryz.prog wr = _ := fun ty => Lib.run_next_any_at wr W0.heap.size s pos ty hit hp
      have hI2 := hI.iterAt hit (pos + (Utf8.decode s pos).2)
      have hit2 := Lib.iterAt_heap wr W0.heap.size s pos (pos + (Utf8.decode s pos).2) hit
      have hbw2 := Lib.below_iterAt hbw (k := W0.heap.size) (by omega) s (pos + (Utf8.decode s pos).2)
      have hsz2 : w.heap.size ≤ (wr.iterAt W0.heap.size s (pos + (Utf8.decode s pos).2)).heap.size := by rw [Lib.iterAt_size]; omega
      have hwd := dec_width (drop_ne s.data.toList pos (by omega))
      have hrl := dec_rune_le (drop_ne s.data.toList pos (by omega))
      have hqa := quote_acc (by omega) hacc
      rw [List.length_drop, hL] at hwd
      rw [decode_list] at hnx hI2 hit2 hbw2 hsz2
      obtain ⟨r, hr⟩ : ∃ r, (dec (s.data.toList.drop pos)).1 = r := ⟨_, rfl⟩
      obtain ⟨d, hd⟩ : ∃ d, (dec (s.data.toList.drop pos)).2 = d := ⟨_, rfl⟩
      simp only [hr, hd] at hnx hI2 hit2 hbw2 hsz2 hwd hrl hqa
      clear hr hd hacc
      have HQ := Lib.hid hqa
      clear hqa
      by_cases hix : 0 ≤ idxR r
      · obtain ⟨hi1, hi2, hi3, hi4⟩ := idxR_short r hix
        have HS := Lib.hid hi3
        obtain ⟨x, hx⟩ : ∃ x : Nat, idxR r = x := ⟨(idxR r).toNat, by omega⟩
        rw [hx] at hi1 hi2
        have HX := Lib.hid hx
        have hb1 : ((r : Int) != 65533) = true := by simp; omega
        clear hi3 hix hx
        go_wp2_with fail
        refine (runeAt_means r _).mono ?_
        rintro e W1 ⟨rfl, b1⟩
        rw [HX.out]
        have hI3 := bld_below hI2 b1
        have hit3 := iter_below hit2 b1
        have hz3 := b1.size
        go_wp2_with fail
        refine (writeByte w.heap.size w.heap.size acc 92 _ hI3 (by omega) (by omega)).mono ?_
        rintro e W2 ⟨rfl, h2, b2, k2⟩
        have hz4 := b2.size
        have hI4 : Bld w.heap.size w.heap.size (acc ++ [92]) W2 := h2
        have hx8 : x < shortsB.size := by show x < 8; omega
        have hc : shortsB.data.toList.getD (idxR r).toNat 0 = shortsB[x] := by
          rw [HX.out, Int.toNat_natCast, List.getD_eq_getElem?_getD, List.getElem?_eq_getElem (by exact hx8)]; rfl
        have HC := Lib.hid hc
        clear hc
        go_wp2_with fail
        refine (writeByte w.heap.size w.heap.size (acc ++ [92]) (shortsB[x]'hx8) _ hI4 (by simp; omega) (by omega)).mono ?_
        rintro e W3 ⟨rfl, h3, b3, k3⟩
        go_wp2
        go_roundw
        case rel =>
          refine ⟨pos + d, acc ++ [92, shortsB[x]], by simpa using h3, k3.iter (k2.iter hit3 (by omega)) (by omega), ((hbw2.trans (b1.mono hsz2)).trans b2).trans b3, ?_, by simp; omega, by omega⟩
          exact HQ.out _ (by rw [HS.out, HC.out])
        case measure =>
          rw [iter_pos (k3.iter (k2.iter hit3 (by omega)) (by omega)), iter_pos hit]
          omega
      · have HS := Lib.hid (idxR_none r hix)
        have HN := Lib.hid (idxR_neg r hix)
        clear hix
        by_cases h32 : r < 32
        · have hlt : (r : Int) < 32 := by omega
          have HS := Lib.hid (HS.out.trans (if_pos h32))
          have hb1 : ((r : Int) != 65533) = true := by simp; omega
          go_wp2_with fail
          refine (runeAt_means r _).mono ?_
          rintro e W1 ⟨rfl, b1⟩
          rw [HN.out]
          have hI3 := bld_below hI2 b1
          have hit3 := iter_below hit2 b1
          have hz3 := b1.size
          go_wp2
          obtain ⟨c1, T1, ht1, hx1, hy1⟩ := hex_index ((r : Int) / 16) (by omega) (by omega) .i32
          obtain ⟨c2, T2, ht2, hx2, hy2⟩ := hex_index ((r : Int) % 16) (by omega) (by omega) .i32
          obtain ⟨U1, hu1, hv1⟩ := add_run ⟨#[92, 117, 48, 48]⟩ T1 (by have := congrArg List.length ht1; simp at this; show 4 + T1.size ≤ _; omega)
          obtain ⟨U2, hu2, hv2⟩ := add_run U1 T2 (by have := congrArg List.length ht1; have := congrArg List.length ht2; have := congrArg List.length hu1; simp at *; omega)
          have hU : U2.data.toList = [92, 117, 48, 48, hexd (r / 16), hexd (r % 16)] := by
            rw [hu2, hu1, ht1, ht2, show ((r : Int) / 16).toNat = r / 16 by omega, show ((r : Int) % 16).toNat = r % 16 by omega]; rfl
          have hUs : U2.size = 6 := by have := congrArg List.length hU; simpa using this
          have hUs' : U2.size ≤ 6 := by omega
          have HU := Lib.hid hU
          clear ht1 ht2 hu1 hu2 hU hUs
          rw [← and15 r (by omega)] at hx2
          go_still_tail 10, (by kernel_rfl)
          change wpList _ _ _ _ _ W1.drew
          have hI5 : Bld w.heap.size w.heap.size acc W1.drew := by
            exact hI3.imp (fun h => h.drew) (fun h => h.drew)
          have hit5 : W1.drew.heap[W0.heap.size]? = some (.stringIter s (pos + d)) := hit3
          have b5 : Below (wr.iterAt W0.heap.size s (pos + d)).heap.size (wr.iterAt W0.heap.size s (pos + d)) W1.drew := b1.drew
          have hz5 := b5.size
          generalize W1.drew = W5 at hI5 hit5 b5 hz5 ⊢
          go_wp2_with fail
          refine (writeString w.heap.size w.heap.size acc U2 _ hI5 (by omega) (by omega)).mono ?_
          rintro e W2 ⟨rfl, h2, b2, k2⟩
          go_wp2
          go_roundw
          case rel =>
            refine ⟨pos + d, acc ++ U2.data.toList, h2, k2.iter hit5 (by omega), (hbw2.trans (b5.mono hsz2)).trans b2, ?_, ?_, by omega⟩
            · exact HQ.out _ (HS.out.trans HU.out.symm)
            · have := congrArg List.length HU.out; simp at *; omega
          case measure =>
            rw [iter_pos (k2.iter hit5 (by omega)), iter_pos hit]
            omega
        · have hlt : ¬ (r : Int) < 32 := by omega
          have HS := Lib.hid (HS.out.trans (if_neg h32))
          by_cases hb1 : ((r : Int) != 65533) = true
          all_goals
            try rw [Bool.not_eq_true] at hb1
            clear h32
            go_wp2_with fail
            refine (runeAt_means r _).mono ?_
            rintro e W1 ⟨rfl, b1⟩
            rw [HN.out]
            have hI3 := bld_below hI2 b1
            have hit3 := iter_below hit2 b1
            have hz3 := b1.size
            go_wp2_with fail
            refine (writeRune w.heap.size w.heap.size acc r hrl _ hI3 (by omega) (by omega)).mono ?_
            rintro e W2 ⟨n, rfl, h2, b2, k2⟩
            go_wp2
            go_roundw
            case rel =>
              have := enc_length_le r
              refine ⟨pos + d, acc ++ enc r, h2, k2.iter hit3 (by omega), (hbw2.trans (b1.mono hsz2)).trans b2, ?_, by simp; omega, by omega⟩
              exact HQ.out _ HS.out
            case measure =>
              rw [iter_pos (k2.iter hit3 (by omega)), iter_pos hit]
              omega
    · have hnx : ∀ ty, (Instr.next (.pointer (some ⟨W0.heap.size, 0, none⟩)) true ty).run Tryz.prog wr = _ := fun ty => Lib.run_next_end_at wr W0.heap.size s pos ty hit hp
      have hq : acc = 34 :: qin s.data.toList := by
        rw [← hacc, List.drop_of_length_le (by omega), qin_nil, List.append_nil]
      have HQ := Lib.hid hq
      clear hacc hq
      go_wp2_with fail
      refine (writeByte w.heap.size w.heap.size acc 34 _ hI (by omega) (by omega)).mono ?_
      rintro e W1 ⟨rfl, h1, b1, k1⟩
      go_wp2_with fail
      refine (bldString w.heap.size w.heap.size _ _ h1 (by have := b1.size; omega)).mono ?_
      rintro e W2 ⟨rfl, _, b2, _⟩
      go_wp2
      go_ret
      rw [HQ.out]
      exact ⟨rfl, (hbw.trans b1).trans b2⟩

end Go.Proofs.YtndkbecdjaedaaaGreatDoor
