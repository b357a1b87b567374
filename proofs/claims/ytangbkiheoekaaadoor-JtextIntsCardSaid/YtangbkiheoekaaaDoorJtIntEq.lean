/- Plain: whole numbers and their texts. -/
import Derived.Test.YtangbkiheoekaaaDoorJtEnds
import Derived.Test.YtangbkiheoekaaaDoorJtRef5
import Derived.Lib.ItoaMem
namespace Go.Proofs.YtangbkiheoekaaaDoor

def allD (l : List UInt8) : Prop := ∀ c ∈ l, dg c.toNat
theorem allD_nil : allD [] := fun c h => by cases h
theorem allD_cons {c : UInt8} {r : List UInt8} : allD (c :: r) ↔ dg c.toNat ∧ allD r :=
  ⟨fun h => ⟨h c (by simp), fun d hd => h d (by simp [hd])⟩, fun h d hd => by
    rcases List.mem_cons.1 hd with rfl | hd
    · exact h.1
    · exact h.2 d hd⟩
theorem allD_app {a b : List UInt8} : allD (a ++ b) ↔ allD a ∧ allD b :=
  ⟨fun h => ⟨fun c hc => h c (by simp [hc]), fun c hc => h c (by simp [hc])⟩, fun h c hc => by
    rcases List.mem_append.1 hc with h' | h'
    · exact h.1 c h'
    · exact h.2 c h'⟩
theorem allD_gb {l : List UInt8} (h : allD l) {i : Nat} (hi : i < l.length) : dg (gb l i) := by
  have : gb l i = l[i].toNat := by unfold gb; rw [List.getD_eq_getElem?_getD, List.getElem?_eq_getElem hi]; rfl
  rw [this]; exact h _ (List.getElem_mem hi)

/-- The number that digits spell, behind what stands ahead. -/
def valA (a : Nat) (l : List UInt8) : Nat := l.foldl (fun x c => x * 10 + (c.toNat - 48)) a
theorem valA_nil (a : Nat) : valA a [] = a := by unfold valA; rw [List.foldl_nil]
theorem valA_cons (a : Nat) (c : UInt8) (r : List UInt8) : valA a (c :: r) = valA (a * 10 + (c.toNat - 48)) r := by unfold valA; rw [List.foldl_cons]
theorem valA_ge : ∀ (l : List UInt8) (a : Nat), a ≤ valA a l
  | [], a => by rw [valA_nil]; exact Nat.le_refl _
  | c :: r, a => by have := valA_ge r (a * 10 + (c.toNat - 48)); rw [valA_cons]; omega
theorem valA_app (l : List UInt8) : ∀ (a : Nat) (c : UInt8), valA a (l ++ [c]) = valA a l * 10 + (c.toNat - 48) := by
  induction l with
  | nil => intro a c; rw [List.nil_append, valA_cons, valA_nil, valA_nil]
  | cons d r ih => intro a c; rw [List.cons_append, valA_cons, valA_cons, ih]

theorem parseM_digits {M : Nat} (hM : M ≤ 18446744073709551615) : ∀ (l : List UInt8) (a : Nat), allD l → a ≤ M → Lib.parseUintM M a l = if valA a l ≤ M then .ok (valA a l) else .range
  | [], a, _, ha => by simp only [Lib.parseUintM]; rw [valA_nil, if_pos ha]
  | c :: r, a, h, ha => by
    obtain ⟨h1, h2⟩ := allD_cons.1 h
    have hge := valA_ge r (a * 10 + (c.toNat - 48))
    simp only [Lib.parseUintM]
    rw [valA_cons, if_pos (show 48 ≤ c.toNat ∧ c.toNat ≤ 57 from h1)]
    by_cases c1 : 1844674407370955162 ≤ a
    · rw [if_pos c1, if_neg (by omega)]
    rw [if_neg c1]
    by_cases c2 : M < a * 10 + (c.toNat - 48)
    · rw [if_pos c2, if_neg (by omega)]
    rw [if_neg c2]
    exact parseM_digits hM r _ h2 (by omega)
theorem parseM_not {M : Nat} : ∀ (l : List UInt8) (a u : Nat), ¬ allD l → Lib.parseUintM M a l ≠ .ok u
  | [], a, u, h => absurd allD_nil h
  | c :: r, a, u, h => by
    simp only [Lib.parseUintM]
    by_cases c0 : 48 ≤ c.toNat ∧ c.toNat ≤ 57
    · rw [if_pos c0]
      by_cases c1 : 1844674407370955162 ≤ a
      · rw [if_pos c1]; intro e; cases e
      rw [if_neg c1]
      by_cases c2 : M < a * 10 + (c.toNat - 48)
      · rw [if_pos c2]; intro e; cases e
      rw [if_neg c2]
      exact parseM_not r _ u (fun h2 => h (allD_cons.2 ⟨c0, h2⟩))
    · rw [if_neg c0]; intro e; cases e

theorem rgo_pos : ∀ (l : List UInt8) (a : Nat), allD l → a ≤ 9223372036854775807 → rgo false (a : Int) l = if valA a l ≤ 9223372036854775807 then some (valA a l : Int) else none
  | [], a, _, ha => by simp only [rgo]; rw [valA_nil, if_pos ha]
  | c :: r, a, h, ha => by
    obtain ⟨h1, h2⟩ := allD_cons.1 h
    have hge := valA_ge r (a * 10 + (c.toNat - 48))
    have h1' := h1
    unfold dg at h1'
    simp only [rgo]
    rw [valA_cons]
    by_cases c2 : a * 10 + (c.toNat - 48) ≤ 9223372036854775807
    · have hs : rstep false (a : Int) c.toNat = some ((a * 10 + (c.toNat - 48) : Nat) : Int) := by
        unfold rstep
        rw [if_pos (show 48 ≤ c.toNat ∧ c.toNat ≤ 57 from h1)]
        simp only [Bool.false_eq_true, if_false]
        rw [if_pos (by omega)]
        congr 1; omega
      rw [hs]
      exact rgo_pos r _ h2 c2
    · have hs : rstep false (a : Int) c.toNat = none := by
        unfold rstep
        rw [if_pos (show 48 ≤ c.toNat ∧ c.toNat ≤ 57 from h1)]
        simp only [Bool.false_eq_true, if_false]
        rw [if_neg (by omega)]
      rw [hs, if_neg (by omega)]
theorem rgo_neg : ∀ (l : List UInt8) (a : Nat), allD l → a ≤ 9223372036854775808 → rgo true (-(a : Int)) l = if valA a l ≤ 9223372036854775808 then some (-(valA a l : Int)) else none
  | [], a, _, ha => by simp only [rgo]; rw [valA_nil, if_pos ha]
  | c :: r, a, h, ha => by
    obtain ⟨h1, h2⟩ := allD_cons.1 h
    have hge := valA_ge r (a * 10 + (c.toNat - 48))
    have h1' := h1
    unfold dg at h1'
    simp only [rgo]
    rw [valA_cons]
    by_cases c2 : a * 10 + (c.toNat - 48) ≤ 9223372036854775808
    · have hs : rstep true (-(a : Int)) c.toNat = some (-((a * 10 + (c.toNat - 48) : Nat) : Int)) := by
        unfold rstep
        rw [if_pos (show 48 ≤ c.toNat ∧ c.toNat ≤ 57 from h1)]
        simp only [if_true]
        rw [if_pos (by omega)]
        congr 1; omega
      rw [hs]
      exact rgo_neg r _ h2 c2
    · have hs : rstep true (-(a : Int)) c.toNat = none := by
        unfold rstep
        rw [if_pos (show 48 ≤ c.toNat ∧ c.toNat ≤ 57 from h1)]
        simp only [if_true]
        rw [if_neg (by omega)]
      rw [hs, if_neg (by omega)]
theorem rgo_not (neg : Bool) : ∀ (l : List UInt8) (n : Int), ¬ allD l → rgo neg n l = none
  | [], n, h => absurd allD_nil h
  | c :: r, n, h => by
    simp only [rgo]
    cases hs : rstep neg n c.toNat with
    | none => rfl
    | some n' =>
      have hd : dg c.toNat := by
        unfold rstep at hs
        by_cases c0 : 48 ≤ c.toNat ∧ c.toNat ≤ 57
        · exact c0
        · rw [if_neg c0] at hs; cases hs
      exact rgo_not neg r n' (fun h2 => h (allD_cons.2 ⟨hd, h2⟩))

/-- A whole number's digits as they should be. -/
structure Canon (l : List UInt8) : Prop where
  some' : l ≠ []
  digits : allD l
  lead : gb l 0 = 48 → l.length = 1

theorem gb_app_lt {a b : List UInt8} {i : Nat} (h : i < a.length) : gb (a ++ b) i = gb a i := gb_app b h

theorem canon_pos {c : UInt8} {r : List UInt8} (hd : dg c.toNat) (h : c.toNat ≠ 48) : 1 ≤ valA 0 (c :: r) := by
  have := valA_ge r (0 * 10 + (c.toNat - 48))
  unfold dg at hd
  rw [valA_cons]; omega

theorem dec_canon : ∀ (n : Nat) (l : List UInt8), l.length = n → Canon l → Lib.decDigits (valA 0 l) = l
  | 0, l, hn, h => absurd (List.eq_nil_of_length_eq_zero hn) h.some'
  | n + 1, l, hn, h => by
    obtain ⟨i, c, rfl⟩ : ∃ i c, l = i ++ [c] := ⟨l.dropLast, l.getLast h.some', (List.dropLast_concat_getLast h.some').symm⟩
    obtain ⟨hi, hc⟩ := allD_app.1 h.digits
    have hcd := (allD_cons.1 hc).1
    have hcd' := hcd
    unfold dg at hcd'
    rw [valA_app]
    by_cases h0 : i = []
    · subst h0
      rw [valA_nil, dec_small (by omega), List.nil_append]
      rw [show 48 + (0 * 10 + (c.toNat - 48)) = c.toNat by omega]; simp
    · have hil : i.length = n := by rw [List.length_append] at hn; simpa using hn
      have hip : 0 < i.length := by
        cases i with
        | nil => exact absurd rfl h0
        | cons a b => simp
      have hlead : gb i 0 ≠ 48 := by
        intro hl
        have := h.lead (by rw [gb_app_lt hip]; exact hl)
        rw [List.length_append] at this
        simp only [List.length_cons, List.length_nil] at this; omega
      have hcan : Canon i := ⟨h0, hi, fun hl => absurd hl hlead⟩
      have hp : 1 ≤ valA 0 i := by
        cases i with
        | nil => exact absurd rfl h0
        | cons a b => exact canon_pos (allD_cons.1 hi).1 (by simpa using hlead)
      have hrec := dec_canon n i hil hcan
      rw [dec_step (by omega), show (valA 0 i * 10 + (c.toNat - 48)) / 10 = valA 0 i by omega, show (valA 0 i * 10 + (c.toNat - 48)) % 10 = c.toNat - 48 by omega, hrec, dec_small (by omega)]
      rw [show 48 + (c.toNat - 48) = c.toNat by omega]; simp

theorem dec_facts : ∀ (m u : Nat), u ≤ m → Canon (Lib.decDigits u) ∧ valA 0 (Lib.decDigits u) = u ∧ (1 ≤ u → gb (Lib.decDigits u) 0 ≠ 48)
  | m, u, hm => by
    by_cases h : u < 10
    · rw [dec_small h]
      have e : (UInt8.ofNat (48 + u)).toNat = 48 + u := u8_ofNat_toNat _ (by omega)
      refine ⟨⟨by simp, allD_cons.2 ⟨by rw [e]; unfold dg; omega, allD_nil⟩, fun _ => rfl⟩, ?_, ?_⟩
      · rw [valA_cons, valA_nil, e]; omega
      · intro h1; rw [gb_cons_zero, e]; omega
    · match m, hm with
      | 0, hm => omega
      | m + 1, hm =>
        obtain ⟨hc, hv, hl⟩ := dec_facts m (u / 10) (by omega)
        have e : (UInt8.ofNat (48 + u % 10)).toNat = 48 + u % 10 := u8_ofNat_toNat _ (by omega)
        rw [dec_step h, dec_small (n := u % 10) (by omega)]
        have hip : 0 < (Lib.decDigits (u / 10)).length := by
          have := hc.some'
          cases hh : Lib.decDigits (u / 10) with
          | nil => exact absurd hh this
          | cons a b => simp
        have hl' := hl (by omega)
        refine ⟨⟨by simp, allD_app.2 ⟨hc.digits, allD_cons.2 ⟨by rw [e]; unfold dg; omega, allD_nil⟩⟩, fun h48 => ?_⟩, ?_, ?_⟩
        · rw [gb_app_lt hip] at h48; exact absurd h48 hl'
        · rw [valA_app, hv, e]; omega
        · intro _; rw [gb_app_lt hip]; exact hl'

/-! ### what a number's text is -/
theorem digs_all {l : List UInt8} (h : allD l) : digs l = l.length := by
  have := digs_only l 0 l.length (fun i hi => by rw [Nat.zero_add]; exact allD_gb h hi) (by rw [Nat.zero_add, gb_out (Nat.le_refl _)]; unfold dg; omega)
  simpa using this
theorem digit_or_end {l : List UInt8} (h : allD l) (k : Nat) : dg (gb l k) ∨ gb l k = 0 := by
  rcases Nat.lt_or_ge k l.length with hk | hk
  · exact Or.inl (allD_gb h hk)
  · exact Or.inr (gb_out hk)
theorem number_flat {L : List UInt8} {k0 k1 : Nat} (h0 : k0 = if gb L 0 = 45 then 1 else 0) (hd : digs (L.drop k0) ≠ 0) (h1 : k1 = k0 + if gb L k0 = 48 then 1 else digs (L.drop k0)) (hg : dg (gb L k1) ∨ gb L k1 = 0) : number L = k1 := by
  unfold number
  rw [← h0]
  simp only [if_neg hd]
  rw [← h1]
  unfold dg at hg
  have hF : numFrac L k1 = k1 := by unfold numFrac; rw [if_neg (by omega)]
  rw [hF]; unfold numExp; rw [if_neg (by omega)]
theorem number_digits {l : List UInt8} (hn : l ≠ []) (h : allD l) : number l = if gb l 0 = 48 then 1 else l.length := by
  have hp : 0 < l.length := by
    cases l with
    | nil => exact absurd rfl hn
    | cons a b => simp
  have g0 := allD_gb h hp
  unfold dg at g0
  refine number_flat (k0 := 0) (by rw [if_neg (by omega)]) (by rw [List.drop_zero, digs_all h]; omega) (by rw [List.drop_zero, digs_all h]; omega) (digit_or_end h _)
theorem number_minus {r : List UInt8} (hn : r ≠ []) (h : allD r) : number (45 :: r) = 1 + if gb r 0 = 48 then 1 else r.length := by
  have hp : 0 < r.length := by
    cases r with
    | nil => exact absurd rfl hn
    | cons a b => simp
  refine number_flat (k0 := 1) (by rw [gb_cons_zero]; rfl) (by show digs r ≠ 0; rw [digs_all h]; omega) ?_ ?_
  · rw [show gb (45 :: r) 1 = gb r 0 from gb_cons_succ 45 r 0]
    show _ = 1 + if gb r 0 = 48 then 1 else digs r
    rw [digs_all h]
  · rw [show 1 + (if gb r 0 = 48 then 1 else r.length) = (if gb r 0 = 48 then 1 else r.length) + 1 by omega, gb_cons_succ]
    exact digit_or_end h _

theorem rint_minus_yes {r : List UInt8} (hc : Canon r) (h0 : r ≠ [48]) (hv : valA 0 r ≤ 9223372036854775808) : rint (45 :: r) = some (-(valA 0 r : Int)) := by
  have hnum : number (45 :: r) = (45 :: r).length := by
    rw [number_minus hc.some' hc.digits]
    by_cases h : gb r 0 = 48
    · rw [if_pos h]; have := hc.lead h; simp; omega
    · rw [if_neg h]; simp; omega
  unfold rint
  rw [if_neg (by
    rintro (h | h | h)
    · cases h
    · exact h0 (List.cons.inj h).2
    · exact h hnum), if_pos (by rw [gb_cons_zero]; rfl)]
  show rgo true 0 r = _
  have := rgo_neg r 0 hc.digits (by omega)
  rw [if_pos hv] at this
  simpa using this
theorem rint_minus_no {r : List UInt8} (h : ¬ (Canon r ∧ r ≠ [48] ∧ valA 0 r ≤ 9223372036854775808)) : rint (45 :: r) = none := by
  unfold rint
  by_cases h1 : (45 :: r) = [] ∨ (45 :: r) = [45, 48] ∨ number (45 :: r) ≠ (45 :: r).length
  · rw [if_pos h1]
  rw [if_neg h1, if_pos (by rw [gb_cons_zero]; rfl)]
  show rgo true 0 r = _
  by_cases hd : allD r
  · have hn : r ≠ [] := by
      rintro rfl
      exact h1 (Or.inr (Or.inr (by decide)))
    have hnum : number (45 :: r) = (45 :: r).length := by
      by_cases hx : number (45 :: r) = (45 :: r).length
      · exact hx
      · exact absurd (Or.inr (Or.inr hx)) h1
    rw [number_minus hn hd] at hnum
    have hcan : Canon r := ⟨hn, hd, fun h48 => by rw [if_pos h48] at hnum; simp at hnum; omega⟩
    have h48 : r ≠ [48] := fun e => h1 (Or.inr (Or.inl (by rw [e])))
    have := rgo_neg r 0 hd (by omega)
    rw [if_neg (fun hv => h ⟨hcan, h48, hv⟩)] at this
    simpa using this
  · exact rgo_not true r 0 hd
theorem rint_plain_yes {l : List UInt8} (hc : Canon l) (hv : valA 0 l ≤ 9223372036854775807) : rint l = some (valA 0 l : Int) := by
  have hp : 0 < l.length := by
    have := hc.some'
    cases l with
    | nil => exact absurd rfl this
    | cons a b => simp
  have g0 := allD_gb hc.digits hp
  unfold dg at g0
  have hnum : number l = l.length := by
    rw [number_digits hc.some' hc.digits]
    by_cases h : gb l 0 = 48
    · rw [if_pos h]; exact (hc.lead h).symm
    · rw [if_neg h]
  unfold rint
  rw [if_neg (by
    rintro (h | h | h)
    · exact hc.some' h
    · rw [h] at g0; simp at g0
    · exact h hnum), if_neg (by omega)]
  have := rgo_pos l 0 hc.digits (by omega)
  rw [if_pos hv] at this
  simpa using this
theorem rint_plain_no {l : List UInt8} (h45 : gb l 0 ≠ 45) (h : ¬ (Canon l ∧ valA 0 l ≤ 9223372036854775807)) : rint l = none := by
  unfold rint
  by_cases h1 : l = [] ∨ l = [45, 48] ∨ number l ≠ l.length
  · rw [if_pos h1]
  rw [if_neg h1, if_neg h45]
  by_cases hd : allD l
  · have hn : l ≠ [] := fun e => h1 (Or.inl e)
    have hnum : number l = l.length := by
      by_cases hx : number l = l.length
      · exact hx
      · exact absurd (Or.inr (Or.inr hx)) h1
    rw [number_digits hn hd] at hnum
    have hcan : Canon l := ⟨hn, hd, fun h48 => by rw [if_pos h48] at hnum; exact hnum.symm⟩
    have := rgo_pos l 0 hd (by omega)
    rw [if_neg (fun hv => h ⟨hcan, hv⟩)] at this
    simpa using this
  · exact rgo_not false l 0 hd

theorem itoa_nat (u : Nat) : Lib.itoa (u : Int) = Lib.decDigits u := Lib.itoa_nonneg u

theorem int_minus_yes {r : List UInt8} (hc : Canon r) (h0 : r ≠ [48]) (hv : valA 0 r ≤ 9223372036854775808) : intOf? (45 :: r) = some (-(valA 0 r : Int)) := by
  have hu : 1 ≤ valA 0 r := by
    rcases Nat.eq_zero_or_pos (valA 0 r) with hz | hz
    · have := dec_canon _ r rfl hc
      rw [hz, dec_small (by omega)] at this
      exact absurd this.symm h0
    · exact hz
  have hP : Lib.parseUintB 64 r = .ok (valA 0 r) := by
    unfold Lib.parseUintB
    rw [if_neg hc.some', parseM_digits (by omega) r 0 hc.digits (by omega), if_pos (by omega)]
  have hI : Lib.parseIntB 64 (45 :: r) = .ok (-(valA 0 r : Int)) := by
    unfold Lib.parseIntB
    simp only []
    rw [if_pos (show UInt8.toNat 45 = 43 ∨ UInt8.toNat 45 = 45 from Or.inr rfl), hP]
    simp only []
    rw [if_neg (by rintro ⟨h, _⟩; exact h rfl), if_neg (by rintro ⟨_, h⟩; omega), if_pos (show UInt8.toNat 45 = 45 from rfl)]
  unfold intOf?
  rw [hI]
  simp only []
  rw [Lib.itoa_neg _ hu, dec_canon _ r rfl hc, if_pos rfl]
theorem int_minus_no {r : List UInt8} (h : ¬ (Canon r ∧ r ≠ [48] ∧ valA 0 r ≤ 9223372036854775808)) : intOf? (45 :: r) = none := by
  unfold intOf?
  cases hI : Lib.parseIntB 64 (45 :: r) with
  | ok v =>
    simp only []
    rw [if_neg]
    intro e
    have hr := parseIntB_range hI
    by_cases hneg : v < 0
    · obtain ⟨u, rfl⟩ : ∃ u : Nat, v = -(u : Int) := ⟨v.natAbs, by omega⟩
      rw [Lib.itoa_neg _ (by omega)] at e
      have e2 := (List.cons.inj e).2
      obtain ⟨hc, hval, hl⟩ := dec_facts u u (Nat.le_refl _)
      rw [e2] at hc hval hl
      refine h ⟨hc, ?_, by omega⟩
      rintro rfl
      exact hl (by omega) rfl
    · obtain ⟨u, rfl⟩ : ∃ u : Nat, v = (u : Int) := ⟨v.toNat, by omega⟩
      rw [itoa_nat] at e
      obtain ⟨hc, _, _⟩ := dec_facts u u (Nat.le_refl _)
      rw [e] at hc
      have := (allD_cons.1 hc.digits).1
      unfold dg at this
      simp at this
  | _ => rfl
theorem int_plain_yes {l : List UInt8} (hc : Canon l) (hv : valA 0 l ≤ 9223372036854775807) : intOf? l = some (valA 0 l : Int) := by
  have hP : Lib.parseUintB 64 l = .ok (valA 0 l) := by
    unfold Lib.parseUintB
    rw [if_neg hc.some', parseM_digits (by omega) l 0 hc.digits (by omega), if_pos (by omega)]
  have hI : Lib.parseIntB 64 l = .ok (valA 0 l : Int) := by
    cases l with
    | nil => exact absurd rfl hc.some'
    | cons c r =>
      have hd := (allD_cons.1 hc.digits).1
      unfold dg at hd
      unfold Lib.parseIntB
      simp only []
      rw [if_neg (by omega), hP]
      simp only []
      rw [if_neg (by rintro ⟨_, h⟩; omega), if_neg (by rintro ⟨h, _⟩; omega), if_neg (by omega)]
  unfold intOf?
  rw [hI]
  simp only []
  rw [itoa_nat, dec_canon _ l rfl hc, if_pos rfl]
theorem int_plain_no {l : List UInt8} (h45 : gb l 0 ≠ 45) (h : ¬ (Canon l ∧ valA 0 l ≤ 9223372036854775807)) : intOf? l = none := by
  unfold intOf?
  cases hI : Lib.parseIntB 64 l with
  | ok v =>
    simp only []
    rw [if_neg]
    intro e
    have hr := parseIntB_range hI
    by_cases hneg : v < 0
    · obtain ⟨u, rfl⟩ : ∃ u : Nat, v = -(u : Int) := ⟨v.natAbs, by omega⟩
      rw [Lib.itoa_neg _ (by omega)] at e
      rw [← e] at h45
      exact h45 rfl
    · obtain ⟨u, rfl⟩ : ∃ u : Nat, v = (u : Int) := ⟨v.toNat, by omega⟩
      rw [itoa_nat] at e
      obtain ⟨hc, hval, _⟩ := dec_facts u u (Nat.le_refl _)
      rw [e] at hc hval
      exact h ⟨hc, by omega⟩
  | _ => rfl

/-- The two answers are one. -/
theorem rint_eq (l : List UInt8) : rint l = intOf? l := by
  by_cases h45 : gb l 0 = 45
  · obtain ⟨r, rfl⟩ : ∃ r, l = 45 :: r := by
      cases l with
      | nil => rw [gb_nil] at h45; omega
      | cons c r => exact ⟨r, by rw [show c = 45 from UInt8.toNat_inj.1 (by simpa using h45)]⟩
    by_cases h : Canon r ∧ r ≠ [48] ∧ valA 0 r ≤ 9223372036854775808
    · rw [rint_minus_yes h.1 h.2.1 h.2.2, int_minus_yes h.1 h.2.1 h.2.2]
    · rw [rint_minus_no h, int_minus_no h]
  · by_cases h : Canon l ∧ valA 0 l ≤ 9223372036854775807
    · rw [rint_plain_yes h.1 h.2, int_plain_yes h.1 h.2]
    · rw [rint_plain_no h45 h, int_plain_no h45 h]

/-- A number's own text tells that number. -/
theorem int_itoa {n : Int} (h0 : -9223372036854775808 ≤ n) (h1 : n ≤ 9223372036854775807) : intOf? (Lib.itoa n) = some n := by
  by_cases hneg : n < 0
  · obtain ⟨u, rfl⟩ : ∃ u : Nat, n = -(u : Int) := ⟨n.natAbs, by omega⟩
    obtain ⟨hc, hval, hl⟩ := dec_facts u u (Nat.le_refl _)
    rw [Lib.itoa_neg _ (by omega), int_minus_yes hc (fun e => by rw [e] at hl; exact hl (by omega) rfl) (by omega), hval]
  · obtain ⟨u, rfl⟩ : ∃ u : Nat, n = (u : Int) := ⟨n.toNat, by omega⟩
    obtain ⟨hc, hval, hl⟩ := dec_facts u u (Nat.le_refl _)
    rw [itoa_nat, int_plain_yes hc (by omega), hval]
theorem int_number {l : List UInt8} {v : Int} (h : intOf? l = some v) : number l = l.length := by
  rw [← rint_eq] at h
  unfold rint at h
  by_cases h1 : l = [] ∨ l = [45, 48] ∨ number l ≠ l.length
  · rw [if_pos h1] at h; cases h
  · by_cases hx : number l = l.length
    · exact hx
    · exact absurd (Or.inr (Or.inr hx)) h1
theorem int_text {l : List UInt8} {v : Int} (h : intOf? l = some v) : Lib.itoa v = l ∧ -9223372036854775808 ≤ v ∧ v ≤ 9223372036854775807 := by
  unfold intOf? at h
  cases hI : Lib.parseIntB 64 l with
  | ok x =>
    rw [hI] at h
    simp only [] at h
    by_cases e : Lib.itoa x = l
    · rw [if_pos e] at h; cases h
      exact ⟨e, parseIntB_range hI⟩
    · rw [if_neg e] at h; cases h
  | _ => rw [hI] at h; cases h
end Go.Proofs.YtangbkiheoekaaaDoor
