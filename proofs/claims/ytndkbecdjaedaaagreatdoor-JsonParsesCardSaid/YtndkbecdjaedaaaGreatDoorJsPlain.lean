/- Plain Lean on lists of bytes: what JSON is parsed to. No program, no memory. -/
import Derived.Test.YtndkbecdjaedaaaGreatDoorJtEnds
import Derived.Test.YtndkbecdjaedaaaGreatDoorJtBack
namespace Go.Proofs.YtndkbecdjaedaaaGreatDoor

/-- A value of a row. -/
structure V where
  kind : Int
  key : List UInt8
  text : List UInt8
  count : Int

def blank (c : UInt8) : Bool := c == 32 || c == 9 || c == 10 || c == 13
def skip (l : List UInt8) : List UInt8 := l.dropWhile blank
def starts (c : UInt8) : Bool := [110, 116, 102, 34, 91, 123, 45, 48, 49, 50, 51, 52, 53, 54, 55, 56, 57].contains c
/-- Past blanks, and a sign of one byte. -/
def sgn (l : List UInt8) (c : UInt8) : Option (List UInt8) :=
  match skip l with
  | [] => none
  | d :: r => if d = c then some r else none
/-- The words. -/
def wordOf (c : UInt8) : Option (Nat × List UInt8) :=
  if c = 110 then some (0, [110, 117, 108, 108]) else if c = 116 then some (1, [116, 114, 117, 101]) else if c = 102 then some (2, [102, 97, 108, 115, 101]) else none

mutual
/-- A value ahead: its row, and what stands behind. 'n': how many values there are; 'deep': in how many it stands. -/
def pval : Nat → List UInt8 → Nat → List UInt8 → Nat → Except Int (List V × List UInt8)
  | 0, _, _, _, _ => .error 3
  | f + 1, l, n, key, deep => match skip l with
    | [] => .error 3
    | c :: r =>
      if starts c = false then .error 3
      else if 50 ≤ deep ∨ 5000 ≤ n then .error 2
      else match wordOf c with
        | some (k, w) => if w.isPrefixOf (c :: r) = true then .ok ([⟨k, key, [], 0⟩], (c :: r).drop w.length) else .error 3
        | none =>
          if c = 34 then (match unq (c :: r) with
            | none => .error 3
            | some (x, m) => .ok ([⟨4, key, x, 0⟩], (c :: r).drop m))
          else if c = 91 then (match sgn r 93 with
            | some r' => .ok ([⟨5, key, [], 0⟩], r')
            | none => match pitems f r (n + 1) (deep + 1) with
              | .error e => .error e
              | .ok (vs, k, r') => .ok (⟨5, key, [], (k : Nat)⟩ :: vs, r'))
          else if c = 123 then (match sgn r 125 with
            | some r' => .ok ([⟨6, key, [], 0⟩], r')
            | none => match pmems f r (n + 1) (deep + 1) [] with
              | .error e => .error e
              | .ok (vs, k, r') => .ok (⟨6, key, [], (k : Nat)⟩ :: vs, r'))
          else if number (c :: r) = 0 then .error 3
          else .ok ([⟨3, key, (c :: r).take (number (c :: r)), 0⟩], (c :: r).drop (number (c :: r)))
/-- One value at least, up to a list's end. -/
def pitems : Nat → List UInt8 → Nat → Nat → Except Int (List V × Nat × List UInt8)
  | 0, _, _, _ => .error 3
  | f + 1, l, n, deep => match pval f l n [] deep with
    | .error e => .error e
    | .ok (vs, r) => match sgn r 93 with
      | some r' => .ok (vs, 1, r')
      | none => match sgn r 44 with
        | none => .error 3
        | some r' => match pitems f r' (n + vs.length) deep with
          | .error e => .error e
          | .ok (ws, k, r'') => .ok (vs ++ ws, k + 1, r'')
/-- One member at least, up to an object's end. 'had': the names ahead. -/
def pmems : Nat → List UInt8 → Nat → Nat → List (List UInt8) → Except Int (List V × Nat × List UInt8)
  | 0, _, _, _, _ => .error 3
  | f + 1, l, n, deep, had => match unq (skip l) with
    | none => .error 3
    | some (x, m) =>
      if had.contains x = true then .error 7
      else match sgn ((skip l).drop m) 58 with
        | none => .error 3
        | some r0 => match pval f r0 n x deep with
          | .error e => .error e
          | .ok (vs, r) => match sgn r 125 with
            | some r' => .ok (vs, 1, r')
            | none => match sgn r 44 with
              | none => .error 3
              | some r' => match pmems f r' (n + vs.length) deep (x :: had) with
                | .error e => .error e
                | .ok (ws, k, r'') => .ok (vs ++ ws, k + 1, r'')
end

/-- The row of bytes. -/
def jparse (l : List UInt8) : Except Int (List V) :=
  match pval (2 * l.length + 2) l 0 [] 0 with
  | .error e => .error e
  | .ok (vs, r) => if skip r = [] then .ok vs else .error 3

theorem skip_len (l : List UInt8) : (skip l).length ≤ l.length := List.Sublist.length_le (List.dropWhile_sublist _)
theorem sgn_len {l r : List UInt8} {c : UInt8} (h : sgn l c = some r) : r.length < l.length := by
  unfold sgn at h
  have := skip_len l
  cases hs : skip l with
  | nil => rw [hs] at h; cases h
  | cons d t =>
    rw [hs] at h this
    simp only [] at h
    by_cases e : d = c
    · rw [if_pos e] at h; cases h; simp at this; omega
    · rw [if_neg e] at h; cases h

mutual
theorem pval_len : ∀ (f : Nat) (l : List UInt8) (n : Nat) (key : List UInt8) (deep : Nat) (vs : List V) (r : List UInt8), pval f l n key deep = .ok (vs, r) → r.length < l.length ∧ 1 ≤ vs.length
  | 0, l, n, key, deep, vs, r, h => by simp [pval] at h
  | f + 1, l, n, key, deep, vs, r, h => by
    have hsk := skip_len l
    simp only [pval] at h
    cases hs : skip l with
    | nil => rw [hs] at h; cases h
    | cons c t =>
      rw [hs] at h hsk
      simp only [List.length_cons] at hsk
      simp only [] at h
      by_cases c1 : starts c = false
      · rw [if_pos c1] at h; cases h
      rw [if_neg c1] at h
      by_cases c2 : 50 ≤ deep ∨ 5000 ≤ n
      · rw [if_pos c2] at h; cases h
      rw [if_neg c2] at h
      cases hw : wordOf c with
      | some p =>
        obtain ⟨k, w⟩ := p
        rw [hw] at h
        simp only [] at h
        by_cases c3 : w.isPrefixOf (c :: t) = true
        · rw [if_pos c3] at h
          have hw0 : 1 ≤ w.length := by
            unfold wordOf at hw
            split at hw
            · cases hw; simp
            · split at hw
              · cases hw; simp
              · split at hw
                · cases hw; simp
                · cases hw
          cases h
          rw [List.length_drop]
          simp; omega
        · rw [if_neg c3] at h; cases h
      | none =>
        rw [hw] at h
        simp only [] at h
        by_cases c3 : c = 34
        · rw [if_pos c3] at h
          cases hu : unq (c :: t) with
          | none => rw [hu] at h; cases h
          | some p =>
            obtain ⟨x, m⟩ := p
            rw [hu] at h
            have := unq_bound hu
            cases h
            rw [List.length_drop]
            simp at this ⊢; omega
        rw [if_neg c3] at h
        by_cases c4 : c = 91
        · rw [if_pos c4] at h
          cases hg : sgn t 93 with
          | some r' =>
            rw [hg] at h
            have := sgn_len hg
            cases h
            simp; omega
          | none =>
            rw [hg] at h
            simp only [] at h
            cases hp : pitems f t (n + 1) (deep + 1) with
            | error e => rw [hp] at h; cases h
            | ok p =>
              obtain ⟨ws, k, r'⟩ := p
              rw [hp] at h
              have := pitems_len f t _ _ _ _ _ hp
              cases h
              simp; omega
        rw [if_neg c4] at h
        by_cases c5 : c = 123
        · rw [if_pos c5] at h
          cases hg : sgn t 125 with
          | some r' =>
            rw [hg] at h
            have := sgn_len hg
            cases h
            simp; omega
          | none =>
            rw [hg] at h
            simp only [] at h
            cases hp : pmems f t (n + 1) (deep + 1) [] with
            | error e => rw [hp] at h; cases h
            | ok p =>
              obtain ⟨ws, k, r'⟩ := p
              rw [hp] at h
              have := pmems_len f t _ _ _ _ _ _ hp
              cases h
              simp; omega
        rw [if_neg c5] at h
        by_cases c6 : number (c :: t) = 0
        · rw [if_pos c6] at h; cases h
        rw [if_neg c6] at h
        cases h
        rw [List.length_drop]
        simp; omega
theorem pitems_len : ∀ (f : Nat) (l : List UInt8) (n deep : Nat) (vs : List V) (k : Nat) (r : List UInt8), pitems f l n deep = .ok (vs, k, r) → r.length < l.length ∧ 1 ≤ vs.length
  | 0, l, n, deep, vs, k, r, h => by simp [pitems] at h
  | f + 1, l, n, deep, vs, k, r, h => by
    simp only [pitems] at h
    cases hp : pval f l n [] deep with
    | error e => rw [hp] at h; cases h
    | ok p =>
      obtain ⟨ws, r1⟩ := p
      rw [hp] at h
      have h1 := pval_len f l n [] deep ws r1 hp
      simp only [] at h
      cases hg : sgn r1 93 with
      | some r' =>
        rw [hg] at h
        have := sgn_len hg
        cases h
        exact ⟨by omega, h1.2⟩
      | none =>
        rw [hg] at h
        simp only [] at h
        cases hg2 : sgn r1 44 with
        | none => rw [hg2] at h; cases h
        | some r' =>
          rw [hg2] at h
          have := sgn_len hg2
          simp only [] at h
          cases hq : pitems f r' (n + ws.length) deep with
          | error e => rw [hq] at h; cases h
          | ok q =>
            obtain ⟨us, k', r''⟩ := q
            rw [hq] at h
            have h2 := pitems_len f r' _ _ us k' r'' hq
            cases h
            rw [List.length_append]
            omega
theorem pmems_len : ∀ (f : Nat) (l : List UInt8) (n deep : Nat) (had : List (List UInt8)) (vs : List V) (k : Nat) (r : List UInt8), pmems f l n deep had = .ok (vs, k, r) → r.length < l.length ∧ 1 ≤ vs.length
  | 0, l, n, deep, had, vs, k, r, h => by simp [pmems] at h
  | f + 1, l, n, deep, had, vs, k, r, h => by
    have hsk := skip_len l
    simp only [pmems] at h
    cases hu : unq (skip l) with
    | none => rw [hu] at h; cases h
    | some p =>
      obtain ⟨x, m⟩ := p
      rw [hu] at h
      have hb := unq_bound hu
      simp only [] at h
      by_cases c1 : had.contains x = true
      · rw [if_pos c1] at h; cases h
      rw [if_neg c1] at h
      cases hg0 : sgn ((skip l).drop m) 58 with
      | none => rw [hg0] at h; cases h
      | some r0 =>
        rw [hg0] at h
        have h0 := sgn_len hg0
        rw [List.length_drop] at h0
        simp only [] at h
        cases hp : pval f r0 n x deep with
        | error e => rw [hp] at h; cases h
        | ok p =>
          obtain ⟨ws, r1⟩ := p
          rw [hp] at h
          have h1 := pval_len f r0 n x deep ws r1 hp
          simp only [] at h
          cases hg : sgn r1 125 with
          | some r' =>
            rw [hg] at h
            have := sgn_len hg
            cases h
            exact ⟨by omega, h1.2⟩
          | none =>
            rw [hg] at h
            simp only [] at h
            cases hg2 : sgn r1 44 with
            | none => rw [hg2] at h; cases h
            | some r' =>
              rw [hg2] at h
              have := sgn_len hg2
              simp only [] at h
              cases hq : pmems f r' (n + ws.length) deep (x :: had) with
              | error e => rw [hq] at h; cases h
              | ok q =>
                obtain ⟨us, k', r''⟩ := q
                rw [hq] at h
                have h2 := pmems_len f r' _ _ _ us k' r'' hq
                cases h
                rw [List.length_append]
                omega
end
end Go.Proofs.YtndkbecdjaedaaaGreatDoor
/- Plain: which rows are right, how they are printed; what is printed is parsed as it was. -/
namespace Go.Proofs.YtndkbecdjaedaaaGreatDoor

/-- Is a value right by itself? -/
def ownV (v : V) (member : Bool) : Bool :=
  (member || v.key.isEmpty) && valids v.key &&
  (if v.kind = 0 ∨ v.kind = 1 ∨ v.kind = 2 then v.text.isEmpty && v.count == 0
   else if v.kind = 3 then !v.text.isEmpty && number v.text == v.text.length && v.count == 0
   else if v.kind = 4 then valids v.text && v.count == 0
   else if v.kind = 5 ∨ v.kind = 6 then v.text.isEmpty && decide (0 ≤ v.count) else false)

mutual
/-- A right row ahead: what stands behind it. -/
def rrow : Nat → List V → Nat → Bool → Option (List V)
  | 0, _, _, _ => none
  | _ + 1, [], _, _ => none
  | f + 1, v :: r, deep, member =>
    if 50 ≤ deep then none else if ownV v member = false then none else rkids f v.count.toNat r (deep + 1) (v.kind == 6) []
def rkids : Nat → Nat → List V → Nat → Bool → List (List UInt8) → Option (List V)
  | _, 0, r, _, _, _ => some r
  | 0, _ + 1, _, _, _, _ => none
  | _ + 1, _ + 1, [], _, _, _ => none
  | f + 1, k + 1, w :: r, deep, object, names =>
    if (object && names.contains w.key) = true then none else
    match rrow f (w :: r) deep object with
    | none => none
    | some r' => rkids f k r' deep object (w.key :: names)
end

def wordK (k : Int) : List UInt8 := if k = 0 then [110, 117, 108, 108] else if k = 1 then [116, 114, 117, 101] else [102, 97, 108, 115, 101]
def headKey : List V → List UInt8
  | [] => []
  | v :: _ => v.key

mutual
/-- A row's JSON, without its name; what stands behind it. -/
def jrow : Nat → List V → List UInt8 × List V
  | 0, l => ([], l)
  | _ + 1, [] => ([], [])
  | f + 1, v :: r =>
    if v.kind = 3 then (v.text, r)
    else if v.kind = 4 then (quote v.text, r)
    else if v.kind = 5 then (91 :: ((jmany f v.count.toNat r false).1 ++ [93]), (jmany f v.count.toNat r false).2)
    else if v.kind = 6 then (123 :: ((jmany f v.count.toNat r true).1 ++ [125]), (jmany f v.count.toNat r true).2)
    else (wordK v.kind, r)
def jmany : Nat → Nat → List V → Bool → List UInt8 × List V
  | _, 0, r, _ => ([], r)
  | 0, _ + 1, r, _ => ([], r)
  | f + 1, k + 1, r, member =>
    ((if member = true then quote (headKey r) ++ [58] else []) ++ (jrow f r).1 ++ (if k = 0 then [] else 44 :: (jmany f k (jrow f r).2 member).1), (jmany f k (jrow f r).2 member).2)
end

/-- What may stand behind a number. -/
def okEnd (X : List UInt8) : Prop := ¬ dg (gb X 0) ∧ gb X 0 ≠ 46 ∧ gb X 0 ≠ 101 ∧ gb X 0 ≠ 69

theorem skip_stay {c : UInt8} (h : blank c = false) (t : List UInt8) : skip (c :: t) = c :: t := by
  unfold skip; rw [List.dropWhile_cons, h]; simp
theorem sgn_yes {c : UInt8} (h : blank c = false) (t : List UInt8) : sgn (c :: t) c = some t := by
  unfold sgn; rw [skip_stay h]; simp
theorem sgn_no {c d : UInt8} (h : blank c = false) (hne : c ≠ d) (t : List UInt8) : sgn (c :: t) d = none := by
  unfold sgn; rw [skip_stay h]; simp [hne]

theorem unq_of_unqV {L x : List UInt8} {k : Nat} (h : unqV L = (x, k, true)) : unq L = some (x, k) := by
  unfold unqV at h
  cases hu : unq L with
  | none => rw [hu] at h; cases h
  | some p => obtain ⟨y, m⟩ := p; rw [hu] at h; cases h; rfl
theorem unq_quote (s X : List UInt8) (h : valids s = true) : unq (quote s ++ X) = some (s, (quote s).length) := by
  obtain ⟨x, hx, hv⟩ := back s X
  rw [hv h] at hx
  exact unq_of_unqV hx
theorem quote_head (s X : List UInt8) : quote s ++ X = 34 :: (qin s ++ [34] ++ X) := by unfold quote; simp

theorem number_behind {L X : List UInt8} (h0 : L ≠ []) (hn : number L = L.length) (hX : okEnd X) : number (L ++ X) = L.length := by
  have hp : 0 < L.length := by
    cases L with
    | nil => exact absurd rfl h0
    | cons a b => simp
  have hg : gb (L ++ X) L.length = gb X 0 := by
    unfold gb
    rw [List.getD_eq_getElem?_getD, List.getD_eq_getElem?_getD, List.getElem?_append_right (Nat.le_refl _), Nat.sub_self]
  have := number_agree (L := L) (Y := L ++ X) (by omega) (fun i hi => gb_app X (by omega)) (by rw [hn, hg]; exact hX.1) (by rw [hn, hg]; exact hX.2.1) (by rw [hn, hg]; exact hX.2.2.1) (by rw [hn, hg]; exact hX.2.2.2)
  rw [this, hn]
theorem number_first {c : UInt8} {t : List UInt8} (h : number (c :: t) ≠ 0) : c = 45 ∨ (48 ≤ c.toNat ∧ c.toNat ≤ 57) := by
  rcases number_ways (c :: t) with h0 | ⟨k0, k1, hk0, hd, _, _⟩
  · exact absurd h0 h
  · rw [gb_cons_zero] at hk0
    by_cases hc : c.toNat = 45
    · exact Or.inl (UInt8.toNat_inj.1 hc)
    · rw [if_neg hc] at hk0
      subst hk0
      right
      by_cases hdg : 48 ≤ gb (c :: t) 0 ∧ gb (c :: t) 0 ≤ 57
      · exact hdg
      · have := digs_no (l := c :: t) (k := 0) hdg
        omega
theorem number_signs : ∀ n : Nat, n < 256 → (n = 45 ∨ (48 ≤ n ∧ n ≤ 57)) → blank (UInt8.ofNat n) = false ∧ starts (UInt8.ofNat n) = true ∧ wordOf (UInt8.ofNat n) = none ∧ UInt8.ofNat n ≠ 34 ∧ UInt8.ofNat n ≠ 91 ∧ UInt8.ofNat n ≠ 123 := by decide +kernel
theorem number_sign {c : UInt8} (h : c = 45 ∨ (48 ≤ c.toNat ∧ c.toNat ≤ 57)) : blank c = false ∧ starts c = true ∧ wordOf c = none ∧ c ≠ 34 ∧ c ≠ 91 ∧ c ≠ 123 := by
  have := number_signs c.toNat (UInt8.toNat_lt _) (by
    rcases h with h | h
    · exact Or.inl (by rw [h]; rfl)
    · exact Or.inr h)
  simpa using this

theorem pval_word (F : Nat) (X : List UInt8) (n : Nat) (key : List UInt8) (deep : Nat) (k : Int) (hk : k = 0 ∨ k = 1 ∨ k = 2) (hd : deep < 50) (hn : n < 5000) :
    pval (F + 1) (wordK k ++ X) n key deep = .ok ([⟨k, key, [], 0⟩], X) := by
  rcases hk with rfl | rfl | rfl
  · show pval (F + 1) (110 :: (117 :: 108 :: 108 :: X)) n key deep = _
    simp only [pval]
    rw [skip_stay (by decide)]
    simp only []
    rw [if_neg (by decide), if_neg (by omega)]
    simp [wordOf, List.isPrefixOf]
  · show pval (F + 1) (116 :: (114 :: 117 :: 101 :: X)) n key deep = _
    simp only [pval]
    rw [skip_stay (by decide)]
    simp only []
    rw [if_neg (by decide), if_neg (by omega)]
    simp [wordOf, List.isPrefixOf]
  · show pval (F + 1) (102 :: (97 :: 108 :: 115 :: 101 :: X)) n key deep = _
    simp only [pval]
    rw [skip_stay (by decide)]
    simp only []
    rw [if_neg (by decide), if_neg (by omega)]
    simp [wordOf, List.isPrefixOf]
theorem pval_text (F : Nat) (s X : List UInt8) (n : Nat) (key : List UInt8) (deep : Nat) (hs : valids s = true) (hd : deep < 50) (hn : n < 5000) :
    pval (F + 1) (quote s ++ X) n key deep = .ok ([⟨4, key, s, 0⟩], X) := by
  have hu := unq_quote s X hs
  have hdr : (quote s ++ X).drop (quote s).length = X := List.drop_left
  rw [quote_head] at hu hdr ⊢
  simp only [pval]
  rw [skip_stay (by decide)]
  simp only []
  rw [if_neg (by decide), if_neg (by omega), show wordOf 34 = none from rfl]
  simp only []
  rw [if_pos trivial, hu]
  simp only []
  rw [hdr]
theorem pval_number (F : Nat) (s X : List UInt8) (n : Nat) (key : List UInt8) (deep : Nat) (h0 : s ≠ []) (hs : number s = s.length) (hX : okEnd X) (hd : deep < 50) (hn : n < 5000) :
    pval (F + 1) (s ++ X) n key deep = .ok ([⟨3, key, s, 0⟩], X) := by
  obtain ⟨c, t, rfl⟩ : ∃ c t, s = c :: t := by
    cases s with
    | nil => exact absurd rfl h0
    | cons c t => exact ⟨c, t, rfl⟩
  have hnum := number_behind h0 hs hX
  obtain ⟨a1, a2, a3, a4, a5, a6⟩ := number_sign (number_first (by rw [hs]; simp : number (c :: t) ≠ 0))
  have htk : ((c :: t) ++ X).take (c :: t).length = c :: t := List.take_left
  have hdr : ((c :: t) ++ X).drop (c :: t).length = X := List.drop_left
  rw [List.cons_append] at hnum htk hdr ⊢
  simp only [pval]
  rw [skip_stay a1]
  simp only []
  rw [if_neg (by rw [a2]; simp), if_neg (by omega), a3]
  simp only []
  rw [if_neg a4, if_neg a5, if_neg a6, hnum, if_neg (by simp), htk, hdr]
end Go.Proofs.YtndkbecdjaedaaaGreatDoor
/- Plain: what is printed of a right row is parsed as it was. -/
namespace Go.Proofs.YtndkbecdjaedaaaGreatDoor

theorem rkids_zero (f : Nat) (r : List V) (deep : Nat) (o : Bool) (names : List (List UInt8)) : rkids f 0 r deep o names = some r := by
  cases f <;> simp [rkids]
theorem jmany_zero (f : Nat) (r : List V) (m : Bool) : jmany f 0 r m = ([], r) := by
  cases f <;> simp [jmany]

/-- What 'right by itself' says, kind by kind. -/
theorem own_cases {v : V} {m : Bool} (h : ownV v m = true) : (m = false → v.key = []) ∧ valids v.key = true ∧
    (((v.kind = 0 ∨ v.kind = 1 ∨ v.kind = 2) ∧ v.text = [] ∧ v.count = 0) ∨ (v.kind = 3 ∧ v.text ≠ [] ∧ number v.text = v.text.length ∧ v.count = 0) ∨
      (v.kind = 4 ∧ valids v.text = true ∧ v.count = 0) ∨ ((v.kind = 5 ∨ v.kind = 6) ∧ v.text = [] ∧ 0 ≤ v.count)) := by
  unfold ownV at h
  rw [Bool.and_eq_true, Bool.and_eq_true] at h
  obtain ⟨⟨h1, h2⟩, h3⟩ := h
  refine ⟨fun hm => by subst hm; simpa using h1, h2, ?_⟩
  by_cases c1 : v.kind = 0 ∨ v.kind = 1 ∨ v.kind = 2
  · rw [if_pos c1] at h3
    simp at h3
    exact Or.inl ⟨c1, h3.1, h3.2⟩
  rw [if_neg c1] at h3
  by_cases c2 : v.kind = 3
  · rw [if_pos c2] at h3
    simp at h3
    exact Or.inr (Or.inl ⟨c2, h3.1.1, h3.1.2, h3.2⟩)
  rw [if_neg c2] at h3
  by_cases c3 : v.kind = 4
  · rw [if_pos c3] at h3
    simp at h3
    exact Or.inr (Or.inr (Or.inl ⟨c3, h3.1, h3.2⟩))
  rw [if_neg c3] at h3
  by_cases c4 : v.kind = 5 ∨ v.kind = 6
  · rw [if_pos c4] at h3
    simp at h3
    exact Or.inr (Or.inr (Or.inr ⟨c4, h3.1, h3.2⟩))
  · rw [if_neg c4] at h3; cases h3

theorem pval_empty (c e : UInt8) (kd : Int) (hk : (c = 91 ∧ e = 93 ∧ kd = 5) ∨ (c = 123 ∧ e = 125 ∧ kd = 6)) (F : Nat) (X : List UInt8) (n : Nat) (key : List UInt8) (deep : Nat) (hd : deep < 50) (hn : n < 5000) :
    pval (F + 1) (c :: e :: X) n key deep = .ok ([⟨kd, key, [], 0⟩], X) := by
  rcases hk with ⟨rfl, rfl, rfl⟩ | ⟨rfl, rfl, rfl⟩
  · simp only [pval]
    rw [skip_stay (by decide)]
    simp only []
    rw [if_neg (by decide), if_neg (by omega), show wordOf 91 = none from rfl]
    simp only []
    rw [if_neg (by decide), if_pos trivial, sgn_yes (by decide)]
  · simp only [pval]
    rw [skip_stay (by decide)]
    simp only []
    rw [if_neg (by decide), if_neg (by omega), show wordOf 123 = none from rfl]
    simp only []
    rw [if_neg (by decide), if_neg (by decide), if_pos trivial, sgn_yes (by decide)]
theorem pval_list (F : Nat) (c : UInt8) (t : List UInt8) (hb : blank c = false) (h93 : c ≠ 93) (n : Nat) (key : List UInt8) (deep : Nat) (hd : deep < 50) (hn : n < 5000) (vs : List V) (k : Nat) (r : List UInt8)
    (h : pitems F (c :: t) (n + 1) (deep + 1) = .ok (vs, k, r)) : pval (F + 1) (91 :: c :: t) n key deep = .ok (⟨5, key, [], (k : Nat)⟩ :: vs, r) := by
  simp only [pval]
  rw [skip_stay (by decide)]
  simp only []
  rw [if_neg (by decide), if_neg (by omega), show wordOf 91 = none from rfl]
  simp only []
  rw [if_neg (by decide), if_pos trivial, sgn_no hb h93, h]
theorem pval_object (F : Nat) (c : UInt8) (t : List UInt8) (hb : blank c = false) (h125 : c ≠ 125) (n : Nat) (key : List UInt8) (deep : Nat) (hd : deep < 50) (hn : n < 5000) (vs : List V) (k : Nat) (r : List UInt8)
    (h : pmems F (c :: t) (n + 1) (deep + 1) [] = .ok (vs, k, r)) : pval (F + 1) (123 :: c :: t) n key deep = .ok (⟨6, key, [], (k : Nat)⟩ :: vs, r) := by
  simp only [pval]
  rw [skip_stay (by decide)]
  simp only []
  rw [if_neg (by decide), if_neg (by omega), show wordOf 123 = none from rfl]
  simp only []
  rw [if_neg (by decide), if_neg (by decide), if_pos trivial, sgn_no hb h125, h]

def RowBack (f : Nat) : Prop := ∀ (l : List V) (deep : Nat) (m : Bool) (r' : List V), rrow f l deep m = some r' →
  ∃ vs, l = vs ++ r' ∧ 1 ≤ vs.length ∧ (jrow f l).2 = r' ∧ (∃ c t, (jrow f l).1 = c :: t ∧ blank c = false ∧ c ≠ 93 ∧ c ≠ 125) ∧ (m = false → headKey l = []) ∧ valids (headKey l) = true ∧
    ∀ F X n, 2 * ((jrow f l).1 ++ X).length + 1 ≤ F → okEnd X → n + vs.length ≤ 5000 → pval F ((jrow f l).1 ++ X) n (headKey l) deep = .ok (vs, X)
def KidsBack (f : Nat) : Prop := ∀ (k : Nat) (l : List V) (deep : Nat) (o : Bool) (names : List (List UInt8)) (r' : List V), rkids f (k + 1) l deep o names = some r' →
  ∃ vs, l = vs ++ r' ∧ 1 ≤ vs.length ∧ (jmany f (k + 1) l o).2 = r' ∧ (∃ c t, (jmany f (k + 1) l o).1 = c :: t ∧ blank c = false ∧ c ≠ 93 ∧ c ≠ 125) ∧
    ∀ F X n, 2 * ((jmany f (k + 1) l o).1 ++ 0 :: X).length + 2 ≤ F → n + vs.length ≤ 5000 →
      (o = false → pitems F ((jmany f (k + 1) l o).1 ++ 93 :: X) n deep = .ok (vs, k + 1, X)) ∧ (o = true → pmems F ((jmany f (k + 1) l o).1 ++ 125 :: X) n deep names = .ok (vs, k + 1, X))

theorem end_93 (X : List UInt8) : okEnd (93 :: X) := by unfold okEnd dg; rw [gb_cons_zero]; decide
theorem end_125 (X : List UInt8) : okEnd (125 :: X) := by unfold okEnd dg; rw [gb_cons_zero]; decide
theorem end_44 (X : List UInt8) : okEnd (44 :: X) := by unfold okEnd dg; rw [gb_cons_zero]; decide

theorem row_step {f : Nat} (hK : KidsBack f) : RowBack (f + 1) := by
  intro l deep m r' h
  cases l with
  | nil => simp [rrow] at h
  | cons v r =>
    simp only [rrow] at h
    by_cases hd : 50 ≤ deep
    · rw [if_pos hd] at h; cases h
    rw [if_neg hd] at h
    by_cases ho : ownV v m = false
    · rw [if_pos ho] at h; cases h
    rw [if_neg ho] at h
    have hd' : deep < 50 := by omega
    obtain ⟨hkey, hval, hcase⟩ := own_cases (v := v) (m := m) (by simpa using ho)
    obtain ⟨kd, key, text, count⟩ := v
    simp only [] at hkey hval hcase h
    rcases hcase with ⟨hk, rfl, rfl⟩ | ⟨rfl, ht, hnum, rfl⟩ | ⟨rfl, ht, rfl⟩ | ⟨hk, rfl, hc⟩
    · have hz : (0 : Int).toNat = 0 := rfl
      rw [hz, rkids_zero] at h
      have hr := Option.some.inj h
      subst hr
      have hj : jrow (f + 1) (⟨kd, key, [], 0⟩ :: r) = (wordK kd, r) := by
        simp only [jrow]
        rw [if_neg (by omega), if_neg (by omega), if_neg (by omega), if_neg (by omega)]
      rw [hj]
      refine ⟨[⟨kd, key, [], 0⟩], rfl, by simp, rfl, ?_, hkey, hval, ?_⟩
      · rcases hk with rfl | rfl | rfl
        · exact ⟨110, _, rfl, by decide, by decide, by decide⟩
        · exact ⟨116, _, rfl, by decide, by decide, by decide⟩
        · exact ⟨102, _, rfl, by decide, by decide, by decide⟩
      · intro F X n hF hX hn
        obtain ⟨F', rfl⟩ : ∃ F', F = F' + 1 := ⟨F - 1, by omega⟩
        exact pval_word F' X n key deep kd hk hd' (by simp at hn; omega)
    · have hz : (0 : Int).toNat = 0 := rfl
      rw [hz, rkids_zero] at h
      have hr := Option.some.inj h
      subst hr
      have hj : jrow (f + 1) (⟨3, key, text, 0⟩ :: r) = (text, r) := by
        simp only [jrow]
        rw [if_pos trivial]
      rw [hj]
      refine ⟨[⟨3, key, text, 0⟩], rfl, by simp, rfl, ?_, hkey, hval, ?_⟩
      · obtain ⟨c, t, rfl⟩ : ∃ c t, text = c :: t := by
          cases text with
          | nil => exact absurd rfl ht
          | cons c t => exact ⟨c, t, rfl⟩
        have hf := number_first (by rw [hnum]; simp : number (c :: t) ≠ 0)
        have hs := number_sign hf
        refine ⟨c, t, rfl, hs.1, ?_, ?_⟩
        · rintro rfl
          rcases hf with h | h
          · cases h
          · exact absurd h (by decide)
        · rintro rfl
          rcases hf with h | h
          · cases h
          · exact absurd h (by decide)
      · intro F X n hF hX hn
        obtain ⟨F', rfl⟩ : ∃ F', F = F' + 1 := ⟨F - 1, by omega⟩
        exact pval_number F' text X n key deep ht hnum hX hd' (by simp at hn; omega)
    · have hz : (0 : Int).toNat = 0 := rfl
      rw [hz, rkids_zero] at h
      have hr := Option.some.inj h
      subst hr
      have hj : jrow (f + 1) (⟨4, key, text, 0⟩ :: r) = (quote text, r) := by
        simp only [jrow]
        rw [if_neg (by decide), if_pos trivial]
      rw [hj]
      refine ⟨[⟨4, key, text, 0⟩], rfl, by simp, rfl, ⟨34, _, rfl, by decide, by decide, by decide⟩, hkey, hval, ?_⟩
      intro F X n hF hX hn
      obtain ⟨F', rfl⟩ : ∃ F', F = F' + 1 := ⟨F - 1, by omega⟩
      exact pval_text F' text X n key deep ht hd' (by simp at hn; omega)
    · have hcn : count = ((count.toNat : Nat) : Int) := by omega
      cases hk0 : count.toNat with
      | zero =>
        rw [hk0] at h hcn
        rw [rkids_zero] at h
        have hr := Option.some.inj h
        subst hr
        have hc0 : count = 0 := by omega
        subst hc0
        rcases hk with rfl | rfl
        · have hj : jrow (f + 1) (⟨5, key, [], 0⟩ :: r) = ([91, 93], r) := by
            simp only [jrow]
            rw [if_neg (by decide), if_neg (by decide), if_pos trivial, show (0 : Int).toNat = 0 from rfl, jmany_zero]
            rfl
          rw [hj]
          refine ⟨[⟨5, key, [], 0⟩], rfl, by simp, rfl, ⟨91, _, rfl, by decide, by decide, by decide⟩, hkey, hval, ?_⟩
          intro F X n hF hX hn
          obtain ⟨F', rfl⟩ : ∃ F', F = F' + 1 := ⟨F - 1, by omega⟩
          exact pval_empty 91 93 5 (Or.inl ⟨rfl, rfl, rfl⟩) F' X n key deep hd' (by simp at hn; omega)
        · have hj : jrow (f + 1) (⟨6, key, [], 0⟩ :: r) = ([123, 125], r) := by
            simp only [jrow]
            rw [if_neg (by decide), if_neg (by decide), if_neg (by decide), if_pos trivial, show (0 : Int).toNat = 0 from rfl, jmany_zero]
            rfl
          rw [hj]
          refine ⟨[⟨6, key, [], 0⟩], rfl, by simp, rfl, ⟨123, _, rfl, by decide, by decide, by decide⟩, hkey, hval, ?_⟩
          intro F X n hF hX hn
          obtain ⟨F', rfl⟩ : ∃ F', F = F' + 1 := ⟨F - 1, by omega⟩
          exact pval_empty 123 125 6 (Or.inr ⟨rfl, rfl, rfl⟩) F' X n key deep hd' (by simp at hn; omega)
      | succ k =>
        rw [hk0] at h hcn
        obtain ⟨vs, hl, hvl, hj2, ⟨c, t, hct, hb, h93, h125⟩, hP⟩ := hK k r (deep + 1) _ [] r' h
        rcases hk with rfl | rfl
        · have ho5 : ((5 : Int) == 6) = false := by decide
          rw [ho5] at hj2 hct hP
          have hj : jrow (f + 1) (⟨5, key, [], count⟩ :: r) = (91 :: ((jmany f (k + 1) r false).1 ++ [93]), r') := by
            simp only [jrow]
            rw [if_neg (by decide), if_neg (by decide), if_pos trivial, hk0, hj2]
          rw [hj]
          refine ⟨⟨5, key, [], count⟩ :: vs, by rw [hl]; rfl, by simp, rfl, ⟨91, _, rfl, by decide, by decide, by decide⟩, hkey, hval, ?_⟩
          intro F X n hF hX hn
          obtain ⟨F', rfl⟩ : ∃ F', F = F' + 1 := ⟨F - 1, by omega⟩
          have := (hP F' X (n + 1) (by simp at hF ⊢; omega) (by simp at hn; omega)).1 rfl
          rw [hct, List.cons_append] at this
          have e : 91 :: ((jmany f (k + 1) r false).1 ++ [93]) ++ X = 91 :: c :: (t ++ 93 :: X) := by rw [hct]; simp
          show pval (F' + 1) (91 :: ((jmany f (k + 1) r false).1 ++ [93]) ++ X) n key deep = _
          rw [e, pval_list F' c (t ++ 93 :: X) hb h93 n key deep hd' (by simp at hn; omega) vs (k + 1) X this, ← hcn]
        · have ho6 : ((6 : Int) == 6) = true := by decide
          rw [ho6] at hj2 hct hP
          have hj : jrow (f + 1) (⟨6, key, [], count⟩ :: r) = (123 :: ((jmany f (k + 1) r true).1 ++ [125]), r') := by
            simp only [jrow]
            rw [if_neg (by decide), if_neg (by decide), if_neg (by decide), if_pos trivial, hk0, hj2]
          rw [hj]
          refine ⟨⟨6, key, [], count⟩ :: vs, by rw [hl]; rfl, by simp, rfl, ⟨123, _, rfl, by decide, by decide, by decide⟩, hkey, hval, ?_⟩
          intro F X n hF hX hn
          obtain ⟨F', rfl⟩ : ∃ F', F = F' + 1 := ⟨F - 1, by omega⟩
          have := (hP F' X (n + 1) (by simp at hF ⊢; omega) (by simp at hn; omega)).2 rfl
          rw [hct, List.cons_append] at this
          have e : 123 :: ((jmany f (k + 1) r true).1 ++ [125]) ++ X = 123 :: c :: (t ++ 125 :: X) := by rw [hct]; simp
          show pval (F' + 1) (123 :: ((jmany f (k + 1) r true).1 ++ [125]) ++ X) n key deep = _
          rw [e, pval_object F' c (t ++ 125 :: X) hb h125 n key deep hd' (by simp at hn; omega) vs (k + 1) X this, ← hcn]
end Go.Proofs.YtndkbecdjaedaaaGreatDoor
/- Plain: what is printed of a right row is parsed as it was: the induction. -/
namespace Go.Proofs.YtndkbecdjaedaaaGreatDoor

theorem kids_step {f : Nat} (hR : RowBack f) (hK : KidsBack f) : KidsBack (f + 1) := by
  intro k l deep o names r' h
  cases l with
  | nil => simp [rkids] at h
  | cons w r =>
    simp only [rkids] at h
    by_cases hdup : (o && names.contains w.key) = true
    · rw [if_pos hdup] at h; cases h
    rw [if_neg hdup] at h
    cases hr : rrow f (w :: r) deep o with
    | none => rw [hr] at h; cases h
    | some r1 =>
      rw [hr] at h
      simp only [] at h
      obtain ⟨vs, hl, hvl, hj, ⟨c, t, hct, hb, h93, h125⟩, hkey, hval, hP⟩ := hR (w :: r) deep o r1 hr
      have hnk : o = true → names.contains w.key = false := by
        intro ho; subst ho
        simpa using hdup
      have hkw : headKey (w :: r) = w.key := rfl
      obtain ⟨T, hT⟩ : ∃ T, (jrow f (w :: r)).1 = T := ⟨_, rfl⟩
      rw [hT] at hct hP
      cases k with
      | zero =>
        rw [rkids_zero] at h
        have e := Option.some.inj h
        subst e
        have hm : jmany (f + 1) 1 (w :: r) o = ((if o = true then quote w.key ++ [58] else []) ++ T, r1) := by
          simp only [jmany]
          rw [hj, hT]; simp [headKey]
        rw [show (0 : Nat) + 1 = 1 from rfl, hm]
        refine ⟨vs, hl, hvl, rfl, ?_, ?_⟩
        · cases o with
          | false => exact ⟨c, t, by simp [hct], hb, h93, h125⟩
          | true => exact ⟨34, _, by simp [quote]; rfl, by decide, by decide, by decide⟩
        · intro F X n hF hn
          obtain ⟨F', rfl⟩ : ∃ F', F = F' + 1 := ⟨F - 1, by omega⟩
          refine ⟨fun ho => ?_, fun ho => ?_⟩
          · subst ho
            have := hP F' (93 :: X) n (by simp at hF ⊢; omega) (end_93 X) hn
            rw [hkey rfl] at this
            simp only [Bool.false_eq_true, if_false, List.nil_append]
            simp only [pitems]
            rw [this]
            simp only []
            rw [sgn_yes (by decide)]
          · subst ho
            have hlen : 1 ≤ (quote w.key).length := by unfold quote; simp
            have := hP F' (125 :: X) n (by simp at hF ⊢; omega) (end_125 X) hn
            have hu := unq_quote w.key (58 :: (T ++ 125 :: X)) (by rw [← hkw]; exact hval)
            have hdr : (quote w.key ++ 58 :: (T ++ 125 :: X)).drop (quote w.key).length = 58 :: (T ++ 125 :: X) := List.drop_left
            have hsk : skip (quote w.key ++ 58 :: (T ++ 125 :: X)) = quote w.key ++ 58 :: (T ++ 125 :: X) := by rw [quote_head]; exact skip_stay (by decide) _
            have e : (if true = true then quote w.key ++ [58] else []) ++ T ++ 125 :: X = quote w.key ++ 58 :: (T ++ 125 :: X) := by simp
            show pmems (F' + 1) ((if true = true then quote w.key ++ [58] else []) ++ T ++ 125 :: X) n deep names = _
            rw [e]
            simp only [pmems]
            rw [hsk, hu]
            simp only []
            rw [hnk rfl, if_neg (by decide), hdr, sgn_yes (by decide)]
            simp only []
            rw [hkw] at this
            rw [this]
            simp only []
            rw [sgn_yes (by decide)]
      | succ k =>
        obtain ⟨ws, hl2, hwl, hj2, ⟨c2, t2, hct2, hb2, _, _⟩, hP2⟩ := hK k r1 deep o (w.key :: names) r' h
        obtain ⟨U, hU⟩ : ∃ U, (jmany f (k + 1) r1 o).1 = U := ⟨_, rfl⟩
        rw [hU] at hct2 hP2
        have hm : jmany (f + 1) (k + 1 + 1) (w :: r) o = ((if o = true then quote w.key ++ [58] else []) ++ T ++ 44 :: U, r') := by
          simp only [jmany]
          rw [hj, hj2, hU, hT]; simp [headKey]
        rw [hm]
        refine ⟨vs ++ ws, by rw [hl, hl2, List.append_assoc], by rw [List.length_append]; omega, rfl, ?_, ?_⟩
        · cases o with
          | false => exact ⟨c, t ++ 44 :: U, by simp [hct], hb, h93, h125⟩
          | true => exact ⟨34, _, by simp [quote]; rfl, by decide, by decide, by decide⟩
        · intro F X n hF hn
          rw [List.length_append] at hn
          obtain ⟨F', rfl⟩ : ∃ F', F = F' + 1 := ⟨F - 1, by omega⟩
          refine ⟨fun ho => ?_, fun ho => ?_⟩
          · subst ho
            have h1 := hP F' (44 :: (U ++ 93 :: X)) n (by simp at hF ⊢; omega) (end_44 _) (by omega)
            have h2 := (hP2 F' X (n + vs.length) (by simp at hF ⊢; omega) (by omega)).1 rfl
            rw [hkey rfl] at h1
            have e : (if false = true then quote w.key ++ [58] else []) ++ T ++ 44 :: U ++ 93 :: X = T ++ 44 :: (U ++ 93 :: X) := by simp
            show pitems (F' + 1) ((if false = true then quote w.key ++ [58] else []) ++ T ++ 44 :: U ++ 93 :: X) n deep = _
            rw [e]
            simp only [pitems]
            rw [h1]
            simp only []
            rw [sgn_no (by decide) (by decide), sgn_yes (by decide)]
            simp only []
            rw [h2]
          · subst ho
            have h1 := hP F' (44 :: (U ++ 125 :: X)) n (by simp at hF ⊢; omega) (end_44 _) (by omega)
            have h2 := (hP2 F' X (n + vs.length) (by simp at hF ⊢; omega) (by omega)).2 rfl
            have hu := unq_quote w.key (58 :: (T ++ 44 :: (U ++ 125 :: X))) (by rw [← hkw]; exact hval)
            have hdr : (quote w.key ++ 58 :: (T ++ 44 :: (U ++ 125 :: X))).drop (quote w.key).length = 58 :: (T ++ 44 :: (U ++ 125 :: X)) := List.drop_left
            have hsk : skip (quote w.key ++ 58 :: (T ++ 44 :: (U ++ 125 :: X))) = quote w.key ++ 58 :: (T ++ 44 :: (U ++ 125 :: X)) := by rw [quote_head]; exact skip_stay (by decide) _
            have e : (if true = true then quote w.key ++ [58] else []) ++ T ++ 44 :: U ++ 125 :: X = quote w.key ++ 58 :: (T ++ 44 :: (U ++ 125 :: X)) := by simp
            show pmems (F' + 1) ((if true = true then quote w.key ++ [58] else []) ++ T ++ 44 :: U ++ 125 :: X) n deep names = _
            rw [e]
            simp only [pmems]
            rw [hsk, hu]
            simp only []
            rw [hnk rfl, if_neg (by decide), hdr, sgn_yes (by decide)]
            simp only []
            rw [hkw] at h1
            rw [h1]
            simp only []
            rw [sgn_no (by decide) (by decide), sgn_yes (by decide)]
            simp only []
            rw [h2]

theorem both_back : ∀ f : Nat, RowBack f ∧ KidsBack f
  | 0 => ⟨fun l deep m r' h => by simp [rrow] at h, fun k l deep o names r' h => by simp [rkids] at h⟩
  | f + 1 => ⟨row_step (both_back f).2, kids_step (both_back f).1 (both_back f).2⟩

/-- Is it a row, and right? -/
def jright (l : List V) : Bool := decide (l.length ≤ 5000) && (match rrow (2 * l.length + 2) l 0 false with | some [] => true | _ => false)
def jprint (l : List V) : List UInt8 := (jrow (2 * l.length + 2) l).1

theorem parse_print {l : List V} (h : jright l = true) : jparse (jprint l) = .ok l := by
  unfold jright at h
  rw [Bool.and_eq_true] at h
  have hlen : l.length ≤ 5000 := of_decide_eq_true h.1
  have hr : rrow (2 * l.length + 2) l 0 false = some [] := by
    have h2 := h.2
    split at h2
    · assumption
    · cases h2
  obtain ⟨vs, hl, _, _, _, hkey, _, hP⟩ := (both_back (2 * l.length + 2)).1 l 0 false [] hr
  rw [List.append_nil] at hl
  subst hl
  have := hP (2 * (jprint l).length + 2) [] 0 (by unfold jprint; simp) (by unfold okEnd dg; rw [gb_nil]; decide) (by omega)
  rw [List.append_nil, hkey rfl] at this
  unfold jparse
  unfold jprint at this ⊢
  rw [this]
  rfl
end Go.Proofs.YtndkbecdjaedaaaGreatDoor
/- Plain: what is parsed is right. -/
namespace Go.Proofs.YtndkbecdjaedaaaGreatDoor

theorem unq_valid {L x : List UInt8} {k : Nat} (h : unq L = some (x, k)) : valids x = true :=
  unqV_valid (L := L) (k := k) (by unfold unqV; rw [h])

/-- A value that has nothing, right by itself, is a row. -/
theorem rrow_leaf {v : V} {deep : Nat} {m : Bool} (hd : deep < 50) (ho : ownV v m = true) (hc : v.count = 0) (f : Nat) (rest : List V) : rrow (f + 1) (v :: rest) deep m = some rest := by
  simp only [rrow]
  rw [if_neg (by omega), if_neg (by rw [ho]; simp), hc, show (0 : Int).toNat = 0 from rfl, rkids_zero]
theorem rrow_many {v : V} {deep : Nat} {m : Bool} (hd : deep < 50) (ho : ownV v m = true) (k : Nat) (hc : v.count = (k : Nat)) (f : Nat) (l rest : List V) (h : rkids f k l (deep + 1) (v.kind == 6) [] = some rest) : rrow (f + 1) (v :: l) deep m = some rest := by
  simp only [rrow]
  rw [if_neg (by omega), if_neg (by rw [ho]; simp), hc, Int.toNat_natCast, h]

theorem own_mk {v : V} {m : Bool} (h1 : m = true ∨ v.key = []) (h2 : valids v.key = true)
    (h3 : ((v.kind = 0 ∨ v.kind = 1 ∨ v.kind = 2) ∧ v.text = [] ∧ v.count = 0) ∨ (v.kind = 3 ∧ v.text ≠ [] ∧ number v.text = v.text.length ∧ v.count = 0) ∨
      (v.kind = 4 ∧ valids v.text = true ∧ v.count = 0) ∨ ((v.kind = 5 ∨ v.kind = 6) ∧ v.text = [] ∧ 0 ≤ v.count)) : ownV v m = true := by
  unfold ownV
  rw [Bool.and_eq_true, Bool.and_eq_true]
  refine ⟨⟨by rcases h1 with h | h <;> simp [h], h2⟩, ?_⟩
  rcases h3 with ⟨a, b, c⟩ | ⟨a, b, c, d⟩ | ⟨a, b, c⟩ | ⟨a, b, c⟩
  · rw [if_pos a, b, c]; rfl
  · rw [if_neg (by omega), if_pos a, c, d]; simp [b]
  · rw [if_neg (by omega), if_neg (by omega), if_pos a, b, c]; rfl
  · rw [if_neg (by omega), if_neg (by omega), if_neg (by omega), if_pos a, b]; simp [c]

def PvR (F : Nat) : Prop := ∀ (l : List UInt8) (n : Nat) (key : List UInt8) (deep : Nat) (vs : List V) (X : List UInt8), pval F l n key deep = .ok (vs, X) → valids key = true →
  n + vs.length ≤ 5000 ∧ (∃ v t, vs = v :: t ∧ v.key = key) ∧ ∀ (f : Nat) (rest : List V) (m : Bool), 2 * vs.length ≤ f → (m = true ∨ key = []) → rrow f (vs ++ rest) deep m = some rest
def PiR (F : Nat) : Prop := ∀ (l : List UInt8) (n deep : Nat) (vs : List V) (k : Nat) (X : List UInt8), pitems F l n deep = .ok (vs, k, X) →
  n + vs.length ≤ 5000 ∧ ∀ (f : Nat) (rest : List V) (names : List (List UInt8)), 2 * vs.length + 1 ≤ f → rkids f k (vs ++ rest) deep false names = some rest
def PmR (F : Nat) : Prop := ∀ (l : List UInt8) (n deep : Nat) (had : List (List UInt8)) (vs : List V) (k : Nat) (X : List UInt8), pmems F l n deep had = .ok (vs, k, X) →
  n + vs.length ≤ 5000 ∧ ∀ (f : Nat) (rest : List V), 2 * vs.length + 1 ≤ f → rkids f k (vs ++ rest) deep true had = some rest

theorem leaf_R {v : V} {n deep : Nat} {key : List UInt8} (hk : v.key = key) (hd : deep < 50) (hn : n < 5000) (ho : ∀ m, (m = true ∨ key = []) → ownV v m = true) (hc : v.count = 0) :
    n + [v].length ≤ 5000 ∧ (∃ w t, [v] = w :: t ∧ w.key = key) ∧ ∀ (f : Nat) (rest : List V) (m : Bool), 2 * [v].length ≤ f → (m = true ∨ key = []) → rrow f ([v] ++ rest) deep m = some rest := by
  refine ⟨by simp; omega, ⟨v, [], rfl, hk⟩, fun f rest m hf hm => ?_⟩
  obtain ⟨f', rfl⟩ : ∃ f', f = f' + 1 := ⟨f - 1, by simp at hf; omega⟩
  exact rrow_leaf hd (ho m hm) hc f' rest

theorem pv_step {F : Nat} (hI : PiR F) (hM : PmR F) : PvR (F + 1) := by
  intro l n key deep vs X h hkv
  simp only [pval] at h
  cases hs : skip l with
  | nil => rw [hs] at h; cases h
  | cons c t =>
    rw [hs] at h
    simp only [] at h
    by_cases c1 : starts c = false
    · rw [if_pos c1] at h; cases h
    rw [if_neg c1] at h
    by_cases c2 : 50 ≤ deep ∨ 5000 ≤ n
    · rw [if_pos c2] at h; cases h
    rw [if_neg c2] at h
    have hd : deep < 50 := by omega
    have hn : n < 5000 := by omega
    cases hw : wordOf c with
    | some p =>
      obtain ⟨k, w⟩ := p
      rw [hw] at h
      simp only [] at h
      by_cases c3 : w.isPrefixOf (c :: t) = true
      · rw [if_pos c3] at h
        have hk3 : k = 0 ∨ k = 1 ∨ k = 2 := by
          unfold wordOf at hw
          split at hw
          · cases hw; exact Or.inl rfl
          · split at hw
            · cases hw; exact Or.inr (Or.inl rfl)
            · split at hw
              · cases hw; exact Or.inr (Or.inr rfl)
              · cases hw
        cases h
        exact leaf_R rfl hd hn (fun m hm => own_mk hm hkv (Or.inl ⟨by simp only []; omega, rfl, rfl⟩)) rfl
      · rw [if_neg c3] at h; cases h
    | none =>
      rw [hw] at h
      simp only [] at h
      by_cases c3 : c = 34
      · rw [if_pos c3] at h
        cases hu : unq (c :: t) with
        | none => rw [hu] at h; cases h
        | some p =>
          obtain ⟨x, m⟩ := p
          rw [hu] at h
          have hxv := unq_valid hu
          cases h
          exact leaf_R rfl hd hn (fun m hm => own_mk hm hkv (Or.inr (Or.inr (Or.inl ⟨rfl, hxv, rfl⟩)))) rfl
      rw [if_neg c3] at h
      by_cases c4 : c = 91
      · rw [if_pos c4] at h
        cases hg : sgn t 93 with
        | some r' =>
          rw [hg] at h
          cases h
          exact leaf_R rfl hd hn (fun m hm => own_mk hm hkv (Or.inr (Or.inr (Or.inr ⟨Or.inl rfl, rfl, by simp⟩)))) rfl
        | none =>
          rw [hg] at h
          simp only [] at h
          cases hp : pitems F t (n + 1) (deep + 1) with
          | error e => rw [hp] at h; cases h
          | ok p =>
            obtain ⟨ws, k, r'⟩ := p
            rw [hp] at h
            obtain ⟨h1, h2⟩ := hI t _ _ _ _ _ hp
            cases h
            refine ⟨by simp; omega, ⟨_, _, rfl, rfl⟩, fun f rest m hf hm => ?_⟩
            obtain ⟨f', rfl⟩ : ∃ f', f = f' + 1 := ⟨f - 1, by simp at hf; omega⟩
            exact rrow_many hd (own_mk hm hkv (Or.inr (Or.inr (Or.inr ⟨Or.inl rfl, rfl, by simp⟩)))) k rfl f' (ws ++ rest) rest (h2 f' rest [] (by simp at hf; omega))
      rw [if_neg c4] at h
      by_cases c5 : c = 123
      · rw [if_pos c5] at h
        cases hg : sgn t 125 with
        | some r' =>
          rw [hg] at h
          cases h
          exact leaf_R rfl hd hn (fun m hm => own_mk hm hkv (Or.inr (Or.inr (Or.inr ⟨Or.inr rfl, rfl, by simp⟩)))) rfl
        | none =>
          rw [hg] at h
          simp only [] at h
          cases hp : pmems F t (n + 1) (deep + 1) [] with
          | error e => rw [hp] at h; cases h
          | ok p =>
            obtain ⟨ws, k, r'⟩ := p
            rw [hp] at h
            obtain ⟨h1, h2⟩ := hM t _ _ _ _ _ _ hp
            cases h
            refine ⟨by simp; omega, ⟨_, _, rfl, rfl⟩, fun f rest m hf hm => ?_⟩
            obtain ⟨f', rfl⟩ : ∃ f', f = f' + 1 := ⟨f - 1, by simp at hf; omega⟩
            exact rrow_many hd (own_mk hm hkv (Or.inr (Or.inr (Or.inr ⟨Or.inr rfl, rfl, by simp⟩)))) k rfl f' (ws ++ rest) rest (h2 f' rest (by simp at hf; omega))
      rw [if_neg c5] at h
      by_cases c6 : number (c :: t) = 0
      · rw [if_pos c6] at h; cases h
      rw [if_neg c6] at h
      have hle := number_le (c :: t)
      have hlen : ((c :: t).take (number (c :: t))).length = number (c :: t) := by rw [List.length_take]; omega
      have hne : (c :: t).take (number (c :: t)) ≠ [] := by
        intro e
        rw [e] at hlen
        simp only [List.length_nil] at hlen
        exact c6 hlen.symm
      have hnt := number_take (c :: t)
      cases h
      exact leaf_R rfl hd hn (fun m hm => own_mk hm hkv (Or.inr (Or.inl ⟨rfl, hne, by simp only []; rw [hnt, hlen], rfl⟩))) rfl

theorem rkids_one {f k : Nat} {w : V} {t rest0 rest : List V} {deep : Nat} {o : Bool} {names : List (List UInt8)} (hdup : o = true → names.contains w.key = false) (h1 : rrow f (w :: t) deep o = some rest0) (h2 : rkids f k rest0 deep o (w.key :: names) = some rest) :
    rkids (f + 1) (k + 1) (w :: t) deep o names = some rest := by
  simp only [rkids]
  rw [if_neg (by
    cases o with
    | false => simp
    | true => rw [hdup rfl]; simp), h1]
  exact h2

theorem pi_step {F : Nat} (hV : PvR F) (hI : PiR F) : PiR (F + 1) := by
  intro l n deep vs k X h
  simp only [pitems] at h
  cases hp : pval F l n [] deep with
  | error e => rw [hp] at h; cases h
  | ok p =>
    obtain ⟨ws, r1⟩ := p
    rw [hp] at h
    obtain ⟨h1, ⟨w, t, rfl, hwk⟩, h3⟩ := hV l n [] deep ws r1 hp (by decide)
    simp only [] at h
    cases hg : sgn r1 93 with
    | some r' =>
      rw [hg] at h
      cases h
      refine ⟨h1, fun f rest names hf => ?_⟩
      obtain ⟨f', rfl⟩ : ∃ f', f = f' + 1 := ⟨f - 1, by omega⟩
      exact rkids_one (fun h => by cases h) (h3 f' rest false (by omega) (Or.inr rfl)) (rkids_zero _ _ _ _ _)
    | none =>
      rw [hg] at h
      simp only [] at h
      cases hg2 : sgn r1 44 with
      | none => rw [hg2] at h; cases h
      | some r' =>
        rw [hg2] at h
        simp only [] at h
        cases hq : pitems F r' (n + (w :: t).length) deep with
        | error e => rw [hq] at h; cases h
        | ok q =>
          obtain ⟨us, k', r''⟩ := q
          rw [hq] at h
          obtain ⟨g1, g2⟩ := hI r' _ _ us k' r'' hq
          cases h
          refine ⟨by rw [List.length_append]; omega, fun f rest names hf => ?_⟩
          rw [List.length_append] at hf
          obtain ⟨f', rfl⟩ : ∃ f', f = f' + 1 := ⟨f - 1, by omega⟩
          have hlen : 1 ≤ (w :: t).length := by simp
          rw [List.append_assoc]
          exact rkids_one (fun h => by cases h) (h3 f' (us ++ rest) false (by omega) (Or.inr rfl)) (g2 f' rest _ (by omega))
theorem pm_step {F : Nat} (hV : PvR F) (hM : PmR F) : PmR (F + 1) := by
  intro l n deep had vs k X h
  simp only [pmems] at h
  cases hu : unq (skip l) with
  | none => rw [hu] at h; cases h
  | some p =>
    obtain ⟨x, m⟩ := p
    rw [hu] at h
    have hxv := unq_valid hu
    simp only [] at h
    by_cases c1 : had.contains x = true
    · rw [if_pos c1] at h; cases h
    rw [if_neg c1] at h
    have c1' : had.contains x = false := by simpa using c1
    cases hg0 : sgn ((skip l).drop m) 58 with
    | none => rw [hg0] at h; cases h
    | some r0 =>
      rw [hg0] at h
      simp only [] at h
      cases hp : pval F r0 n x deep with
      | error e => rw [hp] at h; cases h
      | ok p =>
        obtain ⟨ws, r1⟩ := p
        rw [hp] at h
        obtain ⟨h1, ⟨w, t, rfl, hwk⟩, h3⟩ := hV r0 n x deep ws r1 hp hxv
        simp only [] at h
        cases hg : sgn r1 125 with
        | some r' =>
          rw [hg] at h
          cases h
          refine ⟨h1, fun f rest hf => ?_⟩
          obtain ⟨f', rfl⟩ : ∃ f', f = f' + 1 := ⟨f - 1, by omega⟩
          exact rkids_one (fun _ => by rw [hwk]; exact c1') (h3 f' rest true (by omega) (Or.inl rfl)) (rkids_zero _ _ _ _ _)
        | none =>
          rw [hg] at h
          simp only [] at h
          cases hg2 : sgn r1 44 with
          | none => rw [hg2] at h; cases h
          | some r' =>
            rw [hg2] at h
            simp only [] at h
            cases hq : pmems F r' (n + (w :: t).length) deep (x :: had) with
            | error e => rw [hq] at h; cases h
            | ok q =>
              obtain ⟨us, k', r''⟩ := q
              rw [hq] at h
              obtain ⟨g1, g2⟩ := hM r' _ _ _ us k' r'' hq
              cases h
              refine ⟨by rw [List.length_append]; omega, fun f rest hf => ?_⟩
              rw [List.length_append] at hf
              obtain ⟨f', rfl⟩ : ∃ f', f = f' + 1 := ⟨f - 1, by omega⟩
              have hlen : 1 ≤ (w :: t).length := by simp
              rw [List.append_assoc]
              exact rkids_one (fun _ => by rw [hwk]; exact c1') (h3 f' (us ++ rest) true (by omega) (Or.inl rfl)) (by rw [hwk]; exact g2 f' rest (by omega))

theorem all_R : ∀ F : Nat, PvR F ∧ PiR F ∧ PmR F
  | 0 => ⟨fun l n key deep vs X h => by simp [pval] at h, fun l n deep vs k X h => by simp [pitems] at h, fun l n deep had vs k X h => by simp [pmems] at h⟩
  | F + 1 => ⟨pv_step (all_R F).2.1 (all_R F).2.2, pi_step (all_R F).1 (all_R F).2.1, pm_step (all_R F).1 (all_R F).2.2⟩

theorem parse_right {b : List UInt8} {l : List V} (h : jparse b = .ok l) : jright l = true := by
  unfold jparse at h
  cases hp : pval (2 * b.length + 2) b 0 [] 0 with
  | error e => rw [hp] at h; cases h
  | ok p =>
    obtain ⟨vs, r⟩ := p
    rw [hp] at h
    simp only [] at h
    by_cases hs : skip r = []
    · rw [if_pos hs] at h
      cases h
      obtain ⟨h1, _, h3⟩ := (all_R _).1 b 0 [] 0 _ r hp (by decide)
      have := h3 (2 * l.length + 2) [] false (by omega) (Or.inr rfl)
      rw [List.append_nil] at this
      unfold jright
      rw [this, Bool.and_eq_true]
      exact ⟨by simpa using h1, rfl⟩
    · rw [if_neg hs] at h; cases h
end Go.Proofs.YtndkbecdjaedaaaGreatDoor
/- Plain: a machine with a stack tells which rows are right; where rows end. -/
namespace Go.Proofs.YtndkbecdjaedaaaGreatDoor

/-- A list or an object of which some is still to come. -/
structure Opn where
  object : Bool
  left : Nat
  had : List (List UInt8)

def popS : List Opn → List Opn
  | [] => []
  | o :: S => if o.left = 0 then popS S else o :: S

def stk : List V → List Opn → Bool
  | [], S => S.all fun o => o.left == 0
  | v :: r, S => match popS S with
    | [] => false
    | top :: S' =>
      if ownV v top.object = false ∨ 50 < S'.length + 1 then false
      else if (top.object && top.had.contains v.key) = true then false
      else if 0 < v.count then stk r (⟨v.kind == 6, v.count.toNat, []⟩ :: ⟨top.object, top.left - 1, if top.object = true then v.key :: top.had else top.had⟩ :: S')
      else stk r (⟨top.object, top.left - 1, if top.object = true then v.key :: top.had else top.had⟩ :: S')

theorem stk_done (l : List V) (o : Opn) (S : List Opn) (h : o.left = 0) : stk l (o :: S) = stk l S := by
  cases l with
  | nil => simp [stk, h]
  | cons v r => simp only [stk, popS]; rw [if_pos h]

theorem rkids_false : ∀ (f k : Nat) (l : List V) (deep : Nat) (a b : List (List UInt8)), rkids f k l deep false a = rkids f k l deep false b
  | f, 0, l, deep, a, b => by rw [rkids_zero, rkids_zero]
  | 0, k + 1, l, deep, a, b => by simp [rkids]
  | f + 1, k + 1, [], deep, a, b => by simp [rkids]
  | f + 1, k + 1, w :: r, deep, a, b => by
    simp only [rkids, Bool.false_and, Bool.false_eq_true, if_false]
    cases rrow f (w :: r) deep false with
    | none => rfl
    | some r' => exact rkids_false f k r' deep _ _

/-- What stands behind a right row is shorter. -/
theorem right_len : ∀ f : Nat, (∀ (l : List V) (deep : Nat) (m : Bool) (r : List V), rrow f l deep m = some r → r.length < l.length) ∧ (∀ (k : Nat) (l : List V) (deep : Nat) (o : Bool) (names : List (List UInt8)) (r : List V), rkids f k l deep o names = some r → r.length + k ≤ l.length)
  | 0 => ⟨fun l deep m r h => by simp [rrow] at h, fun k l deep o names r h => by
      cases k with
      | zero => rw [rkids_zero] at h; cases h; omega
      | succ k => simp [rkids] at h⟩
  | f + 1 => by
    obtain ⟨i1, i2⟩ := right_len f
    refine ⟨fun l deep m r h => ?_, fun k l deep o names r h => ?_⟩
    · cases l with
      | nil => simp [rrow] at h
      | cons v t =>
        simp only [rrow] at h
        split at h
        · cases h
        · split at h
          · cases h
          · have := i2 _ _ _ _ _ _ h
            simp; omega
    · cases k with
      | zero => rw [rkids_zero] at h; cases h; omega
      | succ k =>
        cases l with
        | nil => simp [rkids] at h
        | cons w t =>
          simp only [rkids] at h
          split at h
          · cases h
          · cases hr : rrow f (w :: t) deep o with
            | none => rw [hr] at h; cases h
            | some r1 =>
              rw [hr] at h
              have h1 := i1 _ _ _ _ hr
              have h2 := i2 _ _ _ _ _ _ h
              omega

def RowStk (f : Nat) : Prop := ∀ (v : V) (r : List V) (o : Bool) (k : Nat) (names : List (List UInt8)) (S : List Opn), 2 * (v :: r).length ≤ f →
  stk (v :: r) (⟨o, k + 1, names⟩ :: S) = if (o && names.contains v.key) = true then false else match rrow f (v :: r) S.length o with
    | none => false
    | some r' => stk r' (⟨o, k, if o = true then v.key :: names else names⟩ :: S)
def KidsStk (f : Nat) : Prop := ∀ (k : Nat) (l : List V) (o : Bool) (names : List (List UInt8)) (S : List Opn), 2 * l.length + 1 ≤ f →
  stk l (⟨o, k, names⟩ :: S) = match rkids f k l S.length o names with
    | none => false
    | some r' => stk r' S

theorem rowStk_step {f : Nat} (hK : KidsStk f) : RowStk (f + 1) := by
  intro v r o k names S hf
  simp only [List.length_cons] at hf
  have hpop : popS (⟨o, k + 1, names⟩ :: S) = ⟨o, k + 1, names⟩ :: S := by simp [popS]
  simp only [stk, hpop, rrow]
  by_cases hd : 50 ≤ S.length
  · rw [if_pos (Or.inr (by omega)), if_pos hd]
    split <;> rfl
  rw [if_neg hd]
  by_cases ho : ownV v o = false
  · rw [if_pos (Or.inl ho), if_pos ho]
    split <;> rfl
  rw [if_neg (by rintro (h | h); exact ho h; omega), if_neg ho]
  by_cases hdup : (o && names.contains v.key) = true
  · rw [if_pos hdup, if_pos hdup]
  rw [if_neg hdup, if_neg hdup]
  by_cases hc : 0 < v.count
  · rw [if_pos hc]
    have := hK v.count.toNat r (v.kind == 6) [] (⟨o, k, if o = true then v.key :: names else names⟩ :: S) (by omega)
    simp only [List.length_cons] at this
    simp only [Nat.add_sub_cancel]
    rw [this]
  · rw [if_neg hc, show v.count.toNat = 0 by omega, rkids_zero]
    simp only [Nat.add_sub_cancel]

theorem kidsStk_step {f : Nat} (hR : RowStk f) (hK : KidsStk f) : KidsStk (f + 1) := by
  intro k l o names S hf
  cases k with
  | zero => rw [rkids_zero, stk_done l _ S rfl]
  | succ k =>
    cases l with
    | nil => simp [stk, rkids]
    | cons w r =>
      simp only [List.length_cons] at hf
      rw [hR w r o k names S (by simp only [List.length_cons]; omega)]
      simp only [rkids]
      by_cases hdup : (o && names.contains w.key) = true
      · rw [if_pos hdup, if_pos hdup]
      rw [if_neg hdup, if_neg hdup]
      cases hr : rrow f (w :: r) S.length o with
      | none => rfl
      | some r' =>
        have hlt := (right_len f).1 _ _ _ _ hr
        simp only [List.length_cons] at hlt
        simp only []
        rw [hK k r' o _ S (by omega)]
        cases o with
        | true => rfl
        | false => rw [rkids_false f k r' S.length _ (w.key :: names)]

theorem all_stk : ∀ f : Nat, RowStk f ∧ KidsStk f
  | 0 => ⟨fun v r o k names S h => by simp at h, fun k l o names S h => by omega⟩
  | f + 1 => ⟨rowStk_step (all_stk f).2, kidsStk_step (all_stk f).1 (all_stk f).2⟩

/-- The machine tells which rows are right. -/
theorem stk_right (l : List V) : (decide (l.length ≤ 5000) && stk l [⟨false, 1, []⟩]) = jright l := by
  unfold jright
  congr 1
  cases l with
  | nil => simp [stk, rrow]
  | cons v r =>
    rw [(all_stk (2 * (v :: r).length + 2)).1 v r false 0 [] [] (by omega)]
    simp only [Bool.false_and, Bool.false_eq_true, if_false, List.length_nil]
    cases rrow (2 * (v :: r).length + 2) (v :: r) 0 false with
    | none => rfl
    | some r' =>
      simp only []
      rw [stk_done r' _ [] rfl]
      cases r' with
      | nil => rfl
      | cons a b => simp [stk, popS]

/-! ### where rows end -/
def endGo (N : Nat) : List V → Int → Nat → Int
  | [], want, at' => if want ≤ 0 then at' else -1
  | v :: r, want, at' => if want ≤ 0 then at' else if v.count < 0 ∨ (N : Int) < v.count then -1 else endGo N r (want - 1 + v.count) (at' + 1)
/-- The place behind the row at a place. -/
def jend (l : List V) (at' : Int) : Int := if at' < 0 ∨ (l.length : Int) ≤ at' then -1 else endGo l.length (l.drop at'.toNat) 1 at'.toNat

def RowEnd (f : Nat) : Prop := ∀ (l : List V) (deep : Nat) (m : Bool) (r : List V) (N at' : Nat) (want : Int), rrow f l deep m = some r → l.length ≤ N → 1 ≤ want → endGo N l want at' = endGo N r (want - 1) (at' + (l.length - r.length))
def KidsEnd (f : Nat) : Prop := ∀ (k : Nat) (l : List V) (deep : Nat) (o : Bool) (names : List (List UInt8)) (r : List V) (N at' : Nat) (want : Int), rkids f k l deep o names = some r → l.length ≤ N → (k : Int) ≤ want → endGo N l want at' = endGo N r (want - k) (at' + (l.length - r.length))
theorem all_end : ∀ f : Nat, RowEnd f ∧ KidsEnd f
  | 0 => ⟨fun l deep m r N at' want h => by simp [rrow] at h, fun k l deep o names r N at' want h hN hw => by
      cases k with
      | zero => rw [rkids_zero] at h; cases h; simp
      | succ k => simp [rkids] at h⟩
  | f + 1 => by
    obtain ⟨i1, i2⟩ := all_end f
    refine ⟨fun l deep m r N at' want h hN hw => ?_, fun k l deep o names r N at' want h hN hw => ?_⟩
    · cases l with
      | nil => simp [rrow] at h
      | cons v t =>
        simp only [rrow] at h
        split at h
        · cases h
        · split at h
          · cases h
          · rename_i ho
            have hlen := (right_len f).2 _ _ _ _ _ _ h
            simp only [List.length_cons] at hN
            have hc0 : 0 ≤ v.count := by
              rcases (own_cases (v := v) (m := m) (by simpa using ho)).2.2 with ⟨_, _, h⟩ | ⟨_, _, _, h⟩ | ⟨_, _, h⟩ | ⟨_, _, h⟩ <;> omega
            simp only [endGo]
            rw [if_neg (by omega), if_neg (by omega), i2 _ _ _ _ _ _ N (at' + 1) (want - 1 + v.count) h (by omega) (by omega)]
            simp only [List.length_cons]
            congr 1
            · omega
            · omega
    · cases k with
      | zero => rw [rkids_zero] at h; cases h; simp
      | succ k =>
        cases l with
        | nil => simp [rkids] at h
        | cons w t =>
          simp only [rkids] at h
          split at h
          · cases h
          · cases hr : rrow f (w :: t) deep o with
            | none => rw [hr] at h; cases h
            | some r1 =>
              rw [hr] at h
              have h1 := (right_len f).1 _ _ _ _ hr
              have h2 := (right_len f).2 _ _ _ _ _ _ h
              rw [i1 _ _ _ _ N at' want hr hN (by omega), i2 _ _ _ _ _ _ N _ (want - 1) h (by omega) (by omega)]
              congr 1
              · omega
              · omega
theorem end_right {l : List V} (h : jright l = true) : jend l 0 = l.length := by
  unfold jright at h
  rw [Bool.and_eq_true] at h
  have hr : rrow (2 * l.length + 2) l 0 false = some [] := by
    have h2 := h.2
    split at h2
    · assumption
    · cases h2
  have hlt := (right_len _).1 _ _ _ _ hr
  unfold jend
  rw [if_neg (by simp at hlt; omega)]
  show endGo l.length l 1 0 = _
  rw [(all_end _).1 _ _ _ _ l.length 0 1 hr (Nat.le_refl _) (by omega)]
  simp [endGo]
end Go.Proofs.YtndkbecdjaedaaaGreatDoor
