/- Plain: how long what is printed is, how much what is parsed weighs. -/
import Derived.Test.YtndkbecdjaedaaaGreatDoorJsVs
import Derived.Test.YtndkbecdjaedaaaGreatDoorJsPlain2
import Derived.Test.YtndkbecdjaedaaaGreatDoorJsRt
namespace Go.Proofs.YtndkbecdjaedaaaGreatDoor

theorem uqF_len : ∀ (f : Nat) (l x : List UInt8) (n : Nat), uqF f l = some (x, n) → x.length ≤ 4 * n
  | 0, l, x, n, h => by simp [uqF] at h
  | f + 1, l, x, n, h => by
    simp only [uqF] at h
    split at h
    · cases h
    split at h
    · cases h; simp
    split at h
    · cases h
    rename_i h0
    cases hq : uqF f (l.drop (uchar l).2) with
    | none => rw [hq] at h; cases h
    | some p =>
      obtain ⟨y, m⟩ := p
      rw [hq] at h
      have := uqF_len f _ _ _ hq
      have h4 := enc_length_le (uchar l).1
      cases h
      rw [List.length_append]
      omega
theorem unq_long {l x : List UInt8} {n : Nat} (h : unq l = some (x, n)) : x.length ≤ 4 * n := by
  unfold unq at h
  split at h
  · cases hq : uqin (l.drop 1) with
    | none => rw [hq] at h; cases h
    | some p =>
      obtain ⟨y, m⟩ := p
      rw [hq] at h
      have := uqF_len _ _ _ _ hq
      cases h
      show y.length ≤ 4 * (m + 1)
      omega
  · cases h
theorem weigh_app : ∀ a b : List V, weigh (a ++ b) = weigh a + weigh b
  | [], b => by simp [weigh]
  | x :: t, b => by simp only [List.cons_append, weigh, weigh_app t b]; omega
theorem weigh_mem {l : List V} {x : V} (h : x ∈ l) : x.key.length + x.text.length ≤ weigh l := by
  induction l with
  | nil => cases h
  | cons y t ih =>
    simp only [weigh]
    rcases List.mem_cons.1 h with rfl | h
    · omega
    · have := ih h; omega

mutual
theorem pval_weigh : ∀ (f : Nat) (l : List UInt8) (n : Nat) (key : List UInt8) (deep : Nat) (vs : List V) (r : List UInt8), pval f l n key deep = .ok (vs, r) → weigh vs + 4 * r.length ≤ key.length + 4 * l.length ∧ ∀ v ∈ vs, v.count ≤ vs.length
  | 0, l, n, key, deep, vs, r, h => by simp [pval] at h
  | f + 1, l, n, key, deep, vs, r, h => by
    have hsk := skip_len l
    simp only [pval] at h
    cases hs : skip l with
    | nil => rw [hs] at h; cases h
    | cons c t =>
      rw [hs] at h hsk
      simp only [List.length_cons] at hsk
      simp only [] at h
      by_cases c1 : starts c = false
      · rw [if_pos c1] at h; cases h
      rw [if_neg c1] at h
      by_cases c2 : 50 ≤ deep ∨ 5000 ≤ n
      · rw [if_pos c2] at h; cases h
      rw [if_neg c2] at h
      cases hw : wordOf c with
      | some p =>
        obtain ⟨k, w⟩ := p
        rw [hw] at h
        simp only [] at h
        by_cases c3 : w.isPrefixOf (c :: t) = true
        · rw [if_pos c3] at h
          cases h
          rw [List.length_drop]
          refine ⟨by simp [weigh]; omega, fun v hv => ?_⟩
          rcases List.mem_singleton.1 hv with rfl
          simp
        · rw [if_neg c3] at h; cases h
      | none =>
        rw [hw] at h
        simp only [] at h
        by_cases c3 : c = 34
        · rw [if_pos c3] at h
          cases hu : unq (c :: t) with
          | none => rw [hu] at h; cases h
          | some p =>
            obtain ⟨x, m⟩ := p
            rw [hu] at h
            have hb := unq_bound hu
            have hx := unq_long hu
            cases h
            rw [List.length_drop]
            refine ⟨by simp [weigh] at hb ⊢; omega, fun v hv => ?_⟩
            rcases List.mem_singleton.1 hv with rfl
            simp
        rw [if_neg c3] at h
        by_cases c4 : c = 91
        · rw [if_pos c4] at h
          cases hg : sgn t 93 with
          | some r' =>
            rw [hg] at h
            have := sgn_len hg
            cases h
            refine ⟨by simp [weigh]; omega, fun v hv => ?_⟩
            rcases List.mem_singleton.1 hv with rfl
            simp
          | none =>
            rw [hg] at h
            simp only [] at h
            cases hp : pitems f t (n + 1) (deep + 1) with
            | error e => rw [hp] at h; cases h
            | ok p =>
              obtain ⟨ws, k, r'⟩ := p
              rw [hp] at h
              obtain ⟨h1, h2, h3⟩ := pitems_weigh f t _ _ _ _ _ hp
              cases h
              refine ⟨by simp [weigh]; omega, fun v hv => ?_⟩
              rw [List.length_cons]
              rcases List.mem_cons.1 hv with rfl | hv
              · show (k : Int) ≤ _; omega
              · have := h3 v hv; omega
        rw [if_neg c4] at h
        by_cases c5 : c = 123
        · rw [if_pos c5] at h
          cases hg : sgn t 125 with
          | some r' =>
            rw [hg] at h
            have := sgn_len hg
            cases h
            refine ⟨by simp [weigh]; omega, fun v hv => ?_⟩
            rcases List.mem_singleton.1 hv with rfl
            simp
          | none =>
            rw [hg] at h
            simp only [] at h
            cases hp : pmems f t (n + 1) (deep + 1) [] with
            | error e => rw [hp] at h; cases h
            | ok p =>
              obtain ⟨ws, k, r'⟩ := p
              rw [hp] at h
              obtain ⟨h1, h2, h3⟩ := pmems_weigh f t _ _ _ _ _ _ hp
              cases h
              refine ⟨by simp [weigh]; omega, fun v hv => ?_⟩
              rw [List.length_cons]
              rcases List.mem_cons.1 hv with rfl | hv
              · show (k : Int) ≤ _; omega
              · have := h3 v hv; omega
        rw [if_neg c5] at h
        by_cases c6 : number (c :: t) = 0
        · rw [if_pos c6] at h; cases h
        rw [if_neg c6] at h
        cases h
        rw [List.length_drop]
        refine ⟨?_, fun v hv => ?_⟩
        · have := List.length_take_le (number (c :: t)) (c :: t)
          have h2 : ((c :: t).take (number (c :: t))).length ≤ number (c :: t) := by rw [List.length_take]; omega
          have h3 := number_le (c :: t)
          simp only [weigh, List.length_cons, Nat.add_zero] at this h3 ⊢
          omega
        · rcases List.mem_singleton.1 hv with rfl
          simp
theorem pitems_weigh : ∀ (f : Nat) (l : List UInt8) (n deep : Nat) (vs : List V) (k : Nat) (r : List UInt8), pitems f l n deep = .ok (vs, k, r) → weigh vs + 4 * r.length ≤ 4 * l.length ∧ k ≤ vs.length ∧ ∀ v ∈ vs, v.count ≤ vs.length
  | 0, l, n, deep, vs, k, r, h => by simp [pitems] at h
  | f + 1, l, n, deep, vs, k, r, h => by
    simp only [pitems] at h
    cases hp : pval f l n [] deep with
    | error e => rw [hp] at h; cases h
    | ok p =>
      obtain ⟨ws, r1⟩ := p
      rw [hp] at h
      obtain ⟨h1, h1c⟩ := pval_weigh f l n [] deep ws r1 hp
      have hl := (pval_len f l n [] deep ws r1 hp).2
      simp only [List.length_nil] at h1
      simp only [] at h
      cases hg : sgn r1 93 with
      | some r' =>
        rw [hg] at h
        have := sgn_len hg
        cases h
        exact ⟨by omega, hl, h1c⟩
      | none =>
        rw [hg] at h
        simp only [] at h
        cases hg2 : sgn r1 44 with
        | none => rw [hg2] at h; cases h
        | some r' =>
          rw [hg2] at h
          have := sgn_len hg2
          simp only [] at h
          cases hq : pitems f r' (n + ws.length) deep with
          | error e => rw [hq] at h; cases h
          | ok q =>
            obtain ⟨us, k', r''⟩ := q
            rw [hq] at h
            obtain ⟨h2, h2k, h2c⟩ := pitems_weigh f r' _ _ us k' r'' hq
            cases h
            rw [List.length_append, weigh_app]
            refine ⟨by omega, by omega, fun v hv => ?_⟩
            rcases List.mem_append.1 hv with hv | hv
            · have := h1c v hv; omega
            · have := h2c v hv; omega
theorem pmems_weigh : ∀ (f : Nat) (l : List UInt8) (n deep : Nat) (had : List (List UInt8)) (vs : List V) (k : Nat) (r : List UInt8), pmems f l n deep had = .ok (vs, k, r) → weigh vs + 4 * r.length ≤ 4 * l.length ∧ k ≤ vs.length ∧ ∀ v ∈ vs, v.count ≤ vs.length
  | 0, l, n, deep, had, vs, k, r, h => by simp [pmems] at h
  | f + 1, l, n, deep, had, vs, k, r, h => by
    have hsk := skip_len l
    simp only [pmems] at h
    cases hu : unq (skip l) with
    | none => rw [hu] at h; cases h
    | some p =>
      obtain ⟨x, m⟩ := p
      rw [hu] at h
      have hb := unq_bound hu
      have hx := unq_long hu
      simp only [] at h
      by_cases c1 : had.contains x = true
      · rw [if_pos c1] at h; cases h
      rw [if_neg c1] at h
      cases hg0 : sgn ((skip l).drop m) 58 with
      | none => rw [hg0] at h; cases h
      | some r0 =>
        rw [hg0] at h
        have h0 := sgn_len hg0
        rw [List.length_drop] at h0
        simp only [] at h
        cases hp : pval f r0 n x deep with
        | error e => rw [hp] at h; cases h
        | ok p =>
          obtain ⟨ws, r1⟩ := p
          rw [hp] at h
          obtain ⟨h1, h1c⟩ := pval_weigh f r0 n x deep ws r1 hp
          have hl := (pval_len f r0 n x deep ws r1 hp).2
          simp only [] at h
          cases hg : sgn r1 125 with
          | some r' =>
            rw [hg] at h
            have := sgn_len hg
            cases h
            exact ⟨by omega, hl, h1c⟩
          | none =>
            rw [hg] at h
            simp only [] at h
            cases hg2 : sgn r1 44 with
            | none => rw [hg2] at h; cases h
            | some r' =>
              rw [hg2] at h
              have := sgn_len hg2
              simp only [] at h
              cases hq : pmems f r' (n + ws.length) deep (x :: had) with
              | error e => rw [hq] at h; cases h
              | ok q =>
                obtain ⟨us, k', r''⟩ := q
                rw [hq] at h
                obtain ⟨h2, h2k, h2c⟩ := pmems_weigh f r' _ _ _ us k' r'' hq
                cases h
                rw [List.length_append, weigh_app]
                refine ⟨by omega, by omega, fun v hv => ?_⟩
                rcases List.mem_append.1 hv with hv | hv
                · have := h1c v hv; omega
                · have := h2c v hv; omega
end

/-- What is parsed weighs no more than four times its text. -/
theorem parse_size {b : List UInt8} {l : List V} (h : jparse b = .ok l) : l.length ≤ 5000 ∧ weigh l ≤ 4 * b.length ∧ ∀ v ∈ l, v.count ≤ l.length := by
  refine ⟨(right_row (parse_right h)).1, ?_⟩
  unfold jparse at h
  cases hp : pval (2 * b.length + 2) b 0 [] 0 with
  | error e => rw [hp] at h; cases h
  | ok p =>
    obtain ⟨vs, r⟩ := p
    rw [hp] at h
    simp only [] at h
    obtain ⟨h1, h2⟩ := pval_weigh _ _ _ _ _ _ _ hp
    simp only [List.length_nil] at h1
    split at h
    · cases h
      exact ⟨by omega, h2⟩
    · cases h

/-- How long a row's text may be. -/
def cost : List V → Nat
  | [] => 0
  | x :: t => 6 * (x.key.length + x.text.length) + 10 + cost t
theorem cost_eq : ∀ l : List V, cost l = 6 * weigh l + 10 * l.length
  | [] => rfl
  | x :: t => by simp only [cost, weigh, List.length_cons, cost_eq t]; omega
theorem word_len (k : Int) : (wordK k).length ≤ 5 := by
  unfold wordK
  split
  · simp
  · split <;> simp

theorem all_size : ∀ f : Nat, (∀ (l : List V) (deep : Nat) (m : Bool) (r : List V), rrow f l deep m = some r → (jrow f l).1.length + 6 * (headKey l).length + 4 + cost r ≤ cost l) ∧
    (∀ (k : Nat) (l : List V) (deep : Nat) (o : Bool) (names : List (List UInt8)) (r : List V), rkids f k l deep o names = some r → (jmany f k l o).1.length + cost r ≤ cost l)
  | 0 => by
    refine ⟨fun l deep m r h => by simp [rrow] at h, fun k l deep o names r h => ?_⟩
    cases k with
    | zero => rw [rkids_zero] at h; cases h; rw [jmany_zero]; simp
    | succ k => simp [rkids] at h
  | f + 1 => by
    obtain ⟨hR, hK⟩ := all_size f
    refine ⟨fun l deep m r h => ?_, fun k l deep o names r h => ?_⟩
    · cases l with
      | nil => simp [rrow] at h
      | cons v t =>
        simp only [rrow] at h
        split at h
        · cases h
        split at h
        · cases h
        rename_i h50 hown
        have hk := hK _ _ _ _ _ _ h
        have hq := quote_length v.text
        have hwd := word_len v.kind
        simp only [jrow, headKey, cost]
        have hle : v.kind ≠ 5 → v.kind ≠ 6 → v.count.toNat = 0 := fun h5 h6 => by
          have := (own_cases (by simpa using hown)).2.2
          rcases this with h | h | h | h
          all_goals first | (have := h.2.2; omega) | (have := h.2.1; omega) | omega
        by_cases k3 : v.kind = 3
        · rw [if_pos k3]
          have h0 := hle (by omega) (by omega)
          rw [h0, rkids_zero] at h
          cases h
          show v.text.length + _ + _ + _ ≤ _
          omega
        rw [if_neg k3]
        by_cases k4 : v.kind = 4
        · rw [if_pos k4]
          have h0 := hle (by omega) (by omega)
          rw [h0, rkids_zero] at h
          cases h
          show (quote v.text).length + _ + _ + _ ≤ _
          omega
        rw [if_neg k4]
        by_cases k5 : v.kind = 5
        · rw [if_pos k5]
          have e6 : (v.kind == 6) = false := by rw [k5]; rfl
          rw [e6] at hk
          simp only [List.length_cons, List.length_append, List.length_nil]
          omega
        rw [if_neg k5]
        by_cases k6 : v.kind = 6
        · rw [if_pos k6]
          have e6 : (v.kind == 6) = true := by rw [k6]; rfl
          rw [e6] at hk
          simp only [List.length_cons, List.length_append, List.length_nil]
          omega
        rw [if_neg k6]
        have h0 := hle k5 k6
        rw [h0, rkids_zero] at h
        cases h
        show (wordK v.kind).length + _ + _ + _ ≤ _
        omega
    · cases k with
      | zero => rw [rkids_zero] at h; cases h; rw [jmany_zero]; simp
      | succ k =>
        cases l with
        | nil => simp [rkids] at h
        | cons w t =>
          simp only [rkids] at h
          split at h
          · cases h
          cases hr : rrow f (w :: t) deep o with
          | none => rw [hr] at h; cases h
          | some r' =>
            rw [hr] at h
            simp only [] at h
            have h1 := hR _ _ _ _ hr
            have h2 := hK _ _ _ _ _ _ h
            obtain ⟨_, _, _, hj2, _⟩ := (both_back f).1 _ _ _ _ hr
            have hq := quote_length (headKey (w :: t))
            simp only [jmany, hj2]
            have e1 : (if o = true then quote (headKey (w :: t)) ++ [58] else []).length ≤ 6 * (headKey (w :: t)).length + 3 := by
              split
              · rw [List.length_append]; simp only [List.length_cons, List.length_nil]; omega
              · simp
            have e2 : (if k = 0 then [] else 44 :: (jmany f k r' o).1).length ≤ (jmany f k r' o).1.length + 1 := by
              split
              · simp
              · simp
            rw [List.length_append, List.length_append]
            omega
theorem print_size {l : List V} (h : jright l = true) : (jprint l).length ≤ 6 * weigh l + 10 * l.length := by
  have := (all_size (2 * l.length + 2)).1 _ _ _ _ (right_row h).2
  rw [cost_eq, cost_eq] at this
  unfold jprint
  omega

/-- A short row's names and texts are short. -/
theorem fits_few {l : List V} (h : fewV l = true) (hc : ∀ x ∈ l, x.count ≤ 9223372036854775807) : Fits l ∧ l.length ≤ 80 ∧ weigh l ≤ 3000 := by
  unfold fewV at h
  rw [Bool.and_eq_true, decide_eq_true_eq, decide_eq_true_eq] at h
  exact ⟨fun x hx => by have := weigh_mem hx; exact ⟨by omega, by omega, hc x hx⟩, h⟩
/-- So are those of a row that was parsed. -/
theorem fits_parse {b : List UInt8} {l : List V} (h : jparse b = .ok l) (hb : b.length ≤ 1000000) : Fits l ∧ l.length ≤ 5000 ∧ weigh l ≤ 4000000 ∧ (jprint l).length ≤ 24050000 := by
  obtain ⟨h1, h2, h3⟩ := parse_size h
  have := print_size (parse_right h)
  exact ⟨fun x hx => by have := weigh_mem hx; have := h3 x hx; exact ⟨by omega, by omega, by omega⟩, h1, by omega, by omega⟩

theorem mem_flatten_isort {rows : List (List V)} {x : V} (h : x ∈ (isort rows).flatten) : x ∈ rows.flatten := by
  obtain ⟨r, hr, hx⟩ := List.mem_flatten.1 h
  exact List.mem_flatten.2 ⟨r, (isort_perm rows).mem_iff.1 hr, hx⟩
theorem srow_mem : ∀ f : Nat, (∀ (l : List V), (∀ x ∈ (srow f l).1, x ∈ l) ∧ ∀ x ∈ (srow f l).2, x ∈ l) ∧ (∀ (k : Nat) (l : List V), (∀ x ∈ (skids f k l).1.flatten, x ∈ l) ∧ ∀ x ∈ (skids f k l).2, x ∈ l)
  | 0 => by
    refine ⟨fun l => ⟨fun x hx => by simp [srow] at hx, fun x hx => by simpa [srow] using hx⟩, fun k l => ?_⟩
    cases k <;> exact ⟨fun x hx => by simp [skids] at hx, fun x hx => by simpa [skids] using hx⟩
  | f + 1 => by
    obtain ⟨hR, hK⟩ := srow_mem f
    refine ⟨fun l => ?_, fun k l => ?_⟩
    · cases l with
      | nil => exact ⟨fun x hx => by simp [srow] at hx, fun x hx => by simp [srow] at hx⟩
      | cons v t =>
        refine ⟨fun x hx => ?_, fun x hx => ?_⟩
        · simp only [srow] at hx
          rcases List.mem_cons.1 hx with rfl | hx
          · simp
          · refine List.mem_cons_of_mem _ ((hK v.count.toNat t).1 x ?_)
            split at hx
            · exact mem_flatten_isort hx
            · exact hx
        · simp only [srow] at hx
          exact List.mem_cons_of_mem _ ((hK v.count.toNat t).2 x hx)
    · cases k with
      | zero => rw [skids_zero]; exact ⟨fun x hx => by simp at hx, fun x hx => hx⟩
      | succ k =>
        simp only [skids]
        refine ⟨fun x hx => ?_, fun x hx => (hR l).2 x ((hK _ _).2 x hx)⟩
        rw [List.flatten_cons, List.mem_append] at hx
        rcases hx with hx | hx
        · exact (hR l).1 x hx
        · exact (hR l).2 x ((hK _ _).1 x hx)
theorem fits_sort {l : List V} (h : Fits l) : Fits (jsort l) := fun x hx => h x ((srow_mem _).1 l |>.1 x hx)
end Go.Proofs.YtndkbecdjaedaaaGreatDoor
