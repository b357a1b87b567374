/- Plain: values may be as deep as they may, and no deeper, and as many as there may be. -/
import Derived.Test.YtndkbecdjaedaaaGreatDoorJsPlain
namespace Go.Proofs.YtndkbecdjaedaaaGreatDoor

def nestT : Nat → List UInt8
  | 0 => []
  | m + 1 => 91 :: (nestT m ++ [93])
def nestR : Nat → List UInt8 → List V
  | 0, _ => []
  | 1, key => [⟨5, key, [], 0⟩]
  | m + 2, key => ⟨5, key, [], 1⟩ :: nestR (m + 1) []
theorem nestR_len : ∀ (m : Nat) (key : List UInt8), (nestR m key).length = m
  | 0, _ => rfl
  | 1, _ => rfl
  | m + 2, key => by simp only [nestR, List.length_cons]; rw [nestR_len (m + 1) []]
theorem nestT_len : ∀ m : Nat, (nestT m).length = 2 * m
  | 0 => rfl
  | m + 1 => by simp only [nestT, List.length_cons, List.length_append, List.length_nil]; rw [nestT_len m]; omega

theorem pval_list_err (F : Nat) (c : UInt8) (t : List UInt8) (hb : blank c = false) (h93 : c ≠ 93) (n : Nat) (key : List UInt8) (deep : Nat) (hd : deep < 50) (hn : n < 5000) (e : Int)
    (h : pitems F (c :: t) (n + 1) (deep + 1) = .error e) : pval (F + 1) (91 :: c :: t) n key deep = .error e := by
  simp only [pval]
  rw [skip_stay (by decide)]
  simp only []
  rw [if_neg (by decide), if_neg (by omega), show wordOf 91 = none from rfl]
  simp only []
  rw [if_neg (by decide), if_pos trivial, sgn_no hb h93, h]
theorem pval_full (F : Nat) (c : UInt8) (t : List UInt8) (hb : blank c = false) (hs : starts c = true) (n : Nat) (key : List UInt8) (deep : Nat) (h : 50 ≤ deep ∨ 5000 ≤ n) : pval (F + 1) (c :: t) n key deep = .error 2 := by
  simp only [pval]
  rw [skip_stay hb]
  simp only []
  rw [if_neg (by rw [hs]; simp), if_pos h]

/-- n lists, one in another. -/
theorem nest_parse : ∀ (m F : Nat) (X : List UInt8) (n : Nat) (key : List UInt8) (deep : Nat), 2 * m + 2 ≤ F → n + m ≤ 5000 → 1 ≤ m →
    pval F (nestT m ++ X) n key deep = if deep + m ≤ 50 then .ok (nestR m key, X) else .error 2
  | 0, F, X, n, key, deep, hF, hn, hm => by omega
  | 1, F, X, n, key, deep, hF, hn, hm => by
    obtain ⟨F', rfl⟩ : ∃ F', F = F' + 1 := ⟨F - 1, by omega⟩
    show pval (F' + 1) (91 :: 93 :: X) n key deep = _
    by_cases hd : deep + 1 ≤ 50
    · rw [if_pos hd, pval_empty 91 93 5 (Or.inl ⟨rfl, rfl, rfl⟩) F' X n key deep (by omega) (by omega)]; rfl
    · rw [if_neg hd, pval_full F' 91 _ (by decide) (by decide) n key deep (Or.inl (by omega))]
  | m + 2, F, X, n, key, deep, hF, hn, hm => by
    obtain ⟨F', rfl⟩ : ∃ F', F = F' + 2 := ⟨F - 2, by omega⟩
    have e : nestT (m + 2) ++ X = 91 :: 91 :: (nestT m ++ [93] ++ 93 :: X) := by simp [nestT]
    have e2 : (91 : UInt8) :: (nestT m ++ [93] ++ 93 :: X) = nestT (m + 1) ++ 93 :: X := by simp [nestT]
    rw [e]
    by_cases hd : 50 ≤ deep
    · rw [if_neg (by omega), pval_full (F' + 1) 91 _ (by decide) (by decide) n key deep (Or.inl hd)]
    have ih := nest_parse (m + 1) F' (93 :: X) (n + 1) [] (deep + 1) (by omega) (by omega) (by omega)
    by_cases hd2 : deep + (m + 2) ≤ 50
    · rw [if_pos hd2]
      rw [if_pos (by omega)] at ih
      refine pval_list (F' + 1) 91 _ (by decide) (by decide) n key deep (by omega) (by omega) (nestR (m + 1) []) 1 X ?_
      rw [e2]
      simp only [pitems]
      rw [ih]
      simp only []
      rw [sgn_yes (by decide)]
    · rw [if_neg hd2]
      rw [if_neg (by omega)] at ih
      refine pval_list_err (F' + 1) 91 _ (by decide) (by decide) n key deep (by omega) (by omega) 2 ?_
      rw [e2]
      simp only [pitems]
      rw [ih]

/-- n sevens, commas between. -/
def wideT : Nat → List UInt8
  | 0 => []
  | 1 => [55]
  | m + 2 => 55 :: 44 :: wideT (m + 1)
def wideR : Nat → List V
  | 0 => []
  | m + 1 => ⟨3, [], [55], 0⟩ :: wideR m
theorem wideR_len : ∀ m : Nat, (wideR m).length = m
  | 0 => rfl
  | m + 1 => by simp only [wideR, List.length_cons]; rw [wideR_len m]
theorem wide_items : ∀ (m F : Nat) (X : List UInt8) (n deep : Nat), 2 * m ≤ F → 1 ≤ m → deep < 50 →
    pitems F (wideT m ++ 93 :: X) n deep = if n + m ≤ 5000 then .ok (wideR m, m, X) else .error 2
  | 0, F, X, n, deep, hF, hm, hd => by omega
  | 1, F, X, n, deep, hF, hm, hd => by
    obtain ⟨F', rfl⟩ : ∃ F', F = F' + 2 := ⟨F - 2, by omega⟩
    show pitems (F' + 2) ([55] ++ 93 :: X) n deep = _
    simp only [pitems]
    by_cases hn : n + 1 ≤ 5000
    · rw [if_pos hn, pval_number F' [55] (93 :: X) n [] deep (by simp) (by decide) (end_93 X) hd (by omega)]
      simp only []
      rw [sgn_yes (by decide)]; rfl
    · rw [if_neg hn, show ([55] : List UInt8) ++ 93 :: X = 55 :: 93 :: X from rfl, pval_full F' 55 _ (by decide) (by decide) n [] deep (Or.inr (by omega))]
  | m + 2, F, X, n, deep, hF, hm, hd => by
    obtain ⟨G, rfl⟩ : ∃ G, F = G + 1 := ⟨F - 1, by omega⟩
    obtain ⟨F', hG⟩ : ∃ F', G = F' + 1 := ⟨G - 1, by omega⟩
    have e : wideT (m + 2) ++ 93 :: X = [55] ++ 44 :: (wideT (m + 1) ++ 93 :: X) := by simp [wideT]
    have ih := wide_items (m + 1) G X (n + (0 + 1)) deep (by omega) (by omega) hd
    rw [e]
    simp only [pitems]
    by_cases hn : n < 5000
    · have hp : pval G ([55] ++ 44 :: (wideT (m + 1) ++ 93 :: X)) n [] deep = .ok ([⟨3, [], [55], 0⟩], 44 :: (wideT (m + 1) ++ 93 :: X)) := by
        rw [hG]; exact pval_number F' [55] (44 :: (wideT (m + 1) ++ 93 :: X)) n [] deep (by simp) (by decide) (end_44 _) hd hn
      rw [hp]
      simp only []
      rw [sgn_no (by decide) (by decide), sgn_yes (by decide)]
      simp only [List.length_cons, List.length_nil]
      rw [ih]
      by_cases hn2 : n + (m + 2) ≤ 5000
      · rw [if_pos hn2, if_pos (by omega)]; rfl
      · rw [if_neg hn2, if_neg (by omega)]
    · have hp : pval G ([55] ++ 44 :: (wideT (m + 1) ++ 93 :: X)) n [] deep = .error 2 := by
        rw [hG]; exact pval_full F' 55 _ (by decide) (by decide) n [] deep (Or.inr (by omega))
      rw [hp, if_neg (by omega)]

theorem wideT_len : ∀ m : Nat, 1 ≤ m → (wideT m).length = 2 * m - 1
  | 0, h => by omega
  | 1, _ => rfl
  | m + 2, _ => by simp only [wideT, List.length_cons]; rw [wideT_len (m + 1) (by omega)]; omega
theorem wideT_head (m : Nat) (h : 1 ≤ m) : ∃ t, wideT m = 55 :: t := by
  match m, h with
  | 1, _ => exact ⟨[], rfl⟩
  | m + 2, _ => exact ⟨_, rfl⟩

theorem deep_law (n : Nat) (h1 : 1 ≤ n) (h2 : n ≤ 5000) : jparse (nestT n) = if n ≤ 50 then .ok (nestR n []) else .error 2 := by
  unfold jparse
  have := nest_parse n (2 * (nestT n).length + 2) [] 0 [] 0 (by rw [nestT_len]; omega) (by omega) h1
  rw [List.append_nil, Nat.zero_add] at this
  rw [this]
  by_cases h : n ≤ 50
  · rw [if_pos h, if_pos h]; rfl
  · rw [if_neg h, if_neg h]
theorem wide_law (n : Nat) (h1 : 1 ≤ n) : jparse (91 :: (wideT n ++ [93])) = if n ≤ 4999 then .ok (⟨5, [], [], (n : Nat)⟩ :: wideR n) else .error 2 := by
  unfold jparse
  have hl := wideT_len n h1
  obtain ⟨t, ht⟩ := wideT_head n h1
  have hlen : (91 :: (wideT n ++ [93])).length = 2 * n + 1 := by simp; omega
  have hF : 2 * (91 :: (wideT n ++ [93])).length + 2 = (4 * n + 3) + 1 := by rw [hlen]; omega
  rw [hF]
  have hi := wide_items n (4 * n + 3) [] (0 + 1) (0 + 1) (by omega) h1 (by omega)
  rw [ht, List.cons_append] at hi ⊢
  by_cases h : n ≤ 4999
  · rw [if_pos (by omega)] at hi
    rw [if_pos h, pval_list (4 * n + 3) 55 _ (by decide) (by decide) 0 [] 0 (by omega) (by omega) _ _ _ hi]
    rfl
  · rw [if_neg (by omega)] at hi
    rw [if_neg h, pval_list_err (4 * n + 3) 55 _ (by decide) (by decide) 0 [] 0 (by omega) (by omega) 2 hi]
end Go.Proofs.YtndkbecdjaedaaaGreatDoor
/- Plain: a right row's JSON, deeper in: parsed as it was, or too deep. -/
namespace Go.Proofs.YtndkbecdjaedaaaGreatDoor

theorem jmany_one (f : Nat) (w : V) (r : List V) (o : Bool) : jmany (f + 1) 1 (w :: r) o = ((if o = true then quote w.key ++ [58] else []) ++ (jrow f (w :: r)).1, (jrow f (w :: r)).2) := by
  simp only [jmany]
  simp [headKey]
theorem jmany_more (f k : Nat) (w : V) (r : List V) (o : Bool) : jmany (f + 1) (k + 2) (w :: r) o = ((if o = true then quote w.key ++ [58] else []) ++ (jrow f (w :: r)).1 ++ 44 :: (jmany f (k + 1) (jrow f (w :: r)).2 o).1, (jmany f (k + 1) (jrow f (w :: r)).2 o).2) := by
  simp only [jmany]
  simp [headKey]

theorem pval_object_err (F : Nat) (c : UInt8) (t : List UInt8) (hb : blank c = false) (h125 : c ≠ 125) (n : Nat) (key : List UInt8) (deep : Nat) (hd : deep < 50) (hn : n < 5000) (e : Int)
    (h : pmems F (c :: t) (n + 1) (deep + 1) [] = .error e) : pval (F + 1) (123 :: c :: t) n key deep = .error e := by
  simp only [pval]
  rw [skip_stay (by decide)]
  simp only []
  rw [if_neg (by decide), if_neg (by omega), show wordOf 123 = none from rfl]
  simp only []
  rw [if_neg (by decide), if_neg (by decide), if_pos trivial, sgn_no hb h125, h]

theorem rrow_at {f : Nat} {v : V} {r : List V} {deep : Nat} {m : Bool} {r' : List V} (h : rrow (f + 1) (v :: r) deep m = some r') : ownV v m = true ∧ rkids f v.count.toNat r (deep + 1) (v.kind == 6) [] = some r' := by
  simp only [rrow] at h
  by_cases hd : 50 ≤ deep
  · rw [if_pos hd] at h; cases h
  rw [if_neg hd] at h
  by_cases ho : ownV v m = false
  · rw [if_pos ho] at h; cases h
  rw [if_neg ho] at h
  exact ⟨by simpa using ho, h⟩
theorem rrow_mk {f : Nat} {v : V} {r : List V} {deep : Nat} {m : Bool} {r' : List V} (hd : deep < 50) (ho : ownV v m = true) (h : rkids f v.count.toNat r (deep + 1) (v.kind == 6) [] = some r') : rrow (f + 1) (v :: r) deep m = some r' := by
  simp only [rrow]
  rw [if_neg (by omega), if_neg (by rw [ho]; simp), h]

/-- A right row's JSON begins with a sign that values begin with. -/
theorem jrow_head {f : Nat} {v : V} {r : List V} {m : Bool} (ho : ownV v m = true) : ∃ c t, (jrow (f + 1) (v :: r)).1 = c :: t ∧ blank c = false ∧ starts c = true := by
  obtain ⟨_, _, hcase⟩ := own_cases ho
  obtain ⟨kd, key, text, count⟩ := v
  simp only [] at hcase
  rcases hcase with ⟨hk, rfl, rfl⟩ | ⟨rfl, ht, hnum, rfl⟩ | ⟨rfl, ht, rfl⟩ | ⟨hk | hk, rfl, hc⟩
  · have hj : (jrow (f + 1) (⟨kd, key, [], 0⟩ :: r)).1 = wordK kd := by
      simp only [jrow]
      rw [if_neg (by omega), if_neg (by omega), if_neg (by omega), if_neg (by omega)]
    rw [hj]
    rcases hk with rfl | rfl | rfl
    · exact ⟨110, _, rfl, by decide, by decide⟩
    · exact ⟨116, _, rfl, by decide, by decide⟩
    · exact ⟨102, _, rfl, by decide, by decide⟩
  · have hj : (jrow (f + 1) (⟨3, key, text, 0⟩ :: r)).1 = text := by
      simp only [jrow]
      rw [if_pos trivial]
    rw [hj]
    obtain ⟨c, t, rfl⟩ : ∃ c t, text = c :: t := by
      cases text with
      | nil => exact absurd rfl ht
      | cons c t => exact ⟨c, t, rfl⟩
    have hs := number_sign (number_first (by rw [hnum]; simp : number (c :: t) ≠ 0))
    exact ⟨c, t, rfl, hs.1, hs.2.1⟩
  · have hj : (jrow (f + 1) (⟨4, key, text, 0⟩ :: r)).1 = quote text := by
      simp only [jrow]
      rw [if_neg (by decide), if_pos trivial]
    rw [hj]
    exact ⟨34, _, rfl, by decide, by decide⟩
  · subst hk
    have hj : (jrow (f + 1) (⟨5, key, [], count⟩ :: r)).1 = 91 :: ((jmany f count.toNat r false).1 ++ [93]) := by
      simp only [jrow]
      rw [if_neg (by decide), if_neg (by decide), if_pos trivial]
    rw [hj]
    exact ⟨91, _, rfl, by decide, by decide⟩
  · subst hk
    have hj : (jrow (f + 1) (⟨6, key, [], count⟩ :: r)).1 = 123 :: ((jmany f count.toNat r true).1 ++ [125]) := by
      simp only [jrow]
      rw [if_neg (by decide), if_neg (by decide), if_neg (by decide), if_pos trivial]
    rw [hj]
    exact ⟨123, _, rfl, by decide, by decide⟩

def RowErr (f : Nat) : Prop := ∀ (l : List V) (deep : Nat) (m : Bool) (r' : List V), rrow f l deep m = some r' → ∀ deep', rrow f l deep' m = some r' ∨
  ∀ F X n, 2 * ((jrow f l).1 ++ X).length + 1 ≤ F → n + (l.length - r'.length) ≤ 5000 → pval F ((jrow f l).1 ++ X) n (headKey l) deep' = .error 2
def KidsErr (f : Nat) : Prop := ∀ (k : Nat) (l : List V) (deep : Nat) (o : Bool) (names : List (List UInt8)) (r' : List V), rkids f (k + 1) l deep o names = some r' → ∀ deep', rkids f (k + 1) l deep' o names = some r' ∨
  ∀ F X n, 2 * ((jmany f (k + 1) l o).1 ++ 0 :: X).length + 2 ≤ F → n + (l.length - r'.length) ≤ 5000 →
    (o = false → pitems F ((jmany f (k + 1) l o).1 ++ 93 :: X) n deep' = .error 2) ∧ (o = true → pmems F ((jmany f (k + 1) l o).1 ++ 125 :: X) n deep' names = .error 2)

theorem rowErr_step {f : Nat} (hK : KidsErr f) : RowErr (f + 1) := by
  intro l deep m r' h deep'
  cases l with
  | nil => simp [rrow] at h
  | cons v r =>
    obtain ⟨ho, hk⟩ := rrow_at h
    have hlt := (right_len _).1 _ _ _ _ h
    by_cases hd : 50 ≤ deep'
    · right
      intro F X n hF hn
      obtain ⟨c, t, hct, hb, hs⟩ := jrow_head (f := f) (r := r) ho
      obtain ⟨F', rfl⟩ : ∃ F', F = F' + 1 := ⟨F - 1, by omega⟩
      rw [hct, List.cons_append]
      exact pval_full F' c _ hb hs n _ deep' (Or.inl hd)
    have hd' : deep' < 50 := by omega
    cases hk0 : v.count.toNat with
    | zero =>
      rw [hk0, rkids_zero] at hk
      exact Or.inl (rrow_mk hd' ho (by rw [hk0, rkids_zero]; exact hk))
    | succ k =>
      rw [hk0] at hk
      rcases hK k r (deep + 1) _ [] r' hk (deep' + 1) with hg | hg
      · exact Or.inl (rrow_mk hd' ho (by rw [hk0]; exact hg))
      · right
        intro F X n hF hn
        simp only [List.length_cons] at hlt hn
        obtain ⟨_, _, hcase⟩ := own_cases ho
        obtain ⟨vs, _, _, _, ⟨c, t, hct, hb, h93, h125⟩, _⟩ := (both_back f).2 k r (deep + 1) _ [] r' hk
        obtain ⟨kd, key, text, count⟩ := v
        simp only [] at hk0 hcase hg hct hF ⊢
        have hkd : kd = 5 ∨ kd = 6 := by
          rcases hcase with ⟨_, _, h⟩ | ⟨_, _, _, h⟩ | ⟨_, _, h⟩ | ⟨h, _⟩
          · omega
          · omega
          · omega
          · exact h
        obtain ⟨F', rfl⟩ : ∃ F', F = F' + 1 := ⟨F - 1, by omega⟩
        rcases hkd with rfl | rfl
        · have hj : (jrow (f + 1) (⟨5, key, text, count⟩ :: r)).1 = 91 :: ((jmany f (k + 1) r false).1 ++ [93]) := by
            simp only [jrow]
            rw [if_neg (by decide), if_neg (by decide), if_pos trivial, hk0]
          rw [hj] at hF ⊢
          rw [show ((5 : Int) == 6) = false by decide] at hg hct
          have := (hg F' X (n + 1) (by simp at hF ⊢; omega) (by omega)).1 rfl
          rw [hct, List.cons_append] at this
          have e : 91 :: ((jmany f (k + 1) r false).1 ++ [93]) ++ X = 91 :: c :: (t ++ 93 :: X) := by rw [hct]; simp
          rw [e]
          exact pval_list_err F' c (t ++ 93 :: X) hb h93 n _ deep' hd' (by omega) 2 this
        · have hj : (jrow (f + 1) (⟨6, key, text, count⟩ :: r)).1 = 123 :: ((jmany f (k + 1) r true).1 ++ [125]) := by
            simp only [jrow]
            rw [if_neg (by decide), if_neg (by decide), if_neg (by decide), if_pos trivial, hk0]
          rw [hj] at hF ⊢
          rw [show ((6 : Int) == 6) = true by decide] at hg hct
          have := (hg F' X (n + 1) (by simp at hF ⊢; omega) (by omega)).2 rfl
          rw [hct, List.cons_append] at this
          have e : 123 :: ((jmany f (k + 1) r true).1 ++ [125]) ++ X = 123 :: c :: (t ++ 125 :: X) := by rw [hct]; simp
          rw [e]
          exact pval_object_err F' c (t ++ 125 :: X) hb h125 n _ deep' hd' (by omega) 2 this
end Go.Proofs.YtndkbecdjaedaaaGreatDoor
/- Plain: blanks between do not matter. -/
namespace Go.Proofs.YtndkbecdjaedaaaGreatDoor

theorem kidsErr_step {f : Nat} (hR : RowErr f) (hK : KidsErr f) : KidsErr (f + 1) := by
  intro k l deep o names r' h deep'
  have hlt0 := (right_len _).2 _ _ _ _ _ _ h
  cases l with
  | nil => simp [rkids] at h
  | cons w r =>
    simp only [rkids] at h
    by_cases hdup : (o && names.contains w.key) = true
    · rw [if_pos hdup] at h; cases h
    rw [if_neg hdup] at h
    have hnk : o = true → names.contains w.key = false := by
      intro ho; subst ho
      simpa using hdup
    have hdup' : ∀ g, (if (o && names.contains w.key) = true then (none : Option (List V)) else g) = g := fun g => if_neg hdup
    cases hr : rrow f (w :: r) deep o with
    | none => rw [hr] at h; cases h
    | some r1 =>
      rw [hr] at h
      simp only [] at h
      obtain ⟨vs, hl, hvl, hj, ⟨c, t, hct, hb, h93, h125⟩, hkey, hval, hP⟩ := (both_back f).1 (w :: r) deep o r1 hr
      have hkw : headKey (w :: r) = w.key := rfl
      have hvs : vs.length = (w :: r).length - r1.length := by rw [hl, List.length_append]; omega
      have hr1 : r1.length < (w :: r).length := (right_len _).1 _ _ _ _ hr
      have hr2 := (right_len _).2 _ _ _ _ _ _ h
      -- a member's text ahead of what its value comes to
      have hmem : ∀ (F n : Nat) (Y : List UInt8) (e : Int), o = true → pval F ((jrow f (w :: r)).1 ++ Y) n w.key deep' = .error e → pmems (F + 1) (quote w.key ++ 58 :: ((jrow f (w :: r)).1 ++ Y)) n deep' names = .error e := by
        intro F n Y e ho hp
        have hu := unq_quote w.key (58 :: ((jrow f (w :: r)).1 ++ Y)) (by rw [← hkw]; exact hval)
        have hdr : (quote w.key ++ 58 :: ((jrow f (w :: r)).1 ++ Y)).drop (quote w.key).length = 58 :: ((jrow f (w :: r)).1 ++ Y) := List.drop_left
        have hsk : skip (quote w.key ++ 58 :: ((jrow f (w :: r)).1 ++ Y)) = quote w.key ++ 58 :: ((jrow f (w :: r)).1 ++ Y) := by rw [quote_head]; exact skip_stay (by decide) _
        simp only [pmems]
        rw [hsk, hu]
        simp only []
        rw [hnk ho, if_neg (by decide), hdr, sgn_yes (by decide)]
        simp only []
        rw [hp]
      rcases hR (w :: r) deep o r1 hr deep' with hg | hg
      · cases k with
        | zero =>
          rw [rkids_zero] at h
          left
          simp only [rkids]
          rw [hdup', hg]
          exact h
        | succ k =>
          rcases hK k r1 deep o (w.key :: names) r' h deep' with hg2 | hg2
          · left
            simp only [rkids]
            rw [hdup', hg]
            exact hg2
          · right
            obtain ⟨vs', hl', hvl', hj', _, hkey', hval', hP'⟩ := (both_back f).1 (w :: r) deep' o r1 hg
            have hvs' : vs'.length = (w :: r).length - r1.length := by rw [hl', List.length_append]; omega
            intro F X n hF hn
            have hm := jmany_more f k w r o
            rw [hj] at hm
            obtain ⟨T, hT⟩ : ∃ T, (jrow f (w :: r)).1 = T := ⟨_, rfl⟩
            obtain ⟨U, hU⟩ : ∃ U, (jmany f (k + 1) r1 o).1 = U := ⟨_, rfl⟩
            rw [hU] at hg2 hm
            rw [hT] at hP' hm
            rw [hm] at hF ⊢
            obtain ⟨F', rfl⟩ : ∃ F', F = F' + 1 := ⟨F - 1, by omega⟩
            refine ⟨fun ho => ?_, fun ho => ?_⟩
            · subst ho
              have h1 := hP' F' (44 :: (U ++ 93 :: X)) n (by simp at hF ⊢; omega) (end_44 _) (by omega)
              have h2 := (hg2 F' X (n + vs'.length) (by simp at hF ⊢; omega) (by omega)).1 rfl
              rw [hkey' rfl] at h1
              have e : (if false = true then quote w.key ++ [58] else []) ++ T ++ 44 :: U ++ 93 :: X = T ++ 44 :: (U ++ 93 :: X) := by simp
              show pitems (F' + 1) ((if false = true then quote w.key ++ [58] else []) ++ T ++ 44 :: U ++ 93 :: X) n deep' = _
              rw [e]
              simp only [pitems]
              rw [h1]
              simp only []
              rw [sgn_no (by decide) (by decide), sgn_yes (by decide)]
              simp only []
              rw [h2]
            · subst ho
              have h1 := hP' F' (44 :: (U ++ 125 :: X)) n (by simp at hF ⊢; omega) (end_44 _) (by omega)
              have h2 := (hg2 F' X (n + vs'.length) (by simp at hF ⊢; omega) (by omega)).2 rfl
              have hu := unq_quote w.key (58 :: (T ++ 44 :: (U ++ 125 :: X))) (by rw [← hkw]; exact hval)
              have hdr : (quote w.key ++ 58 :: (T ++ 44 :: (U ++ 125 :: X))).drop (quote w.key).length = 58 :: (T ++ 44 :: (U ++ 125 :: X)) := List.drop_left
              have hsk : skip (quote w.key ++ 58 :: (T ++ 44 :: (U ++ 125 :: X))) = quote w.key ++ 58 :: (T ++ 44 :: (U ++ 125 :: X)) := by rw [quote_head]; exact skip_stay (by decide) _
              have e : (if true = true then quote w.key ++ [58] else []) ++ T ++ 44 :: U ++ 125 :: X = quote w.key ++ 58 :: (T ++ 44 :: (U ++ 125 :: X)) := by simp
              show pmems (F' + 1) ((if true = true then quote w.key ++ [58] else []) ++ T ++ 44 :: U ++ 125 :: X) n deep' names = _
              rw [e]
              simp only [pmems]
              rw [hsk, hu]
              simp only []
              rw [hnk rfl, if_neg (by decide), hdr, sgn_yes (by decide)]
              simp only []
              rw [hkw] at h1
              rw [h1]
              simp only []
              rw [sgn_no (by decide) (by decide), sgn_yes (by decide)]
              simp only []
              rw [h2]
      · right
        intro F X n hF hn
        obtain ⟨F', rfl⟩ : ∃ F', F = F' + 1 := ⟨F - 1, by omega⟩
        obtain ⟨Z, hZ⟩ : ∃ Z, (jmany (f + 1) (k + 1) (w :: r) o).1 = (if o = true then quote w.key ++ [58] else []) ++ (jrow f (w :: r)).1 ++ Z := by
          cases k with
          | zero => exact ⟨[], by rw [jmany_one]; simp⟩
          | succ k => exact ⟨_, by rw [jmany_more]⟩
        rw [hZ] at hF ⊢
        rw [hkw] at hg
        refine ⟨fun ho => ?_, fun ho => ?_⟩
        · subst ho
          have h1 := hg F' (Z ++ 93 :: X) n (by simp at hF ⊢; omega) (by omega)
          have hk0 : w.key = [] := by rw [← hkw]; exact hkey rfl
          rw [hk0] at h1
          have e : (if false = true then quote w.key ++ [58] else []) ++ (jrow f (w :: r)).1 ++ Z ++ 93 :: X = (jrow f (w :: r)).1 ++ (Z ++ 93 :: X) := by simp
          rw [e]
          simp only [pitems]
          rw [h1]
        · subst ho
          have h1 := hg F' (Z ++ 125 :: X) n (by simp at hF ⊢; omega) (by omega)
          have e : (if true = true then quote w.key ++ [58] else []) ++ (jrow f (w :: r)).1 ++ Z ++ 125 :: X = quote w.key ++ 58 :: ((jrow f (w :: r)).1 ++ (Z ++ 125 :: X)) := by simp
          rw [e]
          exact hmem F' n (Z ++ 125 :: X) 2 rfl h1

theorem all_err : ∀ f : Nat, RowErr f ∧ KidsErr f
  | 0 => ⟨fun l deep m r' h => by simp [rrow] at h, fun k l deep o names r' h => by simp [rkids] at h⟩
  | f + 1 => ⟨rowErr_step (all_err f).2, kidsErr_step (all_err f).1 (all_err f).2⟩

/-- A right row's JSON, one deeper, whatever may stand behind it: its row, or too deep. -/
theorem one_deeper {l : List V} (h : jright l = true) : (∀ F X n, 2 * (jprint l ++ X).length + 1 ≤ F → okEnd X → n + l.length ≤ 5000 → pval F (jprint l ++ X) n [] 1 = .ok (l, X)) ∨
    (∀ F X n, 2 * (jprint l ++ X).length + 1 ≤ F → n + l.length ≤ 5000 → pval F (jprint l ++ X) n [] 1 = .error 2) := by
  unfold jright at h
  rw [Bool.and_eq_true] at h
  have hr : rrow (2 * l.length + 2) l 0 false = some [] := by
    have h2 := h.2
    split at h2
    · assumption
    · cases h2
  have hk0 : headKey l = [] := by
    obtain ⟨_, _, _, _, _, hkey, _, _⟩ := (both_back (2 * l.length + 2)).1 l 0 false [] hr
    exact hkey rfl
  rcases (all_err (2 * l.length + 2)).1 l 0 false [] hr 1 with hg | hg
  · left
    obtain ⟨vs, hl, _, _, _, _, _, hP⟩ := (both_back (2 * l.length + 2)).1 l 1 false [] hg
    rw [List.append_nil] at hl
    subst hl
    intro F X n hF hX hn
    have := hP F X n hF hX hn
    rw [hk0] at this
    exact this
  · right
    intro F X n hF hn
    have := hg F X n hF (by simpa using hn)
    rw [hk0] at this
    exact this
end Go.Proofs.YtndkbecdjaedaaaGreatDoor
/- Plain: blanks between do not matter: of a list of two right rows. -/
namespace Go.Proofs.YtndkbecdjaedaaaGreatDoor

def allB (l : List UInt8) : Prop := ∀ c ∈ l, blank c = true
theorem skip_app : ∀ (bl l : List UInt8), allB bl → skip (bl ++ l) = skip l
  | [], l, _ => rfl
  | c :: r, l, h => by
    have hc := h c (by simp)
    have := skip_app r l (fun d hd => h d (by simp [hd]))
    unfold skip at this ⊢
    rw [List.cons_append, List.dropWhile_cons, if_pos hc]
    exact this
theorem skip_all (bl : List UInt8) (h : allB bl) : skip bl = [] := by
  have := skip_app bl [] h
  rw [List.append_nil] at this
  rw [this]; rfl
theorem sgn_app (bl l : List UInt8) (c : UInt8) (h : allB bl) : sgn (bl ++ l) c = sgn l c := by
  unfold sgn; rw [skip_app bl l h]
theorem pval_app (F : Nat) (bl l : List UInt8) (n : Nat) (key : List UInt8) (deep : Nat) (h : allB bl) : pval F (bl ++ l) n key deep = pval F l n key deep := by
  cases F with
  | zero => simp [pval]
  | succ F => simp only [pval]; rw [skip_app bl l h]
theorem blank_signs : ∀ n : Nat, n < 256 → blank (UInt8.ofNat n) = true → ¬ dg n ∧ n ≠ 46 ∧ n ≠ 101 ∧ n ≠ 69 := by
  unfold dg; decide +kernel
theorem end_blanks (bl : List UInt8) (c : UInt8) (l : List UInt8) (h : allB bl) (hc : okEnd (c :: l)) : okEnd (bl ++ c :: l) := by
  cases bl with
  | nil => exact hc
  | cons d r =>
    have := blank_signs d.toNat (UInt8.toNat_lt _) (by simpa using h d (by simp))
    unfold okEnd
    rw [List.cons_append, gb_cons_zero]
    exact this

def twoT (bl : List UInt8) (a b : List V) : List UInt8 := bl ++ 91 :: (bl ++ (jprint a ++ (bl ++ 44 :: (bl ++ (jprint b ++ (bl ++ 93 :: bl))))))

theorem jprint_head {l : List V} (h : jright l = true) : ∃ c t, jprint l = c :: t ∧ blank c = false ∧ c ≠ 93 := by
  unfold jright at h
  rw [Bool.and_eq_true] at h
  have hr : rrow (2 * l.length + 2) l 0 false = some [] := by
    have h2 := h.2
    split at h2
    · assumption
    · cases h2
  obtain ⟨_, _, _, _, ⟨c, t, e1, e2, e3, _⟩, _⟩ := (both_back (2 * l.length + 2)).1 l 0 false [] hr
  exact ⟨c, t, e1, e2, e3⟩

theorem two_open (F : Nat) (bl t : List UInt8) (hbl : allB bl) (c : UInt8) (r : List UInt8) (ht : t = c :: r) (hb : blank c = false) (h93 : c ≠ 93) : pval (F + 1) (bl ++ 91 :: (bl ++ t)) 0 [] 0 = match pitems F (bl ++ t) 1 1 with
    | .error e => .error e
    | .ok (vs, k, r') => .ok (⟨5, [], [], (k : Nat)⟩ :: vs, r') := by
  rw [pval_app _ _ _ _ _ _ hbl]
  simp only [pval]
  rw [skip_stay (by decide)]
  simp only []
  rw [if_neg (by decide), if_neg (by omega), show wordOf 91 = none from rfl]
  simp only []
  rw [if_neg (by decide), if_pos trivial, sgn_app bl t 93 hbl, ht, sgn_no hb h93]
  rfl

/-- Whatever the blanks: one answer. -/
theorem blanks_law {a b : List V} (ha : jright a = true) (hb : jright b = true) (la : a.length ≤ 80) (lb : b.length ≤ 80) : ∃ R, ∀ bl, allB bl → jparse (twoT bl a b) = R := by
  obtain ⟨c, t, hct, hbc, h93⟩ := jprint_head ha
  have key : ∀ bl, allB bl → ∃ F, 2 * (twoT bl a b).length + 2 = F + 1 ∧ jparse (twoT bl a b) = match (match pitems F (jprint a ++ (bl ++ 44 :: (bl ++ (jprint b ++ (bl ++ 93 :: bl))))) 1 1 with
      | .error e => Except.error e
      | .ok (vs, k, r') => .ok ((⟨5, [], [], (k : Nat)⟩ : V) :: vs, r')) with
    | .error e => .error e
    | .ok (vs, r) => if skip r = [] then .ok vs else .error 3 := by
    intro bl hbl
    refine ⟨2 * (twoT bl a b).length + 1, rfl, ?_⟩
    unfold jparse
    have ho := two_open (2 * (twoT bl a b).length + 1) bl (jprint a ++ (bl ++ 44 :: (bl ++ (jprint b ++ (bl ++ 93 :: bl))))) hbl c (t ++ (bl ++ 44 :: (bl ++ (jprint b ++ (bl ++ 93 :: bl))))) (by rw [hct]; rfl) hbc h93
    have hp : pitems (2 * (twoT bl a b).length + 1) (bl ++ (jprint a ++ (bl ++ 44 :: (bl ++ (jprint b ++ (bl ++ 93 :: bl)))))) 1 1 = pitems (2 * (twoT bl a b).length + 1) (jprint a ++ (bl ++ 44 :: (bl ++ (jprint b ++ (bl ++ 93 :: bl))))) 1 1 := by
      simp only [pitems]
      rw [pval_app _ _ _ _ _ _ hbl]
    rw [hp] at ho
    have e : 2 * (twoT bl a b).length + 2 = (2 * (twoT bl a b).length + 1) + 1 := rfl
    rw [e]
    have e2 : pval (2 * (twoT bl a b).length + 1 + 1) (twoT bl a b) 0 [] 0 = pval (2 * (twoT bl a b).length + 1 + 1) (bl ++ 91 :: (bl ++ (jprint a ++ (bl ++ 44 :: (bl ++ (jprint b ++ (bl ++ 93 :: bl))))))) 0 [] 0 := rfl
    rw [e2, ho]
    rfl
  have hlen : ∀ bl, (twoT bl a b).length = 6 * bl.length + (jprint a).length + (jprint b).length + 3 := by
    intro bl; unfold twoT; simp; omega
  rcases one_deeper ha with hA | hA
  · rcases one_deeper hb with hB | hB
    · refine ⟨.ok (⟨5, [], [], (2 : Nat)⟩ :: (a ++ b)), fun bl hbl => ?_⟩
      obtain ⟨F, hF, hj⟩ := key bl hbl
      rw [hlen] at hF
      obtain ⟨G, rfl⟩ : ∃ G, F = G + 2 := ⟨F - 2, by omega⟩
      have h1 := hA (G + 1) (bl ++ 44 :: (bl ++ (jprint b ++ (bl ++ 93 :: bl)))) 1 (by simp; omega) (end_blanks _ _ _ hbl (end_44 _)) (by omega)
      have h2 := hB G (bl ++ 93 :: bl) (1 + a.length) (by simp; omega) (end_blanks _ _ _ hbl (end_93 _)) (by omega)
      have hp2 : pitems (G + 1) (bl ++ (jprint b ++ (bl ++ 93 :: bl))) (1 + a.length) 1 = .ok (b, 1, bl) := by
        simp only [pitems]
        rw [pval_app _ _ _ _ _ _ hbl, h2]
        simp only []
        rw [sgn_app _ _ _ hbl, sgn_yes (by decide)]
      have hp : pitems (G + 2) (jprint a ++ (bl ++ 44 :: (bl ++ (jprint b ++ (bl ++ 93 :: bl))))) 1 1 = .ok (a ++ b, 2, bl) := by
        rw [show G + 2 = (G + 1) + 1 from rfl]
        rw [pitems]
        rw [h1]
        simp only []
        rw [sgn_app _ _ _ hbl, sgn_no (by decide) (by decide), sgn_app _ _ _ hbl, sgn_yes (by decide)]
        simp only []
        rw [hp2]
      rw [hj, hp]
      simp only []
      rw [if_pos (skip_all bl hbl)]
    · refine ⟨.error 2, fun bl hbl => ?_⟩
      obtain ⟨F, hF, hj⟩ := key bl hbl
      rw [hlen] at hF
      obtain ⟨G, rfl⟩ : ∃ G, F = G + 2 := ⟨F - 2, by omega⟩
      have h1 := hA (G + 1) (bl ++ 44 :: (bl ++ (jprint b ++ (bl ++ 93 :: bl)))) 1 (by simp; omega) (end_blanks _ _ _ hbl (end_44 _)) (by omega)
      have h2 := hB G (bl ++ 93 :: bl) (1 + a.length) (by simp; omega) (by omega)
      have hp2 : pitems (G + 1) (bl ++ (jprint b ++ (bl ++ 93 :: bl))) (1 + a.length) 1 = .error 2 := by
        simp only [pitems]
        rw [pval_app _ _ _ _ _ _ hbl, h2]
      have hp : pitems (G + 2) (jprint a ++ (bl ++ 44 :: (bl ++ (jprint b ++ (bl ++ 93 :: bl))))) 1 1 = .error 2 := by
        rw [show G + 2 = (G + 1) + 1 from rfl]
        rw [pitems]
        rw [h1]
        simp only []
        rw [sgn_app _ _ _ hbl, sgn_no (by decide) (by decide), sgn_app _ _ _ hbl, sgn_yes (by decide)]
        simp only []
        rw [hp2]
      rw [hj, hp]
  · refine ⟨.error 2, fun bl hbl => ?_⟩
    obtain ⟨F, hF, hj⟩ := key bl hbl
    rw [hlen] at hF
    obtain ⟨G, rfl⟩ : ∃ G, F = G + 2 := ⟨F - 2, by omega⟩
    have h1 := hA (G + 1) (bl ++ 44 :: (bl ++ (jprint b ++ (bl ++ 93 :: bl)))) 1 (by simp; omega) (by omega)
    have hp : pitems (G + 2) (jprint a ++ (bl ++ 44 :: (bl ++ (jprint b ++ (bl ++ 93 :: bl))))) 1 1 = .error 2 := by
      rw [show G + 2 = (G + 1) + 1 from rfl]
      rw [pitems]
      rw [h1]
    rw [hj, hp]
end Go.Proofs.YtndkbecdjaedaaaGreatDoor
/- Plain: rows whose objects are sorted: by any sort that keeps all and lets the names rise. -/
namespace Go.Proofs.YtndkbecdjaedaaaGreatDoor

/-- Is a name ahead of another? -/
def kLt (a b : List V) : Bool := decide (headKey a < headKey b)
def ins (x : List V) : List (List V) → List (List V)
  | [] => [x]
  | y :: t => if kLt y x = true then y :: ins x t else x :: y :: t
def isort : List (List V) → List (List V)
  | [] => []
  | x :: t => ins x (isort t)

mutual
/-- A row, sorted; what stands behind it. -/
def srow : Nat → List V → List V × List V
  | 0, l => ([], l)
  | _ + 1, [] => ([], [])
  | f + 1, v :: r => (v :: (if v.kind = 6 then isort (skids f v.count.toNat r).1 else (skids f v.count.toNat r).1).flatten, (skids f v.count.toNat r).2)
def skids : Nat → Nat → List V → List (List V) × List V
  | _, 0, r => ([], r)
  | 0, _ + 1, r => ([], r)
  | f + 1, k + 1, r => ((srow f r).1 :: (skids f k (srow f r).2).1, (skids f k (srow f r).2).2)
end
theorem skids_zero (f : Nat) (r : List V) : skids f 0 r = ([], r) := by
  cases f <;> simp [skids]

theorem ins_perm (x : List V) : ∀ l, (ins x l).Perm (x :: l)
  | [] => List.Perm.refl _
  | y :: t => by
    unfold ins
    split
    · exact ((ins_perm x t).cons y).trans (List.Perm.swap x y t)
    · exact List.Perm.refl _
theorem isort_perm : ∀ l, (isort l).Perm l
  | [] => List.Perm.refl _
  | x :: t => (ins_perm x (isort t)).trans ((isort_perm t).cons x)

/-- All names differ. -/
def dist (l : List (List V)) : Prop := l.Pairwise fun a b => headKey a ≠ headKey b
/-- The names rise. -/
def rises (l : List (List V)) : Prop := l.Pairwise fun a b => headKey a < headKey b

theorem dist_perm {l l' : List (List V)} (h : l.Perm l') (hd : dist l) : dist l' :=
  h.pairwise hd (fun hab => Ne.symm hab)

theorem ins_rises (x : List V) : ∀ l, rises l → (∀ y ∈ l, headKey y ≠ headKey x) → rises (ins x l)
  | [], _, _ => by unfold ins rises; simp
  | y :: t, h, hne => by
    unfold ins
    unfold rises at h ⊢
    rw [List.pairwise_cons] at h
    split
    · rename_i hyx
      have hyx : headKey y < headKey x := by simpa [kLt] using hyx
      rw [List.pairwise_cons]
      refine ⟨fun z hz => ?_, ins_rises x t h.2 (fun z hz => hne z (by simp [hz]))⟩
      rcases List.mem_cons.1 ((ins_perm x t).mem_iff.1 hz) with rfl | hz
      · exact hyx
      · exact h.1 z hz
    · rename_i hyx
      have hyx : ¬ headKey y < headKey x := by simpa [kLt] using hyx
      have hxy : headKey x < headKey y := by
        rcases List.le_iff_lt_or_eq.1 (List.not_lt.1 hyx) with h | h
        · exact h
        · exact absurd h.symm (hne y (by simp))
      rw [List.pairwise_cons, List.pairwise_cons]
      refine ⟨fun z hz => ?_, h⟩
      rcases List.mem_cons.1 hz with rfl | hz
      · exact hxy
      · exact List.lt_trans hxy (h.1 z hz)
theorem isort_rises : ∀ l, dist l → rises (isort l)
  | [], _ => by unfold isort rises; simp
  | x :: t, h => by
    unfold dist at h
    rw [List.pairwise_cons] at h
    exact ins_rises x _ (isort_rises t h.2) (fun y hy => fun e => h.1 y ((isort_perm t).mem_iff.1 hy) e.symm)

/-- Two rising lists of the same rows are one. -/
theorem rises_one : ∀ l l' : List (List V), l.Perm l' → rises l → rises l' → l = l'
  | [], l', h, _, _ => (List.nil_perm.1 h).symm ▸ rfl
  | x :: t, [], h, _, _ => absurd h.length_eq (by simp)
  | x :: t, y :: t', h, h1, h2 => by
    have h1' := h1
    have h2' := h2
    unfold rises at h1' h2'
    rw [List.pairwise_cons] at h1' h2'
    have hxy : x = y := by
      rcases List.mem_cons.1 (h.mem_iff.1 (by simp : x ∈ x :: t)) with e | e
      · exact e
      rcases List.mem_cons.1 (h.mem_iff.2 (by simp : y ∈ y :: t')) with e' | e'
      · exact e'.symm
      · exact absurd (List.lt_trans (h1'.1 y e') (h2'.1 x e)) (List.lt_irrefl _)
    subst hxy
    rw [rises_one t t' ((List.perm_cons x).1 h) h1'.2 h2'.2]
theorem isort_any {l l' : List (List V)} (h : l'.Perm l) (hr : rises l') : isort l = l' :=
  rises_one _ _ ((isort_perm l).trans h.symm) (isort_rises l (dist_perm h (hr.imp fun hab => fun e => absurd (e ▸ hab) (List.lt_irrefl _)))) hr
theorem isort_stays {l : List (List V)} (hr : rises l) : isort l = l := isort_any (List.Perm.refl _) hr
end Go.Proofs.YtndkbecdjaedaaaGreatDoor
/- Plain: what is sorted is right, has as many values, its objects' names rise; sorted again it is the same. -/
namespace Go.Proofs.YtndkbecdjaedaaaGreatDoor

/-- A row by itself: where it ends. -/
structure Comp (r : List V) : Prop where
  ne : ∃ v t, r = v :: t
  ends : ∀ (N : Nat) (X : List V) (want : Int) (at' : Nat), (r ++ X).length ≤ N → 1 ≤ want → endGo N (r ++ X) want at' = endGo N X (want - 1) (at' + r.length)
/-- At each place of a row: a value, and the rows that it has. -/
def Up (row : List V) : Prop := ∀ i, i < row.length → ∃ v rows Y, row.drop i = v :: (rows.flatten ++ Y) ∧ rows.length = v.count.toNat ∧ (∀ r ∈ rows, Comp r) ∧ (v.kind = 6 → rises rows)
/-- A right row by itself, that is sorted. -/
structure Sr (deep : Nat) (o : Bool) (row : List V) : Prop where
  ne : ∃ v t, row = v :: t
  right : ∀ (g : Nat) (X : List V), 2 * row.length ≤ g + 1 → rrow g (row ++ X) deep o = some X
  same : ∀ (g : Nat) (X : List V), 2 * row.length ≤ g + 1 → srow g (row ++ X) = (row, X)
  up : Up row

theorem Sr.comp {deep : Nat} {o : Bool} {row : List V} (h : Sr deep o row) : Comp row where
  ne := h.ne
  ends := fun N X want at' hN hw => by
    rw [(all_end _).1 _ _ _ _ N at' want (h.right (2 * row.length) X (by omega)) hN hw]
    rw [List.length_append]
    congr 1
    omega

theorem kids_made {deep : Nat} {o : Bool} : ∀ (rows : List (List V)) (names : List (List UInt8)), (∀ r ∈ rows, Sr deep o r) → (o = true → dist rows ∧ ∀ r ∈ rows, names.contains (headKey r) = false) →
    ∀ (g : Nat) (X : List V), 2 * rows.flatten.length ≤ g → rkids g rows.length (rows.flatten ++ X) deep o names = some X ∧ skids g rows.length (rows.flatten ++ X) = (rows, X)
  | [], names, _, _, g, X, _ => ⟨rkids_zero _ _ _ _ _, skids_zero _ _⟩
  | r :: rs, names, hr, hn, g, X, hg => by
    have h1 := hr r (by simp)
    obtain ⟨v, t, rfl⟩ := h1.ne
    simp only [List.flatten_cons, List.length_append, List.length_cons] at hg
    obtain ⟨g, rfl⟩ : ∃ g', g = g' + 1 := ⟨g - 1, by omega⟩
    have hlen : (v :: t).length = t.length + 1 := rfl
    have h2 := h1.right g (rs.flatten ++ X) (by omega)
    have h3 := h1.same g (rs.flatten ++ X) (by omega)
    have h4 := kids_made rs (v.key :: names) (fun x hx => hr x (by simp [hx])) (fun ho => by
      obtain ⟨hd, hm⟩ := hn ho
      unfold dist at hd
      rw [List.pairwise_cons] at hd
      refine ⟨hd.2, fun x hx => ?_⟩
      have a1 := hm x (by simp [hx])
      have a2 := hd.1 x hx
      simp only [headKey] at a2
      rw [List.contains_cons]
      rw [a1]
      simp
      exact fun e => a2 e.symm) g X (by omega)
    rw [List.flatten_cons, List.append_assoc, List.length_cons]
    rw [List.cons_append] at h2 h3 ⊢
    constructor
    · simp only [rkids]
      have hc : ¬ (o && names.contains v.key) = true := by
        intro h
        rw [Bool.and_eq_true] at h
        have := (hn h.1).2 (v :: t) (by simp)
        simp only [headKey] at this
        rw [this] at h
        exact absurd h.2 (by simp)
      rw [if_neg hc, h2]
      exact h4.1
    · simp only [skids]
      rw [h3, h4.2]

theorem flat_up : ∀ (rows : List (List V)), (∀ r ∈ rows, Up r) → Up rows.flatten
  | [], _ => fun i hi => absurd hi (by simp)
  | r :: rs, h => fun i hi => by
    rw [List.flatten_cons, List.length_append] at hi
    rw [List.flatten_cons]
    by_cases c : i < r.length
    · obtain ⟨v, rows, Y, e, h1, h2, h3⟩ := h r (by simp) i c
      refine ⟨v, rows, Y ++ rs.flatten, ?_, h1, h2, h3⟩
      rw [List.drop_append_of_le_length (by omega), e, List.cons_append, List.append_assoc]
    · obtain ⟨v, rows, Y, e, h1, h2, h3⟩ := flat_up rs (fun x hx => h x (by simp [hx])) (i - r.length) (by omega)
      refine ⟨v, rows, Y, ?_, h1, h2, h3⟩
      rw [List.drop_append, List.drop_eq_nil_of_le (by omega), List.nil_append, e]

def RowSort (f : Nat) : Prop := ∀ (l : List V) (deep : Nat) (m : Bool) (r : List V), rrow f l deep m = some r →
  ∃ row, Sr deep m row ∧ (∃ v t t', l = v :: t ∧ row = v :: t') ∧ row.length + r.length = l.length ∧ (∀ g, 2 * row.length ≤ g + 1 → srow g l = (row, r))
def KidsSort (f : Nat) : Prop := ∀ (k : Nat) (l : List V) (deep : Nat) (o : Bool) (names : List (List UInt8)) (r : List V), rkids f k l deep o names = some r →
  ∃ rows : List (List V), rows.length = k ∧ (∀ x ∈ rows, Sr deep o x) ∧ (o = true → dist rows ∧ ∀ x ∈ rows, names.contains (headKey x) = false) ∧ rows.flatten.length + r.length = l.length ∧ (∀ g, 2 * rows.flatten.length ≤ g → skids g k l = (rows, r))

theorem flatten_len_perm {l l' : List (List V)} (h : l.Perm l') : l.flatten.length = l'.flatten.length := by
  rw [List.length_flatten, List.length_flatten]
  exact (h.map List.length).sum_nat

theorem rowSort_step {f : Nat} (hK : KidsSort f) : RowSort (f + 1) := by
  intro l deep m r h
  cases l with
  | nil => simp [rrow] at h
  | cons v t =>
    have hd : deep < 50 := by
      simp only [rrow] at h
      by_cases hd : 50 ≤ deep
      · rw [if_pos hd] at h; cases h
      · omega
    obtain ⟨ho, h⟩ := rrow_at h
    obtain ⟨rows, hl, hs, hn, hlen, hsk⟩ := hK _ _ _ _ _ _ h
    obtain ⟨rows', hrows'⟩ : ∃ rows', (if v.kind = 6 then isort rows else rows) = rows' := ⟨_, rfl⟩
    have hp : rows'.Perm rows := by
      rw [← hrows']
      split
      · exact isort_perm rows
      · exact List.Perm.refl _
    have hl' : rows'.length = v.count.toNat := by rw [hp.length_eq, hl]
    have hs' : ∀ x ∈ rows', Sr (deep + 1) (v.kind == 6) x := fun x hx => hs x (hp.mem_iff.1 hx)
    have hn' : (v.kind == 6) = true → dist rows' ∧ ∀ x ∈ rows', ([] : List (List UInt8)).contains (headKey x) = false := fun h6 => ⟨dist_perm hp.symm (hn h6).1, fun x _ => by simp⟩
    have hris : v.kind = 6 → rises rows' := fun h6 => by
      rw [← hrows', if_pos h6]
      exact isort_rises rows (hn (by simpa using h6)).1
    have hF : rows'.flatten.length = rows.flatten.length := flatten_len_perm hp
    have hsort : (if v.kind = 6 then isort rows' else rows') = rows' := by
      split
      · rename_i h6
        exact isort_stays (hris h6)
      · rfl
    refine ⟨v :: rows'.flatten, ⟨⟨v, _, rfl⟩, fun g X hg => ?_, fun g X hg => ?_, fun i hi => ?_⟩, ⟨v, t, _, rfl, rfl⟩, by simp only [List.length_cons]; omega, fun g hg => ?_⟩
    · simp only [List.length_cons] at hg
      obtain ⟨g, rfl⟩ : ∃ g', g = g' + 1 := ⟨g - 1, by omega⟩
      rw [List.cons_append]
      refine rrow_mk hd ho ?_
      rw [← hl']
      exact (kids_made rows' [] hs' hn' g X (by omega)).1
    · simp only [List.length_cons] at hg
      obtain ⟨g, rfl⟩ : ∃ g', g = g' + 1 := ⟨g - 1, by omega⟩
      rw [List.cons_append]
      simp only [srow]
      rw [← hl', (kids_made rows' [] hs' hn' g X (by omega)).2]
      simp only []
      rw [hsort]
    · cases i with
      | zero => exact ⟨v, rows', [], by simp, hl', fun x hx => (hs' x hx).comp, hris⟩
      | succ i => exact flat_up rows' (fun x hx => (hs' x hx).up) i (by simpa using hi)
    · simp only [List.length_cons] at hg
      obtain ⟨g, rfl⟩ : ∃ g', g = g' + 1 := ⟨g - 1, by omega⟩
      simp only [srow]
      rw [hsk g (by omega)]
      simp only []
      rw [hrows']

theorem kidsSort_step {f : Nat} (hR : RowSort f) (hK : KidsSort f) : KidsSort (f + 1) := by
  intro k l deep o names r h
  cases k with
  | zero =>
    rw [rkids_zero] at h; cases h
    exact ⟨[], rfl, fun x hx => absurd hx (by simp), fun _ => ⟨List.Pairwise.nil, fun x hx => absurd hx (by simp)⟩, by simp, fun g _ => skids_zero _ _⟩
  | succ k =>
    cases l with
    | nil => simp [rkids] at h
    | cons w t =>
      simp only [rkids] at h
      by_cases hc : (o && names.contains w.key) = true
      · rw [if_pos hc] at h; cases h
      rw [if_neg hc] at h
      cases hr : rrow f (w :: t) deep o with
      | none => rw [hr] at h; cases h
      | some r1 =>
        rw [hr] at h
        obtain ⟨row, hs, ⟨v, t1, t2, e1, e2⟩, hlen, hsk⟩ := hR _ _ _ _ hr
        obtain ⟨rows, hl, hs', hn, hlen', hsk'⟩ := hK _ _ _ _ _ _ h
        obtain ⟨rfl, rfl⟩ := List.cons.inj e1
        have hk : headKey row = w.key := by rw [e2]; rfl
        refine ⟨row :: rows, by simp [hl], fun x hx => ?_, fun ho => ?_, ?_, fun g hg => ?_⟩
        · rcases List.mem_cons.1 hx with rfl | hx
          · exact hs
          · exact hs' x hx
        · obtain ⟨hd, hm⟩ := hn ho
          have hw : names.contains w.key = false := by
            rw [ho, Bool.true_and] at hc
            simpa using hc
          have hm2 : ∀ x ∈ rows, w.key ≠ headKey x ∧ names.contains (headKey x) = false := fun x hx => by
            have := hm x hx
            rw [List.contains_cons, Bool.or_eq_false_iff] at this
            exact ⟨fun e => by rw [e] at this; simp at this, this.2⟩
          refine ⟨?_, fun x hx => ?_⟩
          · unfold dist at hd ⊢
            rw [List.pairwise_cons]
            exact ⟨fun x hx => by rw [hk]; exact (hm2 x hx).1, hd⟩
          · rcases List.mem_cons.1 hx with rfl | hx
            · rw [hk]; exact hw
            · exact (hm2 x hx).2
        · rw [List.flatten_cons, List.length_append]; omega
        · rw [List.flatten_cons, List.length_append] at hg
          have hp : 1 ≤ row.length := by rw [e2]; simp
          obtain ⟨g, rfl⟩ : ∃ g', g = g' + 1 := ⟨g - 1, by omega⟩
          simp only [skids]
          rw [hsk g (by omega)]
          simp only []
          rw [hsk' g (by omega)]

theorem all_sort : ∀ f : Nat, RowSort f ∧ KidsSort f
  | 0 => ⟨fun l deep m r h => by simp [rrow] at h, fun k l deep o names r h => by
      cases k with
      | zero =>
        rw [rkids_zero] at h; cases h
        exact ⟨[], rfl, fun x hx => absurd hx (by simp), fun _ => ⟨List.Pairwise.nil, fun x hx => absurd hx (by simp)⟩, by simp, fun g _ => skids_zero _ _⟩
      | succ k => simp [rkids] at h⟩
  | f + 1 => ⟨rowSort_step (all_sort f).2, kidsSort_step (all_sort f).1 (all_sort f).2⟩

/-- A row, sorted. -/
def jsort (l : List V) : List V := (srow (2 * l.length + 2) l).1

theorem right_row {l : List V} (h : jright l = true) : l.length ≤ 5000 ∧ rrow (2 * l.length + 2) l 0 false = some [] := by
  unfold jright at h
  rw [Bool.and_eq_true] at h
  refine ⟨by simpa using h.1, ?_⟩
  have h2 := h.2
  split at h2
  · assumption
  · cases h2

theorem sort_law {l : List V} (h : jright l = true) : jright (jsort l) = true ∧ (jsort l).length = l.length ∧ jsort (jsort l) = jsort l ∧ Up (jsort l) := by
  obtain ⟨h5, hr⟩ := right_row h
  obtain ⟨row, hs, _, hlen, hsk⟩ := (all_sort _).1 _ _ _ _ hr
  simp only [List.length_nil, Nat.add_zero] at hlen
  have e : jsort l = row := by unfold jsort; rw [hsk _ (by omega)]
  rw [e]
  refine ⟨?_, hlen, ?_, hs.up⟩
  · unfold jright
    have := hs.right (2 * row.length + 2) [] (by omega)
    rw [List.append_nil] at this
    rw [this]
    simp; omega
  · unfold jsort
    have := hs.same (2 * row.length + 2) [] (by omega)
    rw [List.append_nil] at this
    rw [this]
end Go.Proofs.YtndkbecdjaedaaaGreatDoor
/- Plain: more of what JSON is parsed to: blanks ahead do not matter; errors; how many values. -/
namespace Go.Proofs.YtndkbecdjaedaaaGreatDoor

theorem skip_skip (l : List UInt8) : skip (skip l) = skip l := by
  cases h : skip l with
  | nil => rfl
  | cons c t =>
    have hc : blank c = false := by
      have h2 : ∀ l : List UInt8, skip l = c :: t → blank c = false := by
        intro l
        induction l with
        | nil => intro h; cases h
        | cons a r ih =>
          intro h
          unfold skip at h
          rw [List.dropWhile_cons] at h
          by_cases ha : blank a = true
          · rw [if_pos ha] at h; exact ih h
          · rw [if_neg ha] at h
            cases h
            simpa using ha
      exact h2 l h
    exact skip_stay hc t
theorem sgn_skip (l : List UInt8) (c : UInt8) : sgn (skip l) c = sgn l c := by
  unfold sgn; rw [skip_skip]
theorem pval_skip (f : Nat) (l : List UInt8) (n : Nat) (key : List UInt8) (deep : Nat) : pval f (skip l) n key deep = pval f l n key deep := by
  cases f with
  | zero => simp only [pval]
  | succ f => simp only [pval]; rw [skip_skip]
theorem pitems_skip (f : Nat) (l : List UInt8) (n deep : Nat) : pitems f (skip l) n deep = pitems f l n deep := by
  cases f with
  | zero => simp only [pitems]
  | succ f => simp only [pitems]; rw [pval_skip]
theorem pmems_skip (f : Nat) (l : List UInt8) (n deep : Nat) (had : List (List UInt8)) : pmems f (skip l) n deep had = pmems f l n deep had := by
  cases f with
  | zero => simp only [pmems]
  | succ f => simp only [pmems]; rw [skip_skip]

mutual
theorem pval_err : ∀ (f : Nat) (l : List UInt8) (n : Nat) (key : List UInt8) (deep : Nat) (e : Int), pval f l n key deep = .error e → e ≠ 0
  | 0, l, n, key, deep, e, h => by simp [pval] at h; omega
  | f + 1, l, n, key, deep, e, h => by
    simp only [pval] at h
    split at h
    · cases h; decide
    · split at h
      · cases h; decide
      split at h
      · cases h; decide
      split at h
      · split at h
        · cases h
        · cases h; decide
      split at h
      · split at h
        · cases h; decide
        · cases h
      split at h
      · split at h
        · cases h
        · split at h
          · rename_i hp
            cases h
            exact pitems_err f _ _ _ _ hp
          · cases h
      split at h
      · split at h
        · cases h
        · split at h
          · rename_i hp
            cases h
            exact pmems_err f _ _ _ _ _ hp
          · cases h
      split at h
      · cases h; decide
      · cases h
theorem pitems_err : ∀ (f : Nat) (l : List UInt8) (n deep : Nat) (e : Int), pitems f l n deep = .error e → e ≠ 0
  | 0, l, n, deep, e, h => by simp [pitems] at h; omega
  | f + 1, l, n, deep, e, h => by
    simp only [pitems] at h
    split at h
    · rename_i hp
      cases h
      exact pval_err f _ _ _ _ _ hp
    · split at h
      · cases h
      · split at h
        · cases h; decide
        · split at h
          · rename_i hp
            cases h
            exact pitems_err f _ _ _ _ hp
          · cases h
theorem pmems_err : ∀ (f : Nat) (l : List UInt8) (n deep : Nat) (had : List (List UInt8)) (e : Int), pmems f l n deep had = .error e → e ≠ 0
  | 0, l, n, deep, had, e, h => by simp [pmems] at h; omega
  | f + 1, l, n, deep, had, e, h => by
    simp only [pmems] at h
    split at h
    · cases h; decide
    · split at h
      · cases h; decide
      split at h
      · cases h; decide
      · split at h
        · rename_i hp
          cases h
          exact pval_err f _ _ _ _ _ hp
        · split at h
          · cases h
          · split at h
            · cases h; decide
            · split at h
              · rename_i hp
                cases h
                exact pmems_err f _ _ _ _ _ hp
              · cases h
end

/-- As many values as there may be, and no more. -/
theorem pval_many : ∀ f : Nat, (∀ (l : List UInt8) (n : Nat) (key : List UInt8) (deep : Nat) (vs : List V) (r : List UInt8), pval f l n key deep = .ok (vs, r) → n + vs.length ≤ 5000) ∧
    (∀ (l : List UInt8) (n deep : Nat) (vs : List V) (k : Nat) (r : List UInt8), pitems f l n deep = .ok (vs, k, r) → n + vs.length ≤ 5000) ∧
    (∀ (l : List UInt8) (n deep : Nat) (had : List (List UInt8)) (vs : List V) (k : Nat) (r : List UInt8), pmems f l n deep had = .ok (vs, k, r) → n + vs.length ≤ 5000)
  | 0 => ⟨fun l n key deep vs r h => by simp [pval] at h, fun l n deep vs k r h => by simp [pitems] at h, fun l n deep had vs k r h => by simp [pmems] at h⟩
  | f + 1 => by
    obtain ⟨i1, i2, i3⟩ := pval_many f
    refine ⟨fun l n key deep vs r h => ?_, fun l n deep vs k r h => ?_, fun l n deep had vs k r h => ?_⟩
    · simp only [pval] at h
      split at h
      · cases h
      · split at h
        · cases h
        split at h
        · cases h
        rename_i hnn
        split at h
        · split at h
          · cases h; simp; omega
          · cases h
        split at h
        · split at h
          · cases h
          · cases h; simp; omega
        split at h
        · split at h
          · cases h; simp; omega
          · split at h
            · cases h
            · rename_i hp
              cases h
              have := i2 _ _ _ _ _ _ hp
              simp; omega
        split at h
        · split at h
          · cases h; simp; omega
          · split at h
            · cases h
            · rename_i hp
              cases h
              have := i3 _ _ _ _ _ _ _ hp
              simp; omega
        split at h
        · cases h
        · cases h; simp; omega
    · simp only [pitems] at h
      split at h
      · cases h
      · rename_i hp
        have h1 := i1 _ _ _ _ _ _ hp
        split at h
        · cases h; exact h1
        · split at h
          · cases h
          · split at h
            · cases h
            · rename_i hq
              cases h
              have := i2 _ _ _ _ _ _ hq
              rw [List.length_append]; omega
    · simp only [pmems] at h
      split at h
      · cases h
      · split at h
        · cases h
        split at h
        · cases h
        · split at h
          · cases h
          · rename_i hp
            have h1 := i1 _ _ _ _ _ _ hp
            split at h
            · cases h; exact h1
            · split at h
              · cases h
              · split at h
                · cases h
                · rename_i hq
                  cases h
                  have := i3 _ _ _ _ _ _ _ hq
                  rw [List.length_append]; omega

theorem sgn_some {l r : List UInt8} {c : UInt8} (h : sgn l c = some r) : skip l = c :: r := by
  unfold sgn at h
  cases hs : skip l with
  | nil => rw [hs] at h; cases h
  | cons d t =>
    rw [hs] at h
    simp only [] at h
    by_cases e : d = c
    · rw [if_pos e] at h; cases h; rw [e]
    · rw [if_neg e] at h; cases h
theorem sgn_none {l : List UInt8} {c : UInt8} (h : sgn l c = none) : ∀ r, skip l ≠ c :: r := by
  intro r hr
  unfold sgn at h
  rw [hr] at h
  simp at h
end Go.Proofs.YtndkbecdjaedaaaGreatDoor
/- Plain: in a sorted row the places of an object's members, and that their names rise. -/
namespace Go.Proofs.YtndkbecdjaedaaaGreatDoor

theorem comp_end {l r X : List V} {k : Nat} (hc : Comp r) (hd : l.drop k = r ++ X) : jend l (k : Nat) = ((k + r.length : Nat) : Int) ∧ k + r.length ≤ l.length ∧ 1 ≤ r.length := by
  obtain ⟨v, t, rfl⟩ := hc.ne
  have hlen := congrArg List.length hd
  rw [List.length_drop, List.length_append] at hlen
  have h1 : 1 ≤ (v :: t).length := by simp
  have he := hc.ends l.length X 1 k (by rw [← hd, List.length_drop]; omega) (by omega)
  refine ⟨?_, by omega, h1⟩
  unfold jend
  rw [if_neg (by omega), Int.toNat_natCast, hd, he]
  cases X with
  | nil => simp [endGo]
  | cons x t => simp [endGo]

theorem head_at {s Y : List V} {w : V} {k : Nat} (hd : s.drop k = w :: Y) (hk : k < s.length) : s[k] = w := by
  rw [List.drop_eq_getElem_cons hk] at hd
  exact (List.cons.inj hd).1

theorem up_places {s : List V} (h : Up s) {i : Nat} (hi : i < s.length) : ∃ pl : Nat → Nat, pl 0 = i + 1 ∧ ∀ n : Nat, (n : Int) + 1 < s[i].count →
    jend s (pl n : Nat) = (pl (n + 1) : Nat) ∧ pl n < pl (n + 1) ∧ pl (n + 1) < s.length ∧ (s[i].kind = 6 → ∀ (h1 : pl n < s.length) (h2 : pl (n + 1) < s.length), s[pl n].key < s[pl (n + 1)].key) := by
  obtain ⟨v, rows, Y, hd, hc, hcomp, hr⟩ := h i hi
  have hv : s[i] = v := head_at hd hi
  have hd1 : s.drop (i + 1) = rows.flatten ++ Y := by
    have := congrArg (List.drop 1) hd
    rw [List.drop_drop] at this
    simpa using this
  have hsplit : ∀ n, s.drop (i + 1 + (rows.take n).flatten.length) = (rows.drop n).flatten ++ Y := fun n => by
    have hfl : rows.flatten = (rows.take n).flatten ++ (rows.drop n).flatten := by rw [← List.flatten_append, List.take_append_drop]
    rw [← List.drop_drop, hd1, hfl, List.append_assoc, List.drop_left]
  refine ⟨fun n => i + 1 + (rows.take n).flatten.length, by simp, fun n hn => ?_⟩
  rw [hv] at hn
  have hn1 : n + 1 < rows.length := by omega
  have e0 : rows.drop n = rows[n] :: rows.drop (n + 1) := List.drop_eq_getElem_cons (by omega)
  have e1 : rows.drop (n + 1) = rows[n + 1] :: rows.drop (n + 2) := List.drop_eq_getElem_cons (by omega)
  have s0 := hsplit n
  have s1 := hsplit (n + 1)
  rw [e0, List.flatten_cons, List.append_assoc] at s0
  rw [e1, List.flatten_cons, List.append_assoc] at s1
  have hplus : (rows.take (n + 1)).flatten.length = (rows.take n).flatten.length + rows[n].length := by
    rw [List.take_succ_eq_append_getElem (by omega), List.flatten_append, List.length_append]
    simp
  obtain ⟨j0, l0, g0⟩ := comp_end (hcomp _ (List.getElem_mem (by omega : n < rows.length))) s0
  obtain ⟨j1, l1, g1⟩ := comp_end (hcomp _ (List.getElem_mem hn1)) s1
  simp only []
  rw [hplus] at l1 s1 ⊢
  refine ⟨by rw [j0]; congr 1; omega, by omega, by omega, fun hk h1 h2 => ?_⟩
  obtain ⟨w0, t0, hw0⟩ := (hcomp _ (List.getElem_mem (by omega : n < rows.length))).ne
  obtain ⟨w1, t1, hw1⟩ := (hcomp _ (List.getElem_mem hn1)).ne
  rw [hw0, List.cons_append] at s0
  rw [hw1, List.cons_append] at s1
  rw [head_at s0 h1, head_at s1 h2]
  have hrise := hr (hv ▸ hk)
  unfold rises at hrise
  have := List.pairwise_iff_getElem.1 hrise n (n + 1) (by omega) hn1 (by omega)
  rw [hw0, hw1] at this
  exact this
end Go.Proofs.YtndkbecdjaedaaaGreatDoor
