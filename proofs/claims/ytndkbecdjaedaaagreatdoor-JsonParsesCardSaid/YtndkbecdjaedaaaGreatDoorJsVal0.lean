/- What parsing a value, what a list has, what an object has, leaves: the statements; the plain equations. -/
import Derived.Test.YtndkbecdjaedaaaGreatDoorJsRd
import Derived.Test.YtndkbecdjaedaaaGreatDoorJsPlain2
import Derived.Maps.OwnOps
import Derived.Maps.Views
namespace Go.Proofs.YtndkbecdjaedaaaGreatDoor
open Go.RowKit Go.Maps Go.WideMaps

/-- What parsing leaves: the reader, with what was parsed, or with the error. -/
structure PRes (b : Nat) (w : World) (vs : List V) (v : Value) (S : List Nat) (r : Except Int (List V × List UInt8)) (w' : World) : Prop where
  ex : ∃ l' vs' v' e', Rd b l' vs' v' e' w' ∧ Loc v v' w ∧ vs.length ≤ vs'.length ∧ vs'.length ≤ 5000 ∧ l'.length ≤ 1099511627776 ∧
    (match r with | .ok (xs, r') => e' = 0 ∧ l' = r' ∧ vs' = vs ++ xs | .error x => e' = x ∧ e' ≠ 0)
  kp : Kp (b :: (v.ownBlock.toList ++ S)) w w'

def cut3 : Except Int (List V × Nat × List UInt8) → Except Int (List V × List UInt8)
  | .error e => .error e
  | .ok (xs, _, r) => .ok (xs, r)
def cnt3 : Except Int (List V × Nat × List UInt8) → Nat
  | .error _ => 0
  | .ok (_, k, _) => k
def allV (s : Option (List UInt8)) (p : Except Int (List V × Nat × List UInt8)) : Except Int (List V × Nat × List UInt8) :=
  match s with
  | some r => .ok ([], 0, r)
  | none => p
/-- What came first, ahead of the rest. -/
def glue (xs : List V) (n : Nat) : Except Int (List V × Nat × List UInt8) → Except Int (List V × Nat × List UInt8)
  | .error e => .error e
  | .ok (ws, k, r) => .ok (xs ++ ws, n + k, r)
theorem glue_nil (p : Except Int (List V × Nat × List UInt8)) : glue [] 0 p = p := by
  cases p with
  | error e => rfl
  | ok q => obtain ⟨a, b, c⟩ := q; simp [glue]
theorem glue_glue (xs ys : List V) (m n : Nat) (p : Except Int (List V × Nat × List UInt8)) : glue xs m (glue ys n p) = glue (xs ++ ys) (m + n) p := by
  cases p with
  | error e => rfl
  | ok q => obtain ⟨a, b, c⟩ := q; simp [glue, Nat.add_assoc]

/-- A list's or an object's head, and what it has. -/
def manyV (kd : Int) (key : List UInt8) : Except Int (List V × Nat × List UInt8) → Except Int (List V × List UInt8)
  | .error e => .error e
  | .ok (vs, k, r) => .ok (⟨kd, key, [], (k : Nat)⟩ :: vs, r)

/-- One member. -/
def pmem (f : Nat) (l : List UInt8) (n deep : Nat) (had : List (List UInt8)) : Except Int (List V × List UInt8) :=
  match unq (skip l) with
  | none => .error 3
  | some (x, m) => if had.contains x = true then .error 7 else match sgn ((skip l).drop m) 58 with
    | none => .error 3
    | some r0 => pval f r0 n x deep
def pname (l : List UInt8) : List UInt8 := match unq (skip l) with | none => [] | some (x, _) => x

/-- What comes behind one of them. -/
def nextV (e : UInt8) (vs : List V) (r : List UInt8) (more : List UInt8 → Except Int (List V × Nat × List UInt8)) : Except Int (List V × Nat × List UInt8) :=
  match sgn r e with
  | some r' => .ok (vs, 1, r')
  | none => match sgn r 44 with
    | none => .error 3
    | some r' => glue vs 1 (more r')

theorem pitems_eq (f : Nat) (l : List UInt8) (n deep : Nat) : pitems (f + 1) l n deep = match pval f l n [] deep with
    | .error e => .error e
    | .ok (vs, r) => nextV 93 vs r (fun r' => pitems f r' (n + vs.length) deep) := by
  simp only [pitems]
  cases pval f l n [] deep with
  | error e => rfl
  | ok p =>
    obtain ⟨vs, r⟩ := p
    simp only [nextV]
    cases sgn r 93 with
    | some r' => rfl
    | none =>
      simp only []
      cases sgn r 44 with
      | none => rfl
      | some r' =>
        simp only []
        cases pitems f r' (n + vs.length) deep with
        | error e => rfl
        | ok q => obtain ⟨ws, k, r''⟩ := q; simp [glue, Nat.add_comm]
theorem pmems_eq (f : Nat) (l : List UInt8) (n deep : Nat) (had : List (List UInt8)) : pmems (f + 1) l n deep had = match pmem f l n deep had with
    | .error e => .error e
    | .ok (vs, r) => nextV 125 vs r (fun r' => pmems f r' (n + vs.length) deep (pname l :: had)) := by
  simp only [pmems]
  unfold pmem pname
  cases unq (skip l) with
  | none => rfl
  | some p =>
    obtain ⟨x, m⟩ := p
    simp only []
    by_cases hc : had.contains x = true
    · rw [if_pos hc, if_pos hc]
    · rw [if_neg hc, if_neg hc]
      cases sgn ((skip l).drop m) 58 with
      | none => rfl
      | some r0 =>
        simp only []
        cases pval f r0 n x deep with
        | error e => rfl
        | ok p =>
          obtain ⟨vs, r⟩ := p
          simp only [nextV]
          cases sgn r 125 with
          | some r' => rfl
          | none =>
            simp only []
            cases sgn r 44 with
            | none => rfl
            | some r' =>
              simp only []
              cases pmems f r' (n + vs.length) deep (x :: had) with
              | error e => rfl
              | ok q => obtain ⟨ws, k, r''⟩ := q; simp [glue, Nat.add_comm]

theorem begin_pos {t : List UInt8} {n deep : Nat} (h : beginE t n deep = 0) : ∃ c r, t = c :: r ∧ starts c = true ∧ deep < 50 ∧ n < 5000 := by
  unfold beginE at h
  cases t with
  | nil => simp at h
  | cons c r =>
    simp only [] at h
    by_cases h1 : starts c = false
    · rw [if_pos h1] at h; simp at h
    rw [if_neg h1] at h
    by_cases h2 : 50 ≤ deep ∨ 5000 ≤ n
    · rw [if_pos h2] at h; simp at h
    exact ⟨c, r, rfl, by simpa using h1, by omega, by omega⟩
theorem pval_begin {f : Nat} {l key : List UInt8} {n deep : Nat} (h : beginE (skip l) n deep ≠ 0) : pval (f + 1) l n key deep = .error (beginE (skip l) n deep) := by
  simp only [pval]
  generalize skip l = t at h ⊢
  cases t with
  | nil => rfl
  | cons c r =>
    simp only [beginE] at h ⊢
    by_cases h1 : starts c = false
    · rw [if_pos h1, if_pos h1]
    rw [if_neg h1] at h ⊢
    rw [if_neg h1]
    by_cases h2 : 50 ≤ deep ∨ 5000 ≤ n
    · rw [if_pos h2, if_pos h2]
    · rw [if_neg h2] at h; exact absurd rfl h
theorem pval_go {f : Nat} {l key : List UInt8} {n deep : Nat} {c : UInt8} {r : List UInt8} (hs : skip l = c :: r) (h : beginE (skip l) n deep = 0) : pval (f + 1) l n key deep = (match wordOf c with
        | some (k, w) => if w.isPrefixOf (c :: r) = true then .ok ([⟨k, key, [], 0⟩], (c :: r).drop w.length) else .error 3
        | none =>
          if c = 34 then (match unq (c :: r) with
            | none => .error 3
            | some (x, m) => .ok ([⟨4, key, x, 0⟩], (c :: r).drop m))
          else if c = 91 then manyV 5 key (allV (sgn r 93) (pitems f r (n + 1) (deep + 1)))
          else if c = 123 then manyV 6 key (allV (sgn r 125) (pmems f r (n + 1) (deep + 1) []))
          else if number (c :: r) = 0 then .error 3
          else .ok ([⟨3, key, (c :: r).take (number (c :: r)), 0⟩], (c :: r).drop (number (c :: r)))) := by
  obtain ⟨c', r', e, h1, h2, h3⟩ := begin_pos h
  obtain ⟨rfl, rfl⟩ := List.cons.inj (hs.symm.trans e)
  simp only [pval]
  rw [hs]
  simp only []
  rw [if_neg (by rw [h1]; simp), if_neg (by omega)]
  cases wordOf c with
  | some p => rfl
  | none =>
    simp only []
    by_cases c1 : c = 34
    · rw [if_pos c1, if_pos c1]
      cases unq (c :: r) with
      | none => rfl
      | some p => rfl
    rw [if_neg c1, if_neg c1]
    by_cases c2 : c = 91
    · rw [if_pos c2, if_pos c2]
      unfold allV manyV
      cases sgn r 93 with
      | some r' => rfl
      | none =>
        simp only []
        cases pitems f r (n + 1) (deep + 1) with
        | error e => rfl
        | ok q => obtain ⟨a, b, d⟩ := q; rfl
    rw [if_neg c2, if_neg c2]
    by_cases c3 : c = 123
    · rw [if_pos c3, if_pos c3]
      unfold allV manyV
      cases sgn r 125 with
      | some r' => rfl
      | none =>
        simp only []
        cases pmems f r (n + 1) (deep + 1) [] with
        | error e => rfl
        | ok q => obtain ⟨a, b, d⟩ := q; rfl
    rw [if_neg c3, if_neg c3]

theorem signV_one (l : List UInt8) (c : UInt8) : signV l [c] = match sgn l c with | some r => (true, r) | none => (false, skip l) := by
  unfold signV sgn
  cases skip l with
  | nil => rfl
  | cons d t =>
    simp only []
    by_cases e : d = c
    · subst e; simp [List.isPrefixOf]
    · rw [if_neg e, if_neg (by simp [List.isPrefixOf]; exact fun h => e h.symm)]

/-- An object's names ahead, in a map. -/
def Had (hb : Nat) (had : List (List UInt8)) (w : World) : Prop :=
  ∃ D : DataW Unit, w.ownsMap Tryz.prog 9 (plainElem Tryz.prog 3) hb had.length D ∧ ∀ x : List UInt8, D.atKey (.string x) (.lit (.int .i64 0)) = .lit (.int .i64 (if had.contains x = true then 1 else 0))

/-- Values parse. -/
def VOK (f : Nat) : Prop := ∀ (b : Nat) (l : List UInt8) (vs : List V) (v : Value) (key : List UInt8) (deep : Nat) (w w0 : World), Rd b l vs v 0 w → Ev w0 b w → deep ≤ 50 → vs.length ≤ 5000 → 2 * l.length + 1 ≤ f → l.length ≤ 1099511627776 →
  Calls Tryz.prog 59 #[.pointer (some ⟨b, 0, none⟩), .string ⟨key.toArray⟩, .int .i64 (deep : Int)] w fun x w' => x = .returned (.tuple #[]) ∧ PRes b w vs v [] (pval f l vs.length key deep) w'
end Go.Proofs.YtndkbecdjaedaaaGreatDoor
