/-
  Plain lemmas of the statements about ballots: no program in sight.
-/
import Derived.Test.YtodoncmielfbeaaKit
import Derived.Lib.Hide
namespace Go.Proofs.Ytodoncmielfbeaa.bal
open Go.ChangeShapes Go.WideShapes Go.ChangeAt Go.RowKit
open Go.Proofs.Ytodoncmielfbeaa.kit
set_option linter.unusedVariables false
set_option linter.unusedSimpArgs false

def lessB (r1 n1 r2 n2 : Int) : Bool := decide (r1 < r2) || (decide (r1 = r2) && decide (n1 < n2))
def knownB (n : Int) : Bool := decide (1 ≤ n) && decide (n ≤ 5)
/-- The greater of two ballots; the first one where they are one. -/
def upper (b c : Int × Int) : Int × Int := if lessB b.1 b.2 c.1 c.2 then c else b
/-- The first ballot that none is above. -/
def bestB : List (Int × Int) → Int × Int
  | [] => (0, 0)
  | x :: l => l.foldl upper x
theorem bestB_snoc (l : List (Int × Int)) (x : Int × Int) : bestB (l ++ [x]) = if l = [] then x else upper (bestB l) x := by
  cases l with
  | nil => simp [bestB]
  | cons y l => simp [bestB, List.foldl_append]

/-- Is a ballot of the list above? -/
def aboveB (x : Int × Int) (l : List (Int × Int)) : Bool := l.any fun y => lessB x.1 x.2 y.1 y.2
theorem lessB_iff {a b c d : Int} : lessB a b c d = true ↔ a < c ∨ a = c ∧ b < d := by simp [lessB]
theorem foldl_upper (l : List (Int × Int)) : ∀ x : Int × Int, (l.foldl upper x = x ∨ l.foldl upper x ∈ l) ∧ lessB (l.foldl upper x).1 (l.foldl upper x).2 x.1 x.2 = false ∧ ∀ y ∈ l, lessB (l.foldl upper x).1 (l.foldl upper x).2 y.1 y.2 = false := by
  have irr : ∀ x : Int × Int, lessB x.1 x.2 x.1 x.2 = false := fun x => by simp [lessB]
  induction l with
  | nil => intro x; exact ⟨.inl rfl, irr x, by simp⟩
  | cons z l ih =>
    intro x
    obtain ⟨h1, h3, h4⟩ := ih (upper x z)
    have hu : (upper x z = x ∧ lessB x.1 x.2 z.1 z.2 = false) ∨ (upper x z = z ∧ lessB x.1 x.2 z.1 z.2 = true) := by
      unfold upper
      cases h : lessB x.1 x.2 z.1 z.2 <;> simp
    simp only [List.foldl_cons]
    have hx : lessB (l.foldl upper (upper x z)).1 (l.foldl upper (upper x z)).2 x.1 x.2 = false := by
      rcases hu with ⟨e, h⟩ | ⟨e, h⟩
      · rw [e] at h3 ⊢; exact h3
      · rw [e] at h3 ⊢
        rw [lessB_iff] at h
        rw [Bool.eq_false_iff, ne_eq, lessB_iff] at h3 ⊢
        omega
    refine ⟨?_, hx, ?_⟩
    · rcases h1 with h1 | h1
      · rcases hu with ⟨e, h⟩ | ⟨e, h⟩
        · left; rw [e] at h1 ⊢; exact h1
        · right; rw [e] at h1 ⊢; rw [h1]; exact List.mem_cons_self
      · right; exact List.mem_cons_of_mem _ h1
    · intro y hy
      rcases List.mem_cons.1 hy with rfl | hy
      · rcases hu with ⟨e, h⟩ | ⟨e, h⟩
        · rw [e] at h3 ⊢
          rw [Bool.eq_false_iff, ne_eq, lessB_iff] at h h3 ⊢
          omega
        · rw [e] at h3 ⊢; exact h3
      · exact h4 y hy
theorem bestB_mem {l : List (Int × Int)} (h : l ≠ []) : bestB l ∈ l := by
  cases l with
  | nil => exact absurd rfl h
  | cons x l =>
    rcases (foldl_upper l x).1 with e | e
    · simp only [bestB, e]; exact List.mem_cons_self
    · exact List.mem_cons_of_mem _ e
theorem bestB_top (l : List (Int × Int)) : aboveB (bestB l) l = false := by
  cases l with
  | nil => rfl
  | cons x l =>
    obtain ⟨_, h1, h2⟩ := foldl_upper l x
    simp only [aboveB, List.any_eq_false, bestB]
    intro y hy
    rcases List.mem_cons.1 hy with rfl | hy
    · simp [h1]
    · simp [h2 y hy]
theorem bestB_unique {l : List (Int × Int)} {x : Int × Int} (hx : x ∈ l) (h : aboveB x l = false) : x = bestB l := by
  have h1 := bestB_top l
  simp only [aboveB, List.any_eq_false] at h h1
  have a := h _ (bestB_mem (List.ne_nil_of_mem hx))
  have b := h1 _ hx
  rw [lessB_iff] at a b
  exact Prod.ext (by omega) (by omega)

def ints (l : List Int) : List Value := l.map (Value.int .i64)
/-- Which of the numbers 0 to 5 are nodes that the list names. -/
def named (n : Int) (l : List Int) (j : Nat) : Bool := decide (1 ≤ j) && decide ((j : Int) ≤ n) && l.contains (j : Int)
def seenArr (n : Int) (l : List Int) : Array Value := #[.bool (named n l 0), .bool (named n l 1), .bool (named n l 2), .bool (named n l 3), .bool (named n l 4), .bool (named n l 5)]
def countB (n : Int) (l : List Int) : Nat := ((List.range 6).filter (named n l)).length

theorem seenArr_size (n : Int) (l : List Int) : (seenArr n l).size = 6 := rfl
theorem seenArr_get (n : Int) (l : List Int) (j : Nat) (h : j < 6) : (seenArr n l)[j]? = some (.bool (named n l j)) := by
  match j, h with
  | 0, _ => rfl
  | 1, _ => rfl
  | 2, _ => rfl
  | 3, _ => rfl
  | 4, _ => rfl
  | 5, _ => rfl

theorem named_snoc (n : Int) (l : List Int) (x : Int) (j : Nat) : named n (l ++ [x]) j = (named n l j || (decide (1 ≤ j) && decide ((j : Int) ≤ n) && ((j : Int) == x))) := by
  simp only [named, List.contains_append, List.contains_cons, List.contains_nil, Bool.or_false]
  cases decide (1 ≤ j) <;> cases decide ((j : Int) ≤ n) <;> simp

theorem named_out {n : Int} {l : List Int} {x : Int} (h : x < 1 ∨ n < x) : named n (l ++ [x]) = named n l := by
  funext j
  rw [named_snoc]
  have : (decide (1 ≤ j) && decide ((j : Int) ≤ n) && ((j : Int) == x)) = false := by
    cases h1 : decide (1 ≤ j) <;> cases h2 : decide ((j : Int) ≤ n) <;> simp at *
    omega
  simp [this]

theorem seen_out {n : Int} {l : List Int} {x : Int} (h : x < 1 ∨ n < x) : seenArr n (l ++ [x]) = seenArr n l ∧ countB n (l ++ [x]) = countB n l := by
  simp [seenArr, countB, named_out h]

theorem named_in {n : Int} {l : List Int} {x : Int} (h1 : 1 ≤ x) (h2 : x ≤ n) (j : Nat) : named n (l ++ [x]) j = (named n l j || decide (j = x.toNat)) := by
  rw [named_snoc]
  congr 1
  by_cases e : j = x.toNat
  · have : ((j : Int) == x) = true := by simp; omega
    simp [e]
    omega
  · have : ((j : Int) == x) = false := by simp; omega
    simp [this, e]

theorem seen_twice {n : Int} {l : List Int} {x : Int} (h1 : 1 ≤ x) (h2 : x ≤ n) (h : named n l x.toNat = true) : seenArr n (l ++ [x]) = seenArr n l ∧ countB n (l ++ [x]) = countB n l := by
  have e : named n (l ++ [x]) = named n l := by
    funext j
    rw [named_in h1 h2]
    by_cases e : j = x.toNat
    · subst e; simp [h]
    · simp [e]
  simp [seenArr, countB, e]

theorem named_in' {n : Int} {l : List Int} {x : Int} {k : Nat} (hk : k = x.toNat) (h1 : 1 ≤ x) (h2 : x ≤ n) : named n (l ++ [x]) = fun j => named n l j || decide (j = k) := by
  subst hk
  exact funext (named_in h1 h2)

theorem count_in {n : Int} {l m : List Int} {k : Nat} (hk : k < 6) (e : named n m = fun j => named n l j || decide (j = k)) (h : named n l k = false) :
    seenArr n m = (seenArr n l).setIfInBounds k (.bool true) ∧ countB n m = countB n l + 1 := by
  have r6 : List.range 6 = [0, 1, 2, 3, 4, 5] := rfl
  match k, hk, h, e with
  | 0, _, h, e => exact ⟨by simp [seenArr, e], by simp only [countB, e, r6]; simp [List.filter_cons, h]; try ((repeat' split) <;> simp)⟩
  | 1, _, h, e => exact ⟨by simp [seenArr, e], by simp only [countB, e, r6]; simp [List.filter_cons, h]; try ((repeat' split) <;> simp)⟩
  | 2, _, h, e => exact ⟨by simp [seenArr, e], by simp only [countB, e, r6]; simp [List.filter_cons, h]; try ((repeat' split) <;> simp)⟩
  | 3, _, h, e => exact ⟨by simp [seenArr, e], by simp only [countB, e, r6]; simp [List.filter_cons, h]; try ((repeat' split) <;> simp)⟩
  | 4, _, h, e => exact ⟨by simp [seenArr, e], by simp only [countB, e, r6]; simp [List.filter_cons, h]; try ((repeat' split) <;> simp)⟩
  | 5, _, h, e => exact ⟨by simp [seenArr, e], by simp only [countB, e, r6]; simp [List.filter_cons, h]; try ((repeat' split) <;> simp)⟩

theorem seen_once {n : Int} {l : List Int} {x : Int} {k : Nat} (hk : k = x.toNat) (h1 : 1 ≤ x) (h2 : x ≤ n) (h5 : n ≤ 5) (h : named n l k = false) :
    seenArr n (l ++ [x]) = (seenArr n l).setIfInBounds k (.bool true) ∧ countB n (l ++ [x]) = countB n l + 1 :=
  count_in (by omega) (named_in' hk h1 h2) h

theorem seenArr_nil (n : Int) : seenArr n [] = #[.bool false, .bool false, .bool false, .bool false, .bool false, .bool false] := by simp [seenArr, named]
theorem countB_nil (n : Int) : countB n [] = 0 := by
  have : named n [] = fun _ => false := by funext j; simp [named]
  simp [countB, this]
theorem countB_le (n : Int) (l : List Int) : countB n l ≤ 6 := by
  unfold countB
  exact List.length_filter_le _ _

theorem take_snoc {α : Type} (l : List α) (k : Nat) (h : k < l.length) : l.take (k + 1) = l.take k ++ [l[k]] := List.take_succ_eq_append_getElem h


/-- How many nodes a list names, where so many may be. -/
def cntG (n : Int) (l : List Int) : Nat := if knownB n then countB n l else 0
def enoughB (n : Int) (l : List Int) : Bool := knownB n && decide (n / 2 + 1 ≤ (cntG n l : Int))
theorem cntG_le (n : Int) (l : List Int) : cntG n l ≤ 6 := by
  unfold cntG
  have := countB_le n l
  split <;> omega
/-- Of the numbers below m those that are named. -/
def cntTo (n : Int) (l : List Int) (m : Nat) : Nat := ((List.range m).filter (named n l)).length
theorem cntTo_succ (n : Int) (l : List Int) (m : Nat) : cntTo n l (m + 1) = cntTo n l m + if named n l m then 1 else 0 := by
  simp only [cntTo, List.range_succ, List.filter_append, List.length_append]
  cases h : named n l m <;> simp [h]
theorem cntTo_one (n : Int) (l : List Int) : cntTo n l 1 = 0 := by simp [cntTo, List.range_succ, named]
theorem cntTo_le (n : Int) (l : List Int) (m : Nat) : cntTo n l m ≤ m := by
  have := List.length_filter_le (named n l) (List.range m)
  simpa [cntTo] using this
theorem cntTo_end {n : Int} {l : List Int} {m : Nat} (h1 : (m : Int) = n + 1) (h5 : n ≤ 5) (h0 : 1 ≤ n) : cntTo n l m = countB n l := by
  have step : ∀ k, m + k ≤ 6 → cntTo n l (m + k) = cntTo n l m := by
    intro k
    induction k with
    | zero => intro _; rfl
    | succ k ih =>
      intro hk
      rw [← Nat.add_assoc, cntTo_succ, ih (by omega)]
      have : named n l (m + k) = false := by
        have : decide (((m + k : Nat) : Int) ≤ n) = false := by simp; omega
        simp only [named, this, Bool.and_false, Bool.false_and]
      simp [this]
  have := step (6 - m) (by omega)
  rw [show m + (6 - m) = 6 by omega] at this
  rw [← this]
  rfl
theorem contains_snoc (l : List Int) (x y : Int) : (l ++ [x]).contains y = (l.contains y || (x == y)) := by
  simp only [List.contains_append, List.contains_cons, List.contains_nil, Bool.or_false]
  congr 1
  exact Bool.eq_iff_iff.2 (by simp; exact eq_comm)
theorem named_of {n : Int} {l : List Int} {m : Nat} (h1 : 1 ≤ m) (h2 : (m : Int) ≤ n) : named n l m = l.contains (m : Int) := by
  have a : decide (1 ≤ m) = true := by simpa using h1
  have b : decide ((m : Int) ≤ n) = true := by simpa using h2
  simp [named, a, b]

theorem filter_two (f g h : Nat → Bool) (hf : ∀ j, f j = true → h j = true) (hg : ∀ j, g j = true → h j = true) :
    ∀ l : List Nat, (∀ j ∈ l, ¬ (f j = true ∧ g j = true)) → (l.filter f).length + (l.filter g).length ≤ (l.filter h).length
  | [], _ => by simp
  | j :: l, hd => by
    have ih := filter_two f g h hf hg l (fun k hk => hd k (List.mem_cons_of_mem _ hk))
    have h0 := hd j (List.mem_cons_self)
    have h1 := hf j
    have h2 := hg j
    cases ef : f j <;> cases eg : g j <;> cases eh : h j <;> simp [List.filter_cons, ef, eg, eh] at * <;> omega

theorem filter_mono (f h : Nat → Bool) (hf : ∀ j, f j = true → h j = true) (l : List Nat) : (l.filter f).length ≤ (l.filter h).length := by
  have := filter_two f (fun _ => false) h hf (by simp) l (by simp)
  exact Nat.le_trans (Nat.le_add_right _ _) this

theorem between_len {n : Int} (h1 : 1 ≤ n) (h5 : n ≤ 5) : ((List.range 6).filter fun j : Nat => decide (1 ≤ j) && decide ((j : Int) ≤ n)).length = n.toNat := by
  have : n = 1 ∨ n = 2 ∨ n = 3 ∨ n = 4 ∨ n = 5 := by omega
  rcases this with rfl | rfl | rfl | rfl | rfl <;> rfl

theorem named_iff {n : Int} {l : List Int} {j : Nat} : named n l j = true ↔ 1 ≤ j ∧ (j : Int) ≤ n ∧ (j : Int) ∈ l := by
  simp [named, and_assoc]

/-- Two majorities meet. -/
theorem meets {n : Int} {a b : List Int} (ha : enoughB n a = true) (hb : enoughB n b = true) : ∃ x, x ∈ a ∧ x ∈ b ∧ 1 ≤ x ∧ x ≤ n := by
  have hk : knownB n = true := by simp [enoughB] at ha; exact ha.1
  have h15 : 1 ≤ n ∧ n ≤ 5 := by simpa [knownB] using hk
  simp only [enoughB, hk, Bool.true_and, decide_eq_true_eq, cntG, if_true] at ha hb
  refine Classical.byContradiction fun hno => ?_
  have h := filter_two (named n a) (named n b) (fun j : Nat => decide (1 ≤ j) && decide ((j : Int) ≤ n)) (fun j hj => by have := named_iff.1 hj; simp; omega) (fun j hj => by have := named_iff.1 hj; simp; omega) (List.range 6) (by
    intro j _ ⟨h1, h2⟩
    have e1 := named_iff.1 h1
    have e2 := named_iff.1 h2
    exact hno ⟨j, e1.2.2, e2.2.2, by omega, e1.2.1⟩)
  rw [between_len h15.1 h15.2] at h
  unfold countB at ha hb
  omega

theorem cntG_append (n : Int) (a b : List Int) : cntG n a ≤ cntG n (a ++ b) := by
  unfold cntG
  split
  · exact filter_mono _ _ (fun j hj => by have := named_iff.1 hj; exact named_iff.2 ⟨this.1, this.2.1, List.mem_append_left _ this.2.2⟩) _
  · exact Nat.le_refl _

theorem enoughB_append {n : Int} {a : List Int} (b : List Int) (h : enoughB n a = true) : enoughB n (a ++ b) = true := by
  have := cntG_append n a b
  simp only [enoughB, Bool.and_eq_true, decide_eq_true_eq] at *
  exact ⟨h.1, by omega⟩
end Go.Proofs.Ytodoncmielfbeaa.bal
