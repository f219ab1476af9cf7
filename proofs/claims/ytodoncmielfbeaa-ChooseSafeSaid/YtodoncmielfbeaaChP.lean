/-
  What a new leader reads out of promises, as data (no program in sight): the votes for a slot by rising nodes.
-/
namespace Go.Proofs.Ytodoncmielfbeaa.chp
set_option linter.unusedVariables false
set_option linter.unusedSimpArgs false
set_option maxHeartbeats 400000

/-- A vote: its slot, its ballot, its value. -/
structure V where
  s : Int
  r : Int
  n : Int
  d : List Nat
deriving DecidableEq
/-- A promise: whose, and its votes. -/
structure Pr where
  node : Int
  vs : List V
/-- The votes of a promise for a slot, each with its node. -/
def at_ (slot : Int) (p : Pr) : List (Int × V) := (p.vs.filter (fun v => decide (v.s = slot))).map (fun v => (p.node, v))
/-- The document's way: node by node. -/
def forS (l : List Pr) (slot : Int) : List (Int × V) := ([1, 2, 3, 4, 5] : List Int).flatMap (fun n => (l.filter (fun p => decide (p.node = n))).flatMap (at_ slot))
/-- The leader's way: the promises sorted by their nodes. -/
def cutS (l : List Pr) (slot : Int) : List (Int × V) := l.flatMap (at_ slot)

theorem fm_congr {α β : Type} {l : List α} {f g : α → List β} (h : ∀ x ∈ l, f x = g x) : l.flatMap f = l.flatMap g := by
  induction l with
  | nil => rfl
  | cons x l ih => rw [List.flatMap_cons, List.flatMap_cons, h x List.mem_cons_self, ih (fun y hy => h y (List.mem_cons_of_mem _ hy))]
theorem flatMap_nodes {β : Type} (f : Pr → List β) : ∀ (ns : List Int) (s : List Pr), ns.Pairwise (· < ·) → s.Pairwise (fun a b => a.node < b.node) → (∀ p ∈ s, p.node ∈ ns) →
    ns.flatMap (fun n => (s.filter (fun p => decide (p.node = n))).flatMap f) = s.flatMap f
  | [], s, _, _, h => by
    cases s with
    | nil => rfl
    | cons p s => exact absurd (h p List.mem_cons_self) (by simp)
  | n :: ns, s, hn, hs, h => by
    have hn' := List.pairwise_cons.1 hn
    cases s with
    | nil => simp
    | cons p s =>
      have hs' := List.pairwise_cons.1 hs
      rw [List.flatMap_cons]
      by_cases e : p.node = n
      · have h0 : s.filter (fun q => decide (q.node = n)) = [] := by
          refine List.filter_eq_nil_iff.2 (fun q hq => ?_)
          have := hs'.1 q hq
          simp; omega
        have h1 : ∀ q ∈ s, q.node ∈ ns := by
          intro q hq
          rcases List.mem_cons.1 (h q (List.mem_cons_of_mem _ hq)) with h2 | h2
          · have := hs'.1 q hq; omega
          · exact h2
        have ih := flatMap_nodes f ns s hn'.2 hs'.2 h1
        have h2 : ns.flatMap (fun n' => ((p :: s).filter (fun q => decide (q.node = n'))).flatMap f) = ns.flatMap (fun n' => (s.filter (fun q => decide (q.node = n'))).flatMap f) := by
          have h3 : ∀ n' ∈ ns, ((p :: s).filter (fun q => decide (q.node = n'))) = s.filter (fun q => decide (q.node = n')) := by
            intro n' hn2
            have := hn'.1 n' hn2
            rw [List.filter_cons_of_neg (by simp; omega)]
          exact fm_congr (fun n' hn2 => by rw [h3 n' hn2])
        rw [List.filter_cons_of_pos (by simpa using e), h0, h2, ih]
        simp
      · have hp : p.node ∈ ns := by
          rcases List.mem_cons.1 (h p List.mem_cons_self) with h2 | h2
          · exact absurd h2 e
          · exact h2
        have hlt := hn'.1 _ hp
        have h1 : ∀ q ∈ p :: s, q.node ∈ ns := by
          intro q hq
          rcases List.mem_cons.1 (h q hq) with h2 | h2
          · rcases List.mem_cons.1 hq with rfl | hq2
            · exact absurd h2 e
            · have := hs'.1 q hq2; omega
          · exact h2
        have h0 : (p :: s).filter (fun q => decide (q.node = n)) = [] := by
          refine List.filter_eq_nil_iff.2 (fun q hq => ?_)
          have : n < q.node := by
            rcases List.mem_cons.1 hq with rfl | hq2
            · exact hlt
            · have := hs'.1 q hq2; omega
          simp; omega
        rw [h0, flatMap_nodes f ns (p :: s) hn'.2 hs h1]
        rfl

/-- One node's promises: there is one at most, so their order plays no part. -/
theorem filter_perm {l s : List Pr} (hp : l.Perm s) (hs : s.Pairwise (fun a b => a.node < b.node)) (n : Int) : l.filter (fun p => decide (p.node = n)) = s.filter (fun p => decide (p.node = n)) := by
  have h1 := hp.filter (fun p => decide (p.node = n))
  have h2 : (s.filter (fun p => decide (p.node = n))).Pairwise (fun a b => a.node < b.node) := hs.filter _
  have h3 : ∀ p ∈ s.filter (fun p => decide (p.node = n)), p.node = n := fun p hp => of_decide_eq_true (List.mem_filter.1 hp).2
  cases e : s.filter (fun p => decide (p.node = n)) with
  | nil => rw [e] at h1; exact h1.eq_nil
  | cons x t =>
    cases t with
    | nil => rw [e] at h1; exact List.perm_singleton.1 h1
    | cons y t =>
      rw [e] at h2 h3
      have h4 := (List.pairwise_cons.1 h2).1 y List.mem_cons_self
      have h5 := h3 x List.mem_cons_self
      have h6 := h3 y (List.mem_cons_of_mem _ List.mem_cons_self)
      omega
/-- Both ways tell the same votes in the same order. -/
theorem for_cut {l s : List Pr} (hp : l.Perm s) (hs : s.Pairwise (fun a b => a.node < b.node)) (hn : ∀ p ∈ s, 1 ≤ p.node ∧ p.node ≤ 5) (slot : Int) : forS l slot = cutS s slot := by
  unfold forS cutS
  rw [← flatMap_nodes (at_ slot) [1, 2, 3, 4, 5] s (by decide) hs (fun p hp => by
    have := hn p hp
    have h : p.node = 1 ∨ p.node = 2 ∨ p.node = 3 ∨ p.node = 4 ∨ p.node = 5 := by omega
    simpa using h)]
  exact fm_congr (fun n _ => by rw [filter_perm hp hs n])

def lessB (r1 n1 r2 n2 : Int) : Bool := decide (r1 < r2) || (decide (r1 = r2) && decide (n1 < n2))
/-- The first of the greatest: ballot.Best's round. -/
def pick (b : Option (Int × V)) (c : Int × V) : Option (Int × V) :=
  match b with
  | none => some c
  | some x => if lessB x.2.r x.2.n c.2.r c.2.n then some c else some x
/-- The document's round: the greatest ballot so far, and its value. -/
def stp (b : Int × Int × List Nat) (c : Int × V) : Int × Int × List Nat := if lessB b.1 b.2.1 c.2.r c.2.n then (c.2.r, c.2.n, c.2.d) else b
def outB : Option (Int × V) → Int × Int × List Nat
  | none => (0, 0, [])
  | some c => (c.2.r, c.2.n, c.2.d)
theorem stp_pick (b : Option (Int × V)) (c : Int × V) (h : lessB 0 0 c.2.r c.2.n = true) : stp (outB b) c = outB (pick b c) := by
  cases b with
  | none => simp [stp, outB, pick, h]
  | some x =>
    cases h2 : lessB x.2.r x.2.n c.2.r c.2.n <;> simp [stp, outB, pick, h2]
theorem best_doc (l : List (Int × V)) : ∀ b, (∀ c ∈ l, lessB 0 0 c.2.r c.2.n = true) → l.foldl stp (outB b) = outB (l.foldl pick b) := by
  induction l with
  | nil => intro b _; rfl
  | cons c l ih =>
    intro b h
    rw [List.foldl_cons, List.foldl_cons, stp_pick b c (h c List.mem_cons_self)]
    exact ih _ (fun d hd => h d (List.mem_cons_of_mem _ hd))
/-- The document's round in Chosen: only those that a majority has. -/
theorem fold_filter (P : Int × V → Bool) (l : List (Int × V)) : ∀ b, l.foldl (fun b c => if P c && lessB b.1 b.2.1 c.2.r c.2.n then (c.2.r, c.2.n, c.2.d) else b) b = (l.filter P).foldl stp b := by
  induction l with
  | nil => intro b; rfl
  | cons c l ih =>
    intro b
    rw [List.foldl_cons, ih]
    cases h : P c with
    | true => rw [List.filter_cons_of_pos h, List.foldl_cons]; simp [stp]
    | false => rw [List.filter_cons_of_neg (by simp [h])]; simp
theorem pick_some (l : List (Int × V)) : ∀ x, ∃ y, l.foldl pick (some x) = some y ∧ (y = x ∨ y ∈ l) := by
  induction l with
  | nil => intro x; exact ⟨x, rfl, .inl rfl⟩
  | cons c l ih =>
    intro x
    rw [List.foldl_cons, show pick (some x) c = if lessB x.2.r x.2.n c.2.r c.2.n then some c else some x from rfl]
    cases h : lessB x.2.r x.2.n c.2.r c.2.n with
    | true =>
      obtain ⟨y, h1, h2⟩ := ih c
      refine ⟨y, h1, .inr ?_⟩
      rcases h2 with rfl | h2
      · exact List.mem_cons_self
      · exact List.mem_cons_of_mem _ h2
    | false =>
      obtain ⟨y, h1, h2⟩ := ih x
      refine ⟨y, h1, ?_⟩
      rcases h2 with rfl | h2
      · exact .inl rfl
      · exact .inr (List.mem_cons_of_mem _ h2)
theorem pick_none {l : List (Int × V)} : l.foldl pick none = none ↔ l = [] := by
  cases l with
  | nil => simp
  | cons c l =>
    obtain ⟨y, h1, -⟩ := pick_some l c
    have : (c :: l).foldl pick none = some y := h1
    simp [this]
/-- Was one chosen? The document looks whether the greatest ballot is the zero one. -/
theorem out_zero {l : List (Int × V)} (h : ∀ c ∈ l, lessB 0 0 c.2.r c.2.n = true) : ((outB (l.foldl pick none)).1 = 0 ∧ (outB (l.foldl pick none)).2.1 = 0) ↔ l = [] := by
  constructor
  · intro h1
    cases l with
    | nil => rfl
    | cons c l =>
      obtain ⟨y, h2, h3⟩ := pick_some l c
      have h4 : (c :: l).foldl pick none = some y := h2
      rw [h4] at h1
      have h5 : y ∈ c :: l := by
        rcases h3 with rfl | h3
        · exact List.mem_cons_self
        · exact List.mem_cons_of_mem _ h3
      have h6 := h y h5
      have h7 : y.2.r = 0 ∧ y.2.n = 0 := h1
      rw [h7.1, h7.2] at h6
      simp [lessB] at h6
  · rintro rfl
    exact ⟨rfl, rfl⟩

/-- Sorted by their nodes they stand in one way alone. -/
theorem srt_one {l s : List Pr} (hp : l.Perm s) (hl : l.Pairwise (fun a b => a.node < b.node)) (hs : s.Pairwise (fun a b => a.node < b.node)) : l = s := by
  induction s generalizing l with
  | nil => exact hp.eq_nil
  | cons x s ih =>
    cases l with
    | nil => exact absurd hp.symm.eq_nil (by simp)
    | cons y l =>
      have hx := List.pairwise_cons.1 hs
      have hy := List.pairwise_cons.1 hl
      have e : y = x := by
        rcases List.mem_cons.1 (hp.mem_iff.1 List.mem_cons_self) with e | h1
        · exact e
        · rcases List.mem_cons.1 (hp.symm.mem_iff.1 (List.mem_cons_self (a := x) (l := s))) with e | h2
          · exact e.symm
          · have h3 := hx.1 y h1
            have h4 := hy.1 x h2
            omega
      subst e
      rw [ih hp.cons_inv hy.2 hx.2]
def lastOk (nodes : Int) : Int → List V → Bool
  | _, [] => true
  | last, v :: vs => decide (last < v.s) && decide (v.s ≤ 1099511627776) && decide (1 ≤ v.r) && decide (1 ≤ v.n) && decide (v.n ≤ nodes) && lastOk nodes v.s vs
/-- One promise of right ones. -/
def prOk (nodes : Int) (p : Pr) : Bool := decide (1 ≤ p.node) && decide (p.node ≤ nodes) && decide (p.vs.length ≤ 16) && lastOk nodes 0 p.vs
/-- P11.1. -/
def Right (nodes : Int) (l : List Pr) : Prop := (1 ≤ nodes ∧ nodes ≤ 5) ∧ (∀ p ∈ l, prOk nodes p = true) ∧ l.Pairwise (fun a b => a.node ≠ b.node)
theorem right_perm {nodes : Int} {l s : List Pr} (hp : l.Perm s) : Right nodes l ↔ Right nodes s := by
  unfold Right
  refine and_congr_right (fun _ => and_congr ⟨fun h p hp2 => h p (hp.mem_iff.2 hp2), fun h p hp2 => h p (hp.mem_iff.1 hp2)⟩ ?_)
  exact List.Perm.pairwise_iff (fun {a b} h e => h e.symm) hp
theorem lastOk_lt {nodes : Int} : ∀ {vs : List V} {last : Int}, lastOk nodes last vs = true → (∀ v ∈ vs, last < v.s ∧ v.s ≤ 1099511627776 ∧ 1 ≤ v.r ∧ 1 ≤ v.n ∧ v.n ≤ nodes) ∧ vs.Pairwise (fun a b => a.s < b.s)
  | [], _, _ => ⟨by simp, List.Pairwise.nil⟩
  | v :: vs, last, h => by
    simp only [lastOk, Bool.and_eq_true, decide_eq_true_eq] at h
    obtain ⟨⟨⟨⟨⟨h1, h2⟩, h3⟩, h4⟩, h5⟩, h6⟩ := h
    obtain ⟨h7, h8⟩ := lastOk_lt h6
    refine ⟨fun x hx => ?_, List.pairwise_cons.2 ⟨fun x hx => (h7 x hx).1, h8⟩⟩
    rcases List.mem_cons.1 hx with rfl | hx
    · exact ⟨h1, h2, h3, h4, h5⟩
    · have := h7 x hx
      exact ⟨by omega, this.2.1, this.2.2.1, this.2.2.2.1, this.2.2.2.2⟩
end Go.Proofs.Ytodoncmielfbeaa.chp
