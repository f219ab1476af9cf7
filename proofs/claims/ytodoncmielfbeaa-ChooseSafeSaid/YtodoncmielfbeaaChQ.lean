/-
  What Open and Chosen answer, as data (no program in sight).
-/
import Derived.Test.YtodoncmielfbeaaChP
namespace Go.Proofs.Ytodoncmielfbeaa.chq
open Go.Proofs.Ytodoncmielfbeaa.chp
set_option linter.unusedVariables false
set_option linter.unusedSimpArgs false
set_option maxHeartbeats 400000

/-- The greatest slot. -/
def topV (t : Int) (vs : List V) : Int := vs.foldl (fun t v => if t < v.s then v.s else t) t
def topL (t : Int) (l : List Pr) : Int := l.foldl (fun t p => topV t p.vs) t
theorem topV_snoc (t : Int) (vs : List V) (v : V) : topV t (vs ++ [v]) = if topV t vs < v.s then v.s else topV t vs := by rw [topV, List.foldl_append]; rfl
theorem topL_snoc (t : Int) (l : List Pr) (p : Pr) : topL t (l ++ [p]) = topV (topL t l) p.vs := by simp [topL]
theorem topV_spec : ∀ (vs : List V) (t : Int), t ≤ topV t vs ∧ (∀ v ∈ vs, v.s ≤ topV t vs) ∧ (topV t vs = t ∨ ∃ v ∈ vs, v.s = topV t vs)
  | [], t => ⟨Int.le_refl _, by simp, .inl rfl⟩
  | u :: vs, t => by
    have e : topV t (u :: vs) = topV (if t < u.s then u.s else t) vs := rfl
    obtain ⟨h1, h2, h3⟩ := topV_spec vs (if t < u.s then u.s else t)
    rw [e]
    have h4 : t ≤ (if t < u.s then u.s else t) ∧ u.s ≤ (if t < u.s then u.s else t) := by split <;> omega
    refine ⟨by omega, fun v hv => ?_, ?_⟩
    · rcases List.mem_cons.1 hv with rfl | hv
      · omega
      · exact h2 v hv
    · rcases h3 with h3 | ⟨v, hv, h3⟩
      · by_cases hlt : t < u.s
        · rw [if_pos hlt] at h3 ⊢; exact .inr ⟨u, List.mem_cons_self, h3.symm⟩
        · rw [if_neg hlt] at h3 ⊢; exact .inl h3
      · exact .inr ⟨v, List.mem_cons_of_mem _ hv, h3⟩
theorem topL_spec : ∀ (l : List Pr) (t : Int), t ≤ topL t l ∧ (∀ p ∈ l, ∀ v ∈ p.vs, v.s ≤ topL t l) ∧ (topL t l = t ∨ ∃ p ∈ l, ∃ v ∈ p.vs, v.s = topL t l)
  | [], t => ⟨Int.le_refl _, by simp, .inl rfl⟩
  | q :: l, t => by
    have e : topL t (q :: l) = topL (topV t q.vs) l := rfl
    obtain ⟨h1, h2, h3⟩ := topL_spec l (topV t q.vs)
    obtain ⟨g1, g2, g3⟩ := topV_spec q.vs t
    rw [e]
    refine ⟨by omega, fun p hp v hv => ?_, ?_⟩
    · rcases List.mem_cons.1 hp with rfl | hp
      · have := g2 v hv; omega
      · exact h2 p hp v hv
    · rcases h3 with h3 | ⟨p, hp, v, hv, h3⟩
      · rcases g3 with g3 | ⟨v, hv, g3⟩
        · exact .inl (by omega)
        · exact .inr ⟨q, List.mem_cons_self, v, hv, by omega⟩
      · exact .inr ⟨p, List.mem_cons_of_mem _ hp, v, hv, h3⟩
/-- It is the one thing that is above all and one of them. -/
theorem topL_eq {l : List Pr} {t x : Int} (h1 : t ≤ x) (h2 : ∀ p ∈ l, ∀ v ∈ p.vs, v.s ≤ x) (h3 : x = t ∨ ∃ p ∈ l, ∃ v ∈ p.vs, v.s = x) : x = topL t l := by
  obtain ⟨g1, g2, g3⟩ := topL_spec l t
  have h4 : x ≤ topL t l := by
    rcases h3 with h3 | ⟨p, hp, v, hv, h3⟩
    · omega
    · have := g2 p hp v hv; omega
  have h5 : topL t l ≤ x := by
    rcases g3 with g3 | ⟨p, hp, v, hv, g3⟩
    · omega
    · have := h2 p hp v hv; omega
  omega
theorem topL_perm {l s : List Pr} (hp : l.Perm s) (t : Int) : topL t l = topL t s := by
  obtain ⟨g1, g2, g3⟩ := topL_spec l t
  refine topL_eq g1 (fun p h => g2 p (hp.symm.subset h)) ?_
  rcases g3 with g3 | ⟨p, h, r⟩
  · exact .inl g3
  · exact .inr ⟨p, hp.subset h, r⟩

/-- What a new leader proposes for a slot. -/
def valS (l : List Pr) (slot : Int) : List Nat := ((forS l slot).foldl stp (0, 0, [])).2.2
def ents (l : List Pr) (from_ : Int) (n : Nat) : List (Int × List Nat) := (List.range n).map fun i : Nat => (from_ + i, valS l (from_ + i))
theorem ents_snoc (l : List Pr) (from_ : Int) (n : Nat) : ents l from_ (n + 1) = ents l from_ n ++ [(from_ + n, valS l (from_ + n))] := by
  simp [ents, List.range_succ]
theorem ents_len (l : List Pr) (from_ : Int) (n : Nat) : (ents l from_ n).length = n := by simp [ents]
instance (nodes : Int) (l : List Pr) : Decidable (Right nodes l) := by unfold Right; infer_instance
/-- P11.2. -/
def openE (nodes from_ : Int) (l : List Pr) : Int :=
  if ¬ Right nodes l then 21 else if from_ < 1 ∨ 1099511627776 < from_ then 1 else if 2 * (l.length : Int) ≤ nodes then 91 else if 1024 ≤ topL 0 l - from_ then 81 else 0
def openN (from_ : Int) (l : List Pr) : Nat := (topL 0 l - from_ + 1).toNat
def openL (nodes from_ : Int) (l : List Pr) : List (Int × List Nat) := if openE nodes from_ l = 0 then ents l from_ (openN from_ l) else []

/-- P11.3. -/
def sameV (c d : Int × V) : Bool := (d.2.r == c.2.r && d.2.n == c.2.n) && d.2.d == c.2.d
def cntS (L : List (Int × V)) (c : Int × V) : Nat := (L.filter (sameV c)).length
def wonP (nodes : Int) (L : List (Int × V)) (c : Int × V) : Bool := decide (nodes < 2 * (cntS L c : Int))
def wonS (nodes : Int) (l : List Pr) (slot : Int) : List (Int × V) := (forS l slot).filter (wonP nodes (forS l slot))
def chS (nodes : Int) (l : List Pr) (slot : Int) : Option (Int × List Nat) := if (wonS nodes l slot).isEmpty then none else some (slot, ((wonS nodes l slot).foldl stp (0, 0, [])).2.2)
def chosenL (nodes : Int) (l : List Pr) (ss : List Int) : List (Int × List Nat) := ss.filterMap (chS nodes l)
theorem chosenL_snoc (nodes : Int) (l : List Pr) (ss : List Int) (s : Int) : chosenL nodes l (ss ++ [s]) = chosenL nodes l ss ++ (chS nodes l s).toList := by
  rw [chosenL, List.filterMap_append]
  cases h : chS nodes l s <;> simp [chosenL, h]
theorem chosenL_len (nodes : Int) (l : List Pr) (ss : List Int) : (chosenL nodes l ss).length ≤ ss.length := List.length_filterMap_le _ _
/-- The slots that are voted for, rising. -/
def IsSlots (ss : List Int) (l : List Pr) : Prop := ss.Pairwise (· < ·) ∧ ∀ x, x ∈ ss ↔ ∃ p ∈ l, ∃ v ∈ p.vs, v.s = x
theorem rise_one : ∀ {a b : List Int}, a.Pairwise (· < ·) → b.Pairwise (· < ·) → (∀ x, x ∈ a ↔ x ∈ b) → a = b
  | [], b, _, _, h => by
    cases b with
    | nil => rfl
    | cons y b => exact absurd ((h y).2 List.mem_cons_self) (by simp)
  | x :: a, b, ha, hb, h => by
    cases b with
    | nil => exact absurd ((h x).1 List.mem_cons_self) (by simp)
    | cons y b =>
      have hx := List.pairwise_cons.1 ha
      have hy := List.pairwise_cons.1 hb
      have e : x = y := by
        rcases List.mem_cons.1 ((h x).1 List.mem_cons_self) with e | h1
        · exact e
        · rcases List.mem_cons.1 ((h y).2 List.mem_cons_self) with e | h2
          · exact e.symm
          · have := hx.1 y h2
            have := hy.1 x h1
            omega
      subst e
      rw [rise_one hx.2 hy.2 (fun z => ?_)]
      constructor
      · intro hz
        rcases List.mem_cons.1 ((h z).1 (List.mem_cons_of_mem _ hz)) with e | hz'
        · have := hx.1 z hz; omega
        · exact hz'
      · intro hz
        rcases List.mem_cons.1 ((h z).2 (List.mem_cons_of_mem _ hz)) with e | hz'
        · have := hy.1 z hz; omega
        · exact hz'
theorem slots_one {a b : List Int} {l : List Pr} (ha : IsSlots a l) (hb : IsSlots b l) : a = b := rise_one ha.1 hb.1 (fun x => (ha.2 x).trans (hb.2 x).symm)
theorem slots_perm {a : List Int} {l s : List Pr} (ha : IsSlots a l) (hp : l.Perm s) : IsSlots a s :=
  ⟨ha.1, fun x => (ha.2 x).trans ⟨fun ⟨p, h, r⟩ => ⟨p, hp.subset h, r⟩, fun ⟨p, h, r⟩ => ⟨p, hp.symm.subset h, r⟩⟩⟩
/-- A list of numbers, each once, rising. -/
def ins (x : Int) : List Int → List Int
  | [] => [x]
  | y :: l => if x < y then x :: y :: l else if x = y then y :: l else y :: ins x l
theorem ins_mem (x z : Int) : ∀ l, z ∈ ins x l ↔ z = x ∨ z ∈ l
  | [] => by simp [ins]
  | y :: l => by
    unfold ins
    split
    · simp
    · split
      · rename_i h; subst h; simp
      · rw [List.mem_cons, ins_mem x z l, List.mem_cons]
        constructor
        · rintro (h | h | h)
          · exact .inr (.inl h)
          · exact .inl h
          · exact .inr (.inr h)
        · rintro (h | h | h)
          · exact .inr (.inl h)
          · exact .inl h
          · exact .inr (.inr h)
theorem ins_rise (x : Int) : ∀ l : List Int, l.Pairwise (· < ·) → (ins x l).Pairwise (· < ·)
  | [], _ => List.pairwise_singleton _ _
  | y :: l, h => by
    have h' := List.pairwise_cons.1 h
    unfold ins
    split
    · rename_i hlt
      refine List.pairwise_cons.2 ⟨fun z hz => ?_, h⟩
      rcases List.mem_cons.1 hz with rfl | hz
      · exact hlt
      · have := h'.1 z hz; omega
    · split
      · exact h
      · refine List.pairwise_cons.2 ⟨fun z hz => ?_, ins_rise x l h'.2⟩
        rcases (ins_mem x z l).1 hz with rfl | hz
        · omega
        · exact h'.1 z hz
def slotsOf (l : List Pr) : List Int := (l.flatMap fun p => p.vs.map V.s).foldr ins []
theorem foldr_ins : ∀ L : List Int, (L.foldr ins []).Pairwise (· < ·) ∧ ∀ x, x ∈ L.foldr ins [] ↔ x ∈ L
  | [] => ⟨List.Pairwise.nil, by simp⟩
  | y :: L => by
    obtain ⟨h1, h2⟩ := foldr_ins L
    refine ⟨ins_rise y _ h1, fun x => ?_⟩
    show x ∈ ins y (L.foldr ins []) ↔ _
    rw [ins_mem, h2 x, List.mem_cons]
theorem slots_of (l : List Pr) : IsSlots (slotsOf l) l := by
  obtain ⟨h1, h2⟩ := foldr_ins (l.flatMap fun p => p.vs.map V.s)
  refine ⟨h1, fun x => (h2 x).trans ?_⟩
  simp [List.mem_flatMap]
theorem ins_len (x : Int) : ∀ l, (ins x l).length ≤ l.length + 1
  | [] => by simp [ins]
  | y :: l => by
    unfold ins
    split
    · simp
    · split
      · simp
      · have := ins_len x l; simp; omega
theorem foldr_len : ∀ L : List Int, (L.foldr ins []).length ≤ L.length
  | [] => by simp
  | y :: L => by
    have h1 := ins_len y (L.foldr ins [])
    have h2 := foldr_len L
    show (ins y (L.foldr ins [])).length ≤ _
    simp only [List.length_cons]
    omega
theorem flat_len {k : Nat} (l : List Pr) (h : ∀ p ∈ l, p.vs.length ≤ k) : (l.flatMap fun p => p.vs.map V.s).length ≤ l.length * k := by
  induction l with
  | nil => simp
  | cons p l ih =>
    have h1 := h p List.mem_cons_self
    have h2 := ih (fun q hq => h q (List.mem_cons_of_mem _ hq))
    rw [List.flatMap_cons, List.length_append, List.length_map, List.length_cons, Nat.add_mul]
    omega
theorem slots_len {k : Nat} {ss : List Int} {l : List Pr} (hs : IsSlots ss l) (h : ∀ p ∈ l, p.vs.length ≤ k) : ss.length ≤ l.length * k := by
  rw [slots_one hs (slots_of l)]
  exact Nat.le_trans (foldr_len _) (flat_len l h)

/-- The document's search for the next slot. -/
def nxt1 (last s : Int) (v : V) : Int := if last < v.s ∧ (s = 0 ∨ v.s < s) then v.s else s
def nxtV (last s : Int) (vs : List V) : Int := vs.foldl (nxt1 last) s
def nxtL (last s : Int) (l : List Pr) : Int := l.foldl (fun s p => nxtV last s p.vs) s
theorem nxtV_snoc (last s : Int) (vs : List V) (v : V) : nxtV last s (vs ++ [v]) = nxt1 last (nxtV last s vs) v := by simp [nxtV]
theorem nxtL_snoc (last s : Int) (l : List Pr) (p : Pr) : nxtL last s (l ++ [p]) = nxtV last (nxtL last s l) p.vs := by simp [nxtL]
theorem nxt_flat (last : Int) : ∀ (l : List Pr) (s : Int), nxtL last s l = nxtV last s (l.flatMap Pr.vs)
  | [], s => rfl
  | p :: l, s => by
    rw [List.flatMap_cons, nxtV, List.foldl_append]
    exact nxt_flat last l _
theorem nxtV_spec (last : Int) (h0 : 0 ≤ last) : ∀ (vs : List V) (s : Int), (s = 0 ∨ last < s) → (nxtV last s vs = 0 ∨ last < nxtV last s vs) ∧ (nxtV last s vs = s ∨ ∃ v ∈ vs, v.s = nxtV last s vs) ∧
    (nxtV last s vs = 0 → s = 0 ∧ ∀ v ∈ vs, v.s ≤ last) ∧ (nxtV last s vs ≠ 0 → (s ≠ 0 → nxtV last s vs ≤ s) ∧ ∀ v ∈ vs, last < v.s → nxtV last s vs ≤ v.s)
  | [], s, h => ⟨h, .inl rfl, fun e => ⟨e, by simp⟩, fun _ => ⟨fun _ => Int.le_refl _, by simp⟩⟩
  | u :: vs, s, h => by
    have e : nxtV last s (u :: vs) = nxtV last (nxt1 last s u) vs := rfl
    have h1 : nxt1 last s u = 0 ∨ last < nxt1 last s u := by unfold nxt1; split <;> omega
    obtain ⟨g1, g2, g3, g4⟩ := nxtV_spec last h0 vs (nxt1 last s u) h1
    rw [e]
    have h2 : nxt1 last s u = s ∨ u.s = nxt1 last s u := by unfold nxt1; split <;> simp
    have h3 : nxt1 last s u = 0 → s = 0 ∧ u.s ≤ last := by unfold nxt1; split <;> omega
    have h4 : nxt1 last s u ≠ 0 → (s ≠ 0 → nxt1 last s u ≤ s) ∧ (last < u.s → nxt1 last s u ≤ u.s) := by unfold nxt1; split <;> omega
    refine ⟨g1, ?_, fun hz => ?_, fun hz => ?_⟩
    · rcases g2 with g2 | ⟨v, hv, g2⟩
      · rcases h2 with h2 | h2
        · exact .inl (by omega)
        · exact .inr ⟨u, List.mem_cons_self, by omega⟩
      · exact .inr ⟨v, List.mem_cons_of_mem _ hv, g2⟩
    · obtain ⟨a1, a2⟩ := g3 hz
      obtain ⟨b1, b2⟩ := h3 a1
      refine ⟨b1, fun v hv => ?_⟩
      rcases List.mem_cons.1 hv with rfl | hv
      · exact b2
      · exact a2 v hv
    · obtain ⟨a1, a2⟩ := g4 hz
      have hh : nxt1 last s u ≠ 0 → nxtV last (nxt1 last s u) vs ≤ nxt1 last s u := a1
      refine ⟨fun hs => ?_, fun v hv hl => ?_⟩
      · have h5 : nxt1 last s u ≠ 0 := fun e => hs (h3 e).1
        have := hh h5
        have := (h4 h5).1 hs
        omega
      · rcases List.mem_cons.1 hv with rfl | hv
        · have h5 : nxt1 last s v ≠ 0 := fun e => by have := (h3 e).2; omega
          have := hh h5
          have := (h4 h5).2 hl
          omega
        · exact a2 v hv hl
/-- The slot behind the first k of them. -/
def lst (ss : List Int) (k : Nat) : Int := if k = 0 then 0 else (ss[k - 1]?).getD 0
theorem nxt_slots {ss : List Int} {l : List Pr} (hs : IsSlots ss l) (hpos : ∀ p ∈ l, ∀ v ∈ p.vs, 1 ≤ v.s) (k : Nat) (hk : k ≤ ss.length) : nxtL (lst ss k) 0 l = (ss[k]?).getD 0 := by
  have hm : ∀ x, x ∈ ss ↔ ∃ v ∈ l.flatMap Pr.vs, v.s = x := fun x => (hs.2 x).trans (by
    constructor
    · rintro ⟨p, hp, v, hv, e⟩; exact ⟨v, List.mem_flatMap.2 ⟨p, hp, hv⟩, e⟩
    · rintro ⟨v, hv, e⟩
      obtain ⟨p, hp, hv⟩ := List.mem_flatMap.1 hv
      exact ⟨p, hp, v, hv, e⟩)
  have h1 : ∀ x ∈ ss, 1 ≤ x := fun x hx => by
    obtain ⟨p, hp, v, hv, rfl⟩ := (hs.2 x).1 hx
    exact hpos p hp v hv
  have hmono : ∀ i j (hi : i < ss.length) (hj : j < ss.length), i < j → ss[i] < ss[j] := fun i j hi hj hij => List.pairwise_iff_getElem.1 hs.1 i j hi hj hij
  have hl0 : 0 ≤ lst ss k := by
    unfold lst
    split
    · omega
    · rw [List.getElem?_eq_getElem (by omega)]
      have := h1 _ (List.getElem_mem (show k - 1 < ss.length by omega))
      simp only [Option.getD_some]; omega
  have hle : ∀ x ∈ ss, lst ss k < x ↔ ∃ j, ∃ hj : j < ss.length, k ≤ j ∧ ss[j] = x := by
    intro x hx
    obtain ⟨j, hj, rfl⟩ := List.getElem_of_mem hx
    unfold lst
    split
    · rename_i h; subst h
      exact ⟨fun _ => ⟨j, hj, by omega, rfl⟩, fun _ => by have := h1 _ hx; omega⟩
    · rw [List.getElem?_eq_getElem (by omega)]
      simp only [Option.getD_some]
      constructor
      · intro h
        refine ⟨j, hj, ?_, rfl⟩
        rcases Nat.lt_or_ge j k with h2 | h2
        · rcases Nat.lt_or_ge j (k - 1) with h3 | h3
          · have := hmono j (k - 1) hj (by omega) h3; omega
          · have : j = k - 1 := by omega
            subst this; omega
        · exact h2
      · rintro ⟨i, hi, hki, e⟩
        rw [← e]
        exact hmono (k - 1) i (by omega) hi (by omega)
  rw [nxt_flat]
  obtain ⟨g1, g2, g3, g4⟩ := nxtV_spec (lst ss k) hl0 (l.flatMap Pr.vs) 0 (.inl rfl)
  by_cases hkl : k < ss.length
  · rw [List.getElem?_eq_getElem hkl, Option.getD_some]
    have hk1 := h1 _ (List.getElem_mem hkl)
    have hlk := (hle _ (List.getElem_mem hkl)).2 ⟨k, hkl, Nat.le_refl _, rfl⟩
    obtain ⟨v, hv, ev⟩ := (hm _).1 (List.getElem_mem hkl)
    have hne : nxtV (lst ss k) 0 (l.flatMap Pr.vs) ≠ 0 := fun e => by have := (g3 e).2 v hv; omega
    have h2 := (g4 hne).2 v hv (by omega)
    rcases g2 with g2 | ⟨u, hu, eu⟩
    · exact absurd g2 hne
    · have hum := (hm _).2 ⟨u, hu, rfl⟩
      have hgt : lst ss k < u.s := by
        rcases g1 with g1 | g1
        · exact absurd g1 hne
        · omega
      obtain ⟨j, hj, hkj, ej⟩ := (hle _ hum).1 hgt
      rcases Nat.lt_or_ge k j with h3 | h3
      · have := hmono k j hkl hj h3; omega
      · have : j = k := by omega
        subst this
        omega
  · rw [List.getElem?_eq_none (by omega), Option.getD_none]
    rcases g2 with g2 | ⟨u, hu, eu⟩
    · exact g2
    · have hum := (hm _).2 ⟨u, hu, rfl⟩
      rcases g1 with g1 | g1
      · exact g1
      · obtain ⟨j, hj, hkj, ej⟩ := (hle _ hum).1 (by omega)
        omega
end Go.Proofs.Ytodoncmielfbeaa.chq
