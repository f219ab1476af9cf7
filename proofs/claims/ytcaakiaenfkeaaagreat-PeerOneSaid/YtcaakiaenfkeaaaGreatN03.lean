/-
  What Open and Chosen answer, as data (no program in sight).
-/
import Derived.Test.YtcaakiaenfkeaaaGreatN02
import Derived.Deep.QuietTactic
import Derived.BigQuiet
import Derived.Lib.Hide
import Derived.Test.YtcaakiaenfkeaaaGreatN01
import Derived.Test.YtcaakiaenfkeaaaGreatProg
namespace Go.Proofs.YtcaakiaenfkeaaaGreat.chq
open Go.Proofs.YtcaakiaenfkeaaaGreat.chp
set_option linter.unusedVariables false
set_option linter.unusedSimpArgs false
set_option maxHeartbeats 400000

/-- The greatest slot. -/
def topV (t : Int) (vs : List V) : Int := vs.foldl (fun t v => if t < v.s then v.s else t) t
def topL (t : Int) (l : List Pr) : Int := l.foldl (fun t p => topV t p.vs) t
theorem topV_snoc (t : Int) (vs : List V) (v : V) : topV t (vs ++ [v]) = if topV t vs < v.s then v.s else topV t vs := by rw [topV, List.foldl_append]; rfl
theorem topL_snoc (t : Int) (l : List Pr) (p : Pr) : topL t (l ++ [p]) = topV (topL t l) p.vs := by simp [topL]
theorem topV_spec : ∀ (vs : List V) (t : Int), t ≤ topV t vs ∧ (∀ v ∈ vs, v.s ≤ topV t vs) ∧ (topV t vs = t ∨ ∃ v ∈ vs, v.s = topV t vs)
  | [], t => ⟨Int.le_refl _, by simp, .inl rfl⟩
  | u :: vs, t => by
    have e : topV t (u :: vs) = topV (if t < u.s then u.s else t) vs := rfl
    obtain ⟨h1, h2, h3⟩ := topV_spec vs (if t < u.s then u.s else t)
    rw [e]
    have h4 : t ≤ (if t < u.s then u.s else t) ∧ u.s ≤ (if t < u.s then u.s else t) := by split <;> omega
    refine ⟨by omega, fun v hv => ?_, ?_⟩
    · rcases List.mem_cons.1 hv with rfl | hv
      · omega
      · exact h2 v hv
    · rcases h3 with h3 | ⟨v, hv, h3⟩
      · by_cases hlt : t < u.s
        · rw [if_pos hlt] at h3 ⊢; exact .inr ⟨u, List.mem_cons_self, h3.symm⟩
        · rw [if_neg hlt] at h3 ⊢; exact .inl h3
      · exact .inr ⟨v, List.mem_cons_of_mem _ hv, h3⟩
theorem topL_spec : ∀ (l : List Pr) (t : Int), t ≤ topL t l ∧ (∀ p ∈ l, ∀ v ∈ p.vs, v.s ≤ topL t l) ∧ (topL t l = t ∨ ∃ p ∈ l, ∃ v ∈ p.vs, v.s = topL t l)
  | [], t => ⟨Int.le_refl _, by simp, .inl rfl⟩
  | q :: l, t => by
    have e : topL t (q :: l) = topL (topV t q.vs) l := rfl
    obtain ⟨h1, h2, h3⟩ := topL_spec l (topV t q.vs)
    obtain ⟨g1, g2, g3⟩ := topV_spec q.vs t
    rw [e]
    refine ⟨by omega, fun p hp v hv => ?_, ?_⟩
    · rcases List.mem_cons.1 hp with rfl | hp
      · have := g2 v hv; omega
      · exact h2 p hp v hv
    · rcases h3 with h3 | ⟨p, hp, v, hv, h3⟩
      · rcases g3 with g3 | ⟨v, hv, g3⟩
        · exact .inl (by omega)
        · exact .inr ⟨q, List.mem_cons_self, v, hv, by omega⟩
      · exact .inr ⟨p, List.mem_cons_of_mem _ hp, v, hv, h3⟩
/-- It is the one thing that is above all and one of them. -/
theorem topL_eq {l : List Pr} {t x : Int} (h1 : t ≤ x) (h2 : ∀ p ∈ l, ∀ v ∈ p.vs, v.s ≤ x) (h3 : x = t ∨ ∃ p ∈ l, ∃ v ∈ p.vs, v.s = x) : x = topL t l := by
  obtain ⟨g1, g2, g3⟩ := topL_spec l t
  have h4 : x ≤ topL t l := by
    rcases h3 with h3 | ⟨p, hp, v, hv, h3⟩
    · omega
    · have := g2 p hp v hv; omega
  have h5 : topL t l ≤ x := by
    rcases g3 with g3 | ⟨p, hp, v, hv, g3⟩
    · omega
    · have := h2 p hp v hv; omega
  omega
theorem topL_perm {l s : List Pr} (hp : l.Perm s) (t : Int) : topL t l = topL t s := by
  obtain ⟨g1, g2, g3⟩ := topL_spec l t
  refine topL_eq g1 (fun p h => g2 p (hp.symm.subset h)) ?_
  rcases g3 with g3 | ⟨p, h, r⟩
  · exact .inl g3
  · exact .inr ⟨p, hp.subset h, r⟩

/-- What a new leader proposes for a slot. -/
def valS (l : List Pr) (slot : Int) : List Nat := ((forS l slot).foldl stp (0, 0, [])).2.2
def ents (l : List Pr) (from_ : Int) (n : Nat) : List (Int × List Nat) := (List.range n).map fun i : Nat => (from_ + i, valS l (from_ + i))
theorem ents_snoc (l : List Pr) (from_ : Int) (n : Nat) : ents l from_ (n + 1) = ents l from_ n ++ [(from_ + n, valS l (from_ + n))] := by
  simp [ents, List.range_succ]
theorem ents_len (l : List Pr) (from_ : Int) (n : Nat) : (ents l from_ n).length = n := by simp [ents]
instance (nodes : Int) (l : List Pr) : Decidable (Right nodes l) := by unfold Right; infer_instance
/-- P11.2. -/
def openE (nodes from_ : Int) (l : List Pr) : Int :=
  if ¬ Right nodes l then 21 else if from_ < 1 ∨ 1099511627776 < from_ then 1 else if 2 * (l.length : Int) ≤ nodes then 91 else if 1024 ≤ topL 0 l - from_ then 81 else 0
def openN (from_ : Int) (l : List Pr) : Nat := (topL 0 l - from_ + 1).toNat
def openL (nodes from_ : Int) (l : List Pr) : List (Int × List Nat) := if openE nodes from_ l = 0 then ents l from_ (openN from_ l) else []

/-- P11.3. -/
def sameV (c d : Int × V) : Bool := (d.2.r == c.2.r && d.2.n == c.2.n) && d.2.d == c.2.d
def cntS (L : List (Int × V)) (c : Int × V) : Nat := (L.filter (sameV c)).length
def wonP (nodes : Int) (L : List (Int × V)) (c : Int × V) : Bool := decide (nodes < 2 * (cntS L c : Int))
def wonS (nodes : Int) (l : List Pr) (slot : Int) : List (Int × V) := (forS l slot).filter (wonP nodes (forS l slot))
def chS (nodes : Int) (l : List Pr) (slot : Int) : Option (Int × List Nat) := if (wonS nodes l slot).isEmpty then none else some (slot, ((wonS nodes l slot).foldl stp (0, 0, [])).2.2)
def chosenL (nodes : Int) (l : List Pr) (ss : List Int) : List (Int × List Nat) := ss.filterMap (chS nodes l)
theorem chosenL_snoc (nodes : Int) (l : List Pr) (ss : List Int) (s : Int) : chosenL nodes l (ss ++ [s]) = chosenL nodes l ss ++ (chS nodes l s).toList := by
  rw [chosenL, List.filterMap_append]
  cases h : chS nodes l s <;> simp [chosenL, h]
theorem chosenL_len (nodes : Int) (l : List Pr) (ss : List Int) : (chosenL nodes l ss).length ≤ ss.length := List.length_filterMap_le _ _
/-- The slots that are voted for, rising. -/
def IsSlots (ss : List Int) (l : List Pr) : Prop := ss.Pairwise (· < ·) ∧ ∀ x, x ∈ ss ↔ ∃ p ∈ l, ∃ v ∈ p.vs, v.s = x
theorem rise_one : ∀ {a b : List Int}, a.Pairwise (· < ·) → b.Pairwise (· < ·) → (∀ x, x ∈ a ↔ x ∈ b) → a = b
  | [], b, _, _, h => by
    cases b with
    | nil => rfl
    | cons y b => exact absurd ((h y).2 List.mem_cons_self) (by simp)
  | x :: a, b, ha, hb, h => by
    cases b with
    | nil => exact absurd ((h x).1 List.mem_cons_self) (by simp)
    | cons y b =>
      have hx := List.pairwise_cons.1 ha
      have hy := List.pairwise_cons.1 hb
      have e : x = y := by
        rcases List.mem_cons.1 ((h x).1 List.mem_cons_self) with e | h1
        · exact e
        · rcases List.mem_cons.1 ((h y).2 List.mem_cons_self) with e | h2
          · exact e.symm
          · have := hx.1 y h2
            have := hy.1 x h1
            omega
      subst e
      rw [rise_one hx.2 hy.2 (fun z => ?_)]
      constructor
      · intro hz
        rcases List.mem_cons.1 ((h z).1 (List.mem_cons_of_mem _ hz)) with e | hz'
        · have := hx.1 z hz; omega
        · exact hz'
      · intro hz
        rcases List.mem_cons.1 ((h z).2 (List.mem_cons_of_mem _ hz)) with e | hz'
        · have := hy.1 z hz; omega
        · exact hz'
theorem slots_one {a b : List Int} {l : List Pr} (ha : IsSlots a l) (hb : IsSlots b l) : a = b := rise_one ha.1 hb.1 (fun x => (ha.2 x).trans (hb.2 x).symm)
theorem slots_perm {a : List Int} {l s : List Pr} (ha : IsSlots a l) (hp : l.Perm s) : IsSlots a s :=
  ⟨ha.1, fun x => (ha.2 x).trans ⟨fun ⟨p, h, r⟩ => ⟨p, hp.subset h, r⟩, fun ⟨p, h, r⟩ => ⟨p, hp.symm.subset h, r⟩⟩⟩
/-- A list of numbers, each once, rising. -/
def ins (x : Int) : List Int → List Int
  | [] => [x]
  | y :: l => if x < y then x :: y :: l else if x = y then y :: l else y :: ins x l
theorem ins_mem (x z : Int) : ∀ l, z ∈ ins x l ↔ z = x ∨ z ∈ l
  | [] => by simp [ins]
  | y :: l => by
    unfold ins
    split
    · simp
    · split
      · rename_i h; subst h; simp
      · rw [List.mem_cons, ins_mem x z l, List.mem_cons]
        constructor
        · rintro (h | h | h)
          · exact .inr (.inl h)
          · exact .inl h
          · exact .inr (.inr h)
        · rintro (h | h | h)
          · exact .inr (.inl h)
          · exact .inl h
          · exact .inr (.inr h)
theorem ins_rise (x : Int) : ∀ l : List Int, l.Pairwise (· < ·) → (ins x l).Pairwise (· < ·)
  | [], _ => List.pairwise_singleton _ _
  | y :: l, h => by
    have h' := List.pairwise_cons.1 h
    unfold ins
    split
    · rename_i hlt
      refine List.pairwise_cons.2 ⟨fun z hz => ?_, h⟩
      rcases List.mem_cons.1 hz with rfl | hz
      · exact hlt
      · have := h'.1 z hz; omega
    · split
      · exact h
      · refine List.pairwise_cons.2 ⟨fun z hz => ?_, ins_rise x l h'.2⟩
        rcases (ins_mem x z l).1 hz with rfl | hz
        · omega
        · exact h'.1 z hz
def slotsOf (l : List Pr) : List Int := (l.flatMap fun p => p.vs.map V.s).foldr ins []
theorem foldr_ins : ∀ L : List Int, (L.foldr ins []).Pairwise (· < ·) ∧ ∀ x, x ∈ L.foldr ins [] ↔ x ∈ L
  | [] => ⟨List.Pairwise.nil, by simp⟩
  | y :: L => by
    obtain ⟨h1, h2⟩ := foldr_ins L
    refine ⟨ins_rise y _ h1, fun x => ?_⟩
    show x ∈ ins y (L.foldr ins []) ↔ _
    rw [ins_mem, h2 x, List.mem_cons]
theorem slots_of (l : List Pr) : IsSlots (slotsOf l) l := by
  obtain ⟨h1, h2⟩ := foldr_ins (l.flatMap fun p => p.vs.map V.s)
  refine ⟨h1, fun x => (h2 x).trans ?_⟩
  simp [List.mem_flatMap]
theorem ins_len (x : Int) : ∀ l, (ins x l).length ≤ l.length + 1
  | [] => by simp [ins]
  | y :: l => by
    unfold ins
    split
    · simp
    · split
      · simp
      · have := ins_len x l; simp; omega
theorem foldr_len : ∀ L : List Int, (L.foldr ins []).length ≤ L.length
  | [] => by simp
  | y :: L => by
    have h1 := ins_len y (L.foldr ins [])
    have h2 := foldr_len L
    show (ins y (L.foldr ins [])).length ≤ _
    simp only [List.length_cons]
    omega
theorem flat_len {k : Nat} (l : List Pr) (h : ∀ p ∈ l, p.vs.length ≤ k) : (l.flatMap fun p => p.vs.map V.s).length ≤ l.length * k := by
  induction l with
  | nil => simp
  | cons p l ih =>
    have h1 := h p List.mem_cons_self
    have h2 := ih (fun q hq => h q (List.mem_cons_of_mem _ hq))
    rw [List.flatMap_cons, List.length_append, List.length_map, List.length_cons, Nat.add_mul]
    omega
theorem slots_len {k : Nat} {ss : List Int} {l : List Pr} (hs : IsSlots ss l) (h : ∀ p ∈ l, p.vs.length ≤ k) : ss.length ≤ l.length * k := by
  rw [slots_one hs (slots_of l)]
  exact Nat.le_trans (foldr_len _) (flat_len l h)

/-- The document's search for the next slot. -/
def nxt1 (last s : Int) (v : V) : Int := if last < v.s ∧ (s = 0 ∨ v.s < s) then v.s else s
def nxtV (last s : Int) (vs : List V) : Int := vs.foldl (nxt1 last) s
def nxtL (last s : Int) (l : List Pr) : Int := l.foldl (fun s p => nxtV last s p.vs) s
theorem nxtV_snoc (last s : Int) (vs : List V) (v : V) : nxtV last s (vs ++ [v]) = nxt1 last (nxtV last s vs) v := by simp [nxtV]
theorem nxtL_snoc (last s : Int) (l : List Pr) (p : Pr) : nxtL last s (l ++ [p]) = nxtV last (nxtL last s l) p.vs := by simp [nxtL]
theorem nxt_flat (last : Int) : ∀ (l : List Pr) (s : Int), nxtL last s l = nxtV last s (l.flatMap Pr.vs)
  | [], s => rfl
  | p :: l, s => by
    rw [List.flatMap_cons, nxtV, List.foldl_append]
    exact nxt_flat last l _
theorem nxtV_spec (last : Int) (h0 : 0 ≤ last) : ∀ (vs : List V) (s : Int), (s = 0 ∨ last < s) → (nxtV last s vs = 0 ∨ last < nxtV last s vs) ∧ (nxtV last s vs = s ∨ ∃ v ∈ vs, v.s = nxtV last s vs) ∧
    (nxtV last s vs = 0 → s = 0 ∧ ∀ v ∈ vs, v.s ≤ last) ∧ (nxtV last s vs ≠ 0 → (s ≠ 0 → nxtV last s vs ≤ s) ∧ ∀ v ∈ vs, last < v.s → nxtV last s vs ≤ v.s)
  | [], s, h => ⟨h, .inl rfl, fun e => ⟨e, by simp⟩, fun _ => ⟨fun _ => Int.le_refl _, by simp⟩⟩
  | u :: vs, s, h => by
    have e : nxtV last s (u :: vs) = nxtV last (nxt1 last s u) vs := rfl
    have h1 : nxt1 last s u = 0 ∨ last < nxt1 last s u := by unfold nxt1; split <;> omega
    obtain ⟨g1, g2, g3, g4⟩ := nxtV_spec last h0 vs (nxt1 last s u) h1
    rw [e]
    have h2 : nxt1 last s u = s ∨ u.s = nxt1 last s u := by unfold nxt1; split <;> simp
    have h3 : nxt1 last s u = 0 → s = 0 ∧ u.s ≤ last := by unfold nxt1; split <;> omega
    have h4 : nxt1 last s u ≠ 0 → (s ≠ 0 → nxt1 last s u ≤ s) ∧ (last < u.s → nxt1 last s u ≤ u.s) := by unfold nxt1; split <;> omega
    refine ⟨g1, ?_, fun hz => ?_, fun hz => ?_⟩
    · rcases g2 with g2 | ⟨v, hv, g2⟩
      · rcases h2 with h2 | h2
        · exact .inl (by omega)
        · exact .inr ⟨u, List.mem_cons_self, by omega⟩
      · exact .inr ⟨v, List.mem_cons_of_mem _ hv, g2⟩
    · obtain ⟨a1, a2⟩ := g3 hz
      obtain ⟨b1, b2⟩ := h3 a1
      refine ⟨b1, fun v hv => ?_⟩
      rcases List.mem_cons.1 hv with rfl | hv
      · exact b2
      · exact a2 v hv
    · obtain ⟨a1, a2⟩ := g4 hz
      have hh : nxt1 last s u ≠ 0 → nxtV last (nxt1 last s u) vs ≤ nxt1 last s u := a1
      refine ⟨fun hs => ?_, fun v hv hl => ?_⟩
      · have h5 : nxt1 last s u ≠ 0 := fun e => hs (h3 e).1
        have := hh h5
        have := (h4 h5).1 hs
        omega
      · rcases List.mem_cons.1 hv with rfl | hv
        · have h5 : nxt1 last s v ≠ 0 := fun e => by have := (h3 e).2; omega
          have := hh h5
          have := (h4 h5).2 hl
          omega
        · exact a2 v hv hl
/-- The slot behind the first k of them. -/
def lst (ss : List Int) (k : Nat) : Int := if k = 0 then 0 else (ss[k - 1]?).getD 0
theorem nxt_slots {ss : List Int} {l : List Pr} (hs : IsSlots ss l) (hpos : ∀ p ∈ l, ∀ v ∈ p.vs, 1 ≤ v.s) (k : Nat) (hk : k ≤ ss.length) : nxtL (lst ss k) 0 l = (ss[k]?).getD 0 := by
  have hm : ∀ x, x ∈ ss ↔ ∃ v ∈ l.flatMap Pr.vs, v.s = x := fun x => (hs.2 x).trans (by
    constructor
    · rintro ⟨p, hp, v, hv, e⟩; exact ⟨v, List.mem_flatMap.2 ⟨p, hp, hv⟩, e⟩
    · rintro ⟨v, hv, e⟩
      obtain ⟨p, hp, hv⟩ := List.mem_flatMap.1 hv
      exact ⟨p, hp, v, hv, e⟩)
  have h1 : ∀ x ∈ ss, 1 ≤ x := fun x hx => by
    obtain ⟨p, hp, v, hv, rfl⟩ := (hs.2 x).1 hx
    exact hpos p hp v hv
  have hmono : ∀ i j (hi : i < ss.length) (hj : j < ss.length), i < j → ss[i] < ss[j] := fun i j hi hj hij => List.pairwise_iff_getElem.1 hs.1 i j hi hj hij
  have hl0 : 0 ≤ lst ss k := by
    unfold lst
    split
    · omega
    · rw [List.getElem?_eq_getElem (by omega)]
      have := h1 _ (List.getElem_mem (show k - 1 < ss.length by omega))
      simp only [Option.getD_some]; omega
  have hle : ∀ x ∈ ss, lst ss k < x ↔ ∃ j, ∃ hj : j < ss.length, k ≤ j ∧ ss[j] = x := by
    intro x hx
    obtain ⟨j, hj, rfl⟩ := List.getElem_of_mem hx
    unfold lst
    split
    · rename_i h; subst h
      exact ⟨fun _ => ⟨j, hj, by omega, rfl⟩, fun _ => by have := h1 _ hx; omega⟩
    · rw [List.getElem?_eq_getElem (by omega)]
      simp only [Option.getD_some]
      constructor
      · intro h
        refine ⟨j, hj, ?_, rfl⟩
        rcases Nat.lt_or_ge j k with h2 | h2
        · rcases Nat.lt_or_ge j (k - 1) with h3 | h3
          · have := hmono j (k - 1) hj (by omega) h3; omega
          · have : j = k - 1 := by omega
            subst this; omega
        · exact h2
      · rintro ⟨i, hi, hki, e⟩
        rw [← e]
        exact hmono (k - 1) i (by omega) hi (by omega)
  rw [nxt_flat]
  obtain ⟨g1, g2, g3, g4⟩ := nxtV_spec (lst ss k) hl0 (l.flatMap Pr.vs) 0 (.inl rfl)
  by_cases hkl : k < ss.length
  · rw [List.getElem?_eq_getElem hkl, Option.getD_some]
    have hk1 := h1 _ (List.getElem_mem hkl)
    have hlk := (hle _ (List.getElem_mem hkl)).2 ⟨k, hkl, Nat.le_refl _, rfl⟩
    obtain ⟨v, hv, ev⟩ := (hm _).1 (List.getElem_mem hkl)
    have hne : nxtV (lst ss k) 0 (l.flatMap Pr.vs) ≠ 0 := fun e => by have := (g3 e).2 v hv; omega
    have h2 := (g4 hne).2 v hv (by omega)
    rcases g2 with g2 | ⟨u, hu, eu⟩
    · exact absurd g2 hne
    · have hum := (hm _).2 ⟨u, hu, rfl⟩
      have hgt : lst ss k < u.s := by
        rcases g1 with g1 | g1
        · exact absurd g1 hne
        · omega
      obtain ⟨j, hj, hkj, ej⟩ := (hle _ hum).1 hgt
      rcases Nat.lt_or_ge k j with h3 | h3
      · have := hmono k j hkl hj h3; omega
      · have : j = k := by omega
        subst this
        omega
  · rw [List.getElem?_eq_none (by omega), Option.getD_none]
    rcases g2 with g2 | ⟨u, hu, eu⟩
    · exact g2
    · have hum := (hm _).2 ⟨u, hu, rfl⟩
      rcases g1 with g1 | g1
      · exact g1
      · obtain ⟨j, hj, hkj, ej⟩ := (hle _ hum).1 (by omega)
        omega
end Go.Proofs.YtcaakiaenfkeaaaGreat.chq
/-
  Promises in memory: rows of promises over rows of votes over bytes, wherever they lie; what they say as data.
-/
namespace Go.Proofs.YtcaakiaenfkeaaaGreat.chd
open Go.ChangeShapes Go.WideShapes Go.ChangeAt Go.RowKit
open Go.Proofs.YtcaakiaenfkeaaaGreat.kit Go.Proofs.YtcaakiaenfkeaaaGreat.mapkit Go.Proofs.YtcaakiaenfkeaaaGreat.byt Go.Proofs.YtcaakiaenfkeaaaGreat.own Go.Proofs.YtcaakiaenfkeaaaGreat.accd
set_option linter.unusedVariables false
set_option linter.unusedSimpArgs false
set_option maxHeartbeats 1000000
set_option maxRecDepth 100000

theorem blk4 {w : World} {b : Nat} {x y z u : Value} {T : TypeId} (h : w.heap[b]? = some (.cells #[x, y, z, u] T (0, 0))) : w.cell? ⟨b, 0, none⟩ = some x ∧ w.cell? ⟨b, 1, none⟩ = some y ∧ w.cell? ⟨b, 2, none⟩ = some z ∧ w.cell? ⟨b, 3, none⟩ = some u ∧ b < w.heap.size := by
  obtain ⟨h1, h2, h3⟩ := blk h
  exact ⟨h1 0, h1 1, h1 2, h1 3, h3⟩
theorem blk4f {w : World} {b : Nat} {x y z u : Value} {T : TypeId} (h : w.heap[b]? = some (.cells #[x, y, z, u] T (0, 0))) : w.frozen? ⟨b, 0, none⟩ = false ∧ w.frozen? ⟨b, 1, none⟩ = false ∧ w.frozen? ⟨b, 2, none⟩ = false ∧ w.frozen? ⟨b, 3, none⟩ = false := by
  obtain ⟨h1, h2, h3⟩ := blk h
  exact ⟨h2 0, h2 1, h2 2, h2 3⟩
theorem blk5 {w : World} {b : Nat} {x y z u t : Value} {T : TypeId} (h : w.heap[b]? = some (.cells #[x, y, z, u, t] T (0, 0))) : w.cell? ⟨b, 0, none⟩ = some x ∧ w.cell? ⟨b, 1, none⟩ = some y ∧ w.cell? ⟨b, 2, none⟩ = some z ∧ w.cell? ⟨b, 3, none⟩ = some u ∧ w.cell? ⟨b, 4, none⟩ = some t ∧ b < w.heap.size := by
  obtain ⟨h1, h2, h3⟩ := blk h
  exact ⟨h1 0, h1 1, h1 2, h1 3, h1 4, h3⟩
theorem blk5f {w : World} {b : Nat} {x y z u t : Value} {T : TypeId} (h : w.heap[b]? = some (.cells #[x, y, z, u, t] T (0, 0))) : w.frozen? ⟨b, 0, none⟩ = false ∧ w.frozen? ⟨b, 1, none⟩ = false ∧ w.frozen? ⟨b, 2, none⟩ = false ∧ w.frozen? ⟨b, 3, none⟩ = false ∧ w.frozen? ⟨b, 4, none⟩ = false := by
  obtain ⟨h1, h2, h3⟩ := blk h
  exact ⟨h2 0, h2 1, h2 2, h2 3, h2 4⟩

/-- A vote that can be read. -/
structure Rd (w : World) (v : Vt) : Prop where
  lie : Lie w v.a (bcells v.l)
  nil : v.a = none → v.l.length = 0 ∧ v.c = 0
  len : v.l.length ≤ 140737488355328
  byt : Byt v.l
  slot : -9223372036854775808 ≤ v.s ∧ v.s ≤ 9223372036854775807
theorem Rd.below {w w' : World} {v : Vt} (h : Rd w v) (hb : Below w.heap.size w w') : Rd w' v := ⟨h.lie.below hb, h.nil, h.len, h.byt, h.slot⟩
/-- What a vote says. -/
def vv (v : Vt) : chp.V := ⟨v.s, v.r, v.n, v.l⟩
/-- A row of votes, wherever it lies. -/
structure RowC (w : World) (a : Option Addr) (xs : List Vt) : Prop where
  row : RowsAt w a 4 (xs.map Vt.cells)
  good : ∀ x ∈ xs, Rd w x
  len : xs.length ≤ 2932031007402
theorem RowC.below {w w' : World} {a : Option Addr} {xs : List Vt} (h : RowC w a xs) (hb : Below w.heap.size w w') : RowC w' a xs := ⟨h.row.below hb, fun x hx => (h.good x hx).below hb, h.len⟩
theorem RowC.cells {w : World} {a : Option Addr} {xs : List Vt} (h : RowC w a xs) (k : Nat) (hk : k < xs.length) :
    ∃ g off, a = some ⟨g, off, none⟩ ∧ g < w.heap.size ∧ w.cell? ⟨g, off + k * 4, none⟩ = some (.int .i64 xs[k].s) ∧ w.cell? ⟨g, off + k * 4 + 1, none⟩ = some (.int .i64 xs[k].r) ∧ w.cell? ⟨g, off + k * 4 + 2, none⟩ = some (.int .i64 xs[k].n) ∧ w.cell? ⟨g, off + k * 4 + 3, none⟩ = some (.slice xs[k].a xs[k].l.length xs[k].c) := by
  rcases h.row with h | ⟨b, off, rfl, hz, h3⟩
  · have : xs = [] := by simpa using h
    subst this; simp at hk
  · have hi : k < (xs.map Vt.cells).length := by simpa using hk
    have e0 := h3 k hi 0 (by omega)
    have e1 := h3 k hi 1 (by omega)
    have e2 := h3 k hi 2 (by omega)
    have e3 := h3 k hi 3 (by omega)
    simp only [List.getElem_map, Nat.add_zero] at e0 e1 e2 e3
    exact ⟨b, off, rfl, hz, e0.trans rfl, e1.trans rfl, e2.trans rfl, e3.trans rfl⟩

/-- A promise as it lies. -/
structure Pt where
  node : Int
  vs : List Vt
  a : Option Addr
  c : Nat
def Pt.cells (p : Pt) : List Value := [.int .i64 p.node, .slice p.a p.vs.length p.c]
def Pt.val (p : Pt) : Value := .agg #[.int .i64 p.node, .slice p.a p.vs.length p.c]
/-- What a promise says. -/
def pv (p : Pt) : chp.Pr := ⟨p.node, p.vs.map vv⟩
structure GoodP (w : World) (p : Pt) : Prop where
  row : RowC w p.a p.vs
  nil : p.a = none → p.vs.length = 0 ∧ p.c = 0
  node : -9223372036854775808 ≤ p.node ∧ p.node ≤ 9223372036854775807
theorem GoodP.below {w w' : World} {p : Pt} (h : GoodP w p) (hb : Below w.heap.size w w') : GoodP w' p := ⟨h.row.below hb, h.nil, h.node⟩
/-- A row of promises, wherever it lies. -/
structure RowP (w : World) (a : Option Addr) (l : List Pt) : Prop where
  row : RowsAt w a 2 (l.map Pt.cells)
  good : ∀ p ∈ l, GoodP w p
  len : l.length ≤ 4398046511104
theorem RowP.below {w w' : World} {a : Option Addr} {l : List Pt} (h : RowP w a l) (hb : Below w.heap.size w w') : RowP w' a l := ⟨h.row.below hb, fun x hx => (h.good x hx).below hb, h.len⟩
theorem RowP.cells {w : World} {a : Option Addr} {l : List Pt} (h : RowP w a l) (k : Nat) (hk : k < l.length) :
    ∃ g off, a = some ⟨g, off, none⟩ ∧ g < w.heap.size ∧ w.cell? ⟨g, off + k * 2, none⟩ = some (.int .i64 l[k].node) ∧ w.cell? ⟨g, off + k * 2 + 1, none⟩ = some (.slice l[k].a l[k].vs.length l[k].c) := by
  rcases h.row with h | ⟨b, off, rfl, hz, h3⟩
  · have : l = [] := by simpa using h
    subst this; simp at hk
  · have hi : k < (l.map Pt.cells).length := by simpa using hk
    have e0 := h3 k hi 0 (by omega)
    have e1 := h3 k hi 1 (by omega)
    simp only [List.getElem_map, Nat.add_zero] at e0 e1
    exact ⟨b, off, rfl, hz, e0.trans rfl, e1.trans rfl⟩

def rightB (nodes : Int) (l : List chp.Pr) : Bool := decide (chp.Right nodes l)

/-- What of a list is right as far as it was looked at. -/
def RightTo (nodes : Int) (l : List chp.Pr) : Prop := (∀ p ∈ l, chp.prOk nodes p = true) ∧ l.Pairwise (fun a b => a.node ≠ b.node)
theorem rightTo_nil (nodes : Int) : RightTo nodes [] := ⟨by simp, List.Pairwise.nil⟩
theorem rightTo_snoc {nodes : Int} {l : List chp.Pr} {p : chp.Pr} : RightTo nodes (l ++ [p]) ↔ RightTo nodes l ∧ chp.prOk nodes p = true ∧ ∀ q ∈ l, q.node ≠ p.node := by
  unfold RightTo
  rw [List.pairwise_append]
  constructor
  · rintro ⟨h1, h2, -, h3⟩
    exact ⟨⟨fun q hq => h1 q (List.mem_append_left _ hq), h2⟩, h1 p (by simp), fun q hq => h3 q hq p (by simp)⟩
  · rintro ⟨⟨h1, h2⟩, h3, h4⟩
    refine ⟨fun q hq => ?_, h2, List.pairwise_singleton _ _, fun a ha b hb => ?_⟩
    · rcases List.mem_append.1 hq with hq | hq
      · exact h1 q hq
      · rw [List.mem_singleton.1 hq]; exact h3
    · rw [List.mem_singleton.1 hb]; exact h4 a ha
theorem rightTo_take {nodes : Int} {l : List chp.Pr} (h : RightTo nodes l) (k : Nat) : RightTo nodes (l.take k) :=
  ⟨fun p hp => h.1 p (List.mem_of_mem_take hp), h.2.sublist (List.take_sublist _ _)⟩
/-- One that is not right as far as it was looked at is not right. -/
theorem right_not {nodes : Int} {l : List chp.Pr} {k : Nat} (h : ¬ RightTo nodes (l.take k)) : rightB nodes l = false := by
  unfold rightB
  exact decide_eq_false (fun hr => h (rightTo_take ⟨hr.2.1, hr.2.2⟩ k))
theorem right_yes {nodes : Int} {l : List chp.Pr} (hn : 1 ≤ nodes ∧ nodes ≤ 5) (h : RightTo nodes l) : rightB nodes l = true := by
  unfold rightB
  exact decide_eq_true ⟨hn, h.1, h.2⟩
theorem right_nodes {nodes : Int} {l : List chp.Pr} (h : nodes < 1 ∨ 5 < nodes) : rightB nodes l = false := by
  unfold rightB
  exact decide_eq_false (fun hr => by have := hr.1; omega)
/-- The last slot of some votes. -/
def lastF : Int → List chp.V → Int
  | last, [] => last
  | _, v :: vs => lastF v.s vs
theorem lastF_snoc (v : chp.V) : ∀ (vs : List chp.V) (last : Int), lastF last (vs ++ [v]) = v.s
  | [], _ => rfl
  | u :: vs, _ => lastF_snoc v vs u.s
/-- A vote that may stand behind a slot. -/
def voteOk (nodes last : Int) (v : chp.V) : Bool := decide (last < v.s) && decide (v.s ≤ 1099511627776) && (decide (1 ≤ v.r) && decide (1 ≤ v.n) && decide (v.n ≤ nodes))
theorem voteOk_cons (nodes last : Int) (v : chp.V) (vs : List chp.V) : chp.lastOk nodes last (v :: vs) = (voteOk nodes last v && chp.lastOk nodes v.s vs) := by
  show (_ && _) = (_ && _)
  unfold voteOk
  congr 1
  cases decide (last < v.s) <;> cases decide (v.s ≤ 1099511627776) <;> cases decide (1 ≤ v.r) <;> cases decide (1 ≤ v.n) <;> cases decide (v.n ≤ nodes) <;> rfl
theorem lastOk_snoc (nodes : Int) (v : chp.V) : ∀ (vs : List chp.V) (last : Int), chp.lastOk nodes last (vs ++ [v]) = (chp.lastOk nodes last vs && voteOk nodes (lastF last vs) v)
  | [], last => by
    show chp.lastOk nodes last [v] = (true && _)
    rw [voteOk_cons]
    show (_ && true) = (true && voteOk nodes last v)
    rw [Bool.and_true, Bool.true_and]
  | u :: vs, last => by
    show chp.lastOk nodes last (u :: (vs ++ [v])) = (chp.lastOk nodes last (u :: vs) && voteOk nodes (lastF u.s vs) v)
    rw [voteOk_cons, voteOk_cons, lastOk_snoc nodes v vs u.s, Bool.and_assoc]
theorem lastOk_take {nodes : Int} : ∀ {vs : List chp.V} {last : Int} (k : Nat), chp.lastOk nodes last vs = true → chp.lastOk nodes last (vs.take k) = true
  | [], _, k, h => by simpa using h
  | u :: vs, last, 0, h => rfl
  | u :: vs, last, k + 1, h => by
    rw [voteOk_cons, Bool.and_eq_true] at h
    rw [List.take_succ_cons, voteOk_cons, Bool.and_eq_true]
    exact ⟨h.1, lastOk_take k h.2⟩
end Go.Proofs.YtcaakiaenfkeaaaGreat.chd
/-
  Plain lemmas of the statements about ballots: no program in sight.
-/
namespace Go.Proofs.YtcaakiaenfkeaaaGreat.bal
open Go.ChangeShapes Go.WideShapes Go.ChangeAt Go.RowKit
open Go.Proofs.YtcaakiaenfkeaaaGreat.kit
set_option linter.unusedVariables false
set_option linter.unusedSimpArgs false

def lessB (r1 n1 r2 n2 : Int) : Bool := decide (r1 < r2) || (decide (r1 = r2) && decide (n1 < n2))
def knownB (n : Int) : Bool := decide (1 ≤ n) && decide (n ≤ 5)
/-- The greater of two ballots; the first one where they are one. -/
def upper (b c : Int × Int) : Int × Int := if lessB b.1 b.2 c.1 c.2 then c else b
/-- The first ballot that none is above. -/
def bestB : List (Int × Int) → Int × Int
  | [] => (0, 0)
  | x :: l => l.foldl upper x
theorem bestB_snoc (l : List (Int × Int)) (x : Int × Int) : bestB (l ++ [x]) = if l = [] then x else upper (bestB l) x := by
  cases l with
  | nil => simp [bestB]
  | cons y l => simp [bestB, List.foldl_append]

/-- Is a ballot of the list above? -/
def aboveB (x : Int × Int) (l : List (Int × Int)) : Bool := l.any fun y => lessB x.1 x.2 y.1 y.2
theorem lessB_iff {a b c d : Int} : lessB a b c d = true ↔ a < c ∨ a = c ∧ b < d := by simp [lessB]
theorem foldl_upper (l : List (Int × Int)) : ∀ x : Int × Int, (l.foldl upper x = x ∨ l.foldl upper x ∈ l) ∧ lessB (l.foldl upper x).1 (l.foldl upper x).2 x.1 x.2 = false ∧ ∀ y ∈ l, lessB (l.foldl upper x).1 (l.foldl upper x).2 y.1 y.2 = false := by
  have irr : ∀ x : Int × Int, lessB x.1 x.2 x.1 x.2 = false := fun x => by simp [lessB]
  induction l with
  | nil => intro x; exact ⟨.inl rfl, irr x, by simp⟩
  | cons z l ih =>
    intro x
    obtain ⟨h1, h3, h4⟩ := ih (upper x z)
    have hu : (upper x z = x ∧ lessB x.1 x.2 z.1 z.2 = false) ∨ (upper x z = z ∧ lessB x.1 x.2 z.1 z.2 = true) := by
      unfold upper
      cases h : lessB x.1 x.2 z.1 z.2 <;> simp
    simp only [List.foldl_cons]
    have hx : lessB (l.foldl upper (upper x z)).1 (l.foldl upper (upper x z)).2 x.1 x.2 = false := by
      rcases hu with ⟨e, h⟩ | ⟨e, h⟩
      · rw [e] at h3 ⊢; exact h3
      · rw [e] at h3 ⊢
        rw [lessB_iff] at h
        rw [Bool.eq_false_iff, ne_eq, lessB_iff] at h3 ⊢
        omega
    refine ⟨?_, hx, ?_⟩
    · rcases h1 with h1 | h1
      · rcases hu with ⟨e, h⟩ | ⟨e, h⟩
        · left; rw [e] at h1 ⊢; exact h1
        · right; rw [e] at h1 ⊢; rw [h1]; exact List.mem_cons_self
      · right; exact List.mem_cons_of_mem _ h1
    · intro y hy
      rcases List.mem_cons.1 hy with rfl | hy
      · rcases hu with ⟨e, h⟩ | ⟨e, h⟩
        · rw [e] at h3 ⊢
          rw [Bool.eq_false_iff, ne_eq, lessB_iff] at h h3 ⊢
          omega
        · rw [e] at h3 ⊢; exact h3
      · exact h4 y hy
theorem bestB_mem {l : List (Int × Int)} (h : l ≠ []) : bestB l ∈ l := by
  cases l with
  | nil => exact absurd rfl h
  | cons x l =>
    rcases (foldl_upper l x).1 with e | e
    · simp only [bestB, e]; exact List.mem_cons_self
    · exact List.mem_cons_of_mem _ e
theorem bestB_top (l : List (Int × Int)) : aboveB (bestB l) l = false := by
  cases l with
  | nil => rfl
  | cons x l =>
    obtain ⟨_, h1, h2⟩ := foldl_upper l x
    simp only [aboveB, List.any_eq_false, bestB]
    intro y hy
    rcases List.mem_cons.1 hy with rfl | hy
    · simp [h1]
    · simp [h2 y hy]
theorem bestB_unique {l : List (Int × Int)} {x : Int × Int} (hx : x ∈ l) (h : aboveB x l = false) : x = bestB l := by
  have h1 := bestB_top l
  simp only [aboveB, List.any_eq_false] at h h1
  have a := h _ (bestB_mem (List.ne_nil_of_mem hx))
  have b := h1 _ hx
  rw [lessB_iff] at a b
  exact Prod.ext (by omega) (by omega)

def ints (l : List Int) : List Value := l.map (Value.int .i64)
/-- Which of the numbers 0 to 5 are nodes that the list names. -/
def named (n : Int) (l : List Int) (j : Nat) : Bool := decide (1 ≤ j) && decide ((j : Int) ≤ n) && l.contains (j : Int)
def seenArr (n : Int) (l : List Int) : Array Value := #[.bool (named n l 0), .bool (named n l 1), .bool (named n l 2), .bool (named n l 3), .bool (named n l 4), .bool (named n l 5)]
def countB (n : Int) (l : List Int) : Nat := ((List.range 6).filter (named n l)).length

theorem seenArr_size (n : Int) (l : List Int) : (seenArr n l).size = 6 := rfl
theorem seenArr_get (n : Int) (l : List Int) (j : Nat) (h : j < 6) : (seenArr n l)[j]? = some (.bool (named n l j)) := by
  match j, h with
  | 0, _ => rfl
  | 1, _ => rfl
  | 2, _ => rfl
  | 3, _ => rfl
  | 4, _ => rfl
  | 5, _ => rfl

theorem named_snoc (n : Int) (l : List Int) (x : Int) (j : Nat) : named n (l ++ [x]) j = (named n l j || (decide (1 ≤ j) && decide ((j : Int) ≤ n) && ((j : Int) == x))) := by
  simp only [named, List.contains_append, List.contains_cons, List.contains_nil, Bool.or_false]
  cases decide (1 ≤ j) <;> cases decide ((j : Int) ≤ n) <;> simp

theorem named_out {n : Int} {l : List Int} {x : Int} (h : x < 1 ∨ n < x) : named n (l ++ [x]) = named n l := by
  funext j
  rw [named_snoc]
  have : (decide (1 ≤ j) && decide ((j : Int) ≤ n) && ((j : Int) == x)) = false := by
    cases h1 : decide (1 ≤ j) <;> cases h2 : decide ((j : Int) ≤ n) <;> simp at *
    omega
  simp [this]

theorem seen_out {n : Int} {l : List Int} {x : Int} (h : x < 1 ∨ n < x) : seenArr n (l ++ [x]) = seenArr n l ∧ countB n (l ++ [x]) = countB n l := by
  simp [seenArr, countB, named_out h]

theorem named_in {n : Int} {l : List Int} {x : Int} (h1 : 1 ≤ x) (h2 : x ≤ n) (j : Nat) : named n (l ++ [x]) j = (named n l j || decide (j = x.toNat)) := by
  rw [named_snoc]
  congr 1
  by_cases e : j = x.toNat
  · have : ((j : Int) == x) = true := by simp; omega
    simp [e]
    omega
  · have : ((j : Int) == x) = false := by simp; omega
    simp [this, e]

theorem seen_twice {n : Int} {l : List Int} {x : Int} (h1 : 1 ≤ x) (h2 : x ≤ n) (h : named n l x.toNat = true) : seenArr n (l ++ [x]) = seenArr n l ∧ countB n (l ++ [x]) = countB n l := by
  have e : named n (l ++ [x]) = named n l := by
    funext j
    rw [named_in h1 h2]
    by_cases e : j = x.toNat
    · subst e; simp [h]
    · simp [e]
  simp [seenArr, countB, e]

theorem named_in' {n : Int} {l : List Int} {x : Int} {k : Nat} (hk : k = x.toNat) (h1 : 1 ≤ x) (h2 : x ≤ n) : named n (l ++ [x]) = fun j => named n l j || decide (j = k) := by
  subst hk
  exact funext (named_in h1 h2)

theorem count_in {n : Int} {l m : List Int} {k : Nat} (hk : k < 6) (e : named n m = fun j => named n l j || decide (j = k)) (h : named n l k = false) :
    seenArr n m = (seenArr n l).setIfInBounds k (.bool true) ∧ countB n m = countB n l + 1 := by
  have r6 : List.range 6 = [0, 1, 2, 3, 4, 5] := rfl
  match k, hk, h, e with
  | 0, _, h, e => exact ⟨by simp [seenArr, e], by simp only [countB, e, r6]; simp [List.filter_cons, h]; try ((repeat' split) <;> simp)⟩
  | 1, _, h, e => exact ⟨by simp [seenArr, e], by simp only [countB, e, r6]; simp [List.filter_cons, h]; try ((repeat' split) <;> simp)⟩
  | 2, _, h, e => exact ⟨by simp [seenArr, e], by simp only [countB, e, r6]; simp [List.filter_cons, h]; try ((repeat' split) <;> simp)⟩
  | 3, _, h, e => exact ⟨by simp [seenArr, e], by simp only [countB, e, r6]; simp [List.filter_cons, h]; try ((repeat' split) <;> simp)⟩
  | 4, _, h, e => exact ⟨by simp [seenArr, e], by simp only [countB, e, r6]; simp [List.filter_cons, h]; try ((repeat' split) <;> simp)⟩
  | 5, _, h, e => exact ⟨by simp [seenArr, e], by simp only [countB, e, r6]; simp [List.filter_cons, h]; try ((repeat' split) <;> simp)⟩

theorem seen_once {n : Int} {l : List Int} {x : Int} {k : Nat} (hk : k = x.toNat) (h1 : 1 ≤ x) (h2 : x ≤ n) (h5 : n ≤ 5) (h : named n l k = false) :
    seenArr n (l ++ [x]) = (seenArr n l).setIfInBounds k (.bool true) ∧ countB n (l ++ [x]) = countB n l + 1 :=
  count_in (by omega) (named_in' hk h1 h2) h

theorem seenArr_nil (n : Int) : seenArr n [] = #[.bool false, .bool false, .bool false, .bool false, .bool false, .bool false] := by simp [seenArr, named]
theorem countB_nil (n : Int) : countB n [] = 0 := by
  have : named n [] = fun _ => false := by funext j; simp [named]
  simp [countB, this]
theorem countB_le (n : Int) (l : List Int) : countB n l ≤ 6 := by
  unfold countB
  exact List.length_filter_le _ _

theorem take_snoc {α : Type} (l : List α) (k : Nat) (h : k < l.length) : l.take (k + 1) = l.take k ++ [l[k]] := List.take_succ_eq_append_getElem h


/-- How many nodes a list names, where so many may be. -/
def cntG (n : Int) (l : List Int) : Nat := if knownB n then countB n l else 0
def enoughB (n : Int) (l : List Int) : Bool := knownB n && decide (n / 2 + 1 ≤ (cntG n l : Int))
theorem cntG_le (n : Int) (l : List Int) : cntG n l ≤ 6 := by
  unfold cntG
  have := countB_le n l
  split <;> omega
/-- Of the numbers below m those that are named. -/
def cntTo (n : Int) (l : List Int) (m : Nat) : Nat := ((List.range m).filter (named n l)).length
theorem cntTo_succ (n : Int) (l : List Int) (m : Nat) : cntTo n l (m + 1) = cntTo n l m + if named n l m then 1 else 0 := by
  simp only [cntTo, List.range_succ, List.filter_append, List.length_append]
  cases h : named n l m <;> simp [h]
theorem cntTo_one (n : Int) (l : List Int) : cntTo n l 1 = 0 := by simp [cntTo, List.range_succ, named]
theorem cntTo_le (n : Int) (l : List Int) (m : Nat) : cntTo n l m ≤ m := by
  have := List.length_filter_le (named n l) (List.range m)
  simpa [cntTo] using this
theorem cntTo_end {n : Int} {l : List Int} {m : Nat} (h1 : (m : Int) = n + 1) (h5 : n ≤ 5) (h0 : 1 ≤ n) : cntTo n l m = countB n l := by
  have step : ∀ k, m + k ≤ 6 → cntTo n l (m + k) = cntTo n l m := by
    intro k
    induction k with
    | zero => intro _; rfl
    | succ k ih =>
      intro hk
      rw [← Nat.add_assoc, cntTo_succ, ih (by omega)]
      have : named n l (m + k) = false := by
        have : decide (((m + k : Nat) : Int) ≤ n) = false := by simp; omega
        simp only [named, this, Bool.and_false, Bool.false_and]
      simp [this]
  have := step (6 - m) (by omega)
  rw [show m + (6 - m) = 6 by omega] at this
  rw [← this]
  rfl
theorem contains_snoc (l : List Int) (x y : Int) : (l ++ [x]).contains y = (l.contains y || (x == y)) := by
  simp only [List.contains_append, List.contains_cons, List.contains_nil, Bool.or_false]
  congr 1
  exact Bool.eq_iff_iff.2 (by simp; exact eq_comm)
theorem named_of {n : Int} {l : List Int} {m : Nat} (h1 : 1 ≤ m) (h2 : (m : Int) ≤ n) : named n l m = l.contains (m : Int) := by
  have a : decide (1 ≤ m) = true := by simpa using h1
  have b : decide ((m : Int) ≤ n) = true := by simpa using h2
  simp [named, a, b]

theorem filter_two (f g h : Nat → Bool) (hf : ∀ j, f j = true → h j = true) (hg : ∀ j, g j = true → h j = true) :
    ∀ l : List Nat, (∀ j ∈ l, ¬ (f j = true ∧ g j = true)) → (l.filter f).length + (l.filter g).length ≤ (l.filter h).length
  | [], _ => by simp
  | j :: l, hd => by
    have ih := filter_two f g h hf hg l (fun k hk => hd k (List.mem_cons_of_mem _ hk))
    have h0 := hd j (List.mem_cons_self)
    have h1 := hf j
    have h2 := hg j
    cases ef : f j <;> cases eg : g j <;> cases eh : h j <;> simp [List.filter_cons, ef, eg, eh] at * <;> omega

theorem filter_mono (f h : Nat → Bool) (hf : ∀ j, f j = true → h j = true) (l : List Nat) : (l.filter f).length ≤ (l.filter h).length := by
  have := filter_two f (fun _ => false) h hf (by simp) l (by simp)
  exact Nat.le_trans (Nat.le_add_right _ _) this

theorem between_len {n : Int} (h1 : 1 ≤ n) (h5 : n ≤ 5) : ((List.range 6).filter fun j : Nat => decide (1 ≤ j) && decide ((j : Int) ≤ n)).length = n.toNat := by
  have : n = 1 ∨ n = 2 ∨ n = 3 ∨ n = 4 ∨ n = 5 := by omega
  rcases this with rfl | rfl | rfl | rfl | rfl <;> rfl

theorem named_iff {n : Int} {l : List Int} {j : Nat} : named n l j = true ↔ 1 ≤ j ∧ (j : Int) ≤ n ∧ (j : Int) ∈ l := by
  simp [named, and_assoc]

/-- Two majorities meet. -/
theorem meets {n : Int} {a b : List Int} (ha : enoughB n a = true) (hb : enoughB n b = true) : ∃ x, x ∈ a ∧ x ∈ b ∧ 1 ≤ x ∧ x ≤ n := by
  have hk : knownB n = true := by simp [enoughB] at ha; exact ha.1
  have h15 : 1 ≤ n ∧ n ≤ 5 := by simpa [knownB] using hk
  simp only [enoughB, hk, Bool.true_and, decide_eq_true_eq, cntG, if_true] at ha hb
  refine Classical.byContradiction fun hno => ?_
  have h := filter_two (named n a) (named n b) (fun j : Nat => decide (1 ≤ j) && decide ((j : Int) ≤ n)) (fun j hj => by have := named_iff.1 hj; simp; omega) (fun j hj => by have := named_iff.1 hj; simp; omega) (List.range 6) (by
    intro j _ ⟨h1, h2⟩
    have e1 := named_iff.1 h1
    have e2 := named_iff.1 h2
    exact hno ⟨j, e1.2.2, e2.2.2, by omega, e1.2.1⟩)
  rw [between_len h15.1 h15.2] at h
  unfold countB at ha hb
  omega

theorem cntG_append (n : Int) (a b : List Int) : cntG n a ≤ cntG n (a ++ b) := by
  unfold cntG
  split
  · exact filter_mono _ _ (fun j hj => by have := named_iff.1 hj; exact named_iff.2 ⟨this.1, this.2.1, List.mem_append_left _ this.2.2⟩) _
  · exact Nat.le_refl _

theorem enoughB_append {n : Int} {a : List Int} (b : List Int) (h : enoughB n a = true) : enoughB n (a ++ b) = true := by
  have := cntG_append n a b
  simp only [enoughB, Bool.and_eq_true, decide_eq_true_eq] at *
  exact ⟨h.1, by omega⟩
end Go.Proofs.YtcaakiaenfkeaaaGreat.bal
/-
  Contracts of the functions of ballot that choose calls (XBal's, for this seat).
-/
namespace Go.Proofs.YtcaakiaenfkeaaaGreat.chb
open Go.ChangeShapes Go.WideShapes Go.ChangeAt Go.RowKit
open Go.Proofs.YtcaakiaenfkeaaaGreat.kit Go.Proofs.YtcaakiaenfkeaaaGreat.bal
set_option linter.unusedVariables false
set_option linter.unusedSimpArgs false

theorem eqBallot (w : World) (a b c d : Int) : (binOp .eql 28 (.agg #[.int .i64 a, .int .i64 b]) (.agg #[.int .i64 c, .int .i64 d])).run Tryz.prog w = .ok (.bool (a == c && b == d)) w := by
  cases h : (a == c) <;> cases h2 : (b == d) <;> go_simp

theorem less_any (r1 n1 r2 n2 : Int) (w : World) :
    Calls Tryz.prog 40 #[.agg #[.int .i64 r1, .int .i64 n1], .agg #[.int .i64 r2, .int .i64 n2]] w
      fun e w' => e = .returned (.bool (lessB r1 n1 r2 n2)) ∧ Below w.heap.size w w' := by
  rcases Int.lt_trichotomy r1 r2 with h | h | h
  · have hL : Hid (lessB r1 n1 r2 n2 = true) := by simp [Hid, lessB, h]
    go_enter Tryz.func40, Tryz.ntmps40
    go_wp2
    go_ret
    exact ⟨by rw [hL.out]; rfl, (((Below.refl _ _).alloc (Nat.le_refl _) _).alloc (by simp) _)⟩
  · subst h
    have hL : Hid (lessB r1 n1 r1 n2 = decide (n1 < n2)) := by simp [Hid, lessB]
    go_enter Tryz.func40, Tryz.ntmps40
    go_wp2
    go_ret
    exact ⟨by rw [hL.out]; rfl, (((Below.refl _ _).alloc (Nat.le_refl _) _).alloc (by simp) _)⟩
  · have hL : Hid (lessB r1 n1 r2 n2 = false) := by simp [Hid, lessB]; omega
    have h1 : decide (r1 < r2) = false := by simp; omega
    have h2 : (r1 == r2) = false := by simp; omega
    go_enter Tryz.func40, Tryz.ntmps40
    go_wp2
    go_ret
    exact ⟨by rw [hL.out]; simp [h1], (((Below.refl _ _).alloc (Nat.le_refl _) _).alloc (by simp) _)⟩

theorem quorum_any (n : Int) (h1 : 1 ≤ n) (h5 : n ≤ 5) (w : World) :
    Calls Tryz.prog 60 #[.int .i64 n] w fun e w' => e = .returned (.int .i64 (n / 2 + 1)) ∧ w = w' := by
  go_enter Tryz.func60, Tryz.ntmps60
  go_wp2
  go_ret
  exact ⟨rfl, rfl⟩

theorem known_any (n : Int) (w : World) :
    Calls Tryz.prog 36 #[.int .i64 n] w fun e w' => e = .returned (.bool (knownB n)) ∧ w = w' := by
  by_cases h1 : 1 ≤ n
  · have hk : Hid (knownB n = decide (n ≤ 5)) := by simp [Hid, knownB, h1]
    go_enter Tryz.func36, Tryz.ntmps36
    go_wp2
    go_ret
    exact ⟨by rw [hk.out]; rfl, rfl⟩
  · have hk : Hid (knownB n = false) := by simp [Hid, knownB, h1]
    have h2 : n < 1 := by omega
    clear h1
    go_enter Tryz.func36, Tryz.ntmps36
    go_wp2
    go_ret
    exact ⟨by rw [hk.out]; rfl, rfl⟩

set_option maxHeartbeats 1000000

def mayB (r n k : Int) : Bool := knownB k && decide (1 ≤ r) && decide (1 ≤ n) && decide (n ≤ k)
theorem may_any (r n k : Int) (w : World) :
    Calls Tryz.prog 30 #[.agg #[.int .i64 r, .int .i64 n], .int .i64 k] w
      fun e w' => e = .returned (.bool (mayB r n k)) ∧ Below w.heap.size w w' := by
  obtain ⟨x, hx⟩ : ∃ x, mayB r n k = x := ⟨_, rfl⟩
  have HX := Lib.hid hx
  rw [hx]
  unfold mayB at hx
  cases h1 : knownB k <;> cases h2 : decide (1 ≤ r) <;> cases h3 : decide (1 ≤ n) <;> cases h4 : decide (n ≤ k) <;> simp only [h1, h2, h3, h4, Bool.true_and, Bool.false_and, Bool.and_true, Bool.and_false] at hx <;> subst hx
  all_goals
    go_enter Tryz.func30, Tryz.ntmps30
    go_wp2_with (go_at_call 36; refine (known_any _ _).mono ?_; rintro e w' ⟨rfl, rfl⟩)
    go_ret
    exact ⟨rfl, below_new1 _ _⟩

theorem refLess_any (r1 n1 r2 n2 : Int) (w : World) :
    Calls Tryz.prog 25 #[.agg #[.int .i64 r1, .int .i64 n1], .agg #[.int .i64 r2, .int .i64 n2]] w
      fun e w' => e = .returned (.bool (lessB r1 n1 r2 n2)) ∧ Below w.heap.size w w' := by
  by_cases h : r1 = r2
  · subst h
    have hL : Hid (lessB r1 n1 r1 n2 = decide (n1 < n2)) := by simp [Hid, lessB]
    go_enter Tryz.func25, Tryz.ntmps25
    go_wp2
    go_ret
    exact ⟨by rw [hL.out]; rfl, (((Below.refl _ _).alloc (Nat.le_refl _) _).alloc (by simp) _)⟩
  · have hL : Hid (lessB r1 n1 r2 n2 = decide (r1 < r2)) := by simp [Hid, lessB, h]
    have h2 : (r1 != r2) = true := by simpa using h
    go_enter Tryz.func25, Tryz.ntmps25
    go_wp2
    go_ret
    exact ⟨by rw [hL.out]; rfl, (((Below.refl _ _).alloc (Nat.le_refl _) _).alloc (by simp) _)⟩
end Go.Proofs.YtcaakiaenfkeaaaGreat.chb
