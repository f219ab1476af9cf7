/-
  Layer 13 as data: which members are in order, and that propose and advance keep them so (no memory).
-/
import Derived.Test.YtcaakiaenfkeaaaGreatN06
import Derived.Test.YtcaakiaenfkeaaaGreatN09
import Derived.RangeFuncWrites
import Derived.Deep.RegionHeld3
namespace Go.Proofs.YtcaakiaenfkeaaaGreat.pep
open Go.Proofs.YtcaakiaenfkeaaaGreat.accd Go.Proofs.YtcaakiaenfkeaaaGreat.accb Go.Proofs.YtcaakiaenfkeaaaGreat.acce Go.Proofs.YtcaakiaenfkeaaaGreat.acch Go.Proofs.YtcaakiaenfkeaaaGreat.chp Go.Proofs.YtcaakiaenfkeaaaGreat.chq
open Go.Proofs.YtcaakiaenfkeaaaGreat.byt (Byt)
open Go.Proofs.YtcaakiaenfkeaaaGreat.bal (enoughB)
set_option linter.unusedVariables false
set_option linter.unusedSimpArgs false

def filledL (l : List (Option (List Nat × List Int))) : Nat := (l.filter Option.isSome).length
def PD.filled (P : PD) : Nat := match P.opn with | none => 0 | some L => filledL L.cells
def PD.wt (P : PD) : Nat := P.todo.length + P.filled
def PD.qt (P : PD) : Nat := 12 * P.todo.length + 6 * P.filled
def bigN : Nat := 900000000
structure PdOk (P : PD) : Prop where
  i0 : 0 ≤ P.index
  en : P.index + P.entries.length + P.qt ≤ 900000000
  ch : P.chosen.length + P.qt ≤ 900000000
  nt : P.notes.length + P.qt ≤ 900000000
  lt : P.letters.length + P.qt ≤ 900000000
  fst : P.A.first = P.commit + 1
  opn : P.leads = true → ∃ L, P.opn = some L ∧ L.first = P.commit + 1
  nod : 0 ≤ P.nodes ∧ P.nodes ≤ 5
  tds : ∀ e ∈ P.todo, -9223372036854775808 ≤ e.1 ∧ e.1 ≤ 9223372036854775807
  tdb : ∀ e ∈ P.todo, Byt e.2
  bya : ∀ v ∈ P.A.vs, Byt v.l

/-- The offers to the nodes 1 .. k. -/
def PD.offersK (P : PD) (s : Int) (d : List Nat) (k : Nat) : PD := (upTo k).foldl (fun P j => if j = P.node then P else P.offer j s d) P
theorem upTo_succ (k : Nat) : upTo (k + 1) = upTo k ++ [(k : Int) + 1] := by simp [upTo, List.range_succ]
theorem offersK_zero (P : PD) (s : Int) (d : List Nat) : P.offersK s d 0 = P := rfl
theorem offersK_succ (P : PD) (s : Int) (d : List Nat) (k : Nat) : P.offersK s d (k + 1) = if (k : Int) + 1 = (P.offersK s d k).node then P.offersK s d k else (P.offersK s d k).offer ((k : Int) + 1) s d := by
  unfold PD.offersK
  rw [upTo_succ, List.foldl_append]
  rfl
theorem offersK_eq (P : PD) (s : Int) (d : List Nat) (k : Nat) : ∃ L : List Lt, L.length ≤ k ∧ P.offersK s d k = { P with letters := P.letters ++ L } := by
  induction k with
  | zero => exact ⟨[], by simp, by rw [offersK_zero]; simp⟩
  | succ k ih =>
    obtain ⟨L, h1, h2⟩ := ih
    rw [offersK_succ, h2]
    by_cases h : (k : Int) + 1 = ({ P with letters := P.letters ++ L } : PD).node
    · rw [if_pos h]; exact ⟨L, by omega, rfl⟩
    · rw [if_neg h]
      refine ⟨L ++ [{ ({ lt0 with kind := 3, b := P.own, slot := s, commit := if 0 < P.taken then 0 else P.commit, ents := [(s, d)] } : Lt) with fr := P.node, dst := (k : Int) + 1 }], by simp; omega, ?_⟩
      rw [← List.append_assoc]; rfl
theorem offers_K (P : PD) (s : Int) (d : List Nat) : P.offers s d = P.offersK s d P.nodes.toNat := rfl

theorem filled_set (l : List (Option (List Nat × List Int))) (k : Nat) (x : List Nat × List Int) : filledL (l.set k (some x)) ≤ filledL l + 1 := by
  unfold filledL
  induction l generalizing k with
  | nil => simp
  | cons a l ih =>
    cases k with
    | zero =>
      rw [List.set_cons_zero]
      cases a <;> simp [List.filter_cons]
    | succ k =>
      have := ih k
      rw [List.set_cons_succ]
      cases a <;> simp [List.filter_cons] <;> omega
theorem filled_pad (l : List (Option (List Nat × List Int))) (n : Nat) : filledL (l ++ List.replicate n none) = filledL l := by
  unfold filledL
  rw [List.filter_append, List.length_append]
  simp
theorem filled_put (L : Ol) (s : Int) (v : List Nat × List Int) : filledL (L.put s v).cells ≤ filledL L.cells + 1 := by
  unfold Ol.put
  split
  · refine Nat.le_trans (filled_set _ _ _) ?_
    rw [filled_pad]
    exact Nat.le_refl _
  · omega
theorem put_first (L : Ol) (s : Int) (v : List Nat × List Int) : (L.put s v).first = L.first := by
  unfold Ol.put; split <;> rfl
theorem accS_first (A : AS) (v : V4) : (accS A v).first = A.first := by
  unfold accS; split <;> rfl
theorem accS_byt {A : AS} {v : V4} (h : ∀ x ∈ A.vs, Byt x.l) (hv : Byt v.l) : ∀ x ∈ (accS A v).vs, Byt x.l := by
  unfold accS
  split
  · intro x hx
    rcases List.mem_append.1 hx with hx | hx
    · exact h x (List.mem_filter.1 hx).1
    · rcases List.mem_cons.1 hx with rfl | hx
      · exact hv
      · exact h x (List.mem_filter.1 hx).1
  · exact h
theorem forget_byt {A : AS} {d : Int} (h : ∀ x ∈ A.vs, Byt x.l) : ∀ x ∈ (forgetS A d).vs, Byt x.l := by
  unfold forgetS
  split
  · intro x hx
    exact h x (List.mem_filter.1 hx).1
  · exact h
theorem acc_put {P : PD} (h : PdOk P) (hl : P.leads = true) {L : Ol} (hL : P.opn = some L) {v : V4} (hv : accE P.A.r P.A.n P.A.first v = 0) : L.putE v.s = 0 := by
  obtain ⟨L', h1, h2⟩ := h.opn hl
  rw [hL] at h1
  obtain rfl := Option.some.inj h1
  have h3 := h.fst
  unfold accE at hv
  unfold Ol.putE
  split at hv
  · simp at hv
  · split at hv
    · simp at hv
    · split at hv
      · simp at hv
      · split at hv
        · simp at hv
        · rw [if_neg (by omega), if_neg (by omega)]

/-- One thing that is proposed. -/
def PD.prop2 (P : PD) (L : Ol) (s : Int) (d : List Nat) (l : List (Int × List Nat)) : PD :=
  (({ P with A := accS P.A ⟨s, P.own.1, P.own.2, d⟩, opn := some (L.put s (d, [P.node])), todo := l } : PD).note (.vote ⟨s, P.own.1, P.own.2, d⟩)).offers s d
theorem good_skip {P : PD} (h : PdOk P) {x : Int × List Nat} {l : List (Int × List Nat)} (ht : P.todo = x :: l) : PdOk { P with todo := l } ∧ ({ P with todo := l } : PD).wt + 1 = P.wt := by
  have hfi : ({ P with todo := l } : PD).filled = P.filled := rfl
  have htl : ({ P with todo := l } : PD).todo.length + 1 = P.todo.length := by rw [ht]; rfl
  have hq : ({ P with todo := l } : PD).qt + 12 = P.qt := by
    unfold PD.qt
    omega
  have hw : ({ P with todo := l } : PD).wt + 1 = P.wt := by
    unfold PD.wt
    omega
  have h1 := h.en; have h2 := h.ch; have h3 := h.nt; have h4 := h.lt
  refine ⟨⟨h.i0, ?_, ?_, ?_, ?_, h.fst, h.opn, h.nod, fun e he => h.tds e (by rw [ht]; exact List.mem_cons_of_mem _ he), fun e he => h.tdb e (by rw [ht]; exact List.mem_cons_of_mem _ he), h.bya⟩, hw⟩
  · show P.index + P.entries.length + _ ≤ _; omega
  · show P.chosen.length + _ ≤ _; omega
  · show P.notes.length + _ ≤ _; omega
  · show P.letters.length + _ ≤ _; omega
theorem good_prop2 {P : PD} (h : PdOk P) {L : Ol} {s : Int} {d : List Nat} {l : List (Int × List Nat)} (ht : P.todo = (s, d) :: l) (hL : P.opn = some L) (hf : L.first = P.commit + 1) : PdOk (P.prop2 L s d l) ∧ (P.prop2 L s d l).wt ≤ P.wt ∧ (P.prop2 L s d l).leads = P.leads := by
  obtain ⟨X, hX, e⟩ := offersK_eq (({ P with A := accS P.A ⟨s, P.own.1, P.own.2, d⟩, opn := some (L.put s (d, [P.node])), todo := l } : PD).note (.vote ⟨s, P.own.1, P.own.2, d⟩)) s d P.nodes.toNat
  have e2 : P.prop2 L s d l = { (({ P with A := accS P.A ⟨s, P.own.1, P.own.2, d⟩, opn := some (L.put s (d, [P.node])), todo := l } : PD).note (.vote ⟨s, P.own.1, P.own.2, d⟩)) with letters := P.letters ++ X } := e
  have hfp := filled_put L s (d, [P.node])
  have hq : (P.prop2 L s d l).qt + 6 ≤ P.qt := by
    rw [e2]
    unfold PD.qt PD.filled
    rw [ht, List.length_cons, hL]
    show 12 * l.length + 6 * filledL (L.put s (d, [P.node])).cells + 6 ≤ 12 * (l.length + 1) + 6 * filledL L.cells
    omega
  have hw : (P.prop2 L s d l).wt ≤ P.wt := by
    rw [e2]
    unfold PD.wt PD.filled
    rw [ht, List.length_cons, hL]
    show l.length + filledL (L.put s (d, [P.node])).cells ≤ l.length + 1 + filledL L.cells
    omega
  have hn := h.nod
  have h1 := h.en; have h2 := h.ch; have h3 := h.nt; have h4 := h.lt
  refine ⟨⟨?_, ?_, ?_, ?_, ?_, ?_, ?_, ?_, ?_, ?_, ?_⟩, hw, by rw [e2]; rfl⟩
  · rw [e2]; exact h.i0
  · have e3 : (P.prop2 L s d l).index + (P.prop2 L s d l).entries.length = P.index + P.entries.length := by rw [e2]; rfl
    omega
  · have e3 : (P.prop2 L s d l).chosen.length = P.chosen.length := by rw [e2]; rfl
    omega
  · have e3 : (P.prop2 L s d l).notes.length = P.notes.length + 1 := by rw [e2]; show (P.notes ++ [_]).length = _; simp
    omega
  · have e3 : (P.prop2 L s d l).letters.length = P.letters.length + X.length := by rw [e2]; show (P.letters ++ X).length = _; simp
    omega
  · rw [e2]; show (accS P.A _).first = P.commit + 1; rw [accS_first]; exact h.fst
  · intro _
    refine ⟨L.put s (d, [P.node]), by rw [e2]; rfl, ?_⟩
    rw [put_first, hf, e2]; rfl
  · rw [e2]; exact h.nod
  · intro e he
    refine h.tds e ?_
    rw [e2] at he
    rw [ht]; exact List.mem_cons_of_mem _ he
  · intro e he
    refine h.tdb e ?_
    rw [e2] at he
    rw [ht]; exact List.mem_cons_of_mem _ he
  · rw [e2]
    exact accS_byt h.bya (h.tdb (s, d) (by rw [ht]; exact List.mem_cons_self ..))

theorem props_nil (n : Nat) (P : PD) (h : P.todo = []) : PD.props n P = P := by
  cases n with
  | zero => rfl
  | succ n => unfold PD.props PD.prop1; rw [h]
theorem prop1_skip {P : PD} {s : Int} {d : List Nat} {l : List (Int × List Nat)} (ht : P.todo = (s, d) :: l) (hs : s ≤ P.commit) : P.prop1 = some { P with todo := l } := by
  unfold PD.prop1; rw [ht]; exact if_pos hs
theorem prop1_stop {P : PD} {s : Int} {d : List Nat} {l : List (Int × List Nat)} (ht : P.todo = (s, d) :: l) (hs : ¬ s ≤ P.commit) (ha : accE P.A.r P.A.n P.A.first ⟨s, P.own.1, P.own.2, d⟩ ≠ 0) : P.prop1 = none := by
  unfold PD.prop1; rw [ht]
  show (if s ≤ P.commit then _ else if _ then none else _) = none
  rw [if_neg hs, if_pos ha]
theorem prop1_go {P : PD} {s : Int} {d : List Nat} {l : List (Int × List Nat)} {L : Ol} (ht : P.todo = (s, d) :: l) (hs : ¬ s ≤ P.commit) (ha : accE P.A.r P.A.n P.A.first ⟨s, P.own.1, P.own.2, d⟩ = 0) (hL : P.opn = some L) (hp : L.putE s = 0) : P.prop1 = some (P.prop2 L s d l) := by
  unfold PD.prop1; rw [ht]
  show (if s ≤ P.commit then _ else if _ then none else _) = _
  rw [if_neg hs, if_neg (by rw [ha]; simp), hL]
  show (if L.putE s ≠ 0 then none else _) = _
  rw [if_neg (by rw [hp]; simp)]
  rfl
theorem props_step {P P' : PD} (h : P.prop1 = some P') (hl : P'.todo.length + 1 = P.todo.length) : PD.props P.todo.length P = PD.props P'.todo.length P' := by
  obtain ⟨n, hn⟩ : ∃ n, P'.todo.length = n := ⟨_, rfl⟩
  rw [← hl, hn]
  show (match P.prop1 with | none => P | some P' => PD.props n P') = _
  rw [h]
theorem props_stop {P : PD} (h : P.prop1 = none) (n : Nat) : PD.props n P = P := by
  cases n with
  | zero => rfl
  | succ n => unfold PD.props; rw [h]

/-- What is chosen, with a leader. -/
theorem cut_id (L : Ol) : L.cut L.first = L := by unfold Ol.cut; rw [if_pos (.inl (Int.le_refl _))]
theorem forget_first (A : AS) (d : Int) (h1 : A.first ≤ d) (h2 : d ≤ 1099511627776) : (forgetS A d).first = d := by
  unfold forgetS
  by_cases h : A.first < d
  · rw [if_pos (show fgt A.first d from ⟨h, h2⟩)]
  · rw [if_neg (show ¬ fgt A.first d from fun hh => h hh.1)]; omega
theorem chose_lead {P : PD} (hl : P.leads = true) (s : Int) (d : List Nat) : P.chose s d = { P with entries := P.entries ++ [(s, d)], chosen := P.chosen ++ [(s, d)], notes := P.notes ++ [.entry s d], A := forgetS P.A (P.commit + 1 + 1), opn := P.opn.map fun L => L.cut (P.commit + 1 + 1), next := max P.next (P.commit + 1 + 1) } := by
  have e : P.index + ((P.entries ++ [(s, d)]).length : Int) + 1 = P.commit + 1 + 1 := by rw [List.length_append]; unfold PD.commit; simp; omega
  unfold PD.chose PD.settled
  show (if P.leads = true then _ else _) = _
  rw [if_pos hl]
  show ({ P with entries := P.entries ++ [(s, d)], chosen := P.chosen ++ [(s, d)], notes := P.notes ++ [.entry s d], A := forgetS P.A (P.index + ((P.entries ++ [(s, d)]).length : Int) + 1), opn := P.opn.map fun L => L.cut (P.index + ((P.entries ++ [(s, d)]).length : Int) + 1), next := max P.next (P.index + ((P.entries ++ [(s, d)]).length : Int) + 1) } : PD) = _
  rw [e]
theorem chose_good {P : PD} (h : PdOk P) (hl : P.leads = true) {L : Ol} {v : List Nat × List Int} {r : List (Option (List Nat × List Int))} (hL : P.opn = some L) (hf : L.first = P.commit + 1) (hc : L.cells = some v :: r) :
    PdOk (P.chose L.first v.1) ∧ (P.chose L.first v.1).leads = true ∧ (P.chose L.first v.1).opn = some ⟨L.first + 1, r⟩ ∧ (P.chose L.first v.1).todo = P.todo ∧ (P.chose L.first v.1).commit = P.commit + 1 ∧ (P.chose L.first v.1).wt + 1 = P.wt ∧ (P.chose L.first v.1).nodes = P.nodes := by
  have h0 := h.i0; have h1 := h.en; have h2 := h.ch; have h3 := h.nt; have h4 := h.lt
  have hcm : P.commit = P.index + P.entries.length := rfl
  have e := chose_lead hl L.first v.1
  have hcut : L.cut (P.commit + 1 + 1) = ⟨L.first + 1, r⟩ := by
    unfold Ol.cut farI
    rw [if_neg (by omega), hf, hc]
    have : (P.commit + 1 + 1 - (P.commit + 1)).toNat = 1 := by omega
    rw [this]; rfl
  have ho : (P.chose L.first v.1).opn = some ⟨L.first + 1, r⟩ := by
    rw [e]; show P.opn.map _ = _; rw [hL, Option.map_some, hcut]
  have ht : (P.chose L.first v.1).todo = P.todo := by rw [e]
  have hcom : (P.chose L.first v.1).commit = P.commit + 1 := by
    rw [e]; show P.index + ((P.entries ++ [_]).length : Int) = P.index + P.entries.length + 1
    rw [List.length_append]; simp; omega
  have hfl : P.filled = filledL r + 1 := by
    unfold PD.filled; rw [hL]; show filledL L.cells = _; rw [hc]; simp [filledL, List.filter_cons]
  have hfl2 : (P.chose L.first v.1).filled = filledL r := by unfold PD.filled; rw [ho]
  have hq : (P.chose L.first v.1).qt + 6 = P.qt := by unfold PD.qt; rw [ht, hfl, hfl2]; omega
  have hw : (P.chose L.first v.1).wt + 1 = P.wt := by unfold PD.wt; rw [ht, hfl, hfl2]; omega
  refine ⟨⟨?_, ?_, ?_, ?_, ?_, ?_, ?_, ?_, ?_, ?_, ?_⟩, by rw [e]; exact hl, ho, ht, hcom, hw, by rw [e]⟩
  · rw [e]; exact h.i0
  · have : (P.chose L.first v.1).index + (P.chose L.first v.1).entries.length = P.index + P.entries.length + 1 := hcom
    omega
  · have : (P.chose L.first v.1).chosen.length = P.chosen.length + 1 := by rw [e]; show (P.chosen ++ [_]).length = _; simp
    omega
  · have : (P.chose L.first v.1).notes.length = P.notes.length + 1 := by rw [e]; show (P.notes ++ [_]).length = _; simp
    omega
  · have : (P.chose L.first v.1).letters = P.letters := by rw [e]
    rw [this]; omega
  · rw [hcom, e]
    show (forgetS P.A (P.commit + 1 + 1)).first = _
    exact forget_first _ _ (by rw [h.fst]; omega) (by omega)
  · intro _
    exact ⟨_, ho, by rw [hcom, hf]⟩
  · rw [e]; exact h.nod
  · rw [ht]; exact h.tds
  · rw [ht]; exact h.tdb
  · rw [e]; exact forget_byt h.bya
theorem choseAll_nil (P : PD) : P.choseAll [] = P := rfl
theorem choseAll_cons (P : PD) (x : Int × (List Nat × List Int)) (l : List (Int × (List Nat × List Int))) : P.choseAll (x :: l) = (P.chose x.1 x.2.1).choseAll l := rfl
theorem choseAll_snoc (P : PD) (x : Int × (List Nat × List Int)) (l : List (Int × (List Nat × List Int))) : P.choseAll (l ++ [x]) = (P.choseAll l).chose x.1 x.2.1 := by
  unfold PD.choseAll; rw [List.foldl_append]; rfl
/-- As many of the first filled places as are told. -/
theorem choseAll_good : ∀ (cs : List (Option (List Nat × List Int))) (P : PD) (k : Nat), PdOk P → P.leads = true → ∀ L, P.opn = some L → L.first = P.commit + 1 → L.cells = cs → k ≤ (runOf L.first cs).length →
    PdOk (P.choseAll ((runOf L.first cs).take k)) ∧ (P.choseAll ((runOf L.first cs).take k)).leads = true ∧ (P.choseAll ((runOf L.first cs).take k)).todo = P.todo ∧ (P.choseAll ((runOf L.first cs).take k)).commit = P.commit + k ∧ (P.choseAll ((runOf L.first cs).take k)).wt + k = P.wt ∧ (P.choseAll ((runOf L.first cs).take k)).nodes = P.nodes := by
  intro cs
  induction cs with
  | nil =>
    intro P k h hl L hL hf hc hk
    have : k = 0 := by simpa [runOf] using hk
    subst this
    rw [List.take_zero, choseAll_nil]
    exact ⟨h, hl, rfl, by simp, rfl, rfl⟩
  | cons x r ih =>
    intro P k h hl L hL hf hc hk
    cases k with
    | zero =>
      rw [List.take_zero, choseAll_nil]
      exact ⟨h, hl, rfl, by simp, rfl, rfl⟩
    | succ k =>
      cases x with
      | none => simp [runOf] at hk
      | some v =>
        have hr : runOf L.first (some v :: r) = (L.first, v) :: runOf (L.first + 1) r := rfl
        rw [hr] at hk ⊢
        rw [List.take_succ_cons, choseAll_cons]
        obtain ⟨g, gl, go, gt, gc, gw, gn⟩ := chose_good h hl hL hf hc
        obtain ⟨a1, a2, a3, a4, a5, a6⟩ := ih (P.chose L.first v.1) k g gl ⟨L.first + 1, r⟩ go (by rw [gc, hf]) rfl (by simpa using hk)
        refine ⟨a1, a2, a3.trans gt, ?_, ?_, a6.trans gn⟩
        · show _ = P.commit + ((k + 1 : Nat) : Int)
          rw [a4, gc]; push_cast; omega
        · have a5' : ((P.chose L.first v.1).choseAll ((runOf (L.first + 1) r).take k)).wt + k = (P.chose L.first v.1).wt := a5
          show ((P.chose L.first v.1).choseAll ((runOf (L.first + 1) r).take k)).wt + (k + 1) = P.wt
          omega
theorem wins_take (P : PD) (L : Ol) (hL : P.opn = some L) : P.wins = (runOf L.first L.cells).take P.wins.length ∧ P.wins.length ≤ (runOf L.first L.cells).length := by
  have e : P.wins = (runOf L.first L.cells).takeWhile fun x => enoughB P.nodes x.2.2 := by unfold PD.wins; rw [hL]
  have hp : P.wins <+: runOf L.first L.cells := by rw [e]; exact List.takeWhile_prefix _
  exact ⟨(List.prefix_iff_eq_take.1 hp), hp.length_le⟩
theorem wins_at (P : PD) (L : Ol) (hL : P.opn = some L) (k : Nat) (hk : k ≤ (runOf L.first L.cells).length) (h1 : ∀ x ∈ (runOf L.first L.cells).take k, enoughB P.nodes x.2.2 = true) (h2 : ∀ (h : k < (runOf L.first L.cells).length), enoughB P.nodes ((runOf L.first L.cells)[k]).2.2 = false) : P.wins = (runOf L.first L.cells).take k := by
  have e : P.wins = (runOf L.first L.cells).takeWhile fun x => enoughB P.nodes x.2.2 := by unfold PD.wins; rw [hL]
  rw [e]
  generalize runOf L.first L.cells = l at hk h1 h2
  clear e
  induction l generalizing k with
  | nil => simp
  | cons x r ih =>
    cases k with
    | zero =>
      have : enoughB P.nodes x.2.2 = false := h2 (by simp)
      rw [List.takeWhile_cons_of_neg (by simp [this]), List.take_zero]
    | succ k =>
      rw [List.take_succ_cons, List.takeWhile_cons, h1 x (by simp), ih k (by simpa using hk) (fun y hy => h1 y (by simp [hy])) (fun h => h2 (by simpa using h))]
      rfl
theorem adv_lead (n : Nat) {P : PD} (hl : P.leads = true) : PD.advance (n + 1) P = if P.commit < (P.choseAll P.wins).commit ∧ 0 < (P.choseAll P.wins).todo.length then PD.propose n (P.choseAll P.wins) else P.choseAll P.wins := by
  unfold PD.advance; rw [if_pos hl]
theorem adv_no (n : Nat) {P : PD} (hl : P.leads = false) : PD.advance (n + 1) P = P := by
  unfold PD.advance; rw [if_neg (by rw [hl]; simp)]
theorem prop1_good {P P' : PD} (h : PdOk P) (hl : P.leads = true) (hp : P.prop1 = some P') : PdOk P' ∧ P'.leads = true ∧ P'.wt ≤ P.wt := by
  cases ht : P.todo with
  | nil => unfold PD.prop1 at hp; rw [ht] at hp; simp at hp
  | cons x l =>
    obtain ⟨s, d⟩ := x
    by_cases hs : s ≤ P.commit
    · rw [prop1_skip ht hs] at hp
      obtain rfl := Option.some.inj hp
      obtain ⟨g, w⟩ := good_skip h ht
      exact ⟨g, hl, by omega⟩
    · by_cases ha : accE P.A.r P.A.n P.A.first ⟨s, P.own.1, P.own.2, d⟩ = 0
      · obtain ⟨L, hL, hf⟩ := h.opn hl
        rw [prop1_go ht hs ha hL (acc_put h hl hL ha)] at hp
        obtain rfl := Option.some.inj hp
        obtain ⟨g, w, e⟩ := good_prop2 h ht hL hf
        exact ⟨g, e.trans hl, w⟩
      · rw [prop1_stop ht hs ha] at hp
        simp at hp
theorem props_good : ∀ (n : Nat) (P : PD), PdOk P → P.leads = true → PdOk (PD.props n P) ∧ (PD.props n P).leads = true ∧ (PD.props n P).wt ≤ P.wt
  | 0, P, h, hl => ⟨h, hl, Nat.le_refl _⟩
  | n + 1, P, h, hl => by
    cases hp : P.prop1 with
    | none =>
      have e : PD.props (n + 1) P = P := props_stop hp _
      rw [e]; exact ⟨h, hl, Nat.le_refl _⟩
    | some P' =>
      obtain ⟨g, gl, gw⟩ := prop1_good h hl hp
      have e : PD.props (n + 1) P = PD.props n P' := by
        show (match P.prop1 with | none => P | some P' => PD.props n P') = _
        rw [hp]
      rw [e]
      obtain ⟨a, b, c⟩ := props_good n P' g gl
      exact ⟨a, b, Nat.le_trans c gw⟩
theorem wins_good {P : PD} (h : PdOk P) (hl : P.leads = true) : PdOk (P.choseAll P.wins) ∧ (P.choseAll P.wins).leads = true := by
  obtain ⟨L, hL, hf⟩ := h.opn hl
  obtain ⟨w1, w2⟩ := wins_take P L hL
  obtain ⟨g1, g2, -⟩ := choseAll_good L.cells P P.wins.length h hl L hL hf rfl w2
  rw [← w1] at g1 g2
  exact ⟨g1, g2⟩
theorem pa_good (n : Nat) : (∀ P, PdOk P → PdOk (PD.advance n P) ∧ (PD.advance n P).leads = P.leads) ∧ (∀ P, PdOk P → P.leads = true → PdOk (PD.propose n P) ∧ (PD.propose n P).leads = true) := by
  induction n with
  | zero => exact ⟨fun P h => by unfold PD.advance; exact ⟨h, rfl⟩, fun P h hl => by unfold PD.propose; exact ⟨h, hl⟩⟩
  | succ n ih =>
    refine ⟨fun P h => ?_, fun P h hl => ?_⟩
    · cases hl : P.leads with
      | false => rw [adv_no n hl]; exact ⟨h, hl⟩
      | true =>
        rw [adv_lead n hl]
        obtain ⟨g1, g2⟩ := wins_good h hl
        split
        · exact ih.2 _ g1 g2
        · exact ⟨g1, g2⟩
    · have e : PD.propose (n + 1) P = PD.advance n (PD.props P.todo.length P) := by unfold PD.propose; rfl
      rw [e]
      obtain ⟨g1, g2, -⟩ := props_good P.todo.length P h hl
      obtain ⟨k1, k2⟩ := ih.1 _ g1
      exact ⟨k1, k2.trans g2⟩
theorem pro_eq (n : Nat) (P : PD) : PD.propose (n + 1) P = PD.advance n (PD.props P.todo.length P) := by unfold PD.propose; rfl
end Go.Proofs.YtcaakiaenfkeaaaGreat.pep
/-
  What is to be proposed: its head, its tail; the log with one thing more; numbers of one's own.
-/
namespace Go.Proofs.YtcaakiaenfkeaaaGreat.pet
open Go.ChangeShapes Go.WideShapes Go.ChangeAt Go.RowKit
open Go.Proofs.YtcaakiaenfkeaaaGreat.kit Go.Proofs.YtcaakiaenfkeaaaGreat.mapkit Go.Proofs.YtcaakiaenfkeaaaGreat.byt Go.Proofs.YtcaakiaenfkeaaaGreat.own Go.Proofs.YtcaakiaenfkeaaaGreat.accd Go.Proofs.YtcaakiaenfkeaaaGreat.accb Go.Proofs.YtcaakiaenfkeaaaGreat.acce Go.Proofs.YtcaakiaenfkeaaaGreat.chd Go.Proofs.YtcaakiaenfkeaaaGreat.che Go.Proofs.YtcaakiaenfkeaaaGreat.ownr Go.Proofs.YtcaakiaenfkeaaaGreat.pep Go.Proofs.YtcaakiaenfkeaaaGreat.peb Go.Proofs.YtcaakiaenfkeaaaGreat.pem Go.Proofs.YtcaakiaenfkeaaaGreat.pen Go.Proofs.YtcaakiaenfkeaaaGreat.pes
set_option linter.unusedVariables false
set_option linter.unusedSimpArgs false
set_option maxHeartbeats 4000000
set_option maxRecDepth 100000

theorem todo_head {w : World} {O : Owners} {t : Tag} {a : Option Addr} {c : Nat} {e : Et} {l : List Et} (h : TodoAt w O t ⟨a, c, e :: l⟩) :
    ∃ b off, a = some ⟨b, off, none⟩ ∧ b < w.heap.size ∧ w.cell? ⟨b, off, none⟩ = some (.int .i64 e.s) ∧ w.cell? ⟨b, off + 1, none⟩ = some (.slice e.a e.l.length e.c) ∧ l.length + 1 ≤ c ∧ RoB w ⟨e.a, e.c, e.l⟩ ∧ TodoAt w O t ⟨if c = 1 then some ⟨b, off, none⟩ else some ⟨b, off + 2, none⟩, c - 1, l⟩ := by
  obtain ⟨⟨b, off, hc, ht⟩, hbd⟩ := h
  dsimp only [List.length_cons] at hc ht hbd
  have hle : l.length + 1 ≤ c := hc.le
  have ha : a = some ⟨b, off, none⟩ := hc.addr (by omega)
  subst ha
  obtain ⟨htag, cs, hcs⟩ := ht b off rfl
  have hz := hc.lt (by omega)
  have hfm : (e :: l).flatMap Et.cells = .int .i64 e.s :: .slice e.a e.l.length e.c :: l.flatMap Et.cells := by rw [List.flatMap_cons]; rfl
  have hol := hc.oldsLen
  rw [hfm] at hol
  refine ⟨b, off, rfl, hz, hc.olds 0 _ (by rw [hfm]; rfl), hc.olds 1 _ (by rw [hfm]; rfl), hle, hbd e (by simp), ⟨⟨b, off + 2, ⟨?_, fun hh => if_neg (by dsimp only at hh; omega), fun _ => hz, ?_, fun j u hu => ?_, fun j hj => ?_⟩, fun g o hg => ?_⟩, fun x hx => hbd x (by simp [hx])⟩⟩
  · show l.length ≤ c - 1; omega
  · show (l.flatMap Et.cells).length = l.length * 2
    simp only [List.length_cons] at hol; omega
  · have := hc.olds (j + 2) u (by rw [hfm]; exact hu)
    rw [show off + 2 + j = off + (j + 2) by omega]; exact this
  · have e1 : c - 1 - l.length = c - (l.length + 1) := by omega
    have hj2 : j < (c - 1 - l.length) * 2 := hj
    rw [e1] at hj2
    have := hc.spare j hj2
    show (w.cell? ⟨b, off + 2 + l.length * 2 + j, none⟩).isSome = true ∧ w.frozen? ⟨b, off + 2 + l.length * 2 + j, none⟩ = false
    rw [show off + 2 + l.length * 2 + j = off + (l.length + 1) * 2 + j by omega]; exact this
  · have hgb : g = b := by
      dsimp only at hg
      split at hg
      · simp only [Option.some.injEq, Addr.mk.injEq] at hg; exact hg.1.symm
      · simp only [Option.some.injEq, Addr.mk.injEq] at hg; exact hg.1.symm
    subst hgb
    exact ⟨htag, cs, hcs⟩
/-- What is to be proposed lies elsewhere: the store of its slice. -/
theorem peer_td {w : World} {O : Owners} {i pb : Nat} {M : PM} {s : Sl Et} (h : PeerAt w O i pb M) (ht : TodoAt w O (i, 5) s) : Behind w O i pb (Sf i 1) (w.setCell ⟨pb, 38, none⟩ s.val) { M with td := s } := by
  have F : Fr (Sf i 1) w O (w.setCell ⟨pb, 38, none⟩ s.val) O := (Fr.refl (Sf i 1) h.clean).set (p := ⟨pb, 38, none⟩) (.inr (.inl h.tag)) h.blk still_peer _
  have hP := h.parts.fr (g := fun j => j = 1) (fun _ hf => hf.elim) (fun j hj => by rintro (e | e) <;> exact hj (congrArg Prod.snd e)) (sf_ro h.me) F
  have hc : (pcells M).setIfInBounds 38 s.val = pcells { M with td := s } := by kernel_rfl
  refine ⟨O, ⟨F.clean, h.me, by rw [← hc]; exact hp_set h.blk 38 _, h.tag, ⟨fun _ => hP.acc (by decide), fun _ => hP.ent (by decide), fun _ => hP.opn (by decide), fun _ => ht.fr (by rintro (e | e) <;> exact absurd (show (5 : Nat) = 1 from congrArg Prod.snd e) (by decide)) F, fun _ => hP.nts (by decide), fun _ => hP.lts (by decide), fun _ => hP.chs (by decide), fun j hj _ => hP.prm j hj (by omega), fun j hj _ => hP.box j hj (by omega), hP.img, hP.rim⟩⟩, F⟩
/-- The log with one thing more. -/
def logPut (L : LogM) (s : Int) (v : Sl Nat × Sl Int) : LogM := if s < L.first ∨ 1024 ≤ s - L.first then L else ⟨L.first, (L.cs ++ List.replicate ((s - L.first).toNat + 1 - L.cs.length) ((sl0, sl0), false)).set (s - L.first).toNat (v, true)⟩
theorem logPut_first (L : LogM) (s : Int) (v : Sl Nat × Sl Int) : (logPut L s v).first = L.first := by unfold logPut; split <;> rfl
theorem logPut_cs (L : LogM) (s : Int) (v : Sl Nat × Sl Int) : (logPut L s v).cs.map rawC = logq.putC L.first 1024 (L.cs.map rawC) s (rawE v) := by
  unfold logPut logq.putC
  by_cases h : s < L.first ∨ 1024 ≤ s - L.first
  · rw [if_pos h, if_pos h]
  · rw [if_neg h, if_neg h]
    simp only [List.map_set, List.map_append, List.map_replicate, logq.padL, List.length_map]
    rfl
theorem logPut_dat (L : LogM) (s : Int) (v : Sl Nat × Sl Int) : (logPut L s v).dat = L.dat.put s (v.1.l, v.2.l) := by
  unfold logPut Ol.put Ol.putE
  show _ = if (if s < L.first then (80 : Int) else if 1024 ≤ s - L.first then 81 else 0) = 0 then (⟨L.first, (L.dat.cells ++ List.replicate ((s - L.first).toNat + 1 - L.dat.cells.length) none).set (s - L.first).toNat (some (v.1.l, v.2.l))⟩ : Ol) else L.dat
  by_cases h : s < L.first ∨ 1024 ≤ s - L.first
  · rw [if_pos h]
    have e : ¬ (if s < L.first then (80 : Int) else if 1024 ≤ s - L.first then 81 else 0) = 0 := by
      by_cases h1 : s < L.first
      · rw [if_pos h1]; decide
      · rw [if_neg h1, if_pos (h.resolve_left h1)]; decide
    rw [if_neg e]
  · have e : (if s < L.first then (80 : Int) else if 1024 ≤ s - L.first then 81 else 0) = 0 := by rw [if_neg (fun hh => h (.inl hh)), if_neg (fun hh => h (.inr hh))]
    rw [if_neg h, if_pos e]
    simp only [LogM.dat, List.map_set, List.map_append, List.map_replicate, List.length_map]
    rfl
theorem logPut_mem {L : LogM} {s : Int} {v : Sl Nat × Sl Int} {x : (Sl Nat × Sl Int) × Bool} (h : x ∈ (logPut L s v).cs) (h2 : x.2 = true) : x ∈ L.cs ∨ x.1 = v := by
  unfold logPut at h
  split at h
  · exact .inl h
  · rcases List.mem_or_eq_of_mem_set h with h | rfl
    · rcases List.mem_append.1 h with h | h
      · exact .inl h
      · obtain ⟨-, rfl⟩ := List.mem_replicate.1 h
        simp at h2
    · exact .inr rfl
/-- A list of numbers that was made just now. -/
theorem roi_new (w : World) (l : List Int) (hl : l.length ≤ 140737488355328) : RoI (w.alloc (.cells (nints l).toArray 3)) ⟨some ⟨w.heap.size, 0, none⟩, l.length, l⟩ :=
  ⟨fun h => by simp at h, hl, lie_list w 3 (nints l), fun g off hg => by
    simp only [Option.some.injEq, Addr.mk.injEq] at hg
    obtain ⟨rfl, -, -⟩ := hg
    exact ⟨_, hp_alloc_new w _⟩⟩
/-- Votes that lie as entries do. -/
theorem rd2_of {w : World} {s r n : Int} {b : Sl Nat} (h : RoB w b) : Rd2 w ⟨s, r, n, b.l, b.a, b.c⟩ := ⟨h.lie, h.nil, by have := h.len; show b.l.length ≤ _; omega⟩
/-- A thing is put into the log. -/
theorem peer_put {w w' : World} {O : Owners} {i pb b : Nat} {M : PM} {L : LogM} {s : Int} {v : Sl Nat × Sl Int} (h : PeerAt w O i pb M) (hob : M.ob = some (b, L)) (hv1 : RoB w v.1) (hv2 : RoI w v.2)
    (hl : logq.LogAt w' 0 b L.first 1024 (logq.putC L.first 1024 (L.cs.map rawC) s (rawE v))) (hb : Below 0 w w') (hk : logq.KeepQ b (logQ w b (w.heap.size + 1)) w w') (hr : logq.RowQ w' b (logQ w b (w.heap.size + 1))) :
    Behind w O i pb (Sf i 4) w' { M with ob := some (b, logPut L s v) } := by
  have hlo : LogOk w O (i, 4) b L := h.parts.opn (fun x => x) _ hob
  refine peer_log (L' := logPut L s v) h hob (fun k hkz hq => hq.elim id (fun hh => by omega)) (by rw [logPut_first, logPut_cs]; exact hl) hb hk hr (by rw [logPut_first, logPut_cs]; exact logq.put_fit hlo.fit _ _) (fun O' F x hx hx2 => ?_)
  rcases logPut_mem hx hx2 with hx | e
  · exact ⟨((hlo.val x hx hx2).1).fr F, ((hlo.val x hx hx2).2).fr F⟩
  · rw [e]; exact ⟨hv1.fr F, hv2.fr F⟩
theorem logq_not {w : World} {O : Owners} {t : Tag} {b : Nat} {L : LogM} (h : LogOk w O t b L) : ¬ logQ w b (w.heap.size + 1) w.heap.size := by
  rintro (⟨o, n, c, hc⟩ | h2)
  · obtain ⟨a, n', c', h1, h2, h3⟩ := log_row h.log
    rw [h1] at hc
    simp only [Option.some.injEq, Value.slice.injEq] at hc
    obtain ⟨rfl, -⟩ := hc
    obtain ⟨h0, a', c3, k1, k2⟩ := h.log
    have k3 := (blk3 k1).2.2.1
    rw [h1] at k3
    simp only [Option.some.injEq, Value.slice.injEq] at k3
    obtain ⟨rfl, -⟩ := k3
    obtain rfl := logq.own_at k2 _ o rfl
    exact absurd (h3 _ rfl) (by omega)
  · omega
/-- A block of a member's own that no part names (tag 9): it may be written. -/
theorem PeerAt.scratch {w w' : World} {O O' : Owners} {i pb : Nat} {M : PM} (h : PeerAt w O i pb M) (F : Fr (fun t => t = (i, 9)) w O w' O') : PeerAt w' O' i pb M := by
  have hr : ¬ (fun t : Tag => t = (i, 9)) ro := fun e => h.me (congrArg Prod.fst e).symm
  have hP := h.parts.fr (S := fun t => t = (i, 9)) (g := fun j => j = 9) (fun _ hf => hf.elim) (fun j hj e => hj (congrArg Prod.snd e)) hr F
  exact ⟨F.clean, h.me, F.hp h.blk (by rw [h.tag]; intro e; exact absurd (show (1 : Nat) = 9 from congrArg Prod.snd e) (by decide)), (F.own pb (kit.blk h.blk).2.2).trans h.tag,
    ⟨fun _ => hP.acc (by decide), fun _ => hP.ent (by decide), fun _ => hP.opn (by decide), fun _ => hP.tdo (by decide), fun _ => hP.nts (by decide), fun _ => hP.lts (by decide), fun _ => hP.chs (by decide), fun j hj _ => hP.prm j hj (by omega), fun j hj _ => hP.box j hj (by omega), hP.img, hP.rim⟩⟩
theorem sf_nine {i f : Nat} (hf : f ≠ 9) : ¬ Sf i f (i, 9) := by
  rintro (e | e)
  · exact absurd (show (9 : Nat) = 1 from congrArg Prod.snd e) (by decide)
  · exact hf (congrArg Prod.snd e).symm
theorem nine_mine {i : Nat} : ∀ t, t = (i, 9) → Mine i t := by rintro t rfl; exact ⟨rfl, (by decide : (9 : Nat) < 20)⟩
/-- A new block of a member's own that no part names. -/
theorem PeerAt.nine {w : World} {O : Owners} {i pb : Nat} {M : PM} (h : PeerAt w O i pb M) (o : Obj) : PeerAt (w.alloc o).drew (O.put w.heap.size (i, 9)) i pb M ∧ Fr (fun _ => False) w O (w.alloc o).drew (O.put w.heap.size (i, 9)) := by
  have F : Fr (fun _ => False) w O (w.alloc o).drew (O.put w.heap.size (i, 9)) := (Fr.drew (Fr.of_below h.clean (below_new1 w o))).claim (i, 9) (Nat.le_refl _) (by show w.heap.size < (w.alloc o).heap.size; rw [size_new]; omega)
  exact ⟨h.fr (fun _ hf => hf) (fun hf => hf) F, F⟩
end Go.Proofs.YtcaakiaenfkeaaaGreat.pet
/-
  A member looks at blocks of cells alone (and its acceptor's map, and its boxes): owners may be told anew for all others.
-/
namespace Go.Proofs.YtcaakiaenfkeaaaGreat.pev
open Go.ChangeShapes Go.WideShapes Go.ChangeAt Go.RowKit
open Go.Proofs.YtcaakiaenfkeaaaGreat.kit Go.Proofs.YtcaakiaenfkeaaaGreat.mapkit Go.Proofs.YtcaakiaenfkeaaaGreat.byt Go.Proofs.YtcaakiaenfkeaaaGreat.own Go.Proofs.YtcaakiaenfkeaaaGreat.accd Go.Proofs.YtcaakiaenfkeaaaGreat.accb Go.Proofs.YtcaakiaenfkeaaaGreat.acce Go.Proofs.YtcaakiaenfkeaaaGreat.chd Go.Proofs.YtcaakiaenfkeaaaGreat.che Go.Proofs.YtcaakiaenfkeaaaGreat.ownr Go.Proofs.YtcaakiaenfkeaaaGreat.pep Go.Proofs.YtcaakiaenfkeaaaGreat.peb Go.Proofs.YtcaakiaenfkeaaaGreat.pem Go.Proofs.YtcaakiaenfkeaaaGreat.pen Go.Proofs.YtcaakiaenfkeaaaGreat.pes Go.Proofs.YtcaakiaenfkeaaaGreat.pet
set_option linter.unusedVariables false
set_option linter.unusedSimpArgs false
set_option maxHeartbeats 4000000
set_option maxRecDepth 100000

/-- Blocks of cells lie as they did, and are whose they were; what all may read stays so. -/
structure Mv (w : World) (O : Owners) (w' : World) (O' : Owners) : Prop where
  size : w.heap.size ≤ w'.heap.size
  cells : ∀ k o, w.heap[k]? = some o → o.isCells = true → w'.heap[k]? = some o ∧ O' k = O k
  ro : ∀ k, O k = ro → O' k = ro
theorem Mv.hp {w w' : World} {O O' : Owners} (h : Mv w O w' O') {k : Nat} {cs : Array Value} {T : TypeId} {fz : Nat × Nat} (hk : w.heap[k]? = some (.cells cs T fz)) : w'.heap[k]? = some (.cells cs T fz) ∧ O' k = O k := h.cells k _ hk rfl
theorem Mv.kept {w w' : World} {O O' : Owners} (h : Mv w O w' O') : Kept Still w w' := fun g cs T _ hg => (h.hp hg).1
theorem Mv.rob {w w' : World} {O O' : Owners} (h : Mv w O w' O') {s : Sl Nat} (hs : RoB w s) : RoB w' s := hs.kept h.size h.kept
theorem Mv.row {w w' : World} {O O' : Owners} (h : Mv w O w' O') {t : Tag} {T : TypeId} {size c n : Nat} {a : Option Addr} {xs : List Value} (hr : Row w O t T size a c n xs) : Row w' O' t T size a c n xs :=
  ⟨own_kept hr.row (fun g hg => by obtain ⟨cur, hcur⟩ := own_heap hr.row g hg; rw [hcur]; exact (h.hp hcur).1), fun g hg => by obtain ⟨cur, hcur⟩ := own_heap hr.row g hg; rw [(h.hp hcur).2]; exact hr.tag g hg⟩
theorem cell_cells {w : World} {p : Addr} {v : Value} (h : w.cell? p = some v) : ∃ o, w.heap[p.block]? = some o ∧ o.isCells = true := by
  unfold World.cell? at h
  cases ho : w.heap[p.block]? with
  | none => simp [ho] at h
  | some o =>
    rw [ho] at h
    cases o <;> first | exact ⟨_, rfl, rfl⟩ | (simp at h)
theorem Mv.cell {w w' : World} {O O' : Owners} (h : Mv w O w' O') {p : Addr} {v : Value} (hc : w.cell? p = some v) : w'.cell? p = some v := by
  obtain ⟨o, ho, hi⟩ := cell_cells hc
  rw [← hc]
  exact World.cell?_of_block (by rw [ho]; exact (h.cells _ o ho hi).1)
theorem Mv.rows {w w' : World} {O O' : Owners} (h : Mv w O w' O') {a : Option Addr} {size : Nat} {L : List (List Value)} (hr : RowsAt w a size L) (hL : ∀ x ∈ L, x.length = size) : RowsAt w' a size L := by
  rcases hr with hr | ⟨b, off, h1, h2, h3⟩
  · exact .inl hr
  · refine .inr ⟨b, off, h1, by have := h.size; omega, fun i hi j hj => ?_⟩
    have := h3 i hi j hj
    have hj2 : j < (L[i]).length := by rw [hL _ (List.getElem_mem hi)]; exact hj
    rw [List.getElem?_eq_getElem hj2] at this ⊢
    exact h.cell this
theorem Mv.rorow {w w' : World} {O O' : Owners} (h : Mv w O w' O') {a : Option Addr} {c size : Nat} {L : List (List Value)} (hr : RoRow w O a c size L) (hL : ∀ x ∈ L, x.length = size) : RoRow w' O' a c size L :=
  ⟨hr.nil, h.rows hr.row hL, fun g off hg => ⟨h.ro g (hr.tag g off hg).1, Nat.lt_of_lt_of_le (hr.tag g off hg).2 h.size⟩⟩
theorem Mv.en {w w' : World} {O O' : Owners} (h : Mv w O w' O') {t : Tag} {s : Sl Et} (hs : RowEn w O t s) : RowEn w' O' t s := ⟨h.row hs.row, fun e he => h.rob (hs.body e he)⟩
theorem Mv.vn {w w' : World} {O O' : Owners} (h : Mv w O w' O') {t : Tag} {s : Sl Vt} (hs : RowVn w O t s) : RowVn w' O' t s := ⟨h.row hs.row, fun e he => h.rob (hs.body e he)⟩
theorem Mv.td {w w' : World} {O O' : Owners} (h : Mv w O w' O') {t : Tag} {s : Sl Et} (hs : TodoAt w O t s) : TodoAt w' O' t s := by
  obtain ⟨b, off, hc, ht⟩ := hs.came
  refine ⟨⟨b, off, came_same hc h.size (fun hz => by obtain ⟨_, cs, hcs⟩ := ht b off (hc.addr hz); rw [hcs]; exact (h.hp hcs).1), fun g o hg => ?_⟩, fun e he => h.rob (hs.body e he)⟩
  obtain ⟨h1, cs, hcs⟩ := ht g o hg
  exact ⟨(h.hp hcs).2.trans h1, cs, (h.hp hcs).1⟩
theorem Mv.log {w w' : World} {O O' : Owners} (h : Mv w O w' O') {t : Tag} {b : Nat} {L : LogM} (hl : LogOk w O t b L) : LogOk w' O' t b L := by
  obtain ⟨hl, ht, hr, hf, hv⟩ := hl
  obtain ⟨h0, a, c, h1, h2⟩ := hl
  have hc2 := (blk3 h1).2.2.1
  refine ⟨⟨h0, a, c, (h.hp h1).1, own_kept h2 (fun g hg => by obtain ⟨cur, hcur⟩ := own_heap h2 g hg; rw [hcur]; exact (h.hp hcur).1)⟩, (h.hp h1).2.trans ht, fun g o n c' hc => ?_, hf, fun x hx hb2 => ⟨h.rob (hv x hx hb2).1, (hv x hx hb2).2.kept h.size h.kept⟩⟩
  rw [(blk3 (h.hp h1).1).2.2.1] at hc
  simp only [Option.some.injEq, Value.slice.injEq] at hc
  obtain ⟨rfl, _⟩ := hc
  obtain rfl := logq.own_at h2 g o rfl
  obtain ⟨cur, hcur⟩ := own_heap h2 g rfl
  exact (h.hp hcur).2.trans (hr g 0 _ _ hc2)
theorem PeerAt.mv {w w' : World} {O O' : Owners} {i pb : Nat} {M : PM} (h : PeerAt w O i pb M) (m : Mv w O w' O') (hcl : ownr.Clean w' O') (hm : w'.heap[M.mb]? = w.heap[M.mb]? ∧ O' M.mb = O M.mb) (hbox : ∀ j, j < 6 → ∀ x, (M.pc j).2 = some x → BoxOk w' O' (i, 20 + j) x) : PeerAt w' O' i pb M := by
  obtain ⟨⟨vs, ha, e⟩, t1, t2⟩ := h.parts.acc (fun x => x)
  have hb := m.hp ha.blk
  obtain ⟨es, cl, hmap⟩ := ha.map.obj
  refine ⟨hcl, h.me, (m.hp h.blk).1, (m.hp h.blk).2.trans h.tag, ⟨fun _ => ⟨⟨vs, ⟨hb.1, ha.map.to hm.1, ha.lo, ha.ord, ha.one, ha.rng, ha.fit, fun v hv => own_to (ha.bodies v hv) m.kept (.inl rfl)⟩, e⟩, hb.2.trans t1, hm.2.trans t2⟩,
    fun _ => m.en (h.parts.ent (fun x => x)), fun _ x hx => m.log (h.parts.opn (fun x => x) x hx), fun _ => m.td (h.parts.tdo (fun x => x)),
    fun _ => ⟨m.row (h.parts.nts (fun x => x)).1, fun n hn => ⟨m.rob ((h.parts.nts (fun x => x)).2 n hn).v, m.rob ((h.parts.nts (fun x => x)).2 n hn).e⟩⟩,
    fun _ => ⟨m.row (h.parts.lts (fun x => x)).1, fun x hx => ?_⟩, fun _ => m.en (h.parts.chs (fun x => x)), fun j hj _ => m.vn (h.parts.prm j hj (fun x => x)), fun j hj _ x hx => hbox j hj x hx, m.rob h.parts.img, m.rob h.parts.rim⟩⟩
  have hL := (h.parts.lts (fun x => x)).2 x hx
  exact ⟨m.rorow hL.vs (by intro x hx; obtain ⟨v, -, rfl⟩ := List.mem_map.1 hx; rfl), fun v hv => m.rob (hL.vb v hv), m.rorow hL.es (by intro x hx; obtain ⟨v, -, rfl⟩ := List.mem_map.1 hx; rfl), fun v hv => m.rob (hL.eb v hv), m.rob hL.db⟩

/-- WHAT A LOOP OVER A FUNCTION KEEPS OF A MEMBER: what is no cells and was made since it began is nobody's. -/
def Lp (w : World) (O : Owners) (i pb : Nat) (M0 : PM) (W : World) (M : PM) : Prop :=
  ∃ O', PeerAt W O' i pb M ∧ Fr (Mine i) w O W O' ∧ (∀ k o, w.heap.size ≤ k → W.heap[k]? = some o → o.isCells = false → O' k = ro) ∧ M.mb = M0.mb ∧ M.pc = M0.pc
theorem box_mine {w W : World} {O O' : Owners} {i pb : Nat} {M0 M : PM} (h : PeerAt w O i pb M0) (F : Fr (Mine i) w O W O') (e : M.pc = M0.pc) : ∀ j, j < 6 → ∀ x, (M.pc j).2 = some x → BoxOk W O' (i, 20 + j) x := by
  intro j hj x hx
  rw [e] at hx
  exact (h.parts.box j hj (fun x => x) x hx).fr (fun hh => by have := hh.2; dsimp only at this; omega) F
theorem mb_lt {w : World} {O : Owners} {i pb : Nat} {M : PM} (h : PeerAt w O i pb M) : M.mb < w.heap.size := by
  obtain ⟨⟨vs, ha, e⟩, t1, t2⟩ := h.parts.acc (fun x => x)
  obtain ⟨es, cl, hmap⟩ := ha.map.obj
  exact (Array.getElem?_eq_some_iff.1 hmap).1
theorem lp_start {w : World} {O : Owners} {i pb : Nat} {M : PM} (h : PeerAt w O i pb M) : Lp w O i pb M w M :=
  ⟨O, h, Fr.refl _ h.clean, fun k o hk _ _ => h.clean k hk, rfl, rfl⟩
theorem lp_own {α : Type} {w : World} {O : Owners} {i pb : Nat} {M0 : PM} (h : PeerAt w O i pb M0) (p : α → PM → Prop) : OwnFrom w.heap.size (fun (s : α) W => ∃ M, Lp w O i pb M0 W M ∧ p s M) := by
  rintro s A A' row ⟨M, ⟨O', hP, F, hn, e1, e2⟩, hp⟩ hg hr
  have hrow : ∀ k o, A.heap[k]? = some o → (o.isCells = true ∨ k < w.heap.size) → A'.heap[k]? = A.heap[k]? := by
    intro k o hk ho
    refine hg.block k (Array.getElem?_eq_some_iff.1 hk).1 (fun e => ?_)
    obtain ⟨hB, o', ho', hc⟩ := hr k e.symm
    rw [hk] at ho'
    obtain rfl := Option.some.inj ho'
    rcases ho with ho | ho
    · rw [ho] at hc; simp at hc
    · omega
  have F2 : Fr (Mine i) w O A' O' := by
    refine ⟨hg.os.trans F.os, hg.tape.trans F.tape, hg.output.trans F.output, Nat.le_trans F.size hg.size, F.own, fun k hk hs => ?_, fun g cs T hT hh => ?_, F.clean.more hg.size⟩
    · obtain ⟨o, ho⟩ : ∃ o, A.heap[k]? = some o := ⟨_, Array.getElem?_eq_getElem (Nat.lt_of_lt_of_le hk F.size)⟩
      exact (hrow k o ho (.inr hk)).trans (F.same k hk hs)
    · have := F.byt g cs T hT hh
      exact (hrow g _ this (.inl rfl)).trans this
  have hmb := mb_lt h
  have m : Mv A O' A' O' := ⟨hg.size, fun k o hk hc => ⟨(hrow k o hk (.inl hc)).trans hk, rfl⟩, fun _ e => e⟩
  refine ⟨M, ⟨O', PeerAt.mv hP m F2.clean ⟨?_, rfl⟩ (box_mine h F2 e2), F2, fun k o hk hh hc => ?_, e1, e2⟩, hp⟩
  · obtain ⟨o, ho⟩ : ∃ o, A.heap[M.mb]? = some o := ⟨_, Array.getElem?_eq_getElem (mb_lt hP)⟩
    exact hrow M.mb o ho (.inr (by rw [e1]; exact hmb))
  · by_cases hz : k < A.heap.size
    · by_cases hk2 : row = some k
      · obtain ⟨hB, o', ho', hc'⟩ := hr k hk2
        exact hn k o' hB ho' hc'
      · have := hg.block k hz (fun e => hk2 e.symm)
        rw [this] at hh
        exact hn k o hk hh hc
    · exact hP.clean k (Nat.le_of_not_lt hz)
/-- A round of such a loop. -/
theorem lp_round {w W W' : World} {O O1 : Owners} {i pb : Nat} {M0 M M' : PM} (h : PeerAt w O i pb M0) (F : Fr (Mine i) w O W O1) (hn : ∀ k o, w.heap.size ≤ k → W.heap[k]? = some o → o.isCells = false → O1 k = ro)
    (hb : Behind W O1 i pb (Mine i) W' M') (e1 : M'.mb = M0.mb) (e2 : M'.pc = M0.pc) : Lp w O i pb M0 W' M' ∧ KeepsFrom w.heap.size W W' ∧ ∀ lo, (∀ k, lo ≤ k → O k = ro) → logq.Between lo w.heap.size W W' := by
  classical
  obtain ⟨O2, P2, F2⟩ := hb
  have hr : ¬ Mine i ro := fun hh => h.me hh.1.symm
  obtain ⟨O3, hO3⟩ : ∃ O3 : Owners, O3 = fun k => if w.heap.size ≤ k ∧ ∃ o, W'.heap[k]? = some o ∧ o.isCells = false then ro else O2 k := ⟨_, rfl⟩
  have hlo : ∀ k, k < w.heap.size → O3 k = O2 k := fun k hk => by rw [hO3]; exact if_neg (fun hh => by omega)
  have hce : ∀ k o, W'.heap[k]? = some o → o.isCells = true → O3 k = O2 k := fun k o ho hc => by
    rw [hO3]; refine if_neg ?_
    rintro ⟨-, o', ho', hc'⟩
    rw [ho] at ho'
    obtain rfl := Option.some.inj ho'
    rw [hc] at hc'; simp at hc'
  have hno : ∀ k o, w.heap.size ≤ k → W'.heap[k]? = some o → o.isCells = false → O3 k = ro := fun k o hk ho hc => by rw [hO3]; exact if_pos ⟨hk, o, ho, hc⟩
  have hro : ∀ k, O2 k = ro → O3 k = ro := fun k hk => by
    rw [hO3]; dsimp only; split
    · rfl
    · exact hk
  have F12 := F.trans F2
  have F3 : Fr (Mine i) w O W' O3 := ⟨F12.os, F12.tape, F12.output, F12.size, fun k hk => (hlo k hk).trans (F12.own k hk), F12.same, F12.byt, fun k hk => hro k (F12.clean k hk)⟩
  have hmb := mb_lt h
  refine ⟨⟨O3, PeerAt.mv P2 ⟨Nat.le_refl _, fun k o ho hc => ⟨ho, hce k o ho hc⟩, hro⟩ F3.clean ⟨rfl, hlo _ (by rw [e1]; exact hmb)⟩ (box_mine h F3 e2), F3, hno, e1, e2⟩, ⟨F2.size, fun k o hk ho hc => ?_⟩, fun lo hl => ⟨F2.size, fun k h1 h2 => ?_⟩⟩
  · have hz := (Array.getElem?_eq_some_iff.1 ho).1
    exact (F2.same k hz (by rw [hn k o hk ho hc]; exact hr)).trans ho
  · have hz : k < W.heap.size := Nat.lt_of_lt_of_le h2 F.size
    exact F2.same k hz (by rw [F.own k h2, hl k h1]; exact hr)
end Go.Proofs.YtcaakiaenfkeaaaGreat.pev
/-
  Lemmas about no program: a drawn region walked by hand, where a guard is false (the region's operations as a list).
-/
namespace Go.Proofs.YtcaakiaenfkeaaaGreat.kit6
set_option linter.unusedVariables false
set_option maxHeartbeats 400000
section
variable {P : Program} {md : Region.Mode} {l : List Oper} {Q : Exit → Act → World → Prop} {S : World → Prop}
theorem take_y {i : Nat} {oi : Oper} {v : Value} {fuel : Nat} {listed : Array Bool} {a : Act} {w : World} (hi : l[i]? = some oi)
    (hs : Region.noSelect l.toArray = true) (hf : Region.free md l.toArray listed i = true) (hr : (Region.ready md l.toArray listed).contains i = true)
    (hQ : ∀ c a w, Q (.panic c) (a.put oi.dst v) w → Q (.panic c) a w) (hw : Region.wanted oi (yielded l.toArray a.tmps) = true) (hS : S w)
    (hy : ∀ w, S w → (execOp a.eval oi).run P w = .ok (.value v) w)
    (h : wpAnyH P md l.toArray Q S fuel (listed.setIfInBounds i true) (a.put oi.dst v) w) : wpAnyH P md l.toArray Q S (fuel + 1) listed a w :=
  wpAnyH_take (by simpa using hi) hs hf hr hQ (.inl ⟨hw, hy⟩) hS h
theorem take_n {i : Nat} {oi : Oper} {fuel : Nat} {listed : Array Bool} {a : Act} {w : World} (hi : l[i]? = some oi)
    (hs : Region.noSelect l.toArray = true) (hf : Region.free md l.toArray listed i = true) (hr : (Region.ready md l.toArray listed).contains i = true)
    (hQ : ∀ c a w, Q (.panic c) (a.put oi.dst undef) w → Q (.panic c) a w) (hw : Region.wanted oi (yielded l.toArray a.tmps) = false) (hS : S w)
    (h : wpAnyH P md l.toArray Q S fuel (listed.setIfInBounds i true) (a.put oi.dst undef) w) : wpAnyH P md l.toArray Q S (fuel + 1) listed a w :=
  wpAnyH_take (by simpa using hi) hs hf hr hQ (.inr ⟨hw, rfl⟩) hS h
theorem take_c {i : Nat} {oi : Oper} {fuel : Nat} {listed : Array Bool} {a : Act} {w : World} (hi : l[i]? = some oi)
    (hr : Region.ready md l.toArray listed = [i]) (hw : Region.wanted oi (yielded l.toArray a.tmps) = true)
    (h : ∀ K' : Act → World → Prop, Shut (∀ a w, S w → (S w → wpAnyH P md l.toArray Q S fuel (listed.setIfInBounds i true) a w) → K' a w) → Oper.wp P oi a w K' Q) : wpAnyH P md l.toArray Q S (fuel + 1) listed a w := by
  refine wpAnyH_ready (rs := [i]) hr (by simp) (AllReadyH.cons (o := oi) (by simpa using hi) (fun K hK => ?_) AllReadyH.nil)
  rw [if_pos hw]
  exact h K hK
theorem cons_l {i : Nat} {rs : List Nat} {oi : Oper} {fuel : Nat} {listed : Array Bool} {a : Act} {w : World} (hi : l[i]? = some oi) (hw : Region.wanted oi (yielded l.toArray a.tmps) = true)
    (h : ∀ K' : Act → World → Prop, Shut (∀ a w, S w → (S w → wpAnyH P md l.toArray Q S fuel (listed.setIfInBounds i true) a w) → K' a w) → Oper.wp P oi a w K' Q)
    (hs : AllReadyH P md l.toArray Q S fuel listed a w rs) : AllReadyH P md l.toArray Q S fuel listed a w (i :: rs) := by
  refine AllReadyH.cons (o := oi) (by simpa using hi) (fun K hK => ?_) hs
  rw [if_pos hw]
  exact h K hK
end
end Go.Proofs.YtcaakiaenfkeaaaGreat.kit6
