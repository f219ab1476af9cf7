/-
  A group of one as data: what Draw and Propose do (no memory).
-/
import Derived.Test.YtcaakiaenfkeaaaGreatDoorN15
import Derived.Test.YtcaakiaenfkeaaaGreatDoorN23
import Derived.Test.YtcaakiaenfkeaaaGreatDoorN21
import Derived.Test.YtcaakiaenfkeaaaGreatDoorN02
import Derived.Test.YtcaakiaenfkeaaaGreatDoorN01
import Derived.Test.YtcaakiaenfkeaaaGreatDoorChecked
import Derived.Test.YtcaakiaenfkeaaaGreatDoorRows
import Derived.Test.YtcaakiaenfkeaaaGreatDoorCards
import Derived.Test.YtcaakiaenfkeaaaGreatDoorTie
import Derived.Test.YtcaakiaenfkeaaaGreatDoorN08
import Derived.Deep.DeepHandedRow
import Derived.Lib.LaidTab
namespace Go.Proofs.YtcaakiaenfkeaaaGreatDoor.pep
open Go.Proofs.YtcaakiaenfkeaaaGreatDoor.accd Go.Proofs.YtcaakiaenfkeaaaGreatDoor.accb Go.Proofs.YtcaakiaenfkeaaaGreatDoor.acce Go.Proofs.YtcaakiaenfkeaaaGreatDoor.acch Go.Proofs.YtcaakiaenfkeaaaGreatDoor.chp Go.Proofs.YtcaakiaenfkeaaaGreatDoor.chq
open Go.Proofs.YtcaakiaenfkeaaaGreatDoor.byt (Byt)
open Go.Proofs.YtcaakiaenfkeaaaGreatDoor.bal (enoughB)
set_option linter.unusedVariables false
set_option linter.unusedSimpArgs false
set_option maxHeartbeats 1000000

theorem enough_one : enoughB 1 [1] = true := by decide
/-- A group of one: the member. -/
structure One (P : PD) : Prop where
  nd : P.node = 1
  ns : P.nodes = 1
  ix : P.index = 0
  fst : P.A.first = P.commit + 1
  vs : P.A.vs = []
theorem upTo_one : upTo 1 = [1] := by decide
theorem others_one {P : PD} (h : One P) (l : Lt) : P.others l = P := by
  unfold PD.others
  rw [h.ns, show (1 : Int).toNat = 1 from rfl, upTo_one]
  show (if (1 : Int) = P.node then P else P.tell 1 l) = P
  rw [if_pos h.nd.symm]
theorem offers_one {P : PD} (h : P.node = 1 ∧ P.nodes = 1) (s : Int) (d : List Nat) : P.offers s d = P := by
  unfold PD.offers
  rw [h.2, show (1 : Int).toNat = 1 from rfl, upTo_one]
  show (if (1 : Int) = P.node then P else P.offer 1 s d) = P
  rw [if_pos h.1.symm]
/-- The leader of a group of one, nothing under way. -/
structure Lone (P : PD) : Prop where
  one : One P
  lead : P.leads = true
  opn : P.opn = some ⟨P.commit + 1, []⟩
  todo : P.todo = []
  next : P.next = P.commit + 1
  own : P.own = (P.A.r, P.A.n)
  real : acca.realB P.A.r P.A.n = true
/-- Behind a value. -/
def PD.sent (P : PD) (d : List Nat) : PD :=
  { P with A := ⟨P.A.r, P.A.n, P.commit + 2, []⟩, opn := some ⟨P.commit + 2, []⟩, next := P.commit + 2, entries := P.entries ++ [(P.commit + 1, d)], chosen := P.chosen ++ [(P.commit + 1, d)], notes := P.notes ++ [.vote ⟨P.commit + 1, P.A.r, P.A.n, d⟩, .entry (P.commit + 1) d] }
theorem accE_one {r n s : Int} {d : List Nat} (hr : acca.realB r n = true) (hd : d.length ≤ 2048) : accE r n s ⟨s, r, n, d⟩ = 0 := by
  unfold accE
  rw [if_neg (by simp only [hr]; simp; omega), if_neg (by simp [acca.lessB]), if_neg (by dsimp only; omega), if_neg (by dsimp only [farI]; omega)]
theorem send_one {P : PD} (h : Lone P) {d : List Nat} (h1 : 1 ≤ d.length) (h2 : d.length ≤ 2048) (hc : 0 ≤ P.commit) (hc2 : P.commit ≤ 1000000000) : P.proposeE d = 0 ∧ P.proposeS d = P.sent d := by
  have hE : P.proposeE d = 0 := by
    unfold PD.proposeE
    rw [if_neg (by omega), if_neg (by rw [h.lead]; simp), if_neg (by rw [h.next]; omega)]
  refine ⟨hE, ?_⟩
  obtain ⟨c, hcc⟩ : ∃ c, c = P.commit := ⟨_, rfl⟩
  obtain ⟨Q, hQ⟩ : ∃ Q : PD, Q = { P with todo := P.todo ++ [(P.next, d)], next := P.next + 1 } := ⟨_, rfl⟩
  have hS : P.proposeS d = PD.propose Q.fuel Q := by unfold PD.proposeS; rw [if_neg (by rw [hE]; simp), hQ]
  have hQt : Q.todo = [(c + 1, d)] := by rw [hQ, hcc]; show P.todo ++ [(P.next, d)] = _; rw [h.todo, h.next]; rfl
  have hQc : Q.commit = c := by rw [hQ, hcc]; rfl
  have hQo : Q.opn = some ⟨c + 1, []⟩ := by rw [hQ, hcc]; exact h.opn
  have hQl : Q.leads = true := by rw [hQ]; exact h.lead
  have hQw : Q.own = (P.A.r, P.A.n) := by rw [hQ]; exact h.own
  have hQA : Q.A = P.A := by rw [hQ]
  have hf : Q.fuel = 5 + 1 := by unfold PD.fuel; rw [hQt, hQo]; rfl
  have hA : P.A = ⟨P.A.r, P.A.n, c + 1, []⟩ := by
    have h3 := h.one.fst; have h4 := h.one.vs
    rw [← hcc] at h3
    cases hx : P.A with
    | mk a b e f => rw [hx] at h3 h4; dsimp only at h3 h4; rw [h3, h4]
  have hacc : accE Q.A.r Q.A.n Q.A.first ⟨c + 1, Q.own.1, Q.own.2, d⟩ = 0 := by
    rw [hQA, hQw]
    have : P.A.first = c + 1 := by rw [hcc]; exact h.one.fst
    rw [this]
    exact accE_one h.real h2
  have hp := prop1_go hQt (by rw [hQc]; omega) hacc hQo (by unfold Ol.putE; rw [if_neg (by dsimp only; omega), if_neg (by dsimp only; omega)])
  have hnd : ∀ R : PD, R.node = Q.node → R.nodes = Q.nodes → R.offers (c + 1) d = R := fun R e1 e2 => offers_one ⟨by rw [e1, hQ]; exact h.one.nd, by rw [e2, hQ]; exact h.one.ns⟩ _ _
  obtain ⟨v, hv⟩ : ∃ v : V4, v = ⟨c + 1, P.A.r, P.A.n, d⟩ := ⟨_, rfl⟩
  have hput : (⟨c + 1, []⟩ : Ol).put (c + 1) (d, [Q.node]) = ⟨c + 1, [some (d, [1])]⟩ := by
    unfold Ol.put Ol.putE
    rw [if_pos (by rw [if_neg (by dsimp only; omega), if_neg (by dsimp only; omega)])]
    have e0 : (c + 1 - (c + 1)).toNat = 0 := by omega
    rw [e0, show Q.node = 1 by rw [hQ]; exact h.one.nd]
    rfl
  have hacs : accS P.A v = ⟨P.A.r, P.A.n, c + 1, [v]⟩ := by
    unfold accS
    have : P.A.first = c + 1 := by rw [hcc]; exact h.one.fst
    rw [this, if_pos (by rw [hv]; exact accE_one h.real h2), h.one.vs, hv]
    rfl
  obtain ⟨R, hR⟩ : ∃ R : PD, R = ({ Q with A := ⟨P.A.r, P.A.n, c + 1, [v]⟩, opn := some ⟨c + 1, [some (d, [1])]⟩, todo := [] } : PD).note (.vote v) := ⟨_, rfl⟩
  have hp2 : Q.prop2 ⟨c + 1, []⟩ (c + 1) d [] = R := by
    unfold PD.prop2
    rw [hnd]
    rotate_left
    · rfl
    · rfl
    rw [hR, hput, hQw, hQA]
    dsimp only
    rw [← hv, hacs]
  have hpr : PD.props Q.todo.length Q = R := by
    rw [hQt]
    show (match Q.prop1 with | none => Q | some P' => PD.props 0 P') = R
    rw [hp, hp2]; rfl
  have hRl : R.leads = true := by rw [hR]; exact hQl
  have hRc : R.commit = c := by rw [hR]; exact hQc
  have hRo : R.opn = some ⟨c + 1, [some (d, [1])]⟩ := by rw [hR]; rfl
  have hw : R.wins = [(c + 1, (d, [1]))] := by
    unfold PD.wins
    rw [hRo]
    have hn1 : R.nodes = 1 := by rw [hR, hQ]; exact h.one.ns
    show (runOf (c + 1) [some (d, [1])]).takeWhile (fun x => enoughB R.nodes x.2.2) = _
    rw [hn1]
    show ([((c + 1 : Int), ((d, [1]) : List Nat × List Int))]).takeWhile (fun x => enoughB 1 x.2.2) = _
    rw [List.takeWhile_cons, if_pos enough_one]
    rfl
  have hch := chose_lead hRl (c + 1) d
  rw [hRc] at hch
  have hadv : PD.advance 5 R = R.chose (c + 1) d := by
    rw [adv_lead 4 hRl, hw]
    show (if R.commit < (R.chose (c + 1) d).commit ∧ 0 < (R.chose (c + 1) d).todo.length then _ else R.chose (c + 1) d) = _
    have ht0 : (R.chose (c + 1) d).todo = [] := by rw [hch, hR]; rfl
    rw [if_neg (by rw [ht0]; simp)]
  rw [hS, hf, pro_eq, hpr, hadv, hch]
  have hfg : forgetS R.A (c + 1 + 1) = ⟨P.A.r, P.A.n, c + 1 + 1, []⟩ := by
    have : R.A = ⟨P.A.r, P.A.n, c + 1, [v]⟩ := by rw [hR]; rfl
    rw [this]
    unfold forgetS
    rw [if_pos (show fgt (c + 1) (c + 1 + 1) from ⟨by omega, by omega⟩)]
    unfold from4
    rw [hv]
    simp
    omega
  have hcut : (⟨c + 1, [some (d, [1])]⟩ : Ol).cut (c + 1 + 1) = ⟨c + 1 + 1, []⟩ := by
    unfold Ol.cut farI
    rw [if_neg (by dsimp only; omega)]
    have e0 : (c + 1 + 1 - (c + 1)).toNat = 1 := by omega
    rw [e0]; rfl
  rw [hfg, hRo, Option.map_some, hcut, hR, hQ]
  unfold PD.sent PD.note
  rw [← hcc, hv]
  have e2 : c + 1 + 1 = c + 2 := by omega
  have e3 : P.next = c + 1 := by rw [hcc]; exact h.next
  simp only [e3, e2, h.todo, List.append_assoc, List.singleton_append, List.nil_append]
  rw [Int.max_def, if_pos (Int.le_refl _)]
end Go.Proofs.YtcaakiaenfkeaaaGreatDoor.pep
/-
  A group of one as data: what Draw leaves (no memory).
-/
namespace Go.Proofs.YtcaakiaenfkeaaaGreatDoor.pep
open Go.Proofs.YtcaakiaenfkeaaaGreatDoor.accd Go.Proofs.YtcaakiaenfkeaaaGreatDoor.accb Go.Proofs.YtcaakiaenfkeaaaGreatDoor.acce Go.Proofs.YtcaakiaenfkeaaaGreatDoor.acch Go.Proofs.YtcaakiaenfkeaaaGreatDoor.chp Go.Proofs.YtcaakiaenfkeaaaGreatDoor.chq
open Go.Proofs.YtcaakiaenfkeaaaGreatDoor.byt (Byt)
open Go.Proofs.YtcaakiaenfkeaaaGreatDoor.bal (enoughB)
set_option linter.unusedVariables false
set_option linter.unusedSimpArgs false
set_option maxHeartbeats 1000000

theorem others_one' {P : PD} (h : P.node = 1 ∧ P.nodes = 1) (l : Lt) : P.others l = P := by
  unfold PD.others
  rw [h.2, show (1 : Int).toNat = 1 from rfl, upTo_one]
  show (if (1 : Int) = P.node then P else P.tell 1 l) = P
  rw [if_pos h.1.symm]
theorem open_one {c : Int} (h0 : 0 ≤ c) (h1 : c ≤ 1000000000) : openE 1 (c + 1) [⟨1, []⟩] = 0 ∧ openL 1 (c + 1) [⟨1, []⟩] = [] := by
  have e : openE 1 (c + 1) [⟨1, []⟩] = 0 := by
    unfold openE
    have hr : Right 1 [⟨1, []⟩] := by decide
    have ht : topL 0 [⟨1, []⟩] = 0 := rfl
    rw [if_neg (fun h => h hr), if_neg (by omega), if_neg (by simp), if_neg (by rw [ht]; omega)]
  refine ⟨e, ?_⟩
  unfold openL
  rw [if_pos e]
  have hn : openN (c + 1) [⟨1, []⟩] = 0 := by
    unfold openN
    have ht : topL 0 [⟨1, []⟩] = 0 := rfl
    rw [ht]; omega
  rw [hn]; rfl
theorem who_one (fr : Int) : ((List.range 6).filter fun i : Nat => (⟨decide ((i : Int) = 1), fr, 0, []⟩ : Pm).done) = [1] := by
  show ((List.range 6).filter fun i : Nat => decide ((i : Int) = 1)) = [1]
  decide
/-- Behind a draw. -/
def PD.drawn (P : PD) : PD :=
  { P with A := ⟨P.nextBal.1, P.nextBal.2, P.commit + 1, []⟩, seen := P.nextBal, own := P.nextBal, leads := true, prom := fun i => ⟨decide ((i : Int) = 1), P.commit + 1, 0, []⟩, opn := some ⟨P.commit + 1, []⟩, todo := [], next := P.commit + 1, taken := 0, notes := P.notes ++ [.prom P.nextBal] }
theorem next_real {P : PD} (h : P.node = 1) : acca.realB P.nextBal.1 P.nextBal.2 = true := by
  unfold PD.nextBal acca.realB
  rw [h]
  simp
  omega
theorem next_less {P : PD} : acca.lessB P.nextBal.1 P.nextBal.2 P.A.r P.A.n = false := by
  have h1 : P.A.r ≤ (mostB P.promised P.seen).1 := by
    unfold mostB
    split
    · rename_i h
      unfold ltB bal.lessB at h
      simp at h
      show P.promised.1 ≤ _
      omega
    · exact Int.le_refl _
  have h2 : P.A.r < P.nextBal.1 := by unfold PD.nextBal; dsimp only; omega
  unfold acca.lessB
  simp
  omega
theorem draw_one {P : PD} (h : One P) (hc : 0 ≤ P.commit) (hc2 : P.commit ≤ 1000000000) : P.draw = P.drawn := by
  rw [draw_eq]
  have hnd : P.cand0.node = 1 := h.nd
  have hns : P.cand0.nodes = 1 := h.ns
  have hcc : P.cand0.commit = P.commit := rfl
  rw [others_one' ⟨hnd, hns⟩]
  have hA : P.cand0.A = ⟨P.nextBal.1, P.nextBal.2, P.commit + 1, []⟩ := by
    show prepS P.A P.nextBal.1 P.nextBal.2 = _
    unfold prepS prepE
    rw [if_pos (by rw [if_neg (by rw [next_real h.nd]; simp), if_neg (by rw [next_less]; simp)]), h.fst, h.vs]
  have hpr : P.cand0.prom = fun i => ⟨decide ((i : Int) = 1), P.commit + 1, 0, []⟩ := by
    show (fun i : Nat => (⟨decide ((i : Int) = P.node), P.commit + 1, 0, []⟩ : Pm)) = _
    rw [h.nd]
  have hw : P.cand0.who = [1] := by unfold PD.who; rw [hpr]; exact who_one _
  have hca : P.cand0.candidate = true := by
    unfold PD.candidate
    have e1 : P.cand0.own = P.nextBal := rfl
    have e2 : P.cand0.leads = false := rfl
    rw [e1, e2]
    have : (P.nextBal == zb) = false := by
      have : P.nextBal ≠ zb := by
        intro e
        have := congrArg Prod.snd e
        rw [show P.nextBal.2 = P.node from rfl, h.nd] at this
        exact absurd this (by decide)
      simpa using this
    rw [this]; rfl
  have hen : enoughB P.cand0.nodes (P.cand0.who.map fun i : Nat => (i : Int)) = true := by rw [hw, hns]; exact enough_one
  have hbe : P.cand0.behind = 0 := by
    unfold PD.behind
    rw [hpr, hcc]
    have : ((List.range 6).find? fun i : Nat => (⟨decide ((i : Int) = 1), P.commit + 1, 0, []⟩ : Pm).done && decide (P.commit < (⟨decide ((i : Int) = 1), P.commit + 1, 0, []⟩ : Pm).commit)) = none := by
      rw [List.find?_eq_none]
      intro x _
      have : decide (P.commit < 0) = false := by simp; omega
      simp [this]
    rw [this]; rfl
  have hpm : P.cand0.proms = [⟨1, []⟩] := by
    unfold PD.proms
    rw [hw, hA, hnd]
    rfl
  have ho := open_one hc hc2
  have h4 : openE P.cand0.nodes (P.cand0.commit + 1) P.cand0.proms = 0 := by rw [hns, hcc, hpm]; exact ho.1
  rw [elect_yes hca hen hbe h4]
  obtain ⟨Q, hQ⟩ : ∃ Q : PD, Q = P.cand0.lead := ⟨_, rfl⟩
  have hQt : Q.todo = [] := by rw [hQ]; show openL P.cand0.nodes (P.cand0.commit + 1) P.cand0.proms = []; rw [hns, hcc, hpm]; exact ho.2
  have hQl : Q.leads = true := by rw [hQ]; rfl
  have hQo : Q.opn = some ⟨P.commit + 1, []⟩ := by
    rw [hQ]; show some (⟨min (max (P.commit + 1) 1) farI, []⟩ : Ol) = _
    have : min (max (P.commit + 1) 1) farI = P.commit + 1 := by unfold farI; omega
    rw [this]
  have hQw : Q.wins = [] := by unfold PD.wins; rw [hQo]; rfl
  have hf : Q.fuel = 2 + 1 + 1 := by unfold PD.fuel; rw [hQt, hQo]; rfl
  rw [← hQ, hf, pro_eq, hQt]
  show PD.advance 3 Q = _
  rw [show (3 : Nat) = 2 + 1 from rfl, adv_lead 2 hQl, hQw]
  have hq0 : Q.choseAll [] = Q := rfl
  rw [hq0, if_neg (by omega), hQ]
  have ht : P.cand0.lead.todo = [] := by rw [← hQ]; exact hQt
  have ho2 : P.cand0.lead.opn = some ⟨P.commit + 1, []⟩ := by rw [← hQ]; exact hQo
  have hn : P.cand0.lead.next = P.commit + 1 := by
    show P.commit + 1 + ((openL P.cand0.nodes (P.cand0.commit + 1) P.cand0.proms).length : Int) = _
    rw [hns, hcc, hpm, ho.2]
    simp
  show ({ P.cand0 with leads := true, taken := 0, opn := P.cand0.lead.opn, todo := P.cand0.lead.todo, next := P.cand0.lead.next } : PD) = _
  rw [ht, ho2, hn]
  show ({ P.cand0 with A := P.cand0.A, prom := P.cand0.prom, leads := true, taken := 0, opn := _, todo := _, next := _ } : PD) = _
  rw [hA, hpr]
  rfl
theorem drawn_lone {P : PD} (h : One P) : Lone P.drawn :=
  ⟨⟨h.nd, h.ns, h.ix, rfl, rfl⟩, rfl, rfl, rfl, rfl, rfl, next_real h.nd⟩
theorem sent_lone {P : PD} (h : Lone P) (d : List Nat) : Lone (P.sent d) := by
  have hc : (P.sent d).commit = P.commit + 1 := by show P.index + ((P.entries ++ [_]).length : Int) = P.index + (P.entries.length : Int) + 1; rw [List.length_append, List.length_singleton]; omega
  refine ⟨⟨h.one.nd, h.one.ns, h.one.ix, ?_, rfl⟩, h.lead, ?_, h.todo, ?_, h.own, h.real⟩
  · rw [hc]; show P.commit + 2 = _; omega
  · rw [hc]; show some (⟨P.commit + 2, []⟩ : Ol) = _; congr 2; omega
  · rw [hc]; show P.commit + 2 = _; omega
end Go.Proofs.YtcaakiaenfkeaaaGreatDoor.pep
/-
  awake: a group of one draws and has something to note.
-/
namespace Go.Proofs.YtcaakiaenfkeaaaGreatDoor.peaw
open Go.ChangeShapes Go.WideShapes Go.ChangeAt Go.RowKit
open Go.Proofs.YtcaakiaenfkeaaaGreatDoor.kit Go.Proofs.YtcaakiaenfkeaaaGreatDoor.mapkit Go.Proofs.YtcaakiaenfkeaaaGreatDoor.byt Go.Proofs.YtcaakiaenfkeaaaGreatDoor.own Go.Proofs.YtcaakiaenfkeaaaGreatDoor.accd Go.Proofs.YtcaakiaenfkeaaaGreatDoor.accb Go.Proofs.YtcaakiaenfkeaaaGreatDoor.acce Go.Proofs.YtcaakiaenfkeaaaGreatDoor.chd Go.Proofs.YtcaakiaenfkeaaaGreatDoor.che Go.Proofs.YtcaakiaenfkeaaaGreatDoor.ownr Go.Proofs.YtcaakiaenfkeaaaGreatDoor.pep Go.Proofs.YtcaakiaenfkeaaaGreatDoor.peb Go.Proofs.YtcaakiaenfkeaaaGreatDoor.pem Go.Proofs.YtcaakiaenfkeaaaGreatDoor.pen Go.Proofs.YtcaakiaenfkeaaaGreatDoor.pes Go.Proofs.YtcaakiaenfkeaaaGreatDoor.peq Go.Proofs.YtcaakiaenfkeaaaGreatDoor.pedr Go.Proofs.YtcaakiaenfkeaaaGreatDoor.pelo Go.Proofs.YtcaakiaenfkeaaaGreatDoor.penw
set_option linter.unusedVariables false
set_option linter.unusedSimpArgs false
set_option maxHeartbeats 4000000
set_option maxRecDepth 100000

/-- Nothing saved. -/
def S0 : SvM := ⟨0, 0, sl0, 0, sl0, sl0⟩
theorem okS0 {node nodes : Int} (h : nodes = 1 ∨ nodes = 3 ∨ nodes = 5) (h2 : 1 ≤ node ∧ node ≤ nodes) : OkS node nodes S0 :=
  ⟨h, h2, .inl ⟨rfl, rfl⟩, ⟨by decide, by decide⟩, fun _ => rfl, by decide, by decide, fun k hk => absurd hk (by simp [S0, sl0]), ⟨⟨by decide, by decide, .inl ⟨rfl, rfl⟩⟩, fun k hk => absurd hk (by simp [S0, sl0])⟩⟩
theorem rdS0 (w : World) : RdS w S0 :=
  ⟨⟨⟨0, none, 0, rfl, World.ownsRow_nil _ _ _ _⟩, by simp [S0, sl0]⟩, by simp [S0, sl0], ⟨.inl rfl, by simp [S0, sl0], by decide⟩, by simp [S0, sl0], rob_nil w⟩
theorem one_new {S : SvM} (h0 : S.ix = 0) (hv : S.vs.l = []) : One (newD 1 1 S) := by
  refine ⟨rfl, rfl, h0, ?_, by show S.vs.l.map lv = []; rw [hv]; rfl⟩
  show S.ix + S.en.l.length + 1 = S.ix + ((S.en.l.map le).length : Int) + 1
  rw [List.length_map]
theorem may_new {S : SvM} (h0 : S.ix = 0) (hv : S.vs.l = []) (hl : S.en.l.length ≤ 100000) : MayDraw (newD 1 1 S) := by
  have he : (newD 1 1 S).entries.length = S.en.l.length := List.length_map _
  have hc : (newD 1 1 S).chosen.length = S.en.l.length := List.length_map _
  refine ⟨by show 0 ≤ S.ix; omega, (one_new h0 hv).fst, ⟨by show (0 : Int) ≤ 1; decide, by show (1 : Int) ≤ 5; decide⟩, fun v h => ?_, ?_, by rw [hc]; omega, by show 0 ≤ _; omega, by show 0 ≤ _; omega⟩
  · have h1 : v ∈ S.vs.l.map lv := h
    rw [hv] at h1; simp at h1
  · rw [he]; show S.ix + _ ≤ _; rw [h0]; omega
theorem fresh1 : Fresh (fun _ => ro) 1 := ⟨by decide, fun _ => Nat.zero_ne_one⟩
theorem awake_ok (w : World) : Calls Tryz.prog 9 #[] w fun e w' => e = .returned (.bool true) ∧ Below w.heap.size w w' := by
  have hcl : ownr.Clean w (fun _ => ro) := fun _ _ => rfl
  have HNW := Lib.hid (new_ok w (fun _ => ro) 1 1 1 S0 hcl fresh1 (rdS0 w) (okS0 (.inl rfl) (by decide)) rfl)
  simp only [SvM.val, S0, sl0, List.length_nil] at HNW
  go_enter Tryz.func9, Tryz.ntmps9
  go_wp2_with (go_at_call 21; refine HNW.out.mono ?_; rintro e w1 ⟨pb, M1, O1, rfl, hP1, hF1, hM1, -⟩; have HP1 := Lib.hid hP1; have HF1 := Lib.hid hF1; have HM1 := Lib.hid hM1; clear hP1 hF1 hM1)
  have hnode : M1.node = 1 := congrArg PD.node HM1.out
  have hA : M1.A = ⟨0, 0, 1, []⟩ := congrArg PD.A HM1.out
  have hs1 : M1.s1 = 0 := congrArg (fun P : PD => P.seen.1) HM1.out
  have HDR := Lib.hid (draw_ok w1 O1 1 pb M1 HP1.out (by unfold Rnd; rw [hA, hs1]; decide) (by rw [hnode]; decide) (by rw [HM1.out]; exact may_new rfl rfl (by decide)))
  refine HDR.out.mono ?_; rintro e w2 ⟨rfl, M2, hM2, O2, hP2, hF2⟩
  rw [HM1.out, draw_one (one_new rfl rfl) (by decide) (by decide)] at hM2
  have hnl : M2.nt.l.length = 1 := by
    have h : M2.nt.l.map NtM.dat = (newD 1 1 S0).drawn.notes := congrArg PD.notes hM2
    have h2 := congrArg List.length h
    rw [List.length_map] at h2
    exact h2
  have hrd := ready_ok w2 O2 1 pb M2 hP2
  unfold readyV at hrd
  rw [hnl] at hrd
  have HRD := Lib.hid hrd
  have HF2 := Lib.hid ((HF1.out.mono (fun _ h => h.elim)).trans hF2)
  clear hM2 hP2 hF2 hnl hrd hnode hA hs1 HDR HNW
  have hfd : ∀ (w : World) (a b c d e : Value), (Instr.field 67 (.agg #[a, b, c, d, e]) 0).run Tryz.prog w = .ok a w := fun _ _ _ _ _ _ => by kernel_rfl
  go_wp2_with fail
  refine HRD.out.mono ?_; rintro e w3 ⟨rfl, O3, hP3, hF3⟩
  have hF := fr_fresh fresh1 (HF2.out.trans hF3)
  have HB := Lib.hid (hF.below (Nat.le_refl _) (fun _ _ h => h))
  clear hP3 hF3 hF
  go_wp2_with fail
  go_ret
  exact ⟨rfl, HB.out⟩
end Go.Proofs.YtcaakiaenfkeaaaGreatDoor.peaw
/-
  A nil member: what its functions answer; and the document's Check of nothing saved.
-/
namespace Go.Proofs.YtcaakiaenfkeaaaGreatDoor.penl
open Go.ChangeShapes Go.WideShapes Go.ChangeAt Go.RowKit
open Go.Proofs.YtcaakiaenfkeaaaGreatDoor.kit Go.Proofs.YtcaakiaenfkeaaaGreatDoor.byt Go.Proofs.YtcaakiaenfkeaaaGreatDoor.own
set_option linter.unusedVariables false
set_option linter.unusedSimpArgs false
set_option maxHeartbeats 4000000
set_option maxRecDepth 100000

theorem step_nil (w : World) (c0 c1 c2 c3 c4 c5 c6 c7 c8 c9 c10 c11 c12 : Value) : Calls Tryz.prog 24 #[.pointer none, .agg #[c0, c1, c2, c3, c4, c5, c6, c7, c8, c9, c10, c11, c12]] w fun e w' => e = .returned (.int .i64 2) ∧ Below w.heap.size w w' := by
  go_enter Tryz.func24, Tryz.ntmps24
  go_wp2_with fail
  go_ret
  exact ⟨rfl, below_new1 _ _⟩
theorem tick_nil (w : World) : Calls Tryz.prog 25 #[.pointer none] w fun e w' => e = .returned (.int .i64 2) ∧ Below w.heap.size w w' := by
  go_enter Tryz.func25, Tryz.ntmps25
  go_wp2_with fail
  go_ret
  exact ⟨rfl, below_new1 _ _⟩
theorem compact_nil (w : World) (i : Int) (v : Value) : Calls Tryz.prog 18 #[.pointer none, .int .i64 i, v] w fun e w' => e = .returned (.int .i64 2) ∧ w' = w := by
  go_enter Tryz.func18, Tryz.ntmps18
  go_wp2_with fail
  go_ret
  exact ⟨rfl, rfl⟩
theorem leader_nil (w : World) : Calls Tryz.prog 17 #[.pointer none] w fun e w' => e = .returned (.int .i64 0) ∧ w' = w := by
  go_enter Tryz.func17, Tryz.ntmps17
  go_wp2_with fail
  go_ret
  exact ⟨rfl, rfl⟩
theorem ballot_nil (w : World) : Calls Tryz.prog 16 #[.pointer none] w fun e w' => e = .returned (.agg #[.int .i64 0, .int .i64 0]) ∧ Below w.heap.size w w' := by
  go_enter Tryz.func16, Tryz.ntmps16
  go_wp2_with fail
  have hn := (kit.blk (hp_alloc_new w (.cells #[.int .i64 0, .int .i64 0] 38))).1
  have n0 := hn 0
  have n1 := hn 1
  exact bodyPost_ret (v := .agg #[.int .i64 0, .int .i64 0]) (by simp [results, Tryz.results16, go_sem, n0, n1]) rfl ⟨rfl, below_new1 _ _⟩
theorem propose_nil (w : World) (v : Value) : Calls Tryz.prog 23 #[.pointer none, v] w fun e w' => e = .returned (.int .i64 2) ∧ w' = w := by
  go_enter Tryz.func23, Tryz.ntmps23
  go_wp2_with fail
  go_ret
  exact ⟨rfl, rfl⟩
/-- The document's Load of nothing. -/
theorem rload_zero (w : World) : Calls Tryz.prog 50 #[.agg #[.int .i64 0, .int .i64 0], .int .i64 1, .slice none 0 0] w fun e w' => (∃ b, e = .returned (.pointer (some ⟨b, 0, none⟩))) ∧ Below w.heap.size w w' := by
  have HB : Hid (Below w.heap.size w (w.alloc (.cells #[.int .i64 0, .int .i64 0] 38))) := below_new1 _ _
  have HN : Hid ((w.alloc (.cells #[.int .i64 0, .int .i64 0] 38)).heap[w.heap.size]? = some (.cells #[.int .i64 0, .int .i64 0] 38 (0, 0))) := hp_alloc_new _ _
  go_enter Tryz.func50, Tryz.ntmps50
  go_wp2_with fail
  obtain ⟨wb, hwb⟩ : ∃ wb, wb = w.alloc (.cells #[.int .i64 0, .int .i64 0] 38) := ⟨_, rfl⟩
  rw [← hwb] at HB HN ⊢
  clear hwb
  go_loopw [8] (fun i wr => i = .int .i64 0 ∧ wr = wb) (fun _ _ => 0)
  case atStart => exact ⟨rfl, rfl⟩
  case round =>
    obtain ⟨rfl, rfl⟩ := hrel
    have x0 := (kit.blk HN.out).1 0
    have x1 := (kit.blk HN.out).1 1
    go_wp2_with fail
    go_region
    all_goals (go_wp2_with fail)
    go_ret
    exact ⟨⟨_, rfl⟩, below_step HB.out ((below_new1 _ _).drew)⟩
theorem rcheck_arg (w : World) (node nodes : Int) (h : ¬ ((nodes = 1 ∨ nodes = 3 ∨ nodes = 5) ∧ 1 ≤ node ∧ node ≤ nodes)) :
    Calls Tryz.prog 22 #[.int .i64 node, .int .i64 nodes, .agg #[.int .i64 0, .int .i64 0, .slice none 0 0, .int .i64 0, .slice none 0 0, .slice none 0 0]] w fun e w' => e = .returned (.int .i64 1) ∧ Below w.heap.size w w' := by
  by_cases h1 : nodes = 1 ∨ nodes = 3 ∨ nodes = 5
  · have h2 : ¬ (1 ≤ node ∧ node ≤ nodes) := fun hh => h ⟨h1, hh⟩
    clear h
    by_cases h3 : node < 1
    · clear h2
      have d1 : decide (node < 1) = true := decide_eq_true h3
      rcases h1 with rfl | rfl | rfl
      all_goals
        go_enter Tryz.func22, Tryz.ntmps22
        go_wp2_with fail
        go_ret
        exact ⟨rfl, below_new1 _ _⟩
    · have h4 : nodes < node := by omega
      have d1 : decide (node < 1) = false := decide_eq_false h3
      have d2 : decide (nodes < node) = true := decide_eq_true h4
      clear h2
      rcases h1 with rfl | rfl | rfl
      all_goals
        go_enter Tryz.func22, Tryz.ntmps22
        go_wp2_with fail
        go_ret
        exact ⟨rfl, below_new1 _ _⟩
  · have e1 : (nodes != 1) = true := by simp; omega
    have e2 : (nodes != 3) = true := by simp; omega
    have e3 : (nodes != 5) = true := by simp; omega
    clear h h1
    go_enter Tryz.func22, Tryz.ntmps22
    go_wp2_with fail
    go_ret
    exact ⟨rfl, below_new1 _ _⟩
theorem rcheck_ok (w : World) (node nodes : Int) (h1 : nodes = 1 ∨ nodes = 3 ∨ nodes = 5) (h2 : 1 ≤ node ∧ node ≤ nodes) :
    Calls Tryz.prog 22 #[.int .i64 node, .int .i64 nodes, .agg #[.int .i64 0, .int .i64 0, .slice none 0 0, .int .i64 0, .slice none 0 0, .slice none 0 0]] w fun e w' => e = .returned (.int .i64 0) ∧ Below w.heap.size w w' := by
  have d1 : decide (node < 1) = false := decide_eq_false (by omega)
  have d2 : decide (nodes < node) = false := decide_eq_false (by omega)
  have HL := Lib.hid (fun (wr : World) => rload_zero wr)
  obtain ⟨wb, hwb⟩ : ∃ wb, wb = w.alloc (.cells #[.int .i64 0, .int .i64 0, .slice none 0 0, .int .i64 0, .slice none 0 0, .slice none 0 0] 42) := ⟨_, rfl⟩
  have HB : Hid (Below w.heap.size w wb) := by rw [hwb]; exact below_new1 _ _
  have HN : Hid (wb.heap[w.heap.size]? = some (.cells #[.int .i64 0, .int .i64 0, .slice none 0 0, .int .i64 0, .slice none 0 0, .slice none 0 0] 42 (0, 0))) := by rw [hwb]; exact hp_alloc_new _ _
  have HWB := Lib.hid hwb
  clear hwb
  rcases h1 with rfl | rfl | rfl
  all_goals
    go_enter Tryz.func22, Tryz.ntmps22
    go_wp2_with fail
    rw [← HWB.out]
    go_loopw [7, 8] (fun l i wr => l = .int .i64 0 ∧ i = .int .i64 0 ∧ wr = wb) (fun _ _ _ => 0)
    case atStart => exact ⟨rfl, rfl, rfl⟩
    case round =>
      obtain ⟨rfl, rfl, rfl⟩ := hrel
      have x0 := (kit.blk HN.out).1 0
      have x1 := (kit.blk HN.out).1 1
      have x2 := (kit.blk HN.out).1 2
      have x3 := (kit.blk HN.out).1 3
      have x4 := (kit.blk HN.out).1 4
      have x5 := (kit.blk HN.out).1 5
      go_wp2_with fail
      refine (HL.out _).mono ?_; rintro e w2 ⟨⟨b, rfl⟩, hb2⟩
      have HB2 := Lib.hid (HB.out.trans (Below.mono hb2 HB.out.size))
      clear hb2
      go_wp2_with fail
      go_ret
      exact ⟨rfl, HB2.out⟩
end Go.Proofs.YtcaakiaenfkeaaaGreatDoor.penl
/-
  The frame of a law over a table that is laid by its initialiser: the table's cells, a world for the witness, the shut.
-/
namespace Go.Proofs.YtcaakiaenfkeaaaGreatDoor.laidn
open Go.ChangeShapes Go.WideShapes Go.ChangeAt Go.RowKit Go.Joins
open Go.Proofs.YtcaakiaenfkeaaaGreatDoor.kit Go.Proofs.YtcaakiaenfkeaaaGreatDoor.byt
set_option linter.unusedVariables false
set_option linter.unusedSimpArgs false

theorem own : ownKnob Tryz.prog.godebug = none := by kernel_rfl
theorem laidOut : laidOutB Tryz.prog = true := by kernel_rfl
theorem gTab : Tryz.prog.globalNamed "purse/codec.quarter" = some 0 := by kernel_rfl
theorem gTabType : (Tryz.prog.globals[0]?).map (·.type) = some 234 := by kernel_rfl
theorem cellsT : Tryz.prog.cellsOf 234 = 16 := by kernel_rfl
theorem cellsU : Tryz.prog.cellsOf 60 = 1 := by kernel_rfl
def nums : List Int := [0, 498536548, 997073096, 651767980, 1994146192, 1802195444, 1303535960, 1342533948, 3988292384, 4027552580, 3604390888, 3412177804, 2607071920, 2262029012, 2685067896, 3183342108]
theorem table {W : World} (h : laidMetH Tryz.prog [("purse/codec.quarter", Rows.laid_purse_codec_quarter)] W) : Lib.TabIs Tryz.prog W "purse/codec.quarter" .u32 nums :=
  Lib.tabIs_of_head (rest := []) gTab gTabType Tryz.underlying234 Tryz.underlying60 cellsU cellsT h
theorem byte_wf {l : List Int} (h : ∀ n ∈ l, (Lit.int .u8 n).wf = true) : ∀ x ∈ l, 0 ≤ x ∧ x < 256 := by
  intro x hx
  have := h x hx
  simp [Lit.wf, IntKind.min, IntKind.max, IntKind.signed, IntKind.bits] at this
  omega
theorem nat_list (l : List Int) (h : ∀ x ∈ l, 0 ≤ x ∧ x < 256) : ∃ m : List Nat, l = m.map (fun x : Nat => (x : Int)) ∧ byt.Byt m := by
  induction l with
  | nil => exact ⟨[], rfl, by intro x hx; simp at hx⟩
  | cons x l ih =>
    obtain ⟨m, rfl, hm⟩ := ih fun y hy => h y (List.mem_cons_of_mem _ hy)
    have hx := h x (List.mem_cons_self ..)
    refine ⟨x.toNat :: m, by simp; omega, fun y hy => ?_⟩
    rcases List.mem_cons.1 hy with rfl | hy
    · omega
    · exact hm y hy
theorem bcells_of (m : List Nat) : (m.map (fun x : Nat => (x : Int))).map (Value.int .u8) = byt.bcells m := by simp [byt.bcells]

/-- A world for the witness. -/
noncomputable def laidWorld (os : Os) : World :=
  { World.holding Tryz.prog os ⟨#[], #[], []⟩ with heap := (World.holding Tryz.prog os ⟨#[], #[], []⟩).heap.modify 0 fun
      | .cells _ t frozen => .cells #[.int .u32 0, .int .u32 498536548, .int .u32 997073096, .int .u32 651767980, .int .u32 1994146192, .int .u32 1802195444, .int .u32 1303535960, .int .u32 1342533948, .int .u32 3988292384, .int .u32 4027552580, .int .u32 3604390888, .int .u32 3412177804, .int .u32 2607071920, .int .u32 2262029012, .int .u32 2685067896, .int .u32 3183342108] t frozen
      | o => o }

section
variable {H : Type} {enc : TypeId × Value → H}
/-- The shut of a law whose walk leaves all that was there as it was, at the world at hand. -/
theorem law_post_at {C : Checked} {f : FuncId} {fn : Func} {s : ChangeSpec} (hl : laidOutB C.prog = true)
    (hspec : ∀ (ds : List (DataW H)), ds.length = fn.params.size → s.fn H (ds ++ []) = { results := [.lit (.bool true)], args := ds })
    (tb : TypeId) (hres : fn.resultTypes = #[tb]) (htb : C.prog.underlying tb = some .bool) (hvars : s.vars = [])
    (hread : (fn.params.toList.all fun t => C.prog.readableRec t && decide (t < C.prog.types.size)) = true)
    {W : World} {args : Array Value} {ds gs : List (DataW H)} {before : List MemPlace}
    (hW : DataW.Whole enc C.prog fn.params.toList s.vars false W args.toList ds gs before)
    (hsz : (DataW.weightsEach C.prog (fn.params.toList ++ s.plain.varTypes C.prog) (ds ++ gs)).all (· ≤ reachBytes) = true)
    (walk : ∀ p, DataW.TrodAll enc C.prog W 0 (fun _ => true) true fn.params.toList args.toList ds p → (DataW.weightsEach C.prog fn.params.toList ds).all (· ≤ reachBytes) = true →
      Calls C.prog f args W fun e w' => e = .returned (.bool true) ∧ Below W.heap.size W w') :
    Calls C.prog f args W fun e W' => ∃ v, e = .returned v ∧ s.post enc C.prog fn false true false false W args v W' := by
  have hW' := hW
  have hlt := hW.lt
  obtain ⟨p, q, hA, hV, rfl, hfz, hnd⟩ := hW
  rw [hvars] at hV
  obtain ⟨rfl, rfl⟩ := trodVars_none hV
  have hty : s.plain.varTypes C.prog = [] := by simp [DataSpec.varTypes, ChangeSpec.plain, hvars]
  rw [hty] at hsz
  simp only [List.append_nil] at hsz hW' hlt
  refine (walk p hA hsz).mono fun e W' ⟨he, hb⟩ => ?_
  subst he
  have hlen := trodAll_length _ _ _ _ hA
  have hs := hspec ds (by simpa using hlen)
  refine ⟨_, rfl, ds, [], p, [], p, [], by simpa using hW', ?_, ?_, ?_, hb.frame _, fun h => by cases h⟩
  · rw [hs, hres]
    exact trodAll_mk1 (shut_bool htb _)
  · rw [hs]
    exact trodAll_below hl hb _ _ _ _ hread hA hlt
  · rw [hs, hvars]
    rfl
end
end Go.Proofs.YtcaakiaenfkeaaaGreatDoor.laidn
