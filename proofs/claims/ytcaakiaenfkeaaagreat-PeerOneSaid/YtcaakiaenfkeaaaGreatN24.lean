/-
  A group of one as data: what Draw and Propose do (no memory).
-/
import Derived.Test.YtcaakiaenfkeaaaGreatN15
import Derived.Test.YtcaakiaenfkeaaaGreatN23
import Derived.Test.YtcaakiaenfkeaaaGreatN21
import Derived.Deep.CutBlock
import Derived.Test.YtcaakiaenfkeaaaGreatN06
import Derived.Test.YtcaakiaenfkeaaaGreatN09
import Derived.Test.YtcaakiaenfkeaaaGreatN22
namespace Go.Proofs.YtcaakiaenfkeaaaGreat.pep
open Go.Proofs.YtcaakiaenfkeaaaGreat.accd Go.Proofs.YtcaakiaenfkeaaaGreat.accb Go.Proofs.YtcaakiaenfkeaaaGreat.acce Go.Proofs.YtcaakiaenfkeaaaGreat.acch Go.Proofs.YtcaakiaenfkeaaaGreat.chp Go.Proofs.YtcaakiaenfkeaaaGreat.chq
open Go.Proofs.YtcaakiaenfkeaaaGreat.byt (Byt)
open Go.Proofs.YtcaakiaenfkeaaaGreat.bal (enoughB)
set_option linter.unusedVariables false
set_option linter.unusedSimpArgs false
set_option maxHeartbeats 1000000

theorem enough_one : enoughB 1 [1] = true := by decide
/-- A group of one: the member. -/
structure One (P : PD) : Prop where
  nd : P.node = 1
  ns : P.nodes = 1
  ix : P.index = 0
  fst : P.A.first = P.commit + 1
  vs : P.A.vs = []
theorem upTo_one : upTo 1 = [1] := by decide
theorem others_one {P : PD} (h : One P) (l : Lt) : P.others l = P := by
  unfold PD.others
  rw [h.ns, show (1 : Int).toNat = 1 from rfl, upTo_one]
  show (if (1 : Int) = P.node then P else P.tell 1 l) = P
  rw [if_pos h.nd.symm]
theorem offers_one {P : PD} (h : P.node = 1 ∧ P.nodes = 1) (s : Int) (d : List Nat) : P.offers s d = P := by
  unfold PD.offers
  rw [h.2, show (1 : Int).toNat = 1 from rfl, upTo_one]
  show (if (1 : Int) = P.node then P else P.offer 1 s d) = P
  rw [if_pos h.1.symm]
/-- The leader of a group of one, nothing under way. -/
structure Lone (P : PD) : Prop where
  one : One P
  lead : P.leads = true
  opn : P.opn = some ⟨P.commit + 1, []⟩
  todo : P.todo = []
  next : P.next = P.commit + 1
  own : P.own = (P.A.r, P.A.n)
  real : acca.realB P.A.r P.A.n = true
/-- Behind a value. -/
def PD.sent (P : PD) (d : List Nat) : PD :=
  { P with A := ⟨P.A.r, P.A.n, P.commit + 2, []⟩, opn := some ⟨P.commit + 2, []⟩, next := P.commit + 2, entries := P.entries ++ [(P.commit + 1, d)], chosen := P.chosen ++ [(P.commit + 1, d)], notes := P.notes ++ [.vote ⟨P.commit + 1, P.A.r, P.A.n, d⟩, .entry (P.commit + 1) d] }
theorem accE_one {r n s : Int} {d : List Nat} (hr : acca.realB r n = true) (hd : d.length ≤ 2048) : accE r n s ⟨s, r, n, d⟩ = 0 := by
  unfold accE
  rw [if_neg (by simp only [hr]; simp; omega), if_neg (by simp [acca.lessB]), if_neg (by dsimp only; omega), if_neg (by dsimp only [farI]; omega)]
theorem send_one {P : PD} (h : Lone P) {d : List Nat} (h1 : 1 ≤ d.length) (h2 : d.length ≤ 2048) (hc : 0 ≤ P.commit) (hc2 : P.commit ≤ 1000000000) : P.proposeE d = 0 ∧ P.proposeS d = P.sent d := by
  have hE : P.proposeE d = 0 := by
    unfold PD.proposeE
    rw [if_neg (by omega), if_neg (by rw [h.lead]; simp), if_neg (by rw [h.next]; omega)]
  refine ⟨hE, ?_⟩
  obtain ⟨c, hcc⟩ : ∃ c, c = P.commit := ⟨_, rfl⟩
  obtain ⟨Q, hQ⟩ : ∃ Q : PD, Q = { P with todo := P.todo ++ [(P.next, d)], next := P.next + 1 } := ⟨_, rfl⟩
  have hS : P.proposeS d = PD.propose Q.fuel Q := by unfold PD.proposeS; rw [if_neg (by rw [hE]; simp), hQ]
  have hQt : Q.todo = [(c + 1, d)] := by rw [hQ, hcc]; show P.todo ++ [(P.next, d)] = _; rw [h.todo, h.next]; rfl
  have hQc : Q.commit = c := by rw [hQ, hcc]; rfl
  have hQo : Q.opn = some ⟨c + 1, []⟩ := by rw [hQ, hcc]; exact h.opn
  have hQl : Q.leads = true := by rw [hQ]; exact h.lead
  have hQw : Q.own = (P.A.r, P.A.n) := by rw [hQ]; exact h.own
  have hQA : Q.A = P.A := by rw [hQ]
  have hf : Q.fuel = 5 + 1 := by unfold PD.fuel; rw [hQt, hQo]; rfl
  have hA : P.A = ⟨P.A.r, P.A.n, c + 1, []⟩ := by
    have h3 := h.one.fst; have h4 := h.one.vs
    rw [← hcc] at h3
    cases hx : P.A with
    | mk a b e f => rw [hx] at h3 h4; dsimp only at h3 h4; rw [h3, h4]
  have hacc : accE Q.A.r Q.A.n Q.A.first ⟨c + 1, Q.own.1, Q.own.2, d⟩ = 0 := by
    rw [hQA, hQw]
    have : P.A.first = c + 1 := by rw [hcc]; exact h.one.fst
    rw [this]
    exact accE_one h.real h2
  have hp := prop1_go hQt (by rw [hQc]; omega) hacc hQo (by unfold Ol.putE; rw [if_neg (by dsimp only; omega), if_neg (by dsimp only; omega)])
  have hnd : ∀ R : PD, R.node = Q.node → R.nodes = Q.nodes → R.offers (c + 1) d = R := fun R e1 e2 => offers_one ⟨by rw [e1, hQ]; exact h.one.nd, by rw [e2, hQ]; exact h.one.ns⟩ _ _
  obtain ⟨v, hv⟩ : ∃ v : V4, v = ⟨c + 1, P.A.r, P.A.n, d⟩ := ⟨_, rfl⟩
  have hput : (⟨c + 1, []⟩ : Ol).put (c + 1) (d, [Q.node]) = ⟨c + 1, [some (d, [1])]⟩ := by
    unfold Ol.put Ol.putE
    rw [if_pos (by rw [if_neg (by dsimp only; omega), if_neg (by dsimp only; omega)])]
    have e0 : (c + 1 - (c + 1)).toNat = 0 := by omega
    rw [e0, show Q.node = 1 by rw [hQ]; exact h.one.nd]
    rfl
  have hacs : accS P.A v = ⟨P.A.r, P.A.n, c + 1, [v]⟩ := by
    unfold accS
    have : P.A.first = c + 1 := by rw [hcc]; exact h.one.fst
    rw [this, if_pos (by rw [hv]; exact accE_one h.real h2), h.one.vs, hv]
    rfl
  obtain ⟨R, hR⟩ : ∃ R : PD, R = ({ Q with A := ⟨P.A.r, P.A.n, c + 1, [v]⟩, opn := some ⟨c + 1, [some (d, [1])]⟩, todo := [] } : PD).note (.vote v) := ⟨_, rfl⟩
  have hp2 : Q.prop2 ⟨c + 1, []⟩ (c + 1) d [] = R := by
    unfold PD.prop2
    rw [hnd]
    rotate_left
    · rfl
    · rfl
    rw [hR, hput, hQw, hQA]
    dsimp only
    rw [← hv, hacs]
  have hpr : PD.props Q.todo.length Q = R := by
    rw [hQt]
    show (match Q.prop1 with | none => Q | some P' => PD.props 0 P') = R
    rw [hp, hp2]; rfl
  have hRl : R.leads = true := by rw [hR]; exact hQl
  have hRc : R.commit = c := by rw [hR]; exact hQc
  have hRo : R.opn = some ⟨c + 1, [some (d, [1])]⟩ := by rw [hR]; rfl
  have hw : R.wins = [(c + 1, (d, [1]))] := by
    unfold PD.wins
    rw [hRo]
    have hn1 : R.nodes = 1 := by rw [hR, hQ]; exact h.one.ns
    show (runOf (c + 1) [some (d, [1])]).takeWhile (fun x => enoughB R.nodes x.2.2) = _
    rw [hn1]
    show ([((c + 1 : Int), ((d, [1]) : List Nat × List Int))]).takeWhile (fun x => enoughB 1 x.2.2) = _
    rw [List.takeWhile_cons, if_pos enough_one]
    rfl
  have hch := chose_lead hRl (c + 1) d
  rw [hRc] at hch
  have hadv : PD.advance 5 R = R.chose (c + 1) d := by
    rw [adv_lead 4 hRl, hw]
    show (if R.commit < (R.chose (c + 1) d).commit ∧ 0 < (R.chose (c + 1) d).todo.length then _ else R.chose (c + 1) d) = _
    have ht0 : (R.chose (c + 1) d).todo = [] := by rw [hch, hR]; rfl
    rw [if_neg (by rw [ht0]; simp)]
  rw [hS, hf, pro_eq, hpr, hadv, hch]
  have hfg : forgetS R.A (c + 1 + 1) = ⟨P.A.r, P.A.n, c + 1 + 1, []⟩ := by
    have : R.A = ⟨P.A.r, P.A.n, c + 1, [v]⟩ := by rw [hR]; rfl
    rw [this]
    unfold forgetS
    rw [if_pos (show fgt (c + 1) (c + 1 + 1) from ⟨by omega, by omega⟩)]
    unfold from4
    rw [hv]
    simp
    omega
  have hcut : (⟨c + 1, [some (d, [1])]⟩ : Ol).cut (c + 1 + 1) = ⟨c + 1 + 1, []⟩ := by
    unfold Ol.cut farI
    rw [if_neg (by dsimp only; omega)]
    have e0 : (c + 1 + 1 - (c + 1)).toNat = 1 := by omega
    rw [e0]; rfl
  rw [hfg, hRo, Option.map_some, hcut, hR, hQ]
  unfold PD.sent PD.note
  rw [← hcc, hv]
  have e2 : c + 1 + 1 = c + 2 := by omega
  have e3 : P.next = c + 1 := by rw [hcc]; exact h.next
  simp only [e3, e2, h.todo, List.append_assoc, List.singleton_append, List.nil_append]
  rw [Int.max_def, if_pos (Int.le_refl _)]
end Go.Proofs.YtcaakiaenfkeaaaGreat.pep
/-
  A group of one as data: what Draw leaves (no memory).
-/
namespace Go.Proofs.YtcaakiaenfkeaaaGreat.pep
open Go.Proofs.YtcaakiaenfkeaaaGreat.accd Go.Proofs.YtcaakiaenfkeaaaGreat.accb Go.Proofs.YtcaakiaenfkeaaaGreat.acce Go.Proofs.YtcaakiaenfkeaaaGreat.acch Go.Proofs.YtcaakiaenfkeaaaGreat.chp Go.Proofs.YtcaakiaenfkeaaaGreat.chq
open Go.Proofs.YtcaakiaenfkeaaaGreat.byt (Byt)
open Go.Proofs.YtcaakiaenfkeaaaGreat.bal (enoughB)
set_option linter.unusedVariables false
set_option linter.unusedSimpArgs false
set_option maxHeartbeats 1000000

theorem others_one' {P : PD} (h : P.node = 1 ∧ P.nodes = 1) (l : Lt) : P.others l = P := by
  unfold PD.others
  rw [h.2, show (1 : Int).toNat = 1 from rfl, upTo_one]
  show (if (1 : Int) = P.node then P else P.tell 1 l) = P
  rw [if_pos h.1.symm]
theorem open_one {c : Int} (h0 : 0 ≤ c) (h1 : c ≤ 1000000000) : openE 1 (c + 1) [⟨1, []⟩] = 0 ∧ openL 1 (c + 1) [⟨1, []⟩] = [] := by
  have e : openE 1 (c + 1) [⟨1, []⟩] = 0 := by
    unfold openE
    have hr : Right 1 [⟨1, []⟩] := by decide
    have ht : topL 0 [⟨1, []⟩] = 0 := rfl
    rw [if_neg (fun h => h hr), if_neg (by omega), if_neg (by simp), if_neg (by rw [ht]; omega)]
  refine ⟨e, ?_⟩
  unfold openL
  rw [if_pos e]
  have hn : openN (c + 1) [⟨1, []⟩] = 0 := by
    unfold openN
    have ht : topL 0 [⟨1, []⟩] = 0 := rfl
    rw [ht]; omega
  rw [hn]; rfl
theorem who_one (fr : Int) : ((List.range 6).filter fun i : Nat => (⟨decide ((i : Int) = 1), fr, 0, []⟩ : Pm).done) = [1] := by
  show ((List.range 6).filter fun i : Nat => decide ((i : Int) = 1)) = [1]
  decide
/-- Behind a draw. -/
def PD.drawn (P : PD) : PD :=
  { P with A := ⟨P.nextBal.1, P.nextBal.2, P.commit + 1, []⟩, seen := P.nextBal, own := P.nextBal, leads := true, prom := fun i => ⟨decide ((i : Int) = 1), P.commit + 1, 0, []⟩, opn := some ⟨P.commit + 1, []⟩, todo := [], next := P.commit + 1, taken := 0, notes := P.notes ++ [.prom P.nextBal] }
theorem next_real {P : PD} (h : P.node = 1) : acca.realB P.nextBal.1 P.nextBal.2 = true := by
  unfold PD.nextBal acca.realB
  rw [h]
  simp
  omega
theorem next_less {P : PD} : acca.lessB P.nextBal.1 P.nextBal.2 P.A.r P.A.n = false := by
  have h1 : P.A.r ≤ (mostB P.promised P.seen).1 := by
    unfold mostB
    split
    · rename_i h
      unfold ltB bal.lessB at h
      simp at h
      show P.promised.1 ≤ _
      omega
    · exact Int.le_refl _
  have h2 : P.A.r < P.nextBal.1 := by unfold PD.nextBal; dsimp only; omega
  unfold acca.lessB
  simp
  omega
theorem draw_one {P : PD} (h : One P) (hc : 0 ≤ P.commit) (hc2 : P.commit ≤ 1000000000) : P.draw = P.drawn := by
  rw [draw_eq]
  have hnd : P.cand0.node = 1 := h.nd
  have hns : P.cand0.nodes = 1 := h.ns
  have hcc : P.cand0.commit = P.commit := rfl
  rw [others_one' ⟨hnd, hns⟩]
  have hA : P.cand0.A = ⟨P.nextBal.1, P.nextBal.2, P.commit + 1, []⟩ := by
    show prepS P.A P.nextBal.1 P.nextBal.2 = _
    unfold prepS prepE
    rw [if_pos (by rw [if_neg (by rw [next_real h.nd]; simp), if_neg (by rw [next_less]; simp)]), h.fst, h.vs]
  have hpr : P.cand0.prom = fun i => ⟨decide ((i : Int) = 1), P.commit + 1, 0, []⟩ := by
    show (fun i : Nat => (⟨decide ((i : Int) = P.node), P.commit + 1, 0, []⟩ : Pm)) = _
    rw [h.nd]
  have hw : P.cand0.who = [1] := by unfold PD.who; rw [hpr]; exact who_one _
  have hca : P.cand0.candidate = true := by
    unfold PD.candidate
    have e1 : P.cand0.own = P.nextBal := rfl
    have e2 : P.cand0.leads = false := rfl
    rw [e1, e2]
    have : (P.nextBal == zb) = false := by
      have : P.nextBal ≠ zb := by
        intro e
        have := congrArg Prod.snd e
        rw [show P.nextBal.2 = P.node from rfl, h.nd] at this
        exact absurd this (by decide)
      simpa using this
    rw [this]; rfl
  have hen : enoughB P.cand0.nodes (P.cand0.who.map fun i : Nat => (i : Int)) = true := by rw [hw, hns]; exact enough_one
  have hbe : P.cand0.behind = 0 := by
    unfold PD.behind
    rw [hpr, hcc]
    have : ((List.range 6).find? fun i : Nat => (⟨decide ((i : Int) = 1), P.commit + 1, 0, []⟩ : Pm).done && decide (P.commit < (⟨decide ((i : Int) = 1), P.commit + 1, 0, []⟩ : Pm).commit)) = none := by
      rw [List.find?_eq_none]
      intro x _
      have : decide (P.commit < 0) = false := by simp; omega
      simp [this]
    rw [this]; rfl
  have hpm : P.cand0.proms = [⟨1, []⟩] := by
    unfold PD.proms
    rw [hw, hA, hnd]
    rfl
  have ho := open_one hc hc2
  have h4 : openE P.cand0.nodes (P.cand0.commit + 1) P.cand0.proms = 0 := by rw [hns, hcc, hpm]; exact ho.1
  rw [elect_yes hca hen hbe h4]
  obtain ⟨Q, hQ⟩ : ∃ Q : PD, Q = P.cand0.lead := ⟨_, rfl⟩
  have hQt : Q.todo = [] := by rw [hQ]; show openL P.cand0.nodes (P.cand0.commit + 1) P.cand0.proms = []; rw [hns, hcc, hpm]; exact ho.2
  have hQl : Q.leads = true := by rw [hQ]; rfl
  have hQo : Q.opn = some ⟨P.commit + 1, []⟩ := by
    rw [hQ]; show some (⟨min (max (P.commit + 1) 1) farI, []⟩ : Ol) = _
    have : min (max (P.commit + 1) 1) farI = P.commit + 1 := by unfold farI; omega
    rw [this]
  have hQw : Q.wins = [] := by unfold PD.wins; rw [hQo]; rfl
  have hf : Q.fuel = 2 + 1 + 1 := by unfold PD.fuel; rw [hQt, hQo]; rfl
  rw [← hQ, hf, pro_eq, hQt]
  show PD.advance 3 Q = _
  rw [show (3 : Nat) = 2 + 1 from rfl, adv_lead 2 hQl, hQw]
  have hq0 : Q.choseAll [] = Q := rfl
  rw [hq0, if_neg (by omega), hQ]
  have ht : P.cand0.lead.todo = [] := by rw [← hQ]; exact hQt
  have ho2 : P.cand0.lead.opn = some ⟨P.commit + 1, []⟩ := by rw [← hQ]; exact hQo
  have hn : P.cand0.lead.next = P.commit + 1 := by
    show P.commit + 1 + ((openL P.cand0.nodes (P.cand0.commit + 1) P.cand0.proms).length : Int) = _
    rw [hns, hcc, hpm, ho.2]
    simp
  show ({ P.cand0 with leads := true, taken := 0, opn := P.cand0.lead.opn, todo := P.cand0.lead.todo, next := P.cand0.lead.next } : PD) = _
  rw [ht, ho2, hn]
  show ({ P.cand0 with A := P.cand0.A, prom := P.cand0.prom, leads := true, taken := 0, opn := _, todo := _, next := _ } : PD) = _
  rw [hA, hpr]
  rfl
theorem drawn_lone {P : PD} (h : One P) : Lone P.drawn :=
  ⟨⟨h.nd, h.ns, h.ix, rfl, rfl⟩, rfl, rfl, rfl, rfl, rfl, next_real h.nd⟩
theorem sent_lone {P : PD} (h : Lone P) (d : List Nat) : Lone (P.sent d) := by
  have hc : (P.sent d).commit = P.commit + 1 := by show P.index + ((P.entries ++ [_]).length : Int) = P.index + (P.entries.length : Int) + 1; rw [List.length_append, List.length_singleton]; omega
  refine ⟨⟨h.one.nd, h.one.ns, h.one.ix, ?_, rfl⟩, h.lead, ?_, h.todo, ?_, h.own, h.real⟩
  · rw [hc]; show P.commit + 2 = _; omega
  · rw [hc]; show some (⟨P.commit + 2, []⟩ : Ol) = _; congr 2; omega
  · rw [hc]; show P.commit + 2 = _; omega
end Go.Proofs.YtcaakiaenfkeaaaGreat.pep
/-
  awake: a group of one draws and has something to note.
-/
namespace Go.Proofs.YtcaakiaenfkeaaaGreat.peaw
open Go.ChangeShapes Go.WideShapes Go.ChangeAt Go.RowKit
open Go.Proofs.YtcaakiaenfkeaaaGreat.kit Go.Proofs.YtcaakiaenfkeaaaGreat.mapkit Go.Proofs.YtcaakiaenfkeaaaGreat.byt Go.Proofs.YtcaakiaenfkeaaaGreat.own Go.Proofs.YtcaakiaenfkeaaaGreat.accd Go.Proofs.YtcaakiaenfkeaaaGreat.accb Go.Proofs.YtcaakiaenfkeaaaGreat.acce Go.Proofs.YtcaakiaenfkeaaaGreat.chd Go.Proofs.YtcaakiaenfkeaaaGreat.che Go.Proofs.YtcaakiaenfkeaaaGreat.ownr Go.Proofs.YtcaakiaenfkeaaaGreat.pep Go.Proofs.YtcaakiaenfkeaaaGreat.peb Go.Proofs.YtcaakiaenfkeaaaGreat.pem Go.Proofs.YtcaakiaenfkeaaaGreat.pen Go.Proofs.YtcaakiaenfkeaaaGreat.pes Go.Proofs.YtcaakiaenfkeaaaGreat.peq Go.Proofs.YtcaakiaenfkeaaaGreat.pedr Go.Proofs.YtcaakiaenfkeaaaGreat.pelo Go.Proofs.YtcaakiaenfkeaaaGreat.penw
set_option linter.unusedVariables false
set_option linter.unusedSimpArgs false
set_option maxHeartbeats 4000000
set_option maxRecDepth 100000

/-- Nothing saved. -/
def S0 : SvM := ⟨0, 0, sl0, 0, sl0, sl0⟩
theorem okS0 {node nodes : Int} (h : nodes = 1 ∨ nodes = 3 ∨ nodes = 5) (h2 : 1 ≤ node ∧ node ≤ nodes) : OkS node nodes S0 :=
  ⟨h, h2, .inl ⟨rfl, rfl⟩, ⟨by decide, by decide⟩, fun _ => rfl, by decide, by decide, fun k hk => absurd hk (by simp [S0, sl0]), ⟨⟨by decide, by decide, .inl ⟨rfl, rfl⟩⟩, fun k hk => absurd hk (by simp [S0, sl0])⟩⟩
theorem rdS0 (w : World) : RdS w S0 :=
  ⟨⟨⟨0, none, 0, rfl, World.ownsRow_nil _ _ _ _⟩, by simp [S0, sl0]⟩, by simp [S0, sl0], ⟨.inl rfl, by simp [S0, sl0], by decide⟩, by simp [S0, sl0], rob_nil w⟩
theorem one_new {S : SvM} (h0 : S.ix = 0) (hv : S.vs.l = []) : One (newD 1 1 S) := by
  refine ⟨rfl, rfl, h0, ?_, by show S.vs.l.map lv = []; rw [hv]; rfl⟩
  show S.ix + S.en.l.length + 1 = S.ix + ((S.en.l.map le).length : Int) + 1
  rw [List.length_map]
theorem may_new {S : SvM} (h0 : S.ix = 0) (hv : S.vs.l = []) (hl : S.en.l.length ≤ 100000) : MayDraw (newD 1 1 S) := by
  have he : (newD 1 1 S).entries.length = S.en.l.length := List.length_map _
  have hc : (newD 1 1 S).chosen.length = S.en.l.length := List.length_map _
  refine ⟨by show 0 ≤ S.ix; omega, (one_new h0 hv).fst, ⟨by show (0 : Int) ≤ 1; decide, by show (1 : Int) ≤ 5; decide⟩, fun v h => ?_, ?_, by rw [hc]; omega, by show 0 ≤ _; omega, by show 0 ≤ _; omega⟩
  · have h1 : v ∈ S.vs.l.map lv := h
    rw [hv] at h1; simp at h1
  · rw [he]; show S.ix + _ ≤ _; rw [h0]; omega
theorem fresh1 : Fresh (fun _ => ro) 1 := ⟨by decide, fun _ => Nat.zero_ne_one⟩
theorem awake_ok (w : World) : Calls Tryz.prog 5 #[] w fun e w' => e = .returned (.bool true) ∧ Below w.heap.size w w' := by
  have hcl : ownr.Clean w (fun _ => ro) := fun _ _ => rfl
  have HNW := Lib.hid (new_ok w (fun _ => ro) 1 1 1 S0 hcl fresh1 (rdS0 w) (okS0 (.inl rfl) (by decide)) rfl)
  simp only [SvM.val, S0, sl0, List.length_nil] at HNW
  go_enter Tryz.func5, Tryz.ntmps5
  go_wp2_with (go_at_call 4; refine HNW.out.mono ?_; rintro e w1 ⟨pb, M1, O1, rfl, hP1, hF1, hM1, -⟩; have HP1 := Lib.hid hP1; have HF1 := Lib.hid hF1; have HM1 := Lib.hid hM1; clear hP1 hF1 hM1)
  have hnode : M1.node = 1 := congrArg PD.node HM1.out
  have hA : M1.A = ⟨0, 0, 1, []⟩ := congrArg PD.A HM1.out
  have hs1 : M1.s1 = 0 := congrArg (fun P : PD => P.seen.1) HM1.out
  have HDR := Lib.hid (draw_ok w1 O1 1 pb M1 HP1.out (by unfold Rnd; rw [hA, hs1]; decide) (by rw [hnode]; decide) (by rw [HM1.out]; exact may_new rfl rfl (by decide)))
  refine HDR.out.mono ?_; rintro e w2 ⟨rfl, M2, hM2, O2, hP2, hF2⟩
  rw [HM1.out, draw_one (one_new rfl rfl) (by decide) (by decide)] at hM2
  have hnl : M2.nt.l.length = 1 := by
    have h : M2.nt.l.map NtM.dat = (newD 1 1 S0).drawn.notes := congrArg PD.notes hM2
    have h2 := congrArg List.length h
    rw [List.length_map] at h2
    exact h2
  have hrd := ready_ok w2 O2 1 pb M2 hP2
  unfold readyV at hrd
  rw [hnl] at hrd
  have HRD := Lib.hid hrd
  have HF2 := Lib.hid ((HF1.out.mono (fun _ h => h.elim)).trans hF2)
  clear hM2 hP2 hF2 hnl hrd hnode hA hs1 HDR HNW
  have hfd : ∀ (w : World) (a b c d e : Value), (Instr.field 40 (.agg #[a, b, c, d, e]) 0).run Tryz.prog w = .ok a w := fun _ _ _ _ _ _ => by kernel_rfl
  go_wp2_with fail
  refine HRD.out.mono ?_; rintro e w3 ⟨rfl, O3, hP3, hF3⟩
  have hF := fr_fresh fresh1 (HF2.out.trans hF3)
  have HB := Lib.hid (hF.below (Nat.le_refl _) (fun _ _ h => h))
  clear hP3 hF3 hF
  go_wp2_with fail
  go_ret
  exact ⟨rfl, HB.out⟩
end Go.Proofs.YtcaakiaenfkeaaaGreat.peaw
/-
  Propose: a value is proposed for the next slot.
-/
namespace Go.Proofs.YtcaakiaenfkeaaaGreat.pese
open Go.ChangeShapes Go.WideShapes Go.ChangeAt Go.RowKit
open Go.Proofs.YtcaakiaenfkeaaaGreat.kit Go.Proofs.YtcaakiaenfkeaaaGreat.mapkit Go.Proofs.YtcaakiaenfkeaaaGreat.byt Go.Proofs.YtcaakiaenfkeaaaGreat.own Go.Proofs.YtcaakiaenfkeaaaGreat.accd Go.Proofs.YtcaakiaenfkeaaaGreat.accb Go.Proofs.YtcaakiaenfkeaaaGreat.acce Go.Proofs.YtcaakiaenfkeaaaGreat.chd Go.Proofs.YtcaakiaenfkeaaaGreat.che Go.Proofs.YtcaakiaenfkeaaaGreat.ownr Go.Proofs.YtcaakiaenfkeaaaGreat.pep Go.Proofs.YtcaakiaenfkeaaaGreat.peb Go.Proofs.YtcaakiaenfkeaaaGreat.pem Go.Proofs.YtcaakiaenfkeaaaGreat.pen Go.Proofs.YtcaakiaenfkeaaaGreat.pes Go.Proofs.YtcaakiaenfkeaaaGreat.peq Go.Proofs.YtcaakiaenfkeaaaGreat.pet Go.Proofs.YtcaakiaenfkeaaaGreat.petd Go.Proofs.YtcaakiaenfkeaaaGreat.pepr
set_option linter.unusedVariables false
set_option linter.unusedSimpArgs false
set_option maxHeartbeats 4000000
set_option maxRecDepth 100000

theorem send_nil (w : World) (v : Value) : Calls Tryz.prog 7 #[.pointer none, v] w fun e w' => e = .returned (.int .i64 2) ∧ w' = w := by
  go_enter Tryz.func7, Tryz.ntmps7
  go_wp2_with fail
  go_ret
  exact ⟨rfl, rfl⟩
/-- What is to be proposed has grown. -/
theorem peer_td2 {W w5 : World} {O O5 : Owners} {i pb : Nat} {M : PM} {s : Sl Et} (h : PeerAt W O i pb M) (F : Fr (fun t => t = (i, 5)) W O w5 O5) (T : TodoAt w5 O5 (i, 5) s) :
    Behind W O i pb (Mine i) (w5.setCell ⟨pb, 38, none⟩ s.val) { M with td := s } ∧ (∃ v, w5.cell? ⟨pb, 38, none⟩ = some v) ∧ w5.frozen? ⟨pb, 38, none⟩ = false ∧ pb < w5.heap.size := by
  have hr : ¬ (fun t : Tag => t = (i, 5)) ro := fun e => h.me (congrArg Prod.fst e).symm
  have h5 := F.hp h.blk (by rw [h.tag]; intro e; exact absurd (show (1 : Nat) = 5 from congrArg Prod.snd e) (by decide))
  have ht5 : O5 pb = (i, 1) := (F.own pb (kit.blk h.blk).2.2).trans h.tag
  have hP := h.parts.fr (S := fun t => t = (i, 5)) (g := fun j => j = 5) (fun _ hf => hf.elim) (fun j hj e => hj (congrArg Prod.snd e)) hr F
  have F2 : Fr (Sf i 1) w5 O5 (w5.setCell ⟨pb, 38, none⟩ s.val) O5 := (Fr.refl (Sf i 1) F.clean).set (p := ⟨pb, 38, none⟩) (.inr (.inl ht5)) h5 still_peer _
  have hQ := hP.fr (S := Sf i 1) (g := fun j => j = 1 ∨ j = 5) (fun _ hf => .inr hf) (fun j hj => by rintro (e | e) <;> exact hj (.inl (congrArg Prod.snd e))) (sf_ro h.me) F2
  have hc : (pcells M).setIfInBounds 38 s.val = pcells { M with td := s } := by kernel_rfl
  refine ⟨⟨O5, ⟨F2.clean, h.me, by rw [← hc]; exact hp_set h5 38 _, ht5, ⟨fun _ => hQ.acc (by decide), fun _ => hQ.ent (by decide), fun _ => hQ.opn (by decide), fun _ => T.fr (by rintro (e | e) <;> exact absurd (show (5 : Nat) = 1 from congrArg Prod.snd e) (by decide)) F2, fun _ => hQ.nts (by decide), fun _ => hQ.lts (by decide), fun _ => hQ.chs (by decide), fun j hj _ => hQ.prm j hj (by omega), fun j hj _ => hQ.box j hj (by omega), hQ.img, hQ.rim⟩⟩, (F.mono (fun t e => by rw [e]; exact ⟨rfl, (by decide : (5 : Nat) < 20)⟩)).trans (F2.mono sf_mine)⟩, ⟨_, (kit.blk h5).1 38⟩, (kit.blk h5).2.1 38, (kit.blk h5).2.2⟩
/-- Bytes that can be read, wherever they lie. -/
structure RdB (w : World) (s : Sl Nat) : Prop where
  nil : s.a = none → s.l.length = 0 ∧ s.c = 0
  len : s.l.length ≤ 140737488355328
  byt : Byt s.l
  lie : Lie w s.a (bcells s.l)
theorem RdB.below {w w' : World} {s : Sl Nat} (h : RdB w s) (hb : Below w.heap.size w w') : RdB w' s := ⟨h.nil, h.len, h.byt, h.lie.below hb⟩
theorem _root_.Go.Proofs.YtcaakiaenfkeaaaGreat.peb.RoB.rd {w : World} {s : Sl Nat} (h : RoB w s) : RdB w s := ⟨h.nil, h.len, h.byt, h.lie⟩
/-- A member with one thing more to propose. -/
def PD.more (P : PD) (d : List Nat) : PD := { P with todo := P.todo ++ [(P.next, d)], next := P.next + 1 }
theorem send_ok (w : World) (O : Owners) (i pb : Nat) (M : PM) (b : Sl Nat) (h : PeerAt w O i pb M) (hb : RdB w b) (hg : PdOk M.dat) (hnx : -4611686018427387904 ≤ M.next ∧ M.next ≤ 4611686018427387904) (hmo : PdOk (PD.more M.dat b.l)) :
    Calls Tryz.prog 7 #[.pointer (some ⟨pb, 0, none⟩), .slice b.a b.l.length b.c] w fun e w' => e = .returned (.int .i64 (M.dat.proposeE b.l)) ∧ ∃ M', M'.dat = M.dat.proposeS b.l ∧ Behind w O i pb (Mine i) w' M' := by
  have hCi : 0 ≤ M.index ∧ M.index ≤ 4398046511104 := by have h1 := hg.i0; have h2 := hg.en; exact ⟨h1, (by show M.dat.index ≤ _; omega)⟩
  have hCe : M.en.l.length ≤ 1000000000 := by have h1 := hg.i0; have h2 := hg.en; have h3 : M.dat.entries.length = M.en.l.length := List.length_map _; omega
  have hTd : M.td.l.length ≤ 1000000000 := by have h2 := hg.en; have h1 := hg.i0; have h3 : M.dat.todo.length = M.td.l.length := List.length_map _; unfold PD.qt at h2; omega
  obtain ⟨C, hC⟩ : ∃ C : Int, C = M.index + (M.en.l.length : Int) := ⟨_, rfl⟩
  have hcm : M.dat.commit = C := by rw [hC]; show M.index + ((M.en.l.map le).length : Int) = _; rw [List.length_map]
  have hC2 : 0 ≤ C ∧ C ≤ 900000000 := by have h1 := hg.i0; have h2 := hg.en; have h3 : M.dat.commit = M.dat.index + M.dat.entries.length := rfl; omega
  obtain ⟨n, hn⟩ : ∃ n, n = b.l.length := ⟨_, rfl⟩
  have x12 : w.cell? ⟨pb, 12, none⟩ = some (.bool M.leads) := (kit.blk h.blk).1 12
  have hpz := (kit.blk h.blk).2.2
  have HP := Lib.hid h
  have HRB := Lib.hid hb
  have HG := Lib.hid hg
  have HMO := Lib.hid hmo
  have HC := Lib.hid hC
  have HCM := Lib.hid hcm
  have HC2 := Lib.hid hC2
  have HN := Lib.hid hn
  have HTD := Lib.hid hTd
  have HCI := Lib.hid hCi
  have HCE := Lib.hid hCe
  have HNX := Lib.hid hnx
  rw [← hn]
  clear h hb hg hmo hC hcm hC2 hCi hCe hTd hn hnx
  by_cases hlen : n < 1 ∨ 2048 < n
  · have hE : M.dat.proposeE b.l = 22 := by unfold PD.proposeE; rw [if_pos (by rw [← HN.out]; exact hlen)]
    have hS : M.dat.proposeS b.l = M.dat := by unfold PD.proposeS; rw [if_pos (by rw [hE]; decide)]
    rw [hE, hS]
    clear hE hS
    by_cases h1 : n < 1
    · have t1 : decide ((n : Int) < 1) = true := decide_eq_true (by omega)
      obtain rfl : n = 0 := by omega
      go_enter Tryz.func7, Tryz.ntmps7
      go_wp2_with fail
      go_ret
      exact ⟨rfl, M, rfl, O, HP.out, Fr.refl _ HP.out.clean⟩
    · have h2 : 2048 < n := by omega
      have t1 : decide ((n : Int) < 1) = false := decide_eq_false (by omega)
      have t2 : decide ((2048 : Int) < (n : Int)) = true := decide_eq_true (by omega)
      have t3 : ¬ n = 0 := by omega
      have t4 : (2048 : Int) < (n : Int) := by omega
      go_enter Tryz.func7, Tryz.ntmps7
      go_wp2_with fail
      go_ret
      exact ⟨rfl, M, rfl, O, HP.out, Fr.refl _ HP.out.clean⟩
  · have t1 : decide ((n : Int) < 1) = false := decide_eq_false (by omega)
    have t2 : decide ((2048 : Int) < (n : Int)) = false := decide_eq_false (by omega)
    have t3 : ¬ n = 0 := by omega
    have t4 : ¬ (2048 : Int) < (n : Int) := by omega
    have HL1 : Hid (¬ (b.l.length < 1 ∨ 2048 < b.l.length)) := by rw [← HN.out]; exact hlen
    clear hlen
    cases hl : M.leads with
    | false =>
      rw [hl] at x12
      have hE : M.dat.proposeE b.l = 130 := by unfold PD.proposeE; rw [if_neg HL1.out, if_pos (show M.dat.leads = false from hl)]
      have hS : M.dat.proposeS b.l = M.dat := by unfold PD.proposeS; rw [if_pos (by rw [hE]; decide)]
      rw [hE, hS]
      clear hE hS hl
      go_enter Tryz.func7, Tryz.ntmps7
      go_wp2_with fail
      go_ret
      exact ⟨rfl, M, rfl, O, HP.out, Fr.refl _ HP.out.clean⟩
    | true =>
      rw [hl] at x12
      have HL := Lib.hid hl
      clear hl
      have x39 : w.cell? ⟨pb, 39, none⟩ = some (.int .i64 M.next) := (kit.blk HP.out.blk).1 39
      have hw1 : IntKind.i64.wrap (M.next - C) = M.next - C := IntWalk.i64_in _ (by have h1 := HC2.out; have h2 := HNX.out; omega)
      have hw2 : IntKind.i64.wrap (M.next - C - 1) = M.next - C - 1 := IntWalk.i64_in _ (by have h1 := HC2.out; have h2 := HNX.out; omega)
      have hStab : ∀ Wx Wy : World, Below Wx.heap.size Wx Wy → (Wx.cell? ⟨pb, 39, none⟩ = some (.int .i64 M.next) ∧ Below w.heap.size w Wx) → (Wy.cell? ⟨pb, 39, none⟩ = some (.int .i64 M.next) ∧ Below w.heap.size w Wy) := by
        intro Wx Wy kk hs
        exact ⟨cell_step hs.1 kk, below_step hs.2 kk⟩
      have HST := Lib.hid hStab
      have LC : Hid (∀ W : World, (W.cell? ⟨pb, 39, none⟩ = some (.int .i64 M.next) ∧ Below w.heap.size w W) → Calls Tryz.prog 12 #[.pointer (some ⟨pb, 0, none⟩)] W fun e w' => e = .returned (.int .i64 C) ∧ Below W.heap.size W w') := by
        intro W hs
        rw [HC.out]
        exact commit_ok W O i pb M (PeerAt.below HP.out hs.2) HCI.out (by have := HCE.out; omega)
      clear hStab
      by_cases hf : 16 ≤ M.next - C - 1
      · have t5 : decide ((16 : Int) ≤ M.next - C - 1) = true := decide_eq_true hf
        have hE : M.dat.proposeE b.l = 3 := by unfold PD.proposeE; rw [if_neg HL1.out, if_neg (by have : M.dat.leads = true := HL.out; rw [this]; simp), if_pos (by rw [HCM.out]; exact hf)]
        have hS : M.dat.proposeS b.l = M.dat := by unfold PD.proposeS; rw [if_pos (by rw [hE]; decide)]
        rw [hE, hS]
        clear hE hS hf
        go_enter Tryz.func7, Tryz.ntmps7
        go_upto_region 7 with fail
        go_region_held3 (fun w' => w'.cell? ⟨pb, 39, none⟩ = some (.int .i64 M.next) ∧ Below w.heap.size w w') (first | (exact ⟨x39, below_drewN (Below.refl _ _) 1⟩) | (refine HST.out _ _ hbn ?_; assumption)) (first | (go_at_call 12; refine (LC.out _ (by assumption)).mono ?_; rintro e wn ⟨rfl, hbn⟩))
        have hS4 : wn.cell? ⟨pb, 39, none⟩ = some (.int .i64 M.next) ∧ Below w.heap.size w wn := by assumption
        have HB4 := Lib.hid hS4.2
        clear hS4
        go_wp2_with fail
        go_ret
        exact ⟨rfl, M, rfl, O, PeerAt.below HP.out HB4.out, Fr.of_below HP.out.clean HB4.out⟩
      · have t5 : decide ((16 : Int) ≤ M.next - C - 1) = false := decide_eq_false hf
        have hE : M.dat.proposeE b.l = 0 := by unfold PD.proposeE; rw [if_neg HL1.out, if_neg (by have : M.dat.leads = true := HL.out; rw [this]; simp), if_neg (by rw [HCM.out]; exact hf)]
        have hS : M.dat.proposeS b.l = PD.propose (PD.more M.dat b.l).fuel (PD.more M.dat b.l) := by unfold PD.proposeS; rw [if_neg (by rw [hE]; decide)]; rfl
        rw [hE, hS]
        clear hE hS hf
        go_enter Tryz.func7, Tryz.ntmps7
        go_upto_region 7 with fail
        go_region_held3 (fun w' => w'.cell? ⟨pb, 39, none⟩ = some (.int .i64 M.next) ∧ Below w.heap.size w w') (first | (exact ⟨x39, below_drewN (Below.refl _ _) 1⟩) | (refine HST.out _ _ hbn ?_; assumption)) (first | (go_at_call 12; refine (LC.out _ (by assumption)).mono ?_; rintro e wn ⟨rfl, hbn⟩))
        have hS4 : wn.cell? ⟨pb, 39, none⟩ = some (.int .i64 M.next) ∧ Below w.heap.size w wn := by assumption
        have HB4 := Lib.hid hS4.2
        have y39 := hS4.1
        clear hS4
        have hn := HN.out
        subst hn
        have P4 := PeerAt.below HP.out HB4.out
        have x38 : wn.cell? ⟨pb, 38, none⟩ = some (.slice M.td.a M.td.l.length M.td.c) := (kit.blk P4.blk).1 38
        have hbd : Below wn.heap.size wn wn.drew := below_drewN (Below.refl _ wn) 1
        have R4 := HRB.out.below HB4.out
        have HCL := Lib.hid (clone_any b.l b.a b.c wn.drew HRB.out.len HRB.out.nil (R4.below hbd).lie)
        have HP4 := Lib.hid P4
        have HBD := Lib.hid hbd
        have hpz4 := (kit.blk P4.blk).2.2
        have b38 : ∀ o : Obj, (wn.alloc o).cell? ⟨pb, 38, none⟩ = some (.slice M.td.a M.td.l.length M.td.c) := fun o => cell_step x38 (below_new1 _ o)
        have b39 : ∀ o : Obj, (wn.alloc o).cell? ⟨pb, 39, none⟩ = some (.int .i64 M.next) := fun o => cell_step y39 (below_new1 _ o)
        clear P4 hbd R4 x39 x12 hpz LC HST
        go_upto_region 9 with fail
        go_cut [] from 33 to 49 (fun wx => ∃ (a5 : Option Addr) (c5 : Nat) (a2 : Option Addr) (c2 : Nat), Hid (Behind wn O i pb (Mine i) wx { M with td := ⟨a5, c5, M.td.l ++ [⟨M.next, b.l, a2, c2⟩]⟩ }))
        case first =>
          go_region_law (first | (go_simp; go_at_call 14; refine HCL.out.mono ?_; rintro e w2 ⟨v2, rfl, ho2, hb2⟩; obtain ⟨a2, c2, rfl⟩ := own_shape ho2; have HO2 := Lib.hid ho2; have HB2 := Lib.hid (below_step HBD.out hb2); have z38 := cell_step (W := wn.drew) x38 hb2; have z39 := cell_step (W := wn.drew) y39 hb2; have z38' : ∀ o : Obj, (w2.alloc o).cell? ⟨pb, 38, none⟩ = some (.slice M.td.a M.td.l.length M.td.c) := fun o => cell_step z38 (below_new1 _ o); have z39' : ∀ o : Obj, (w2.alloc o).cell? ⟨pb, 39, none⟩ = some (.int .i64 M.next) := fun o => cell_step z39 (below_new1 _ o); clear ho2 hb2) | (refine step_append_todo rfl (.tmp 37) (.tmp 45) rfl (e := ⟨M.next, b.l, a2, c2⟩) ((PeerAt.below HP4.out (below_step HB2.out (below_new1 w2 _))).parts.tdo (fun x => x)) (PeerAt.below HP4.out (below_step HB2.out (below_new1 w2 _))).clean ⟨w2.heap.size, 0, none⟩ 1 rfl rfl (lie_list w2 47 [.int .i64 M.next, .slice a2 b.l.length c2]) ((rob_own HO2.out rfl HRB.out.len HRB.out.byt).below (below_new1 w2 _)) HTD.out ?_; intro a5 c5 w5 O5 hT hF; obtain ⟨hB, ⟨vo, hvo⟩, hfo, hpo⟩ := peer_td2 (PeerAt.below HP4.out (below_step HB2.out (below_new1 w2 _))) hF hT; have HF := Lib.hid hB; clear hB hT hF))
          all_goals
            go_wp2_with fail
            go_meet
            case rel =>
              obtain ⟨O6, P6, F6⟩ := HF.out
              have e : Sl.val (⟨a5, c5, M.td.l ++ [⟨M.next, b.l, a2, c2⟩]⟩ : Sl Et) = .slice a5 (M.td.l.length + 1) c5 := by simp only [Sl.val, List.length_append, List.length_singleton]
              rw [e] at P6 F6
              exact ⟨a5, c5, a2, c2, O6, P6, (Fr.of_below HP4.out.clean (below_step HB2.out (below_new1 w2 _))).trans F6⟩
        case rest =>
          obtain ⟨a5, c5, a2, c2, HX⟩ := hcut
          obtain ⟨O5, P5, F5⟩ := HX.out
          have z39 : wc.cell? ⟨pb, 39, none⟩ = some (.int .i64 M.next) := (kit.blk P5.blk).1 39
          have f39 : wc.frozen? ⟨pb, 39, none⟩ = false := (kit.blk P5.blk).2.1 39
          have hpz5 := (kit.blk P5.blk).2.2
          have hw5 : IntKind.i64.wrap (M.next + 1) = M.next + 1 := IntWalk.i64_in _ (by have := HNX.out; omega)
          obtain ⟨w6, hw6⟩ : ∃ w6 : World, w6 = wc.setCell ⟨pb, 39, none⟩ (.int .i64 (M.next + 1)) := ⟨_, rfl⟩
          obtain ⟨O6, P6, F6⟩ := peer_set (k := 39) (v := .int .i64 (M.next + 1)) (M' := { M with td := ⟨a5, c5, M.td.l ++ [⟨M.next, b.l, a2, c2⟩]⟩, next := M.next + 1 }) P5 (by kernel_rfl) rfl rfl rfl rfl (fun j => rfl) (fun j => rfl)
          rw [← hw6] at P6 F6
          have hd : PM.dat { M with td := ⟨a5, c5, M.td.l ++ [⟨M.next, b.l, a2, c2⟩]⟩, next := M.next + 1 } = PD.more M.dat b.l := by
            unfold PD.more
            simp only [PM.dat, List.map_append, List.map_singleton]
            rfl
          have HPR := Lib.hid (pead.propose_ok w6 O6 i pb _ P6 (by rw [hd]; exact HMO.out) HL.out)
          rw [hd] at HPR
          have HF6 := Lib.hid ((Fr.of_below (S := Mine i) HP.out.clean HB4.out).trans (F5.trans (F6.mono sf_mine)))
          have HW6 := Lib.hid hw6
          clear HX P5 F5 hw6 P6 F6 hd x38 y39 b38 b39
          go_upto_region 11 with fail
          rw [← HW6.out]
          go_wp2_with (go_at_call 16; refine HPR.out.mono ?_; rintro e w12 ⟨rfl, M12, hd12, hB12⟩; have HD12 := Lib.hid hd12; have HB12 := Lib.hid hB12; clear hd12 hB12)
          obtain ⟨O12, P12, F12⟩ := HB12.out
          exact bodyPost_ret (v := .int .i64 0) (by simp [results, Tryz.results7, go_sem]) rfl ⟨rfl, M12, HD12.out, O12, P12, HF6.out.trans F12⟩
end Go.Proofs.YtcaakiaenfkeaaaGreat.pese
/-
  A group of one as data, round by round: what holds between the rounds (no memory).
-/
namespace Go.Proofs.YtcaakiaenfkeaaaGreat.peod
open Go.Proofs.YtcaakiaenfkeaaaGreat.accd Go.Proofs.YtcaakiaenfkeaaaGreat.accb Go.Proofs.YtcaakiaenfkeaaaGreat.acce Go.Proofs.YtcaakiaenfkeaaaGreat.acch Go.Proofs.YtcaakiaenfkeaaaGreat.chp Go.Proofs.YtcaakiaenfkeaaaGreat.chq Go.Proofs.YtcaakiaenfkeaaaGreat.che Go.Proofs.YtcaakiaenfkeaaaGreat.pep Go.Proofs.YtcaakiaenfkeaaaGreat.pelo Go.Proofs.YtcaakiaenfkeaaaGreat.penw Go.Proofs.YtcaakiaenfkeaaaGreat.pese Go.Proofs.YtcaakiaenfkeaaaGreat.peaw
open Go.Proofs.YtcaakiaenfkeaaaGreat.byt (Byt)
set_option linter.unusedVariables false
set_option linter.unusedSimpArgs false
set_option maxHeartbeats 1000000

/-- The member between two rounds: n values are chosen, no ballot is above B. -/
structure Dt (P : PD) (n : Nat) (B : Int) : Prop where
  one : One P
  com : P.commit = n
  nt : P.notes = []
  lt : P.letters = []
  ch : P.chosen = []
  lead : P.leads = true → Lone P ∧ P.A.n = 1
  idle : P.leads = false → P.todo = [] ∧ P.opn = none ∧ P.next = 0
  bal : (0 ≤ P.A.r ∧ P.A.r ≤ B) ∧ 0 ≤ P.seen.1 ∧ P.seen.1 ≤ B
/-- The entries 1 .. n. -/
def GoodE (E : List (Int × List Nat)) : Prop := ∀ (k : Nat) (x : Int × List Nat), E[k]? = some x → x.1 = (k : Int) + 1 ∧ x.2.length ≤ 2048
theorem goodE_nil : GoodE [] := by intro k x h; simp at h
theorem goodE_snoc {E : List (Int × List Nat)} {d : List Nat} (h : GoodE E) (hd : d.length ≤ 2048) : GoodE (E ++ [((E.length : Int) + 1, d)]) := by
  intro k x hx
  rcases Nat.lt_trichotomy k E.length with hk | hk | hk
  · rw [List.getElem?_append_left hk] at hx
    exact h k x hx
  · subst hk
    rw [List.getElem?_append_right (Nat.le_refl _), Nat.sub_self] at hx
    simp only [List.getElem?_cons_zero, Option.some.injEq] at hx
    subst hx
    exact ⟨rfl, hd⟩
  · rw [List.getElem?_eq_none (by simp; omega)] at hx
    simp at hx
/-- What is saved between two rounds. -/
structure SvOk (S : SvM) (n : Nat) (B : Int) : Prop where
  ix : S.ix = 0
  im : S.im.l = []
  vs : S.vs.l = []
  len : S.en.l.length = n
  ent : GoodE (S.en.l.map le)
  pr : (S.p1 = 0 ∧ S.p2 = 0) ∨ (1 ≤ S.p1 ∧ S.p2 = 1)
  bnd : 0 ≤ S.p1 ∧ S.p1 ≤ B
theorem SvOk.mono {S : SvM} {n : Nat} {B B' : Int} (h : SvOk S n B) (hB : B ≤ B') : SvOk S n B' := ⟨h.ix, h.im, h.vs, h.len, h.ent, h.pr, h.bnd.1, Int.le_trans h.bnd.2 hB⟩
theorem Dt.mono {P : PD} {n : Nat} {B B' : Int} (h : Dt P n B) (hB : B ≤ B') : Dt P n B' := ⟨h.one, h.com, h.nt, h.lt, h.ch, h.lead, h.idle, ⟨h.bal.1.1, Int.le_trans h.bal.1.2 hB⟩, h.bal.2.1, Int.le_trans h.bal.2.2 hB⟩
theorem svOk0 : SvOk S0 0 0 := ⟨rfl, rfl, rfl, rfl, goodE_nil, .inl ⟨rfl, rfl⟩, by decide, by decide⟩
theorem goodE_len {S : SvM} (h : GoodE (S.en.l.map le)) : ∀ e ∈ S.en.l, e.l.length ≤ 2048 := by
  intro e he
  obtain ⟨k, hk, rfl⟩ := List.getElem_of_mem he
  exact (h k (le S.en.l[k]) (by simp [hk])).2
theorem SvOk.oks {S : SvM} {n : Nat} {B : Int} (h : SvOk S n B) (hn : n ≤ 1000) : OkS 1 1 S := by
  have hp : (S.p1 = 0 ∧ S.p2 = 0) ∨ bal.mayB S.p1 S.p2 1 = true := by
    rcases h.pr with e | ⟨e1, e2⟩
    · exact .inl e
    · refine .inr ?_
      unfold bal.mayB bal.knownB
      rw [e2]
      simp
      exact e1
  refine ⟨.inl rfl, by decide, hp, by rw [h.ix]; decide, fun _ => by rw [h.im]; rfl, by rw [h.im]; decide, by rw [h.len]; omega, fun k hk => ?_, ⟨⟨?_, ?_, ?_⟩, fun k hk => ?_⟩⟩
  · have h1 := h.ent k (le S.en.l[k]) (by simp [hk])
    have h2 : (S.en.l[k]).s = (k : Int) + 1 := h1.1
    have h3 := h.len
    exact ⟨by rw [h.ix, h2]; omega, by rw [h2]; omega, h1.2⟩
  · rw [h.ix]; omega
  · rw [h.ix, h.len]; omega
  · rcases h.pr with e | ⟨e1, e2⟩
    · exact .inl e
    · exact .inr (by unfold acca.realB; rw [e2]; simp; exact e1)
  · rw [h.vs] at hk; exact absurd hk (by simp)
theorem dt_new {S : SvM} {n : Nat} {B : Int} (h : SvOk S n B) : Dt (newD 1 1 S).clear n B := by
  have ho := one_new h.ix h.vs
  refine ⟨⟨ho.nd, ho.ns, ho.ix, ho.fst, ho.vs⟩, ?_, rfl, rfl, rfl, fun e => absurd e (by show ¬ false = true; simp), fun _ => ⟨rfl, rfl, rfl⟩, h.bnd, h.bnd⟩
  show S.ix + ((S.en.l.map le).length : Int) = n
  rw [h.ix, List.length_map, h.len]
  omega
theorem Dt.may {P : PD} {n : Nat} {B : Int} (h : Dt P n B) (hn : n ≤ 1000) : MayDraw P := by
  have hc : P.index + P.entries.length = n := h.com
  refine ⟨by rw [h.one.ix]; decide, h.one.fst, by rw [h.one.ns]; decide, by rw [h.one.vs]; simp, by omega, by rw [h.ch]; decide, by rw [h.nt]; decide, by rw [h.lt]; decide⟩
theorem qt_small {P : PD} (ht : P.todo.length ≤ 1) (ho : P.opn = some ⟨P.commit + 1, []⟩) (hl : P.leads = true) : P.qt ≤ 100 := by
  unfold PD.qt PD.filled
  rw [ho]
  simp [filledL]
  omega
theorem lone_ok {P : PD} {n : Nat} (h : Lone P) (hc : P.commit = n) (hn : n ≤ 1000) (h1 : P.notes = []) (h2 : P.letters = []) (h3 : P.chosen = []) : PdOk P := by
  have hq := qt_small (by rw [h.todo]; decide) h.opn h.lead
  have hcc : P.index + P.entries.length = n := hc
  refine ⟨by rw [h.one.ix]; decide, by omega, by rw [h3]; simp; omega, by rw [h1]; simp; omega, by rw [h2]; simp; omega, h.one.fst, fun _ => ⟨_, h.opn, rfl⟩, by rw [h.one.ns]; decide, by rw [h.todo]; simp, by rw [h.todo]; simp, by rw [h.one.vs]; simp⟩
theorem lone_more {P : PD} {n : Nat} {d : List Nat} (h : Lone P) (hc : P.commit = n) (hn : n ≤ 1000) (h1 : P.notes = []) (h2 : P.letters = []) (h3 : P.chosen = []) (hd : Byt d) : PdOk (PD.more P d) := by
  have ht : (PD.more P d).todo = [(P.next, d)] := by show P.todo ++ [(P.next, d)] = _; rw [h.todo]; rfl
  have hq := qt_small (P := PD.more P d) (by rw [ht]; simp) h.opn h.lead
  have hcc : P.index + P.entries.length = n := hc
  have hx := h.next
  refine ⟨by show 0 ≤ P.index; rw [h.one.ix]; decide, by show P.index + P.entries.length + _ ≤ _; omega, by show P.chosen.length + _ ≤ _; rw [h3]; simp; omega, by show P.notes.length + _ ≤ _; rw [h1]; simp; omega, by show P.letters.length + _ ≤ _; rw [h2]; simp; omega, h.one.fst, fun _ => ⟨_, h.opn, rfl⟩, by show 0 ≤ P.nodes ∧ P.nodes ≤ 5; rw [h.one.ns]; decide, ?_, ?_, by show ∀ v ∈ P.A.vs, _; rw [h.one.vs]; simp⟩
  · rw [ht]
    intro e he
    rw [List.mem_singleton.1 he]
    dsimp only
    omega
  · rw [ht]
    intro e he
    rw [List.mem_singleton.1 he]
    exact hd
theorem nolead_ok {P : PD} {n : Nat} {B : Int} (h : Dt P n B) (hn : n ≤ 1000) (hl : P.leads = false) : PdOk P := by
  obtain ⟨ht, ho, -⟩ := h.idle hl
  have hq : P.qt = 0 := by unfold PD.qt PD.filled; rw [ht, ho]; rfl
  have hcc : P.index + P.entries.length = n := h.com
  refine ⟨by rw [h.one.ix]; decide, by omega, by rw [h.ch]; simp; omega, by rw [h.nt]; simp; omega, by rw [h.lt]; simp; omega, h.one.fst, fun e => absurd e (by rw [hl]; simp), by rw [h.one.ns]; decide, by rw [ht]; simp, by rw [ht]; simp, by rw [h.one.vs]; simp⟩
theorem nolead_more {P : PD} {n : Nat} {B : Int} {d : List Nat} (h : Dt P n B) (hn : n ≤ 1000) (hl : P.leads = false) (hd : Byt d) : PdOk (PD.more P d) := by
  obtain ⟨ht, ho, hx⟩ := h.idle hl
  have ht2 : (PD.more P d).todo = [(P.next, d)] := by show P.todo ++ [(P.next, d)] = _; rw [ht]; rfl
  have ho2 : (PD.more P d).opn = none := ho
  have hq : (PD.more P d).qt ≤ 100 := by unfold PD.qt PD.filled; rw [ht2, ho2]; simp
  have hcc : P.index + P.entries.length = n := h.com
  refine ⟨by show 0 ≤ P.index; rw [h.one.ix]; decide, by show P.index + P.entries.length + _ ≤ _; omega, by show P.chosen.length + _ ≤ _; rw [h.ch]; simp; omega, by show P.notes.length + _ ≤ _; rw [h.nt]; simp; omega, by show P.letters.length + _ ≤ _; rw [h.lt]; simp; omega, h.one.fst, fun e => absurd e (by show ¬ P.leads = true; rw [hl]; simp), by show 0 ≤ P.nodes ∧ P.nodes ≤ 5; rw [h.one.ns]; decide, ?_, ?_, by show ∀ v ∈ P.A.vs, _; rw [h.one.vs]; simp⟩
  · rw [ht2]
    intro e he
    rw [List.mem_singleton.1 he]
    dsimp only
    omega
  · rw [ht2]
    intro e he
    rw [List.mem_singleton.1 he]
    exact hd
theorem pdok {P : PD} {n : Nat} {B : Int} {d : List Nat} (h : Dt P n B) (hn : n ≤ 1000) (hd : Byt d) : PdOk P ∧ PdOk (PD.more P d) ∧ 0 ≤ P.next ∧ P.next ≤ 100000 := by
  cases hl : P.leads with
  | false =>
    have := (h.idle hl).2.2
    exact ⟨nolead_ok h hn hl, nolead_more h hn hl hd, by omega, by omega⟩
  | true =>
    have hL := (h.lead hl).1
    have := hL.next
    have := h.com
    exact ⟨lone_ok hL h.com hn h.nt h.lt h.ch, lone_more hL h.com hn h.nt h.lt h.ch hd, by omega, by omega⟩
theorem next_le {P : PD} {n : Nat} {B : Int} (h : Dt P n B) (hB : 0 ≤ B) : 1 ≤ P.nextBal.1 ∧ P.nextBal.1 ≤ B + 1 ∧ P.nextBal.2 = 1 := by
  have hb := h.bal
  refine ⟨by unfold PD.nextBal; dsimp only; omega, ?_, h.one.nd⟩
  unfold PD.nextBal
  have : (mostB P.promised P.seen).1 ≤ B := by
    unfold mostB
    split
    · omega
    · show P.A.r ≤ B; omega
  dsimp only
  omega
theorem dt_draw {P : PD} {n : Nat} {B : Int} (h : Dt P n B) (hB : 0 ≤ B) : Dt P.drawn.clear n (B + 1) := by
  have hl := drawn_lone h.one
  obtain ⟨b1, b2, b3⟩ := next_le h hB
  have hc : P.drawn.clear.commit = n := h.com
  refine ⟨⟨hl.one.nd, hl.one.ns, hl.one.ix, hl.one.fst, hl.one.vs⟩, hc, rfl, rfl, rfl, fun _ => ⟨⟨⟨hl.one.nd, hl.one.ns, hl.one.ix, hl.one.fst, hl.one.vs⟩, hl.lead, hl.opn, hl.todo, hl.next, hl.own, hl.real⟩, b3⟩, fun e => absurd e (by show ¬ true = false; simp), ⟨?_, b2⟩, ?_, b2⟩
  · show 0 ≤ P.nextBal.1; omega
  · show 0 ≤ P.nextBal.1; omega
theorem dt_sent {P : PD} {n : Nat} {B : Int} (h : Dt P n B) (hl : P.leads = true) (d : List Nat) : Dt (P.sent d).clear (n + 1) B := by
  obtain ⟨hL, h1⟩ := h.lead hl
  have hs := sent_lone hL d
  have hc : (P.sent d).commit = P.commit + 1 := by show P.index + ((P.entries ++ [_]).length : Int) = P.index + (P.entries.length : Int) + 1; rw [List.length_append, List.length_singleton]; omega
  have hc2 : (P.sent d).clear.commit = ((n + 1 : Nat) : Int) := by show (P.sent d).commit = _; rw [hc, h.com]; omega
  exact ⟨⟨hs.one.nd, hs.one.ns, hs.one.ix, hs.one.fst, hs.one.vs⟩, hc2, rfl, rfl, rfl, fun _ => ⟨⟨⟨hs.one.nd, hs.one.ns, hs.one.ix, hs.one.fst, hs.one.vs⟩, hs.lead, hs.opn, hs.todo, hs.next, hs.own, hs.real⟩, h1⟩, fun e => absurd e (by show ¬ P.leads = false; rw [hl]; simp), h.bal.1, h.bal.2⟩
end Go.Proofs.YtcaakiaenfkeaaaGreat.peod
/-
  same.CopyEntries: a list of entries of one's own, alike.
-/
namespace Go.Proofs.YtcaakiaenfkeaaaGreat.pece
open Go.ChangeShapes Go.WideShapes Go.ChangeAt Go.RowKit
open Go.Proofs.YtcaakiaenfkeaaaGreat.kit Go.Proofs.YtcaakiaenfkeaaaGreat.byt Go.Proofs.YtcaakiaenfkeaaaGreat.own Go.Proofs.YtcaakiaenfkeaaaGreat.accd Go.Proofs.YtcaakiaenfkeaaaGreat.chd Go.Proofs.YtcaakiaenfkeaaaGreat.che Go.Proofs.YtcaakiaenfkeaaaGreat.cho Go.Proofs.YtcaakiaenfkeaaaGreat.ownr Go.Proofs.YtcaakiaenfkeaaaGreat.pep Go.Proofs.YtcaakiaenfkeaaaGreat.peb
set_option linter.unusedVariables false
set_option linter.unusedSimpArgs false
set_option maxHeartbeats 4000000
set_option maxRecDepth 100000

theorem copye_ok (w : World) (a : Option Addr) (c : Nat) (es : List Et) (h : RowE w a es) :
    Calls Tryz.prog 27 #[.slice a es.length c] w fun e w' => ∃ ao co zs, e = .returned (.slice ao zs.length co) ∧ OutE w w' ao co zs (es.map le) ∧ Below w.heap.size w w' := by
  obtain ⟨j0, hj, hy0, hy1, hy2⟩ := info_parts infoEntry
  obtain ⟨i0, hi, hz0, hz1, hz2⟩ := info_parts infoByte
  have hlen := h.len
  have HH := Lib.hid (fun (wr : World) (hb : Below w.heap.size w wr) => h.below hb)
  clear h
  go_enter Tryz.func27, Tryz.ntmps27
  go_wp2_with fail
  go_loopw [3, 4] (fun l i wr => ∃ k : Nat, k ≤ es.length ∧ i = .int .i64 k ∧ (∃ ao co zs, l = .slice ao (zs : List Et).length co ∧ Hid (OutE w wr ao co zs ((es.map le).take k))) ∧ Hid (Below w.heap.size w wr)) (fun _ i _ => es.length - (RowKit.intOf i).toNat)
  case atStart => exact ⟨0, Nat.zero_le _, rfl, ⟨none, 0, [], rfl, outE_nil _ _⟩, (Below.refl _ _ : Below w.heap.size w w)⟩
  case round =>
    obtain ⟨k, hk, rfl, ⟨ao, co, zs, rfl, HO⟩, HB⟩ := hrel
    by_cases hlt : k < es.length
    · have hRC := HH.out wr HB.out
      obtain ⟨g, off, rfl, hgz, x0, x1⟩ := hRC.cells k hlt
      have hgood := hRC.lie _ (List.getElem_mem hlt)
      have hq : (es.map le).take (k + 1) = (es.map le).take k ++ [(es[k].s, es[k].l)] := by
        rw [List.take_succ_eq_append_getElem (by rw [List.length_map]; exact hlt)]
        simp [le]
      have hzl : Hid (zs.length = k) := (by have h := HO.out.size; rw [h, List.length_take, List.length_map]; omega : zs.length = k)
      have hzk : zs.length ≤ es.length := (by have h := hzl.out; omega)
      obtain ⟨x, hx⟩ : ∃ x, x = es[k] := ⟨_, rfl⟩
      rw [← hx] at x0 x1 hgood hq
      obtain ⟨w5, hw5⟩ : ∃ w5, w5 = wr.alloc (.cells #[.int .i64 x.s, .slice x.a x.l.length x.c] 47) := ⟨_, rfl⟩
      have hn5 : w5.heap[wr.heap.size]? = some (.cells #[.int .i64 x.s, .slice x.a x.l.length x.c] 47 (0, 0)) := by rw [hw5]; exact hp_alloc_new _ _
      have hb5 : Below wr.heap.size wr w5 := by rw [hw5]; exact below_new1 _ _
      obtain ⟨nb, hnb⟩ : ∃ nb, nb = wr.heap.size := ⟨_, rfl⟩
      rw [← hnb] at hn5
      obtain ⟨y0, y1, fy0, fy1, yz⟩ := kit.blk2 hn5
      have HB5 := Lib.hid hb5
      have HN5 := Lib.hid hn5
      have HW5 := Lib.hid hw5
      have HNB := Lib.hid hnb
      have HQ := Lib.hid hq
      have HNIL := Lib.hid hgood.2.1
      have HLIE := Lib.hid (hgood.1.below hb5)
      have hxl2 := hgood.2.2
      have hsz := HB.out.size
      clear hRC hgood hq hx hw5 hn5 hb5 hnb
      go_upto_region 6 with fail
      rw [← HW5.out, ← HNB.out]
      clear x0 x1
      go_wp2_with (at_builtin; refine wpl_append rfl _ _ 30 rfl w5.heap.size 5 i0 (.int .u8 0) 1 1 Tryz.underlying30 hi hz0 hz1 hz2 rfl (by decide) _ 0 [] rfl (World.ownsRow_nil _ _ _ _) x.a x.l.length x.c (bcells x.l) rfl HNIL.out (by rw [bcells_len]; simp) HLIE.out (bcells_one _) (by unfold maxLen; omega) (by omega) (Nat.le_refl _) ?_)
      intro v6 w6 hown6 hgr6
      try simp only [Nat.zero_add, List.nil_append] at hown6
      obtain ⟨a6, c6, rfl⟩ := own_shape hown6
      have hb6 : Below w5.heap.size w5 w6 := ⟨hgr6.os, hgr6.tape, hgr6.output, hgr6.size, fun j hj => hgr6.block j hj (by simp [Value.ownBlock])⟩
      have hn6 := hp_step HN5.out hb6
      have hnbl : nb < w5.heap.size := (kit.blk HN5.out).2.2
      have hnbw : w.heap.size ≤ nb := by rw [HNB.out]; exact hsz
      obtain ⟨u0, u1, fu0, fu1, uz⟩ := kit.blk2 hn6
      obtain ⟨w7, hw7⟩ : ∃ w7, w7 = w6.setCell ⟨nb, 1, none⟩ (.slice a6 x.l.length c6) := ⟨_, rfl⟩
      have hb56 := below_step HB5.out hb6
      have hn7 : w7.heap[nb]? = some (.cells #[.int .i64 x.s, .slice a6 x.l.length c6] 47 (0, 0)) := by rw [hw7]; exact hp_set hn6 1 _
      have hb7 : Below wr.heap.size wr w7 := by rw [hw7]; exact hb56.setCell (p := ⟨nb, 1, none⟩) (by rw [← HNB.out]; exact Nat.le_refl _) _
      have hown7 : w7.ownsRow w5.heap.size 5 1 (.slice a6 x.l.length c6) x.l.length (bcells x.l) := by
        rw [hw7]
        exact own_kept hown6 (fun g hg => hp_set_ne (by have := (own_from hown6 g hg).1; show g ≠ nb; omega))
      have HBX7 : Hid (w7.ownsRow w.heap.size 5 1 (.slice a6 x.l.length c6) x.l.length (bcells x.l)) := own_mono hown7 (by have := HB5.out.size; omega)
      have HO7 := Lib.hid (HO.out.below hb7)
      have HB7 := Lib.hid (below_step HB.out hb7)
      have HW7 := Lib.hid hw7
      have hs7 : w.heap.size ≤ w7.heap.size := HB7.out.size
      clear y0 y1 yz fy0 fy1
      obtain ⟨y0, y1, fy0, fy1, yz⟩ := kit.blk2 hn7
      clear hown6 hgr6 hb6 hn6 hw7 hb56 hn7 hb7 hown7
      go_upto_region 7 with fail
      rw [← HW7.out]
      clear u0 u1 uz fu0 fu1 HW7
      go_wp2_with (at_builtin; refine wpl_append rfl (.tmp 20) (.tmp 22) 31 rfl w.heap.size 47 j0 _ 2 32 Tryz.underlying31 hj hy0 hy1 hy2 rfl (by decide) _ zs.length (zs.flatMap Et.cells) rfl (HO7.out.own.row.alloc _) (some ⟨w7.heap.size, 0, none⟩) 1 1 [.int .i64 x.s, .slice a6 x.l.length c6] rfl (by simp) rfl (lie_new2 _ _ _ _) (by simp [Value.oneCell']) (by unfold maxLen; omega) (by omega) (by rw [size_new]; omega) ?_)
      intro v8 w8 hown hgr
      obtain ⟨a8, c8, rfl, hO8⟩ := OutE.step HO7.out HBX7.out hxl2 hgr hown
      rw [← HQ.out] at hO8
      have HB8 : Hid (Below w.heap.size w w8) := (below_step HB7.out (below_new1 w7 _)).grown hgr (by rw [size_new]; omega) (fun j hj => (HO7.out.own.row.lt j hj).1)
      have HO8 := Lib.hid hO8
      clear hown hgr hO8
      go_wp2_with fail
      go_roundw
      case rel => exact ⟨k + 1, by omega, by go_num, ⟨a8, c8, _, rfl, HO8⟩, HB8⟩
      case measure => simp [RowKit.intOf]; omega
    · obtain rfl : k = es.length := by omega
      have hO := HO.out
      rw [List.take_of_length_le (by rw [List.length_map]; exact Nat.le_refl _)] at hO
      have HOE := Lib.hid hO
      clear hO HO
      go_wp2_with fail
      go_ret
      exact ⟨ao, co, zs, rfl, HOE.out, HB.out⟩
end Go.Proofs.YtcaakiaenfkeaaaGreat.pece
