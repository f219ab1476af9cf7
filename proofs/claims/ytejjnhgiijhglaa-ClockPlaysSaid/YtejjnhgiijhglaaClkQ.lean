/-
  A clock's queue in memory: ahead, Len, Less, Swap.
-/
import Derived.Test.YtejjnhgiijhglaaHeapP
import Derived.Test.YtejjnhgiijhglaaOwn
import Derived.Test.YtejjnhgiijhglaaClk
import Derived.StillTailTactics
import Derived.Deep.CutBlock
namespace Go.Proofs.Ytejjnhgiijhglaa.clkq
open Go.ChangeShapes Go.WideShapes Go.ChangeAt Go.RowKit
open Go.Maps
open Go.Proofs.Ytejjnhgiijhglaa.kit Go.Proofs.Ytejjnhgiijhglaa.mapkit Go.Proofs.Ytejjnhgiijhglaa.own Go.Proofs.Ytejjnhgiijhglaa.clk Go.Proofs.Ytejjnhgiijhglaa.heapp
set_option linter.unusedVariables false
set_option linter.unusedSimpArgs false
set_option maxHeartbeats 1000000
set_option maxRecDepth 100000

def ptr (t : Tm) : Value := .pointer (some ⟨t.tb, 0, none⟩)
def Num (t : Tm) : Prop := (0 ≤ t.due ∧ t.due ≤ 1152921504606846976) ∧ 0 ≤ t.turn ∧ t.turn ≤ 1152921504606846976
/-- A timer in memory, at place i. -/
def TAt (w : World) (t : Tm) (i : Int) : Prop := w.heap[t.tb]? = some (.cells #[.string t.nm, .int .i64 t.due, .int .i64 t.turn, .int .i64 i] 55 (0, 0))
/-- A clock's queue in memory. -/
structure QAt (w : World) (base cb : Nat) (now turns : Int) (mv : Value) (a : Option Addr) (c : Nat) (q : List Tm) : Prop where
  lob : base ≤ cb
  blk : w.heap[cb]? = some (.cells #[.int .i64 now, .int .i64 turns, .slice a q.length c, mv] 51 (0, 0))
  row : w.ownsRow base 52 1 (.slice a q.length c) q.length (q.map ptr)
  tms : ∀ i (hi : i < q.length), TAt w q[i] i
  lot : ∀ t ∈ q, base ≤ t.tb
  num : ∀ t ∈ q, Num t
theorem QAt.below {w w' : World} {base cb : Nat} {now turns : Int} {mv : Value} {a : Option Addr} {c : Nat} {q : List Tm} (h : QAt w base cb now turns mv a c q) (hb : Below w.heap.size w w') : QAt w' base cb now turns mv a c q :=
  ⟨h.lob, hp_step h.blk hb, own_below h.row hb, fun i hi => hp_step (h.tms i hi) hb, h.lot, h.num⟩
/-- What a call on the queue may change of what was there. -/
def CQ (w : World) (base : Nat) : Nat → Prop := fun k => base ≤ k ∧ ∃ cs T f, w.heap[k]? = some (.cells cs T f) ∧ (T = 51 ∨ T = 52 ∨ T = 55)
theorem cq_trans {base : Nat} {w w1 w2 : World} (h1 : Keep (CQ w base) w w1) (h2 : Keep (CQ w1 base) w1 w2) : Keep (CQ w base) w w2 := by
  refine ⟨h2.os.trans h1.os, h2.tape.trans h1.tape, h2.output.trans h1.output, Nat.le_trans h1.size h2.size, fun k hk hn => ?_⟩
  have e1 := h1.block k hk hn
  refine (h2.block k (Nat.lt_of_lt_of_le hk h1.size) (fun hs => hn ?_)).trans e1
  obtain ⟨g1, cs, T, f, g2, g3⟩ := hs
  exact ⟨g1, cs, T, f, by rw [← e1]; exact g2, g3⟩
theorem pt_cell {w : World} {base g c : Nat} {q : List Tm} (h : w.ownsRow base 52 1 (.slice (some ⟨g, 0, none⟩) q.length c) q.length (q.map ptr)) {k : Nat} (hk : k < q.length) : w.cell? ⟨g, k, none⟩ = some (.pointer (some ⟨q[k].tb, 0, none⟩)) ∧ w.frozen? ⟨g, k, none⟩ = false := by
  have e := World.ownsRow.cellAt h k (by omega)
  simp only [List.getElem?_map, List.getElem?_eq_getElem hk, Option.map_some] at e
  obtain ⟨cur, hcur⟩ := own_heap h g rfl
  exact ⟨e, (kit.blk hcur).2.1 k⟩

def aheadI (t u : Tm) : Int := if t.due = u.due then t.turn - u.turn else t.due - u.due
theorem aheadI_lt (t u : Tm) : aheadI t u < 0 ↔ lt t u := by
  unfold aheadI lt
  split <;> omega
theorem ahead_ok (w : World) (t u : Tm) (i j : Int) (ht : TAt w t i) (hu : TAt w u j) (hnt : Num t) (hnu : Num u) :
    Calls Try.prog 28 #[ptr t, ptr u] w fun e w' => e = .returned (.int .i64 (aheadI t u)) ∧ ∃ n, w' = w.drewN n := by
  obtain ⟨a1, a2, a3⟩ := kit.blk ht
  obtain ⟨b1, b2, b3⟩ := kit.blk hu
  have t1 : w.cell? ⟨t.tb, 1, none⟩ = some (.int .i64 t.due) := a1 1
  have t2 : w.cell? ⟨t.tb, 2, none⟩ = some (.int .i64 t.turn) := a1 2
  have u1 : w.cell? ⟨u.tb, 1, none⟩ = some (.int .i64 u.due) := b1 1
  have u2 : w.cell? ⟨u.tb, 2, none⟩ = some (.int .i64 u.turn) := b1 2
  obtain ⟨⟨n1, n2⟩, n3, n4⟩ := hnt
  obtain ⟨⟨n5, n6⟩, n7, n8⟩ := hnu
  unfold ptr
  clear a1 a2 b1 b2 ht hu
  by_cases h : t.due = u.due
  · have hA : aheadI t u = t.turn - u.turn := if_pos h
    have hd : (t.due != u.due) = false := by simp [h]
    have hs : IntKind.i64.wrap (t.turn - u.turn) = t.turn - u.turn := IntWalk.i64_in _ (by omega)
    have HA := Lib.hid hA
    clear h hA
    go_enter Try.func28, Try.ntmps28
    go_wp2_with fail
    go_quiet (fail)
    go_wp2_with fail
    go_quiet (fail)
    go_wp2_with fail
    go_ret
    exact ⟨by rw [HA.out]; rfl, _, by first | rfl | (simp only [World.drewN_drewN]; rfl)⟩
  · have hA : aheadI t u = t.due - u.due := if_neg h
    have hd : (t.due != u.due) = true := by simpa using h
    have hs : IntKind.i64.wrap (t.due - u.due) = t.due - u.due := IntWalk.i64_in _ (by omega)
    have HA := Lib.hid hA
    clear h hA
    go_enter Try.func28, Try.ntmps28
    go_wp2_with fail
    go_quiet (fail)
    go_wp2_with fail
    go_quiet (fail)
    go_wp2_with fail
    go_ret
    exact ⟨by rw [HA.out]; rfl, _, by first | rfl | (simp only [World.drewN_drewN]; rfl)⟩

theorem less_ok (w : World) (base cb : Nat) (now turns : Int) (mv : Value) (a : Option Addr) (c : Nat) (q : List Tm) (h : QAt w base cb now turns mv a c q) (i j : Nat) (hi : i < q.length) (hj : j < q.length) (hl : q.length ≤ 64) :
    Calls Try.prog 72 #[.slice a q.length c, .int .i64 i, .int .i64 j] w fun e w' => e = .returned (.bool (ltB (gt q i) (gt q j))) ∧ ∃ n, w' = w.drewN n := by
  have hrow := h.row
  obtain ⟨g, rfl⟩ := own_ptr hrow (by omega)
  obtain ⟨c1, -⟩ := pt_cell hrow hi
  obtain ⟨c2, -⟩ := pt_cell hrow hj
  have hgz := (own_from hrow g rfl).2
  have HC : Hid (∀ n, Calls Try.prog 28 #[.pointer (some ⟨q[i].tb, 0, none⟩), .pointer (some ⟨q[j].tb, 0, none⟩)] (w.drewN n) fun e w' => e = .returned (.int .i64 (aheadI q[i] q[j])) ∧ ∃ m, w' = (w.drewN n).drewN m) :=
    fun n => ahead_ok (w.drewN n) q[i] q[j] i j (h.tms i hi) (h.tms j hj) (h.num _ (List.getElem_mem hi)) (h.num _ (List.getElem_mem hj))
  rw [gt_eq hi, gt_eq hj]
  obtain ⟨A, hA⟩ : ∃ A, A = aheadI q[i] q[j] := ⟨_, rfl⟩
  have HL : Hid (ltB q[i] q[j] = decide (A < 0)) := by
    rw [Hid, ltB, hA]
    by_cases hl : lt q[i] q[j]
    · rw [decide_eq_true hl, decide_eq_true ((aheadI_lt _ _).2 hl)]
    · rw [decide_eq_false hl, decide_eq_false (fun e => hl ((aheadI_lt _ _).1 e))]
  rw [← hA] at HC
  have i1 : (i : Int) < (q.length : Int) := by omega
  have j1 : (j : Int) < (q.length : Int) := by omega
  obtain ⟨t, ht⟩ : ∃ t, t = q[i] := ⟨_, rfl⟩
  obtain ⟨u, hu⟩ : ∃ u, u = q[j] := ⟨_, rfl⟩
  rw [← ht, ← hu] at HL HC
  rw [← ht] at c1
  rw [← hu] at c2
  rw [← ht, ← hu]
  clear h hrow hA ht hu
  go_enter Try.func72, Try.ntmps72
  go_wp2_with fail
  go_quiet (first | (go_at_call 28; exact Calls.quiet_of (HC.out _)))
  go_wp2_with fail
  go_ret
  exact ⟨by rw [HL.out]; rfl, _, by first | rfl | (simp only [World.drewN_drewN]; rfl)⟩

theorem own_set {w : World} {base : Nat} {e : TypeId} {n g c : Nat} {xs : List Value} (h : w.ownsRow base e 1 (.slice (some ⟨g, 0, none⟩) n c) n xs) {k : Nat} (v : Value) : (w.setCell ⟨g, k, none⟩ v).ownsRow base e 1 (.slice (some ⟨g, 0, none⟩) n c) n (xs.set k v) := by
  obtain ⟨h1, h2⟩ := h
  refine ⟨by rw [List.length_set]; exact h1, ?_⟩
  rcases h2 with ⟨h2, _⟩ | ⟨g', cap, cur, hv, hg, hh, hc, hm, hs, hx⟩
  · simp at h2
  · simp only [Value.slice.injEq, Option.some.injEq, Addr.mk.injEq, and_true, true_and] at hv
    obtain ⟨rfl, rfl⟩ := hv
    refine .inr ⟨g, c, cur.setIfInBounds k v, rfl, hg, hp_set hh k v, hc, hm, by simpa using hs, ?_⟩
    rw [Array.toList_setIfInBounds, ← hx, List.take_set]
theorem own_cut {w : World} {base : Nat} {e : TypeId} {n g c : Nat} {xs : List Value} (h : w.ownsRow base e 1 (.slice (some ⟨g, 0, none⟩) n c) n xs) {m : Nat} (hm : m ≤ n) : w.ownsRow base e 1 (.slice (some ⟨g, 0, none⟩) m c) m (xs.take m) := by
  obtain ⟨h1, h2⟩ := h
  refine ⟨by rw [List.length_take]; omega, ?_⟩
  rcases h2 with ⟨h2, _⟩ | ⟨g', cap, cur, hv, hg, hh, hc, hm', hs, hx⟩
  · simp at h2
  · simp only [Value.slice.injEq, Option.some.injEq, Addr.mk.injEq, and_true, true_and] at hv
    obtain ⟨rfl, rfl⟩ := hv
    refine .inr ⟨g, c, cur, rfl, hg, hh, by omega, hm', hs, ?_⟩
    rw [← hx, List.take_take, Nat.mul_one, Nat.mul_one, Nat.min_eq_left hm]
theorem QAt.same {w w' : World} {base cb : Nat} {now turns : Int} {mv : Value} {a : Option Addr} {c : Nat} {q : List Tm} (h : QAt w base cb now turns mv a c q) (he : w'.heap = w.heap) : QAt w' base cb now turns mv a c q := by
  have hk : ∀ k : Nat, w'.heap[k]? = w.heap[k]? := fun k => by rw [he]
  refine ⟨h.lob, (hk _).trans h.blk, own_kept h.row (fun g _ => hk g), fun i hi => (hk _).trans (h.tms i hi), h.lot, h.num⟩
theorem tat_ne {w : World} {t u : Tm} {i j : Int} (ht : TAt w t i) (hu : TAt w u j) (h : i ≠ j) : t.tb ≠ u.tb := by
  intro e
  unfold TAt at ht hu
  rw [e, hu] at ht
  simp at ht
  omega
theorem tat_row {w : World} {base g c n : Nat} {xs : List Value} {t : Tm} {i : Int} (ht : TAt w t i) (hr : w.ownsRow base 52 1 (.slice (some ⟨g, 0, none⟩) n c) n xs) : t.tb ≠ g := by
  intro e
  exact own_ne hr ht (by decide) g rfl e.symm
theorem qat_cb {w : World} {base cb : Nat} {now turns : Int} {mv : Value} {a : Option Addr} {c : Nat} {q : List Tm} (h : QAt w base cb now turns mv a c q) {t : Tm} {i : Int} (ht : TAt w t i) : t.tb ≠ cb := by
  intro e
  unfold TAt at ht
  rw [e, h.blk] at ht
  simp at ht
/-- The world behind a Swap. -/
def swW (w : World) (g i j : Nat) (t u : Tm) : World := (((w.setCell ⟨g, i, none⟩ (ptr u)).setCell ⟨g, j, none⟩ (ptr t)).setCell ⟨u.tb, 3, none⟩ (.int .i64 i)).setCell ⟨t.tb, 3, none⟩ (.int .i64 j)
theorem swap_q {w : World} {base cb g : Nat} {now turns : Int} {mv : Value} {c : Nat} {q : List Tm} (h : QAt w base cb now turns mv (some ⟨g, 0, none⟩) c q) {i j : Nat} (hi : i < q.length) (hj : j < q.length) (hij : i < j) :
    QAt (swW w g i j q[i] q[j]) base cb now turns mv (some ⟨g, 0, none⟩) c (swp q i j) ∧ Keep (CQ w base) w (swW w g i j q[i] q[j]) := by
  have ht := h.tms i hi
  have hu := h.tms j hj
  have htu : q[i].tb ≠ q[j].tb := tat_ne ht hu (by omega)
  have htg := tat_row ht h.row
  have hug := tat_row hu h.row
  have htc := qat_cb h ht
  have huc := qat_cb h hu
  have hgc : g ≠ cb := own_ne h.row h.blk (by decide) g rfl
  have hsw : swp q i j = (q.set i q[j]).set j q[i] := by rw [swp, gt_eq hi, gt_eq hj]
  have hlen := swp_length q i j
  have hgb := own_from h.row g rfl
  obtain ⟨cur, hcur⟩ := own_heap h.row g rfl
  have hne : ∀ k : Nat, k ≠ g → k ≠ q[i].tb → k ≠ q[j].tb → (swW w g i j q[i] q[j]).heap[k]? = w.heap[k]? := by
    intro k h1 h2 h3
    unfold swW
    exact (hp_set_ne h2).trans ((hp_set_ne h3).trans ((hp_set_ne h1).trans (hp_set_ne h1)))
  refine ⟨⟨h.lob, ?_, ?_, fun k hk => ?_, fun t htm => ?_, fun t htm => ?_⟩, ?_⟩
  · rw [hlen]
    exact (hne cb (fun e => hgc e.symm) (fun e => htc e.symm) (fun e => huc e.symm)).trans h.blk
  · have h1 := own_set (own_set h.row (k := i) (ptr q[j])) (k := j) (ptr q[i])
    have h2 : (swW w g i j q[i] q[j]).ownsRow base 52 1 (.slice (some ⟨g, 0, none⟩) q.length c) q.length (((q.map ptr).set i (ptr q[j])).set j (ptr q[i])) := by
      refine own_kept h1 (fun g' hg' => ?_)
      obtain rfl : g = g' := by simpa using hg'
      unfold swW
      exact (hp_set_ne (fun e => htg e.symm)).trans (hp_set_ne (fun e => hug e.symm))
    rw [hlen, hsw, List.map_set, List.map_set]
    exact h2
  · rw [hlen] at hk
    have e : (swp q i j)[k]'(by rw [hlen]; exact hk) = if k = j then q[i] else if k = i then q[j] else q[k] := by
      have h1 := gt_swp hi hj k
      rw [gt_eq (by rw [hlen]; exact hk), gt_eq hi, gt_eq hj, gt_eq hk] at h1
      exact h1
    rw [e]
    by_cases e1 : k = j
    · rw [if_pos e1]
      unfold TAt swW
      have h1 : (((w.setCell ⟨g, i, none⟩ (ptr q[j])).setCell ⟨g, j, none⟩ (ptr q[i])).setCell ⟨q[j].tb, 3, none⟩ (.int .i64 i)).heap[q[i].tb]? = some (.cells #[.string q[i].nm, .int .i64 q[i].due, .int .i64 q[i].turn, .int .i64 i] 55 (0, 0)) :=
        (hp_set_ne htu).trans ((hp_set_ne htg).trans ((hp_set_ne htg).trans ht))
      rw [e1]
      exact hp_set h1 3 _
    · rw [if_neg e1]
      by_cases e2 : k = i
      · rw [if_pos e2]
        unfold TAt swW
        have h1 : ((w.setCell ⟨g, i, none⟩ (ptr q[j])).setCell ⟨g, j, none⟩ (ptr q[i])).heap[q[j].tb]? = some (.cells #[.string q[j].nm, .int .i64 q[j].due, .int .i64 q[j].turn, .int .i64 j] 55 (0, 0)) :=
          (hp_set_ne hug).trans ((hp_set_ne hug).trans hu)
        rw [e2]
        exact (hp_set_ne (fun e => htu e.symm)).trans (hp_set h1 3 _)
      · rw [if_neg e2]
        have hk' := h.tms k hk
        exact (hne _ (tat_row hk' h.row) (tat_ne hk' ht (by omega)) (tat_ne hk' hu (by omega))).trans hk'
  · exact h.lot t ((swp_perm hi hj).mem_iff.1 htm)
  · exact h.num t ((swp_perm hi hj).mem_iff.1 htm)
  · have hkt : ∀ {x : Tm} {z : Int}, TAt w x z → base ≤ x.tb → CQ w base x.tb := fun hx hb => ⟨hb, _, _, _, hx, .inr (.inr rfl)⟩
    have hkg : CQ w base g := ⟨hgb.1, _, _, _, hcur, .inr (.inl rfl)⟩
    have b1 := h.lot _ (List.getElem_mem hi)
    have b2 := h.lot _ (List.getElem_mem hj)
    unfold swW
    exact ((((Keep.refl (CQ w base) w).setCell (p := ⟨g, i, none⟩) (.inr hkg) _).setCell (p := ⟨g, j, none⟩) (.inr hkg) _).setCell (p := ⟨q[j].tb, 3, none⟩) (.inr (hkt hu b2)) _).setCell (p := ⟨q[i].tb, 3, none⟩) (.inr (hkt ht b1)) _

theorem swap_ok (w : World) (base cb : Nat) (now turns : Int) (mv : Value) (a : Option Addr) (c : Nat) (q : List Tm) (h : QAt w base cb now turns mv a c q) (i j : Nat) (hi : i < q.length) (hj : j < q.length) (hij : i < j) (hl : q.length ≤ 64) :
    Calls Try.prog 73 #[.slice a q.length c, .int .i64 i, .int .i64 j] w fun e w' => e = .returned (.tuple #[]) ∧ QAt w' base cb now turns mv a c (swp q i j) ∧ Keep (CQ w base) w w' := by
  have hrow := h.row
  obtain ⟨g, rfl⟩ := own_ptr hrow (by omega)
  obtain ⟨c1, f1⟩ := pt_cell hrow hi
  obtain ⟨c2, f2⟩ := pt_cell hrow hj
  obtain ⟨hq, hk⟩ := swap_q h hi hj hij
  have hgz := (own_from hrow g rfl).2
  have i1 : (i : Int) < (q.length : Int) := by omega
  have j1 : (j : Int) < (q.length : Int) := by omega
  have ht := h.tms i hi
  have hu := h.tms j hj
  have htg := tat_row ht hrow
  have hug := tat_row hu hrow
  have htu : q[i].tb ≠ q[j].tb := tat_ne ht hu (by omega)
  have hgij : g ≠ g ∨ i ≠ j := .inr (by omega)
  have hd1 : (((w.setCell ⟨g, i, none⟩ (ptr q[j])).setCell ⟨g, j, none⟩ (ptr q[i])).drew).cell? ⟨g, i, none⟩ = some (ptr q[j]) := by
    have hr := own_set (own_set hrow (k := i) (ptr q[j])) (k := j) (ptr q[i])
    have e := World.ownsRow.cellAt hr i (by omega)
    rw [List.getElem?_set_ne (by omega), List.getElem?_set_self (by simpa using hi)] at e
    exact e
  have hd2 : (((w.setCell ⟨g, i, none⟩ (ptr q[j])).setCell ⟨g, j, none⟩ (ptr q[i])).drew).cell? ⟨g, j, none⟩ = some (ptr q[i]) := by
    have hr := own_set (own_set hrow (k := i) (ptr q[j])) (k := j) (ptr q[i])
    have e := World.ownsRow.cellAt hr j (by omega)
    rw [List.getElem?_set_self (by simpa using hj)] at e
    exact e
  have ht1 : (((w.setCell ⟨g, i, none⟩ (ptr q[j])).setCell ⟨g, j, none⟩ (ptr q[i])).drew).heap[q[i].tb]? = some (.cells #[.string q[i].nm, .int .i64 q[i].due, .int .i64 q[i].turn, .int .i64 i] 55 (0, 0)) := (hp_set_ne htg).trans ((hp_set_ne htg).trans ht)
  have hu1 : (((w.setCell ⟨g, i, none⟩ (ptr q[j])).setCell ⟨g, j, none⟩ (ptr q[i])).drew).heap[q[j].tb]? = some (.cells #[.string q[j].nm, .int .i64 q[j].due, .int .i64 q[j].turn, .int .i64 j] 55 (0, 0)) := (hp_set_ne hug).trans ((hp_set_ne hug).trans hu)
  obtain ⟨w1, hw1⟩ : ∃ w1, w1 = ((w.setCell ⟨g, i, none⟩ (ptr q[j])).setCell ⟨g, j, none⟩ (ptr q[i])).drew := ⟨_, rfl⟩
  rw [← hw1] at hd1 hd2 ht1 hu1
  have HQ : Hid (∀ w2 : World, w2.heap = ((w1.setCell ⟨q[j].tb, 3, none⟩ (.int .i64 i)).setCell ⟨q[i].tb, 3, none⟩ (.int .i64 j)).heap → w2.os = w.os → w2.tape = w.tape → w2.output = w.output → QAt w2 base cb now turns mv (some ⟨g, 0, none⟩) c (swp q i j) ∧ Keep (CQ w base) w w2) := by
    intro w2 he h1 h2 h3
    have he2 : w2.heap = (swW w g i j q[i] q[j]).heap := by rw [he, hw1]; rfl
    refine ⟨hq.same he2, ⟨h1, h2, h3, by rw [he2]; exact hk.size, fun k hk1 hk2 => by rw [he2]; exact hk.block k hk1 hk2⟩⟩
  have HO : Hid (w1.os = w.os ∧ w1.tape = w.tape ∧ w1.output = w.output) := by rw [hw1]; exact ⟨rfl, rfl, rfl⟩
  have HW1 := Lib.hid hw1
  obtain ⟨a1, a2, a3⟩ := kit.blk ht1
  obtain ⟨b1, b2, b3⟩ := kit.blk hu1
  have t3 : w1.cell? ⟨q[i].tb, 3, none⟩ = some (.int .i64 i) := a1 3
  have t4 : w1.frozen? ⟨q[i].tb, 3, none⟩ = false := a2 3
  have u3 : w1.cell? ⟨q[j].tb, 3, none⟩ = some (.int .i64 j) := b1 3
  have u4 : w1.frozen? ⟨q[j].tb, 3, none⟩ = false := b2 3
  have hgz1 : g < w1.heap.size := by
    have : w1.heap.size = w.heap.size := by rw [hw1]; show ((w.setCell _ _).setCell _ _).heap.size = _; rw [size_set, size_set]
    omega
  unfold ptr at hd1 hd2 HW1
  obtain ⟨tb, htb⟩ : ∃ x, x = q[i].tb := ⟨_, rfl⟩
  obtain ⟨ub, hub⟩ : ∃ x, x = q[j].tb := ⟨_, rfl⟩
  rw [← htb] at c1 hd2 t3 t4 HQ HW1 htu a3
  rw [← hub] at c2 hd1 u3 u4 HQ HW1 htu b3
  clear h hrow hw1 hq hk ht hu ht1 hu1 a1 a2 b1 b2 htg hug htb hub hgij
  go_enter Try.func73, Try.ntmps73
  go_wp2_with fail
  go_region
  rw [← HW1.out]
  clear c1 c2 f1 f2
  go_wp2_with fail
  go_region
  all_goals
    go_wp2_with fail
    refine bodyPost_end (v := .tuple #[]) (by simp [results, Try.results73, go_sem]) rfl ⟨rfl, ?_⟩
    exact HQ.out _ rfl HO.out.1 HO.out.2.1 HO.out.2.2
theorem qlen_ok (a : Option Addr) (n c : Nat) (w : World) (hn : n ≤ 64) : Calls Try.prog 71 #[.slice a n c] w fun e w' => e = .returned (.int .i64 n) ∧ w = w' := len_ok a n c w (by omega)

theorem qpop_ok (w : World) (base cb : Nat) (now turns : Int) (mv : Value) (a : Option Addr) (c : Nat) (q : List Tm) (h : QAt w base cb now turns mv a c q) (n : Nat) (hn : q.length = n + 1) (hl : q.length ≤ 64) :
    Calls Try.prog 74 #[.pointer (some ⟨cb, 2, none⟩)] w fun e w' => e = .returned (.iface 52 (.pointer (some ⟨(gt q n).tb, 0, none⟩))) ∧ QAt w' base cb now turns mv a c (q.take n) ∧ Keep (CQ w base) w w' := by
  have hrow := h.row
  obtain ⟨g, rfl⟩ := own_ptr hrow (by omega)
  obtain ⟨c1, -⟩ := pt_cell hrow (k := n) (by omega)
  have hgz := (own_from hrow g rfl).2
  have hcap : n + 1 ≤ c ∧ c ≤ 9223372036854775807 := by
    rcases hrow.2 with ⟨h2, _⟩ | ⟨g', cap, cur, hv, hg, hh, hc, hm, hs, hx⟩
    · simp at h2
    · simp only [Value.slice.injEq, true_and] at hv
      rw [← hv.2] at hc hm
      unfold maxLen at hm
      omega
  obtain ⟨b1, b2, hzc⟩ := kit.blk h.blk
  have e2 : w.cell? ⟨cb, 2, none⟩ = some (.slice (some ⟨g, 0, none⟩) (n + 1) c) := by rw [b1 2, hn]; rfl
  have f2 : w.frozen? ⟨cb, 2, none⟩ = false := b2 2
  have hgc : g ≠ cb := own_ne hrow h.blk (by decide) g rfl
  have hlt : (q.take n).length = n := by rw [List.length_take]; omega
  have hE : QAt (w.setCell ⟨cb, 2, none⟩ (.slice (some ⟨g, 0, none⟩) n c)) base cb now turns mv (some ⟨g, 0, none⟩) c (q.take n) ∧ Keep (CQ w base) w (w.setCell ⟨cb, 2, none⟩ (.slice (some ⟨g, 0, none⟩) n c)) := by
    refine ⟨⟨h.lob, ?_, ?_, fun k hk => ?_, fun t ht => h.lot t (List.mem_of_mem_take ht), fun t ht => h.num t (List.mem_of_mem_take ht)⟩, (Keep.refl (CQ w base) w).setCell (p := ⟨cb, 2, none⟩) (.inr ⟨h.lob, _, _, _, h.blk, .inl rfl⟩) _⟩
    · rw [hlt]; exact hp_set h.blk 2 _
    · have h1 := own_cut hrow (m := n) (by omega)
      rw [hlt, List.map_take]
      exact own_kept h1 (fun g' hg' => hp_set_ne (by have e : g = g' := (by simpa using hg'); rw [← e]; exact hgc))
    · have hk2 : k < q.length := by rw [hlt] at hk; omega
      have h1 := h.tms k hk2
      have e : (q.take n)[k] = q[k] := by simp
      rw [e]
      exact (hp_set_ne (qat_cb h h1)).trans h1
  have HE := Lib.hid hE
  rw [gt_eq (show n < q.length by omega)]
  obtain ⟨tb, htb⟩ : ∃ x, x = q[n].tb := ⟨_, rfl⟩
  rw [← htb] at c1 ⊢
  have hn64 : n + 1 ≤ 64 := by omega
  have hsub : IntKind.i64.wrap (((n + 1 : Nat) : Int) - 1) = (n : Int) := by rw [IntWalk.i64_in _ (by omega)]; omega
  have n1 : (n : Int) < ((n + 1 : Nat) : Int) := by omega
  have n2 : (n : Int) ≤ (c : Int) := by omega
  clear h hrow hE b1 b2 htb hn hl hlt
  go_enter Try.func74, Try.ntmps74
  go_wp2_with fail
  go_ret
  exact ⟨rfl, HE.out⟩

theorem qpush_ok (w : World) (base cb : Nat) (now turns : Int) (mv : Value) (a : Option Addr) (c : Nat) (q : List Tm) (t : Tm) (pl : Int) (h : QAt w base cb now turns mv a c q) (hbase : base ≤ w.heap.size) (ht : TAt w t pl) (htb : base ≤ t.tb) (htn : Num t) (hne : ∀ x ∈ q, x.tb ≠ t.tb) (hl : q.length < 64) :
    Calls Try.prog 75 #[.pointer (some ⟨cb, 2, none⟩), .iface 52 (.pointer (some ⟨t.tb, 0, none⟩))] w fun e w' => e = .returned (.tuple #[]) ∧ (∃ a' c', QAt w' base cb now turns mv a' c' (q ++ [t])) ∧ Keep (CQ w base) w w' := by
  obtain ⟨j0, hj, hy0, hy1, hy2⟩ := info_parts infoTm
  obtain ⟨cc, cf, hzc⟩ := kit.blk h.blk
  obtain ⟨tc, tf, hzt⟩ := kit.blk ht
  have c2 : w.cell? ⟨cb, 2, none⟩ = some (.slice a q.length c) := cc 2
  have f2 : w.frozen? ⟨cb, 2, none⟩ = false := cf 2
  have t3 : w.cell? ⟨t.tb, 3, none⟩ = some (.int .i64 pl) := tc 3
  have g3 : w.frozen? ⟨t.tb, 3, none⟩ = false := tf 3
  have hcb : cb ≠ t.tb := fun e => qat_cb h ht e.symm
  obtain ⟨w1, hw1⟩ : ∃ w1, w1 = w.setCell ⟨t.tb, 3, none⟩ (.int .i64 q.length) := ⟨_, rfl⟩
  have ht1 : TAt w1 t q.length := by rw [hw1]; exact hp_set ht 3 _
  have hblk1 : w1.heap[cb]? = some (.cells #[.int .i64 now, .int .i64 turns, .slice a q.length c, mv] 51 (0, 0)) := by rw [hw1]; exact (hp_set_ne hcb).trans h.blk
  have hrow1 : w1.ownsRow base 52 1 (.slice a q.length c) q.length (q.map ptr) := by
    rw [hw1]
    exact own_kept h.row (fun g hg => hp_set_ne (own_ne h.row ht (by decide) g hg))
  have htms1 : ∀ i (hi : i < q.length), TAt w1 q[i] i := by
    intro i hi
    rw [hw1]
    exact (hp_set_ne (hne _ (List.getElem_mem hi))).trans (h.tms i hi)
  have hk1 : Keep (CQ w base) w w1 := by rw [hw1]; exact (Keep.refl (CQ w base) w).setCell (p := ⟨t.tb, 3, none⟩) (.inr ⟨htb, _, _, _, ht, .inr (.inr rfl)⟩) _
  have hs1 : w1.heap.size = w.heap.size := by rw [hw1]; exact size_set _ _ _
  have hfin : Hid (∀ (v5 : Value) (w5 : World), w5.ownsRow base 52 1 v5 (q.length + 1) (q.map ptr ++ [.pointer (some ⟨t.tb, 0, none⟩)]) → (w1.alloc (.cells #[.pointer (some ⟨t.tb, 0, none⟩)] 52)).grownBy w5 (Value.slice a q.length c).ownBlock →
      (∃ v, w5.cell? ⟨cb, 2, none⟩ = some v) ∧ w5.frozen? ⟨cb, 2, none⟩ = false ∧ (∃ a' c', QAt (w5.setCell ⟨cb, 2, none⟩ v5) base cb now turns mv a' c' (q ++ [t])) ∧ Keep (CQ w base) w (w5.setCell ⟨cb, 2, none⟩ v5)) := by
    intro v5 w5 ho hg
    obtain ⟨a5, c5, rfl⟩ := own_shape ho
    have hbn := below_new1 w1 (.cells #[.pointer (some ⟨t.tb, 0, none⟩)] 52)
    have hother : ∀ (k : Nat) (T : TypeId) (cs : Array Value), w1.heap[k]? = some (Obj.cells cs T (0, 0)) → T ≠ 52 → w5.heap[k]? = some (Obj.cells cs T (0, 0)) := by
      intro k T cs hh hT
      have h1 := hp_step hh hbn
      refine (hg.block k (kit.blk h1).2.2 (fun e => ?_)).trans h1
      obtain ⟨cur, hcur⟩ := own_heap hrow1 k (own_block hrow1 k e.symm)
      rw [hcur] at hh
      simp only [Option.some.injEq, Obj.cells.injEq] at hh
      exact hT hh.2.1.symm
    have hb5 := hother cb _ _ hblk1 (by decide)
    refine ⟨⟨_, (kit.blk hb5).1 2⟩, (kit.blk hb5).2.1 2, ⟨a5, c5, h.lob, ?_, ?_, fun i hi => ?_, fun x hx => ?_, fun x hx => ?_⟩, ?_⟩
    · rw [List.length_append, List.length_singleton]
      exact hp_set hb5 2 _
    · rw [List.length_append, List.length_singleton, List.map_append]
      exact own_kept ho (fun g' hg' => hp_set_ne (own_ne ho hb5 (by decide) g' hg'))
    · by_cases e : i < q.length
      · have h1 := hother _ _ _ (htms1 i e) (by decide)
        rw [List.getElem_append_left e]
        refine (hp_set_ne (fun e2 => ?_)).trans h1
        exact qat_cb h (h.tms i e) e2
      · have e1 : i = q.length := by rw [List.length_append, List.length_singleton] at hi; omega
        subst e1
        have h1 := hother _ _ _ ht1 (by decide)
        rw [List.getElem_append_right (Nat.le_refl _)]
        simp only [Nat.sub_self, List.getElem_cons_zero]
        exact (hp_set_ne (fun e2 => hcb e2.symm)).trans h1
    · rcases List.mem_append.1 hx with hx | hx
      · exact h.lot x hx
      · rw [List.mem_singleton.1 hx]; exact htb
    · rcases List.mem_append.1 hx with hx | hx
      · exact h.num x hx
      · rw [List.mem_singleton.1 hx]; exact htn
    · have hk5 : Keep (CQ w base) w w5 := by
        refine ⟨hg.os.trans hk1.os, hg.tape.trans hk1.tape, hg.output.trans hk1.output, by have := hg.size; rw [size_new] at this; omega, fun k hk hn => ?_⟩
        have h1 := hk1.block k hk hn
        have hk2 : k < w1.heap.size := by omega
        refine (hg.block k (by rw [size_new]; omega) (fun e => hn ?_)).trans ((hp_alloc_old hk2).trans h1)
        have h3 := own_block hrow1 k e.symm
        obtain ⟨cur, hcur⟩ := own_heap hrow1 k h3
        exact ⟨(own_from hrow1 k h3).1, cur, _, _, by rw [← h1]; exact hcur, .inr (.inl rfl)⟩
      exact hk5.setCell (p := ⟨cb, 2, none⟩) (.inr ⟨h.lob, _, _, _, h.blk, .inl rfl⟩) _
  have HR := Lib.hid hrow1
  have HW := Lib.hid hw1
  have hta := ta_timer (.pointer (some ⟨t.tb, 0, none⟩))
  have c21 : w1.cell? ⟨cb, 2, none⟩ = some (.slice a q.length c) := (kit.blk hblk1).1 2
  have HS1 : Hid (base ≤ w1.heap.size) := by rw [Hid, hs1]; exact hbase
  obtain ⟨tb, htbd⟩ : ∃ x, x = t.tb := ⟨_, rfl⟩
  rw [← htbd] at t3 g3 hta HW hfin hcb ⊢
  clear cc cf tc tf h ht hw1 ht1 hblk1 hrow1 htms1 hk1 hs1 hne htbd htn htb
  go_enter Try.func75, Try.ntmps75
  go_upto_region 2 with fail
  rw [← HW.out]
  clear c2 f2 t3 g3
  go_wp2_with (at_builtin; refine wpl_append rfl (.tmp 17) (.tmp 19) 48 rfl base 52 j0 _ 1 8 Try.underlying48 hj hy0 hy1 hy2 rfl (by decide) (.slice a q.length c) q.length (q.map ptr) rfl (HR.out.alloc _) (some ⟨w1.heap.size, 0, none⟩) 1 1 [.pointer (some ⟨tb, 0, none⟩)] rfl (by simp) rfl ?hL (by simp [Value.oneCell']) (by unfold maxLen; omega) (by omega) ?hB ?_)
  case hL => exact .inr ⟨_, 0, rfl, by rw [size_new]; omega, fun i hi => by
    have hb := (kit.blk (hp_alloc_new w1 (.cells #[.pointer (some ⟨tb, 0, none⟩)] 52))).1 0
    match i, hi with | 0, _ => exact hb⟩
  case hB => rw [size_new]; have := HS1.out; omega
  intro v5 w5 hown hgr
  obtain ⟨a5, c5, rfl⟩ := own_shape hown
  obtain ⟨⟨v0, d2⟩, e2, hF1, hF2⟩ := hfin.out _ w5 hown hgr
  have HF := Lib.hid (And.intro hF1 hF2)
  clear hown hgr hF1 hF2 c21
  go_wp2_with fail
  exact bodyPost_end (v := .tuple #[]) (by simp [results, Try.results75, go_sem]) rfl ⟨rfl, HF.out⟩
end Go.Proofs.Ytejjnhgiijhglaa.clkq
