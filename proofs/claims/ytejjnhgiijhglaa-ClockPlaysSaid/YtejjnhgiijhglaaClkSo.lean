/-
  A clock in memory: the sort of its timers (slices.SortFunc, SortedFunc).
-/
import Derived.Test.YtejjnhgiijhglaaClkN
import Derived.Test.YtejjnhgiijhglaaClkSh
import Derived.Shelf.SlSortCmp.NoneTotal
import Derived.Sort.OwnSorted
namespace Go.Proofs.Ytejjnhgiijhglaa.clkso
open Go.ChangeShapes Go.WideShapes Go.ChangeAt Go.RowKit Go.Shelf Go.Sort
open Go.Proofs.Ytejjnhgiijhglaa.kit Go.Proofs.Ytejjnhgiijhglaa.own Go.Proofs.Ytejjnhgiijhglaa.clk Go.Proofs.Ytejjnhgiijhglaa.heapp Go.Proofs.Ytejjnhgiijhglaa.clkq Go.Proofs.Ytejjnhgiijhglaa.clkn
open Go.Proofs.Ytejjnhgiijhglaa.clkp (t3 T3 lt3)
set_option linter.unusedVariables false
set_option linter.unusedSimpArgs false
set_option maxHeartbeats 1000000
set_option maxRecDepth 100000

/-- Two lists that hold the same, both in order, are one. -/
theorem perm_eq {l s : List T3} (hp : l.Perm s) (hs : s.Pairwise lt3) (hl : l.Pairwise (fun a b => ¬ lt3 b a)) : l = s := by
  induction s generalizing l with
  | nil => exact hp.eq_nil
  | cons x s ih =>
    cases l with
    | nil => exact absurd hp.symm.eq_nil (by simp)
    | cons y l =>
      have hx := List.pairwise_cons.1 hs
      have hy := List.pairwise_cons.1 hl
      have e : y = x := by
        rcases List.mem_cons.1 (hp.mem_iff.1 List.mem_cons_self) with e | h1
        · exact e
        · rcases List.mem_cons.1 (hp.symm.mem_iff.1 (List.mem_cons_self (a := x) (l := s))) with e | h2
          · exact e.symm
          · exact absurd (hx.1 y h1) (hy.1 x h2)
      subst e
      rw [ih hp.cons_inv hx.2 hy.2]

section
variable {α : Type} [Inhabited α]
theorem sw_hp (enc : α → Value) (w : World) (blk off m : Nat) (dk : Array α) (os : Array Obj) {k : Nat} (hk : k < w.heap.size) (hne : k ≠ blk) : (sortWorld enc w blk off m dk os).heap[k]? = w.heap[k]? := by
  unfold sortWorld
  rw [heap_grow_old _ _ (by simpa using hk)]
  have : blk ≠ k := fun e => hne e.symm
  simp [putRow, mapBlock, Sort.ahead, Array.getElem?_modify, this]
theorem sw_row (enc : α → Value) (w : World) (g m : Nat) (dk : Array α) (os : Array Obj) {cur : Array Value} {e : TypeId} {fr : Nat × Nat} (hb : w.heap[g]? = some (.cells cur e fr)) :
    (sortWorld enc w g 0 m dk os).heap[g]? = some (.cells (putCells enc 0 dk cur) e fr) := by
  have hg : g < w.heap.size := (Array.getElem?_eq_some_iff.1 hb).1
  unfold sortWorld
  rw [heap_grow_old _ _ (by simpa using hg)]
  simp [putRow, mapBlock, Sort.ahead, Array.getElem?_modify, hb, onCells]
theorem sw_size (enc : α → Value) (w : World) (blk off m : Nat) (dk : Array α) (os : Array Obj) : w.heap.size ≤ (sortWorld enc w blk off m dk os).heap.size := by
  unfold sortWorld
  simp [grow, putRow, mapBlock, Sort.ahead]
theorem take_put (enc : α → Value) (cur : Array Value) (ts : List α) (h : ts.length ≤ cur.size) : (putCells enc 0 ts.toArray cur).toList.take ts.length = ts.map enc := by
  apply List.ext_getElem?
  intro j
  by_cases hj : j < ts.length
  · rw [List.getElem?_take_of_lt hj, Array.getElem?_toList]
    simp [putCells, hj, show j < cur.size by omega]
  · rw [List.getElem?_take_eq_none (by omega), List.getElem?_eq_none (by simp; omega)]
theorem sw_own (enc : α → Value) {w : World} {base g c n m : Nat} {e : TypeId} {os : Array Obj} {xs : List Value} (ts : List α) (hl : ts.length = n) (h : w.ownsRow base e 1 (.slice (some ⟨g, 0, none⟩) n c) n xs) :
    (sortWorld enc w g 0 m ts.toArray os).ownsRow base e 1 (.slice (some ⟨g, 0, none⟩) n c) n (ts.map enc) := by
  obtain ⟨h1, h2⟩ := h
  refine ⟨by rw [List.length_map, hl, Nat.mul_one], ?_⟩
  rcases h2 with ⟨h2, _⟩ | ⟨g', cap, cur, hv, hg, hh, hc, hm, hs, hx⟩
  · simp at h2
  · simp only [Value.slice.injEq, Option.some.injEq, Addr.mk.injEq, and_true, true_and] at hv
    obtain ⟨rfl, rfl⟩ := hv
    exact .inr ⟨g, c, _, rfl, hg, sw_row enc w g m _ os hh, hc, hm, by simp [putCells, hs], by rw [Nat.mul_one, ← hl]; exact take_put enc cur ts (by omega)⟩
theorem sw_below (enc : α → Value) (w : World) (g off m : Nat) (dk : Array α) (os : Array Obj) {base : Nat} (hb : base ≤ g) (hw : base ≤ w.heap.size) : Below base w (sortWorld enc w g off m dk os) := by
  have hk : Keep (fun k => k = g) w (sortWorld enc w g off m dk os) := ⟨rfl, rfl, rfl, sw_size _ _ _ _ _ _ _, fun k hk hn => sw_hp enc w g off m dk os hk hn⟩
  exact hk.below hw (fun k hk hn => by omega)
end

/-- The timers of a queue, each with its right to be there. -/
abbrev Mem (q : List Tm) := {t : Tm // t ∈ q}
def mp {q : List Tm} (x : Mem q) : Value := ptr x.1
def mc {q : List Tm} (x y : Mem q) : Int := aheadI x.1 y.1
theorem mlt {q : List Tm} (x y : Mem q) : ltOf (mc (q := q)) x y = decide (lt x.1 y.1) := by
  unfold ltOf mc
  rw [decide_eq_decide]
  exact aheadI_lt _ _
theorem mswo (q : List Tm) : SWO (ltOf (mc (q := q))) where
  irrefl x := by rw [mlt]; simp [lt]
  trans x y z h1 h2 := by
    rw [mlt, decide_eq_true_eq] at *
    unfold lt at *
    omega
  ntrans x y z h1 h2 := by
    rw [mlt, decide_eq_false_iff_not] at *
    unfold lt at *
    omega
theorem mle {q : List Tm} (x y : Mem q) : (!(ltOf mc) y x) = true ↔ ¬ lt y.1 x.1 := by rw [mlt]; simp

theorem sort_ok (w : World) (base c : Nat) (a : Option Addr) (q : List Tm) (hl : q.length ≤ 64) (hrow : w.ownsRow base 52 1 (.slice a q.length c) q.length (q.map ptr)) (hbw : base ≤ w.heap.size)
    (htm : ∀ t ∈ q, Num t ∧ ∃ i, TAt w t i) (hdis : ∀ t ∈ q, ∀ u ∈ q, ¬ lt t u → ¬ lt u t → t = u) :
    Calls Try.prog 33 #[.slice a q.length c, .func (.func 28) #[] #[]] w fun e w' => e = .returned (.tuple #[]) ∧ ∃ r : List Tm, r.Perm q ∧ r.Pairwise (fun t u => ¬ lt u t) ∧
      w'.ownsRow base 52 1 (.slice a q.length c) q.length (r.map ptr) ∧ Below base w w' := by
  by_cases h0 : q.length = 0
  · obtain rfl : q = [] := List.length_eq_zero_iff.1 h0
    exact (AnyF.slices_SortFunc_none (P := Try.prog) (ρ := clksh.sortT_ren) { clksh.sortT with } a c (.func (.func 28) #[] #[]) w).mono fun e w' ⟨he, hw⟩ => ⟨he, [], List.Perm.refl _, List.Pairwise.nil, by rw [hw]; exact hrow, by rw [hw]; exact Below.refl _ _⟩
  · obtain ⟨g, rfl⟩ := own_ptr hrow (by omega)
    have hgz := own_from hrow g rfl
    haveI : Inhabited (Mem q) := ⟨⟨q[0]'(by omega), List.getElem_mem _⟩⟩
    have eg : ∀ args w, (callFunc 28 args).run Try.prog w = .ok (.enter 28 args) w := enters_of Try.func28 (by kernel_rfl) rfl
    have hH : Holds (mp (q := q)) w g 0 q.attach.toArray := by
      intro j hj
      have hj' : j < q.length := by simpa using hj
      obtain ⟨e1, e2⟩ := pt_cell hrow hj'
      rw [Nat.zero_add]
      refine ⟨?_, e2⟩
      rw [e1, getElem!_pos _ j hj]
      simp [mp, ptr]
    have hcr : CmpReads Try.prog 28 #[] (mp (q := q)) mc g 0 q.attach.toArray.size w := by
      intro m os dk hs x y
      obtain ⟨hnx, i, hx⟩ := htm x.1 x.2
      obtain ⟨hny, j, hy⟩ := htm y.1 y.2
      have kx : TAt (sortWorld mp w g 0 m dk os) x.1 i := (sw_hp mp w g 0 m dk os (kit.blk hx).2.2 (tat_row hx hrow)).trans hx
      have ky : TAt (sortWorld mp w g 0 m dk os) y.1 j := (sw_hp mp w g 0 m dk os (kit.blk hy).2.2 (tat_row hy hrow)).trans hy
      exact ahead_ok _ x.1 y.1 i j kx ky hnx hny
    have hT : ∀ x y : Mem q, ltOf mc x y = false → ltOf mc y x = false → x = y := by
      intro x y h1 h2
      rw [mlt] at h1 h2
      exact Subtype.ext (hdis _ x.2 _ y.2 (of_decide_eq_false h1) (of_decide_eq_false h2))
    have hS := Any.slices_SortFunc_total (P := Try.prog) (ρ := clksh.sortT_ren) clksh.sortT (mp (q := q)) (fun _ => rfl) mc (mswo q) 28 #[] g 0 c q.attach.toArray w eg hcr.lays hH hgz.2 (by simp; omega) hT
    have hsz : q.attach.toArray.size = q.length := by simp
    rw [hsz] at hS
    refine hS.mono ?_
    rintro e w' ⟨rfl, n, os, rfl⟩
    have hpm := List.mergeSort_perm q.attach (fun x y => !(ltOf mc) y x)
    have hps := List.pairwise_mergeSort (le := fun x y : Mem q => !(ltOf mc) y x) (fun x y z h1 h2 => by
      rw [mle] at *
      unfold lt at *
      omega) (fun x y => by
      rw [Bool.or_eq_true, mle, mle]
      unfold lt
      omega) q.attach
    refine ⟨rfl, (q.attach.mergeSort fun x y => !(ltOf mc) y x).map Subtype.val, ?_, ?_, ?_, sw_below _ _ _ _ _ _ _ hgz.1 hbw⟩
    · have := hpm.map Subtype.val
      rwa [List.attach_map_subtype_val] at this
    · rw [List.pairwise_map]
      refine hps.imp ?_
      intro x y h
      exact (mle x y).1 h
    · have := sw_own (mp (q := q)) (m := n) (os := os) (q.attach.mergeSort fun x y => !(ltOf mc) y x) (n := q.length) (by simp) hrow
      rw [List.map_map]
      exact this
end Go.Proofs.Ytejjnhgiijhglaa.clkso
