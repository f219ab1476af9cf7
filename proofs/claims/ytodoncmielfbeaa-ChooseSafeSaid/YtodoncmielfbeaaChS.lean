/-
  slices.SortFunc, SortedFunc at promises: they stand by their nodes.
-/
import Derived.Test.YtodoncmielfbeaaChV
import Derived.Test.YtodoncmielfbeaaChSh
import Derived.Shelf.SlSortCmp.NoneTotal
import Derived.Sort.OwnSorted
namespace Go.Proofs.Ytodoncmielfbeaa.chs
open Go.ChangeShapes Go.WideShapes Go.ChangeAt Go.RowKit Go.Shelf Go.Sort
open Go.Proofs.Ytodoncmielfbeaa.kit Go.Proofs.Ytodoncmielfbeaa.own Go.Proofs.Ytodoncmielfbeaa.accd Go.Proofs.Ytodoncmielfbeaa.chd Go.Proofs.Ytodoncmielfbeaa.che Go.Proofs.Ytodoncmielfbeaa.tel Go.Proofs.Ytodoncmielfbeaa.chv
set_option linter.unusedVariables false
set_option linter.unusedSimpArgs false
set_option maxHeartbeats 1000000
set_option maxRecDepth 100000

section
variable {α : Type} [Inhabited α]
theorem sw_hp (enc : α → List Value) (k0 : Nat) (w : World) (blk off m : Nat) (dk : Array α) (os : Array Obj) {k : Nat} (hk : k < w.heap.size) (hne : k ≠ blk) : (sortWorldK enc k0 w blk off m dk os).heap[k]? = w.heap[k]? := by
  unfold sortWorldK
  rw [heap_grow_old _ _ (by simpa [putRowK] using hk)]
  have : blk ≠ k := fun e => hne e.symm
  simp [putRowK, putRow, mapBlock, Sort.ahead, Array.getElem?_modify, this]
theorem sw_row (enc : α → List Value) (k0 : Nat) (w : World) (g m : Nat) (dk : Array α) (os : Array Obj) {cur : Array Value} {e : TypeId} {fr : Nat × Nat} (hb : w.heap[g]? = some (.cells cur e fr)) :
    (sortWorldK enc k0 w g 0 m dk os).heap[g]? = some (.cells (putCells id 0 (flatK enc k0 dk) cur) e fr) := by
  have hg : g < w.heap.size := (Array.getElem?_eq_some_iff.1 hb).1
  unfold sortWorldK
  rw [heap_grow_old _ _ (by simpa [putRowK] using hg)]
  simp [putRowK, putRow, mapBlock, Sort.ahead, Array.getElem?_modify, hb, onCells]
theorem sw_size (enc : α → List Value) (k0 : Nat) (w : World) (blk off m : Nat) (dk : Array α) (os : Array Obj) : w.heap.size ≤ (sortWorldK enc k0 w blk off m dk os).heap.size := by
  unfold sortWorldK
  simp [grow, putRowK, putRow, mapBlock, Sort.ahead]
theorem flat_get! (enc : α → List Value) {k0 : Nat} (h0 : 0 < k0) (hf : ∀ x, (enc x).length = k0) (ts : List α) (t : Nat) (h : t < ts.length * k0) : (flatK enc k0 ts.toArray)[t]? = (ts.flatMap enc)[t]? := by
  have hd : t / k0 < ts.length := (Nat.div_lt_iff_lt_mul h0).2 h
  have hm : t % k0 < k0 := Nat.mod_lt _ h0
  have h1 := flat_get hf ts (t / k0) hd (t % k0) hm
  have e : t / k0 * k0 + t % k0 = t := Nat.div_add_mod' t k0
  rw [e] at h1
  rw [h1]
  have h2 : t < (flatK enc k0 ts.toArray).size := by rw [size_flatK]; simpa using h
  rw [Array.getElem?_eq_getElem h2]
  have h3 := get_flatK enc k0 ts.toArray t (by simpa using h)
  rw [getElem!_pos _ t h2] at h3
  rw [h3]
  have h4 : ts.toArray[t / k0]! = ts[t / k0] := by rw [getElem!_pos _ _ (by simpa using hd)]; simp
  rw [h4, List.getElem?_eq_getElem (by rw [hf]; exact hm), getElem!_pos _ _ (by rw [hf]; exact hm)]
theorem take_put (enc : α → List Value) {k0 : Nat} (h0 : 0 < k0) (hf : ∀ x, (enc x).length = k0) (cur : Array Value) (ts : List α) (h : ts.length * k0 ≤ cur.size) : (putCells id 0 (flatK enc k0 ts.toArray) cur).toList.take (ts.length * k0) = ts.flatMap enc := by
  apply List.ext_getElem?
  intro j
  by_cases hj : j < ts.length * k0
  · rw [List.getElem?_take_of_lt hj, Array.getElem?_toList, ← flat_get! enc h0 hf ts j hj]
    have h2 : j < (flatK enc k0 ts.toArray).size := by rw [size_flatK]; simpa using hj
    have hjc : j < cur.size := by omega
    have h2' : j < 0 + ts.length * k0 := by omega
    rw [Array.getElem?_eq_getElem h2]
    simp only [putCells, Array.getElem?_mapIdx, Array.getElem?_eq_getElem hjc, Option.map_some]
    rw [if_pos ⟨Nat.zero_le _, by rw [size_flatK]; simpa using hj⟩, Nat.sub_zero, getElem!_pos _ j h2]
    rfl
  · rw [List.getElem?_take_eq_none (by omega), List.getElem?_eq_none (by rw [che.flat_len hf]; omega)]
theorem sw_own (enc : α → List Value) {k0 : Nat} (h0 : 0 < k0) (hf : ∀ x, (enc x).length = k0) {w : World} {base g c n m : Nat} {e : TypeId} {os : Array Obj} {xs : List Value} (ts : List α) (hl : ts.length = n) (h : w.ownsRow base e k0 (.slice (some ⟨g, 0, none⟩) n c) n xs) :
    (sortWorldK enc k0 w g 0 m ts.toArray os).ownsRow base e k0 (.slice (some ⟨g, 0, none⟩) n c) n (ts.flatMap enc) := by
  obtain ⟨h1, h2⟩ := h
  refine ⟨by rw [che.flat_len hf, hl], ?_⟩
  rcases h2 with ⟨h2, _⟩ | ⟨g', cap, cur, hv, hg, hh, hc, hm, hs, hx⟩
  · simp at h2
  · simp only [Value.slice.injEq, Option.some.injEq, Addr.mk.injEq, and_true, true_and] at hv
    obtain ⟨rfl, rfl⟩ := hv
    have hcap : ts.length * k0 ≤ cur.size := by rw [hs, hl]; exact Nat.mul_le_mul_right k0 hc
    exact .inr ⟨g, c, _, rfl, hg, sw_row enc k0 w g m _ os hh, hc, hm, by simp [putCells, hs], by rw [← hl]; exact take_put enc h0 hf cur ts hcap⟩
theorem sw_below (enc : α → List Value) (k0 : Nat) (w : World) (g off m : Nat) (dk : Array α) (os : Array Obj) {base : Nat} (hb : base ≤ g) (hw : base ≤ w.heap.size) : Below base w (sortWorldK enc k0 w g off m dk os) := by
  have hk : Keep (fun k => k = g) w (sortWorldK enc k0 w g off m dk os) := ⟨rfl, rfl, rfl, sw_size _ _ _ _ _ _ _ _, fun k hk hn => sw_hp enc k0 w g off m dk os hk hn⟩
  exact hk.below hw (fun k hk hn => by omega)
end
theorem cmp_ok (W : World) (x y : Int) (a b : Option Addr) (m n c d : Nat) (hx : 1 ≤ x ∧ x ≤ 5) (hy : 1 ≤ y ∧ y ≤ 5) :
    Calls Try.prog 56 #[.agg #[.int .i64 x, .slice a m c], .agg #[.int .i64 y, .slice b n d]] W fun e w' => e = .returned (.int .i64 (x - y)) ∧ ∃ q os', w' = grow (W.drewN q) os' := by
  have hw : IntKind.i64.wrap (x - y) = x - y := IntWalk.i64_in _ (by omega)
  go_enter Try.func56, Try.ntmps56
  go_wp2_with fail
  go_ret
  exact ⟨rfl, 0, _, by rw [alloc_eq_grow, alloc_eq_grow, grow_grow]; rfl⟩

theorem flat_map' {α β γ : Type} (f : α → β) (g : β → List γ) (l : List α) : (l.map f).flatMap g = l.flatMap (fun x => g (f x)) := by
  induction l with
  | nil => rfl
  | cons x l ih => rw [List.map_cons, List.flatMap_cons, ih, List.flatMap_cons]
theorem pw_eq {l : List Pt} (h : l.Pairwise (fun p q => p.node ≠ q.node)) {x y : Pt} (hx : x ∈ l) (hy : y ∈ l) (e : x.node = y.node) : x = y := by
  obtain ⟨i, hi, rfl⟩ := List.getElem_of_mem hx
  obtain ⟨j, hj, rfl⟩ := List.getElem_of_mem hy
  rcases Nat.lt_trichotomy i j with h1 | h1 | h1
  · exact absurd e (List.pairwise_iff_getElem.1 h i j hi hj h1)
  · subst h1; rfl
  · exact absurd e.symm (List.pairwise_iff_getElem.1 h j i hj hi h1)
/-- The promises of a list, each with its right to be there. -/
abbrev Mem (l : List Pt) := {p : Pt // p ∈ l}
def mp {l : List Pt} (x : Mem l) : List Value := x.1.cells
def mc {l : List Pt} (x y : Mem l) : Int := x.1.node - y.1.node
theorem mlt {l : List Pt} (x y : Mem l) : ltOf (mc (l := l)) x y = decide (x.1.node < y.1.node) := by
  unfold ltOf mc
  rw [decide_eq_decide]
  omega
theorem mswo (l : List Pt) : SWO (ltOf (mc (l := l))) where
  irrefl x := by rw [mlt]; simp
  trans x y z h1 h2 := by
    rw [mlt, decide_eq_true_eq] at *
    omega
  ntrans x y z h1 h2 := by
    rw [mlt, decide_eq_false_iff_not] at *
    omega
theorem mle {l : List Pt} (x y : Mem l) : (!(ltOf mc) y x) = true ↔ ¬ y.1.node < x.1.node := by rw [mlt]; simp
theorem sort_ok (w : World) (base c : Nat) (a : Option Addr) (l : List Pt) (hl : l.length ≤ 5) (hrow : w.ownsRow base 36 2 (.slice a l.length c) l.length (pcells l)) (hbw : base ≤ w.heap.size)
    (hnod : ∀ p ∈ l, 1 ≤ p.node ∧ p.node ≤ 5) (hdis : l.Pairwise (fun p q => p.node ≠ q.node)) :
    Calls Try.prog 65 #[.slice a l.length c, .func (.func 56) #[] #[]] w fun e w' => e = .returned (.tuple #[]) ∧ ∃ r : List Pt, r.Perm l ∧ r.Pairwise (fun p q => p.node < q.node) ∧
      w'.ownsRow base 36 2 (.slice a l.length c) l.length (pcells r) ∧ Below base w w' := by
  by_cases h0 : l.length = 0
  · obtain rfl : l = [] := List.length_eq_zero_iff.1 h0
    exact (AnyF.slices_SortFunc_none (P := Try.prog) (ρ := chsh.sortP_ren) { chsh.sortP with } a c (.func (.func 56) #[] #[]) w).mono fun e w' ⟨he, hw⟩ => ⟨he, [], List.Perm.refl _, List.Pairwise.nil, by rw [hw]; exact hrow, by rw [hw]; exact Below.refl _ _⟩
  · obtain ⟨g, rfl⟩ := own_ptr hrow (by omega)
    have hgz := own_from hrow g rfl
    haveI : Inhabited (Mem l) := ⟨⟨l[0]'(by omega), List.getElem_mem _⟩⟩
    have eg : ∀ args w, (callFunc 56 args).run Try.prog w = .ok (.enter 56 args) w := enters_of Try.func56 (by kernel_rfl) rfl
    have hf : ∀ x : Mem l, (mp x).length = 2 := fun _ => rfl
    have hlm : l.attach.length = l.length := by simp
    have hfl : l.attach.flatMap (mp (l := l)) = pcells l := by
      have h1 : l.attach.flatMap (mp (l := l)) = (l.attach.map Subtype.val).flatMap Pt.cells := by
        rw [flat_map']
        rfl
      rw [h1, List.attach_map_subtype_val]; rfl
    have hH : HoldsK (mp (l := l)) 2 w g 0 l.attach.toArray := by
      intro j hj
      rw [size_flatK] at hj
      have hj' : j < l.attach.length * 2 := by simpa using hj
      have h1 := flat_get! (mp (l := l)) (by decide) hf l.attach j hj'
      have h2 : j < (flatK (mp (l := l)) 2 l.attach.toArray).size := by rw [size_flatK]; exact hj
      rw [hfl, Array.getElem?_eq_getElem h2] at h1
      rw [getElem!_pos _ j h2, Nat.zero_add]
      rcases hrow.2 with ⟨hz, _⟩ | ⟨g', c', cur, e', hg, hh, hc, hm, hsz, hcur⟩
      · simp at hz
      · simp only [Value.slice.injEq, Option.some.injEq, Addr.mk.injEq, and_true, true_and] at e'
        obtain ⟨rfl, rfl⟩ := e'
        refine ⟨?_, by rw [(kit.blk hh).2.1]⟩
        rw [(kit.blk hh).1]
        have h3 : (cur.toList.take (l.length * 2))[j]? = (pcells l)[j]? := by rw [hcur]
        rw [List.getElem?_take, if_pos (by omega), Array.getElem?_toList] at h3
        rw [h3, ← h1]; rfl
    have hcr : CmpLays Try.prog 56 #[] (mp (l := l)) 2 mc g 0 l.attach.toArray.size w := by
      intro m os dk hs x y
      exact cmp_ok _ x.1.node y.1.node _ _ _ _ _ _ (hnod _ x.2) (hnod _ y.2)
    have hT : ∀ x y : Mem l, ltOf mc x y = false → ltOf mc y x = false → x = y := by
      intro x y h1 h2
      rw [mlt, decide_eq_false_iff_not] at h1 h2
      refine Subtype.ext ?_
      have e : x.1.node = y.1.node := by omega
      exact pw_eq hdis x.2 y.2 e
    have hS := AnyQ.slices_SortFunc_total (P := Try.prog) (ρ := chsh.sortP_ren) chsh.sortP 2 Try.isAgg36 Try.sizeOf36 (mp (l := l)) hf (fun x v hv => by simp [mp, Pt.cells] at hv; rcases hv with rfl | rfl <;> rfl) mc (mswo l) 56 #[] g 0 c l.attach.toArray w eg hcr hH hgz.2 (by simp; omega) hT
    have hsz : l.attach.toArray.size = l.length := by simp
    rw [hsz] at hS
    refine hS.mono ?_
    rintro e w' ⟨rfl, n, os, rfl⟩
    have hpm := List.mergeSort_perm l.attach (fun x y => !(ltOf mc) y x)
    have hps := List.pairwise_mergeSort (le := fun x y : Mem l => !(ltOf mc) y x) (fun x y z h1 h2 => by
      rw [mle] at *
      omega) (fun x y => by
      rw [Bool.or_eq_true, mle, mle]
      omega) l.attach
    have hrp : ((l.attach.mergeSort fun x y => !(ltOf mc) y x).map Subtype.val).Perm l := by
      have := hpm.map Subtype.val
      rwa [List.attach_map_subtype_val] at this
    refine ⟨rfl, (l.attach.mergeSort fun x y => !(ltOf mc) y x).map Subtype.val, hrp, ?_, ?_, sw_below _ _ _ _ _ _ _ _ hgz.1 hbw⟩
    · have h1 : ((l.attach.mergeSort fun x y => !(ltOf mc) y x).map Subtype.val).Pairwise (fun p q => ¬ q.node < p.node) := by
        rw [List.pairwise_map]
        exact hps.imp fun h => (mle _ _).1 h
      have h2 : ((l.attach.mergeSort fun x y => !(ltOf mc) y x).map Subtype.val).Pairwise (fun p q => p.node ≠ q.node) := (hrp.pairwise_iff (fun {a b} h e => h e.symm)).2 hdis
      exact (h1.and h2).imp fun ⟨h3, h4⟩ => by omega
    · have := sw_own (mp (l := l)) (by decide) hf (m := n) (os := os) (l.attach.mergeSort fun x y => !(ltOf mc) y x) (n := l.length) (by simp) hrow
      rw [pcells, flat_map']
      exact this
end Go.Proofs.Ytodoncmielfbeaa.chs
