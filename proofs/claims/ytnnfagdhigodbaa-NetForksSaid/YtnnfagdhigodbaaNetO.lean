/-
  What a law's list tells of a net.
-/
import Derived.Test.YtnnfagdhigodbaaNetI
import Derived.RangeFuncBox
import Derived.Maps.AppendAt
import Derived.Deep.RegionHeld3
namespace Go.Proofs.Ytnnfagdhigodbaa.neto
open Go.ChangeShapes Go.WideShapes Go.ChangeAt Go.RowKit Go.Shelf
open Go.Proofs.Ytnnfagdhigodbaa.kit Go.Proofs.Ytnnfagdhigodbaa.byt Go.Proofs.Ytnnfagdhigodbaa.netc Go.Proofs.Ytnnfagdhigodbaa.netg Go.Proofs.Ytnnfagdhigodbaa.nets Go.Proofs.Ytnnfagdhigodbaa.nett Go.Proofs.Ytnnfagdhigodbaa.nete Go.Proofs.Ytnnfagdhigodbaa.netf Go.Proofs.Ytnnfagdhigodbaa.netq Go.Proofs.Ytnnfagdhigodbaa.netl Go.Proofs.Ytnnfagdhigodbaa.neti
set_option linter.unusedVariables false
set_option linter.unusedSimpArgs false
set_option maxHeartbeats 1000000
set_option maxRecDepth 100000
attribute [local go_sem] Oper.semAt_some

theorem blk_kept {W W' : World} {row : Option Nat} {b : Nat} {cs : Array Value} {T : TypeId} (h : W.heap[b]? = some (.cells cs T (0, 0))) (hg : W.grownBy W' row) (hrow : ∀ r, row = some r → ∃ o : Obj, W.heap[r]? = some o ∧ o.isCells = false) : W'.heap[b]? = some (.cells cs T (0, 0)) :=
  (grownBy_keeps_cells hg hrow h rfl).trans h
theorem own_grown {W W' : World} {base : Nat} {e : TypeId} {size n : Nat} {v : Value} {xs : List Value} {row : Option Nat} (h : W.ownsRow base e size v n xs) (hg : W.grownBy W' row) (hr : ∀ r, row = some r → ∃ o : Obj, W.heap[r]? = some o ∧ o.isCells = false) : W'.ownsRow base e size v n xs := by
  refine h.kept hg ?_
  rcases h.2 with ⟨rfl, _⟩ | ⟨g, cap, cur, rfl, _, hgb, _⟩
  · exact .inl rfl
  · refine .inr fun e' => ?_
    obtain ⟨o, ho, hc⟩ := hr g (by rw [← e']; rfl)
    rw [hgb] at ho; cases ho; cases hc
theorem Keep.grown' {S : Nat → Prop} {a W W' : World} {row : Option Nat} (h : Keep S a W) (hg : W.grownBy W' row) (hr : ∀ j, row = some j → a.heap.size ≤ j) : Keep S a W' :=
  ⟨hg.os.trans h.os, hg.tape.trans h.tape, hg.output.trans h.output, Nat.le_trans h.size hg.size, fun k hk hs => (hg.block k (Nat.lt_of_lt_of_le hk h.size) (fun e => by have := hr k e.symm; omega)).trans (h.block k hk hs)⟩

/-- A list of packets that a loop collects in a box. -/
structure CollP (V : World) (z : Nat) (ps : List Pkt) (xs : List (Int × Pkt)) (W : World) : Prop where
  row : ∃ a c, W.heap[z]? = some (.cells #[.slice a xs.length c] 43 (0, 0)) ∧ W.ownsRow V.heap.size 48 3 (.slice a xs.length c) xs.length (pkcells (xs.map (·.2)))
  keep : Keep (fun k => k = z) V W
  bodies : ∀ x ∈ xs, Body W V.heap.size x.2
  are : xs.map (fun x => q x.2) = (ps.map q).take xs.length
theorem collp_own (V : World) (z : Nat) (ps : List Pkt) : OwnFrom V.heap.size (CollP V z ps) := by
  intro s W W' row hs hg hr
  obtain ⟨⟨a, c, h1, h2⟩, h3, h4, h5⟩ := hs
  exact ⟨⟨a, c, blk_kept h1 hg (fun r e => (hr r e).2), own_grown h2 hg (fun r e => (hr r e).2)⟩, Keep.grown' h3 hg (fun j e => (hr j e).1), fun x hx => own_grown (h4 x hx) hg (fun r e => (hr r e).2), h5⟩
theorem collp_start {V : World} {z : Nat} {ps : List Pkt} (h : V.heap[z]? = some (.cells #[.slice none 0 0] 43 (0, 0))) : CollP V z ps [] V :=
  ⟨⟨none, 0, h, World.ownsRow_nil _ _ _ _⟩, Keep.refl _ _, by simp, by simp⟩
theorem collp_alloc {V W : World} {z : Nat} {ps : List Pkt} {xs : List (Int × Pkt)} (h : CollP V z ps xs W) (o : Obj) : CollP V z ps xs (W.alloc o) :=
  collp_own V z ps xs W _ none h (World.grownBy_alloc W o none) (fun r e => by cases e)
theorem collp_step {V W W1 : World} {z : Nat} {ps : List Pkt} {pre : List (Int × Pkt)} {x : Int × Pkt} {a : Option Addr} {c : Nat} {o : Obj} {v' : Value} (hz : z < V.heap.size)
    (h : CollP V z ps pre W) (h1 : W.heap[z]? = some (.cells #[.slice a pre.length c] 43 (0, 0))) (h2 : W.ownsRow V.heap.size 48 3 (.slice a pre.length c) pre.length (pkcells (pre.map (·.2))))
    (hx : Body W V.heap.size x.2) (hq : (ps.map q)[pre.length]? = some (q x.2)) (hg : (W.alloc o).grownBy W1 (Value.slice a pre.length c).ownBlock) (hr : W1.ownsRow V.heap.size 48 3 v' (pre.length + 1) (pkcells (pre.map (·.2)) ++ x.2.cells)) :
    ∃ a' c', v' = .slice a' (pre.length + 1) c' ∧ W1.heap[z]? = some (.cells #[.slice a pre.length c] 43 (0, 0)) ∧ KeepsOthers W (W1.setCell ⟨z, 0, none⟩ v') ∧ KpZ z V.heap.size W (W1.setCell ⟨z, 0, none⟩ v') ∧ CollP V z ps (pre ++ [x]) (W1.setCell ⟨z, 0, none⟩ v') := by
  obtain ⟨a', c', rfl⟩ := own_shape hr
  obtain ⟨-, h3, h4, h5⟩ := h
  have hrow : ∀ j, (Value.slice a pre.length c).ownBlock = some j → V.heap.size ≤ j := by
    intro j e
    exact (own_from h2 j (own_block h2 j e)).1
  have hVs := h3.size
  have hzb : z < (W.alloc o).heap.size := by rw [size_new]; omega
  have hW1 : W1.heap[z]? = some (.cells #[.slice a pre.length c] 43 (0, 0)) := (hg.block z hzb (fun e => by have := hrow z e.symm; omega)).trans (hp_new h1)
  have hke : KeepsOthers W (W1.setCell ⟨z, 0, none⟩ (.slice a' (pre.length + 1) c')) := by
    refine ((KeepsOthers.alloc W o).trans (KeepsOthers.of_grownBy hg ?_)).trans (KeepsOthers.setCell _ _ _)
    intro j ob e ho
    obtain ⟨cur, hcur⟩ := own_heap h2 j (own_block h2 j e)
    rw [hp_new hcur] at ho
    cases ho; rfl
  have hset : (W1.setCell ⟨z, 0, none⟩ (.slice a' (pre.length + 1) c')).heap[z]? = some (.cells #[.slice a' (pre.length + 1) c'] 43 (0, 0)) := hp_set hW1 0 _
  have hbody : ∀ p : Pkt, Body W V.heap.size p → Body (W1.setCell ⟨z, 0, none⟩ (.slice a' (pre.length + 1) c')) V.heap.size p := by
    intro p hp
    refine own_kept hp (fun g hgp => ?_)
    obtain ⟨cur, hcur⟩ := own_heap hp g hgp
    have hgs := own_from hp g hgp
    refine (hp_set_ne (show g ≠ z by omega)).trans ((hg.block g (by rw [size_new]; omega) (fun e => ?_)).trans (hp_alloc_old hgs.2))
    exact own_ne h2 hcur (by decide) g (own_block h2 g e.symm) rfl
  refine ⟨a', c', rfl, hW1, hke, ⟨?_, fun j h1 h2 => ?_⟩, ⟨⟨a', c', ?_, ?_⟩, (Keep.grown' (h3.alloc o) hg hrow).setCell (p := ⟨z, 0, none⟩) (.inr rfl) _, fun y hy => ?_, ?_⟩⟩
  · rw [size_set]; have := hg.size; rw [size_new] at this; omega
  · exact (hp_set_ne h2).trans ((hg.block j (by rw [size_new]; omega) (fun e => by have := hrow j e.symm; omega)).trans (hp_alloc_old (by omega)))
  · rw [List.length_append]; exact hset
  · rw [List.length_append, List.map_append, pkcells_append]
    have e : pkcells (List.map (·.2) [x]) = x.2.cells := by simp [pkcells]
    rw [e]
    exact own_kept hr (fun g hg' => hp_set_ne (by have := (own_from hr g hg').1; show g ≠ z; omega))
  · rcases List.mem_append.1 hy with hy | hy
    · exact hbody _ (h4 y hy)
    · rw [List.mem_singleton.1 hy]; exact hbody _ hx
  · rw [List.map_append, h5, List.length_append, List.length_singleton, List.take_add_one, hq]
    rfl

theorem good_alloc {lo : Nat} {ps : List Pkt} {pre : List (Int × Pkt)} {x : Int × Pkt} {W : World} (h : neti.Good lo ps pre x W) (o : Obj) : neti.Good lo ps pre x (W.alloc o) :=
  ⟨h.1, h.2.1, own_below h.2.2 (below_new1 W o)⟩
theorem good_put (w : World) {lo : Nat} (ps : List Pkt) : ∀ (pre : List (Int × Pkt)) (x : Int × Pkt) (W : World) (l : Nat) (o o' : Obj), w.heap.size ≤ l → W.heap[l]? = some o → o.isCells = false → neti.Good lo ps pre x W → neti.Good lo ps pre x (W.putObj l o') := by
  intro pre x W l o o' _ hl ho h
  exact ⟨h.1, h.2.1, own_grown h.2.2 (grownBy_putObj' W l o') (fun r e => by cases e; exact ⟨o, hl, ho⟩)⟩

theorem fn_ne (x : Array Value) (w : World) : (binOp .eql 59 (.func (.func 41) #[] x) .nilFunc).run Try.prog w = .ok (.bool false) w := by kernel_rfl

/-- The list that a law gets of a net: memory of its own, the bodies too. -/
structure Told (w w' : World) (v : Value) (qs : List Q) : Prop where
  ps : ∃ (a : Option Addr) (c : Nat) (xs : List Pkt), v = .slice a xs.length c ∧ xs.map q = qs ∧ w'.ownsRow w.heap.size 48 3 (.slice a xs.length c) xs.length (pkcells xs) ∧ ∀ x ∈ xs, Body w' w.heap.size x

theorem list_ok (w : World) (base b : Nat) (nodes : Int) (qs : List Q) (S : Cuts) (h : NetIs w base b nodes qs S) (hF : Fit qs) :
    Calls Try.prog 20 #[.pointer (some ⟨b, 0, none⟩)] w fun e w' => ∃ v, e = .returned (.tuple #[v, .bool true]) ∧ Told w w' v qs ∧ Below w.heap.size w w' := by
  obtain ⟨ps, hn, rfl⟩ := h
  have hlen : ps.length ≤ 256 := by have := hF.1; rwa [List.length_map] at this
  have hbl : ∀ p ∈ ps, p.l.length ≤ 16384 := fun p hp => hF.2 (q p) (List.mem_map_of_mem hp)
  refine (callsIn_wide (n := 5)).1 ?_
  refine callsIn_of_wp_marks Try.func20 rfl trivial ?_ rfl
  simp only [Try.ntmps20, List.size_toArray, List.length_cons, List.length_nil, Nat.reduceAdd, Nat.reduceSub, Array.replicate_succ, Array.replicate_zero, List.push_toArray, List.append_toArray, List.nil_append, List.cons_append]
  have hq := fn_ne
  obtain ⟨w3, hw3⟩ : ∃ w3 : World, w3 = (((w.alloc (.cells #[.slice none 0 0] 43)).alloc (.cells #[.bool false] 4)).alloc (.cells #[.slice none 0 0] 43)) := ⟨_, rfl⟩
  have hn3 := new3 w (.cells #[.slice none 0 0] 43) (.cells #[.bool false] 4) (.cells #[.slice none 0 0] 43)
  have hb3 := below_new3 w (.cells #[.slice none 0 0] 43) (.cells #[.bool false] 4) (.cells #[.slice none 0 0] 43)
  rw [← hw3] at hn3 hb3
  obtain ⟨r0, r1, r2, hs3⟩ := hn3
  gi_wp2
  rw [← hw3]
  clear hw3
  refine ⟨trivial, ?_⟩
  refine (callsIn_wide.2 (all_some w3 base b nodes ps S (hn.below hb3) hlen)).mono ?_
  rintro e w4 ⟨B, a, c, rfl, hB, hBb, hrow, hb4⟩
  have hs4 := hb4.size
  have hB4z := (blk1 hBb).2.2
  have hit : ItP w4 (w.heap.size + 1 + 1) w4.heap.size B ps := by
    refine ⟨⟨a, c, hBb, own_mono hrow (Nat.zero_le _), fun g hg => ?_⟩, ⟨(blk1 hBb).2.2, by omega⟩, fun p hp => ?_, hlen⟩
    · have := own_from hrow g hg
      exact ⟨this.2, by omega⟩
    · have hbp := hn.bodies p hp
      refine ⟨own_mono (own_below (own_below hbp hb3) hb4) (Nat.zero_le _), fun g hg => ?_, hbl p hp⟩
      have := own_from hbp g hg
      exact ⟨by omega, by omega⟩
  have c0 := hp_step r0 hb4
  have c1 := hp_step r1 hb4
  have c2 := hp_step r2 hb4
  have hBw : Below w.heap.size w w4 := below_step hb3 hb4
  have hN4 := (hn.below hb3).below hb4
  clear r0 r1 r2 hb3 hb4 hrow hBb hbl
  have hBz : w.heap.size + 1 + 1 < B := by omega
  clear hB
  gi_wp2
  have hz4 : w.heap.size + 1 + 1 < w4.heap.size := by omega
  refine range_all rfl (by omega) (gf := 41) (lb := #[.pointer (some ⟨B, 0, none⟩)]) rfl trivial (enters_of Try.func41 (by kernel_rfl) rfl)
    (all_it 4 (by omega) _ _ B ps w4 hit (Nat.le_refl _)) KpZ.trans (fun W l o hl => KpZ.put (Nat.le_refl _) W l o hl) (fun W o hW => KpZ.of_below (below_new1 W o) hW) (good_put w4 ps) (fun pre x W o hg => good_alloc hg o) (Below.refl _ _) (fun _ => rfl)
    (CollP w4 (w.heap.size + 1 + 1) ps) (collp_own w4 _ ps) (collp_start c2) (fun x A => { tmps := #[.pointer (some ⟨b, 0, none⟩), undef, .pointer (some ⟨w.heap.size, 0, none⟩), .pointer (some ⟨w.heap.size + 1, 0, none⟩), .pointer (some ⟨w.heap.size + 1 + 1, 0, none⟩), .func (.func 41) #[] #[.pointer (some ⟨B, 0, none⟩)], .int .i64 x.1, .pointer (some ⟨A, 0, none⟩), .pointer (some ⟨b, 0, none⟩), .func (.func 41) #[] #[.pointer (some ⟨B, 0, none⟩)], .func (.func 41) #[] #[.pointer (some ⟨B, 0, none⟩)], .bool false, .func (.func 41) #[] #[.pointer (some ⟨B, 0, none⟩)], .int .i64 x.1, x.2.val, undef, undef, undef, undef, undef, undef, undef, undef, undef, undef, undef, undef, undef, undef, undef, undef, undef, undef, undef], defers := [] }) (fun x => .cells #[.int .i64 x.2.f, .int .i64 x.2.t, .slice x.2.a x.2.l.length x.2.c] 48) ?assign ?body ?done
  case assign =>
    intro l x W K hK
    simp only [Pkt.val]
    gi_wp2
    simpa [Pkt.val] using hK
  case body =>
    rintro l pre x A W hA hbA hC ⟨hx1, hx2, hx3⟩
    have hlt : pre.length < ps.length := by have := (List.getElem?_eq_some_iff.1 hx2).1; rwa [List.length_map] at this
    have HC := Lib.hid hC
    have HX2 := Lib.hid hx2
    have HX3 := Lib.hid hx3
    obtain ⟨⟨a', c', hb, hr⟩, hKp, hbd, hare⟩ := hC
    obtain ⟨q0, q1, q2⟩ := blk1 hb
    obtain ⟨p0, p1, p2, _, _, _, pz⟩ := blk3 hbA
    obtain ⟨j0, hj, hy0, hy1, hy2⟩ := info_parts infoPkt
    have hKs := hKp.size
    have HB := Lib.hid hb
    have HR := Lib.hid hr
    have t1 : decide ((256 : Int) ≤ pre.length) = false := decide_eq_false (by omega)
    have t2 : ¬ (256 : Int) ≤ pre.length := by omega
    rw [hx1]
    clear hb hr hKp hbd hare hbA hx1 hx2 hx3
    gi_wp2_with (gi_at_builtin; refine wpListIn_append_own _ rfl _ _ 43 rfl w4.heap.size 48 j0 (.agg #[.int .i64 0, .int .i64 0, .slice none 0 0]) 3 40 Try.underlying43 hj hy0 hy1 hy2 rfl (by decide) _ _ _ rfl (HR.out.alloc _) ⟨W.heap.size, 0, none⟩ 1 1 x.2.cells rfl rfl (lie_adds (lie_new3 _ _ _ _ _)) (by simp [Pkt.cells, Value.oneCell']) (by unfold maxLen; omega) (by omega) (by rw [size_new]; omega) ?_; intro v' W1 hown' hgrow _; obtain ⟨a5, c5, rfl, hW1, hke, hbt, hco⟩ := collp_step hz4 HC.out HB.out HR.out HX3.out HX2.out hgrow hown'; obtain ⟨e0, e1, e2⟩ := blk1 hW1; have HKE := Lib.hid hke; have HBT := Lib.hid hbt; have HCO := Lib.hid hco; clear hown' hgrow hW1 hke hbt hco)
    exact ⟨HKE.out, HBT.out, HCO.out⟩
  case done =>
    rintro D xs W hD hxs hC hK
    obtain ⟨⟨a', c', hbz, hr⟩, hKp, hbd, hare⟩ := hC
    rw [hxs, List.take_of_length_le (by simp)] at hare
    have hlx : (xs.map (·.2)).length = xs.length := List.length_map _
    have hBW : Below w.heap.size w W := hBw.trans (hKp.below (by omega) (fun k hk => by omega))
    have hr0 := hKp.hp c0 (by omega)
    have hr1 := hKp.hp c1 (by omega)
    obtain ⟨d0, f0, z0⟩ := blk1 hr0
    obtain ⟨d1, f1, z1⟩ := blk1 hr1
    obtain ⟨d2, _, _⟩ := blk1 hbz
    have HNW := Lib.hid (hn.below hBW)
    have hLen := len_any W base b nodes ps S (hn.below hBW)
    have HLen := Lib.hid (fun k => len_any (W.drewN k) base b nodes ps S ((hn.below hBW).below (below_drewN (Below.refl _ W) k)))
    have HLW := Lib.hid (HLen.out 1)
    have hsW := hKp.size
    have hxl : (xs.length : Int) = ps.length := by rw [hxs]
    have HR := Lib.hid hr
    have HBD := Lib.hid hbd
    have HARE := Lib.hid hare
    have HR0 := Lib.hid hr0
    have HR1 := Lib.hid hr1
    clear hr hbd hare hr0 hr1 hKp hbz hn hN4 hit hLen
    gi_wp2
    refine Code.wpIn_mono NoPanic.imp ?_
    gi_region_with (first | (refine ⟨trivial, ?_⟩; gi_at_call 13; refine (callsIn_wide.2 HLW.out).mono ?_; rintro e w' ⟨rfl, rfl⟩))
    all_goals
      refine NoPanic.normal ?_
      gi_wp2
      obtain ⟨WF, hWF⟩ : ∃ WF : World, WF = (((W.drewN 1).setCell ⟨w.heap.size, 0, none⟩ (.slice a' ps.length c')).setCell ⟨w.heap.size + 1, 0, none⟩ (.bool true)) := ⟨_, rfl⟩
      rw [← hWF]
      have hFk : ∀ k, k ≠ w.heap.size → k ≠ w.heap.size + 1 → WF.heap[k]? = W.heap[k]? := fun k k0 k1 => by rw [hWF]; exact (hp_set_ne k1).trans (hp_set_ne k0)
      have hKF : WF.heap[D]? = some (.deferred (some [])) := (hFk D (by omega) (by omega)).trans hK
      have hf0 : WF.heap[w.heap.size]? = some (.cells #[.slice a' ps.length c'] 43 (0, 0)) := by
        rw [hWF]
        exact (hp_set_ne (show w.heap.size ≠ w.heap.size + 1 by omega)).trans (hp_set HR0.out 0 _)
      have hf1 : WF.heap[w.heap.size + 1]? = some (.cells #[.bool true] 4 (0, 0)) := by
        rw [hWF]
        exact hp_set ((hp_set_ne (show w.heap.size + 1 ≠ w.heap.size by omega)).trans HR1.out) 0 _
      have hBF : Below w.heap.size w WF := by
        rw [hWF]
        exact (((below_drewN hBW 1).setCell (p := ⟨w.heap.size, 0, none⟩) (Nat.le_refl _) _).setCell (p := ⟨w.heap.size + 1, 0, none⟩) (by simp) _)
      refine ⟨by simp, .inl ⟨_, _, rfl, run_takeDeferred hKF, ?_⟩⟩
      have hgr := grownBy_putObj' WF D (.deferred none)
      have hEk : ∀ k, k < WF.heap.size → k ≠ D → (WF.putObj D (.deferred none)).heap[k]? = WF.heap[k]? := fun k hk hn => hgr.block k hk (fun e => hn (Option.some.inj e))
      have k0 := (hEk w.heap.size (blk1 hf0).2.2 (by omega)).trans hf0
      have k1 := (hEk (w.heap.size + 1) (blk1 hf1).2.2 (by omega)).trans hf1
      have hBE : Below w.heap.size w (WF.putObj D (.deferred none)) := hBF.grown hgr hBF.size (fun j hj => by simp at hj; omega)
      have hFs : WF.heap.size = W.heap.size := by rw [hWF, size_set, size_set]; rfl
      have hcellk : ∀ k cs T, W.heap[k]? = some (.cells cs T (0, 0)) → w4.heap.size ≤ k → (WF.putObj D (.deferred none)).heap[k]? = W.heap[k]? := by
        intro k cs T hc hlk
        have hkz := (Array.getElem?_eq_some_iff.1 hc).1
        refine (hEk k (by omega) (fun e => ?_)).trans (hFk k (by omega) (by omega))
        rw [e, hK] at hc
        simp at hc
      have hTold : Told w (WF.putObj D (.deferred none)) (.slice a' ps.length c') (ps.map q) := by
        refine ⟨a', c', xs.map (·.2), by rw [hlx, hxs], by rw [List.map_map]; exact HARE.out, ?_, fun y hy => ?_⟩
        · rw [hlx]
          refine own_mono (own_kept HR.out (fun g hg => ?_)) (by omega)
          obtain ⟨cur, hcur⟩ := own_heap HR.out g hg
          exact hcellk g _ _ hcur (own_from HR.out g hg).1
        · obtain ⟨x, hx, rfl⟩ := List.mem_map.1 hy
          refine own_mono (own_kept (HBD.out x hx) (fun g hg => ?_)) (by omega)
          obtain ⟨cur, hcur⟩ := own_heap (HBD.out x hx) g hg
          exact hcellk g _ _ hcur (own_from (HBD.out x hx) g hg).1
      have e0 := (blk1 k0).1
      have e1 := (blk1 k1).1
      have HT := Lib.hid hTold
      obtain ⟨WE, hWE⟩ : ∃ WE, WE = WF.putObj D (.deferred none) := ⟨_, rfl⟩
      rw [← hWE] at e0 e1 hBE HT ⊢
      clear hWF hKF hf0 hf1 hgr k0 k1 hWE hK d0 d1 d2 hq hFk hEk hcellk hTold
      exact ⟨.tuple #[.slice a' ps.length c', .bool true], by simp [results, Try.results20, go_sem, e0, e1, Result.andThen], _, rfl, HT.out, hBE⟩
end Go.Proofs.Ytnnfagdhigodbaa.neto
