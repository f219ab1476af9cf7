/-
  The statement ChunkPlays: whatever pieces come, in whatever order: what a box takes, lacks, and has is the document's.
-/
import Derived.Test.YtgpkenbefolegaaDoorRPut
import Derived.Test.YtgpkenbefolegaaDoorRMiss
import Derived.Test.YtgpkenbefolegaaDoorPlainInt
import Derived.Test.YtgpkenbefolegaaDoorAwake
import Derived.Test.YtgpkenbefolegaaDoorRows
import Derived.Test.YtgpkenbefolegaaDoorCards
import Derived.Test.YtgpkenbefolegaaDoorTie
namespace Go.Proofs.YtgpkenbefolegaaDoor.chunkPlays
open Go.ChangeShapes Go.WideShapes Go.ChangeAt Go.RowKit Go.Joins
open Go.Proofs.YtgpkenbefolegaaDoor.kit Go.Proofs.YtgpkenbefolegaaDoor.mapkit Go.Proofs.YtgpkenbefolegaaDoor.byt Go.Proofs.YtgpkenbefolegaaDoor.sum Go.Proofs.YtgpkenbefolegaaDoor.cut Go.Proofs.YtgpkenbefolegaaDoor.laid Go.Proofs.YtgpkenbefolegaaDoor.box
set_option linter.unusedVariables false
set_option linter.unusedSimpArgs false
set_option maxHeartbeats 4000000
set_option maxRecDepth 100000

theorem boxoff_put {w : World} {base b m g : Nat} {V : BoxV} {N : Nat → Prop} {cs : Array Value} (h : BoxOff w base b m V N) (hg : w.heap[g]? = some (.cells cs 5 (0, 0))) (hN : N g) (k : Nat) (v : Value) : BoxOff (w.setCell ⟨g, k, none⟩ v) base b m V N := by
  have hnb := h.at.notByte g cs hg
  obtain ⟨a1, a2, a3, ⟨f, a4, a5, a6⟩, a7⟩ := h
  refine ⟨a1, a2, (hp_set_ne (fun e => hnb (.inl e.symm))).trans a3, ⟨f, a4.set (a := ⟨g, k, none⟩) (fun e => hnb (.inr e.symm)) _, fun i hi => ?_, a6⟩, a7⟩
  have hk := a5 i hi
  cases hgi : V.get i with
  | none => rw [hgi] at hk; exact hk
  | some d =>
    rw [hgi] at hk
    obtain ⟨a, c', e1, e2⟩ := hk
    refine ⟨a, c', e1, own.own_kept e2 (fun g' hg' => hp_set_ne (fun e => ?_))⟩
    rw [hg'] at e1
    have e : g' = g := e
    rw [e] at e1
    exact a6 i hi _ _ _ e1 hN
theorem refoff_put {w : World} {base br g : Nat} {V : BoxV} {N : Nat → Prop} {cs : Array Value} (h : RefOff w base br V N) (hg : w.heap[g]? = some (.cells cs 5 (0, 0))) (hN : N g) (k : Nat) (v : Value) : RefOff (w.setCell ⟨g, k, none⟩ v) base br V N := by
  obtain ⟨h0, a, c, L, h1, h2, h3, h4⟩ := h
  have hb : br ≠ g := by
    intro e
    rw [e, hg] at h1
    simp at h1
  exact ⟨h0, a, c, L, (hp_set_ne hb).trans h1, own.own_kept h2 (fun j hj => hp_set_ne (own.own_ne h2 hg (by decide) j hj)), fun x hx => ⟨own.own_kept (h3 x hx).1 (fun j hj => hp_set_ne (fun e => (h3 x hx).2 j hj (by rw [show j = g from e]; exact hN))), (h3 x hx).2⟩, h4⟩
/-- Both boxes, alike. -/
structure St (w W : World) (b m br : Nat) (V : BoxV) : Prop where
  box : BoxAt W w.heap.size b m V
  ref : RefOff W w.heap.size br V (fun _ => False)
  below : Below w.heap.size w W
theorem St.old {w W W' : World} {b m br : Nat} {V : BoxV} (h : St w W b m br V) (hb : Below W.heap.size W W') : St w W' b m br V := ⟨h.box.below hb, h.ref.below hb, below_step h.below hb⟩
/-- An empty one of the document's beside an empty box. -/
theorem st_new {w W : World} {b m : Nat} (h : BoxAt W w.heap.size b m empty) (hb : Below w.heap.size w W) : St w (W.alloc (.cells #[.slice none 0 0] 51)) b m W.heap.size empty := by
  have hn := below_new1 W (.cells #[.slice none 0 0] 51)
  exact ⟨h.below hn, ⟨hb.size, none, 0, [], hp_alloc_new _ _, World.ownsRow_nil _ _ _ _, by simp, rel_empty, by simp⟩, below_step hb hn⟩
/-- While a list of bytes is overwritten. -/
structure Wq (w W : World) (b m br : Nat) (V : BoxV) (N : Nat → Prop) (g n pb : Nat) (pc : Array Value) : Prop where
  box : BoxOff W w.heap.size b m V N
  ref : RefOff W w.heap.size br V N
  below : Below w.heap.size w W
  blk : ∃ us : Array Value, W.heap[g]? = some (.cells us 5 (0, 0)) ∧ n ≤ us.size
  pbk : W.heap[pb]? = some (.cells pc 33 (0, 0))
theorem Wq.put {w W : World} {b m br : Nat} {V : BoxV} {N : Nat → Prop} {g n pb : Nat} {pc : Array Value} (h : Wq w W b m br V N g n pb pc) (hN : N g) (hg : w.heap.size ≤ g) (k : Nat) (v : Value) : Wq w (W.setCell ⟨g, k, none⟩ v) b m br V N g n pb pc := by
  obtain ⟨us, h1, h2⟩ := h.blk
  have hne : pb ≠ g := by
    intro e
    have h3 := h.pbk
    rw [e, h1] at h3
    simp at h3
  exact ⟨boxoff_put h.box h1 hN k v, refoff_put h.ref h1 hN k v, h.below.setCell (p := ⟨g, k, none⟩) hg _, ⟨_, hp_set h1 k v, by simpa using h2⟩, (hp_set_ne hne).trans h.pbk⟩
theorem ref_false {w : World} {base br : Nat} {V : BoxV} {N : Nat → Prop} (h : RefOff w base br V N) : RefOff w base br V (fun _ => False) := by
  obtain ⟨h0, a, c, L, h1, h2, h3, h4, h5⟩ := h
  exact ⟨h0, a, c, L, h1, h2, fun x hx => ⟨(h3 x hx).1, fun _ _ hf => hf⟩, h4, fun _ _ hf => hf⟩
theorem Wq.st {w W : World} {b m br : Nat} {V : BoxV} {N : Nat → Prop} {g n pb : Nat} {pc : Array Value} (h : Wq w W b m br V N g n pb pc) : St w W b m br V := ⟨h.box.at, ref_false h.ref, h.below⟩
theorem put_anyo (p : PieceV) (w : World) (base b m : Nat) (V : BoxV) (N : Nat → Prop) (h : BoxOff w base b m V N) (hN : ∀ g, N g → g < w.heap.size) (hbase : base ≤ w.heap.size) (hp : GoodP w p) :
    Calls Tryd.prog 17 #[.pointer (some ⟨b, 0, none⟩), pval p] w (PutsOff base b m V p N w) := by
  by_cases hm : mayP p = true
  · exact put_elseo p w base b m V N h hN hbase hm hp.sum hp.byt hp.lie hp.nil
  · exact put_mayo p w base b m V N h (by simpa using hm) (by have := hp.cap; have := hp.len; unfold maxLen at this; omega) hp.tot
theorem ownr_lie {w : World} {base g cap m : Nat} {l : List Nat} (h : OwnRow w base g cap l m) : Lie w (some ⟨g, 0, none⟩) (bcells l) ∧ (∃ cs : Array Value, w.heap[g]? = some (Obj.cells cs 5 (0, 0)) ∧ l.length ≤ cs.size) ∧ l.length + 2 ≤ cap ∧ cap ≤ maxLen := by
  have hh := h
  obtain ⟨hx, hz | ⟨g', c', cur, e', hg, hh', hc, hm, hsz, hcur⟩⟩ := hh
  · simp at hz
  simp only [Value.slice.injEq, Option.some.injEq, Addr.mk.injEq, and_true, true_and] at e'
  obtain ⟨rfl, rfl⟩ := e'
  refine ⟨.inr ⟨g, 0, rfl, (kit.blk hh').2.2, fun i hi => ?_⟩, ⟨cur, hh', by omega⟩, hc, hm⟩
  rw [bcells_len] at hi
  rw [Nat.zero_add, World.ownsRow.cellAt h i (by omega), bcells_append, List.getElem?_append_left (by rw [bcells_len]; exact hi)]
theorem own_blk {w : World} {base g c : Nat} {x : List Nat} (h : w.ownsRow base 5 1 (.slice (some ⟨g, 0, none⟩) x.length c) x.length (bcells x)) : ∃ us : Array Value, w.heap[g]? = some (.cells us 5 (0, 0)) ∧ x.length ≤ us.size := by
  obtain ⟨hx, hz | ⟨g', c', cur, e', hg, hh', hc, hm, hsz, hcur⟩⟩ := h
  · simp at hz
  simp only [Value.slice.injEq, Option.some.injEq, Addr.mk.injEq, and_true, true_and] at e'
  obtain ⟨rfl, rfl⟩ := e'
  exact ⟨cur, hh', by omega⟩
theorem ints_lie {w : World} {base : Nat} {a : Option Addr} {c : Nat} {l : List Nat} (h : IntsAt w base (.slice a l.length c) l) : Lie w a (icells l) := by
  obtain ⟨ao, cap, e, h1, h2, h3⟩ := owned_lie h
  simp only [Value.slice.injEq, true_and] at e
  rw [e.1]; exact h2
theorem ints_shape {w : World} {base : Nat} {v : Value} {l : List Nat} (h : IntsAt w base v l) : ∃ a c, v = .slice a l.length c := by
  obtain ⟨a, c, e, -⟩ := own_shape h
  exact ⟨a, c, e⟩
theorem miss_le {V : BoxV} (h : WF V) : (missV V).length ≤ 16 := by
  unfold missV
  split
  · simp
  · have := List.length_filter_le (fun i => (V.get i).isNone) (List.range V.tot.toNat)
    rw [List.length_range] at this
    have := h.le
    have := h.pos
    omega

/-- A block of a piece is no box's. -/
theorem _root_.Go.Proofs.YtgpkenbefolegaaDoor.box.BoxAt.notPc {w : World} {base b m : Nat} {V : BoxV} (h : BoxAt w base b m V) : ∀ k cur, w.heap[k]? = some (.cells cur 33 (0, 0)) → ¬ (k = b ∨ k = m) := by
  intro k cur hh hkk
  obtain ⟨f, hm, _⟩ := h.map
  obtain ⟨es, clock, he⟩ := hm.obj
  rcases hkk with rfl | rfl
  · rw [h.blk] at hh
    simp at hh
  · rw [he] at hh
    cases hh
theorem rs_not {w : World} {base br : Nat} {V : BoxV} {N : Nat → Prop} (h : RefOff w base br V N) {j : Nat} (hs : RS w base br N j) : ¬ j < base := by
  rcases hs with rfl | ⟨h1, -⟩
  · have := h.lob; omega
  · omega
theorem rs_pc {w : World} {base br j : Nat} {V : BoxV} {N : Nat → Prop} {cs : Array Value} (h : RefOff w base br V N) (hh : w.heap[j]? = some (.cells cs 33 (0, 0))) (hN : N j) : ¬ RS w base br N j := by
  rintro (rfl | ⟨-, h2, -⟩)
  · obtain ⟨-, a, c, L, h1, -⟩ := h
    rw [h1] at hh
    simp at hh
  · exact h2 hN
theorem rs_byte {w : World} {base br j : Nat} {V : BoxV} {N : Nat → Prop} {cs : Array Value} (h : RefOff w base br V N) (hh : w.heap[j]? = some (.cells cs 5 (0, 0))) : ¬ RS w base br N j := by
  rintro (rfl | ⟨-, -, cs', h3⟩)
  · obtain ⟨-, a, c, L, h1, -⟩ := h
    rw [h1] at hh
    simp at hh
  · rw [h3] at hh
    simp at hh

theorem walk_ok (L : List PieceV) (a : Option Addr) (cap : Nat) (clear : Int) (w : World) (hlc : L.length ≤ cap) (hcm : cap ≤ 9223372036854775807) (ht : Tab w) (hat : PinAt w a L) (hgood : ∀ p ∈ L, GoodP w p) (hdl : ∀ p ∈ L, p.data.length ≤ 140737488351232) :
    Calls Tryd.prog 7 #[.slice a L.length cap, .int .i64 clear] w fun e w' => e = .returned (.bool true) ∧ Below w.heap.size w w' := by
  have HAT := Lib.hid hat
  have HG := Lib.hid hgood
  have HT := Lib.hid ht
  have HDL := Lib.hid hdl
  clear hat hgood ht hdl
  go_enter Tryd.func7, Tryd.ntmps7
  go_wp2_with fail
  refine (new_ok _).mono ?_; rintro e w1 ⟨b, m, rfl, hbox, hb1⟩
  obtain ⟨w2, hw2⟩ : ∃ w2, w2 = w1.alloc (.cells #[.slice none 0 0] 51) := ⟨_, rfl⟩
  obtain ⟨br0, hbr0⟩ : ∃ x, x = w1.heap.size := ⟨_, rfl⟩
  have HS2 : Hid (St w w2 b m br0 empty) := by rw [hw2, hbr0]; exact st_new hbox hb1
  have HW2 := Lib.hid hw2
  have HBR0 := Lib.hid hbr0
  clear hbox hb1 hw2 hbr0
  go_upto_region 2 with fail
  rw [← HW2.out, ← HBR0.out]
  clear HW2 HBR0
  go_wp2_with fail
  refine (awake_ok _ (cut.Tab.below HT.out HS2.out.below)).mono ?_; rintro e w3 ⟨rfl, hb3⟩
  have HS3 := Lib.hid (HS2.out.old hb3)
  clear hb3 HS2
  go_wp2_with fail
  go_loopw [6, 7] (fun pw i wr => ∃ (k br : Nat) (V : BoxV), k ≤ L.length ∧ pw = .pointer (some ⟨br, 0, none⟩) ∧ i = .int .i64 k ∧ Hid (St w wr b m br V)) (fun _ i _ => L.length - (intOf i).toNat)
  case atStart => exact ⟨0, br0, empty, Nat.zero_le _, rfl, rfl, HS3⟩
  case round =>
    obtain ⟨k, br, V, hk, rfl, rfl, HS⟩ := hrel
    by_cases hlt : k < L.length
    · have hpick : ((k : Int) == clear) = true ∨ ((k : Int) == clear) = false := by cases ((k : Int) == clear) <;> simp
      rcases hpick with hcl | hcl
      case' inl =>
        have HCL := Lib.hid (clear_ok wr w.heap.size b m V HS.out.box)
        go_wp2_with fail
        refine HCL.out.mono ?_; rintro e wc ⟨rfl, hbxc, hkc⟩
        obtain ⟨w3, hw3⟩ : ∃ w3, w3 = wc.alloc (.cells #[.slice none 0 0] 51) := ⟨_, rfl⟩
        obtain ⟨br3, hbr3⟩ : ∃ x, x = wc.heap.size := ⟨_, rfl⟩
        obtain ⟨V3, hV3⟩ : ∃ V3 : BoxV, V3 = empty := ⟨_, rfl⟩
        have HS3 : Hid (St w w3 b m br3 V3) := by
          rw [hw3, hbr3, hV3]
          exact st_new hbxc (HS.out.below.trans (hkc.below HS.out.below.size (fun j hj => by have := HS.out.box.lob; have := HS.out.box.lom; omega)))
        have HW3 := Lib.hid hw3
        have HBR3 := Lib.hid hbr3
        clear hw3 hbr3 hV3 hbxc hkc HCL
        go_upto_region 10 with fail
        rw [← HW3.out, ← HBR3.out]
        clear HW3 HBR3
      case' inr =>
        go_upto_region 10 with fail
        obtain ⟨w3, hw3⟩ : ∃ w3, w3 = wr := ⟨_, rfl⟩
        obtain ⟨br3, hbr3⟩ : ∃ x, x = br := ⟨_, rfl⟩
        obtain ⟨V3, hV3⟩ : ∃ V3 : BoxV, V3 = V := ⟨_, rfl⟩
        rw [← hw3, ← hbr3]
        have HS3 : Hid (St w w3 b m br3 V3) := by rw [hw3, hbr3, hV3]; exact HS
        clear hw3 hbr3 hV3
      all_goals
        clear HS hcl
        have hB3 := HS3.out.below
        obtain ⟨g0, off, rfl, hg0, hc⟩ := PinAt.cells HAT.out (by intro e; rw [e] at hlt; simp at hlt)
        obtain ⟨p, hp⟩ : ∃ p, p = L[k] := ⟨_, rfl⟩
        have HLC : Hid (∀ W, Below w.heap.size w W → W.cell? ⟨g0, off + k * 4, none⟩ = some (.int .i64 p.pos) ∧ W.cell? ⟨g0, off + k * 4 + 1, none⟩ = some (.int .i64 p.tot) ∧ W.cell? ⟨g0, off + k * 4 + 2, none⟩ = some (.int .u32 p.sum) ∧ W.cell? ⟨g0, off + k * 4 + 3, none⟩ = some (.slice p.addr p.data.length p.cap)) := by
          intro W hW
          obtain ⟨c0, c1, c2, c3⟩ := hc k hlt
          rw [hp]
          exact ⟨((bcell hW).1 _ _ hg0).trans c0, ((bcell hW).1 _ _ hg0).trans c1, ((bcell hW).1 _ _ hg0).trans c2, ((bcell hW).1 _ _ hg0).trans c3⟩
        have HGP := Lib.hid (HG.out p (by rw [hp]; exact List.getElem_mem hlt))
        have hpl : p.data.length ≤ 140737488351232 := HDL.out p (by rw [hp]; exact List.getElem_mem hlt)
        clear hc hp
        obtain ⟨d0, d1, d2, d3⟩ := HLC.out w3 hB3
        have hg3 : g0 < w3.heap.size := Nat.lt_of_lt_of_le hg0 hB3.size
        obtain ⟨w4, hw4⟩ : ∃ w4, w4 = w3.alloc (.cells #[.int .i64 p.pos, .int .i64 p.tot, .int .u32 p.sum, .slice p.addr p.data.length p.cap] 33) := ⟨_, rfl⟩
        have hb4 : Below w3.heap.size w3 w4 := by rw [hw4]; exact below_new1 _ _
        have hn4 : w4.heap[w3.heap.size]? = some (.cells #[.int .i64 p.pos, .int .i64 p.tot, .int .u32 p.sum, .slice p.addr p.data.length p.cap] 33 (0, 0)) := by rw [hw4]; exact hp_alloc_new _ _
        obtain ⟨pb, hpb⟩ : ∃ pb, pb = w3.heap.size := ⟨_, rfl⟩
        rw [← hpb] at hn4
        have hlt2 : (k : Int) < (L.length : Int) := by omega
        have hk0 : (0 : Int) ≤ (k : Int) := by omega
        have HOW := Lib.hid (own_any p.data 71 p.addr p.cap w4 hpl HGP.out.nil (HGP.out.lie.below (below_step hB3 hb4)))
        have HW4 := Lib.hid hw4
        have HPB := Lib.hid hpb
        have HN4 := Lib.hid hn4
        have HB4 := Lib.hid hb4
        clear hw4 hpb hn4 hb4
        go_upto_region 11 with fail
        rw [← HW4.out, ← HPB.out]
        clear HW4 d0 d1 d2 d3
        obtain ⟨d0, d1, d2, d3⟩ := HLC.out w4 (below_step hB3 HB4.out)
        have hg4 : g0 < w4.heap.size := Nat.lt_of_lt_of_le hg3 HB4.out.size
        go_wp2_with fail
        refine HOW.out.mono ?_; rintro e w5 ⟨g, gc, rfl, hown, hb5⟩
        have hgl := (own.own_from hown g rfl).1
        have hpbz : pb < w4.heap.size := (kit.blk HN4.out).2.2
        have hnv : pb ≠ g := by omega
        have hn5 := hp_step HN4.out hb5
        obtain ⟨m0, m1, m2, m3, mf, mz⟩ := blk4 hn5
        obtain ⟨w6, hw6⟩ : ∃ w6, w6 = w5.setCell ⟨pb, 3, none⟩ (.slice (some ⟨g, 0, none⟩) p.data.length gc) := ⟨_, rfl⟩
        have hb36 : Below w3.heap.size w3 w6 := by rw [hw6]; exact (below_step HB4.out hb5).setCell (p := ⟨pb, 3, none⟩) (by rw [← HPB.out]; exact Nat.le_refl _) _
        have hn6 : w6.heap[pb]? = some (.cells #[.int .i64 p.pos, .int .i64 p.tot, .int .u32 p.sum, .slice (some ⟨g, 0, none⟩) p.data.length gc] 33 (0, 0)) := by rw [hw6]; exact hp_set hn5 3 _
        have hown6 : OwnRow w6 w4.heap.size g gc p.data 71 := by
          rw [hw6]
          exact own.own_kept hown (fun j hj => hp_set_ne (by
            have e : j = g := by simpa using hj.symm
            subst e
            exact fun e => hnv e.symm))
        have hs34 : w3.heap.size ≤ w4.heap.size := HB4.out.size
        have hpb3 : pb = w3.heap.size := HPB.out
        have HNN : Hid (∀ j, (j = g ∨ j = pb) → w3.heap.size ≤ j) := by rintro j (rfl | rfl) <;> omega
        have HBX6 : Hid (BoxOff w6 w.heap.size b m V3 (fun j => j = g ∨ j = pb)) := (HS3.out.box.off HNN.out).below hb36
        have HRF6 : Hid (RefOff w6 w.heap.size br3 V3 (fun j => j = g ∨ j = pb)) := (HS3.out.ref.re HNN.out).below hb36
        have HB6 := Lib.hid (below_step hB3 hb36)
        have HN6 := Lib.hid hn6
        have HOW6 := Lib.hid hown6
        have hgz6 : g < w6.heap.size := (own.own_from hown6 g rfl).2
        have hpz6 : pb < w6.heap.size := (kit.blk hn6).2.2
        have HNL : Hid (∀ j, (j = g ∨ j = pb) → j < w6.heap.size) := by rintro j (rfl | rfl) <;> assumption
        have hwg : w.heap.size ≤ g := by have := hB3.size; omega
        have hwp : w.heap.size ≤ pb := by have := hB3.size; omega
        obtain ⟨hol, -, hoc, hocm⟩ := ownr_lie hown6
        have hbd6 : Below w6.heap.size w6 w6.drew := below_drewN (Below.refl _ w6) 1
        have HP1a := Lib.hid (put_anyo ⟨p.pos, p.tot, p.sum, some ⟨g, 0, none⟩, gc, p.data⟩ w6.drew w.heap.size b m V3 (fun j => j = g ∨ j = pb) (HBX6.out.below hbd6) HNL.out HB6.out.size ⟨(show Lie w6.drew _ _ from hol.below hbd6), HGP.out.byt, HGP.out.sum, by simp, by show p.data.length ≤ gc; omega, hocm, HGP.out.tot⟩)
        have HBD6 := Lib.hid hbd6
        have HW6 := Lib.hid hw6
        obtain ⟨V4, hV4⟩ : ∃ V4 : BoxV, V4 = (putV V3 p).1 := ⟨_, rfl⟩
        obtain ⟨code, hcode⟩ : ∃ c : Int, c = (putV V3 p).2 := ⟨_, rfl⟩
        have HV4 := Lib.hid hV4
        have HCODE := Lib.hid hcode
        have HP1 : Hid (Calls Tryd.prog 17 #[.pointer (some ⟨b, 0, none⟩), .agg #[.int .i64 p.pos, .int .i64 p.tot, .int .u32 p.sum, .slice (some ⟨g, 0, none⟩) p.data.length gc]] w6.drew fun e w' => e = .returned (.int .i64 code) ∧ BoxOff w' w.heap.size b m V4 (fun j => j = g ∨ j = pb) ∧ Keep (fun k => k = b ∨ k = m) w6.drew w') := by
          rw [hV4, hcode]
          exact HP1a.out
        clear HP1a
        obtain ⟨x0, x1, x2, x3, xf, xz⟩ := blk4 (show w6.drew.heap[pb]? = _ from hn6)
        clear hown hb5 hn5 hw6 hb36 hn6 hown6 hol hoc hocm hbd6 hV4 hcode HOW hs34 hpb3 hnv hgl
        go_upto_region 12 with fail
        rw [← HW6.out]
        clear HW6 m0 m1 m2 m3 mf mz d0 d1 d2 d3
        obtain ⟨d0, d1, d2, d3⟩ := HLC.out w6.drew (below_step HB6.out HBD6.out)
        have hg6 : g0 < w6.drew.heap.size := Nat.lt_of_lt_of_le hg0 HB6.out.size
        go_region_held3 (fun w' => w'.cell? ⟨pb, 0, none⟩ = some (.int .i64 p.pos) ∧ w'.cell? ⟨pb, 1, none⟩ = some (.int .i64 p.tot) ∧ w'.cell? ⟨pb, 2, none⟩ = some (.int .u32 p.sum) ∧ w'.cell? ⟨pb, 3, none⟩ = some (.slice (some ⟨g, 0, none⟩) p.data.length gc) ∧ w'.cell? ⟨g0, off + k * 4, none⟩ = some (.int .i64 p.pos) ∧ w'.cell? ⟨g0, off + k * 4 + 1, none⟩ = some (.int .i64 p.tot) ∧ w'.cell? ⟨g0, off + k * 4 + 2, none⟩ = some (.int .u32 p.sum) ∧ w'.cell? ⟨g0, off + k * 4 + 3, none⟩ = some (.slice p.addr p.data.length p.cap)) (first | (exact ⟨x0, x1, x2, x3, d0, d1, d2, d3⟩) | (exact ⟨y0, y1, y2, y3, s0, s1, s2, s3⟩) | (exact ⟨z0, z1, z2, z3, t0, t1, t2, t3⟩) | (exact ⟨cell_step z0 hb9, cell_step z1 hb9, cell_step z2 hb9, cell_step z3 hb9, cell_step t0 hb9, cell_step t1 hb9, cell_step t2 hb9, cell_step t3 hb9⟩)) (first | (go_at_call 17; refine HP1.out.mono ?_; rintro e w7 ⟨rfl, hbx7, hk7⟩; have hBX6d := HBX6.out.below HBD6.out; have hb67 : Below w.heap.size w w7 := (below_step HB6.out HBD6.out).trans (hk7.below HB6.out.size (fun j hj => by have := HBX6.out.lob; have := HBX6.out.lom; omega)); have hn7 : w7.heap[pb]? = _ := hk7.hp (show w6.drew.heap[pb]? = _ from HN6.out) (fun hs => hBX6d.at.notPc _ _ HN6.out hs); obtain ⟨y0, y1, y2, y3, yf, yz⟩ := blk4 hn7; obtain ⟨s0, s1, s2, s3⟩ := HLC.out w7 hb67; have HRF7 := Lib.hid ((HRF6.out.below HBD6.out).box hBX6d.at hk7); have HOW7 : Hid (OwnRow w7 w4.heap.size g gc p.data 71) := own_keep' (show OwnRow w6.drew _ _ _ _ _ from HOW6.out) hk7 (fun kk cur hh hs => hBX6d.at.notByte kk cur hh hs); have hz7 : w6.heap.size ≤ w7.heap.size := hk7.size; have HP2a := rput_ok p w7 w.heap.size br3 V3 (fun j => j = g ∨ j = pb) HRF7.out hb67.size (fun j hj => Nat.lt_of_lt_of_le (HNL.out j hj) hz7) (HGP.out.below hb67) (by omega); rw [← HV4.out, ← HCODE.out] at HP2a; unfold pval at HP2a; have HP2 := Lib.hid HP2a; clear HP2a; have HB7 := Lib.hid hb67; have HBX7 : Hid (BoxOff w7 w.heap.size b m V4 (fun j => j = g ∨ j = pb)) := hbx7; have HN7 := Lib.hid hn7; clear hBX6d hb67 hn7 hbx7 hk7) | (go_at_call 24; refine HP2.out.mono ?_; rintro e w8 ⟨rfl, hrf8, hk8⟩; have hb8 : Below w.heap.size w w8 := HB7.out.trans (hk8.below HB7.out.size (fun j hj hs => (rs_not HRF7.out hs hj))); have hn8 : w8.heap[pb]? = _ := hk8.hp HN7.out (fun hs => rs_pc HRF7.out HN7.out (.inr rfl) hs); obtain ⟨z0, z1, z2, z3, zf, zz⟩ := blk4 hn8; obtain ⟨t0, t1, t2, t3⟩ := HLC.out w8 hb8; have HBX8 := Lib.hid (HBX7.out.ref HRF7.out hk8); have HOW8 : Hid (OwnRow w8 w4.heap.size g gc p.data 71) := own_keep' HOW7.out hk8 (fun kk cur hh hs => rs_byte HRF7.out hh hs); have HKE := Lib.hid (kept_any p.data 71 g gc p.addr p.cap w4.heap.size w8 hpl HOW8.out (HGP.out.lie.below hb8)); have HB8 := Lib.hid hb8; have HRF8 := Lib.hid hrf8; have HN8 := Lib.hid hn8; clear hb8 hn8 hrf8 hk8) | (go_at_call 13; refine HKE.out.mono ?_; rintro e w9 ⟨rfl, hb9⟩; have HBX9 := Lib.hid (HBX8.out.below hb9); have HRF9 := Lib.hid (HRF8.out.below hb9); have HB9 := Lib.hid (below_step HB8.out hb9); have HN9 := Lib.hid (hp_step HN8.out hb9); have HOW9 : Hid (OwnRow w9 w4.heap.size g gc p.data 71) := own_below HOW8.out hb9))
        clear x0 x1 x2 x3 xf xz y0 y1 y2 y3 yf yz z0 z1 z2 z3 zf zz d0 d1 d2 d3 s0 s1 s2 s3 t0 t1 t2 t3 HP1 HP2 HKE HBX6 HRF6 HBX7 HRF7 HBX8 HRF8
        have HT9 := Lib.hid (cut.Tab.below HT.out HB9.out)
        have HWQ9 : Hid (Wq w w9 b m br3 V4 (fun j => j = g ∨ j = pb) g p.data.length pb #[.int .i64 p.pos, .int .i64 p.tot, .int .u32 p.sum, .slice (some ⟨g, 0, none⟩) p.data.length gc]) := ⟨HBX9.out, HRF9.out, HB9.out, (ownr_lie HOW9.out).2.1, HN9.out⟩
        clear HBX9 HRF9 HOW9 HN9 HN8 HN7 HOW8 HOW7 HOW6
        go_wp2_with fail
        go_loopw [9] (fun i wx => ∃ j : Nat, j ≤ p.data.length ∧ i = .int .i64 j ∧ Hid (Wq w wx b m br3 V4 (fun j => j = g ∨ j = pb) g p.data.length pb #[.int .i64 p.pos, .int .i64 p.tot, .int .u32 p.sum, .slice (some ⟨g, 0, none⟩) p.data.length gc])) (fun i _ => p.data.length - (intOf i).toNat)
        case atStart => exact ⟨0, Nat.zero_le _, rfl, HWQ9⟩
        case round =>
          obtain ⟨wo, rfl⟩ : ∃ wo : World, wo = wr := ⟨_, rfl⟩
          obtain ⟨j, hj, rfl, h6⟩ := hrel
          obtain ⟨q0, q1, q2, q3, qf, qz⟩ := blk4 h6.out.pbk
          by_cases hjl : j < p.data.length
          · obtain ⟨cs, hc1, hc2⟩ := h6.out.blk
            obtain ⟨b0, b1, b2⟩ := kit.blk hc1
            have hget : ∃ v, wo.cell? ⟨g, j, none⟩ = some v := ⟨_, (b0 j).trans (Array.getElem?_eq_getElem (by omega))⟩
            obtain ⟨v, hv⟩ := hget
            have hfz := b1 j
            have HNX := Lib.hid (h6.out.put (.inl rfl) hwg j (.int .u8 97))
            clear b0 b1 hc1
            go_wp2_with fail
            go_roundw
            case rel => exact ⟨j + 1, by omega, by go_num, HNX⟩
            case measure => simp [intOf]; omega
          · obtain rfl : j = p.data.length := by omega
            have HS10 := Lib.hid h6.out.st
            have HPK := Lib.hid h6.out.pbk
            have hwf := h6.out.box.wf
            have HWF := Lib.hid hwf
            have HDN := Lib.hid (done_ok wo w.heap.size b m V4 h6.out.box.at (cut.Tab.below HT.out h6.out.below))
            clear h6 hwf
            go_wp2_with fail
            refine HDN.out.mono ?_; rintro e w11 ⟨vx, rfl, hox, hb11⟩
            have HS11 := Lib.hid (HS10.out.old hb11)
            have HQ11 := Lib.hid hb11
            have HPK11 := Lib.hid (hp_step HPK.out hb11)
            have HRD := Lib.hid (rdone_ok w11 w.heap.size br3 V4 (fun _ => False) HS11.out.ref HWF.out)
            obtain ⟨dn, hdn⟩ : ∃ d, d = doneV V4 := ⟨_, rfl⟩
            have HDL2 : Hid (((doneV V4).getD []).length ≤ 8192) := by
              cases hd : doneV V4 with
              | none => simp [Hid]
              | some x => exact (done_len HWF.out hd).1
            unfold DoneIs at HRD
            rw [← hdn] at HRD HDL2 hox ⊢
            obtain ⟨x, hx⟩ : ∃ x, x = dn.getD [] := ⟨_, rfl⟩
            rw [← hx] at HRD HDL2 hox
            obtain ⟨okk, hokk⟩ : ∃ o, o = dn.isSome := ⟨_, rfl⟩
            rw [← hokk] at HRD ⊢
            obtain ⟨ax, cx, rfl, -⟩ := own_shape hox
            have HOX := Lib.hid hox
            have HS11b : Hid (w.heap.size ≤ wo.heap.size) := HS10.out.below.size
            clear hox hb11 hdn hx hokk HDN HPK q0 q1 q2 q3 qf qz
            go_wp2_with fail
            refine HRD.out.mono ?_; rintro e w12 ⟨vy, rfl, hoy, hb12⟩
            obtain ⟨ay, cy, rfl, -⟩ := own_shape hoy
            have HOX12 := Lib.hid (own_below HOX.out hb12)
            have HOY12 := Lib.hid hoy
            have HS12 := Lib.hid (HS11.out.old hb12)
            have HQ12 := Lib.hid (below_step HQ11.out hb12)
            have HPK12 := Lib.hid (hp_step HPK11.out hb12)
            have HMS := Lib.hid (miss_ok w12 w.heap.size b m V4 HS12.out.box)
            have hm16 := miss_le HWF.out
            clear hb12 hoy HRD HS11 HPK11 HOX
            go_wp2_with fail
            refine HMS.out.mono ?_; rintro e w13 ⟨v13, rfl, hi13, hb13⟩
            obtain ⟨a13, c13, rfl⟩ := ints_shape hi13
            have HI13 := Lib.hid hi13
            have HOX13 := Lib.hid (own_below HOX12.out hb13)
            have HOY13 := Lib.hid (own_below HOY12.out hb13)
            have HS13 := Lib.hid (HS12.out.old hb13)
            have HQ13 := Lib.hid (below_step HQ12.out hb13)
            have HPK13 := Lib.hid (hp_step HPK12.out hb13)
            have HRM := Lib.hid (rmiss_ok w13 w.heap.size br3 V4 (fun _ => False) HS13.out.ref HWF.out)
            obtain ⟨ml, hml⟩ : ∃ l, l = missV V4 := ⟨_, rfl⟩
            rw [← hml] at HRM HI13 hm16 ⊢
            clear hb13 hi13 HMS HOX12 HOY12 HS12 HPK12 hml
            go_wp2_with fail
            refine HRM.out.mono ?_; rintro e w14 ⟨v14, rfl, hi14, hb14⟩
            obtain ⟨a14, c14, rfl⟩ := ints_shape hi14
            have HOX14 := Lib.hid (own_below HOX13.out hb14)
            have HOY14 := Lib.hid (own_below HOY13.out hb14)
            have HS14 := Lib.hid (HS13.out.old hb14)
            have HQ14 := Lib.hid (below_step HQ13.out hb14)
            have HPK14 := Lib.hid (hp_step HPK13.out hb14)
            have HPL := plainI_any ml ml a13 a14 c13 c14 w14 (by omega) ((ints_lie HI13.out).below hb14) (ints_lie hi14)
            rw [show sameB ml ml = true by simp [sameB]] at HPL
            have HPL := Lib.hid HPL
            clear hb14 hi14 HRM HOX13 HOY13 HS13 HPK13 HI13
            go_wp2_with fail
            refine HPL.out.mono ?_; rintro e w15 ⟨rfl, hb15⟩
            have HOX15 := Lib.hid (own_below HOX14.out hb15)
            have HOY15 := Lib.hid (own_below HOY14.out hb15)
            have HS15 := Lib.hid (HS14.out.old hb15)
            have HQ15 := Lib.hid (below_step HQ14.out hb15)
            have HPK15 := Lib.hid (hp_step HPK14.out hb15)
            have hxl9 := HDL2.out
            obtain ⟨ao1, co1, e1, -, hlx, -⟩ := owned_lie HOX15.out
            obtain ⟨ao2, co2, e2, -, hly, -⟩ := owned_lie HOY15.out
            simp only [Value.slice.injEq, true_and] at e1 e2
            obtain ⟨rfl, rfl⟩ := e1
            obtain ⟨rfl, rfl⟩ := e2
            have HBB := bytes_any x x ax ay cx cy w15 (by omega) hlx hly
            rw [show sameB x x = true by simp [sameB]] at HBB
            have HBB := Lib.hid HBB
            clear hb15 HPL HOX14 HOY14 HS14 HPK14 hlx hly HOY15
            go_wp2_with fail
            refine HBB.out.mono ?_; rintro e w16 ⟨rfl, hb16⟩
            have HOX16 := Lib.hid (own_below HOX15.out hb16)
            have HS16 := Lib.hid (HS15.out.old hb16)
            have HQ16 := Lib.hid (below_step HQ15.out hb16)
            have HPK16 := Lib.hid (hp_step HPK15.out hb16)
            have HWQ16 : Hid (0 < x.length → ∃ g', ax = some ⟨g', 0, none⟩ ∧ w.heap.size ≤ g' ∧ Wq w w16 b m br3 V4 (fun j => j = g') g' x.length pb #[.int .i64 p.pos, .int .i64 p.tot, .int .u32 p.sum, .slice (some ⟨g, 0, none⟩) p.data.length gc]) := by
              intro hxp
              obtain ⟨g', rfl⟩ := own.own_ptr HOX16.out hxp
              have hl1 := own.own_from HOX16.out g' rfl
              have hN : ∀ j, j = g' → wo.heap.size ≤ j := fun j e => by rw [e]; exact hl1.1
              exact ⟨g', rfl, Nat.le_trans HS11b.out hl1.1, (HS10.out.box.off hN).below HQ16.out, (HS10.out.ref.re hN).below HQ16.out, HS16.out.below, own_blk HOX16.out, HPK16.out⟩
            clear hb16 HBB HS10 HQ11 HQ12 HQ13 HQ14 HQ15 HQ16 HOX15 HS15 HPK15
            go_wp2_with fail
            go_loopw [14] (fun i wx => ∃ j : Nat, j ≤ x.length ∧ i = .int .i64 j ∧ Hid (St w wx b m br3 V4) ∧ Hid (0 < x.length → ∃ g', ax = some ⟨g', 0, none⟩ ∧ w.heap.size ≤ g' ∧ Wq w wx b m br3 V4 (fun j => j = g') g' x.length pb #[.int .i64 p.pos, .int .i64 p.tot, .int .u32 p.sum, .slice (some ⟨g, 0, none⟩) p.data.length gc])) (fun i _ => x.length - (intOf i).toNat)
            case atStart => exact ⟨0, Nat.zero_le _, rfl, HS16, HWQ16⟩
            case round =>
              obtain ⟨wo2, rfl⟩ : ∃ wo2 : World, wo2 = wr := ⟨_, rfl⟩
              obtain ⟨j, hj, rfl, h5, h6⟩ := hrel
              by_cases hjl : j < x.length
              · obtain ⟨g', rfl, hg', hq⟩ := h6.out (by omega)
                obtain ⟨cs, hc1, hc2⟩ := hq.blk
                obtain ⟨b0, b1, b2⟩ := kit.blk hc1
                have hget : ∃ v, wo2.cell? ⟨g', j, none⟩ = some v := ⟨_, (b0 j).trans (Array.getElem?_eq_getElem (by omega))⟩
                obtain ⟨v, hv⟩ := hget
                have hfz := b1 j
                have hnx := hq.put rfl hg' j (.int .u8 96)
                have HNX := Lib.hid hnx
                have HNS := Lib.hid hnx.st
                clear b0 b1 hc1 hnx hq
                go_wp2_with fail
                go_roundw
                case rel => exact ⟨j + 1, by omega, by go_num, HNS, fun _ => ⟨g', rfl, hg', HNX.out⟩⟩
                case measure => simp [intOf]; omega
              · obtain rfl : j = x.length := by omega
                go_wp2_with fail
                go_roundw
                case rel => exact ⟨k + 1, br3, V4, by omega, rfl, by go_num, h5⟩
                case measure => simp [intOf]; omega
    · obtain rfl : k = L.length := by omega
      go_wp2_with fail
      go_ret
      exact ⟨rfl, HS.out.below⟩

theorem weights_all {H : Type} {P : Program} {t : TypeId} {n : Nat} : ∀ {ds : List (DataW H)} {d : DataW H}, d ∈ ds → n ∈ d.weights P t → n ∈ DataW.weightsAll P t ds
  | d0 :: ds, d, hd, hn => by
    simp only [DataW.weightsAll, List.mem_append]
    rcases List.mem_cons.1 hd with rfl | hd
    · exact .inl hn
    · exact .inr (weights_all hd hn)
theorem small_p {H : Type} {o : PieceV} {d1 : DataW H} {ds sp : List (DataW H)} {ts : List TypeId} {es : List (DataW H)} {j k : Nat} (hsz : (DataW.weightsEach Tryd.prog ts es).all (· ≤ reachBytes) = true) (ht : ts[j]? = some 24) (he : es[j]? = some (.slice ds sp)) (hk : ds[k]? = some d1) (ho : DataIs o d1) : o.data.length ≤ 140737488351232 := by
  obtain ⟨e0, e1, e2, e3, rfl, ⟨-, h⟩ | ⟨es', sp', rfl, hl⟩⟩ := ho
  · rw [h]; simp
  · have e1' : Tryd.prog.bytesOf 5 = 1 := by kernel_rfl
    have hw : (es'.length + sp'.length) * Tryd.prog.bytesOf 5 ∈ (DataW.agg [e0, e1, e2, DataW.slice es' sp'] : DataW H).weights Tryd.prog 33 := by
      simp [DataW.weights, DataW.weightsEach, Tryd.underlying33, Tryd.underlying22]
    have hw2 := weights_all (List.mem_of_getElem? hk) hw
    have hw3 : (es'.length + sp'.length) * Tryd.prog.bytesOf 5 ∈ (DataW.slice ds sp : DataW H).weights Tryd.prog 24 := by
      simp only [DataW.weights, Tryd.underlying24, List.mem_cons, List.mem_append]
      exact .inr (.inl hw2)
    have h := List.all_eq_true.1 hsz _ (DataW.weights_mem_each ht he _ hw3)
    rw [e1', Nat.mul_one] at h
    have h2 : es'.length + sp'.length ≤ 140737488351232 := of_decide_eq_true h
    omega

theorem lawWalk {H : Type} (enc : TypeId × Value → H) (W : World) (base : Nat) (args : Array Value) (ds : List (DataW H)) (p : List MemPlace)
    (hval : ∀ (j : Nat) t v, Tryd.f7.params[j]? = some t → args[j]? = some v → Value.okWide Tryd.prog W .any base t v)
    (hA : DataW.TrodAll enc Tryd.prog W 0 (fun _ => true) true Tryd.f7.params.toList args.toList ds p)
    (hsz : (DataW.weightsEach Tryd.prog Tryd.f7.params.toList ds).all (· ≤ reachBytes) = true) (ht : Tab W) :
    Calls Tryd.prog 7 args W fun e w' => e = .returned (.bool true) ∧ Below W.heap.size W w' := by
  rw [Tryd.params7] at hA hval hsz
  obtain ⟨v0, vs0, d0, ds0, p0, q0, hargs, rfl, rfl, h0, r0⟩ := trodAll_cons hA
  obtain ⟨v1, vs1, d1, ds1, p1, q1, rfl, rfl, rfl, h1, r1⟩ := trodAll_cons r0
  obtain ⟨rfl, rfl, rfl⟩ := trodAll_nil r1
  obtain rfl : args = #[v0, v1] := Array.toList_inj.1 hargs
  obtain ⟨a, L, cap, es, sp, rfl, hlc, hcm, hn, hat, hd, hel, hsp, hgood⟩ := open_slice_gen 4 pcells (fun p d => GoodP W p ∧ DataIs p d) Tryd.underlying24 (by kernel_rfl) (by omega) (fun n cs y _ h => elem_piece n cs y h) (hval 0 24 v0 rfl rfl) h0
  obtain ⟨n1, rfl, rfl, rfl, w1⟩ := open_int Tryd.underlying3 (hval 1 3 v1 rfl rfl) h1
  refine walk_ok L a cap n1 W hlc (by unfold maxLen at hcm; omega) ht hat (fun p hp => ?_) (fun p hp => ?_)
  · obtain ⟨i, hi, rfl⟩ := List.getElem_of_mem hp
    exact (hgood i hi (by omega)).1
  · obtain ⟨i, hi, rfl⟩ := List.getElem_of_mem hp
    rcases hd with ⟨_, rfl, _, _⟩ | rfl
    · simp at hi
    · have hk2 : i < es.length := by omega
      exact small_p (j := 0) (k := i) hsz rfl rfl (List.getElem?_eq_getElem hk2) (hgood i hi hk2).2

theorem laid_met (os : Os) : laidMet Tryd.prog Rows.chunkPlaysRow.laid ((laidWorld os).forCall (fun _ _ => 0) ⟨#[], #[.slice none 0 0, .int .i64 0], []⟩).memory :=
  laidMet_of_run' 8 (by kernel_rfl) (by kernel_rfl)
theorem reads (os : Os) {H : Type} (enc : TypeId × Value → H) : ∃ places, DataW.whole enc Tryd.prog ((laidWorld os).forCall (fun _ _ => 0) ⟨#[], #[.slice none 0 0, .int .i64 0], []⟩).memory Tryd.f7.params.toList Rows.chunkPlaysSpec.vars false (#[.slice none 0 0, .int .i64 0] : Array Value).toList 8 = some ([.nil, .lit (.int .i64 0)], [], places) :=
  ⟨[], by kernel_rfl⟩

set_option maxRecDepth 100000 in
theorem lifted (os : Os) (started : os.Started) (H : Type) (enc : TypeId × Value → H) (F : Stop.Interp) :
    ReturnsInHanded {} Tryd.checked os 7 .any ((OpenSpec.ofChange Rows.chunkPlaysSpec).preRow enc Tryd.prog Tryd.f7 Rows.chunkPlaysRow.domain false Rows.chunkPlaysRow.laid) (((OpenSpec.ofChange Rows.chunkPlaysSpec).at F).post enc Tryd.prog Tryd.f7 false true false false) := by
  obtain ⟨places, hx⟩ := reads os enc
  refine returnsInHanded_of_row (C := Tryd.checked) (s := (OpenSpec.ofChange Rows.chunkPlaysSpec)) own started (by kernel_rfl) Tryd.func7
    (witness_row_at (enc := enc) (C := Tryd.checked) false (laidWorld os) #[.slice none 0 0, .int .i64 0] rfl (by kernel_rfl) (by kernel_rfl) (by kernel_rfl)
      (OpenSpec.preRow_of_cond 8 hx (by kernel_rfl) (fun k hk => by cases hk) (by kernel_rfl) (laid_met os))) ?_
  intro W base args ds gs before hval hW hcnd hk hsz hL _ _
  exact law_post_at (C := Tryd.checked) laidOut (fun ds h => by match ds, h with | [_, _], _ => rfl) 4 rfl Tryd.underlying4 rfl (by kernel_rfl) hW hsz
    (fun p hA hs => lawWalk enc W base args ds p hval hA hs (tab hL))

theorem said : Rows.ChunkPlaysSaid :=
  OpenClaim.holds_of_cond 7 Tryd.f7 rfl rfl rfl rfl rfl rfl rfl ⟨rfl, rfl, rfl, rfl, rfl⟩ rfl rfl rfl rfl rfl (by kernel_rfl) Tryd.func7 (by kernel_rfl)
    (of_decide_eq_true (by kernel_rfl)) (by unfold Func.isWrapper; first | (rw [if_pos (by decide +kernel)]; kernel_rfl) | (rw [if_neg (by decide +kernel)]; exact ⟨rfl, rfl⟩))
    (fun os started H enc _ F => by rw [OpenClaim.pre_eq_preRow]; exact lifted os started H enc F)

theorem plain (f : FuncId) (fn : Func) (hf : Tryd.pinned.checked.prog.funcNamed "purse/purselaw12.ChunkPlays" = some f) (hfn : Tryd.pinned.checked.prog.funcs[f]? = some fn) :
    true = Tryd.pinned.checked.prog.looks [] ∧ ∀ (j : Nat) t, fn.params[j]? = some t → Tryd.pinned.checked.prog.wantsStandIn t = false := by
  obtain rfl : f = 7 := Option.some.inj ((show Tryd.prog.funcNamed "purse/purselaw12.ChunkPlays" = some 7 by kernel_rfl).symm.trans hf) |>.symm
  obtain rfl : fn = Tryd.f7 := (Option.some.inj (Tryd.func7.symm.trans hfn)).symm
  refine ⟨by kernel_rfl, ?_⟩
  have h : (Tryd.f7.params.toList.all fun t => ! Tryd.prog.wantsStandIn t) = true := by kernel_rfl
  intro j t ht
  have := List.all_eq_true.1 h t (by simpa using Array.mem_of_getElem? ht)
  have h2 : Tryd.prog.wantsStandIn t = false := by simpa using this
  exact h2

theorem card : Rows.ChunkPlaysCardSaid :=
  Claim7.holds_tied_plain_at .later [] _ _ _ _ said (fun _ h => by cases h) (by kernel_rfl) (fun _ h => by cases h) chunkPlays_row_tie rfl ⟨rfl, rfl⟩ (by kernel_rfl) rfl plain (by kernel_rfl)
#print axioms card
end Go.Proofs.YtgpkenbefolegaaDoor.chunkPlays

