/-
  For NetForks: where a net lies; what stays while the fork goes on.
-/
import Derived.Test.YtnnfagdhigodbaaNetJ
import Derived.Test.YtnnfagdhigodbaaNetR
import Derived.Test.YtnnfagdhigodbaaNetI
import Derived.Test.YtnnfagdhigodbaaNetO
namespace Go.Proofs.Ytnnfagdhigodbaa.netfp
open Go.ChangeShapes Go.WideShapes Go.ChangeAt Go.RowKit Go.Shelf
open Go.Proofs.Ytnnfagdhigodbaa.kit Go.Proofs.Ytnnfagdhigodbaa.byt Go.Proofs.Ytnnfagdhigodbaa.netc Go.Proofs.Ytnnfagdhigodbaa.netg Go.Proofs.Ytnnfagdhigodbaa.nets Go.Proofs.Ytnnfagdhigodbaa.nett Go.Proofs.Ytnnfagdhigodbaa.nete Go.Proofs.Ytnnfagdhigodbaa.netf Go.Proofs.Ytnnfagdhigodbaa.netq Go.Proofs.Ytnnfagdhigodbaa.netr Go.Proofs.Ytnnfagdhigodbaa.neti Go.Proofs.Ytnnfagdhigodbaa.neth Go.Proofs.Ytnnfagdhigodbaa.netj
set_option linter.unusedVariables false
set_option linter.unusedSimpArgs false
set_option maxHeartbeats 1000000
set_option maxRecDepth 100000

theorem foot_in {w : World} {base b : Nat} {m : Int} {qs : List Q} {S : Cuts} (h : NetIs w base b m qs S) {k : Nat} (hf : Foot w b k) : base ≤ k ∧ k < w.heap.size ∧ ∀ cur : Array Value, w.heap[k]? ≠ some (Obj.cells cur 5 (0, 0)) := by
  obtain ⟨ps, hn, _⟩ := h
  refine ⟨?_, foot_lt hn hf⟩
  obtain ⟨h1, ⟨a, c, mb, h2, h3, h4, h5⟩, h6⟩ := hn
  rcases (foot_map h2 k).1 hf with h | h | h
  · omega
  · exact (own_from h5 k h).1
  · omega
/-- What a net's calls leave of what was there at V. -/
structure Gone (V wr : World) (lo f : Nat) (m : Int) (qs : List Q) (S : Cuts) : Prop where
  net : NetIs wr lo f m qs S
  fit : Fit qs
  moved : Moved V wr f
  below : Below lo V wr
theorem Gone.start {V : World} {lo f : Nat} {m : Int} {qs : List Q} {S : Cuts} (h : NetIs V lo f m qs S) (hF : Fit qs) : Gone V V lo f m qs S := ⟨h, hF, Moved.refl _ _, Below.refl _ _⟩
theorem Gone.op {V wr w' : World} {lo f : Nat} {m : Int} {qs qs' : List Q} {S S' : Cuts} (h : Gone V wr lo f m qs S) (hN : NetIs w' lo f m qs' S') (hF : Fit qs') (hb : Below lo wr w') (hm : Moved wr w' f) : Gone V w' lo f m qs' S' :=
  ⟨hN, hF, h.moved.trans hm, h.below.trans hb⟩
theorem Gone.old {V wr w' : World} {lo f : Nat} {m : Int} {qs : List Q} {S : Cuts} (h : Gone V wr lo f m qs S) (hlo : lo ≤ wr.heap.size) (hb : Below wr.heap.size wr w') : Gone V w' lo f m qs S :=
  ⟨h.net.below hb, h.fit, h.moved.trans (Moved.of_below hb (is_lt h.net)), h.below.trans (Below.mono hb hlo)⟩
/-- Another net that lies apart is as it was. -/
theorem net_stays {V wr : World} {base n f : Nat} {m : Int} {qs : List Q} {S : Cuts} (h : NetIs V base n m qs S) (hd : ∀ k, Foot V n k → ¬ Foot V f k) (hm : Moved V wr f) (hu : ∀ (g : Nat) (cur : Array Value), V.heap[g]? = some (Obj.cells cur 5 (0, 0)) → ¬ Foot V f g) :
    NetIs wr base n m qs S ∧ (∀ k, Foot wr n k ↔ Foot V n k) := by
  obtain ⟨ps, h1, hq⟩ := h
  have hk : ∀ k, Foot V n k → wr.heap[k]? = V.heap[k]? := fun k hf => hm.kept k (foot_lt h1 hf).1 (hd k hf)
  refine ⟨⟨ps, NetAt.keep h1 hk (fun p hp g hg => ?_), hq⟩, foot_same (hk n (.inl rfl))⟩
  obtain ⟨cur, hcur⟩ := own_heap (h1.bodies p hp) g hg
  exact hm.kept g (blk hcur).2.2 (hu g cur hcur)
/-- A list that lies apart is as it was. -/
theorem row_stays {V wr : World} {base f : Nat} {v : Value} {ps : List Pkt} (h : RowF V base f v ps) (hm : Moved V wr f) (hb : Below base V wr) (hu : ∀ (g : Nat) (cur : Array Value), V.heap[g]? = some (Obj.cells cur 5 (0, 0)) → ¬ Foot V f g) : RowF wr base f v ps := by
  have hlt := fun g (hg : v.ownBlock = some g) => (h.lt hg).1
  obtain ⟨⟨a, c, rfl, h2⟩, h3, h4⟩ := h
  have hown : ∀ g, a = some ⟨g, 0, none⟩ → (Value.slice a ps.length c).ownBlock = some g := fun g hg => by rw [hg]; rfl
  refine ⟨⟨a, c, rfl, own_kept h2 (fun g hg => hm.kept g (hlt g (hown g hg)) (h3 g (hown g hg)))⟩, fun g hg hf => ?_, fun p hp => (h4 p hp).keep hb (fun g cur hg => hm.kept g (blk hg).2.2 (hu g cur hg))⟩
  rcases hm.foot g hf with h | h
  · exact h3 g hg h
  · have := hlt g hg; omega
theorem u8_off {V : World} {lo f : Nat} {m : Int} {qs : List Q} {S : Cuts} (h : NetIs V lo f m qs S) : ∀ (g : Nat) (cur : Array Value), V.heap[g]? = some (Obj.cells cur 5 (0, 0)) → ¬ Foot V f g :=
  fun g cur hg hf => (foot_in h hf).2.2 cur hg
/-- The sequence's things stay. -/
theorem it_stays {V wr : World} {z hi B : Nat} {ps : List Pkt} (h : ItP V z hi B ps) (hk : ∀ k, k < hi → k ≠ z → (B = k ∨ (∃ a n c, V.cell? ⟨B, 0, none⟩ = some (.slice a n c) ∧ a = some ⟨k, 0, none⟩) ∨ ∃ p ∈ ps, p.a = some ⟨k, 0, none⟩) → wr.heap[k]? = V.heap[k]?) : ItP wr z hi B ps := by
  obtain ⟨⟨a, c, h1, h2, h3⟩, hb, hbd, hl⟩ := h
  have hc := (blk1 h1).1
  exact ⟨⟨a, c, (hk B hb.1 hb.2 (.inl rfl)).trans h1, own_kept h2 (fun g hg => hk g (h3 g hg).1 (h3 g hg).2 (.inr (.inl ⟨_, _, _, hc, hg⟩))), h3⟩, hb, fun p hp => ⟨own_kept (hbd p hp).1 (fun g hg => hk g ((hbd p hp).2.1 g hg).1 ((hbd p hp).2.1 g hg).2 (.inr (.inr ⟨p, hp, hg⟩))), (hbd p hp).2⟩, hl⟩
theorem told_row {w w' : World} {base b : Nat} {m : Int} {qs qs' : List Q} {S : Cuts} {v : Value} (h : NetIs w base b m qs S) (hbw : base ≤ w.heap.size) (hb : Below w.heap.size w w') (hT : neto.Told w w' v qs') : ∃ xs, RowF w' base b v xs ∧ xs.map q = qs' ∧ (∀ g, v.ownBlock = some g → w.heap.size ≤ g) ∧ ∀ x ∈ xs, Body w' w.heap.size x := by
  obtain ⟨a, c, xs, rfl, hq, hown, hbd⟩ := hT.ps
  obtain ⟨ps, h1, _⟩ := h
  refine ⟨xs, ⟨⟨a, c, rfl, own_mono hown hbw⟩, fun g hg hf => ?_, fun p hp => .inl (own_mono (hbd p hp) hbw)⟩, hq, fun g hg => (own_from hown g (own_block hown g hg)).1, hbd⟩
  have e := own_from hown g (own_block hown g hg)
  have := (foot_lt h1 ((foot_same (hb.block b h1.lt) g).1 hf)).1
  omega
end Go.Proofs.Ytnnfagdhigodbaa.netfp
