/-
  For NetForks: what stays from the sequence's making to its telling.
-/
import Derived.Test.YtnnfagdhigodbaaNetFp
namespace Go.Proofs.Ytnnfagdhigodbaa.netfq
open Go.ChangeShapes Go.WideShapes Go.ChangeAt Go.RowKit Go.Shelf
open Go.Proofs.Ytnnfagdhigodbaa.kit Go.Proofs.Ytnnfagdhigodbaa.byt Go.Proofs.Ytnnfagdhigodbaa.netc Go.Proofs.Ytnnfagdhigodbaa.netg Go.Proofs.Ytnnfagdhigodbaa.nets Go.Proofs.Ytnnfagdhigodbaa.nett Go.Proofs.Ytnnfagdhigodbaa.nete Go.Proofs.Ytnnfagdhigodbaa.netf Go.Proofs.Ytnnfagdhigodbaa.netq Go.Proofs.Ytnnfagdhigodbaa.netr Go.Proofs.Ytnnfagdhigodbaa.netl Go.Proofs.Ytnnfagdhigodbaa.neti Go.Proofs.Ytnnfagdhigodbaa.neto Go.Proofs.Ytnnfagdhigodbaa.neth Go.Proofs.Ytnnfagdhigodbaa.netj Go.Proofs.Ytnnfagdhigodbaa.netfp
set_option linter.unusedVariables false
set_option linter.unusedSimpArgs false
set_option maxHeartbeats 1000000
set_option maxRecDepth 100000

/-- Blocks below base, from M on, and the bytes below L stay. -/
def Stay (base L M hi : Nat) (W W' : World) : Prop :=
  ∀ k, k < hi → (k < base ∨ M ≤ k ∨ (k < L ∧ ∃ cur : Array Value, W.heap[k]? = some (Obj.cells cur 5 (0, 0)))) → W'.heap[k]? = W.heap[k]?
theorem Stay.refl (base L M hi : Nat) (W : World) : Stay base L M hi W W := fun _ _ _ => rfl
theorem Stay.trans {base L M hi : Nat} {A B C : World} (h : Stay base L M hi A B) (g : Stay base L M hi B C) : Stay base L M hi A C := by
  intro k hk hs
  refine (g k hk ?_).trans (h k hk hs)
  rcases hs with hs | hs | ⟨h1, cur, h2⟩
  · exact .inl hs
  · exact .inr (.inl hs)
  · exact .inr (.inr ⟨h1, cur, (h k hk (.inr (.inr ⟨h1, cur, h2⟩))).trans h2⟩)
theorem Stay.below {base L M hi n : Nat} {A B : World} (h : Below n A B) (hn : hi ≤ n) : Stay base L M hi A B := fun k hk _ => h.block k (by omega)
theorem Stay.low {base L M hi n : Nat} {A B : World} (h : ∀ k, k < n → B.heap[k]? = A.heap[k]?) (hn : hi ≤ n) : Stay base L M hi A B := fun k hk _ => h k (by omega)
/-- What the fork's calls leave. -/
theorem stay_fork {w3 V wr : World} {base L f : Nat} {m : Int} {qs0 qs : List Q} {S0 S : Cuts} (hF : NetIs w3 L f m qs0 S0) (hb : Below w3.heap.size w3 V) (hbL : base ≤ L) (h : Gone V wr L f m qs S) : Stay base L w3.heap.size V.heap.size V wr := by
  intro k hk hs
  rcases hs with hs | hs | ⟨hs, _⟩
  · exact h.below.block k (by omega)
  · refine h.moved.kept k hk (fun hf => ?_)
    have := (foot_in hF ((foot_same (hb.block f (is_lt hF)) k).1 hf)).2.1
    omega
  · exact h.below.block k hs
/-- What the net's Drop leaves. -/
theorem stay_drop {w2 W W' : World} {base M hi n : Nat} {m : Int} {qs : List Q} {S : Cuts} (hN : NetIs w2 base n m qs S) (hb : Below w2.heap.size w2 W) (hM : w2.heap.size ≤ M) (hm : Moved W W' n) (hbb : Below base W W') (hhi : hi ≤ W.heap.size) : Stay base w2.heap.size M hi W W' := by
  have hf2 : ∀ k, Foot W n k → Foot w2 n k := fun k hf => (foot_same (hb.block n (is_lt hN)) k).1 hf
  intro k hk hs
  rcases hs with hs | hs | ⟨hs, cur, hc⟩
  · exact hbb.block k hs
  · refine hm.kept k (by omega) (fun hf => ?_)
    have := (foot_in hN (hf2 k hf)).2.1
    omega
  · refine hm.kept k (by omega) (fun hf => ?_)
    exact (foot_in hN (hf2 k hf)).2.2 cur ((hb.block k hs).symm.trans hc)

/-- What has been told, and the sequence, at a world V. -/
structure Snap (V W : World) (base L M rb bb B : Nat) (v : Value) (xs ps : List Pkt) : Prop where
  hrb : W.heap[rb]? = some (.cells #[.bool false] 4 (0, 0)) ∧ rb < base
  hbb : W.heap[bb]? = some (.cells #[v] 43 (0, 0)) ∧ M ≤ bb
  row : ∃ a c, v = .slice a xs.length c ∧ W.ownsRow M 48 3 (.slice a xs.length c) xs.length (pkcells xs)
  rows : ∀ x ∈ xs, Body W M x
  box : ∃ a c, W.heap[B]? = some (.cells #[.slice a ps.length c] 43 (0, 0)) ∧ M ≤ B ∧ W.ownsRow M 48 3 (.slice a ps.length c) ps.length (pkcells ps)
  bodies : ∀ p ∈ ps, Body W base p ∧ (∀ g, p.a = some ⟨g, 0, none⟩ → g < L) ∧ p.l.length ≤ 16384
  len : ps.length ≤ 256
  lt : rb < V.heap.size ∧ bb < V.heap.size ∧ B < V.heap.size ∧ (∀ a n c, v = .slice (some a) n c → a.block < V.heap.size) ∧ (∀ g, (∃ cs, W.heap[B]? = some (.cells #[.slice (some ⟨g, 0, none⟩) ps.length cs] 43 (0, 0))) → g < V.heap.size) ∧ (∀ x ∈ xs, ∀ g, x.a = some ⟨g, 0, none⟩ → g < V.heap.size) ∧ L ≤ V.heap.size
theorem Snap.stay {V W W' : World} {base L M rb bb B : Nat} {v : Value} {xs ps : List Pkt} (h : Snap V W base L M rb bb B v xs ps) (hs : Stay base L M V.heap.size W W') : Snap V W' base L M rb bb B v xs ps := by
  obtain ⟨⟨h1, h2⟩, ⟨h3, h4⟩, ⟨a, c, rfl, h5⟩, h6, ⟨a2, c2, h7, h8, h9⟩, h10, h11, ⟨z1, z2, z3, z4, z5, z6, z7⟩⟩ := h
  have hB : W'.heap[B]? = W.heap[B]? := hs B z3 (.inr (.inl h8))
  refine ⟨⟨(hs rb z1 (.inl h2)).trans h1, h2⟩, ⟨(hs bb z2 (.inr (.inl h4))).trans h3, h4⟩, ⟨a, c, rfl, own_kept h5 (fun g hg => hs g ?_ (.inr (.inl (own_from h5 g hg).1)))⟩, fun x hx => own_kept (h6 x hx) (fun g hg => hs g (z6 x hx g hg) (.inr (.inl (own_from (h6 x hx) g hg).1))), ⟨a2, c2, hB.trans h7, h8, own_kept h9 (fun g hg => hs g (z5 g ⟨c2, by rw [← hg]; exact h7⟩) (.inr (.inl (own_from h9 g hg).1)))⟩, fun p hp => ⟨own_kept (h10 p hp).1 (fun g hg => ?_), (h10 p hp).2⟩, h11, ⟨z1, z2, z3, z4, by rw [hB]; exact z5, z6, z7⟩⟩
  · have := z4 ⟨g, 0, none⟩ xs.length c (by rw [hg])
    exact this
  · obtain ⟨cur, hcur⟩ := own_heap (h10 p hp).1 g hg
    have := (h10 p hp).2.1 g hg
    exact hs g (by omega) (.inr (.inr ⟨this, cur, hcur⟩))
theorem Snap.rowp {V W : World} {base L M rb bb B : Nat} {v : Value} {xs ps : List Pkt} (h : Snap V W base L M rb bb B v xs ps) : RowP W v xs := by
  obtain ⟨a, c, h1, h2⟩ := h.row
  exact ⟨⟨_, a, c, h1, h2⟩, fun p hp => body_rd (h.rows p hp)⟩
theorem Snap.itp {V W : World} {base L M rb bb B z hi : Nat} {v : Value} {xs ps : List Pkt} (h : Snap V W base L M rb bb B v xs ps) (hz : V.heap.size ≤ z) (hh : V.heap.size ≤ hi) : ItP W z hi B ps := by
  obtain ⟨a, c, h1, h2, h3⟩ := h.box
  obtain ⟨z1, z2, z3, z4, z5, z6, z7⟩ := h.lt
  refine ⟨⟨a, c, h1, own_mono h3 (Nat.zero_le _), fun g hg => ?_⟩, ⟨by omega, by omega⟩, fun p hp => ⟨own_mono (h.bodies p hp).1 (Nat.zero_le _), fun g hg => ?_, (h.bodies p hp).2.2⟩, h.len⟩
  · have := z5 g ⟨c, by rw [← hg]; exact h1⟩
    exact ⟨by omega, by omega⟩
  · have := (h.bodies p hp).2.1 g hg
    exact ⟨by omega, by omega⟩
/-- A list of packets of its own whose bytes are written over. -/
structure After (lo : Nat) (V W : World) (a : Option Addr) (c : Nat) (ys : List Pkt) : Prop where
  below : Below lo V W
  row : W.ownsRow lo 48 3 (.slice a ys.length c) ys.length (pkcells ys)
  bodies : ∀ y ∈ ys, y.l.length = 0 ∨ ∃ (g : Nat) (cur : Array Value), y.a = some ⟨g, 0, none⟩ ∧ W.heap[g]? = some (Obj.cells cur 5 (0, 0)) ∧ y.l.length ≤ cur.size ∧ lo ≤ g
theorem After.start {lo : Nat} {V : World} {a : Option Addr} {c : Nat} {ys : List Pkt} (h : V.ownsRow lo 48 3 (.slice a ys.length c) ys.length (pkcells ys)) (hb : ∀ y ∈ ys, Body V lo y) : After lo V V a c ys := by
  refine ⟨Below.refl _ _, h, fun y hy => ?_⟩
  by_cases hl : y.l.length = 0
  · exact .inl hl
  · have hby := hb y hy
    obtain ⟨g, hg⟩ := own_ptr hby (by omega)
    obtain ⟨cur, hcur⟩ := own_heap hby g hg
    refine .inr ⟨g, cur, hg, hcur, ?_, (own_from hby g hg).1⟩
    rcases hby.2 with ⟨_, h0⟩ | ⟨g', cap, cur', e, h1, h2, h3, h4, h5, h6⟩
    · omega
    · simp only [Value.slice.injEq] at e
      obtain ⟨e1, _, e2⟩ := e
      rw [hg] at e1
      cases e1
      rw [hcur] at h2
      cases h2
      omega
theorem After.put {lo : Nat} {V W : World} {a : Option Addr} {c : Nat} {ys : List Pkt} (h : After lo V W a c ys) {g j : Nat} {v : Value} {cur : Array Value} (hg : W.heap[g]? = some (Obj.cells cur 5 (0, 0))) (hlo : lo ≤ g) : After lo V (W.setCell ⟨g, j, none⟩ v) a c ys := by
  refine ⟨h.below.setCell (p := ⟨g, j, none⟩) hlo _, own_kept h.row (fun k hk => hp_set_ne (own_ne h.row hg (by decide) k hk)), fun y hy => ?_⟩
  rcases h.bodies y hy with h0 | ⟨g', cur', h1, h2, h3, h4⟩
  · exact .inl h0
  · by_cases e : g' = g
    · subst e
      rw [hg] at h2
      cases h2
      exact .inr ⟨g', cur.setIfInBounds j v, h1, hp_set hg j _, by simpa using h3, h4⟩
    · exact .inr ⟨g', cur', h1, (hp_set_ne e).trans h2, h3, h4⟩
/-- A counter in a box. -/
structure CntI (V : World) (kb : Nat) (pre : List (Int × Pkt)) (W : World) : Prop where
  box : W.heap[kb]? = some (.cells #[.int .i64 pre.length] 3 (0, 0))
  keep : Keep (fun k => k = kb) V W
theorem cnti_own (V : World) (kb : Nat) : OwnFrom V.heap.size (CntI V kb) := by
  intro s W W' row hs hg hr
  exact ⟨blk_kept hs.box hg (fun r e => (hr r e).2), Keep.grown' hs.keep hg (fun j e => (hr j e).1)⟩
theorem Snap.start {w2 w3 w4 V : World} {base n : Nat} {m : Int} {ps xs : List Pkt} {S : Cuts} {rb bb B : Nat} {a ac : Option Addr} {c cc : Nat} (hA : NetAt w2 base n m ps S) (hF : Fit (ps.map q)) (h23 : w2.heap.size ≤ w3.heap.size)
    (hrb : w2.heap[rb]? = some (.cells #[.bool false] 4 (0, 0))) (hrl : rb < base) (hb2 : Below w2.heap.size w2 V) (hbb : V.heap[bb]? = some (.cells #[.slice a xs.length c] 43 (0, 0))) (hbl : w3.heap.size ≤ bb)
    (hr : w4.ownsRow w3.heap.size 48 3 (.slice a xs.length c) xs.length (pkcells xs)) (hbd : ∀ x ∈ xs, Body w4 w3.heap.size x) (hb4 : Below w4.heap.size w4 V)
    (hB : V.heap[B]? = some (.cells #[.slice ac ps.length cc] 43 (0, 0))) (hBl : w3.heap.size ≤ B) (hrow : V.ownsRow w3.heap.size 48 3 (.slice ac ps.length cc) ps.length (pkcells ps)) :
    Snap V V base w2.heap.size w3.heap.size rb bb B (.slice a xs.length c) xs ps := by
  have hs2 := hb2.size
  have hs4 := hb4.size
  refine ⟨⟨hp_step hrb hb2, hrl⟩, ⟨hbb, hbl⟩, ⟨a, c, rfl, own_below hr hb4⟩, fun x hx => own_below (hbd x hx) hb4, ⟨ac, cc, hB, hBl, hrow⟩, fun p hp => ⟨own_below (hA.bodies p hp) hb2, fun g hg => (own_from (hA.bodies p hp) g hg).2, hF.2 (q p) (List.mem_map_of_mem hp)⟩, by have := hF.1; rwa [List.length_map] at this, ⟨?_, (blk hbb).2.2, (blk hB).2.2, fun a' n' c' e => ?_, fun g ⟨cs, hg⟩ => ?_, fun x hx g hg => ?_, hs2⟩⟩
  · have := (blk hrb).2.2
    omega
  · simp only [Value.slice.injEq] at e
    obtain ⟨e1, e2, e3⟩ := e
    by_cases h0 : 0 < xs.length
    · obtain ⟨g, hg⟩ := own_ptr hr h0
      rw [hg] at e1
      cases e1
      have := (own_from hr g hg).2
      show g < _
      omega
    · rcases hr.2 with ⟨hz, _⟩ | ⟨g, cap, cur, hz, _, hh, _⟩
      · simp only [Value.slice.injEq] at hz
        rw [hz.1] at e1; cases e1
      · simp only [Value.slice.injEq] at hz
        rw [hz.1] at e1; cases e1
        have := (blk hh).2.2
        show g < _
        omega
  · rw [hB] at hg
    simp only [Option.some.injEq, Obj.cells.injEq, Array.mk.injEq, List.cons.injEq, Value.slice.injEq] at hg
    exact (own_from hrow g hg.1.1.1).2
  · have := (own_from (hbd x hx) g hg).2
    omega
end Go.Proofs.Ytnnfagdhigodbaa.netfq
