/-
  The document's box in memory: May, has, Put.
-/
import Derived.Test.YtgpkenbefolegaaDoorRBoxP
import Derived.Test.YtgpkenbefolegaaDoorPutO
import Derived.Test.YtgpkenbefolegaaDoorPieces
import Derived.Test.YtgpkenbefolegaaDoorOwn
import Derived.Test.YtgpkenbefolegaaDoorKit2
import Derived.Test.YtgpkenbefolegaaDoorKit3
import Derived.Deep.RegionHeld3
import Derived.Deep.RegionLaw
namespace Go.Proofs.YtgpkenbefolegaaDoor.box
open Go.ChangeShapes Go.WideShapes Go.ChangeAt Go.RowKit
open Go.Maps
open Go.Proofs.YtgpkenbefolegaaDoor.kit Go.Proofs.YtgpkenbefolegaaDoor.mapkit Go.Proofs.YtgpkenbefolegaaDoor.byt Go.Proofs.YtgpkenbefolegaaDoor.sum Go.Proofs.YtgpkenbefolegaaDoor.cut
set_option linter.unusedVariables false
set_option linter.unusedSimpArgs false
set_option maxHeartbeats 4000000
set_option maxRecDepth 100000

/-- The document's box in memory: its pieces' bytes lie in none of the blocks N. -/
structure RefOff (w : World) (base br : Nat) (V : BoxV) (N : Nat → Prop) : Prop where
  lob : base ≤ br
  ex : ∃ (a : Option Addr) (c : Nat) (L : List PieceV), w.heap[br]? = some (.cells #[.slice a L.length c] 51 (0, 0)) ∧ w.ownsRow base 33 4 (.slice a L.length c) L.length (pcellsL L) ∧ (∀ x ∈ L, DataAt w base x ∧ ∀ g, x.addr = some ⟨g, 0, none⟩ → ¬ N g) ∧ Rel L V ∧ ∀ g, a = some ⟨g, 0, none⟩ → ¬ N g
theorem RefOff.below {w w' : World} {base br : Nat} {V : BoxV} {N : Nat → Prop} (h : RefOff w base br V N) (hb : Below w.heap.size w w') : RefOff w' base br V N := by
  obtain ⟨h0, a, c, L, h1, h2, h3, h4⟩ := h
  exact ⟨h0, a, c, L, hp_step h1 hb, own_below h2 hb, fun x hx => ⟨own_below (h3 x hx).1 hb, (h3 x hx).2⟩, h4⟩
theorem RefOff.lt {w : World} {base br : Nat} {V : BoxV} {N : Nat → Prop} (h : RefOff w base br V N) : br < w.heap.size := by
  obtain ⟨h0, a, c, L, h1, -⟩ := h
  exact (kit.blk h1).2.2
theorem RefOff.keep {S : Nat → Prop} {w w' : World} {base br : Nat} {V : BoxV} {N : Nat → Prop} (h : RefOff w base br V N) (hk : Keep S w w') (hS : ∀ k cs T f, w.heap[k]? = some (.cells cs T f) → T ≠ 59 → ¬ S k) : RefOff w' base br V N := by
  obtain ⟨h0, a, c, L, h1, h2, h3, h4⟩ := h
  exact ⟨h0, a, c, L, hk.hp h1 (hS _ _ _ _ h1 (by decide)), own_keep' h2 hk (fun k cur hh => hS _ _ _ _ hh (by decide)), fun x hx => ⟨own_keep' (h3 x hx).1 hk (fun k cur hh => hS _ _ _ _ hh (by decide)), (h3 x hx).2⟩, h4⟩
theorem RefOff.re {w : World} {base br : Nat} {V : BoxV} {N N' : Nat → Prop} (h : RefOff w base br V N) (hN : ∀ g, N' g → w.heap.size ≤ g) : RefOff w base br V N' := by
  obtain ⟨h0, a, c, L, h1, h2, h3, h4, h5⟩ := h
  refine ⟨h0, a, c, L, h1, h2, fun x hx => ⟨(h3 x hx).1, fun g hg hn => ?_⟩, h4, fun g hg hn => by have := (own.own_from h2 g hg).2; have := hN g hn; omega⟩
  have hd := (h3 x hx).1
  unfold DataAt at hd
  rw [hg] at hd
  have := (own_lt hd).2
  have := hN g hn
  omega
theorem RefOff.put {w : World} {base br g : Nat} {V : BoxV} {cs : Array Value} (h : RefOff w base br V (fun k => k = g)) (hg : w.heap[g]? = some (.cells cs 5 (0, 0))) (k : Nat) (v : Value) : RefOff (w.setCell ⟨g, k, none⟩ v) base br V (fun k => k = g) := by
  obtain ⟨h0, a, c, L, h1, h2, h3, h4⟩ := h
  have hb : br ≠ g := by
    intro e
    rw [e, hg] at h1
    simp at h1
  refine ⟨h0, a, c, L, (hp_set_ne hb).trans h1, own.own_kept h2 (fun j hj => hp_set_ne (own.own_ne h2 hg (by decide) j hj)), fun x hx => ⟨own.own_kept (h3 x hx).1 (fun j hj => hp_set_ne (fun e => (h3 x hx).2 j hj e)), (h3 x hx).2⟩, h4⟩
/-- What the document's Put may change of what was there: its block, and its row of pieces. -/
def RS (w : World) (base br : Nat) (N : Nat → Prop) : Nat → Prop := fun k => k = br ∨ (base ≤ k ∧ ¬ N k ∧ ∃ cs, w.heap[k]? = some (.cells cs 33 (0, 0)))
/-- A box leaves the document's alone. -/
theorem RefOff.box {w w' : World} {base br b m : Nat} {V V' : BoxV} {N : Nat → Prop} (h : RefOff w base br V N) (hB : BoxAt w base b m V') (hk : Keep (fun k => k = b ∨ k = m) w w') : RefOff w' base br V N := by
  refine h.keep hk (fun k cs T f hh hT hs => ?_)
  obtain ⟨fm, hm, -⟩ := hB.map
  obtain ⟨es, cl, hme⟩ := hm.obj
  rcases hs with rfl | rfl
  · rw [hB.blk] at hh
    simp only [Option.some.injEq, Obj.cells.injEq] at hh
    exact hT hh.2.1.symm
  · rw [hme] at hh
    cases hh
/-- The document's leaves a box alone. -/
theorem BoxOff.ref {w w' : World} {base br b m : Nat} {V V' : BoxV} {N N' : Nat → Prop} (h : BoxOff w base b m V N) (hR : RefOff w base br V' N') (hk : Keep (RS w base br N') w w') : BoxOff w' base b m V N := by
  obtain ⟨-, a, c, L, h1, -⟩ := hR
  have hlt := h.at.lt
  obtain ⟨fm, hm, -⟩ := h.map
  obtain ⟨es, cl, hme⟩ := hm.obj
  refine h.keep hk (fun e => ?_) (fun e => ?_) (fun k cur hh e => ?_)
  · have h2 := h.blk
    rcases e with e | ⟨-, -, cs, e⟩
    · rw [e, h1] at h2
      simp at h2
    · rw [e] at h2
      simp at h2
  · rcases e with e | ⟨-, -, cs, e⟩
    · rw [e, h1] at hme
      cases hme
    · rw [e] at hme
      cases hme
  · rcases e with e | ⟨-, -, cs, e⟩
    · rw [e, h1] at hh
      simp at hh
    · rw [e] at hh
      simp at hh

theorem pc_cells {w : World} {base g c : Nat} {L : List PieceV} (h : w.ownsRow base 33 4 (.slice (some ⟨g, 0, none⟩) L.length c) L.length (pcellsL L)) {k : Nat} (hk : k < L.length) :
    w.cell? ⟨g, k * 4, none⟩ = some (.int .i64 L[k].pos) ∧ w.cell? ⟨g, k * 4 + 1, none⟩ = some (.int .i64 L[k].tot) ∧ w.cell? ⟨g, k * 4 + 2, none⟩ = some (.int .u32 L[k].sum) ∧ w.cell? ⟨g, k * 4 + 3, none⟩ = some (.slice L[k].addr L[k].data.length L[k].cap) := by
  have e0 := World.ownsRow.cellAt h (k * 4) (by omega)
  have e1 := World.ownsRow.cellAt h (k * 4 + 1) (by omega)
  have e2 := World.ownsRow.cellAt h (k * 4 + 2) (by omega)
  have e3 := World.ownsRow.cellAt h (k * 4 + 3) (by omega)
  have g0 := pcellsL_get L k hk 0 (by omega)
  rw [Nat.add_zero] at g0
  rw [g0] at e0
  rw [pcellsL_get L k hk 1 (by omega)] at e1
  rw [pcellsL_get L k hk 2 (by omega)] at e2
  rw [pcellsL_get L k hk 3 (by omega)] at e3
  exact ⟨e0, e1, e2, e3⟩
theorem blk4 {w : World} {b : Nat} {x y z u : Value} {T : TypeId} (h : w.heap[b]? = some (.cells #[x, y, z, u] T (0, 0))) : w.cell? ⟨b, 0, none⟩ = some x ∧ w.cell? ⟨b, 1, none⟩ = some y ∧ w.cell? ⟨b, 2, none⟩ = some z ∧ w.cell? ⟨b, 3, none⟩ = some u ∧ w.frozen? ⟨b, 3, none⟩ = false ∧ b < w.heap.size := by
  obtain ⟨h1, h2, h3⟩ := kit.blk h
  exact ⟨h1 0, h1 1, h1 2, h1 3, h2 3, h3⟩

theorem rmay_ok (p : PieceV) (w : World) (hl : p.data.length ≤ 9223372036854775807) (ht : p.tot ≤ 9223372036854775807) :
    Calls Tryd.prog 33 #[pval p] w fun e w' => e = .returned (.bool (mayP p)) ∧ Below w.heap.size w w' := by
  obtain ⟨px, pt, ps, pa, pc, pd⟩ := p
  obtain ⟨n, hn⟩ : ∃ n, n = pd.length := ⟨_, rfl⟩
  have hm : mayP ⟨px, pt, ps, pa, pc, pd⟩ = (if pt < 1 ∨ 16 < pt ∨ px < 0 ∨ pt ≤ px then false else if px < pt - 1 then n == 512 else decide (n ≤ 512) && (decide (0 < n) || pt == 1)) := by simp only [mayP, hn]
  rw [hm]
  simp only [pval, ← hn] at *
  clear hm hn
  by_cases h1 : pt < 1
  · rw [if_pos (.inl h1)]
    go_enter Tryd.func33, Tryd.ntmps33
    go_wp2_with fail
    go_ret
    exact ⟨rfl, below_new1 _ _⟩
  by_cases h2 : 16 < pt
  · rw [if_pos (.inr (.inl h2))]
    go_enter Tryd.func33, Tryd.ntmps33
    go_wp2_with fail
    go_ret
    exact ⟨rfl, below_new1 _ _⟩
  by_cases h3 : px < 0
  · rw [if_pos (.inr (.inr (.inl h3)))]
    go_enter Tryd.func33, Tryd.ntmps33
    go_wp2_with fail
    go_ret
    exact ⟨rfl, below_new1 _ _⟩
  by_cases h4 : pt ≤ px
  · rw [if_pos (.inr (.inr (.inr h4)))]
    go_enter Tryd.func33, Tryd.ntmps33
    go_wp2_with fail
    go_ret
    exact ⟨rfl, below_new1 _ _⟩
  rw [if_neg (by omega)]
  by_cases h5 : px < pt - 1
  · rw [if_pos h5]
    by_cases h6 : n = 512
    · subst h6
      go_enter Tryd.func33, Tryd.ntmps33
      go_wp2_with fail
      go_ret
      exact ⟨rfl, below_new1 _ _⟩
    · have h7 : (n == 512) = false := by simp [h6]
      rw [h7]
      have h8 : ¬ (n : Int) = 512 := by omega
      go_enter Tryd.func33, Tryd.ntmps33
      go_wp2_with fail
      go_ret
      refine ⟨?_, below_new1 _ _⟩
      simp [h8]
  · rw [if_neg h5]
    by_cases h8 : pt = 1
    · subst h8
      by_cases h6 : n ≤ 512
      all_goals
        go_enter Tryd.func33, Tryd.ntmps33
        go_wp2_with fail
        go_ret
        refine ⟨?_, below_new1 _ _⟩
        first | (simp [h6]; done) | (simp [h6]; omega)
    · have h9 : (pt == 1) = false := by simpa using h8
      by_cases h7 : 0 < n
      · have h71 : (1 : Int) ≤ (n : Int) := by omega
        by_cases h6 : n ≤ 512
        all_goals
          go_enter Tryd.func33, Tryd.ntmps33
          go_wp2_with fail
          go_ret
          refine ⟨?_, below_new1 _ _⟩
          first | (simp [h6, h7]; done) | (simp [h6, h7]; omega)
      · obtain rfl : n = 0 := by omega
        go_enter Tryd.func33, Tryd.ntmps33
        go_wp2_with fail
        go_ret
        refine ⟨?_, below_new1 _ _⟩
        simp [h8]

theorem has_ok (w : World) (base br c : Nat) (a : Option Addr) (L : List PieceV) (i : Int) (hblk : w.heap[br]? = some (.cells #[.slice a L.length c] 51 (0, 0))) (hrow : w.ownsRow base 33 4 (.slice a L.length c) L.length (pcellsL L)) (hl : L.length ≤ 9223372036854775807) :
    Calls Tryd.prog 34 #[.pointer (some ⟨br, 0, none⟩), .int .i64 i] w fun e w' => e = .returned (.int .i64 (hasI L i)) ∧ w = w' := by
  obtain ⟨b0, -, hzb⟩ := blk1 hblk
  have HROW := Lib.hid hrow
  have HI := Lib.hid (fun k hk h hb => hasI_at (L := L) (a := i) (k := k) hk h hb)
  have HIN := Lib.hid (fun h => hasI_none (L := L) (a := i) h)
  clear hblk hrow
  go_enter Tryd.func34, Tryd.ntmps34
  go_wp2_with fail
  go_loopw [5] (fun v wr => ∃ k : Nat, k ≤ L.length ∧ v = .int .i64 k ∧ wr = w ∧ Hid (∀ j (hj : j < L.length), j < k → L[j].pos ≠ i)) (fun v _ => L.length - (intOf v).toNat)
  case atStart => exact ⟨0, Nat.zero_le _, rfl, rfl, fun j _ h => by omega⟩
  case round =>
    obtain ⟨k, hk, rfl, rfl, hB⟩ := hrel
    by_cases hlt : k < L.length
    · obtain ⟨g, rfl⟩ := own.own_ptr HROW.out (by omega)
      obtain ⟨q0, -, -, -⟩ := pc_cells HROW.out hlt
      have hgz := (own_lt HROW.out).2
      have hI := HI.out k hlt
      have hN : ∀ j (hj : j < L.length), j < k + 1 → L[k].pos ≠ i → L[j].pos ≠ i := by
        intro j hj h1 h2
        by_cases e : j = k
        · subst e; exact h2
        · exact hB.out j hj (by omega)
      obtain ⟨x, hx⟩ : ∃ x, x = L[k] := ⟨_, rfl⟩
      rw [← hx] at q0 hI hN
      have HIK := Lib.hid hI
      have HN := Lib.hid hN
      clear hx hI hN
      by_cases hp : x.pos = i
      · have HE : Hid (hasI L i = k) := HIK.out hp hB.out
        have hq : (x.pos == i) = true := by simpa using hp
        clear hp
        go_wp2_with fail
        go_ret
        exact ⟨by rw [HE.out]; rfl, rfl⟩
      · have hq : (x.pos == i) = false := by simpa using hp
        have HE : Hid (∀ j (hj : j < L.length), j < k + 1 → L[j].pos ≠ i) := fun j hj h1 => HN.out j hj h1 hp
        clear hp
        go_wp2_with fail
        go_roundw
        case rel => exact ⟨k + 1, by omega, by go_num, by first | trivial | rfl, HE⟩
        case measure => simp [intOf]; omega
    · obtain rfl : k = L.length := by omega
      have HE : Hid (hasI L i = -1) := HIN.out (fun x hx => by
        obtain ⟨j, hj, rfl⟩ := List.getElem_of_mem hx
        exact hB.out j hj hj)
      go_wp2_with fail
      go_ret
      exact ⟨by rw [HE.out]; rfl, rfl⟩
theorem hasI_pos {L : List PieceV} {x : PieceV} (hx : x ∈ L) : ∃ k : Nat, hasI L x.pos = k := by
  cases hf : L.findIdx? (fun y => y.pos == x.pos) with
  | some k => exact ⟨k, by rw [hasI, hf]⟩
  | none =>
    rw [List.findIdx?_eq_none_iff] at hf
    have := hf x hx
    simp at this
end Go.Proofs.YtgpkenbefolegaaDoor.box
