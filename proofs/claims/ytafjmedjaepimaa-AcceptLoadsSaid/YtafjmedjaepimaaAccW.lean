/-
  An acceptor and the document's in one memory.
-/
import Derived.Test.YtafjmedjaepimaaAccV
namespace Go.Proofs.Ytafjmedjaepimaa.accw
open Go.ChangeShapes Go.WideShapes Go.ChangeAt Go.RowKit Go.Joins
open Go.Proofs.Ytafjmedjaepimaa.kit Go.Proofs.Ytafjmedjaepimaa.mapkit Go.Proofs.Ytafjmedjaepimaa.byt Go.Proofs.Ytafjmedjaepimaa.own Go.Proofs.Ytafjmedjaepimaa.accd Go.Proofs.Ytafjmedjaepimaa.acca Go.Proofs.Ytafjmedjaepimaa.accb Go.Proofs.Ytafjmedjaepimaa.acck Go.Proofs.Ytafjmedjaepimaa.acce Go.Proofs.Ytafjmedjaepimaa.accf Go.Proofs.Ytafjmedjaepimaa.accg Go.Proofs.Ytafjmedjaepimaa.acch Go.Proofs.Ytafjmedjaepimaa.acci Go.Proofs.Ytafjmedjaepimaa.accj Go.Proofs.Ytafjmedjaepimaa.accr Go.Proofs.Ytafjmedjaepimaa.accl Go.Proofs.Ytafjmedjaepimaa.acct Go.Proofs.Ytafjmedjaepimaa.accu Go.Proofs.Ytafjmedjaepimaa.accv
set_option linter.unusedVariables false
set_option linter.unusedSimpArgs false
set_option maxHeartbeats 4000000
set_option maxRecDepth 100000

theorem raccept_ok (w0 W : World) (lo br : Nat) (R : AS) (v : Vt) (h : RefAt w0 W lo br R) (hone : 1 ≤ R.first ∧ R.first ≤ 1099511627776) (hlen : R.vs.length ≤ 16) (hlo : lo ≤ W.heap.size) (hrd : v.l.length ≤ 2048 → Rd w0 v) (hvl : v.l.length ≤ 9223372036854775807) (hs1 : -9223372036854775808 ≤ v.s) (hs2 : v.s ≤ 9223372036854775807) :
    Calls Try.prog 41 #[.pointer (some ⟨br, 0, none⟩), .agg #[.int .i64 v.s, .int .i64 v.r, .int .i64 v.n, .slice v.a v.l.length v.c]] W fun e w' => e = .returned (.int .i64 (accE R.r R.n R.first (lv v))) ∧ RefAt w0 w' lo br (accS R (lv v)) ∧ Keep (fun k => k = br) W w' := by
  by_cases hE : accE R.r R.n R.first (lv v) = 0
  · refine (raccept_yes w0 W lo br R v h hE hone hlen hlo (hrd (acc0 hE).2.1)).mono ?_
    rintro e w' ⟨rfl, h1, h2⟩
    rw [accS, if_pos hE, hE]
    exact ⟨rfl, h1, h2⟩
  · refine (raccept_no w0 W lo br R v h hE hone hvl hs1 hs2).mono ?_
    rintro e w' ⟨rfl, hb⟩
    rw [accS, if_neg hE]
    exact ⟨rfl, h.below hb, Keep.of_below hb⟩
/-- Bytes stay while the document's acceptor turns. -/
theorem lie_ref {W W' : World} {br : Nat} {x y z u : Value} (hblk : W.heap[br]? = some (.cells #[x, y, z, u] 49 (0, 0))) (hx : (∃ n, x = .int .i64 n) ∧ (∃ n, y = .int .i64 n) ∧ (∃ n, z = .int .i64 n) ∧ ∃ a n c, u = .slice a n c) (hk : Keep (fun k => k = br) W W') {a : Option Addr} {l : List Nat} (hl : Lie W a (bcells l)) : Lie W' a (bcells l) := by
  obtain ⟨⟨n1, rfl⟩, ⟨n2, rfl⟩, ⟨n3, rfl⟩, ⟨a4, n4, c4, rfl⟩⟩ := hx
  rcases hl with hl | ⟨g, off, h1, h2, h3⟩
  · exact .inl hl
  · by_cases hz : l = []
    · exact .inl (by rw [hz]; rfl)
    · have hpos : 0 < l.length := List.length_pos_iff.2 hz
      have h0 := h3 0 (by rw [bcells_len]; exact hpos)
      rw [bcells_get hpos, Nat.add_zero] at h0
      refine .inr ⟨g, off, h1, Nat.lt_of_lt_of_le h2 hk.size, fun i hi => (hk.cell (p := ⟨g, off + i, none⟩) h2 (fun hx => ?_)).trans (h3 i hi)⟩
      have hx : g = br := hx
      subst hx
      rw [(kit.blk hblk).1 off] at h0
      rcases off with _ | _ | _ | _ | off <;> simp at h0
theorem RowV.ref {w0 W W' : World} {lo br : Nat} {R : AS} {v : Value} {xs : List Vt} (h : RowV W v xs) (hR : RefAt w0 W lo br R) (hk : Keep (fun k => k = br) W W') : RowV W' v xs := by
  obtain ⟨-, a, c, zs, hblk, -⟩ := hR
  obtain ⟨⟨bs, a', c', e, hr⟩, hrd⟩ := h
  refine ⟨⟨bs, a', c', e, own_kept hr (fun g hg => hk.block g (own_from hr g hg).2 (fun hx => own_ne hr hblk (by decide) g hg hx))⟩, fun x hx => ?_⟩
  have hx := hrd x hx
  exact ⟨lie_ref hblk ⟨⟨_, rfl⟩, ⟨_, rfl⟩, ⟨_, rfl⟩, ⟨_, _, _, rfl⟩⟩ hk hx.lie, hx.nil, hx.len⟩
theorem AccOff.ref {w0 W W' : World} {lo br base b mb : Nat} {R A : AS} {N : Nat → Prop} (h : AccOff W base b mb A N) (hR : RefAt w0 W lo br R) (hk : Keep (fun k => k = br) W W') : AccOff W' base b mb A N := by
  obtain ⟨-, a, c, zs, hblk, -⟩ := hR
  obtain ⟨vs, h1, h2, h3⟩ := h
  obtain ⟨es, cl, hm⟩ := h1.map.obj
  have hb : b ≠ br := by
    intro e
    have h := h1.blk
    rw [e, hblk] at h
    simp at h
  have hmb : mb ≠ br := by
    intro e
    rw [e, hblk] at hm
    simp at hm
  have hmk := hk.block mb (Array.getElem?_eq_some_iff.1 hm).1 hmb
  refine ⟨vs, ⟨(hk.block b (kit.blk h1.blk).2.2 hb).trans h1.blk, ?_, h1.lo, h1.ord, h1.one, h1.rng, h1.fit, fun x hx => own_kept (h1.bodies x hx) (fun g hg => hk.block g (own_from (h1.bodies x hx) g hg).2 (fun e => own_ne (h1.bodies x hx) hblk (by decide) g hg e))⟩, h2, h3⟩
  obtain ⟨D, ⟨es2, cl2, hD, hF⟩, hn⟩ := h1.map
  exact ⟨D, ⟨es2, cl2, hmk.trans hD, hF⟩, hn⟩
theorem AccIs.ref {w0 W W' : World} {lo br base b mb : Nat} {R A : AS} (h : AccIs W base b mb A) (hR : RefAt w0 W lo br R) (hk : Keep (fun k => k = br) W W') : AccIs W' base b mb A := by
  obtain ⟨vs, h1, h2⟩ := h
  exact AccOff.is (AccOff.ref (N := fun _ => False) ⟨vs, h1, h2, fun _ _ _ _ hf => hf⟩ hR hk)
theorem RefAt.acc {w0 W W' : World} {lo br base b mb : Nat} {R A : AS} (h : RefAt w0 W lo br R) (hA : AccIs W base b mb A) (hk : Keep (fun k => k = b ∨ k = mb) W W') : RefAt w0 W' lo br R := by
  obtain ⟨h0, a, c, xs, h1, h2, h3, h4⟩ := h
  obtain ⟨vs, hA1, -⟩ := hA
  refine ⟨h0, a, c, xs, (hk.block br (kit.blk h1).2.2 (fun hx => ?_)).trans h1, hA1.row hk h2 (by decide), h3, h4⟩
  rcases hx with hx | hx
  · have e := hA1.blk
    rw [← hx, h1] at e
    simp at e
  · obtain ⟨es, cl, hm⟩ := hA1.map.obj
    rw [← hx, h1] at hm
    simp at hm
/-- A byte that the law writes. -/
theorem RefAt.put {w0 W : World} {lo br g : Nat} {R : AS} {cs : Array Value} (h : RefAt w0 W lo br R) (hg : W.heap[g]? = some (.cells cs 5 (0, 0))) (k : Nat) (v : Value) : RefAt w0 (W.setCell ⟨g, k, none⟩ v) lo br R := by
  obtain ⟨h0, a, c, xs, h1, h2, h3, h4⟩ := h
  have hb : br ≠ g := by
    intro e
    rw [e, hg] at h1
    simp at h1
  exact ⟨h0, a, c, xs, (hp_set_ne hb).trans h1, own_kept h2 (fun j hj => hp_set_ne (own_ne h2 hg (by decide) j hj)), h3, h4⟩
/-- Both, alike. -/
structure TwoS (w W : World) (b mb br : Nat) (A : AS) : Prop where
  acc : AccIs W w.heap.size b mb A
  ref : RefAt w W w.heap.size br A
  below : Below w.heap.size w W
  lob : w.heap.size ≤ b ∧ w.heap.size ≤ mb
theorem TwoS.old {w W W' : World} {b mb br : Nat} {A : AS} (h : TwoS w W b mb br A) (hb : Below W.heap.size W W') : TwoS w W' b mb br A := ⟨AccIs.below h.acc hb, h.ref.below hb, below_step h.below hb, h.lob⟩
theorem keep_br_below {w w' : World} {br n : Nat} (hk : Keep (fun k => k = br) w w') (hn : n ≤ w.heap.size) (hb : n ≤ br) : Below n w w' := hk.below hn (fun k h e => by omega)
end Go.Proofs.Ytafjmedjaepimaa.accw
